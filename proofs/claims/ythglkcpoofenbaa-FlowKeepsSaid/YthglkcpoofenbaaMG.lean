import Derived.Test.YthglkcpoofenbaaMK
/-! Graphs in the heap; Check. -/
namespace Go.Proofs.Ythglkcpoofenbaa
open Go
set_option linter.unusedVariables false

/-- An edge: from, to, capacity, cost. -/
structure Ed where
  f : Int
  t : Int
  c : Int
  k : Int
abbrev Ed.vs (e : Ed) : List Value := [.int .i64 e.f, .int .i64 e.t, .int .i64 e.c, .int .i64 e.k]
theorem ed_one (e : Ed) : ∀ v ∈ e.vs, v.oneCell' = true := by
  intro v hv
  simp only [List.mem_cons, List.mem_nil_iff, or_false] at hv
  rcases hv with rfl | rfl | rfl | rfl <;> rfl

/-- w is a graph of n nodes and the first m edges of es. -/
def GrA (h : H) (w : List Value) (n : Int) (m : Nat) (es : Nat → Ed) : Prop :=
  ∃ a c, w = [.int .i64 n, .slice a m c] ∧ ∀ i, i < m → ∃ ad, a = some ad ∧ hcells h (ad.add (i * 4)) (es i).vs
theorem GrA.ext {h h' : H} {w : List Value} {n : Int} {m : Nat} {es : Nat → Ed} (g : GrA h w n m es) (x : Ext h h') : GrA h' w n m es := by
  obtain ⟨a, c, e, k⟩ := g
  refine ⟨a, c, e, fun i hi => ?_⟩
  obtain ⟨ad, e2, hc⟩ := k i hi
  exact ⟨ad, e2, fun j v hj => x.cell (hc j v hj)⟩
theorem GrA.one {h : H} {w : List Value} {n : Int} {m : Nat} {es : Nat → Ed} (g : GrA h w n m es) : w.length = 2 ∧ ∀ v ∈ w, v.oneCell' = true := by
  obtain ⟨a, c, rfl, _⟩ := g
  refine ⟨rfl, fun v hv => ?_⟩
  simp only [List.mem_cons, List.mem_nil_iff, or_false] at hv
  rcases hv with rfl | rfl <;> rfl

/-- The error of an edge among n nodes. -/
def badE (n : Int) (e : Ed) : Int :=
  if e.f < 0 ∨ e.t < 0 ∨ n ≤ e.f ∨ n ≤ e.t then 30 else if e.c < 0 ∨ 1048576 < e.c ∨ e.k < -1048576 ∨ 1048576 < e.k then 31 else 0
/-- The first error of the edges from i on: the number, the place. -/
def badFrom (n : Int) (es : Nat → Ed) (i : Nat) : Nat → Int × Int
  | 0 => (0, 0)
  | k + 1 => if badE n (es i) ≠ 0 then (badE n (es i), i) else badFrom n es (i + 1) k
/-- The fault of a graph. -/
def faultG (n : Int) (m : Nat) (es : Nat → Ed) : Int × Int := if n < 0 ∨ 1024 < n ∨ 4096 < m then (3, 0) else badFrom n es 0 m

end Go.Proofs.Ythglkcpoofenbaa

/-! Check, both ways; Wrong. -/
namespace Go.Proofs.Ythglkcpoofenbaa
open Go
set_option linter.unusedVariables false

theorem Bl.ed {h : H} {b : Nat} {e : Ed} (B : Bl h b e.vs) : hcell h ((bk b).add 0) = some (.int .i64 e.f) ∧ hcell h ((bk b).add 1) = some (.int .i64 e.t) ∧
    hcell h ((bk b).add 2) = some (.int .i64 e.c) ∧ hcell h ((bk b).add 3) = some (.int .i64 e.k) := ⟨B.ld rfl, B.ld rfl, B.ld rfl, B.ld rfl⟩

theorem Bad_R (h : H) (n : Int) (e : Ed) : T Try.prog F.compassref03_Bad [.int .i64 n, .agg ⟨e.vs⟩] h fun r h' => r = .ret (.int .i64 (badE n e)) ∧ Ext h h' := by
  refine E_compassref03_Bad ?_
  unfold B_compassref03_Bad
  refine new_bl ?_
  intro b1 g hb x B
  have c30 : (e.f < 0 ∨ e.t < 0 ∨ n ≤ e.f ∨ n ≤ e.t) → badE n e = 30 := fun h => if_pos h
  refine ⟨fun _ g2 => g = g2 ∧ ¬ (e.f < 0 ∨ e.t < 0 ∨ n ≤ e.f ∨ n ≤ e.t), ?_, ?_⟩
  · refine ⟨_, B.ed.1, ifP_of (fun h1 => ⟨by rw [c30 (.inl (of_decide_eq_true h1))], x⟩) (fun h1 => ?_)⟩
    refine ⟨_, B.ed.2.1, ifP_of (fun h2 => ⟨by rw [c30 (.inr (.inl (of_decide_eq_true h2)))], x⟩) (fun h2 => ?_)⟩
    refine ⟨_, B.ed.1, ifP_of (fun h3 => ⟨by rw [c30 (.inr (.inr (.inl (of_decide_eq_true h3))))], x⟩) (fun h3 => ?_)⟩
    refine ⟨_, B.ed.2.1, ifP_of (fun h4 => ⟨by rw [c30 (.inr (.inr (.inr (of_decide_eq_true h4))))], x⟩) (fun h4 => ⟨rfl, ?_⟩)⟩
    have := of_decide_eq_false h1
    have := of_decide_eq_false h2
    have := of_decide_eq_false h3
    have := of_decide_eq_false h4
    omega
  · rintro _ ⟨rfl, hn⟩
    have c31 : (e.c < 0 ∨ 1048576 < e.c ∨ e.k < -1048576 ∨ 1048576 < e.k) → badE n e = 31 := fun h => by unfold badE; rw [if_neg hn, if_pos h]
    refine ⟨_, B.ed.2.2.1, ifP_of (fun h1 => ⟨by rw [c31 (.inl (of_decide_eq_true h1))], x⟩) (fun h1 => ?_)⟩
    refine ⟨_, B.ed.2.2.1, ifP_of (fun h2 => ⟨by rw [c31 (.inr (.inl (of_decide_eq_true h2)))], x⟩) (fun h2 => ?_)⟩
    refine ⟨_, B.ed.2.2.2, ifP_of (fun h3 => ⟨by rw [c31 (.inr (.inr (.inl (of_decide_eq_true h3))))], x⟩) (fun h3 => ?_)⟩
    refine ⟨_, B.ed.2.2.2, ifP_of (fun h4 => ⟨by rw [c31 (.inr (.inr (.inr (of_decide_eq_true h4))))], x⟩) (fun h4 => ⟨?_, x⟩)⟩
    have := of_decide_eq_false h1
    have := of_decide_eq_false h2
    have := of_decide_eq_false h3
    have := of_decide_eq_false h4
    unfold badE
    rw [if_neg hn, if_neg (by omega)]

theorem glabel_T (h : H) (e : Ed) : T Try.prog F.graph_label [.agg ⟨e.vs⟩] h fun r h' =>
    r = .ret (.bool (decide ¬ (e.c < 0 ∨ 1048576 < e.c ∨ e.k < -1048576 ∨ 1048576 < e.k))) ∧ Ext h h' := by
  refine E_graph_label ?_
  unfold B_graph_label
  refine new_bl ?_
  intro b1 g hb x B
  refine ⟨_, B.ed.2.2.1, ifP_of (fun h1 => ?_) (fun h1 => ⟨?_, x⟩)⟩
  · have h1 := of_decide_eq_true h1
    refine ⟨_, B.ed.2.2.1, ifP_of (fun h2 => ?_) (fun h2 => ⟨?_, x⟩)⟩
    · have h2 := of_decide_eq_true h2
      refine ⟨_, B.ed.2.2.2, ifP_of (fun h3 => ?_) (fun h3 => ⟨?_, x⟩)⟩
      · have h3 := of_decide_eq_true h3
        refine ⟨_, B.ed.2.2.2, ?_, x⟩
        congr 2
        exact decide_eq_decide.2 (by omega)
      · have h3 := of_decide_eq_false h3
        rw [decide_eq_false (by omega)]
    · have h2 := of_decide_eq_false h2
      rw [decide_eq_false (by omega)]
  · have h1 := of_decide_eq_false h1
    rw [decide_eq_false (by omega)]

theorem badFrom_good {n : Int} {es : Nat → Ed} {i k : Nat} (h : badE n (es i) = 0) : badFrom n es i (k + 1) = badFrom n es (i + 1) k := by
  show (if badE n (es i) ≠ 0 then _ else _) = _
  rw [if_neg (fun k => k h)]
theorem badFrom_bad {n : Int} {es : Nat → Ed} {i k : Nat} (h : badE n (es i) ≠ 0) : badFrom n es i (k + 1) = (badE n (es i), (i : Int)) := by
  show (if badE n (es i) ≠ 0 then _ else _) = _
  rw [if_pos h]

section
variable {h : H} {w : List Value} {n : Int} {m : Nat} {es : Nat → Ed}

theorem Check_R (G : GrA h w n m es) : T Try.prog F.compassref03_Check [.agg ⟨w⟩] h fun r h' =>
    r = .ret (.tuple ⟨[.int .i64 (faultG n m es).1, .int .i64 (faultG n m es).2]⟩) ∧ Ext h h' := by
  refine E_compassref03_Check ?_
  unfold B_compassref03_Check
  refine new_bl ?_
  intro b1 g hb x B
  have G' := G
  obtain ⟨a, c, rfl, hc⟩ := G
  have c3 : (n < 0 ∨ 1024 < n ∨ 4096 < m) → faultG n m es = (3, 0) := fun h => if_pos h
  refine ⟨fun _ g2 => g = g2 ∧ ¬ (n < 0 ∨ 1024 < n ∨ 4096 < m), ?_, ?_⟩
  · refine ⟨_, B.ld rfl, ifP_of (fun h1 => ⟨by rw [c3 (.inl (of_decide_eq_true h1))], x⟩) (fun h1 => ?_)⟩
    refine ⟨_, B.ld rfl, ifP_of (fun h2 => ⟨by rw [c3 (.inr (.inl (of_decide_eq_true h2)))], x⟩) (fun h2 => ?_)⟩
    refine ⟨_, B.ld rfl, slcP_mk (ifP_of (fun h3 => ⟨by rw [c3 (.inr (.inr (by have := of_decide_eq_true h3; omega)))], x⟩) (fun h3 => ⟨rfl, ?_⟩))⟩
    have := of_decide_eq_false h1
    have := of_decide_eq_false h2
    have := of_decide_eq_false h3
    omega
  · rintro _ ⟨rfl, hn⟩
    have cf : faultG n m es = badFrom n es 0 m := if_neg hn
    let I11 : (Int × Unit) → H → Nat → Prop := fun s g2 k => ∃ i : Nat, s.1 = i ∧ i ≤ m ∧ k = m - i ∧ Ext g g2 ∧ badFrom n es i (m - i) = badFrom n es 0 m
    refine ⟨fun s g2 => ∃ k, I11 s g2 k, rk I11, rk_wf I11, ⟨_, 0, rfl, by omega, rfl, Ext.refl g, rfl⟩, ?_⟩
    intro s g2 hI
    obtain ⟨i, e1, hi, hk, xg, hf⟩ := mu_spec hI
    generalize hkk : mu I11 ((s, ()), g2) = k at *
    change s = (i : Int) at e1
    subst e1
    have Bg := B.ext xg
    refine ⟨_, Bg.ld rfl, slcP_mk (ifP_of (fun h1 => ?_) (fun h1 => ?_))⟩
    · have him : i < m := by have := of_decide_eq_true h1; omega
      obtain ⟨ad, rfl, hcc⟩ := hc i him
      refine ⟨_, Bg.ld rfl, _, Bg.ld rfl, by omega, by omega, ?_⟩
      rw [Int.toNat_natCast]
      refine ⟨(es i).vs, rfl, fun j v hj => (x.trans' xg).cell (hcc j v hj), ?_⟩
      refine (Bad_R g2 n (es i)).mono ?_
      rintro _ g3 ⟨rfl, x3⟩
      obtain ⟨j, hj⟩ : ∃ j, m - i = j + 1 := ⟨m - i - 1, by omega⟩
      refine ⟨_, rfl, ifP_of (fun h2 => ?_) (fun h2 => ?_)⟩
      · have h2 : badE n (es i) ≠ 0 := by simpa using h2
        refine ⟨?_, (x.trans' xg).trans' x3⟩
        rw [cf, ← hf, hj, badFrom_bad h2]
      · have h2 : badE n (es i) = 0 := by simpa using h2
        rw [i64_inc (by omega)]
        refine mu_next (I := I11) (k := m - (i + 1)) ⟨i + 1, rfl, him, rfl, xg.trans' x3, ?_⟩ (by rw [hkk, hk]; omega)
        rw [← hf, hj, badFrom_good h2]
        congr 1; omega
    · have : i = m := by have := of_decide_eq_false h1; omega
      subst this
      refine ⟨?_, x.trans' xg⟩
      rw [cf, ← hf, Nat.sub_self]
      rfl
end

end Go.Proofs.Ythglkcpoofenbaa

/-! The program's Check; the document's Wrong and Ends. -/
namespace Go.Proofs.Ythglkcpoofenbaa
open Go
set_option linter.unusedVariables false

section
variable {h : H} {w : List Value} {n : Int} {m : Nat} {es : Nat → Ed}

theorem Check_T (G : GrA h w n m es) : T Try.prog F.graph_Check [.agg ⟨w⟩] h fun r h' =>
    r = .ret (.agg ⟨[.int .i64 (faultG n m es).1, .int .i64 (faultG n m es).2]⟩) ∧ Ext h h' := by
  refine E_graph_Check ?_
  unfold B_graph_Check
  refine new_bl ?_
  intro b1 g hb x B
  refine new_bl ?_
  intro b3 g3 hb3 x3 B3
  have G' := G
  obtain ⟨a, c, rfl, hc⟩ := G
  have xh := x.trans' x3
  have B1 := B.ext x3
  have hb3h := x.new hb3
  have c3 : (n < 0 ∨ 1024 < n ∨ 4096 < m) → faultG n m es = (3, 0) := fun h => if_pos h
  have out : ∀ {q : H} {p : Int × Int}, Ext g3 q → (∃ z, z.length = 2 ∧ Bl q b3 z) → faultG n m es = p → stN q (bk b3) [.int .i64 p.1, .int .i64 p.2] 2 fun h8 => ldN h8 (bk b3) 2 fun x9 =>
      Res.ret (.agg ⟨x9⟩) = .ret (.agg ⟨[.int .i64 (faultG n m es).1, .int .i64 (faultG n m es).2]⟩) ∧ Ext h h8 := by
    rintro q p xq ⟨z, hz, Bz⟩ rfl
    refine Bz.stN rfl hz (by simp [Value.oneCell']) ?_
    intro q2 kp B2
    refine B2.ldN rfl ⟨rfl, (xh.trans' xq).of_kp kp hb3h⟩
  refine ⟨fun _ g2 => g3 = g2 ∧ ¬ (n < 0 ∨ 1024 < n ∨ 4096 < m), ?_, ?_⟩
  · refine ⟨_, B1.ld rfl, ifP_of (fun h1 => out (p := (3, 0)) (Ext.refl _) ⟨_, rfl, B3⟩ (c3 (.inl (of_decide_eq_true h1)))) (fun h1 => ?_)⟩
    refine ⟨_, B1.ld rfl, ifP_of (fun h2 => out (p := (3, 0)) (Ext.refl _) ⟨_, rfl, B3⟩ (c3 (.inr (.inl (of_decide_eq_true h2))))) (fun h2 => ?_)⟩
    refine ⟨_, B1.ld rfl, slcP_mk (ifP_of (fun h3 => out (p := (3, 0)) (Ext.refl _) ⟨_, rfl, B3⟩ (c3 (.inr (.inr (by have := of_decide_eq_true h3; omega))))) (fun h3 => ⟨rfl, ?_⟩))⟩
    have := of_decide_eq_false h1
    have := of_decide_eq_false h2
    have := of_decide_eq_false h3
    omega
  · rintro _ ⟨rfl, hn⟩
    have cf : faultG n m es = badFrom n es 0 m := if_neg hn
    refine ⟨_, B1.ld rfl, slcP_mk ?_⟩
    let I11 : (Int × Unit) → H → Nat → Prop := fun s g2 k => ∃ i : Nat, s.1 = i ∧ i ≤ m ∧ k = m - i ∧ Ext g3 g2 ∧ badFrom n es i (m - i) = badFrom n es 0 m
    refine ⟨fun s g2 => ∃ k, I11 s g2 k, rk I11, rk_wf I11, ⟨_, 0, rfl, by omega, rfl, Ext.refl g3, rfl⟩, ?_⟩
    intro s g2 hI
    obtain ⟨i, e1, hi, hk, xg, hf⟩ := mu_spec hI
    generalize hkk : mu I11 ((s, ()), g2) = k at *
    change s = (i : Int) at e1
    subst e1
    have Bg := B1.ext xg
    refine ifP_of (fun h1 => ?_) (fun h1 => ?_)
    · have him : i < m := by have := of_decide_eq_true h1; omega
      obtain ⟨ad, rfl, hcc⟩ := hc i him
      refine ⟨by omega, by omega, ?_⟩
      rw [Int.toNat_natCast]
      refine ⟨(es i).vs, rfl, fun j v hj => (xh.trans' xg).cell (hcc j v hj), ?_⟩
      refine new_bl_st rfl rfl (ed_one _) ?_
      intro b29 g31 hb29 x31 B29
      have x31' := xg.trans' x31
      have B1' := Bg.ext x31
      have Bz : ∃ z : List Value, z.length = 2 ∧ Bl g31 b3 z := ⟨_, rfl, B3.ext x31'⟩
      obtain ⟨j, hj⟩ : ∃ j, m - i = j + 1 := ⟨m - i - 1, by omega⟩
      have bad30 : ((es i).f < 0 ∨ (es i).t < 0 ∨ n ≤ (es i).f ∨ n ≤ (es i).t) → faultG n m es = (30, (i : Int)) := by
        intro hh
        have e30 : badE n (es i) = 30 := if_pos hh
        rw [cf, ← hf, hj, badFrom_bad (by omega), e30]
      refine ⟨_, B29.ed.1, ifP_of (fun h2 => out (p := (30, (i : Int))) x31' Bz (bad30 (.inl (of_decide_eq_true h2)))) (fun h2 => ?_)⟩
      refine ⟨_, B29.ed.1, _, B1'.ld rfl, ifP_of (fun h3 => out (p := (30, (i : Int))) x31' Bz (bad30 (.inr (.inr (.inl (of_decide_eq_true h3)))))) (fun h3 => ?_)⟩
      refine ⟨_, B29.ed.2.1, ifP_of (fun h4 => out (p := (30, (i : Int))) x31' Bz (bad30 (.inr (.inl (of_decide_eq_true h4))))) (fun h4 => ?_)⟩
      refine ⟨_, B29.ed.2.1, _, B1'.ld rfl, ifP_of (fun h5 => out (p := (30, (i : Int))) x31' Bz (bad30 (.inr (.inr (.inr (of_decide_eq_true h5)))))) (fun h5 => ?_)⟩
      have n30 : ¬ ((es i).f < 0 ∨ (es i).t < 0 ∨ n ≤ (es i).f ∨ n ≤ (es i).t) := by
        have := of_decide_eq_false h2
        have := of_decide_eq_false h3
        have := of_decide_eq_false h4
        have := of_decide_eq_false h5
        omega
      refine B29.ldN rfl ?_
      refine (glabel_T g31 (es i)).mono ?_
      rintro _ g48 ⟨rfl, x48⟩
      refine ⟨_, rfl, ifP_of (fun h6 => ?_) (fun h6 => ?_)⟩
      · refine out (p := (31, (i : Int))) (x31'.trans' x48) ⟨_, rfl, B3.ext (x31'.trans' x48)⟩ ?_
        have e31 : badE n (es i) = 31 := by
          unfold badE
          rw [if_neg n30, if_pos (by simpa using h6)]
        rw [cf, ← hf, hj, badFrom_bad (by omega), e31]
      · have e0 : badE n (es i) = 0 := by
          unfold badE
          rw [if_neg n30, if_neg (by simpa using h6)]
        rw [i64_inc (by omega)]
        refine mu_next (I := I11) (k := m - (i + 1)) ⟨i + 1, rfl, him, rfl, x31'.trans' x48, ?_⟩ (by rw [hkk, hk]; omega)
        rw [← hf, hj, badFrom_good e0]
        congr 1; omega
    · have : i = m := by have := of_decide_eq_false h1; omega
      subst this
      refine out (p := (0, 0)) xg ⟨_, rfl, B3.ext xg⟩ ?_
      rw [cf, ← hf, Nat.sub_self]
      rfl
end

end Go.Proofs.Ythglkcpoofenbaa

/-! The document's Wrong and Ends. -/
namespace Go.Proofs.Ythglkcpoofenbaa
open Go
set_option linter.unusedVariables false

/-- The error's number of a graph and a node. -/
def wrongC (n : Int) (m : Nat) (es : Nat → Ed) (s : Int) : Int := if (faultG n m es).1 = 0 then (if 0 ≤ s ∧ s < n then 0 else 30) else (faultG n m es).1
def endsC (n : Int) (m : Nat) (es : Nat → Ed) (s t : Int) : Int :=
  if wrongC n m es s = 0 then (if wrongC n m es t = 0 then (if s = t then 120 else 0) else wrongC n m es t) else wrongC n m es s
def wrong13 (n : Int) (m : Nat) (es : Nat → Ed) (s t k : Int) : Int := if endsC n m es s t = 0 then (if 1 ≤ k ∧ k ≤ 3 then 0 else 50) else endsC n m es s t

section
variable {h : H} {w : List Value} {n : Int} {m : Nat} {es : Nat → Ed}

theorem Wrong_R (G : GrA h w n m es) (s : Int) : T Try.prog F.compassref04_Wrong [.agg ⟨w⟩, .int .i64 s] h fun r h' => r = .ret (.int .i64 (wrongC n m es s)) ∧ Ext h h' := by
  refine E_compassref04_Wrong ?_
  unfold B_compassref04_Wrong
  refine new_bl ?_
  intro b1 g hb x B
  refine B.ldN G.one.1 ?_
  refine (Check_R (G.ext x)).mono ?_
  rintro _ g2 ⟨rfl, x2⟩
  have xh := x.trans' x2
  obtain ⟨a, c, rfl, hc⟩ := G
  refine ⟨_, _, rfl, ifP_of (fun h0 => ?_) (fun h0 => ?_)⟩
  · have h0 := of_decide_eq_true h0
    have e : wrongC n m es s = if 0 ≤ s ∧ s < n then 0 else 30 := if_pos h0
    rw [e]
    refine ifP_of (fun h1 => ?_) (fun h1 => ?_)
    · have h1 := of_decide_eq_true h1
      rw [if_neg (by omega)]; exact ⟨rfl, xh⟩
    · have h1 := of_decide_eq_false h1
      refine ⟨_, (B.ext x2).ld rfl, ifP_of (fun h2 => ?_) (fun h2 => ?_)⟩
      · have h2 := of_decide_eq_true h2
        rw [if_neg (by omega)]; exact ⟨rfl, xh⟩
      · have h2 := of_decide_eq_false h2
        rw [if_pos (by omega), h0]; exact ⟨rfl, xh⟩
  · have h0 := of_decide_eq_false h0
    have e : wrongC n m es s = (faultG n m es).1 := if_neg h0
    rw [e]; exact ⟨rfl, xh⟩

theorem Ends_R (G : GrA h w n m es) (s t : Int) : T Try.prog F.compassref11_Ends [.agg ⟨w⟩, .int .i64 s, .int .i64 t] h fun r h' => r = .ret (.int .i64 (endsC n m es s t)) ∧ Ext h h' := by
  refine E_compassref11_Ends ?_
  unfold B_compassref11_Ends
  refine new_bl ?_
  intro b1 g hb x B
  refine B.ldN G.one.1 ?_
  refine (Wrong_R (G.ext x) s).mono ?_
  rintro _ g2 ⟨rfl, x2⟩
  have xh := x.trans' x2
  refine ⟨_, rfl, ?_⟩
  refine ⟨fun p g3 => Ext h g3 ∧ p.1 = if wrongC n m es s = 0 then wrongC n m es t else wrongC n m es s, ?_, ?_⟩
  · refine ifP_of (fun h0 => ?_) (fun h0 => ?_)
    · have h0 := of_decide_eq_true h0
      refine (B.ext x2).ldN G.one.1 ?_
      refine (Wrong_R (G.ext xh) t).mono ?_
      rintro _ g3 ⟨rfl, x3⟩
      exact ⟨_, rfl, xh.trans' x3, by rw [if_pos h0]⟩
    · have h0 := of_decide_eq_false h0
      exact ⟨xh, by rw [if_neg h0]⟩
  · rintro c g3 ⟨x3, hc⟩
    change c = _ at hc
    refine ifP_of (fun h0 => ?_) (fun h0 => ?_)
    · have h0 := of_decide_eq_true h0
      have w1 : wrongC n m es s = 0 := by
        apply Classical.byContradiction
        intro h; rw [if_neg h] at hc; omega
      rw [if_pos w1] at hc
      have e : endsC n m es s t = if s = t then 120 else 0 := by unfold endsC; rw [if_pos w1, if_pos (by omega)]
      rw [e]
      refine ifP_of (fun h1 => ?_) (fun h1 => ?_)
      · rw [if_pos (of_decide_eq_true h1)]; exact ⟨rfl, x3⟩
      · rw [if_neg (of_decide_eq_false h1), h0]; exact ⟨rfl, x3⟩
    · have h0 := of_decide_eq_false h0
      refine ⟨?_, x3⟩
      unfold endsC
      by_cases w1 : wrongC n m es s = 0
      · rw [if_pos w1] at hc ⊢
        rw [if_neg (by omega), hc]
      · rw [if_neg w1] at hc ⊢
        rw [hc]

theorem Wrong13_R (G : GrA h w n m es) (s t k : Int) : T Try.prog F.compassref13_Wrong [.agg ⟨w⟩, .int .i64 s, .int .i64 t, .int .i64 k] h fun r h' => r = .ret (.int .i64 (wrong13 n m es s t k)) ∧ Ext h h' := by
  refine E_compassref13_Wrong ?_
  unfold B_compassref13_Wrong
  refine new_bl ?_
  intro b1 g hb x B
  refine B.ldN G.one.1 ?_
  refine (Ends_R (G.ext x) s t).mono ?_
  rintro _ g2 ⟨rfl, x2⟩
  have xh := x.trans' x2
  refine ⟨_, rfl, ifP_of (fun h0 => ?_) (fun h0 => ?_)⟩
  · have h0 := of_decide_eq_true h0
    have e : wrong13 n m es s t k = if 1 ≤ k ∧ k ≤ 3 then 0 else 50 := if_pos h0
    rw [e]
    refine ifP_of (fun h1 => ?_) (fun h1 => ?_)
    · have h1 := of_decide_eq_true h1
      rw [if_neg (by omega)]; exact ⟨rfl, xh⟩
    · have h1 := of_decide_eq_false h1
      refine ifP_of (fun h2 => ?_) (fun h2 => ?_)
      · have h2 := of_decide_eq_true h2
        rw [if_neg (by omega)]; exact ⟨rfl, xh⟩
      · have h2 := of_decide_eq_false h2
        rw [if_pos (by omega), h0]; exact ⟨rfl, xh⟩
  · have h0 := of_decide_eq_false h0
    have e : wrong13 n m es s t k = endsC n m es s t := if_neg h0
    rw [e]; exact ⟨rfl, xh⟩
end

end Go.Proofs.Ythglkcpoofenbaa

/-! Owners of blocks: what may change, what stays. -/
namespace Go.Proofs.Ythglkcpoofenbaa
open Go
set_option linter.unusedVariables false
set_option linter.unusedSimpArgs false

abbrev Own := Nat → Nat
theorem oneP_mk {a : Option Addr} {l c : Nat} {K : Prop} (k : K) : oneP (.slice a l c) K := k
theorem oneP_ptr {a : Option Addr} {K : Prop} (k : K) : oneP (.pointer a) K := k
theorem ptrP_mk {a : Addr} {K : Addr → Prop} (k : K a) : ptrP (.pointer (some a)) K := k
/-- A new block gets an owner. -/
def own1 (own : Own) (b i : Nat) : Own := fun c => if c = b then i else own c
theorem own1_at {own : Own} {b i : Nat} : own1 own b i b = i := if_pos rfl
theorem own1_ne {own : Own} {b i c : Nat} (h : c ≠ b) : own1 own b i c = own c := if_neg h
/-- From h to h': only blocks whose owner is in M may have changed. -/
structure Fm (M : List Nat) (own : Own) (h : H) (own' : Own) (h' : H) : Prop where
  keep : ∀ b o, h b = some o → own b ∉ M → h' b = some o
  stay : ∀ b o, h b = some o → (∃ o', h' b = some o') ∧ own' b = own b
theorem Fm.refl {M : List Nat} {own : Own} {h : H} : Fm M own h own h := ⟨fun _ _ e _ => e, fun b o e => ⟨⟨o, e⟩, rfl⟩⟩
theorem Fm.trans {M : List Nat} {o1 o2 o3 : Own} {h1 h2 h3 : H} (a : Fm M o1 h1 o2 h2) (b : Fm M o2 h2 o3 h3) : Fm M o1 h1 o3 h3 := by
  refine ⟨fun c o e n => b.keep c o (a.keep c o e n) ?_, fun c o e => ?_⟩
  · rw [(a.stay c o e).2]; exact n
  · obtain ⟨⟨o', e'⟩, t⟩ := a.stay c o e
    obtain ⟨x, t'⟩ := b.stay c o' e'
    exact ⟨x, t'.trans t⟩
theorem Fm.mono {M M' : List Nat} {o1 o2 : Own} {h1 h2 : H} (a : Fm M o1 h1 o2 h2) (s : M ⊆ M') : Fm M' o1 h1 o2 h2 :=
  ⟨fun c o e n => a.keep c o e fun k => n (s k), a.stay⟩
theorem Fm.of_ext {M : List Nat} {own : Own} {h h' : H} (x : Ext h h') : Fm M own h own h' := ⟨fun b o e _ => x b o e, fun b o e => ⟨⟨o, x b o e⟩, rfl⟩⟩
theorem Fm.new {M : List Nat} {own : Own} {h h' : H} {b i : Nat} (x : Ext h h') (hb : h b = none) : Fm M own h (own1 own b i) h' :=
  ⟨fun b o e _ => x b o e, fun c o e => ⟨⟨o, x c o e⟩, own1_ne (by rintro rfl; rw [hb] at e; cases e)⟩⟩
theorem Fm.kp {own : Own} {h h' : H} {b i : Nat} (k : Kp b h h') (hb : own b = i) (ho : ∃ o, h' b = some o) : Fm [i] own h own h' := by
  refine ⟨fun c o e n => k c o ?_ e, fun c o e => ⟨?_, rfl⟩⟩
  · rintro rfl; rw [hb] at n; simp at n
  · by_cases hc : c = b
    · subst hc; exact ho
    · exact ⟨o, k c o hc e⟩
/-- What was there at first is there, with owner 0. -/
structure Bs (h0 : H) (own : Own) (h : H) : Prop where
  ext : Ext h0 h
  old : ∀ b o, h0 b = some o → own b = 0
theorem Bs.fm {h0 h h' : H} {own own' : Own} {M : List Nat} (B : Bs h0 own h) (F : Fm M own h own' h') (hM : 0 ∉ M) : Bs h0 own' h' := by
  refine ⟨fun b o e => F.keep b o (B.ext b o e) ?_, fun b o e => ?_⟩
  · rw [B.old b o e]; exact hM
  · rw [(F.stay b o (B.ext b o e)).2]; exact B.old b o e
theorem Bs.start {h : H} : Bs h (fun _ => 0) h := ⟨Ext.refl h, fun _ _ _ => rfl⟩

/-- The block b is the i-th owner's and holds vs. -/
structure B1 (own : Own) (h : H) (i b : Nat) (vs : List Value) : Prop where
  own_ : own b = i
  bl : Bl h b vs
theorem B1.fm {own own' : Own} {h h' : H} {i b : Nat} {vs : List Value} {M : List Nat} (B : B1 own h i b vs) (F : Fm M own h own' h') (hM : i ∉ M) : B1 own' h' i b vs := by
  obtain ⟨e, o, k⟩ := B
  exact ⟨(F.stay b _ k).2.trans e, o, F.keep b _ k (by rw [e]; exact hM)⟩
theorem B1.new {own : Own} {h : H} {i b : Nat} {vs : List Value} (B : Bl h b vs) : B1 (own1 own b i) h i b vs := ⟨own1_at, B⟩
theorem B1.ld {own : Own} {h : H} {i b j : Nat} {vs : List Value} {v : Value} (B : B1 own h i b vs) (hi : vs[j]? = some v) : hcell h ((bk b).add j) = some v := B.bl.ld hi
theorem B1.st {own : Own} {h : H} {i b j : Nat} {vs : List Value} {x : Value} {K : H → Prop} (B : B1 own h i b vs) (hj : j < vs.length)
    (k : ∀ g, Fm [i] own h own g → B1 own g i b (vs.set j x) → K g) : stC h ((bk b).add j) x K :=
  B.bl.stC hj fun g kp B' => k g (Fm.kp kp B.own_ (let ⟨e, k⟩ := B'; ⟨_, k⟩)) ⟨B.own_, B'⟩
theorem B1.ldN {own : Own} {h : H} {i b n : Nat} {vs : List Value} {K : List Value → Prop} (B : B1 own h i b vs) (hn : vs.length = n) (k : K vs) : ldN h (bk b) n K := B.bl.ldN hn k
theorem B1.stN {own : Own} {h : H} {i b n : Nat} {vs ws : List Value} {K : H → Prop} (B : B1 own h i b vs) (hn : ws.length = n) (hv : vs.length = n) (one : ∀ v ∈ ws, v.oneCell' = true)
    (k : ∀ g, Fm [i] own h own g → B1 own g i b ws → K g) : stN h (bk b) ws n K :=
  B.bl.stN hn hv one fun g kp B' => k g (Fm.kp kp B.own_ (let ⟨e, k⟩ := B'; ⟨_, k⟩)) ⟨B.own_, B'⟩

/-- The slice v holds vs; its block is the i-th owner's. -/
def S1 (own : Own) (h : H) (i : Nat) (v : Value) (vs : List Value) : Prop :=
  (vs = [] ∧ v = .slice none 0 0) ∨ ∃ b, own b = i ∧ Sl h b v vs
theorem S1.nil {own : Own} {h : H} {i : Nat} : S1 own h i (.slice none 0 0) [] := .inl ⟨rfl, rfl⟩
theorem S1.fm {own own' : Own} {h h' : H} {i : Nat} {v : Value} {vs : List Value} {M : List Nat} (s : S1 own h i v vs) (F : Fm M own h own' h') (hM : i ∉ M) : S1 own' h' i v vs := by
  rcases s with s | ⟨b, hb, c, e, zs, h1, h2, h3⟩
  · exact .inl s
  · exact .inr ⟨b, (F.stay b _ h2).2.trans hb, c, e, zs, h1, F.keep b _ h2 (by rw [hb]; exact hM), h3⟩
theorem S1.shape {own : Own} {h : H} {i : Nat} {v : Value} {vs : List Value} (s : S1 own h i v vs) : ∃ a c, v = .slice a vs.length c := by
  rcases s with ⟨rfl, rfl⟩ | ⟨b, hb, c, e, zs, h1, h2, h3⟩
  · exact ⟨_, _, rfl⟩
  · exact ⟨_, _, h1⟩
theorem S1.isS {own : Own} {h : H} {i : Nat} {v : Value} {vs : List Value} (s : S1 own h i v vs) : ∃ a l c, v = .slice a l c := let ⟨a, c, e⟩ := s.shape; ⟨a, _, c, e⟩
theorem S1.one {own : Own} {h : H} {i : Nat} {v : Value} {vs : List Value} (s : S1 own h i v vs) : v.oneCell' = true := slc_one s.isS
theorem S1.len {own : Own} {h : H} {i l : Nat} {v : Value} {vs : List Value} {K : Option Addr → Nat → Nat → Prop} (s : S1 own h i v vs) (hl : vs.length = l) (k : ∀ a c, K a l c) : slcP v K := by
  obtain ⟨a, c, rfl⟩ := s.shape
  rw [hl]; exact k _ _
theorem S1.at {own : Own} {h : H} {i j : Nat} {v x : Value} {vs : List Value} {K : Addr → Prop} (s : S1 own h i v vs) (hj : vs[j]? = some x)
    (k : ∀ a : Addr, hcell h a = some x → K a) : ixS v (j : Int) 1 K := by
  have hl := (List.getElem?_eq_some_iff.1 hj).1
  rcases s with ⟨rfl, rfl⟩ | ⟨b, hb, s⟩
  · simp at hl
  · have g := s.get hj
    obtain ⟨c, e, zs, h1, h2, h3⟩ := s
    subst h1
    exact nx hl (k _ g)
theorem S1.rd {own : Own} {h : H} {i j : Nat} {v : Value} {x : Int} {vs : List Value} {K : Int → Prop} (s : S1 own h i v vs) (hj : vs[j]? = some (.int .i64 x))
    (k : K x) : ixS v (j : Int) 1 fun a => ldI h a .i64 K := s.at hj fun a e => ⟨x, e, k⟩
theorem S1.rdI {own : Own} {h : H} {i j n : Nat} {v : Value} {f : Nat → Int} {K : Int → Prop} (s : S1 own h i v (ints n f)) (hj : j < n) (k : K (f j)) :
    ixS v (j : Int) 1 fun a => ldI h a .i64 K := s.rd (ints_get hj) k
theorem S1.rdV {own : Own} {h : H} {i j n : Nat} {v : Value} {f : Nat → Value} {K : Value → Prop} (s : S1 own h i v (va n f)) (hj : j < n) (k : K (f j)) :
    ixS v (j : Int) 1 fun a => ldV h a K := s.at (va_get hj) fun a e => ⟨_, e, k⟩
theorem S1.ix {own : Own} {h : H} {i j : Nat} {v x : Value} {vs : List Value} {K : Addr → Prop} (s : S1 own h i v vs) (hj : j < vs.length)
    (k : ∀ b, K ((bk b).add (j * 1))) : ixS v (j : Int) 1 K := by
  rcases s with ⟨rfl, rfl⟩ | ⟨b, hb, s⟩
  · simp at hj
  · obtain ⟨c, e, zs, h1, h2, h3⟩ := s
    subst h1
    exact nx hj (k _)
theorem S1.set {own : Own} {h : H} {i j : Nat} {v x : Value} {vs : List Value} {K : H → Prop} (s : S1 own h i v vs) (hj : j < vs.length)
    (k : ∀ g, Fm [i] own h own g → S1 own g i v (vs.set j x) → K g) : ixS v (j : Int) 1 fun a => stC h a x K := by
  rcases s with ⟨rfl, rfl⟩ | ⟨b, hb, s⟩
  · simp at hj
  · obtain ⟨c, e, zs, h1, h2, h3⟩ := s
    subst h1
    refine nx hj ?_
    rw [bk_add]
    have e2 : hset h ⟨b, j * 1, none⟩ [x] b = some (.cells ⟨vs.set j x ++ zs⟩ e (0, 0)) := by
      unfold hset
      rw [if_pos rfl, h2]
      simp only [Option.map_some, setR, Nat.mul_one]
      rw [List.setIfInBounds_toArray, List.set_append_left _ _ hj]
    refine ⟨⟨_, _, h2, rfl, ?_⟩, k _ (Fm.kp (b := b) ?_ hb ⟨_, e2⟩) (.inr ⟨b, hb, c, e, zs, by rw [List.length_set], e2, by rw [List.length_set]; exact h3⟩)⟩
    · simp only [List.size_toArray, List.length_append]; omega
    · intro j o hj hh
      unfold hset
      rw [if_neg hj]; exact hh
theorem S1.setI {own : Own} {h : H} {i j n : Nat} {v : Value} {f : Nat → Int} {x : Int} {K : H → Prop} (s : S1 own h i v (ints n f)) (hj : j < n)
    (k : ∀ g, Fm [i] own h own g → S1 own g i v (ints n (upd f j x)) → K g) : ixS v (j : Int) 1 fun a => stC h a (.int .i64 x) K :=
  s.set (by rw [ints_length]; exact hj) fun g F s' => k g F (by rw [← ints_set]; exact s')
theorem S1.setV {own : Own} {h : H} {i j n : Nat} {v x : Value} {f : Nat → Value} {K : H → Prop} (s : S1 own h i v (va n f)) (hj : j < n)
    (k : ∀ g, Fm [i] own h own g → S1 own g i v (va n (updV f j x)) → K g) : ixS v (j : Int) 1 fun a => stC h a x K :=
  s.set (by rw [va_length]; exact hj) fun g F s' => k g F (by rw [← va_set]; exact s')

/-- What is appended to a slice. -/
theorem S1.push {own : Own} {h : H} {i l ex : Nat} {p z : Value} {vs new : List Value} {K : Nat → H → Value → H → Prop} {e bytes : Nat} (s : S1 own h i p vs)
    (hnl : new.length = l) (one : ∀ v ∈ new, v.oneCell' = true) (hne : new ≠ []) (hb : bytes ≤ 8) (hl : vs.length + l < 1000000)
    (k : ∀ bx hm p' own' h', h bx = none → Ext h hm → Fm [i] own h own' h' → S1 own' h' i p' (vs ++ new) → K bx hm p' h') :
    newP h (.cells ⟨new⟩ ex (0, 0)) fun bx hm => apP p (.slice (some (bk bx)) l l) hm 1 e bytes [z] (K bx hm) := by
  subst hnl
  refine new_put ?_
  intro bx hm hbx xm hx
  have hsrc : srcP hm (some (bk bx)) (new.length * 1) new := by
    refine ⟨by rw [Nat.mul_one], fun j v hj => ?_⟩
    rw [bk_add, hcell_at hx, List.getElem?_toArray]
    exact hj
  have hzl : ∀ m, (zrep [z] m).length = m := by intro m; simp [zrep]
  have npos : 0 < new.length := List.length_pos_iff.2 hne
  rcases s with ⟨rfl, rfl⟩ | ⟨b, hob, c, eb, zs, rfl, h2, h3⟩
  · refine ⟨new, hsrc, fun hle => by omega, fun hlt => ⟨?_, [], ⟨rfl, rfl⟩, fun cap hcap => ?_⟩⟩
    · have := nextcap_le hlt
      calc _ ≤ (2 * (0 + new.length) + 192) * bytes := Nat.mul_le_mul_right _ this
        _ ≤ (2 * (0 + new.length) + 192) * 8 := Nat.mul_le_mul_left _ hb
        _ ≤ _ := by simp at hl; omega
    · refine new_put ?_
      intro b g hbn x e1
      rw [Nat.zero_add] at e1 hcap ⊢
      refine k bx hm _ (own1 own b i) g hbx xm (Fm.new (xm.trans' x) (xm.new hbn)) (.inr ⟨b, own1_at, cap, e, zrep [z] (cap - new.length), rfl, by rw [e1], ?_⟩)
      rw [hzl]; simp; omega
  · have h2m := xm _ _ h2
    refine ⟨new, hsrc, fun hle => ⟨fun _ => ?_, one, ?_⟩, fun hlt => ⟨?_, vs, ⟨by rw [Nat.mul_one], ?_⟩, fun cap hcap => ?_⟩⟩
    · rw [bk_add]
      refine ⟨_, _, h2m, rfl, ?_⟩
      simp only [List.size_toArray, List.length_append]
      omega
    · rw [bk_add]
      have e2 : hset hm ⟨b, vs.length * 1, none⟩ new b = some (.cells ⟨vs ++ new ++ zs.drop new.length⟩ eb (0, 0)) := by
        unfold hset
        rw [if_pos rfl, h2m]
        simp only [Option.map_some, Nat.mul_one]
        rw [setR_list _ _ _ (by simp; omega)]
        simp [List.take_append, List.drop_append]
      refine k bx hm _ own _ hbx xm ((Fm.of_ext xm).trans (Fm.kp (b := b) ?_ hob ⟨_, e2⟩)) (.inr ⟨b, hob, c, eb, zs.drop new.length, by simp, e2, by simp; omega⟩)
      intro j o hj hh
      unfold hset
      rw [if_neg hj]; exact hh
    · have := nextcap_le hlt
      calc _ ≤ (2 * (vs.length + new.length) + 192) * bytes := Nat.mul_le_mul_right _ this
        _ ≤ (2 * (vs.length + new.length) + 192) * 8 := Nat.mul_le_mul_left _ hb
        _ ≤ _ := by omega
    · intro j v hj
      rw [bk_add, hcell_at h2m, List.getElem?_toArray]
      have := (List.getElem?_eq_some_iff.1 hj).1
      rw [List.getElem?_append_left this]
      exact hj
    · refine new_put ?_
      intro b' g hbn x e1
      refine k bx hm _ (own1 own b' i) g hbx xm (Fm.new (xm.trans' x) (xm.new hbn)) (.inr ⟨b', own1_at, cap, e, zrep [z] (cap - (vs.length + new.length)), by simp, by rw [e1], ?_⟩)
      rw [hzl]; simp; omega
/-- Another slice is appended: append(p, q...). -/
theorem S1.cat {own : Own} {h : H} {i j l : Nat} {p q z : Value} {vs ws : List Value} {K : Value → H → Prop} {e bytes : Nat} (s : S1 own h i p vs) (s2 : S1 own h j q ws)
    (one : ∀ v ∈ ws, v.oneCell' = true) (hb : bytes ≤ 8) (hl : vs.length + ws.length < 1000000)
    (k : ∀ p' own' h', Fm [i] own h own' h' → S1 own' h' i p' (vs ++ ws) → K p' h') :
    apP p q h 1 e bytes [z] K := by
  have hzl : ∀ m, (zrep [z] m).length = m := by intro m; simp [zrep]
  have hsrc : ∃ a c, q = .slice a ws.length c ∧ srcP h a (ws.length * 1) ws := by
    rcases s2 with ⟨rfl, rfl⟩ | ⟨b, hb, s2⟩
    · exact ⟨_, _, rfl, rfl, rfl⟩
    · have g := fun i v (hi : ws[i]? = some v) => s2.get hi
      obtain ⟨c, e, zs, h1, h2, h3⟩ := s2
      refine ⟨_, c, h1, by rw [Nat.mul_one], ?_⟩
      intro i v hi
      have := g i v hi
      rwa [Nat.mul_one] at this
  obtain ⟨qa, qc, rfl, hsrc⟩ := hsrc
  rcases s with ⟨rfl, rfl⟩ | ⟨b, hob, c, eb, zs, rfl, h2, h3⟩
  · refine ⟨ws, hsrc, fun hle => ?_, fun hlt => ⟨?_, [], ⟨rfl, rfl⟩, fun cap hcap => ?_⟩⟩
    · have : ws = [] := List.length_eq_zero_iff.1 (by omega)
      subst this
      exact ⟨rfl, k _ own h Fm.refl (.inl ⟨rfl, rfl⟩)⟩
    · have := nextcap_le hlt
      calc _ ≤ (2 * (0 + ws.length) + 192) * bytes := Nat.mul_le_mul_right _ this
        _ ≤ (2 * (0 + ws.length) + 192) * 8 := Nat.mul_le_mul_left _ hb
        _ ≤ _ := by simp at hl; omega
    · refine new_put ?_
      intro b g hbn x e1
      rw [Nat.zero_add] at e1 hcap ⊢
      refine k _ (own1 own b i) g (Fm.new x hbn) (.inr ⟨b, own1_at, cap, e, zrep [z] (cap - ws.length), rfl, by rw [e1], ?_⟩)
      rw [hzl]; simp; omega
  · refine ⟨ws, hsrc, fun hle => ⟨fun _ => ?_, one, ?_⟩, fun hlt => ⟨?_, vs, ⟨by rw [Nat.mul_one], ?_⟩, fun cap hcap => ?_⟩⟩
    · rw [bk_add]
      refine ⟨_, _, h2, rfl, ?_⟩
      simp only [List.size_toArray, List.length_append]
      omega
    · rw [bk_add]
      have e2 : hset h ⟨b, vs.length * 1, none⟩ ws b = some (.cells ⟨vs ++ ws ++ zs.drop ws.length⟩ eb (0, 0)) := by
        unfold hset
        rw [if_pos rfl, h2]
        simp only [Option.map_some, Nat.mul_one]
        rw [setR_list _ _ _ (by simp; omega)]
        simp [List.take_append, List.drop_append]
      refine k _ own _ (Fm.kp (b := b) ?_ hob ⟨_, e2⟩) (.inr ⟨b, hob, c, eb, zs.drop ws.length, by simp, e2, by simp; omega⟩)
      intro j o hj hh
      unfold hset
      rw [if_neg hj]; exact hh
    · have := nextcap_le hlt
      calc _ ≤ (2 * (vs.length + ws.length) + 192) * bytes := Nat.mul_le_mul_right _ this
        _ ≤ (2 * (vs.length + ws.length) + 192) * 8 := Nat.mul_le_mul_left _ hb
        _ ≤ _ := by omega
    · intro j v hj
      rw [bk_add, hcell_at h2, List.getElem?_toArray]
      have := (List.getElem?_eq_some_iff.1 hj).1
      rw [List.getElem?_append_left this]
      exact hj
    · refine new_put ?_
      intro b' g hbn x e1
      refine k _ (own1 own b' i) g (Fm.new x hbn) (.inr ⟨b', own1_at, cap, e, zrep [z] (cap - (vs.length + ws.length)), by simp, by rw [e1], ?_⟩)
      rw [hzl]; simp; omega

/-! ### New memory -/

/-- n cells of the same. -/
theorem zrep_one (z : Value) (n : Nat) : zrep [z] n = va n fun _ => z := by
  unfold zrep va
  induction n with
  | zero => rfl
  | succ n ih => rw [List.replicate_succ', List.range_succ, List.flatten_append, ih, List.map_append]; rfl
theorem ints_va {n : Nat} {f : Nat → Int} : ints n f = va n fun i => .int .i64 (f i) := rfl
theorem mk_S1 {h : H} {n bytes e : Nat} {z : Value} {K : Nat → H → Prop} (i : Nat) (hn : n ≤ 1000000) (hb : bytes ≤ 64)
    (k : ∀ b g, h b = none → Ext h g → (∀ own, S1 (own1 own b i) g i (.slice (some (bk b)) n n) (va n fun _ => z)) → K b g) : mkS (n : Int) (n : Int) bytes [z] e h K := by
  refine ⟨by omega, Int.le_refl _, ?_, by omega, ?_⟩
  · have : n * bytes ≤ 1000000 * 64 := Nat.mul_le_mul hn hb
    have e : ((n : Int) * bytes) = ((n * bytes : Nat) : Int) := by simp
    rw [e]; omega
  · refine new_put ?_
    intro b g hb x e1
    refine k b g hb x fun own => .inr ⟨b, own1_at, n, e, [], by rw [va_length], ?_, by rw [va_length]; rfl⟩
    rw [e1, Int.toNat_natCast, zrep_one, List.append_nil]
theorem mk_ints {h : H} {n bytes e : Nat} {K : Nat → H → Prop} (i : Nat) (hn : n ≤ 1000000) (hb : bytes ≤ 64)
    (k : ∀ b g, h b = none → Ext h g → (∀ own, S1 (own1 own b i) g i (.slice (some (bk b)) n n) (ints n fun _ => 0)) → K b g) : mkS (n : Int) (n : Int) bytes [.int .i64 0] e h K :=
  mk_S1 i hn hb k

/-! ### Bools -/

def bools (n : Nat) (f : Nat → Bool) : List Value := va n fun i => .bool (f i)
def updB (f : Nat → Bool) (i : Nat) (x : Bool) : Nat → Bool := fun j => if j = i then x else f j
theorem bools_length (n : Nat) (f : Nat → Bool) : (bools n f).length = n := va_length _ _
theorem S1.rdB {own : Own} {h : H} {i j n : Nat} {v : Value} {f : Nat → Bool} {K : Bool → Prop} (s : S1 own h i v (bools n f)) (hj : j < n) (k : K (f j)) :
    ixS v (j : Int) 1 fun a => ldB h a K := s.at (va_get hj) fun a e => ⟨_, e, k⟩
theorem S1.setB {own : Own} {h : H} {i j n : Nat} {v : Value} {f : Nat → Bool} {x : Bool} {K : H → Prop} (s : S1 own h i v (bools n f)) (hj : j < n)
    (k : ∀ g, Fm [i] own h own g → S1 own g i v (bools n (updB f j x)) → K g) : ixS v (j : Int) 1 fun a => stC h a (.bool x) K :=
  S1.setV s hj fun g F s' => k g F (by
    have : updV (fun i => Value.bool (f i)) j (.bool x) = fun i => .bool (updB f j x i) := by
      funext l; unfold updV updB; split <;> rfl
    rw [this] at s'; exact s')
theorem mk_bools {h : H} {n bytes e : Nat} {K : Nat → H → Prop} (i : Nat) (hn : n ≤ 1000000) (hb : bytes ≤ 64)
    (k : ∀ b g, h b = none → Ext h g → (∀ own, S1 (own1 own b i) g i (.slice (some (bk b)) n n) (bools n fun _ => false)) → K b g) : mkS (n : Int) (n : Int) bytes [.bool false] e h K :=
  mk_S1 i hn hb k
theorem S1.ext {own : Own} {h h' : H} {i : Nat} {v : Value} {vs : List Value} (s : S1 own h i v vs) (x : Ext h h') : S1 own h' i v vs := s.fm (M := []) (Fm.of_ext x) (by simp)
theorem B1.ext {own : Own} {h h' : H} {i b : Nat} {vs : List Value} (s : B1 own h i b vs) (x : Ext h h') : B1 own h' i b vs := s.fm (M := []) (Fm.of_ext x) (by simp)
theorem Bs.ext_ {h0 h h' : H} {own : Own} (B : Bs h0 own h) (x : Ext h h') : Bs h0 own h' := ⟨B.ext.trans' x, B.old⟩
theorem Bs.new {h0 h h' : H} {own : Own} {b i : Nat} (B : Bs h0 own h) (x : Ext h h') (hb : h b = none) : Bs h0 (own1 own b i) h' := B.fm (M := []) (Fm.new x hb) (by simp)
theorem S1.new {own : Own} {h h' : H} {i j b : Nat} {v : Value} {vs : List Value} (s : S1 own h i v vs) (x : Ext h h') (hb : h b = none) : S1 (own1 own b j) h' i v vs := s.fm (M := []) (Fm.new x hb) (by simp)
theorem B1.newo {own : Own} {h h' : H} {i j b c : Nat} {vs : List Value} (s : B1 own h i c vs) (x : Ext h h') (hb : h b = none) : B1 (own1 own b j) h' i c vs := s.fm (M := []) (Fm.new x hb) (by simp)
theorem sameAt_b1 {own own' : Own} {g g' : H} {b j n c d : Nat} {vs : List Value} (B : B1 own g c b vs) (B' : B1 own' g' d b vs) : sameAt n ((bk b).add j) g g' := sameAt_bl B.bl B'.bl
theorem Bs.nw {h0 h h' : H} {own : Own} {b j : Nat} (B : Bs h0 own h) (x : Ext h h') (hb : h b = none) : Bs h0 (own1 own b j) h' := B.new x hb
theorem S1.nw {own : Own} {h h' : H} {i j b : Nat} {v : Value} {vs : List Value} (s : S1 own h i v vs) (x : Ext h h') (hb : h b = none) : S1 (own1 own b j) h' i v vs := s.new x hb
theorem B1.nw {own : Own} {h h' : H} {i j b c : Nat} {vs : List Value} (s : B1 own h i c vs) (x : Ext h h') (hb : h b = none) : B1 (own1 own b j) h' i c vs := s.newo x hb
theorem S1.setO {own : Own} {h : H} {i j n : Nat} {v x : Value} {f : Nat → Value} {K : H → Prop} (s : S1 own h i v (va n f)) (hj : j < n) (hx : ∃ a l c, x = .slice a l c)
    (k : ∀ g, Fm [i] own h own g → S1 own g i v (va n (updV f j x)) → K g) : ixS v (j : Int) 1 fun a => oneP x (stC h a x K) := by
  obtain ⟨_, _, _, rfl⟩ := hx
  exact s.setV hj k
theorem S1.sl {own : Own} {h : H} {i b l c : Nat} {vs : List Value} (s : S1 own h i (.slice (some (bk b)) l c) vs) : Sl h b (.slice (some (bk b)) l c) vs ∧ own b = i := by
  rcases s with ⟨_, e⟩ | ⟨b', hb, s⟩
  · cases e
  · have s' := s
    obtain ⟨c', e, zs, h1, h2, h3⟩ := s
    simp only [Value.slice.injEq, Option.some.injEq, bk, Addr.mk.injEq] at h1
    obtain ⟨⟨rfl, _⟩, _⟩ := h1
    exact ⟨s', hb⟩
theorem S1.of {h : H} {i b : Nat} {v : Value} {vs : List Value} (s : Sl h b v vs) (own : Own) : S1 (own1 own b i) h i v vs := .inr ⟨b, own1_at, s⟩

end Go.Proofs.Ythglkcpoofenbaa

/-! Flows: sums, cuts, what can be reached; no program here. -/
namespace Go.Proofs.Ythglkcpoofenbaa
open Go
open Classical
set_option linter.unusedVariables false

def sumN : Nat → (Nat → Int) → Int
  | 0, _ => 0
  | k + 1, f => sumN k f + f k
theorem sumN_congr {f g : Nat → Int} : ∀ {k : Nat}, (∀ i, i < k → f i = g i) → sumN k f = sumN k g
  | 0, _ => rfl
  | k + 1, h => by
    show sumN k f + f k = sumN k g + g k
    rw [sumN_congr fun i hi => h i (by omega), h k (by omega)]
theorem sumN_add {f g : Nat → Int} : ∀ {k : Nat}, sumN k (fun i => f i + g i) = sumN k f + sumN k g
  | 0 => rfl
  | k + 1 => by
    show sumN k (fun i => f i + g i) + (f k + g k) = sumN k f + f k + (sumN k g + g k)
    rw [sumN_add]; omega
theorem sumN_sub {f g : Nat → Int} : ∀ {k : Nat}, sumN k (fun i => f i - g i) = sumN k f - sumN k g
  | 0 => rfl
  | k + 1 => by
    show sumN k (fun i => f i - g i) + (f k - g k) = sumN k f + f k - (sumN k g + g k)
    rw [sumN_sub]; omega
theorem sumN_mul {c : Int} {f : Nat → Int} : ∀ {k : Nat}, sumN k (fun i => c * f i) = c * sumN k f
  | 0 => by simp [sumN]
  | k + 1 => by
    show sumN k (fun i => c * f i) + c * f k = c * (sumN k f + f k)
    rw [sumN_mul, Int.mul_add]
theorem sumN_zero {f : Nat → Int} : ∀ {k : Nat}, (∀ i, i < k → f i = 0) → sumN k f = 0
  | 0, _ => rfl
  | k + 1, h => by
    show sumN k f + f k = 0
    rw [sumN_zero fun i hi => h i (by omega), h k (by omega)]; rfl
theorem sumN_le {f g : Nat → Int} : ∀ {k : Nat}, (∀ i, i < k → f i ≤ g i) → sumN k f ≤ sumN k g
  | 0, _ => Int.le_refl _
  | k + 1, h => by
    show sumN k f + f k ≤ sumN k g + g k
    have := sumN_le (k := k) fun i hi => h i (by omega)
    have := h k (by omega)
    omega
theorem sumN_nonneg {f : Nat → Int} {k : Nat} (h : ∀ i, i < k → 0 ≤ f i) : 0 ≤ sumN k f := by
  have := sumN_le (f := fun _ => 0) (g := f) h
  rwa [sumN_zero fun _ _ => rfl] at this
theorem sumN_const {c : Int} : ∀ {k : Nat}, sumN k (fun _ => c) = k * c
  | 0 => by simp [sumN]
  | k + 1 => by
    show sumN k (fun _ => c) + c = _
    rw [sumN_const, Int.natCast_add, Int.add_mul]; simp
theorem sumN_bd {c : Int} {f : Nat → Int} {k : Nat} (h : ∀ i, i < k → f i ≤ c) : sumN k f ≤ k * c := by
  rw [← sumN_const]; exact sumN_le h
/-- All are 0 if none is below 0 and the sum is not above 0. -/
theorem sumN_all0 {f : Nat → Int} : ∀ {k : Nat}, (∀ i, i < k → 0 ≤ f i) → sumN k f ≤ 0 → ∀ i, i < k → f i = 0
  | 0, _, _ => fun i hi => by omega
  | k + 1, h, h0 => by
    have h0 : sumN k f + f k ≤ 0 := h0
    have a := sumN_nonneg (k := k) fun i hi => h i (by omega)
    have b := h k (by omega)
    intro i hi
    by_cases e : i = k
    · subst e; omega
    · exact sumN_all0 (k := k) (fun i hi => h i (by omega)) (by omega) i (by omega)
theorem sumN_mem {f : Nat → Int} {k i : Nat} (h : ∀ i, i < k → 0 ≤ f i) (hi : i < k) : f i ≤ sumN k f := by
  induction k with
  | zero => omega
  | succ k ih =>
    show f i ≤ sumN k f + f k
    have a := sumN_nonneg (k := k) fun i hi => h i (by omega)
    have b := h k (by omega)
    by_cases e : i = k
    · subst e; omega
    · have := ih (fun i hi => h i (by omega)) (by omega); omega
theorem sumN_swap {f : Nat → Nat → Int} {b : Nat} : ∀ {a : Nat}, sumN a (fun i => sumN b fun j => f i j) = sumN b fun j => sumN a fun i => f i j
  | 0 => (sumN_zero fun _ _ => rfl).symm
  | a + 1 => by
    show sumN a (fun i => sumN b fun j => f i j) + sumN b (fun j => f a j) = _
    rw [sumN_swap, ← sumN_add]; rfl
theorem sumN_pt {x : Int} {j : Nat} : ∀ {k : Nat}, sumN k (fun i => if j = i then x else 0) = if j < k then x else 0
  | 0 => rfl
  | k + 1 => by
    show sumN k (fun i => if j = i then x else 0) + (if j = k then x else 0) = _
    rw [sumN_pt]
    by_cases h1 : j < k
    · rw [if_pos h1, if_neg (by omega), if_pos (by omega)]; omega
    · by_cases h2 : j = k
      · rw [if_neg h1, if_pos h2, if_pos (by omega)]; omega
      · rw [if_neg h1, if_neg h2, if_neg (by omega)]; rfl
theorem sumN_ptf {f : Nat → Int} {j k : Nat} (hj : j < k) : sumN k (fun i => if j = i then f i else 0) = f j := by
  have : sumN k (fun i => if j = i then f i else 0) = sumN k (fun i => if j = i then f j else 0) := sumN_congr fun i _ => by
    by_cases e : j = i
    · subst e; rfl
    · rw [if_neg e, if_neg e]
  rw [this, sumN_pt, if_pos hj]
theorem sumN_upd {f : Nat → Int} {i k : Nat} {x : Int} (hi : i < k) : sumN k (upd f i x) = sumN k f - f i + x := by
  have : sumN k (upd f i x) = sumN k (fun j => f j + (if i = j then x - f i else 0)) := sumN_congr fun j _ => by
    unfold upd
    by_cases e : j = i
    · subst e; rw [if_pos rfl, if_pos rfl]; omega
    · rw [if_neg e, if_neg (fun h => e h.symm)]; omega
  rw [this, sumN_add, sumN_pt, if_pos hi]; omega
theorem sumN_upd_out {f : Nat → Int} {i k : Nat} {x : Int} (hi : ¬ i < k) : sumN k (upd f i x) = sumN k f :=
  sumN_congr fun j hj => by unfold upd; rw [if_neg (by omega)]

/-- How much more goes out of a node than comes into it. -/
def OutF (m : Nat) (fr to : Nat → Nat) (f : Nat → Int) (v : Nat) : Int := sumN m fun i => (if fr i = v then f i else 0) - (if to i = v then f i else 0)
structure FlowP (n m : Nat) (fr to : Nat → Nat) (cap : Nat → Int) (s t : Nat) (f : Nat → Int) : Prop where
  cp : ∀ i, i < m → 0 ≤ f i ∧ f i ≤ cap i
  cons : ∀ v, v < n → v ≠ s → v ≠ t → OutF m fr to f v = 0
/-- A step along which more can go. -/
def RsS (m : Nat) (fr to : Nat → Nat) (cap f : Nat → Int) (u v : Nat) : Prop :=
  ∃ i, i < m ∧ ((fr i = u ∧ to i = v ∧ f i < cap i) ∨ (to i = u ∧ fr i = v ∧ 0 < f i))
inductive Rch (R : Nat → Nat → Prop) (s : Nat) : Nat → Prop
  | refl : Rch R s s
  | step {u v : Nat} : Rch R s u → R u v → Rch R s v
theorem Rch.closed {R : Nat → Nat → Prop} {s v : Nat} (r : Rch R s v) {C : Nat → Prop} (hs : C s) (hc : ∀ u v, C u → R u v → C v) : C v := by
  induction r with
  | refl => exact hs
  | step _ h ih => exact hc _ _ ih h
theorem Rch.trans {R : Nat → Nat → Prop} {s u v : Nat} (a : Rch R s u) (b : Rch R u v) : Rch R s v := by
  induction b with
  | refl => exact a
  | step _ h ih => exact ih.step h
theorem Rch.head {R : Nat → Nat → Prop} {s u v : Nat} (a : R s u) (b : Rch R u v) : Rch R s v := (Rch.refl.step a).trans b
theorem Rch.mono {R R' : Nat → Nat → Prop} {s v : Nat} (h : ∀ u v, R u v → R' u v) (r : Rch R s v) : Rch R' s v := by
  induction r with
  | refl => exact .refl
  | step _ k ih => exact ih.step (h _ _ k)
theorem Rch.rev {R : Nat → Nat → Prop} {s v : Nat} (r : Rch R s v) : Rch (fun a b => R b a) v s := by
  induction r with
  | refl => exact .refl
  | step _ k ih => exact ih.head k
/-- The capacity of what leaves a side. -/
noncomputable def cutC (m : Nat) (fr to : Nat → Nat) (cap : Nat → Int) (C : Nat → Prop) : Int := sumN m fun i => if C (fr i) ∧ ¬ C (to i) then cap i else 0

section
variable {n m : Nat} {fr to : Nat → Nat} {cap f g : Nat → Int} {s t : Nat}

theorem out_side (hn : ∀ i, i < m → fr i < n ∧ to i < n) (C : Nat → Prop) :
    sumN n (fun v => if C v then OutF m fr to f v else 0) = sumN m fun i => (if C (fr i) then f i else 0) - (if C (to i) then f i else 0) := by
  have e1 : sumN n (fun v => if C v then OutF m fr to f v else 0) =
      sumN n fun v => sumN m fun i => (if fr i = v then (if C (fr i) then f i else 0) else 0) - (if to i = v then (if C (to i) then f i else 0) else 0) := by
    refine sumN_congr fun v _ => ?_
    by_cases hc : C v
    · rw [if_pos hc]
      refine sumN_congr fun i _ => ?_
      by_cases h1 : fr i = v <;> by_cases h2 : to i = v <;> simp [h1, h2, hc]
    · rw [if_neg hc]
      refine (sumN_zero fun i _ => ?_).symm
      by_cases h1 : fr i = v <;> by_cases h2 : to i = v <;> simp [h1, h2, hc]
  rw [e1, sumN_swap]
  refine sumN_congr fun i hi => ?_
  have := hn i hi
  rw [sumN_sub, sumN_pt, sumN_pt, if_pos this.1, if_pos this.2]

/-- All that goes out of all nodes. -/
theorem out_all (hn : ∀ i, i < m → fr i < n ∧ to i < n) : sumN n (fun v => OutF m fr to f v) = 0 := by
  have := out_side (f := f) hn (fun _ => True)
  simp only [if_true] at this
  rw [this]
  exact sumN_zero fun i _ => by omega

/-- What a cut could still bear. -/
noncomputable def gapI (fr to : Nat → Nat) (cap f : Nat → Int) (C : Nat → Prop) (i : Nat) : Int :=
  if C (fr i) ∧ ¬ C (to i) then cap i - f i else if ¬ C (fr i) ∧ C (to i) then f i else 0
theorem FlowP.gap (F : FlowP n m fr to cap s t f) (hn : ∀ i, i < m → fr i < n ∧ to i < n) (hs : s < n) {C : Nat → Prop} (cs : C s) (ct : ¬ C t) :
    cutC m fr to cap C - OutF m fr to f s = sumN m (gapI fr to cap f C) := by
  have e1 : sumN n (fun v => if C v then OutF m fr to f v else 0) = OutF m fr to f s := by
    rw [← sumN_ptf (f := fun v => OutF m fr to f v) hs]
    refine sumN_congr fun v hv => ?_
    by_cases h1 : s = v
    · subst h1; rw [if_pos cs, if_pos rfl]
    · rw [if_neg h1]
      by_cases hc : C v
      · rw [if_pos hc]; exact F.cons v hv (fun h => h1 h.symm) (by rintro rfl; exact ct hc)
      · rw [if_neg hc]
  rw [out_side hn C] at e1
  rw [← e1]
  unfold cutC
  rw [← sumN_sub]
  refine sumN_congr fun i _ => ?_
  unfold gapI
  by_cases h1 : C (fr i) <;> by_cases h2 : C (to i) <;> simp [h1, h2]
theorem FlowP.gap0 (F : FlowP n m fr to cap s t f) (C : Nat → Prop) : ∀ i, i < m → 0 ≤ gapI fr to cap f C i := by
  intro i hi
  have := F.cp i hi
  unfold gapI
  by_cases h1 : C (fr i) <;> by_cases h2 : C (to i) <;> simp [h1, h2] <;> omega
theorem FlowP.le_cut (F : FlowP n m fr to cap s t f) (hn : ∀ i, i < m → fr i < n ∧ to i < n) (hs : s < n) {C : Nat → Prop} (cs : C s) (ct : ¬ C t) :
    OutF m fr to f s ≤ cutC m fr to cap C := by
  have := F.gap hn hs cs ct
  have := sumN_nonneg (F.gap0 C)
  omega
/-- A tight cut: full behind, empty before. -/
theorem FlowP.tight (F : FlowP n m fr to cap s t f) (hn : ∀ i, i < m → fr i < n ∧ to i < n) (hs : s < n) {C : Nat → Prop} (cs : C s) (ct : ¬ C t)
    (h : cutC m fr to cap C ≤ OutF m fr to f s) : ∀ i, i < m → (C (fr i) → ¬ C (to i) → f i = cap i) ∧ (¬ C (fr i) → C (to i) → f i = 0) := by
  have e := F.gap hn hs cs ct
  intro i hi
  have := sumN_all0 (F.gap0 C) (by omega) i hi
  unfold gapI at this
  constructor
  · intro h1 h2
    rw [if_pos ⟨h1, h2⟩] at this; omega
  · intro h1 h2
    rw [if_neg (fun h => h1 h.1), if_pos ⟨h1, h2⟩] at this; exact this
theorem FlowP.tight' (F : FlowP n m fr to cap s t f) (hn : ∀ i, i < m → fr i < n ∧ to i < n) (hs : s < n) {C : Nat → Prop} (cs : C s) (ct : ¬ C t)
    (h : ∀ u v, C u → RsS m fr to cap f u v → C v) : OutF m fr to f s = cutC m fr to cap C := by
  have e := F.gap hn hs cs ct
  have : sumN m (gapI fr to cap f C) = 0 := by
    refine sumN_zero fun i hi => ?_
    have := F.cp i hi
    unfold gapI
    by_cases h1 : C (fr i) ∧ ¬ C (to i)
    · rw [if_pos h1]
      by_cases k : f i < cap i
      · exact absurd (h _ _ h1.1 ⟨i, hi, .inl ⟨rfl, rfl, k⟩⟩) h1.2
      · omega
    · rw [if_neg h1]
      by_cases h2 : ¬ C (fr i) ∧ C (to i)
      · rw [if_pos h2]
        by_cases k : 0 < f i
        · exact absurd (h _ _ h2.2 ⟨i, hi, .inr ⟨rfl, rfl, k⟩⟩) h2.1
        · omega
      · rw [if_neg h2]
  omega

/-- A greatest flow: the sink cannot be reached in what it leaves. -/
structure MaxP (n m : Nat) (fr to : Nat → Nat) (cap : Nat → Int) (s t : Nat) (f : Nat → Int) : Prop where
  fl : FlowP n m fr to cap s t f
  nr : ¬ Rch (RsS m fr to cap f) s t
theorem MaxP.cut (F : MaxP n m fr to cap s t f) (hn : ∀ i, i < m → fr i < n ∧ to i < n) (hs : s < n) :
    OutF m fr to f s = cutC m fr to cap (Rch (RsS m fr to cap f) s) := F.fl.tight' hn hs .refl F.nr fun _ _ a b => a.step b
/-- Whatever cut is no greater than the flow holds all that can be reached. -/
theorem MaxP.sub (F : FlowP n m fr to cap s t f) (hn : ∀ i, i < m → fr i < n ∧ to i < n) (hs : s < n) {C : Nat → Prop} (cs : C s) (ct : ¬ C t)
    (h : cutC m fr to cap C ≤ OutF m fr to f s) {v : Nat} (r : Rch (RsS m fr to cap f) s v) : C v := by
  refine r.closed cs ?_
  rintro u w hu ⟨i, hi, ⟨rfl, rfl, k⟩ | ⟨rfl, rfl, k⟩⟩
  · apply Classical.byContradiction
    intro hw
    have := (F.tight hn hs cs ct h i hi).1 hu hw
    omega
  · apply Classical.byContradiction
    intro hw
    have := (F.tight hn hs cs ct h i hi).2 hw hu
    omega
theorem MaxP.uniq (F : MaxP n m fr to cap s t f) (G : MaxP n m fr to cap s t g) (hn : ∀ i, i < m → fr i < n ∧ to i < n) (hs : s < n) :
    OutF m fr to f s = OutF m fr to g s ∧ ∀ v, Rch (RsS m fr to cap f) s v ↔ Rch (RsS m fr to cap g) s v := by
  have c1 := F.cut hn hs
  have c2 := G.cut hn hs
  have l1 := F.fl.le_cut hn hs (C := Rch (RsS m fr to cap g) s) .refl G.nr
  have l2 := G.fl.le_cut hn hs (C := Rch (RsS m fr to cap f) s) .refl F.nr
  refine ⟨by omega, fun v => ⟨MaxP.sub F.fl hn hs .refl G.nr (by omega), MaxP.sub G.fl hn hs .refl F.nr (by omega)⟩⟩
end

end Go.Proofs.Ythglkcpoofenbaa

/-! The net in the heap; newNet, send. -/
namespace Go.Proofs.Ythglkcpoofenbaa
open Go
set_option linter.unusedVariables false
set_option linter.unusedSimpArgs false

/-- The graph is right. -/
structure Gd (n m : Nat) (es : Nat → Ed) : Prop where
  n1 : n ≤ 1024
  m1 : m ≤ 4096
  f : ∀ i, i < m → ∃ v : Nat, (es i).f = v ∧ v < n
  t : ∀ i, i < m → ∃ v : Nat, (es i).t = v ∧ v < n
  c : ∀ i, i < m → 0 ≤ (es i).c ∧ (es i).c ≤ 1048576
  k : ∀ i, i < m → -1048576 ≤ (es i).k ∧ (es i).k ≤ 1048576
abbrev frE (es : Nat → Ed) (i : Nat) : Nat := (es i).f.toNat
abbrev toE (es : Nat → Ed) (i : Nat) : Nat := (es i).t.toNat
abbrev cpE (es : Nat → Ed) (i : Nat) : Int := (es i).c
theorem badFrom_0 {n : Int} {es : Nat → Ed} : ∀ {k i : Nat}, (badFrom n es i k).1 = 0 → ∀ j, i ≤ j → j < i + k → badE n (es j) = 0
  | 0, i, _, j, h1, h2 => by omega
  | k + 1, i, h, j, h1, h2 => by
    by_cases e : badE n (es i) = 0
    · rw [badFrom_good e] at h
      by_cases e2 : j = i
      · rw [e2]; exact e
      · exact badFrom_0 h j (by omega) (by omega)
    · rw [badFrom_bad e] at h
      exact absurd h e
theorem badFrom_of {n : Int} {es : Nat → Ed} : ∀ {k i : Nat}, (∀ j, i ≤ j → j < i + k → badE n (es j) = 0) → badFrom n es i k = (0, 0)
  | 0, i, _ => rfl
  | k + 1, i, h => by
    rw [badFrom_good (h i (by omega) (by omega))]
    exact badFrom_of fun j h1 h2 => h j (by omega) (by omega)
theorem Gd.of {n : Int} {m : Nat} {es : Nat → Ed} (h : (faultG n m es).1 = 0) : ∃ n' : Nat, n = n' ∧ Gd n' m es := by
  unfold faultG at h
  split at h
  · cases h
  · rename_i h1
    refine ⟨n.toNat, by omega, ?_⟩
    have key : ∀ i, i < m → badE n (es i) = 0 := fun i hi => badFrom_0 h i (by omega) (by omega)
    have key2 : ∀ i, i < m → ¬ ((es i).f < 0 ∨ (es i).t < 0 ∨ n ≤ (es i).f ∨ n ≤ (es i).t) ∧ ¬ ((es i).c < 0 ∨ 1048576 < (es i).c ∨ (es i).k < -1048576 ∨ 1048576 < (es i).k) := by
      intro i hi
      have := key i hi
      unfold badE at this
      split at this
      · cases this
      · split at this
        · cases this
        · exact ⟨by assumption, by assumption⟩
    refine ⟨by omega, by omega, fun i hi => ⟨(es i).f.toNat, ?_, ?_⟩, fun i hi => ⟨(es i).t.toNat, ?_, ?_⟩, fun i hi => ?_, fun i hi => ?_⟩ <;> (have := key2 i hi; omega)
theorem Gd.no {n : Nat} {m : Nat} {es : Nat → Ed} (g : Gd n m es) : faultG n m es = (0, 0) := by
  unfold faultG
  have := g.n1
  have := g.m1
  rw [if_neg (by omega)]
  refine badFrom_of fun j _ hj => ?_
  obtain ⟨v, e, hv⟩ := g.f j (by omega)
  obtain ⟨w, e2, hw⟩ := g.t j (by omega)
  have := g.c j (by omega)
  have := g.k j (by omega)
  unfold badE
  rw [if_neg (by omega), if_neg (by omega)]
theorem Gd.fr {n m : Nat} {es : Nat → Ed} (g : Gd n m es) {i : Nat} (hi : i < m) : (es i).f = (frE es i : Nat) ∧ frE es i < n := by
  obtain ⟨v, e, hv⟩ := g.f i hi
  unfold frE; omega
theorem Gd.to {n m : Nat} {es : Nat → Ed} (g : Gd n m es) {i : Nat} (hi : i < m) : (es i).t = (toE es i : Nat) ∧ toE es i < n := by
  obtain ⟨v, e, hv⟩ := g.t i hi
  unfold toE; omega
theorem Gd.ends {n m : Nat} {es : Nat → Ed} (g : Gd n m es) : ∀ i, i < m → frE es i < n ∧ toE es i < n := fun i hi => ⟨(g.fr hi).2, (g.to hi).2⟩

/-! ### Arcs -/

def tlA (fr to : Nat → Nat) (a : Nat) : Nat := if a % 2 = 0 then fr (a / 2) else to (a / 2)
def hdA (fr to : Nat → Nat) (a : Nat) : Nat := if a % 2 = 0 then to (a / 2) else fr (a / 2)
/-- The arc that takes back. -/
def prA (a : Nat) : Nat := if a % 2 = 0 then a + 1 else a - 1
/-- The arcs out of a node, of the first i edges. -/
def arcsL (fr to : Nat → Nat) : Nat → Nat → List Nat
  | 0, _ => []
  | i + 1, v => arcsL fr to i v ++ ((if fr i = v then [2 * i] else []) ++ (if to i = v then [2 * i + 1] else []))
def natV (l : List Nat) : List Value := l.map fun a => .int .i64 (a : Nat)
theorem mem_arcsL {fr to : Nat → Nat} {a v : Nat} : ∀ {i : Nat}, a ∈ arcsL fr to i v ↔ a < 2 * i ∧ tlA fr to a = v
  | 0 => by simp [arcsL]
  | i + 1 => by
    unfold arcsL
    rw [List.mem_append, mem_arcsL, List.mem_append]
    unfold tlA
    constructor
    · rintro (⟨h1, h2⟩ | h | h)
      · exact ⟨by omega, h2⟩
      · split at h
        · rename_i e
          have : a = 2 * i := by simpa using h
          subst this
          refine ⟨by omega, ?_⟩
          rw [if_pos (by omega), show 2 * i / 2 = i by omega]; exact e
        · simp at h
      · split at h
        · rename_i e
          have : a = 2 * i + 1 := by simpa using h
          subst this
          refine ⟨by omega, ?_⟩
          rw [if_neg (by omega), show (2 * i + 1) / 2 = i by omega]; exact e
        · simp at h
    · rintro ⟨h1, h2⟩
      by_cases e : a < 2 * i
      · exact .inl ⟨e, h2⟩
      · by_cases e2 : a = 2 * i
        · subst e2
          rw [if_pos (by omega), show 2 * i / 2 = i by omega] at h2
          exact .inr (.inl (by rw [if_pos h2]; simp))
        · have e3 : a = 2 * i + 1 := by omega
          subst e3
          rw [if_neg (by omega), show (2 * i + 1) / 2 = i by omega] at h2
          exact .inr (.inr (by rw [if_pos h2]; simp))
theorem arcsL_length {fr to : Nat → Nat} {v : Nat} : ∀ {i : Nat}, (arcsL fr to i v).length ≤ 2 * i
  | 0 => by simp [arcsL]
  | i + 1 => by
    unfold arcsL
    have := arcsL_length (fr := fr) (to := to) (v := v) (i := i)
    simp only [List.length_append]
    have h1 : (if fr i = v then [2 * i] else []).length ≤ 1 := by split <;> simp
    have h2 : (if to i = v then [2 * i + 1] else []).length ≤ 1 := by split <;> simp
    omega
theorem natV_get {l : List Nat} {j : Nat} (hj : j < l.length) : (natV l)[j]? = some (.int .i64 ((l[j] : Nat) : Int)) := by
  unfold natV
  rw [List.getElem?_map, List.getElem?_eq_getElem hj]; rfl
theorem natV_length (l : List Nat) : (natV l).length = l.length := by simp [natV]
theorem prA_lt {a m : Nat} (h : a < 2 * m) : prA a < 2 * m := by unfold prA; split <;> omega
theorem prA_pr (a : Nat) : prA (prA a) = a := by
  unfold prA
  by_cases h : a % 2 = 0
  · rw [if_pos h, if_neg (by omega)]; omega
  · rw [if_neg h, if_pos (by omega)]; omega
theorem prA_ne (a : Nat) : prA a ≠ a := by unfold prA; split <;> omega
theorem tl_pr {fr to : Nat → Nat} (a : Nat) : tlA fr to (prA a) = hdA fr to a := by
  unfold tlA hdA prA
  by_cases h : a % 2 = 0
  · rw [if_pos h, if_pos h, if_neg (by omega), show (a + 1) / 2 = a / 2 by omega]
  · rw [if_neg h, if_neg h, if_pos (by omega), show (a - 1) / 2 = a / 2 by omega]
theorem hd_pr {fr to : Nat → Nat} (a : Nat) : hdA fr to (prA a) = tlA fr to a := by
  have := tl_pr (fr := fr) (to := to) (prA a)
  rw [prA_pr] at this; exact this.symm
theorem tl_lt {fr to : Nat → Nat} {n m : Nat} (hn : ∀ i, i < m → fr i < n ∧ to i < n) {a : Nat} (ha : a < 2 * m) : tlA fr to a < n := by
  have := hn (a / 2) (by omega)
  unfold tlA; split <;> omega
theorem hd_lt {fr to : Nat → Nat} {n m : Nat} (hn : ∀ i, i < m → fr i < n ∧ to i < n) {a : Nat} (ha : a < 2 * m) : hdA fr to a < n := by
  have := hn (a / 2) (by omega)
  unfold hdA; split <;> omega
theorem xor1 {a : Nat} (h : a < 1000000) : bitsI .xor .i64 (a : Int) 1 = ((prA a : Nat) : Int) := by
  have e : bitsI .xor .i64 (a : Int) 1 = IntKind.i64.wrap ((BitVec.ofInt 64 (a : Int) ^^^ BitVec.ofInt 64 1).toNat : Int) := rfl
  have e1 : BitVec.ofInt 64 (a : Int) = BitVec.ofNat 64 a := BitVec.ofInt_natCast 64 a
  have e2 : (BitVec.ofNat 64 a ^^^ BitVec.ofInt 64 1).toNat = prA a := by
    rw [BitVec.toNat_xor, show (BitVec.ofInt 64 1).toNat = 1 from rfl, BitVec.toNat_ofNat, Nat.mod_eq_of_lt (by omega)]
    have h1 : (a ^^^ 1) / 2 = a / 2 := by rw [Nat.xor_div_two]; simp
    have h3 : (a ^^^ 1).testBit 0 = (a.testBit 0 ^^ (1 : Nat).testBit 0) := Nat.testBit_xor ..
    revert h1 h3
    generalize a ^^^ 1 = x
    intro h1 h3
    simp only [Nat.testBit_zero] at h3
    unfold prA
    by_cases h : a % 2 = 0
    · rw [if_pos h]
      have : x % 2 = 1 := by simpa [h] using h3
      omega
    · rw [if_neg h]
      have h' : a % 2 = 1 := by omega
      have : ¬ x % 2 = 1 := by simpa [h'] using h3
      omega
  rw [e, e1, e2]
  exact w64_in (by omega) (by unfold prA; split <;> omega)
end Go.Proofs.Ythglkcpoofenbaa

/-! The net in the heap: rooms, send, newNet. -/
namespace Go.Proofs.Ythglkcpoofenbaa
open Go
set_option linter.unusedVariables false
set_option linter.unusedSimpArgs false

/-- What is on the edges. -/
def onR (room : Nat → Int) (i : Nat) : Int := room (2 * i + 1)
def sndR (room : Nat → Int) (a : Nat) (x : Int) : Nat → Int := upd (upd room a (room a - x)) (prA a) (room (prA a) + x)
theorem sndR_a {room : Nat → Int} {a : Nat} {x : Int} : sndR room a x a = room a - x := by
  unfold sndR upd; rw [if_neg (fun h => prA_ne a h.symm), if_pos rfl]
theorem sndR_p {room : Nat → Int} {a : Nat} {x : Int} : sndR room a x (prA a) = room (prA a) + x := by
  unfold sndR upd; rw [if_pos rfl]
theorem sndR_o {room : Nat → Int} {a b : Nat} {x : Int} (h1 : b ≠ a) (h2 : b ≠ prA a) : sndR room a x b = room b := by
  unfold sndR upd; rw [if_neg h2, if_neg h1]
theorem sndR_0 {room : Nat → Int} {a : Nat} : sndR room a 0 = room := by
  funext b
  by_cases h1 : b = a
  · subst h1; rw [sndR_a]; omega
  · by_cases h2 : b = prA a
    · subst h2; rw [sndR_p]; omega
    · exact sndR_o h1 h2
/-- Rooms are right. -/
structure RmP (m : Nat) (cap : Nat → Int) (room : Nat → Int) : Prop where
  pos : ∀ a, a < 2 * m → 0 ≤ room a
  sum : ∀ i, i < m → room (2 * i) + room (2 * i + 1) = cap i
theorem RmP.pr {m : Nat} {cap room : Nat → Int} (R : RmP m cap room) {a : Nat} (ha : a < 2 * m) : room a + room (prA a) = cap (a / 2) := by
  have := R.sum (a / 2) (by omega)
  unfold prA
  split
  · have e : 2 * (a / 2) = a := by omega
    rw [e] at this; exact this
  · have e : 2 * (a / 2) = a - 1 := by omega
    rw [e, show a - 1 + 1 = a by omega] at this
    omega
theorem RmP.snd {m : Nat} {cap room : Nat → Int} (R : RmP m cap room) {a : Nat} {x : Int} (ha : a < 2 * m) (h0 : 0 ≤ x) (h1 : x ≤ room a) : RmP m cap (sndR room a x) := by
  have hp := prA_lt ha
  refine ⟨fun b hb => ?_, fun i hi => ?_⟩
  · by_cases e1 : b = a
    · subst e1; rw [sndR_a]; omega
    · by_cases e2 : b = prA a
      · subst e2; rw [sndR_p]; have := R.pos _ hp; omega
      · rw [sndR_o e1 e2]; exact R.pos b hb
  · have e0 := R.sum i hi
    by_cases e1 : 2 * i = a
    · subst e1
      have e2 : prA (2 * i) = 2 * i + 1 := by unfold prA; rw [if_pos (by omega)]
      have p := sndR_p (room := room) (a := 2 * i) (x := x)
      rw [e2] at p
      rw [sndR_a, p]; omega
    · by_cases e2 : 2 * i + 1 = a
      · subst e2
        have e3 : prA (2 * i + 1) = 2 * i := by unfold prA; rw [if_neg (by omega)]; omega
        have p := sndR_p (room := room) (a := 2 * i + 1) (x := x)
        rw [e3] at p
        rw [sndR_a, p]; omega
      · have : 2 * i ≠ prA a ∧ 2 * i + 1 ≠ prA a := by unfold prA; split <;> omega
        rw [sndR_o e1 this.1, sndR_o e2 this.2]; exact e0
/-- What goes along an arc goes from its tail to its head. -/
theorem out_snd {m : Nat} {fr to : Nat → Nat} {room : Nat → Int} {a : Nat} {x : Int} (ha : a < 2 * m) (v : Nat) :
    OutF m fr to (onR (sndR room a x)) v = OutF m fr to (onR room) v + (if tlA fr to a = v then x else 0) - (if hdA fr to a = v then x else 0) := by
  have e : ∀ i, i < m → ((if fr i = v then onR (sndR room a x) i else 0) - (if to i = v then onR (sndR room a x) i else 0)) =
      ((if fr i = v then onR room i else 0) - (if to i = v then onR room i else 0)) + (if a / 2 = i then (if tlA fr to a = v then x else 0) - (if hdA fr to a = v then x else 0) else 0) := by
    intro i hi
    unfold onR
    by_cases e1 : a / 2 = i
    · rw [if_pos e1]
      by_cases h2 : a % 2 = 0
      · have ea : a = 2 * i := by omega
        have p := sndR_p (room := room) (a := a) (x := x)
        have ep : prA a = 2 * i + 1 := by unfold prA; rw [if_pos h2, ea]
        rw [ep] at p
        rw [p]
        unfold tlA hdA
        rw [if_pos h2, if_pos h2, e1]
        split <;> split <;> omega
      · have ea : a = 2 * i + 1 := by omega
        have p := sndR_a (room := room) (a := a) (x := x)
        rw [← ea, p]
        unfold tlA hdA
        rw [if_neg h2, if_neg h2, e1]
        split <;> split <;> omega
    · rw [if_neg e1, sndR_o (by omega) (by unfold prA; split <;> omega)]; omega
  unfold OutF
  rw [sumN_congr e, sumN_add, sumN_pt, if_pos (by omega)]; omega
/-- A step with room is a residual step. -/
theorem rs_arc {m : Nat} {fr to : Nat → Nat} {cap room : Nat → Int} (R : RmP m cap room) {u v : Nat} :
    RsS m fr to cap (onR room) u v ↔ ∃ a, a < 2 * m ∧ tlA fr to a = u ∧ hdA fr to a = v ∧ 0 < room a := by
  constructor
  · rintro ⟨i, hi, ⟨h1, h2, h3⟩ | ⟨h1, h2, h3⟩⟩
    · refine ⟨2 * i, by omega, ?_, ?_, ?_⟩
      · unfold tlA; rw [if_pos (by omega), show 2 * i / 2 = i by omega]; exact h1
      · unfold hdA; rw [if_pos (by omega), show 2 * i / 2 = i by omega]; exact h2
      · have := R.sum i hi
        unfold onR at h3; omega
    · refine ⟨2 * i + 1, by omega, ?_, ?_, h3⟩
      · unfold tlA; rw [if_neg (by omega), show (2 * i + 1) / 2 = i by omega]; exact h1
      · unfold hdA; rw [if_neg (by omega), show (2 * i + 1) / 2 = i by omega]; exact h2
  · rintro ⟨a, ha, h1, h2, h3⟩
    refine ⟨a / 2, by omega, ?_⟩
    unfold tlA at h1
    unfold hdA at h2
    have := R.sum (a / 2) (by omega)
    unfold onR
    by_cases h : a % 2 = 0
    · rw [if_pos h] at h1 h2
      have e : 2 * (a / 2) = a := by omega
      rw [e] at this
      exact .inl ⟨h1, h2, by rw [e]; omega⟩
    · rw [if_neg h] at h1 h2
      have e : 2 * (a / 2) + 1 = a := by omega
      exact .inr ⟨h1, h2, by rw [e]; exact h3⟩

/-- The net in the heap: owners 1 (to), 2 (room), 3 (out), 4 (the struct), 20 + v (out of v). -/
structure Net (own : Own) (h : H) (bn n m : Nat) (fr to : Nat → Nat) (s t : Nat) (room : Nat → Int) : Prop where
  ex : ∃ vto vroom vout outs, B1 own h 4 bn [vto, vroom, vout, .int .i64 s, .int .i64 t] ∧ S1 own h 1 vto (ints (2 * m) fun a => (hdA fr to a : Nat)) ∧
    S1 own h 2 vroom (ints (2 * m) room) ∧ S1 own h 3 vout (va n outs) ∧ ∀ v, v < n → S1 own h (20 + v) (outs v) (natV (arcsL fr to m v))
section
variable {own own' : Own} {h h' : H} {bn n m s t : Nat} {fr to : Nat → Nat} {room room' : Nat → Int} {M : List Nat}
theorem Net.fm (N : Net own h bn n m fr to s t room) (F : Fm M own h own' h') (h1 : ∀ i, i ∈ M → 4 < i ∧ i < 20) : Net own' h' bn n m fr to s t room := by
  obtain ⟨a, b, c, d, k1, k2, k3, k4, k5⟩ := N.ex
  have no : ∀ j, (j ≤ 4 ∨ 20 ≤ j) → j ∉ M := fun j hj hm => by have := h1 j hm; omega
  exact ⟨a, b, c, d, k1.fm F (no _ (by omega)), k2.fm F (no _ (by omega)), k3.fm F (no _ (by omega)), k4.fm F (no _ (by omega)), fun v hv => (k5 v hv).fm F (no _ (by omega))⟩
theorem Net.ext (N : Net own h bn n m fr to s t room) (x : Ext h h') : Net own h' bn n m fr to s t room := N.fm (M := []) (Fm.of_ext x) (by simp)
theorem Net.new {b i : Nat} (N : Net own h bn n m fr to s t room) (x : Ext h h') (hb : h b = none) : Net (own1 own b i) h' bn n m fr to s t room := N.fm (M := []) (Fm.new x hb) (by simp)

/-- A room anew, whose owner alone changed. -/
theorem send_T (N : Net own h bn n m fr to s t room) (hm : m ≤ 4096) {a : Nat} {x : Int} (ha : a < 2 * m)
    (w1 : -9223372036854775808 ≤ room a - x ∧ room a - x < 9223372036854775808) (w2 : -9223372036854775808 ≤ room (prA a) + x ∧ room (prA a) + x < 9223372036854775808) :
    T Try.prog F.maxflow_net_send [.pointer (some (bk bn)), .int .i64 a, .int .i64 x] h fun r h' =>
      r = .ret (.tuple ⟨[]⟩) ∧ Fm [2] own h own h' ∧ Net own h' bn n m fr to s t (sndR room a x) := by
  obtain ⟨vto, vroom, vout, outs, k1, k2, k3, k4, k5⟩ := N.ex
  refine E_maxflow_net_send ?_
  unfold B_maxflow_net_send
  refine ⟨_, k1.ld rfl, k3.rdI ha ?_⟩
  refine k3.setI ha ?_
  intro g2 F2 k3'
  have k1' := k1.fm F2 (by simp)
  refine ⟨_, k1'.ld rfl, ?_⟩
  have hp := prA_lt ha
  rw [xor1 (by omega)]
  refine k3'.rdI hp ?_
  refine k3'.setI hp ?_
  intro g3 F3 k3''
  have F : Fm [2] own h own g3 := F2.trans F3
  refine ⟨rfl, F, vto, vroom, vout, outs, k1.fm F (by simp), k2.fm F (by simp), ?_, k4.fm F (by simp), fun v hv => (k5 v hv).fm F (by simp; omega)⟩
  have e : upd (upd room a (IntKind.i64.wrap (room a - x))) (prA a) (IntKind.i64.wrap (upd room a (IntKind.i64.wrap (room a - x)) (prA a) + x)) = sndR room a x := by
    have e1 : IntKind.i64.wrap (room a - x) = room a - x := w64_in w1.1 w1.2
    have e2 : upd room a (IntKind.i64.wrap (room a - x)) (prA a) = room (prA a) := if_neg (prA_ne a)
    have e3 : IntKind.i64.wrap (room (prA a) + x) = room (prA a) + x := w64_in w2.1 w2.2
    rw [e2, e1, e3]; rfl
  rw [← e]; exact k3''
end

end Go.Proofs.Ythglkcpoofenbaa

/-! newNet. -/
namespace Go.Proofs.Ythglkcpoofenbaa
open Go
set_option linter.unusedVariables false
set_option linter.unusedSimpArgs false

/-- Rooms at first. -/
def room0 (cap : Nat → Int) (a : Nat) : Int := if a % 2 = 0 then cap (a / 2) else 0
theorem room0_ok {m : Nat} {cap : Nat → Int} (h : ∀ i, i < m → 0 ≤ cap i) : RmP m cap (room0 cap) := by
  refine ⟨fun a ha => ?_, fun i hi => ?_⟩
  · have := h (a / 2) (by omega)
    unfold room0; split <;> omega
  · unfold room0
    rw [if_pos (by omega), if_neg (by omega), show 2 * i / 2 = i by omega]; omega
theorem room0_out {m : Nat} {cap : Nat → Int} {fr to : Nat → Nat} (v : Nat) : OutF m fr to (onR (room0 cap)) v = 0 := by
  refine sumN_zero fun i hi => ?_
  have : onR (room0 cap) i = 0 := by unfold onR room0; rw [if_neg (by omega)]
  rw [this]; split <;> split <;> rfl
theorem ints_snoc2 {i : Nat} {f : Nat → Int} {x y : Int} (hx : f (2 * i) = x) (hy : f (2 * i + 1) = y) : ints (2 * i) f ++ [.int .i64 x, .int .i64 y] = ints (2 * (i + 1)) f := by
  unfold ints
  rw [show 2 * (i + 1) = 2 * i + 1 + 1 by omega, List.range_succ, List.range_succ]
  simp [hx, hy]
theorem natV_append (a b : List Nat) : natV (a ++ b) = natV a ++ natV b := by simp [natV]

section
variable {h : H} {w : List Value} {n m s t : Nat} {es : Nat → Ed}

theorem newNet_T (G : GrA h w n m es) (g : Gd n m es) : T Try.prog F.maxflow_newNet [.agg ⟨w⟩, .int .i64 s, .int .i64 t] h fun r h' =>
    ∃ bn own, r = .ret (.pointer (some (bk bn))) ∧ Bs h own h' ∧ Net own h' bn n m (frE es) (toE es) s t (room0 (cpE es)) := by
  have n1 := g.n1
  have m1 := g.m1
  refine E_maxflow_newNet ?_
  unfold B_maxflow_newNet
  refine new_bl ?_
  intro b1 g1 hb1 x1 B
  obtain ⟨a, c, rfl, hc⟩ := G
  refine ⟨_, B.ld rfl, mk_S1 3 (by omega) (by omega) ?_⟩
  intro b4 g4 hb4 x4 S4
  refine new_bl ?_
  intro b6 g6 hb6 x6 B6
  have B1' := (B.ext x4).ext x6
  refine ⟨_, B1'.ld rfl, slcP_mk ?_⟩
  let own0 : Own := fun _ => 0
  let ownB := own1 (own1 (own1 own0 b1 9) b4 3) b6 4
  have bs : Bs h ownB g6 := ((Bs.start.new x1 hb1).new x4 hb4).new x6 hb6
  have e9 : B1 ownB g6 9 b1 [.int .i64 n, .slice a m c] := ((B1.new B).newo x4 hb4).newo x6 hb6
  have s4 : S1 ownB g6 3 (.slice (some (bk b4)) n n) (va n fun _ => .slice none 0 0) := (S4 _).new x6 hb6
  have b6' : B1 ownB g6 4 b6 [.slice none 0 0, .slice none 0 0, .slice (some (bk b4)) n n, .int .i64 s, .int .i64 t] := B1.new B6
  let I : (Int × Unit) → H → Nat → Prop := fun p q k => ∃ (i : Nat) (own : Own) (vto vroom : Value) (outs : Nat → Value), p.1 = i ∧ i ≤ m ∧ k = m - i ∧ Bs h own q ∧
    B1 own q 9 b1 [.int .i64 n, .slice a m c] ∧
    B1 own q 4 b6 [vto, vroom, .slice (some (bk b4)) n n, .int .i64 s, .int .i64 t] ∧ S1 own q 1 vto (ints (2 * i) fun a => (hdA (frE es) (toE es) a : Nat)) ∧
    S1 own q 2 vroom (ints (2 * i) (room0 (cpE es))) ∧ S1 own q 3 (.slice (some (bk b4)) n n) (va n outs) ∧ ∀ v, v < n → S1 own q (20 + v) (outs v) (natV (arcsL (frE es) (toE es) i v))
  refine ⟨fun s g2 => ∃ k, I s g2 k, rk I, rk_wf I, ⟨_, 0, ownB, _, _, _, rfl, by omega, rfl, bs, e9, b6', S1.nil, S1.nil, s4, fun v hv => S1.nil⟩, ?_⟩
  intro p q hI
  obtain ⟨i, own, vto, vroom, outs, e1, hi, hk, bs, k9, k4, k1, k2, k3, k5⟩ := mu_spec hI
  generalize hkk : mu I ((p, ()), q) = k at *
  change p = (i : Int) at e1
  subst e1
  refine ifP_of (fun h1 => ?_) (fun h1 => ?_)
  · have him : i < m := by have := of_decide_eq_true h1; omega
    obtain ⟨ad, rfl, hcc⟩ := hc i him
    have ef := g.fr him
    have et := g.to him
    refine ⟨by omega, by omega, ?_⟩
    rw [Int.toNat_natCast]
    refine ⟨(es i).vs, rfl, fun j v hj => bs.ext.cell (hcc j v hj), ?_⟩
    refine new_bl_st rfl rfl (ed_one _) ?_
    intro b18 g20 hb18 x20 B18
    have bs := bs.new (i := 8) x20 hb18
    have k9 := k9.newo (j := 8) x20 hb18
    have k4 := k4.newo (j := 8) x20 hb18
    have k1 := k1.new (j := 8) x20 hb18
    have k2 := k2.new (j := 8) x20 hb18
    have k3 := k3.new (j := 8) x20 hb18
    have k5 := fun v hv => (k5 v hv).new (j := 8) x20 hb18
    have k8 : B1 (own1 own b18 8) g20 8 b18 (es i).vs := B1.new B18
    generalize own1 own b18 8 = own at *
    refine ⟨_, k4.ld rfl, k1.len (ints_length _ _) fun _ _ => ?_⟩
    refine ⟨_, k4.ld rfl, _, k8.ld rfl, _, k8.ld rfl, ?_⟩
    refine k1.push rfl (by simp [Value.oneCell']) (by simp) (by omega) (by rw [ints_length]; omega) ?_
    intro _ _ vto' own2 g31 _ _ F2 k1'
    refine oneP_slc k1'.isS ?_
    have bs := bs.fm F2 (by simp)
    have k9 := k9.fm F2 (by simp)
    have k8 := k8.fm F2 (by simp)
    have k4 := k4.fm F2 (by simp)
    have k2 := k2.fm F2 (by simp)
    have k3 := k3.fm F2 (by simp)
    have k5 := fun v hv => (k5 v hv).fm F2 (by simp <;> omega)
    refine k4.st (by simp) ?_
    intro g32 F3 k4
    simp only [List.set] at k4
    have bs := bs.fm F3 (by simp)
    have k9 := k9.fm F3 (by simp)
    have k8 := k8.fm F3 (by simp)
    have k1 := k1'.fm F3 (by simp)
    have k2 := k2.fm F3 (by simp)
    have k3 := k3.fm F3 (by simp)
    have k5 := fun v hv => (k5 v hv).fm F3 (by simp <;> omega)
    rw [ef.1, et.1, ints_snoc2 (by unfold hdA; rw [if_pos (by omega), show 2 * i / 2 = i by omega]) (by unfold hdA; rw [if_neg (by omega), show (2 * i + 1) / 2 = i by omega])] at k1
    refine ⟨_, k4.ld rfl, _, k8.ld rfl, ?_⟩
    refine k2.push rfl (by simp [Value.oneCell']) (by simp) (by omega) (by rw [ints_length]; omega) ?_
    intro _ _ vroom' own3 g38 _ _ F4 k2'
    refine oneP_slc k2'.isS ?_
    have bs := bs.fm F4 (by simp)
    have k9 := k9.fm F4 (by simp)
    have k8 := k8.fm F4 (by simp)
    have k4 := k4.fm F4 (by simp)
    have k1 := k1.fm F4 (by simp)
    have k3 := k3.fm F4 (by simp)
    have k5 := fun v hv => (k5 v hv).fm F4 (by simp <;> omega)
    refine k4.st (by simp) ?_
    intro g39 F5 k4
    simp only [List.set] at k4
    have bs := bs.fm F5 (by simp)
    have k9 := k9.fm F5 (by simp)
    have k8 := k8.fm F5 (by simp)
    have k1 := k1.fm F5 (by simp)
    have k2 := k2'.fm F5 (by simp)
    have k3 := k3.fm F5 (by simp)
    have k5 := fun v hv => (k5 v hv).fm F5 (by simp <;> omega)
    rw [ints_snoc2 (by unfold room0; rw [if_pos (by omega), show 2 * i / 2 = i by omega]) (by unfold room0; rw [if_neg (by omega)])] at k2
    refine ⟨_, k4.ld rfl, _, k8.ld rfl, _, k4.ld rfl, _, k8.ld rfl, ?_⟩
    rw [ef.1]
    refine k3.rdV ef.2 ?_
    have lf := arcsL_length (fr := frE es) (to := toE es) (v := frE es i) (i := i)
    refine (k5 _ ef.2).push rfl (by simp [Value.oneCell']) (by simp) (by omega) (by rw [natV_length]; omega) ?_
    intro _ g47 so own4 g49 _ x47 F6 ko
    have bs := bs.fm F6 (by simp <;> omega)
    have k9 := k9.fm F6 (by simp <;> omega)
    have k8' := k8.fm F6 (by simp <;> omega)
    have k4' := k4.fm F6 (by simp <;> omega)
    have k1 := k1.fm F6 (by simp <;> omega)
    have k2 := k2.fm F6 (by simp <;> omega)
    have k3 := k3.fm F6 (by simp <;> omega)
    have k5 := fun v hv (hne : v ≠ frE es i) => (k5 v hv).fm F6 (by simp <;> omega)
    refine ⟨sameAt_b1 (k8.ext x47) k8', sameAt_b1 (k4.ext x47) k4', ?_⟩
    refine k3.setO ef.2 ko.isS ?_
    intro g51 F7 k3
    have k8 := k8'
    have k4 := k4'
    have bs := bs.fm F7 (by simp <;> omega)
    have k9 := k9.fm F7 (by simp <;> omega)
    have k8 := k8.fm F7 (by simp <;> omega)
    have k4 := k4.fm F7 (by simp <;> omega)
    have k1 := k1.fm F7 (by simp <;> omega)
    have k2 := k2.fm F7 (by simp <;> omega)
    have ko := ko.fm F7 (by simp <;> omega)
    have k5' : ∀ v, v < n → S1 own4 g51 (20 + v) (updV outs (frE es i) so v) (natV (arcsL (frE es) (toE es) i v ++ (if frE es i = v then [2 * i] else []))) := by
      intro v hv
      unfold updV
      by_cases e : v = frE es i
      · rw [if_pos e, if_pos e.symm, natV_append, e]; exact ko
      · rw [if_neg e, if_neg (fun h => e h.symm), List.append_nil]
        exact ((k5 v hv e).fm F7 (by simp <;> omega))
    clear k5
    have k5 := k5'
    clear k5'
    refine ⟨_, k4.ld rfl, _, k8.ld rfl, _, k4.ld rfl, _, k8.ld rfl, ?_⟩
    rw [et.1]
    refine k3.rdV et.2 ?_
    have lf := arcsL_length (fr := frE es) (to := toE es) (v := toE es i) (i := i)
    refine (k5 _ et.2).push rfl (by simp [Value.oneCell']) (by simp) (by omega) (by rw [natV_length, List.length_append]; split <;> simp <;> omega) ?_
    intro _ g59 so2 own5 g61 _ x59 F8 ko
    have k8' := k8
    have k4' := k4
    have bs := bs.fm F8 (by simp <;> omega)
    have k9 := k9.fm F8 (by simp <;> omega)
    have k8' := k8'.fm F8 (by simp <;> omega)
    have k4' := k4'.fm F8 (by simp <;> omega)
    have k1 := k1.fm F8 (by simp <;> omega)
    have k2 := k2.fm F8 (by simp <;> omega)
    have k3 := k3.fm F8 (by simp <;> omega)
    have k5 := fun v hv (hne : v ≠ toE es i) => (k5 v hv).fm F8 (by simp <;> omega)
    refine ⟨sameAt_b1 (k8.ext x59) k8', sameAt_b1 (k4.ext x59) k4', ?_⟩
    refine k3.setO et.2 ko.isS ?_
    intro g63 F9 k3
    have bs := bs.fm F9 (by simp <;> omega)
    have k9 := k9.fm F9 (by simp <;> omega)
    have k4' := k4'.fm F9 (by simp <;> omega)
    have k1 := k1.fm F9 (by simp <;> omega)
    have k2 := k2.fm F9 (by simp <;> omega)
    have ko := ko.fm F9 (by simp <;> omega)
    rw [i64_inc (by omega)]
    refine mu_next (I := I) (k := m - (i + 1)) ⟨i + 1, own5, vto', vroom', _, rfl, him, rfl, bs, k9, k4', k1, k2, k3, ?_⟩ (by rw [hkk, hk]; omega)
    intro v hv
    unfold updV arcsL
    rw [← List.append_assoc, natV_append]
    by_cases e : v = toE es i
    · rw [if_pos e, if_pos e.symm, e]
      have e2 : natV [2 * i + 1] = [.int .i64 (IntKind.i64.wrap (((2 * i : Nat) : Int) + 1))] := by rw [i64_inc (by omega)]; rfl
      rw [e2]; exact ko
    · rw [if_neg e, if_neg (c := toE es i = v) (fun h => e h.symm)]
      have := (k5 v hv e).fm F9 (by simp <;> omega)
      simpa [natV, updV] using this
  · have : i = m := by have := of_decide_eq_false h1; omega
    subst this
    exact ⟨b6, own, rfl, bs, vto, vroom, _, outs, k4, k1, k2, k3, k5⟩
end

end Go.Proofs.Ythglkcpoofenbaa

/-! levels. -/
namespace Go.Proofs.Ythglkcpoofenbaa
open Go
set_option linter.unusedVariables false
set_option linter.unusedSimpArgs false

/-- A step along an arc with room. -/
def ArS (m : Nat) (fr to : Nat → Nat) (room : Nat → Int) (u v : Nat) : Prop := ∃ a, a < 2 * m ∧ tlA fr to a = u ∧ hdA fr to a = v ∧ 0 < room a
/-- What levels tells. -/
structure LevP (n m : Nat) (fr to : Nat → Nat) (room : Nat → Int) (s : Nat) (lev : Nat → Int) : Prop where
  src : lev s = 0
  bd : ∀ v, v < n → -1 ≤ lev v ∧ lev v < n
  pred : ∀ v, v < n → 0 < lev v → ∃ a, a < 2 * m ∧ hdA fr to a = v ∧ 0 < room a ∧ lev (tlA fr to a) = lev v - 1
  cl : ∀ a, a < 2 * m → 0 < room a → 0 ≤ lev (tlA fr to a) → 0 ≤ lev (hdA fr to a)
  one : ∀ v, v < n → lev v = 0 → v = s
theorem LevP.iff {n m : Nat} {fr to : Nat → Nat} {room : Nat → Int} {s : Nat} {lev : Nat → Int} (L : LevP n m fr to room s lev)
    (hn : ∀ i, i < m → fr i < n ∧ to i < n) {v : Nat} (hv : v < n) : 0 ≤ lev v ↔ Rch (ArS m fr to room) s v := by
  constructor
  · have key : ∀ k : Nat, ∀ v, v < n → lev v = k → Rch (ArS m fr to room) s v := by
      intro k
      induction k with
      | zero => intro v hv e; rw [L.one v hv e]; exact .refl
      | succ k ih =>
        intro v hv e
        obtain ⟨a, ha, h1, h2, h3⟩ := L.pred v hv (by omega)
        exact (ih (tlA fr to a) (tl_lt hn ha) (by omega)).step ⟨a, ha, rfl, h1, h2⟩
    intro h
    exact key (lev v).toNat v hv (by omega)
  · intro r
    refine (r.closed (C := fun v => v < n → 0 ≤ lev v) (fun _ => by rw [L.src]; omega) ?_) hv
    rintro u w hu ⟨a, ha, rfl, rfl, hr⟩ _
    exact L.cl a ha hr (hu (tl_lt hn ha))

/-- Loops over 0 .. n-1 that set all. -/
theorem upd_lt {f : Nat → Int} {i : Nat} {x : Int} : (fun v => if v < i + 1 then x else f v) = upd (fun v => if v < i then x else f v) i x := by
  funext v
  unfold upd
  by_cases h1 : v = i
  · rw [if_pos h1, if_pos (by omega)]
  · rw [if_neg h1]
    show _ = if v < i then x else f v
    by_cases h2 : v < i
    · rw [if_pos h2, if_pos (by omega)]
    · rw [if_neg h2, if_neg (by omega)]
def cntN (n : Nat) (lev : Nat → Int) : Int := sumN n fun v => if lev v < 0 then 1 else 0
theorem cntN_upd {n w : Nat} {lev : Nat → Int} {x : Int} (hw : w < n) (h : lev w < 0) (hx : 0 ≤ x) : cntN n (upd lev w x) = cntN n lev - 1 := by
  unfold cntN
  have e : (fun v => if upd lev w x v < 0 then (1 : Int) else 0) = upd (fun v => if lev v < 0 then 1 else 0) w 0 := by
    funext v
    unfold upd
    by_cases h1 : v = w
    · rw [if_pos h1, if_pos h1, if_neg (by omega)]
    · rw [if_neg h1, if_neg h1]
  rw [e, sumN_upd hw, if_pos h]; omega
theorem cntN_nn {n : Nat} {lev : Nat → Int} : 0 ≤ cntN n lev := sumN_nonneg fun i _ => by split <;> omega

/-- The queue holds all that have a level; those before i are done. -/
structure LvI (n m : Nat) (fr to : Nat → Nat) (room : Nat → Int) (s i : Nat) (Q : List Nat) (lev : Nat → Int) : Prop where
  src : lev s = 0
  lo : ∀ v, v < n → -1 ≤ lev v
  up : ∀ v, v < n → lev v < Q.length
  mem : ∀ v, v ∈ Q → v < n ∧ 0 ≤ lev v
  all : ∀ v, v < n → 0 ≤ lev v → v ∈ Q
  cnt : (Q.length : Int) + cntN n lev = n
  pred : ∀ v, v < n → 0 < lev v → ∃ a, a < 2 * m ∧ hdA fr to a = v ∧ 0 < room a ∧ lev (tlA fr to a) = lev v - 1
  one : ∀ v, v < n → lev v = 0 → v = s
  done : ∀ k, k < i → ∀ hk : k < Q.length, ∀ a, a < 2 * m → tlA fr to a = Q[k] → 0 < room a → 0 ≤ lev (hdA fr to a)
section
variable {n m i : Nat} {fr to : Nat → Nat} {room : Nat → Int} {s w : Nat} {Q : List Nat} {lev : Nat → Int}
theorem LvI.next (L : LvI n m fr to room s i Q lev) (hn : ∀ i, i < m → fr i < n ∧ to i < n) {a : Nat} (hi : i < Q.length) (ha : a < 2 * m) (ht : tlA fr to a = Q[i]) (hr : 0 < room a) (hl : lev (hdA fr to a) < 0) :
    LvI n m fr to room s i (Q ++ [hdA fr to a]) (upd lev (hdA fr to a) (lev Q[i] + 1)) := by
  have hw := hd_lt hn ha
  have hq := L.mem _ (List.getElem_mem hi)
  have hqb := L.up _ hq.1
  have ne : Q[i] ≠ hdA fr to a := by intro e; rw [e] at hq; omega
  have keep : ∀ v, 0 ≤ lev v → upd lev (hdA fr to a) (lev Q[i] + 1) v = lev v := by
    intro v hv
    unfold upd
    rw [if_neg]
    rintro rfl; omega
  have at_ : upd lev (hdA fr to a) (lev Q[i] + 1) (hdA fr to a) = lev Q[i] + 1 := if_pos rfl
  have grow : ∀ v, 0 ≤ lev v → 0 ≤ upd lev (hdA fr to a) (lev Q[i] + 1) v := fun v hv => by rw [keep v hv]; exact hv
  refine ⟨?_, ?_, ?_, ?_, ?_, ?_, ?_, ?_, ?_⟩
  · rw [keep _ (by rw [L.src]; omega)]; exact L.src
  · intro v hv
    have := L.lo v hv
    unfold upd; split <;> omega
  · intro v hv
    have := L.up v hv
    rw [List.length_append]
    unfold upd; split <;> simp <;> omega
  · intro v hv
    rcases List.mem_append.1 hv with h | h
    · exact ⟨(L.mem v h).1, grow v (L.mem v h).2⟩
    · have : v = hdA fr to a := by simpa using h
      subst this
      exact ⟨hw, by rw [at_]; omega⟩
  · intro v hv h
    rw [List.mem_append]
    by_cases e : v = hdA fr to a
    · exact .inr (by simp [e])
    · refine .inl (L.all v hv ?_)
      unfold upd at h
      rwa [if_neg e] at h
  · rw [cntN_upd hw hl (by omega), List.length_append]
    have := L.cnt
    simp; omega
  · intro v hv h
    by_cases e : v = hdA fr to a
    · subst e
      refine ⟨a, ha, rfl, hr, ?_⟩
      rw [at_, ht, keep _ hq.2]; omega
    · have h' : upd lev (hdA fr to a) (lev Q[i] + 1) v = lev v := if_neg e
      rw [h'] at h ⊢
      obtain ⟨b, hb, h1, h2, h3⟩ := L.pred v hv h
      exact ⟨b, hb, h1, h2, by rw [keep _ (by omega)]; exact h3⟩
  · intro v hv h
    by_cases e : v = hdA fr to a
    · subst e; rw [at_] at h; omega
    · have h' : upd lev (hdA fr to a) (lev Q[i] + 1) v = lev v := if_neg e
      rw [h'] at h; exact L.one v hv h
  · intro k hk hk2 b hb h1 h2
    have hkq : k < Q.length := by omega
    rw [List.getElem_append_left hkq] at h1
    exact grow _ (L.done k hk hkq b hb h1 h2)
end

section
variable {own : Own} {h : H} {bn n m s t : Nat} {fr to : Nat → Nat} {room : Nat → Int}
theorem levels_T (N : Net own h bn n m fr to s t room) (hn : ∀ i, i < m → fr i < n ∧ to i < n) (n1 : n ≤ 1024) (m1 : m ≤ 4096) {v0 : Nat} (hv : v0 < n) :
    T Try.prog F.maxflow_net_levels [.pointer (some (bk bn)), .int .i64 v0] h fun r h' => Ext h h' ∧ ∃ b lev, r = .ret (.slice (some (bk b)) n n) ∧ h b = none ∧
      Sl h' b (.slice (some (bk b)) n n) (ints n lev) ∧ LevP n m fr to room v0 lev := by
  have N0 := N
  obtain ⟨vto, vroom, vout, outs, k4, k1, k2, k3, k5⟩ := N.ex
  refine E_maxflow_net_levels ?_
  unfold B_maxflow_net_levels
  refine ⟨_, k4.ld rfl, k3.len (va_length _ _) fun _ _ => ?_⟩
  refine mk_ints 6 (by omega) (by omega) ?_
  intro b6 g6 hb6 x6 S6
  have toN : ((n : Nat) : Int).toNat = n := Int.toNat_natCast n
  rw [toN]
  let ownB := own1 (fun _ => 0) b6 6
  have bs : Bs h ownB g6 := Bs.start.new x6 hb6
  -- all are -1
  let I0 : (Int × Unit) → H → Nat → Prop := fun p q k => ∃ i : Nat, p.1 = i ∧ i ≤ n ∧ k = n - i ∧ Bs h ownB q ∧ S1 ownB q 6 (.slice (some (bk b6)) n n) (ints n fun v => if v < i then -1 else 0)
  refine ⟨fun p q => ∃ k, I0 p q k, rk I0, rk_wf I0, ⟨_, 0, rfl, by omega, rfl, bs, by simpa using S6 _⟩, ?_⟩
  clear bs
  intro p q hI
  obtain ⟨i, e1, hi, hk, bs, k6⟩ := mu_spec hI
  generalize hkk : mu I0 ((p, ()), q) = k at *
  change p = (i : Int) at e1
  subst e1
  refine ifP_of (fun h1 => ?_) (fun h1 => ?_)
  · have him : i < n := by have := of_decide_eq_true h1; omega
    refine k6.setI him ?_
    intro g F k6
    have bs := bs.fm F (by simp <;> omega)
    rw [i64_inc (by omega)]
    exact mu_next (I := I0) (k := n - (i + 1)) ⟨i + 1, rfl, him, rfl, bs, by rw [upd_lt]; exact k6⟩ (by rw [hkk, hk]; omega)
  have : i = n := by have := of_decide_eq_false h1; omega
  subst this
  clear hI hkk hk k h1
  -- the start
  refine k6.setI hv ?_
  intro g15 F k6
  have bs := bs.fm F (by simp <;> omega)
  clear F
  refine new_bl ?_
  intro b16 g17 hb16 x17 B16
  have bs := bs.nw (j := 7) x17 hb16
  have k6 := k6.nw (j := 7) x17 hb16
  have k7 : S1 (own1 ownB b16 7) g17 7 (.slice (some (bk b16)) 1 1) (natV [v0]) := .inr ⟨b16, own1_at, 1, B16.choose, [], rfl, B16.choose_spec, rfl⟩
  generalize own1 ownB b16 7 = own2 at *
  clear hb16 x17 B16 S6
  let I : (Value × Int × Unit) → H → Nat → Prop := fun p q k => ∃ (j : Nat) (Q : List Nat) (lev : Nat → Int) (own3 : Own), p.2.1 = j ∧ j ≤ Q.length ∧ k = i - j ∧ Bs h own3 q ∧
    S1 own3 q 7 p.1 (natV Q) ∧ S1 own3 q 6 (.slice (some (bk b6)) i i) (ints i lev) ∧ LvI i m fr to room v0 j Q lev
  refine ⟨fun p q => ∃ k, I p q k, rk I, rk_wf I, ⟨_, 0, [v0], _, own2, rfl, by simp, rfl, bs, k7, k6, ?_⟩, ?_⟩
  · refine ⟨if_pos rfl, ?_, ?_, ?_, ?_, ?_, ?_, ?_, fun k hk => absurd hk (by omega)⟩
    · intro v hv; unfold upd; split <;> simp [hv]
    · intro v hv; unfold upd; split <;> simp [hv]
    · intro v hv
      rw [List.mem_singleton] at hv
      subst hv
      exact ⟨by assumption, by unfold upd; rw [if_pos rfl]; omega⟩
    · intro v hv h
      unfold upd at h
      by_cases e : v = v0
      · simp [e]
      · rw [if_neg e] at h; simp [hv] at h
    · rw [cntN_upd hv (by simp [hv]) (by omega)]
      have : cntN i (fun v => if v < i then -1 else 0) = i := by
        unfold cntN
        have : sumN i (fun v => if (if v < i then (-1 : Int) else 0) < 0 then (1 : Int) else 0) = sumN i fun _ => 1 := sumN_congr fun v hv => by simp [hv]
        rw [this, sumN_const]; omega
      rw [this]; simp; omega
    · intro v hv h
      unfold upd at h
      by_cases e : v = v0
      · simp [e] at h
      · rw [if_neg e] at h; simp [hv] at h
    · intro v hv h
      unfold upd at h
      by_cases e : v = v0
      · exact e
      · rw [if_neg e] at h; simp [hv] at h
  clear bs k6 k7 own2
  intro qv p q hI
  obtain ⟨j, Q, lev, own2, e1, hj, hk, bs, k7, k6, L⟩ := mu_spec hI
  generalize hkk : mu I ((qv, p, ()), q) = k at *
  change p = (j : Int) at e1
  subst e1
  change S1 own2 q 7 qv (natV Q) at k7
  refine k7.len (natV_length _) fun _ _ => ifP_of (fun h1 => ?_) (fun h1 => ?_)
  · have hjq : j < Q.length := by have := of_decide_eq_true h1; omega
    have hqj := L.mem _ (List.getElem_mem hjq)
    have hju := L.cnt
    have hjn := cntN_nn (n := i) (lev := lev)
    generalize hv1 : Q[j] = v1 at hqj
    refine ptrP_mk (k7.at (natV_get hjq) fun aq eq => ?_)
    refine ⟨_, (k4.ext bs.ext).ld rfl, _, eq, ?_⟩
    refine (k3.ext bs.ext).rdV (hv1 ▸ hqj.1) ?_
    rw [hv1]
    have k5q := k5 _ hqj.1
    refine k5q.len (natV_length _) fun _ _ => ?_
    let I35 : (Value × Int × Unit) → H → Nat → Prop := fun p q k => ∃ (l : Nat) (Q : List Nat) (lev : Nat → Int) (own3 : Own) (hjq : j < Q.length), p.2.1 = l ∧ l ≤ (arcsL fr to m Q[j]).length ∧ k = (arcsL fr to m Q[j]).length - l ∧ Bs h own3 q ∧
      S1 own3 q 7 p.1 (natV Q) ∧ S1 own3 q 6 (.slice (some (bk b6)) i i) (ints i lev) ∧ LvI i m fr to room v0 j Q lev ∧ Q[j] = v1 ∧
      (∀ l', l' < l → ∀ hl : l' < (arcsL fr to m Q[j]).length, 0 < room (arcsL fr to m Q[j])[l'] → 0 ≤ lev (hdA fr to (arcsL fr to m Q[j])[l']))
    refine ⟨fun p q => ∃ k, I35 p q k, rk I35, rk_wf I35, ⟨_, 0, Q, lev, own2, hjq, rfl, by omega, rfl, bs, k7, k6, L, hv1, fun l' hl' => absurd hl' (by omega)⟩, ?_⟩
    clear bs k6 k7 own2 L hqj eq aq
    intro qv2 p q2 hI2
    obtain ⟨l, Q2, lev2, own2, hjq2, e1, hl, hkm, bs, k7, k6, L, hv2, hdn⟩ := mu_spec hI2
    generalize hkk2 : mu I35 ((qv2, p, ()), q2) = km at *
    change p = (l : Int) at e1
    subst e1
    change S1 own2 q2 7 qv2 (natV Q2) at k7
    have hqj := L.mem _ (List.getElem_mem hjq2)
    have hqu := L.up _ hqj.1
    have hcnt := L.cnt
    have hcnn := cntN_nn (n := i) (lev := lev2)
    rw [hv2] at hl hkm hdn hqj hqu
    refine ifP_of (fun h2 => ?_) (fun h2 => ?_)
    · have hla : l < (arcsL fr to m v1).length := by have := of_decide_eq_true h2; omega
      have ha := mem_arcsL.1 (List.getElem_mem hla)
      generalize haa : (arcsL fr to m v1)[l] = a at ha
      have hw := hd_lt hn ha.1
      refine (k5q.ext bs.ext).rd (natV_get hla) ?_
      rw [haa]
      refine ⟨_, (k4.ext bs.ext).ld rfl, (k1.ext bs.ext).rdI ha.1 ?_⟩
      refine ⟨_, (k4.ext bs.ext).ld rfl, (k2.ext bs.ext).rdI ha.1 ?_⟩
      have go : ∀ {qv3 : Value} {q3 : H} {own3 : Own} {Q3 : List Nat} {lev3 : Nat → Int} (hjq3 : j < Q3.length), Bs h own3 q3 → S1 own3 q3 7 qv3 (natV Q3) → S1 own3 q3 6 (.slice (some (bk b6)) i i) (ints i lev3) →
          LvI i m fr to room v0 j Q3 lev3 → Q3[j] = v1 → (∀ v, 0 ≤ lev2 v → 0 ≤ lev3 v) → (0 < room a → 0 ≤ lev3 (hdA fr to a)) →
          (∃ k, I35 (qv3, IntKind.i64.wrap ((l : Int) + 1), ()) q3 k) ∧ rk I35 ((qv3, IntKind.i64.wrap ((l : Int) + 1), ()), q3) ((qv2, l, ()), q2) := by
        intro qv3 q3 own3 Q3 lev3 hjq3 bs k7 k6 L h3 hm hd
        have := arcsL_length (fr := fr) (to := to) (v := v1) (i := m)
        rw [i64_inc (by omega)]
        refine mu_next (I := I35) (k := (arcsL fr to m v1).length - (l + 1)) ⟨l + 1, Q3, lev3, own3, hjq3, rfl, by rw [h3]; omega, by rw [h3], bs, k7, k6, L, h3, ?_⟩ (by rw [hkk2, hkm]; omega)
        rw [h3]
        intro l' hl' hl2 hr
        by_cases e : l' = l
        · subst e; rw [haa] at hr ⊢; exact hd hr
        · exact hm _ (hdn l' (by omega) hl2 hr)
      refine ifP_of (fun h3 => ?_) (fun h3 => go hjq2 bs k7 k6 L hv2 (fun _ h => h) (fun h => absurd h (of_decide_eq_false h3)))
      have hr := of_decide_eq_true h3
      refine k6.rdI hw ?_
      refine ifP_of (fun h4 => ?_) (fun h4 => go hjq2 bs k7 k6 L hv2 (fun _ h => h) (fun _ => by have := of_decide_eq_false h4; omega))
      have hneg := of_decide_eq_true h4
      refine k7.rd (natV_get hjq2) ?_
      rw [hv2]
      refine k6.rdI hqj.1 ?_
      have ew : IntKind.i64.wrap (lev2 v1 + 1) = lev2 v1 + 1 := w64_in (by omega) (by omega)
      rw [ew]
      refine k6.setI hw ?_
      intro g57 F k6
      have bs := bs.fm F (by simp <;> omega)
      have k7 := k7.fm F (by simp <;> omega)
      refine k7.push rfl (by simp [Value.oneCell']) (by simp) (by omega) (by rw [natV_length]; omega) ?_
      intro _ _ qv3 own3 g61 _ _ F k7
      have bs := bs.fm F (by simp <;> omega)
      have k6 := k6.fm F (by simp <;> omega)
      have e2 : natV Q2 ++ [Value.int .i64 ((hdA fr to a : Nat) : Int)] = natV (Q2 ++ [hdA fr to a]) := by simp [natV]
      rw [e2] at k7
      have Ln := L.next hn hjq2 ha.1 (by rw [hv2]; exact ha.2) hr hneg
      rw [hv2] at Ln
      refine go (by rw [List.length_append]; omega) bs k7 k6 Ln (by rw [List.getElem_append_left hjq2]; exact hv2) (fun v hv => ?_) (fun _ => by unfold upd; rw [if_pos rfl]; omega)
      unfold upd; split
      · omega
      · exact hv
    · have hla : l = (arcsL fr to m v1).length := by have := of_decide_eq_false h2; omega
      subst hla
      rw [i64_inc (by omega)]
      refine mu_next (I := I) (k := i - (j + 1)) ⟨j + 1, Q2, lev2, own2, rfl, hjq2, rfl, bs, k7, k6, ?_⟩ (by rw [hkk, hk]; omega)
      refine ⟨L.src, L.lo, L.up, L.mem, L.all, L.cnt, L.pred, L.one, ?_⟩
      intro k' hk' hk2' a ha ht hr
      by_cases e : k' = j
      · subst e
        have hm : a ∈ arcsL fr to m v1 := mem_arcsL.2 ⟨ha, by rw [ht]; exact hv2⟩
        obtain ⟨l', hl', e2⟩ := List.getElem_of_mem hm
        have := hdn l' hl' hl' (by rw [e2]; exact hr)
        rwa [e2] at this
      · exact L.done k' (by omega) hk2' a ha ht hr
  · have hjq : j = Q.length := by have := of_decide_eq_false h1; omega
    subst hjq
    refine ⟨bs.ext, b6, lev, rfl, hb6, k6.sl.1, ?_⟩
    refine ⟨L.src, fun v hv => ⟨L.lo v hv, ?_⟩, L.pred, ?_, L.one⟩
    · have := L.up v hv
      have := L.cnt
      have := cntN_nn (n := i) (lev := lev)
      omega
    · intro a ha hr hl
      obtain ⟨k, hk, e⟩ := List.getElem_of_mem (L.all _ (tl_lt hn ha) hl)
      exact L.done k hk hk a ha e.symm hr
end

end Go.Proofs.Ythglkcpoofenbaa

/-! Dinic: along. -/
namespace Go.Proofs.Ythglkcpoofenbaa
open Go
set_option linter.unusedVariables false
set_option linter.unusedSimpArgs false

/-- dinic in the heap: owners 5 (the struct), 6 (level), 7 (next). -/
structure Dn (own : Own) (h : H) (bd bn n m : Nat) (fr to : Nat → Nat) (s t : Nat) (room lev nxt : Nat → Int) : Prop where
  net : Net own h bn n m fr to s t room
  ex : ∃ vl vn, B1 own h 5 bd [.pointer (some (bk bn)), vl, vn] ∧ S1 own h 6 vl (ints n lev) ∧ S1 own h 7 vn (ints n nxt)
/-- Skipped arcs that could be gone lead to nodes that are done with. -/
def DdP (n m : Nat) (fr to : Nat → Nat) (t : Nat) (lev room nxt : Nat → Int) : Prop :=
  ∀ u, u < n → ∀ a ∈ (arcsL fr to m u).take (nxt u).toNat, 0 < room a → lev (hdA fr to a) = lev u + 1 → hdA fr to a ≠ t ∧ nxt (hdA fr to a) = (arcsL fr to m (hdA fr to a)).length
structure AlR (n m : Nat) (fr to : Nat → Nat) (cap : Nat → Int) (t : Nat) (lev room nxt room' nxt' : Nat → Int) (v : Nat) (x : Int) : Prop where
  rm : RmP m cap room'
  out : ∀ u, OutF m fr to (onR room') u = OutF m fr to (onR room) u + (if v = u then x else 0) - (if t = u then x else 0)
  ch : ∀ a, a < 2 * m → room' a ≠ room a → (lev v ≤ lev (tlA fr to a) ∧ lev (hdA fr to a) = lev (tlA fr to a) + 1) ∨ (lev v ≤ lev (hdA fr to a) ∧ lev (tlA fr to a) = lev (hdA fr to a) + 1)
  nb : ∀ u, u < n → nxt u ≤ nxt' u ∧ nxt' u ≤ (arcsL fr to m u).length
  nl : ∀ u, u < n → lev u < lev v → nxt' u = nxt u
  z : x = 0 → room' = room ∧ (DdP n m fr to t lev room nxt → DdP n m fr to t lev room nxt')

section
variable {own : Own} {h : H} {bd bn n m s t : Nat} {fr to : Nat → Nat} {cap room lev nxt : Nat → Int}
theorem AlR.refl (R : RmP m cap room) (hb : ∀ u, u < n → 0 ≤ nxt u ∧ nxt u ≤ (arcsL fr to m u).length) (v : Nat) (x : Int) (hx : x = 0 ∨ v = t) :
    AlR n m fr to cap t lev room nxt room nxt v x := by
  refine ⟨R, fun u => ?_, fun a _ h => absurd rfl h, fun u hu => ⟨Int.le_refl _, (hb u hu).2⟩, fun _ _ _ => rfl, fun _ => ⟨rfl, id⟩⟩
  rcases hx with rfl | rfl
  · split <;> split <;> omega
  · omega

theorem along_T (hc : ∀ i, i < m → cap i ≤ 1048576) (hn : ∀ i, i < m → fr i < n ∧ to i < n) (m1 : m ≤ 4096)
    (hl : ∀ u, u < n → -1 ≤ lev u ∧ lev u < n) (n1 : n ≤ 1024) : ∀ (k : Nat) (own : Own) (h : H) (room nxt : Nat → Int) (v : Nat) (most : Int), v < n → n - lev v ≤ k → Dn own h bd bn n m fr to s t room lev nxt →
    RmP m cap room → (∀ u, u < n → 0 ≤ nxt u ∧ nxt u ≤ (arcsL fr to m u).length) → 0 ≤ most → most ≤ 4611686018427387904 →
    T Try.prog F.maxflow_dinic_along [.pointer (some (bk bd)), .int .i64 v, .int .i64 most] h fun r h' => ∃ x room' nxt', r = .ret (.int .i64 x) ∧ Fm [2, 7] own h own h' ∧
      Dn own h' bd bn n m fr to s t room' lev nxt' ∧ AlR n m fr to cap t lev room nxt room' nxt' v x ∧ 0 ≤ x ∧ x ≤ most ∧ (x = 0 → most ≠ 0 → v ≠ t ∧ nxt' v = (arcsL fr to m v).length) := by
  intro k
  induction k with
  | zero => intro own h room nxt v most hv hk; have := hl v hv; omega
  | succ k ih =>
    intro own h room nxt v most hv hk D R hb hm0 hm1
    have D0 := D
    refine E_maxflow_dinic_along ?_
    unfold B_maxflow_dinic_along
    obtain ⟨vl, vn, k5, k6, k7⟩ := D.ex
    obtain ⟨vto, vroom, vout, outs, k4, k1, k2, k3, ka⟩ := D.net.ex
    refine ⟨_, k5.ld rfl, _, k4.ld rfl, ifP_of (fun h1 => ?_) (fun h1 => ?_)⟩
    · have : v = t := by have := of_decide_eq_true h1; omega
      subst this
      refine ⟨most, room, nxt, rfl, Fm.refl, D0, AlR.refl R hb _ _ (.inr rfl), hm0, Int.le_refl _, fun h h' => absurd h h'⟩
    have hvt : v ≠ t := by have := of_decide_eq_false h1; omega
    refine ifP_of (fun h2 => ?_) (fun h2 => ?_)
    · have h2 := of_decide_eq_true h2
      subst h2
      exact ⟨0, room, nxt, rfl, Fm.refl, D0, AlR.refl R hb _ _ (.inl rfl), Int.le_refl _, Int.le_refl _, fun _ h => absurd rfl h⟩
    have hmn := of_decide_eq_false h2
    clear k5 k6 k7 k4 k1 k2 k3 ka h1 h2 D
    let I : (Int × Unit) → H → Nat → Prop := fun p q k => ∃ room7 nxt7, Fm [2, 7] own h own q ∧ Dn own q bd bn n m fr to s t room7 lev nxt7 ∧ AlR n m fr to cap t lev room nxt room7 nxt7 v p.1 ∧
      0 ≤ p.1 ∧ p.1 < most ∧ (k : Int) = (arcsL fr to m v).length - nxt7 v
    refine ⟨fun p q => ∃ k, I p q k, rk I, rk_wf I, ⟨((arcsL fr to m v).length - nxt v).toNat, room, nxt, Fm.refl, D0, AlR.refl R hb _ _ (.inl rfl), Int.le_refl _, by show 0 < most; omega, by have := hb v hv; omega⟩, ?_⟩
    intro sent q hI
    obtain ⟨room7, nxt7, F, D, A, hs0, hs1, hkm⟩ := mu_spec hI
    generalize hkk : mu I ((sent, ()), q) = km at *
    change 0 ≤ sent at hs0
    change sent < most at hs1
    change AlR n m fr to cap t lev room nxt room7 nxt7 v sent at A
    obtain ⟨vl, vn, k5, k6, k7⟩ := D.ex
    obtain ⟨vto, vroom, vout, outs, k4, k1, k2, k3, ka⟩ := D.net.ex
    have hb7 : ∀ u, u < n → 0 ≤ nxt7 u ∧ nxt7 u ≤ (arcsL fr to m u).length := fun u hu => ⟨Int.le_trans (hb u hu).1 (A.nb u hu).1, (A.nb u hu).2⟩
    obtain ⟨l, hl7⟩ : ∃ l : Nat, nxt7 v = l := ⟨(nxt7 v).toNat, by have := hb7 v hv; omega⟩
    have hlen := arcsL_length (fr := fr) (to := to) (v := v) (i := m)
    refine ⟨_, k5.ld rfl, k7.rdI hv ?_⟩
    refine ⟨_, k5.ld rfl, _, k4.ld rfl, k3.rdV hv ?_⟩
    refine (ka v hv).len (natV_length _) fun _ _ => ?_
    rw [hl7]
    refine ifP_of (fun h1 => ?_) (fun h1 => ?_)
    · have hla : l < (arcsL fr to m v).length := by have := of_decide_eq_true h1; omega
      have ha := mem_arcsL.1 (List.getElem_mem hla)
      generalize haa : (arcsL fr to m v)[l] = a at ha
      have hw := hd_lt hn ha.1
      let J : (Int × Unit) → H → Prop := fun p q => ∃ room7 nxt7, Fm [2, 7] own h own q ∧ Dn own q bd bn n m fr to s t room7 lev nxt7 ∧ AlR n m fr to cap t lev room nxt room7 nxt7 v p.1 ∧
        0 ≤ p.1 ∧ p.1 < most ∧ nxt7 v = l ∧ (p.1 = 0 → 0 < room7 a → lev (hdA fr to a) = lev v + 1 → hdA fr to a ≠ t ∧ nxt7 (hdA fr to a) = (arcsL fr to m (hdA fr to a)).length)
      refine ⟨J, ?_, ?_⟩
      · refine ⟨_, k5.ld rfl, _, k4.ld rfl, k3.rdV hv ?_⟩
        refine ⟨_, k5.ld rfl, k7.rdI hv ?_⟩
        rw [hl7]
        refine (ka v hv).rd (natV_get hla) ?_
        rw [haa]
        refine ⟨_, k5.ld rfl, _, k4.ld rfl, k1.rdI ha.1 ?_⟩
        refine ⟨_, k5.ld rfl, _, k4.ld rfl, k2.rdI ha.1 ?_⟩
        have skip : (0 < room7 a → lev (hdA fr to a) = lev v + 1 → False) → J (sent, ()) q := fun hno =>
          ⟨room7, nxt7, F, D, A, hs0, hs1, hl7, fun _ h1 h2 => (hno h1 h2).elim⟩
        refine ifP_of (fun h3 => skip fun h _ => by have := of_decide_eq_true h3; omega) (fun h3 => ?_)
        have hr0 : 0 < room7 a := by have := of_decide_eq_false h3; have := A.rm.pos a ha.1; omega
        refine ⟨_, k5.ld rfl, k6.rdI hw ?_⟩
        refine ⟨_, k5.ld rfl, k6.rdI hv ?_⟩
        have hlv := hl v hv
        have ew : IntKind.i64.wrap (lev v + 1) = lev v + 1 := w64_in (by omega) (by omega)
        rw [ew]
        refine ifP_of (fun h4 => skip fun _ h => by simp [h] at h4) (fun h4 => ?_)
        have hlw : lev (hdA fr to a) = lev v + 1 := by simpa using h4
        refine ⟨_, k5.ld rfl, _, k4.ld rfl, k2.rdI ha.1 ?_⟩
        have ew2 : IntKind.i64.wrap (most - sent) = most - sent := w64_in (by omega) (by omega)
        rw [ew2]
        have hrp := A.rm.pr ha.1
        have hrq := A.rm.pos _ (prA_lt ha.1)
        have hca := hc (a / 2) (by omega)
        generalize hask : (if room7 a < most - sent then room7 a else most - sent) = ask
        have hask1 : 0 < ask ∧ ask ≤ room7 a ∧ ask ≤ most - sent := by rw [← hask]; split <;> omega
        refine (ih own q room7 nxt7 (hdA fr to a) ask hw (by omega) D A.rm hb7 (by omega) (by omega)).mono ?_
        rintro _ q2 ⟨x, room8, nxt8, rfl, F8, D8, A8, hx0, hx1, hx2⟩
        refine ⟨x, rfl, ?_⟩
        obtain ⟨vl, vn, k5, k6, k7⟩ := D8.ex
        refine ⟨_, k5.ld rfl, ?_⟩
        have hsame : room8 a = room7 a := by
          apply Classical.byContradiction
          intro hne
          rcases A8.ch a ha.1 hne with ⟨h1, h2⟩ | ⟨h1, h2⟩
          · rw [ha.2] at h1; omega
          · rw [ha.2] at h2; omega
        have hrp8 := A8.rm.pr ha.1
        have hrq8 := A8.rm.pos _ (prA_lt ha.1)
        refine (send_T D8.net m1 ha.1 (x := x) (by omega) (by omega)).mono ?_
        rintro _ q3 ⟨rfl, F9, N9⟩
        refine ⟨rfl, ?_⟩
        have ew3 : IntKind.i64.wrap (sent + x) = sent + x := w64_in (by omega) (by omega)
        rw [ew3]
        have F10 : Fm [2, 7] own h own q3 := (F.trans F8).trans (F9.mono (by simp))
        have D10 : Dn own q3 bd bn n m fr to s t (sndR room8 a x) lev nxt8 := ⟨N9, vl, vn, k5.fm F9 (by simp <;> omega), k6.fm F9 (by simp <;> omega), k7.fm F9 (by simp <;> omega)⟩
        have n8 : nxt8 v = l := by rw [A8.nl v hv (by omega)]; exact hl7
        have A10 : AlR n m fr to cap t lev room nxt (sndR room8 a x) nxt8 v (sent + x) := by
          refine ⟨A8.rm.snd ha.1 hx0 (by omega), fun u => ?_, fun b hb hne => ?_, fun u hu => ⟨Int.le_trans (A.nb u hu).1 (A8.nb u hu).1, (A8.nb u hu).2⟩, fun u hu hlu => ?_, fun hz => ?_⟩
          · rw [out_snd ha.1, A8.out, A.out, ha.2]
            by_cases e1 : v = u <;> by_cases e2 : t = u <;> by_cases e3 : hdA fr to a = u <;> simp [e1, e2, e3] <;> omega
          · by_cases e1 : b = a
            · subst e1; exact .inl ⟨by rw [ha.2]; omega, by rw [ha.2]; exact hlw⟩
            · by_cases e2 : b = prA a
              · subst e2
                rw [tl_pr, hd_pr, ha.2]; exact .inr ⟨by omega, hlw⟩
              · rw [sndR_o e1 e2] at hne
                by_cases e3 : room8 b = room7 b
                · exact A.ch b hb (by rw [← e3]; exact hne)
                · rcases A8.ch b hb e3 with ⟨h1, h2⟩ | ⟨h1, h2⟩
                  · exact .inl ⟨by omega, h2⟩
                  · exact .inr ⟨by omega, h2⟩
          · rw [A8.nl u hu (by omega)]; exact A.nl u hu hlu
          · have hx : x = 0 := by omega
            have hs : sent = 0 := by omega
            subst hx
            obtain ⟨r1, d1⟩ := A.z hs
            obtain ⟨r2, d2⟩ := A8.z rfl
            rw [sndR_0]
            refine ⟨r2.trans r1, fun d => ?_⟩
            have := d2 (by rw [r1]; exact d1 d)
            rwa [r1] at this
        refine ifP_of (fun h5 => ?_) (fun h5 => ?_)
        · have h5 := of_decide_eq_true h5
          exact ⟨sent + x, _, _, rfl, F10, D10, A10, by omega, by omega, fun h => by omega⟩
        · have h5 := of_decide_eq_false h5
          refine ⟨_, _, F10, D10, A10, by show 0 ≤ sent + x; omega, by show sent + x < most; omega, n8, ?_⟩
          intro hz _ _
          have hz : sent + x = 0 := hz
          obtain ⟨h6, h7⟩ := hx2 (by omega) (by omega)
          exact ⟨h6, h7⟩
      · rintro sent2 q2 ⟨room8, nxt8, F8, D8, A8, hs0, hs1, hl8, hdd⟩
        change 0 ≤ sent2 at hs0
        change sent2 < most at hs1
        change AlR n m fr to cap t lev room nxt room8 nxt8 v sent2 at A8
        change sent2 = 0 → _ at hdd
        obtain ⟨vl, vn, k5, k6, k7⟩ := D8.ex
        refine ⟨_, k5.ld rfl, k7.rdI hv ?_⟩
        rw [hl8]
        refine k7.setI hv ?_
        intro q3 F9 k7
        rw [i64_inc (by omega)] at k7
        have F9' : Fm [2, 7] own q2 own q3 := F9.mono (by simp)
        refine mu_next (I := I) (k := (arcsL fr to m v).length - (l + 1)) ⟨room8, _, F8.trans F9', ⟨D8.net.fm F9 (by simp), vl, vn, k5.fm F9 (by simp <;> omega), k6.fm F9 (by simp <;> omega), k7⟩, ?_, hs0, hs1, ?_⟩ (by rw [hkk]; omega)
        · have up_v : upd nxt8 v (((l + 1 : Nat) : Int)) v = ((l + 1 : Nat) : Int) := if_pos rfl
          have up_o : ∀ u, u ≠ v → upd nxt8 v (((l + 1 : Nat) : Int)) u = nxt8 u := fun u hu => if_neg hu
          refine ⟨A8.rm, A8.out, A8.ch, fun u hu => ?_, fun u hu hlu => ?_, fun hz => ⟨(A8.z hz).1, fun d => ?_⟩⟩
          · by_cases e : u = v
            · subst e
              rw [up_v]
              have := A8.nb u hu
              omega
            · rw [up_o u e]; exact A8.nb u hu
          · rw [up_o u (by rintro rfl; omega)]; exact A8.nl u hu hlu
          · have d8 := (A8.z hz).2 d
            have er := (A8.z hz).1
            have grow : ∀ u, u < n → nxt8 u = (arcsL fr to m u).length → upd nxt8 v (((l + 1 : Nat) : Int)) u = (arcsL fr to m u).length := by
              intro u hu e
              by_cases e2 : u = v
              · subst e2; omega
              · rw [up_o u e2]; exact e
            intro u hu b hb hr hlb
            by_cases e : u = v
            · subst e
              rw [up_v, Int.toNat_natCast, List.take_succ_eq_append_getElem hla] at hb
              rcases List.mem_append.1 hb with hb | hb
              · have hbw := hd_lt hn (mem_arcsL.1 (List.mem_of_mem_take hb)).1
                obtain ⟨h1, h2⟩ := d8 u hu b (by rw [hl8, Int.toNat_natCast]; exact hb) hr hlb
                exact ⟨h1, grow _ hbw h2⟩
              · have : b = a := by rw [List.mem_singleton] at hb; rw [hb]; exact haa
                subst this
                obtain ⟨h1, h2⟩ := hdd hz (by rw [er]; exact hr) hlb
                exact ⟨h1, grow _ hw h2⟩
            · rw [up_o u e] at hb
              have hbw := hd_lt hn (mem_arcsL.1 (List.mem_of_mem_take hb)).1
              obtain ⟨h1, h2⟩ := d8 u hu b hb hr hlb
              exact ⟨h1, grow _ hbw h2⟩
        · show _ = _ - upd nxt8 v _ v
          unfold upd
          rw [if_pos rfl]; omega
    · have := of_decide_eq_false h1
      have := hb7 v hv
      exact ⟨sent, room7, nxt7, rfl, F, D, A, hs0, by omega, fun _ _ => ⟨hvt, by omega⟩⟩
end

end Go.Proofs.Ythglkcpoofenbaa

/-! Dinic: fill. -/
namespace Go.Proofs.Ythglkcpoofenbaa
open Go
set_option linter.unusedVariables false
set_option linter.unusedSimpArgs false

/-- A flow in the net's rooms. -/
structure FlS (n m : Nat) (fr to : Nat → Nat) (cap : Nat → Int) (s t : Nat) (room : Nat → Int) : Prop where
  rm : RmP m cap room
  cons : ∀ v, v < n → v ≠ s → v ≠ t → OutF m fr to (onR room) v = 0
section
variable {own : Own} {h : H} {bd bn n m s t : Nat} {fr to : Nat → Nat} {cap room lev nxt : Nat → Int}
theorem onR_bd (R : RmP m cap room) (hc : ∀ i, i < m → cap i ≤ 1048576) : ∀ i, i < m → 0 ≤ onR room i ∧ onR room i ≤ 1048576 := by
  intro i hi
  have := R.sum i hi
  have h1 := R.pos (2 * i) (by omega)
  have h2 := R.pos (2 * i + 1) (by omega)
  have := hc i hi
  unfold onR; omega
theorem out_bd {f : Nat → Int} (h : ∀ i, i < m → 0 ≤ f i ∧ f i ≤ 1048576) (m1 : m ≤ 4096) (v : Nat) : -4294967296 ≤ OutF m fr to f v ∧ OutF m fr to f v ≤ 4294967296 := by
  have a : OutF m fr to f v ≤ m * 1048576 := sumN_bd fun i hi => by have := h i hi; split <;> split <;> omega
  have b : sumN m (fun i => -1 * ((if fr i = v then f i else 0) - (if to i = v then f i else 0))) ≤ m * 1048576 := sumN_bd fun i hi => by have := h i hi; split <;> split <;> omega
  rw [sumN_mul] at b
  have b : -1 * OutF m fr to f v ≤ m * 1048576 := b
  omega
theorem FlS.flow (F : FlS n m fr to cap s t room) : FlowP n m fr to cap s t (onR room) :=
  ⟨fun i hi => by
    have := F.rm.sum i hi
    have h1 := F.rm.pos (2 * i) (by omega)
    have h2 := F.rm.pos (2 * i + 1) (by omega)
    unfold onR; omega, F.cons⟩
theorem rch_iff (R : RmP m cap room) {u v : Nat} : Rch (ArS m fr to room) u v ↔ Rch (RsS m fr to cap (onR room)) u v :=
  ⟨Rch.mono fun _ _ h => (rs_arc R).2 h, Rch.mono fun _ _ h => (rs_arc R).1 h⟩

/-- If nothing went, the sink has no level. -/
theorem dead_no (L : LevP n m fr to room s lev) (hn : ∀ i, i < m → fr i < n ∧ to i < n) (ht : t < n) (hlt : 0 ≤ lev t) (d : DdP n m fr to t lev room nxt) (hs : s ≠ t ∧ nxt s = (arcsL fr to m s).length) : False := by
  have key : ∀ k : Nat, ∀ w, w < n → lev w = k → w ≠ t ∧ nxt w = (arcsL fr to m w).length := by
    intro k
    induction k with
    | zero => intro w hw e; rw [L.one w hw e]; exact hs
    | succ k ih =>
      intro w hw e
      obtain ⟨a, ha, h1, h2, h3⟩ := L.pred w hw (by omega)
      have hu := tl_lt hn ha
      obtain ⟨_, h4⟩ := ih _ hu (by omega)
      have := d _ hu a (by rw [h4, Int.toNat_natCast, List.take_length]; exact mem_arcsL.2 ⟨ha, rfl⟩) h2 (by rw [h1]; omega)
      rwa [h1] at this
  exact (key (lev t).toNat t ht (by omega)).1 rfl

theorem dfill_T (hc : ∀ i, i < m → cap i ≤ 1048576) (hn : ∀ i, i < m → fr i < n ∧ to i < n) (m1 : m ≤ 4096) (n1 : n ≤ 1024) (hs : s < n) (ht : t < n) {x1 x2 : Value}
    (N : Net own h bn n m fr to s t room) (B : B1 own h 5 bd [.pointer (some (bk bn)), x1, x2]) (F0 : FlS n m fr to cap s t room) (hst : s ≠ t) :
    T Try.prog F.maxflow_dinic_fill [.pointer (some (bk bd))] h fun r h' => ∃ own' room', r = .ret (.tuple ⟨[]⟩) ∧ Fm [2, 5, 6, 7] own h own' h' ∧ Net own' h' bn n m fr to s t room' ∧
      FlS n m fr to cap s t room' ∧ ¬ Rch (ArS m fr to room') s t := by
  refine E_maxflow_dinic_fill ?_
  unfold B_maxflow_dinic_fill
  let I : Unit → H → Nat → Prop := fun _ q k => ∃ own' room' x1 x2, Fm [2, 5, 6, 7] own h own' q ∧ Net own' q bn n m fr to s t room' ∧ B1 own' q 5 bd [.pointer (some (bk bn)), x1, x2] ∧ FlS n m fr to cap s t room' ∧
    (k : Int) = 4294967296 - OutF m fr to (onR room') s
  have bdk : ∀ {room' : Nat → Int}, FlS n m fr to cap s t room' → ∃ k : Nat, (k : Int) = 4294967296 - OutF m fr to (onR room') s := by
    intro room' F
    have := out_bd (fr := fr) (to := to) (onR_bd F.rm hc) m1 s
    exact ⟨(4294967296 - OutF m fr to (onR room') s).toNat, by omega⟩
  obtain ⟨k0, hk0⟩ := bdk F0
  refine ⟨fun p q => ∃ k, I p q k, rk I, rk_wf I, ⟨k0, own, room, x1, x2, Fm.refl, N, B, F0, hk0⟩, ?_⟩
  clear F0 N B hk0
  intro q hI
  obtain ⟨own1_, room1, x1, x2, F, N, B, F0, hkm⟩ := mu_spec hI
  generalize hkk : mu I ((), q) = km at *
  obtain ⟨vto, vroom, vout, outs, k4, k1, k2, k3, ka⟩ := N.ex
  refine ptrP_mk (ptrP_mk ⟨_, B.ld rfl, _, B.ld rfl, ptrP_mk ⟨_, k4.ld rfl, ?_⟩⟩)
  refine (levels_T N hn n1 m1 hs).mono ?_
  rintro _ q2 ⟨x2_, bl, lev, rfl, hbl, Sl6, L⟩
  refine rt_ret ?_
  have k6 := S1.of (i := 6) Sl6 own1_
  have F2 : Fm [] own1_ q (own1 own1_ bl 6) q2 := Fm.new x2_ hbl
  have F := F.trans (F2.mono (by simp))
  have B := B.fm F2 (by simp <;> omega)
  have N := N.new (i := 6) x2_ hbl
  generalize own1 own1_ bl 6 = own2 at *
  clear F2 k4 k1 k2 k3 ka hbl x2_
  refine ptrP_mk (oneP_mk ?_)
  refine B.st (by simp) ?_
  intro q3 F2 B
  simp only [List.set] at B
  have N := N.fm F2 (by simp <;> omega)
  have k6 := k6.fm F2 (by simp <;> omega)
  have F := F.trans (F2.mono (by simp))
  clear F2
  obtain ⟨vto, vroom, vout, outs, k4, k1, k2, k3, ka⟩ := N.ex
  refine ptrP_mk (ptrP_mk ⟨_, B.ld rfl, _, B.ld rfl, ptrP_mk ⟨_, k4.ld rfl, ?_⟩⟩)
  refine k6.rdI ht ?_
  refine ifP_of (fun h1 => ?_) (fun h1 => ?_)
  · have h1 := of_decide_eq_true h1
    refine ⟨own2, room1, rfl, F, N, F0, fun r => ?_⟩
    have := (L.iff hn ht).2 r
    omega
  · have h1 := of_decide_eq_false h1
    refine ptrP_mk ⟨_, B.ld rfl, ptrP_mk ⟨_, k4.ld rfl, k3.len (va_length _ _) fun _ _ => ?_⟩⟩
    refine mk_ints 7 (by omega) (by omega) ?_
    intro b29 q4 hb29 x4 S7
    have k7 := S7 own2
    have F := F.trans (Fm.new (i := 7) x4 hb29)
    have B := B.nw (j := 7) x4 hb29
    have k6 := k6.nw (j := 7) x4 hb29
    have N := N.new (i := 7) x4 hb29
    generalize own1 own2 b29 7 = own3 at *
    refine ptrP_mk ?_
    rw [Int.toNat_natCast]
    refine B.st (by simp) ?_
    intro q5 F2 B
    simp only [List.set] at B
    have N := N.fm F2 (by simp <;> omega)
    have k6 := k6.fm F2 (by simp <;> omega)
    have k7 := k7.fm F2 (by simp <;> omega)
    have F := F.trans (F2.mono (by simp))
    clear F2 k4 k1 k2 k3 ka
    obtain ⟨vto, vroom, vout, outs, k4, k1, k2, k3, ka⟩ := N.ex
    refine ptrP_mk ⟨_, B.ld rfl, ptrP_mk ⟨_, k4.ld rfl, ?_⟩⟩
    have D : Dn own3 q5 bd bn n m fr to s t room1 lev fun _ => 0 := ⟨N, _, _, B, k6, k7⟩
    refine (along_T hc hn m1 (fun u hu => L.bd u hu) n1 (n - lev s).toNat own3 q5 room1 _ s 4611686018427387904 hs (by have := L.bd s hs; omega) D F0.rm (fun u hu => ⟨Int.le_refl _, by omega⟩) (by omega) (Int.le_refl _)).mono ?_
    rintro _ q6 ⟨x, room2, nxt2, rfl, F6, D6, A, hx0, hx1, hx2⟩
    refine ⟨x, rfl, ?_⟩
    have F := F.trans (F6.mono (by simp))
    obtain ⟨vl, vn, B, _, _⟩ := D6.ex
    have F2 : FlS n m fr to cap s t room2 := ⟨A.rm, fun v hv h1 h2 => by
      rw [A.out, F0.cons v hv h1 h2, if_neg (fun h => h1 h.symm), if_neg (fun h => h2 h.symm)]; rfl⟩
    have hpos : x ≠ 0 := by
      intro e
      obtain ⟨e1, d⟩ := A.z e
      exact dead_no L hn ht (by omega) (d (fun u _ a ha => by simp at ha)) (hx2 e (by omega))
    have ev := A.out s
    rw [if_pos rfl, if_neg (fun h => hst h.symm)] at ev
    obtain ⟨k2, hk2⟩ := bdk F2
    exact mu_next (I := I) (k := k2) ⟨own3, room2, _, _, F, D6.net, B, F2, hk2⟩ (by rw [hkk]; omega)
end

end Go.Proofs.Ythglkcpoofenbaa

/-! Queues; measures of several numbers. -/
namespace Go.Proofs.Ythglkcpoofenbaa
open Go
set_option linter.unusedVariables false
set_option linter.unusedSimpArgs false

/-- The slice v holds vs, somewhere in a block of the i-th owner. -/
def Sq (own : Own) (h : H) (i : Nat) (v : Value) (vs : List Value) : Prop :=
  (vs = [] ∧ v = .slice none 0 0) ∨ ∃ b pre zs post c e, own b = i ∧ v = .slice (some ⟨b, pre.length, none⟩) vs.length c ∧ h b = some (.cells ⟨pre ++ (vs ++ (zs ++ post))⟩ e (0, 0)) ∧ vs.length + zs.length = c
section
variable {own own' : Own} {h h' : H} {i : Nat} {v : Value} {vs : List Value}
theorem Sq.of (s : S1 own h i v vs) : Sq own h i v vs := by
  rcases s with s | ⟨b, hb, c, e, zs, h1, h2, h3⟩
  · exact .inl s
  · exact .inr ⟨b, [], zs, [], c, e, hb, h1, by simpa using h2, h3⟩
theorem Sq.nil : Sq own h i (.slice none 0 0) [] := .inl ⟨rfl, rfl⟩
theorem Sq.fm {M : List Nat} (s : Sq own h i v vs) (F : Fm M own h own' h') (hM : i ∉ M) : Sq own' h' i v vs := by
  rcases s with s | ⟨b, pre, zs, post, c, e, hb, h1, h2, h3⟩
  · exact .inl s
  · exact .inr ⟨b, pre, zs, post, c, e, (F.stay b _ h2).2.trans hb, h1, F.keep b _ h2 (by rw [hb]; exact hM), h3⟩
theorem Sq.ext (s : Sq own h i v vs) (x : Ext h h') : Sq own h' i v vs := s.fm (M := []) (Fm.of_ext x) (by simp)
theorem Sq.nw {b j : Nat} (s : Sq own h i v vs) (x : Ext h h') (hb : h b = none) : Sq (own1 own b j) h' i v vs := s.fm (M := []) (Fm.new x hb) (by simp)
theorem Sq.shape (s : Sq own h i v vs) : ∃ a c, v = .slice a vs.length c := by
  rcases s with ⟨rfl, rfl⟩ | ⟨b, pre, zs, post, c, e, hb, h1, h2, h3⟩
  · exact ⟨_, _, rfl⟩
  · exact ⟨_, _, h1⟩
theorem Sq.isS (s : Sq own h i v vs) : ∃ a l c, v = .slice a l c := let ⟨a, c, e⟩ := s.shape; ⟨a, _, c, e⟩
theorem Sq.len {l : Nat} {K : Option Addr → Nat → Nat → Prop} (s : Sq own h i v vs) (hl : vs.length = l) (k : ∀ a c, K a l c) : slcP v K := by
  obtain ⟨a, c, rfl⟩ := s.shape
  rw [hl]; exact k _ _
theorem Sq.at {j : Nat} {x : Value} {K : Addr → Prop} (s : Sq own h i v vs) (hj : vs[j]? = some x) (k : ∀ a : Addr, hcell h a = some x → K a) : ixS v (j : Int) 1 K := by
  have hl := (List.getElem?_eq_some_iff.1 hj).1
  rcases s with ⟨rfl, rfl⟩ | ⟨b, pre, zs, post, c, e, hb, rfl, h2, h3⟩
  · simp at hl
  · refine ⟨by omega, by omega, k _ ?_⟩
    rw [Int.toNat_natCast, bk_add2, hcell_at h2, List.getElem?_toArray, Nat.mul_one, List.getElem?_append_right (by omega),
      show pre.length + j - pre.length = j by omega, List.getElem?_append_left hl]
    exact hj
theorem Sq.rd {j : Nat} {x : Int} {K : Int → Prop} (s : Sq own h i v vs) (hj : vs[j]? = some (.int .i64 x)) (k : K x) : ixS v (j : Int) 1 fun a => ldI h a .i64 K :=
  s.at hj fun a e => ⟨x, e, k⟩
/-- The first one gone: v[1:]. -/
theorem Sq.tl {x : Value} {xs : List Value} {K : Option Addr → Nat → Nat → Prop} (s : Sq own h i v (x :: xs))
    (k : ∀ (a : Option Addr) (l c : Nat), (l : Int) = xs.length + 1 → 1 ≤ (l : Int) → (l : Int) ≤ (c : Int) → Sq own h i (sliceV a c 1 (l : Int) 1) xs → K a l c) : slcP v K := by
  rcases s with ⟨h1, _⟩ | ⟨b, pre, zs, post, c, e, hb, rfl, h2, h3⟩
  · cases h1
  · refine k _ _ _ (by simp) (by simp; omega) (by simp at h3 ⊢; omega) ?_
    unfold sliceV
    simp only [List.length_cons] at h3 ⊢
    have e1 : ((1 : Int)).toNat = 1 := rfl
    have e2 : (((xs.length + 1 : Nat) : Int)).toNat = xs.length + 1 := Int.toNat_natCast _
    rw [e1, e2]
    by_cases hc : c = 1
    · subst hc
      have : xs = [] := List.length_eq_zero_iff.1 (by omega)
      subst this
      rw [if_pos rfl]
      exact .inr ⟨b, pre, [], x :: (zs ++ post), 0, e, hb, rfl, by simpa using h2, rfl⟩
    · rw [if_neg hc]
      refine .inr ⟨b, pre ++ [x], zs, post, c - 1, e, hb, ?_, by simpa using h2, by omega⟩
      simp [Addr.add]
/-- One more at the end. -/
theorem Sq.push {x z : Value} {ex : Nat} {K : Nat → H → Value → H → Prop} {e bytes : Nat} (s : Sq own h i v vs)
    (one : x.oneCell' = true) (hb : bytes ≤ 8) (hl : vs.length < 1000000)
    (k : ∀ bx hm p' own' h', h bx = none → Ext h hm → Fm [i] own h own' h' → Sq own' h' i p' (vs ++ [x]) → K bx hm p' h') :
    newP h (.cells ⟨[x]⟩ ex (0, 0)) fun bx hm => apP v (.slice (some (bk bx)) 1 1) hm 1 e bytes [z] (K bx hm) := by
  refine new_put ?_
  intro bx hm hbx xm hx
  have hsrc : srcP hm (some (bk bx)) (1 * 1) [x] := by
    refine ⟨rfl, fun j v hj => ?_⟩
    rw [bk_add, hcell_at hx, List.getElem?_toArray]
    exact hj
  have hzl : ∀ m, (zrep [z] m).length = m := by intro m; simp [zrep]
  rcases s with ⟨rfl, rfl⟩ | ⟨b, pre, zs, post, c, eb, hob, rfl, h2, h3⟩
  · refine ⟨[x], hsrc, fun hle => by omega, fun hlt => ⟨?_, [], ⟨rfl, rfl⟩, fun cap hcap => ?_⟩⟩
    · have := nextcap_le hlt
      calc _ ≤ (2 * (0 + 1) + 192) * bytes := Nat.mul_le_mul_right _ this
        _ ≤ (2 * (0 + 1) + 192) * 8 := Nat.mul_le_mul_left _ hb
        _ ≤ _ := by omega
    · refine new_put ?_
      intro b g hbn x1 e1
      rw [Nat.zero_add] at e1 hcap ⊢
      refine k bx hm _ (own1 own b i) g hbx xm (Fm.new (xm.trans' x1) (xm.new hbn)) (.inr ⟨b, [], zrep [z] (cap - 1), [], cap, e, own1_at, rfl, by rw [e1]; simp, ?_⟩)
      rw [hzl]; simp; omega
  · have h2m := xm _ _ h2
    refine ⟨[x], hsrc, fun hle => ⟨fun _ => ?_, by simpa using one, ?_⟩, fun hlt => ⟨?_, vs, ⟨by rw [Nat.mul_one], ?_⟩, fun cap hcap => ?_⟩⟩
    · rw [bk_add2]
      refine ⟨_, _, h2m, rfl, ?_⟩
      simp only [List.size_toArray, List.length_append, List.length_singleton]
      omega
    · rw [bk_add2]
      cases zs with
      | nil => simp at h3; omega
      | cons z0 zs =>
        have e2 : hset hm ⟨b, pre.length + vs.length * 1, none⟩ [x] b = some (.cells ⟨pre ++ ((vs ++ [x]) ++ (zs ++ post))⟩ eb (0, 0)) := by
          unfold hset
          rw [if_pos rfl, h2m]
          simp only [Option.map_some, setR, Nat.mul_one]
          rw [List.setIfInBounds_toArray]
          congr 3
          rw [List.set_append_right _ _ (by omega), show pre.length + vs.length - pre.length = vs.length by omega, List.set_append_right _ _ (by omega), Nat.sub_self]
          simp
        refine k bx hm _ own _ hbx xm ((Fm.of_ext xm).trans (Fm.kp (b := b) ?_ hob ⟨_, e2⟩)) (.inr ⟨b, pre, zs, post, c, eb, hob, by simp, e2, by simp at h3 ⊢; omega⟩)
        intro j o hj hh
        unfold hset
        rw [if_neg hj]; exact hh
    · have := nextcap_le hlt
      calc _ ≤ (2 * (vs.length + 1) + 192) * bytes := Nat.mul_le_mul_right _ this
        _ ≤ (2 * (vs.length + 1) + 192) * 8 := Nat.mul_le_mul_left _ hb
        _ ≤ _ := by omega
    · intro j v hj
      rw [bk_add2, hcell_at h2m, List.getElem?_toArray, List.getElem?_append_right (by omega), show pre.length + j - pre.length = j by omega]
      have := (List.getElem?_eq_some_iff.1 hj).1
      rw [List.getElem?_append_left this]
      exact hj
    · refine new_put ?_
      intro b' g hbn x1 e1
      refine k bx hm _ (own1 own b' i) g hbx xm (Fm.new (xm.trans' x1) (xm.new hbn)) (.inr ⟨b', [], zrep [z] (cap - (vs.length + 1)), [], cap, e, own1_at, by simp, by rw [e1]; simp, ?_⟩)
      rw [hzl]; simp; omega
end

/-! ### Measures in any well-founded order that is linear -/

structure LW (α : Type) where
  r : α → α → Prop
  wf : WellFounded r
  tri : ∀ a b c, ¬ r a b → r a c → r b c
def MinW {σ α : Type} (W : LW α) (I : σ → H → α → Prop) (x : σ × H) (b : α) : Prop := I x.1 x.2 b ∧ ∀ c, I x.1 x.2 c → ¬ W.r c b
def rkW {σ α : Type} (W : LW α) (I : σ → H → α → Prop) (x y : σ × H) : Prop := ∃ b, MinW W I y b ∧ ∃ a, MinW W I x a ∧ W.r a b
theorem minW {σ α : Type} {W : LW α} {I : σ → H → α → Prop} {x : σ × H} : ∀ {a : α}, I x.1 x.2 a → ∃ b, MinW W I x b := by
  intro a
  induction a using W.wf.induction with
  | _ a ih =>
    intro h
    by_cases e : ∃ c, I x.1 x.2 c ∧ W.r c a
    · obtain ⟨c, h1, h2⟩ := e
      exact ih c h2 h1
    · exact ⟨a, h, fun c hc hr => e ⟨c, hc, hr⟩⟩
theorem rkW_wf {σ α : Type} (W : LW α) (I : σ → H → α → Prop) : WellFounded (rkW W I) := by
  have key : ∀ b, ∀ y, MinW W I y b → Acc (rkW W I) y := by
    intro b
    induction b using W.wf.induction with
    | _ b ih =>
      intro y hy
      refine ⟨_, fun x ⟨b', hb', a, ha, hr⟩ => ih a ?_ x ha⟩
      apply Classical.byContradiction
      intro hn
      exact hy.2 b' hb'.1 |>.elim (by
        have := W.tri a b b' hn hr
        exact absurd this (hb'.2 b hy.1))
  refine ⟨fun y => ⟨_, fun x ⟨b', hb', a, ha, hr⟩ => key a x ha⟩⟩
theorem muW {σ α : Type} {W : LW α} {I : σ → H → α → Prop} {s : σ} {h : H} (k : ∃ a, I s h a) : ∃ b, I s h b ∧ MinW W I (s, h) b := by
  obtain ⟨a, ha⟩ := k
  obtain ⟨b, hb⟩ := minW (W := W) (x := (s, h)) ha
  exact ⟨b, hb.1, hb⟩
theorem muW_next {σ α : Type} {W : LW α} {I : σ → H → α → Prop} {s s' : σ} {h h' : H} {a b : α} (hb : MinW W I (s, h) b) (i : I s' h' a) (lt : W.r a b) :
    (∃ a, I s' h' a) ∧ rkW W I (s', h') (s, h) := by
  refine ⟨⟨a, i⟩, b, hb, ?_⟩
  obtain ⟨c, hc⟩ := minW (W := W) (x := (s', h')) i
  exact ⟨c, hc, W.tri a c b (hc.2 a i) lt⟩
/-- Four numbers, the first counts most. -/
abbrev N4 := Nat × Nat × Nat × Nat
def r4 (a b : N4) : Prop := a.1 < b.1 ∨ a.1 = b.1 ∧ (a.2.1 < b.2.1 ∨ a.2.1 = b.2.1 ∧ (a.2.2.1 < b.2.2.1 ∨ a.2.2.1 = b.2.2.1 ∧ a.2.2.2 < b.2.2.2))
def W4 : LW N4 where
  r := r4
  wf := by
    have w := (Prod.lex ⟨fun a b : Nat => a < b, Nat.lt_wfRel.wf⟩ (Prod.lex ⟨fun a b : Nat => a < b, Nat.lt_wfRel.wf⟩ (Prod.lex ⟨fun a b : Nat => a < b, Nat.lt_wfRel.wf⟩ ⟨fun a b : Nat => a < b, Nat.lt_wfRel.wf⟩))).wf
    refine Subrelation.wf (r := _) ?_ w
    rintro ⟨a1, a2, a3, a4⟩ ⟨b1, b2, b3, b4⟩ h
    simp only [r4] at h
    rcases h with h | ⟨rfl, h | ⟨rfl, h | ⟨rfl, h⟩⟩⟩
    · exact Prod.Lex.left _ _ h
    · exact Prod.Lex.right _ (Prod.Lex.left _ _ h)
    · exact Prod.Lex.right _ (Prod.Lex.right _ (Prod.Lex.left _ _ h))
    · exact Prod.Lex.right _ (Prod.Lex.right _ (Prod.Lex.right _ h))
  tri := by
    rintro ⟨a1, a2, a3, a4⟩ ⟨b1, b2, b3, b4⟩ ⟨c1, c2, c3, c4⟩ h1 h2
    simp only [r4] at *
    omega

end Go.Proofs.Ythglkcpoofenbaa

/-! Pushing: set, give. -/
namespace Go.Proofs.Ythglkcpoofenbaa
open Go
set_option linter.unusedVariables false
set_option linter.unusedSimpArgs false

/-- How many nodes have a height. -/
def cntH (n : Nat) (ht : Nat → Int) (k : Int) : Int := sumN n fun u => if ht u = k then 1 else 0
theorem cntH_upd {n v : Nat} {ht : Nat → Int} {y k : Int} (hv : v < n) : cntH n (upd ht v y) k = cntH n ht k - (if ht v = k then 1 else 0) + (if y = k then 1 else 0) := by
  unfold cntH
  have e : (fun u => if upd ht v y u = k then (1 : Int) else 0) = upd (fun u => if ht u = k then 1 else 0) v (if y = k then 1 else 0) := by
    funext u
    unfold upd
    by_cases h : u = v
    · rw [if_pos h, if_pos h]
    · rw [if_neg h, if_neg h]
  rw [e, sumN_upd hv]
theorem cntH_bd {n : Nat} {ht : Nat → Int} {k : Int} : 0 ≤ cntH n ht k ∧ cntH n ht k ≤ n := by
  constructor
  · exact sumN_nonneg fun u _ => by split <;> omega
  · have := sumN_bd (k := n) (c := 1) (f := fun u => if ht u = k then (1 : Int) else 0) fun u _ => by split <;> omega
    unfold cntH; omega
theorem cntH_none {n : Nat} {ht : Nat → Int} {k : Int} (h : cntH n ht k = 0) : ∀ u, u < n → ht u ≠ k := by
  intro u hu e
  have := sumN_all0 (f := fun u => if ht u = k then (1 : Int) else 0) (k := n) (fun u _ => by split <;> omega) (by unfold cntH at h; omega) u hu
  simp [e] at this
/-- Some height among n + 1 has no node. -/
theorem gap_ex {n : Nat} {ht : Nat → Int} (b : Int) : ∃ k : Nat, k < n + 1 ∧ ∀ u, u < n → ht u ≠ b + k := by
  apply Classical.byContradiction
  intro hno
  have h1 : ∀ k, k < n + 1 → 1 ≤ cntH n ht (b + k) := by
    intro k hk
    have := cntH_bd (n := n) (ht := ht) (k := b + k)
    by_cases e : cntH n ht (b + k) = 0
    · exact absurd ⟨k, hk, cntH_none e⟩ hno
    · omega
  have h2 : (n : Int) + 1 ≤ sumN (n + 1) fun k => cntH n ht (b + k) := by
    have := sumN_le (k := n + 1) (f := fun _ => 1) h1
    rw [sumN_const] at this; omega
  unfold cntH at h2
  rw [sumN_swap] at h2
  have h3 : sumN n (fun u => sumN (n + 1) fun k => if ht u = b + k then (1 : Int) else 0) ≤ n * 1 := by
    refine sumN_bd fun u hu => ?_
    by_cases e : ∃ j : Nat, ht u = b + j
    · obtain ⟨j, e⟩ := e
      have : sumN (n + 1) (fun k => if ht u = b + k then (1 : Int) else 0) = sumN (n + 1) (fun k => if j = k then (1 : Int) else 0) := sumN_congr fun k _ => by
        by_cases h : j = k
        · rw [if_pos h, if_pos (by omega)]
        · rw [if_neg h, if_neg (by omega)]
      rw [this, sumN_pt]; split <;> omega
    · rw [sumN_zero]
      · omega
      · intro k _
        rw [if_neg]
        intro h; exact e ⟨k, h⟩
  omega
def CntP (n : Nat) (ht cnt : Nat → Int) : Prop := ∀ k, k < 2 * n + 2 → cnt k = cntH n ht k

/-- pushing in the heap: owners 5 (the struct), 6 (height), 7 (count), 8 (excess), 9 (queue), 10 (next). -/
structure Ps (own : Own) (h : H) (bp bn n m : Nat) (fr to : Nat → Nat) (s t : Nat) (room ht ex nxt : Nat → Int) (Q : List Nat) : Prop where
  net : Net own h bn n m fr to s t room
  ex_ : ∃ vh vc vx vq vn cnt, B1 own h 5 bp [.pointer (some (bk bn)), vh, vc, vx, vq, vn] ∧ S1 own h 6 vh (ints n ht) ∧ S1 own h 7 vc (ints (2 * n + 2) cnt) ∧ CntP n ht cnt ∧
    S1 own h 8 vx (ints n ex) ∧ Sq own h 9 vq (natV Q) ∧ S1 own h 10 vn (ints n nxt)

section
variable {own : Own} {h : H} {bp bn n m s t : Nat} {fr to : Nat → Nat} {room ht ex nxt : Nat → Int} {Q : List Nat}

theorem set_T (P : Ps own h bp bn n m fr to s t room ht ex nxt Q) (n1 : n ≤ 1024) {v x y : Nat} (hv : v < n) (hx : ht v = x) (hx2 : x < 2 * n + 2) (hy : y < 2 * n + 2) :
    T Try.prog F.maxflow_pushing_set [.pointer (some (bk bp)), .int .i64 v, .int .i64 y] h fun r h' =>
      r = .ret (.tuple ⟨[]⟩) ∧ Fm [6, 7] own h own h' ∧ Ps own h' bp bn n m fr to s t room (upd ht v y) ex nxt Q := by
  obtain ⟨vh, vc, vx, vq, vn, cnt, k5, k6, k7, C, k8, k9, k10⟩ := P.ex_
  have N := P.net
  refine E_maxflow_pushing_set ?_
  unfold B_maxflow_pushing_set
  refine ⟨_, k5.ld rfl, _, k5.ld rfl, k6.rdI hv ?_⟩
  rw [hx]
  refine k7.rdI hx2 (k7.setI hx2 ?_)
  intro g1 F1 k7
  have N := N.fm F1 (by simp <;> omega)
  have k5 := k5.fm F1 (by simp <;> omega)
  have k6 := k6.fm F1 (by simp <;> omega)
  have k8 := k8.fm F1 (by simp <;> omega)
  have k9 := k9.fm F1 (by simp <;> omega)
  have k10 := k10.fm F1 (by simp <;> omega)
  have b1 := cntH_bd (n := n) (ht := ht) (k := x)
  have c1 := C x hx2
  have ew : IntKind.i64.wrap (cnt x - 1) = cnt x - 1 := w64_in (by omega) (by omega)
  rw [ew] at k7
  refine ⟨_, k5.ld rfl, k6.setI hv ?_⟩
  intro g2 F2 k6
  have N := N.fm F2 (by simp <;> omega)
  have k5 := k5.fm F2 (by simp <;> omega)
  have k7 := k7.fm F2 (by simp <;> omega)
  have k8 := k8.fm F2 (by simp <;> omega)
  have k9 := k9.fm F2 (by simp <;> omega)
  have k10 := k10.fm F2 (by simp <;> omega)
  refine ⟨_, k5.ld rfl, k7.rdI hy (k7.setI hy ?_)⟩
  intro g3 F3 k7
  have N := N.fm F3 (by simp <;> omega)
  have k5 := k5.fm F3 (by simp <;> omega)
  have k6 := k6.fm F3 (by simp <;> omega)
  have k8 := k8.fm F3 (by simp <;> omega)
  have k9 := k9.fm F3 (by simp <;> omega)
  have k10 := k10.fm F3 (by simp <;> omega)
  refine ⟨rfl, ((F1.mono (by simp)).trans (F2.mono (by simp))).trans (F3.mono (by simp)), N, vh, vc, vx, vq, vn, _, k5, k6, k7, ?_, k8, k9, k10⟩
  intro k hk
  have b2 := cntH_bd (n := n) (ht := ht) (k := y)
  have c2 := C y hy
  rw [cntH_upd hv, hx]
  have ck := C k hk
  have up : upd cnt x (cnt x - 1) y = if y = x then cnt x - 1 else cnt y := rfl
  have ew2 : IntKind.i64.wrap (upd cnt x (cnt x - 1) y + 1) = upd cnt x (cnt x - 1) y + 1 := w64_in (by rw [up]; split <;> omega) (by rw [up]; split <;> omega)
  rw [ew2, up]
  unfold upd
  by_cases e1 : k = y <;> by_cases e2 : k = x <;> by_cases e3 : y = x <;> simp [e1, e2, e3] <;> omega

/-- The queue behind a push to w. -/
def giveQ (s t : Nat) (ex : Nat → Int) (Q : List Nat) (w : Nat) : List Nat := if ex w = 0 ∧ w ≠ s ∧ w ≠ t then Q ++ [w] else Q
def giveX (ex : Nat → Int) (v w : Nat) (x : Int) : Nat → Int := upd (upd ex v (ex v - x)) w (upd ex v (ex v - x) w + x)
theorem give_T (P : Ps own h bp bn n m fr to s t room ht ex nxt Q) (hn : ∀ i, i < m → fr i < n ∧ to i < n) (m1 : m ≤ 4096) {v a : Nat} (hv : v < n) (ha : a < 2 * m) {x : Int}
    (hx : x = if room a < ex v then room a else ex v) (hxe : ∀ u, u < n → -1000000000000 ≤ ex u ∧ ex u ≤ 1000000000000) (hr : ∀ a, a < 2 * m → 0 ≤ room a ∧ room a ≤ 1048576) (hx0 : 0 ≤ x) (hQ : Q.length < 1000000) :
    T Try.prog F.maxflow_pushing_give [.pointer (some (bk bp)), .int .i64 v, .int .i64 a] h fun r h' =>
      ∃ own', r = .ret (.tuple ⟨[]⟩) ∧ Fm [2, 5, 8, 9] own h own' h' ∧ Ps own' h' bp bn n m fr to s t (sndR room a x) ht (giveX ex v (hdA fr to a) x) nxt (giveQ s t ex Q (hdA fr to a)) := by
  obtain ⟨vh, vc, vx, vq, vn, cnt, k5, k6, k7, C, k8, k9, k10⟩ := P.ex_
  have N := P.net
  have hw := hd_lt hn ha
  generalize hww : hdA fr to a = w at *
  have hx1 : x ≤ room a := by rw [hx]; split <;> omega
  have hra := hr a ha
  have hrp := hr _ (prA_lt ha)
  refine E_maxflow_pushing_give ?_
  unfold B_maxflow_pushing_give
  obtain ⟨vto, vroom, vout, outs, q4, q1, q2, q3, qa⟩ := N.ex
  refine ptrP_mk ⟨_, k5.ld rfl, ptrP_mk ⟨_, q4.ld rfl, q1.rdI ha ?_⟩⟩
  dsimp only
  rw [hww]
  refine ptrP_mk (ptrP_mk ⟨_, k5.ld rfl, k8.rdI hv ⟨_, k5.ld rfl, ptrP_mk ⟨_, q4.ld rfl, q2.rdI ha ?_⟩⟩⟩)
  rw [← hx]
  refine ptrP_mk ⟨_, k5.ld rfl, ?_⟩
  refine (send_T N m1 ha (x := x) (by omega) (by omega)).mono ?_
  rintro _ g1 ⟨rfl, F1, N⟩
  clear q4 q1 q2 q3 qa
  refine rt_ret ⟨rfl, ?_⟩
  have k5 := k5.fm F1 (by simp <;> omega)
  have k6 := k6.fm F1 (by simp <;> omega)
  have k7 := k7.fm F1 (by simp <;> omega)
  have k8 := k8.fm F1 (by simp <;> omega)
  have k9 := k9.fm F1 (by simp <;> omega)
  have k10 := k10.fm F1 (by simp <;> omega)
  refine ⟨fun _ g => ∃ own' vq, Fm [2, 5, 9] own h own' g ∧ Net own' g bn n m fr to s t (sndR room a x) ∧ B1 own' g 5 bp [.pointer (some (bk bn)), vh, vc, vx, vq, vn] ∧ S1 own' g 6 vh (ints n ht) ∧ S1 own' g 7 vc (ints (2 * n + 2) cnt) ∧
    S1 own' g 8 vx (ints n ex) ∧ Sq own' g 9 vq (natV (giveQ s t ex Q w)) ∧ S1 own' g 10 vn (ints n nxt), ?_, ?_⟩
  · have same : giveQ s t ex Q w = Q → ∃ own' vq, Fm [2, 5, 9] own h own' g1 ∧ Net own' g1 bn n m fr to s t (sndR room a x) ∧ B1 own' g1 5 bp [.pointer (some (bk bn)), vh, vc, vx, vq, vn] ∧ S1 own' g1 6 vh (ints n ht) ∧ S1 own' g1 7 vc (ints (2 * n + 2) cnt) ∧
        S1 own' g1 8 vx (ints n ex) ∧ Sq own' g1 9 vq (natV (giveQ s t ex Q w)) ∧ S1 own' g1 10 vn (ints n nxt) := fun e => ⟨own, vq, F1.mono (by simp), N, k5, k6, k7, k8, by rw [e]; exact k9, k10⟩
    refine ptrP_mk ⟨_, k5.ld rfl, k8.rdI hw ?_⟩
    refine ifP_of (fun h1 => ?_) (fun h1 => same (if_neg fun h => by have := of_decide_eq_false h1; omega))
    have h1 := of_decide_eq_true h1
    obtain ⟨vto, vroom, vout, outs, q4, q1, q2, q3, qa⟩ := N.ex
    refine ptrP_mk ⟨_, k5.ld rfl, ptrP_mk ⟨_, q4.ld rfl, ?_⟩⟩
    refine ifP_of (fun h2 => ?_) (fun h2 => same (if_neg fun h => by simp at h2; omega))
    have h2 : w ≠ s := by simp at h2; omega
    refine ptrP_mk ⟨_, k5.ld rfl, ptrP_mk ⟨_, q4.ld rfl, ?_⟩⟩
    refine ifP_of (fun h3 => ?_) (fun h3 => same (if_neg fun h => by simp at h3; omega))
    have h3 : w ≠ t := by simp at h3; omega
    refine ptrP_mk ⟨_, k5.ld rfl, ?_⟩
    refine k9.push rfl (by omega) (by rw [natV_length]; exact hQ) ?_
    intro _ _ vq' own2 g2 _ _ F2 k9
    have N := N.fm F2 (by simp <;> omega)
    have k5 := k5.fm F2 (by simp <;> omega)
    have k6 := k6.fm F2 (by simp <;> omega)
    have k7 := k7.fm F2 (by simp <;> omega)
    have k8 := k8.fm F2 (by simp <;> omega)
    have k10 := k10.fm F2 (by simp <;> omega)
    refine ptrP_mk (oneP_slc k9.isS ?_)
    refine k5.st (by simp) ?_
    intro g3 F3 k5
    simp only [List.set] at k5
    have N := N.fm F3 (by simp <;> omega)
    have k9 := k9.fm F3 (by simp <;> omega)
    have k6 := k6.fm F3 (by simp <;> omega)
    have k7 := k7.fm F3 (by simp <;> omega)
    have k8 := k8.fm F3 (by simp <;> omega)
    have k10 := k10.fm F3 (by simp <;> omega)
    have eQ : natV Q ++ [.int .i64 ((w : Nat) : Int)] = natV (giveQ s t ex Q w) := by
      unfold giveQ
      rw [if_pos ⟨h1, h2, h3⟩]; simp [natV]
    rw [eQ] at k9
    exact ⟨own2, vq', ((F1.mono (by simp)).trans (F2.mono (by simp))).trans (F3.mono (by simp)), N, k5, k6, k7, k8, k9, k10⟩
  · rintro g2 ⟨own2, vq', F2, N, k5, k6, k7, k8, k9, k10⟩
    refine ptrP_mk ⟨_, k5.ld rfl, k8.rdI hv (k8.setI hv ?_)⟩
    intro g3 F3 k8
    have N := N.fm F3 (by simp <;> omega)
    have k5 := k5.fm F3 (by simp <;> omega)
    have k9 := k9.fm F3 (by simp <;> omega)
    have k6 := k6.fm F3 (by simp <;> omega)
    have k7 := k7.fm F3 (by simp <;> omega)
    have k10 := k10.fm F3 (by simp <;> omega)
    have hev := hxe v hv
    have hew := hxe w hw
    have ew : IntKind.i64.wrap (ex v - x) = ex v - x := w64_in (by omega) (by omega)
    rw [ew] at k8
    refine ptrP_mk ⟨_, k5.ld rfl, k8.rdI hw (k8.setI hw ?_)⟩
    intro g4 F4 k8
    have N := N.fm F4 (by simp <;> omega)
    have k5 := k5.fm F4 (by simp <;> omega)
    have k9 := k9.fm F4 (by simp <;> omega)
    have k6 := k6.fm F4 (by simp <;> omega)
    have k7 := k7.fm F4 (by simp <;> omega)
    have k10 := k10.fm F4 (by simp <;> omega)
    have up : upd ex v (ex v - x) w = if w = v then ex v - x else ex w := rfl
    have ew2 : IntKind.i64.wrap (upd ex v (ex v - x) w + x) = upd ex v (ex v - x) w + x := w64_in (by rw [up]; split <;> omega) (by rw [up]; split <;> omega)
    rw [ew2] at k8
    exact ⟨own2, rfl, ((F2.mono (by simp)).trans (F3.mono (by simp))).trans (F4.mono (by simp)), N, vh, vc, vx, vq', vn, cnt, k5, k6, k7, C, k8, k9, k10⟩
end

end Go.Proofs.Ythglkcpoofenbaa

/-! Pushing: lift. -/
namespace Go.Proofs.Ythglkcpoofenbaa
open Go
set_option linter.unusedVariables false
set_option linter.unusedSimpArgs false

theorem B1.uniq {own : Own} {h : H} {i j b : Nat} {vs ws : List Value} (a : B1 own h i b vs) (c : B1 own h j b ws) : vs = ws := by
  obtain ⟨_, e, k⟩ := a
  obtain ⟨_, e', k'⟩ := c
  rw [k] at k'
  simp only [Option.some.injEq, Obj.cells.injEq, Array.mk.injEq] at k'
  exact k'.1
/-- Below a gap all nodes up to i are lifted. -/
def gapH (old : Int) (n s i : Nat) (ht : Nat → Int) (u : Nat) : Int := if u < i ∧ old < ht u ∧ ht u ≤ n ∧ u ≠ s then (n + 1 : Nat) else ht u
def gapN (old : Int) (n s i : Nat) (ht nxt : Nat → Int) (u : Nat) : Int := if u < i ∧ old < ht u ∧ ht u ≤ n ∧ u ≠ s then 0 else nxt u
theorem gapH_0 {old : Int} {n s : Nat} {ht : Nat → Int} : gapH old n s 0 ht = ht := by funext u; exact if_neg (by omega)
theorem gapN_0 {old : Int} {n s : Nat} {ht nxt : Nat → Int} : gapN old n s 0 ht nxt = nxt := by funext u; exact if_neg (by omega)
theorem gapH_no {old : Int} {n s i : Nat} {ht : Nat → Int} (h : ¬ (old < ht i ∧ ht i ≤ n ∧ i ≠ s)) : gapH old n s (i + 1) ht = gapH old n s i ht := by
  funext u
  unfold gapH
  by_cases e : u < i ∧ old < ht u ∧ ht u ≤ n ∧ u ≠ s
  · rw [if_pos e, if_pos ⟨by omega, e.2⟩]
  · rw [if_neg e, if_neg]
    rintro ⟨h1, h2⟩
    by_cases e2 : u = i
    · subst e2; exact h h2
    · exact e ⟨by omega, h2⟩
theorem gapN_no {old : Int} {n s i : Nat} {ht nxt : Nat → Int} (h : ¬ (old < ht i ∧ ht i ≤ n ∧ i ≠ s)) : gapN old n s (i + 1) ht nxt = gapN old n s i ht nxt := by
  funext u
  unfold gapN
  by_cases e : u < i ∧ old < ht u ∧ ht u ≤ n ∧ u ≠ s
  · rw [if_pos e, if_pos ⟨by omega, e.2⟩]
  · rw [if_neg e, if_neg]
    rintro ⟨h1, h2⟩
    by_cases e2 : u = i
    · subst e2; exact h h2
    · exact e ⟨by omega, h2⟩
theorem gapH_yes {old : Int} {n s i : Nat} {ht : Nat → Int} (h : old < ht i ∧ ht i ≤ n ∧ i ≠ s) : gapH old n s (i + 1) ht = upd (gapH old n s i ht) i (n + 1 : Nat) := by
  funext u
  unfold gapH upd
  by_cases e2 : u = i
  · subst e2; rw [if_pos ⟨by omega, h⟩, if_pos rfl]
  · rw [if_neg e2]
    dsimp only
    by_cases e : u < i ∧ old < ht u ∧ ht u ≤ n ∧ u ≠ s
    · rw [if_pos e, if_pos ⟨by omega, e.2⟩]
    · rw [if_neg e, if_neg (fun h => e ⟨by omega, h.2⟩)]
theorem gapN_yes {old : Int} {n s i : Nat} {ht nxt : Nat → Int} (h : old < ht i ∧ ht i ≤ n ∧ i ≠ s) : gapN old n s (i + 1) ht nxt = upd (gapN old n s i ht nxt) i 0 := by
  funext u
  unfold gapN upd
  by_cases e2 : u = i
  · subst e2; rw [if_pos ⟨by omega, h⟩, if_pos rfl]
  · rw [if_neg e2]
    dsimp only
    by_cases e : u < i ∧ old < ht u ∧ ht u ≤ n ∧ u ≠ s
    · rw [if_pos e, if_pos ⟨by omega, e.2⟩]
    · rw [if_neg e, if_neg (fun h => e ⟨by omega, h.2⟩)]
theorem gapH_at {old : Int} {n s i : Nat} {ht : Nat → Int} : gapH old n s i ht i = ht i := if_neg (by omega)

theorem min_if (a b : Int) : (if a < b then a else b) ≤ a ∧ (if a < b then a else b) ≤ b ∧ ((if a < b then a else b) = a ∨ (if a < b then a else b) = b) := by
  split <;> omega
section
variable {own : Own} {h : H} {bp bn n m s t : Nat} {fr to : Nat → Nat} {room ht ex nxt : Nat → Int} {Q : List Nat}

/-- What lift comes to. -/
def LiftR (n m : Nat) (fr to : Nat → Nat) (s : Nat) (room ht nxt : Nat → Int) (v : Nat) (ht' nxt' : Nat → Int) : Prop := ∃ low : Nat, ht v + 1 ≤ low ∧ low ≤ 2 * n ∧
  (∀ a, a < 2 * m → tlA fr to a = v → 0 < room a → (low : Int) ≤ ht (hdA fr to a) + 1) ∧
  ((ht' = upd ht v low ∧ nxt' = upd nxt v 0) ∨ ((∀ u, u < n → upd ht v low u ≠ ht v) ∧ ht v < n ∧ ht' = gapH (ht v) n s n (upd ht v low) ∧ nxt' = gapN (ht v) n s n (upd ht v low) (upd nxt v 0)))
theorem lift_T (P : Ps own h bp bn n m fr to s t room ht ex nxt Q) (hn : ∀ i, i < m → fr i < n ∧ to i < n) (n1 : n ≤ 1024) (m1 : m ≤ 4096) {v : Nat} (hv : v < n)
    (hb : ∀ u, u < n → 0 ≤ ht u ∧ ht u ≤ 2 * n) (hvb : ht v + 1 ≤ 2 * n) (hva : ∀ a, a < 2 * m → tlA fr to a = v → 0 < room a → ht v ≤ ht (hdA fr to a)) :
    T Try.prog F.maxflow_pushing_lift [.pointer (some (bk bp)), .int .i64 v] h fun r h' => r = .ret (.tuple ⟨[]⟩) ∧ Fm [6, 7, 10] own h own h' ∧
      ∃ ht' nxt', Ps own h' bp bn n m fr to s t room ht' ex nxt' Q ∧ LiftR n m fr to s room ht nxt v ht' nxt' := by
  obtain ⟨vh, vc, vx, vq, vn, cnt, k5, k6, k7, C, k8, k9, k10⟩ := P.ex_
  have N := P.net
  have hbv := hb v hv
  obtain ⟨old, hold⟩ : ∃ old : Nat, ht v = old := ⟨(ht v).toNat, by omega⟩
  refine E_maxflow_pushing_lift ?_
  unfold B_maxflow_pushing_lift
  obtain ⟨vto, vroom, vout, outs, q4, q1, q2, q3, qa⟩ := N.ex
  refine ptrP_mk (ptrP_mk ⟨_, k5.ld rfl, k6.rdI hv ⟨_, k5.ld rfl, ptrP_mk ⟨_, q4.ld rfl, q3.len (va_length _ _) fun _ _ => ?_⟩⟩⟩)
  refine ptrP_mk ⟨_, k5.ld rfl, ptrP_mk ⟨_, q4.ld rfl, q3.rdV hv ?_⟩⟩
  have hlen := arcsL_length (fr := fr) (to := to) (v := v) (i := m)
  refine (qa v hv).len (natV_length _) fun _ _ => ?_
  have ew : IntKind.i64.wrap (2 * (n : Int)) = 2 * (n : Int) := w64_in (by omega) (by omega)
  rw [ew]
  let I : (Int × Int × Unit) → H → Nat → Prop := fun p q k => ∃ j : Nat, p.2.1 = j ∧ j ≤ (arcsL fr to m v).length ∧ k = (arcsL fr to m v).length - j ∧ q = h ∧ ht v + 1 ≤ p.1 ∧ p.1 ≤ 2 * n ∧
    ∀ a ∈ (arcsL fr to m v).take j, 0 < room a → p.1 ≤ ht (hdA fr to a) + 1
  refine ⟨fun p q => ∃ k, I p q k, rk I, rk_wf I, ⟨_, 0, rfl, by omega, rfl, rfl, hvb, Int.le_refl _, fun a ha => by simp at ha⟩, ?_⟩
  intro low p q hI
  obtain ⟨j, e1, hj, hk, e2, hl1, hl2, hl3⟩ := mu_spec hI
  generalize hkk : mu I ((low, p, ()), q) = km at *
  change p = (j : Int) at e1
  change q = h at e2
  subst e1
  subst e2
  change ht v + 1 ≤ low at hl1
  change low ≤ 2 * n at hl2
  change ∀ a ∈ (arcsL fr to m v).take j, 0 < room a → low ≤ ht (hdA fr to a) + 1 at hl3
  refine ifP_of (fun h1 => ?_) (fun h1 => ?_)
  · have hja : j < (arcsL fr to m v).length := by have := of_decide_eq_true h1; omega
    have ha := mem_arcsL.1 (List.getElem_mem hja)
    have htk : (arcsL fr to m v).take (j + 1) = (arcsL fr to m v).take j ++ [(arcsL fr to m v)[j]] := List.take_succ_eq_append_getElem hja
    generalize haa : (arcsL fr to m v)[j] = a at *
    have hw := hd_lt hn ha.1
    refine (qa v hv).rd (natV_get hja) ?_
    rw [haa]
    refine ptrP_mk ⟨_, k5.ld rfl, ptrP_mk ⟨_, q4.ld rfl, q2.rdI ha.1 ?_⟩⟩
    rw [i64_inc (by omega)]
    refine ifP_of (fun h2 => ?_) (fun h2 => ?_)
    · have h2 := of_decide_eq_true h2
      refine ptrP_mk (ptrP_mk ⟨_, k5.ld rfl, _, k5.ld rfl, ptrP_mk ⟨_, q4.ld rfl, q1.rdI ha.1 (k6.rdI hw ?_)⟩⟩)
      dsimp only
      have hbw := hb _ hw
      have ew : IntKind.i64.wrap (ht (hdA fr to a) + 1) = ht (hdA fr to a) + 1 := w64_in (by omega) (by omega)
      rw [ew]
      have := hva a ha.1 ha.2 h2
      have mm := min_if (ht (hdA fr to a) + 1) low
      generalize (if ht (hdA fr to a) + 1 < low then ht (hdA fr to a) + 1 else low) = lo2 at mm ⊢
      refine mu_next (I := I) (k := (arcsL fr to m v).length - (j + 1)) ⟨j + 1, rfl, hja, rfl, rfl, ?_, ?_, ?_⟩ (by rw [hkk, hk]; omega)
      · show ht v + 1 ≤ lo2
        omega
      · show lo2 ≤ _
        omega
      · intro b hb hrb
        show lo2 ≤ _
        rw [htk] at hb
        rcases List.mem_append.1 hb with hb | hb
        · have := hl3 b hb hrb
          omega
        · rw [List.mem_singleton] at hb
          subst hb
          omega
    · have h2 := of_decide_eq_false h2
      refine mu_next (I := I) (k := (arcsL fr to m v).length - (j + 1)) ⟨j + 1, rfl, hja, rfl, rfl, hl1, hl2, ?_⟩ (by rw [hkk, hk]; omega)
      intro b hb hrb
      rw [htk] at hb
      rcases List.mem_append.1 hb with hb | hb
      · exact hl3 b hb hrb
      · rw [List.mem_singleton] at hb
        subst hb
        exact absurd hrb h2
  · have hja : j = (arcsL fr to m v).length := by have := of_decide_eq_false h1; omega
    subst hja
    rw [List.take_length] at hl3
    obtain ⟨lo, rfl⟩ : ∃ lo : Nat, low = lo := ⟨low.toNat, by omega⟩
    have hl4 : ∀ a, a < 2 * m → tlA fr to a = v → 0 < room a → (lo : Int) ≤ ht (hdA fr to a) + 1 := fun a ha ht => hl3 a (mem_arcsL.2 ⟨ha, ht⟩)
    clear q4 q1 q2 q3 qa hI hkk hk h1 hj
    refine (set_T P n1 hv hold (y := lo) (by omega) (by omega)).mono ?_
    rintro _ g1 ⟨rfl, F1, P1⟩
    refine rt_ret ⟨rfl, ?_⟩
    have k5 := k5.fm F1 (by simp <;> omega)
    have k10 := k10.fm F1 (by simp <;> omega)
    clear k6 k7 k8 k9 C N
    have hb1 : ∀ u, u < n → 0 ≤ upd ht v lo u ∧ upd ht v lo u ≤ 2 * n := by
      intro u hu
      unfold upd
      have := hb u hu
      split <;> omega
    refine ptrP_mk ⟨_, k5.ld rfl, k10.setI hv ?_⟩
    intro g2 F2 k10
    have k5' := k5.fm F2 (by simp <;> omega)
    have P2 : Ps own g2 bp bn n m fr to s t room (upd ht v lo) ex (upd nxt v 0) Q := by
      obtain ⟨vh', vc', vx', vq', vn', cnt', k5_, k6, k7, C, k8, k9, _⟩ := P1.ex_
      have := k5_.uniq k5
      injection this with _ this
      injection this with e1 this
      injection this with e2 this
      injection this with e3 this
      injection this with e4 this
      injection this with e5 this
      subst e1 e2 e3 e4 e5
      exact ⟨P1.net.fm F2 (by simp), _, _, _, _, _, cnt', k5', k6.fm F2 (by simp <;> omega), k7.fm F2 (by simp <;> omega), C, k8.fm F2 (by simp <;> omega), k9.fm F2 (by simp <;> omega), k10⟩
    have k5 := k5'
    clear k5' k10 P1
    have F : Fm [6, 7, 10] own q own g2 := (F1.mono (by simp)).trans (F2.mono (by simp))
    obtain ⟨vh', vc', vx', vq', vn', cnt', k5_, k6, k7, C, k8, k9, k10⟩ := P2.ex_
    have := k5_.uniq k5
    injection this with _ this
    injection this with e1 this
    injection this with e2 this
    injection this with e3 this
    injection this with e4 this
    injection this with e5 this
    subst e1 e2 e3 e4 e5
    clear k5_
    obtain ⟨vto, vroom, vout, outs, q4, q1, q2, q3, qa⟩ := P2.net.ex
    refine ptrP_mk ⟨_, k5.ld rfl, ptrP_mk ⟨_, q4.ld rfl, q3.len (va_length _ _) fun _ _ => ?_⟩⟩
    refine ptrP_mk ⟨_, k5.ld rfl, ?_⟩
    rw [hold]
    refine k7.rdI (by omega) ?_
    have c1 := C old (by omega)
    have done : T = T → ∃ ht' nxt', Ps own g2 bp bn n m fr to s t room ht' ex nxt' Q ∧ LiftR n m fr to s room ht nxt v ht' nxt' :=
      fun _ => ⟨_, _, P2, lo, hl1, by omega, hl4, .inl ⟨rfl, rfl⟩⟩
    refine ifP_of (fun h1 => ?_) (fun h1 => ⟨rfl, F, done rfl⟩)
    have h1 := of_decide_eq_true h1
    refine ifP_of (fun h2 => ?_) (fun h2 => ⟨rfl, F, done rfl⟩)
    have h2 := of_decide_eq_true h2
    have hno := cntH_none (n := n) (ht := upd ht v lo) (k := old) (by omega)
    clear done c1
    refine ptrP_mk ⟨_, k5.ld rfl, k6.len (ints_length _ _) fun _ _ => ?_⟩
    clear q4 q1 q2 q3 qa k6 k7 k8 k9 k10 C
    let I66 : (Int × Unit) → H → Nat → Prop := fun p g k => ∃ j : Nat, p.1 = j ∧ j ≤ n ∧ k = n - j ∧ Fm [6, 7, 10] own q own g ∧ B1 own g 5 bp [.pointer (some (bk bn)), vh', vc', vx', vq', vn'] ∧
      Ps own g bp bn n m fr to s t room (gapH old n s j (upd ht v lo)) ex (gapN old n s j (upd ht v lo) (upd nxt v 0)) Q
    refine ⟨fun p q => ∃ k, I66 p q k, rk I66, rk_wf I66, ⟨_, 0, rfl, by omega, rfl, F, k5, by rw [gapH_0, gapN_0]; exact P2⟩, ?_⟩
    clear P2 k5 F F1 F2
    intro p g hI
    obtain ⟨j, e1, hj, hk, F, k5, P2⟩ := mu_spec hI
    generalize hkk : mu I66 ((p, ()), g) = km at *
    change p = (j : Int) at e1
    subst e1
    obtain ⟨vh', vc', vx', vq', vn', cnt', k5_, z6, z7, zC, z8, z9, z10⟩ := P2.ex_
    have := k5_.uniq k5
    injection this with _ this
    injection this with e1 this
    injection this with e2 this
    injection this with e3 this
    injection this with e4 this
    injection this with e5 this
    subst e1 e2 e3 e4 e5
    clear k5_
    refine ifP_of (fun h3 => ?_) (fun h3 => ?_)
    · have hjn : j < n := by have := of_decide_eq_true h3; omega
      have hlt : n - (j + 1) < mu I66 (((j : Int), ()), g) := by rw [hkk, hk]; omega
      clear hI
      have skip : ¬ ((old : Int) < upd ht v lo j ∧ upd ht v lo j ≤ n ∧ j ≠ s) → (∃ k, I66 (IntKind.i64.wrap ((j : Int) + 1), ()) g k) ∧ rk I66 ((IntKind.i64.wrap ((j : Int) + 1), ()), g) (((j : Int), ()), g) := by
        intro hne
        rw [i64_inc (by omega)]
        exact mu_next (I := I66) (k := n - (j + 1)) ⟨j + 1, rfl, hjn, rfl, F, k5, by rw [gapH_no hne, gapN_no hne]; exact P2⟩ hlt
      refine z6.rdI hjn ?_
      rw [gapH_at]
      refine ifP_of (fun h4 => ?_) (fun h4 => skip fun h => of_decide_eq_false h4 h.1)
      have h4 := of_decide_eq_true h4
      refine ifP_of (fun h5 => ?_) (fun h5 => skip fun h => of_decide_eq_false h5 h.2.1)
      have h5 := of_decide_eq_true h5
      obtain ⟨vto, vroom, vout, outs, q4, q1, q2, q3, qa⟩ := P2.net.ex
      refine ptrP_mk ⟨_, k5.ld rfl, ptrP_mk ⟨_, q4.ld rfl, ?_⟩⟩
      refine ifP_of (fun h6 => ?_) (fun h6 => skip fun h => by simp at h6; omega)
      have h6 : j ≠ s := by simp at h6; omega
      have yes : (old : Int) < upd ht v lo j ∧ upd ht v lo j ≤ n ∧ j ≠ s := ⟨h4, h5, h6⟩
      obtain ⟨hj0, hj1⟩ := hb1 j hjn
      obtain ⟨x, hx⟩ : ∃ x : Nat, upd ht v lo j = x := ⟨(upd ht v lo j).toNat, by omega⟩
      rw [i64_inc (by omega)]
      refine (set_T P2 n1 hjn (x := x) (by rw [gapH_at]; exact hx) (y := n + 1) (by omega) (by omega)).mono ?_
      rintro _ g3 ⟨rfl, F3, P3⟩
      refine rt_ret ⟨rfl, ?_⟩
      have k5 := k5.fm F3 (by simp <;> omega)
      have z10 := z10.fm F3 (by simp <;> omega)
      refine ptrP_mk ⟨_, k5.ld rfl, z10.setI hjn ?_⟩
      intro g4 F4 z10
      have k5' := k5.fm F4 (by simp <;> omega)
      rw [i64_inc (by omega)]
      refine mu_next (I := I66) (k := n - (j + 1)) ⟨j + 1, rfl, hjn, rfl, (F.trans (F3.mono (by simp))).trans (F4.mono (by simp)), k5', ?_⟩ hlt
      rw [gapH_yes yes, gapN_yes yes]
      obtain ⟨vh', vc', vx', vq', vn', cnt', k5_, k6, k7, C, k8, k9, _⟩ := P3.ex_
      have := k5_.uniq k5
      injection this with _ this
      injection this with e1 this
      injection this with e2 this
      injection this with e3 this
      injection this with e4 this
      injection this with e5 this
      subst e1 e2 e3 e4 e5
      exact ⟨P3.net.fm F4 (by simp), _, _, _, _, _, cnt', k5', k6.fm F4 (by simp <;> omega), k7.fm F4 (by simp <;> omega), C, k8.fm F4 (by simp <;> omega), k9.fm F4 (by simp <;> omega), z10⟩
    · have hjn : j = n := by have := of_decide_eq_false h3; omega
      subst hjn
      exact ⟨rfl, F, _, _, P2, lo, hl1, by omega, hl4, .inr ⟨by rw [hold]; exact hno, by omega, by rw [hold], by rw [hold]⟩⟩
end

end Go.Proofs.Ythglkcpoofenbaa

/-! Pushing: the plain law. -/
namespace Go.Proofs.Ythglkcpoofenbaa
open Go
open Classical
set_option linter.unusedVariables false
set_option linter.unusedSimpArgs false

structure PvI (n m : Nat) (fr to : Nat → Nat) (cap : Nat → Int) (s t : Nat) (K : Int) (room ht ex nxt : Nat → Int) (Q : List Nat) (cur : Option Nat) : Prop where
  rm : RmP m cap room
  hs : ht s = n
  htt : ht t = 0
  hb : ∀ u, u < n → 0 ≤ ht u ∧ ht u ≤ 2 * n
  val : ∀ a, a < 2 * m → 0 < room a → ht (tlA fr to a) ≤ ht (hdA fr to a) + 1
  ex0 : ∀ u, u < n → u ≠ s → ex u = - OutF m fr to (onR room) u ∧ 0 ≤ ex u
  exs : ex s = K - OutF m fr to (onR room) s
  cov : ∀ u, u < n → u ≠ s → u ≠ t → 0 < ex u → u ∈ Q ∨ cur = some u
  mem : ∀ u, u ∈ Q → u < n ∧ u ≠ s ∧ u ≠ t
  nb : ∀ u, u < n → 0 ≤ nxt u ∧ nxt u ≤ (arcsL fr to m u).length
  ca : ∀ u, u < n → ∀ a ∈ (arcsL fr to m u).take (nxt u).toNat, ¬ (0 < room a ∧ ht u = ht (hdA fr to a) + 1)
def Phi1 (n : Nat) (ht : Nat → Int) : Int := sumN n fun u => 2 * n - ht u
def Phi2 (n s : Nat) (ex ht : Nat → Int) : Int := sumN n fun u => if u = s then 0 else ex u * ht u
def Phi3 (n m : Nat) (fr to : Nat → Nat) (nxt : Nat → Int) : Int := sumN n fun u => (arcsL fr to m u).length - nxt u

section
variable {n m s t : Nat} {fr to : Nat → Nat} {cap room ht ex nxt : Nat → Int} {Q : List Nat} {cur : Option Nat} {K : Int}

/-- No side that holds what is too much is closed. -/
theorem exc_closed (R : RmP m cap room) (hn : ∀ i, i < m → fr i < n ∧ to i < n) {C : Nat → Prop} (hc : ∀ a, a < 2 * m → 0 < room a → C (tlA fr to a) → C (hdA fr to a))
    (hex : ∀ u, u < n → C u → OutF m fr to (onR room) u ≤ 0) {v : Nat} (hv : v < n) (cv : C v) (hev : OutF m fr to (onR room) v < 0) : False := by
  have e := out_side (f := onR room) hn C
  have h1 : 0 ≤ sumN m fun i => (if C (fr i) then onR room i else 0) - (if C (to i) then onR room i else 0) := by
    refine sumN_nonneg fun i hi => ?_
    have p1 := R.pos (2 * i + 1) (by omega)
    have c1 := hc (2 * i + 1) (by omega)
    unfold tlA hdA at c1
    rw [if_neg (by omega), if_neg (by omega), show (2 * i + 1) / 2 = i by omega] at c1
    unfold onR
    by_cases h1 : C (fr i) <;> by_cases h2 : C (to i) <;> simp [h1, h2] <;> try omega
    by_cases h3 : 0 < room (2 * i + 1)
    · exact absurd (c1 h3 h2) h1
    · omega
  have h2 : sumN n (fun u => if C u then OutF m fr to (onR room) u else 0) ≤ OutF m fr to (onR room) v := by
    have := sumN_mem (f := fun u => -(if C u then OutF m fr to (onR room) u else 0)) (k := n) (i := v) (fun u hu => by
      by_cases h : C u
      · rw [if_pos h]; have := hex u hu h; omega
      · rw [if_neg h]; omega) hv
    have e2 : sumN n (fun u => -(if C u then OutF m fr to (onR room) u else 0)) = - sumN n (fun u => if C u then OutF m fr to (onR room) u else 0) := by
      have := sumN_mul (c := -1) (f := fun u => if C u then OutF m fr to (onR room) u else 0) (k := n)
      simp only [Int.neg_mul, Int.one_mul] at this
      exact this
    rw [e2, if_pos cv] at this
    omega
  omega

theorem PvI.low (P : PvI n m fr to cap s t K room ht ex nxt Q cur) (hn : ∀ i, i < m → fr i < n ∧ to i < n) (hs : s < n) {v : Nat} (hv : v < n) (hvs : v ≠ s) (hev : 0 < ex v) : ht v + 1 ≤ 2 * n := by
  apply Classical.byContradiction
  intro hno
  have hbv := P.hb v hv
  obtain ⟨k, hk, hg⟩ := gap_ex (n := n) (ht := ht) n
  have h1 := hg s hs
  have h2 := hg v hv
  rw [P.hs] at h1
  have e1 := P.ex0 v hv hvs
  refine exc_closed P.rm hn (C := fun u => (n : Int) + k < ht u) (fun a ha hr hc => ?_) (fun u hu hc => ?_) hv (by show (n : Int) + k < ht v; omega) (by omega)
  · have := P.val a ha hr
    have := hg _ (hd_lt hn ha)
    show (n : Int) + k < ht (hdA fr to a)
    have : (n : Int) + k < ht (tlA fr to a) := hc
    omega
  · have hc : (n : Int) + k < ht u := hc
    have := P.ex0 u hu (by rintro rfl; rw [P.hs] at hc; omega)
    omega

/-- The sink cannot be reached when all is done. -/
theorem PvI.fin (P : PvI n m fr to cap s t K room ht ex nxt [] none) (hn : ∀ i, i < m → fr i < n ∧ to i < n) (hs : s < n) (ht' : t < n) : FlS n m fr to cap s t room ∧ ¬ Rch (ArS m fr to room) s t := by
  refine ⟨⟨P.rm, fun v hv h1 h2 => ?_⟩, fun r => ?_⟩
  · have e := P.ex0 v hv h1
    by_cases hp : 0 < ex v
    · rcases P.cov v hv h1 h2 hp with h | h
      · cases h
      · cases h
    · omega
  · obtain ⟨k, hk, hg⟩ := gap_ex (n := n) (ht := ht) 0
    have h1 := hg s hs
    have h2 := hg t ht'
    rw [P.hs] at h1
    rw [P.htt] at h2
    have : 0 + (k : Int) < ht t := r.closed (C := fun u => 0 + (k : Int) < ht u) (by rw [P.hs]; omega) (by
      rintro u w hu ⟨a, ha, rfl, rfl, hr⟩
      have := P.val a ha hr
      have := hg _ (hd_lt hn ha)
      show 0 + (k : Int) < ht (hdA fr to a)
      omega)
    rw [P.htt] at this
    omega

theorem room_up {a b : Nat} {x : Int} (hx : 0 ≤ x) (h : 0 < sndR room a x b) : 0 < room b ∨ b = prA a := by
  by_cases e : b = prA a
  · exact .inr e
  · refine .inl ?_
    by_cases e1 : b = a
    · subst e1; rw [sndR_a] at h; omega
    · rw [sndR_o e1 e] at h; exact h

theorem Phi2_give {v w : Nat} {x : Int} (hv : v < n) (hw : w < n) (ne : v ≠ w) (hvs : v ≠ s) (hh : ht v = ht w + 1) (hws : 0 ≤ ht w) (hx : 0 ≤ x) : Phi2 n s (giveX ex v w x) ht ≤ Phi2 n s ex ht - x := by
  have P : 0 ≤ x * ht w := Int.mul_nonneg hx hws
  have ev : giveX ex v w x v = ex v - x := by
    unfold giveX upd
    rw [if_neg ne, if_pos rfl]
  have ew : giveX ex v w x w = ex w + x := by
    unfold giveX upd
    rw [if_pos rfl, if_neg (fun h => ne h.symm)]
  have eo : ∀ u, u ≠ v → u ≠ w → giveX ex v w x u = ex u := by
    intro u h1 h2
    unfold giveX upd
    rw [if_neg h2, if_neg h1]
  obtain ⟨g, hg⟩ : ∃ g : Nat → Int, g = fun u => if u = s then 0 else ex u * ht u := ⟨_, rfl⟩
  have gu : ∀ u, g u = if u = s then 0 else ex u * ht u := fun u => by rw [hg]
  have e : (fun u => if u = s then 0 else giveX ex v w x u * ht u) = upd (upd g v (g v - x * ht w - x)) w (g w + (if w = s then 0 else x * ht w)) := by
    funext u
    show (if u = s then 0 else giveX ex v w x u * ht u) = _
    by_cases e1 : u = w
    · subst e1
      have : upd (upd g v (g v - x * ht u - x)) u (g u + (if u = s then 0 else x * ht u)) u = g u + (if u = s then 0 else x * ht u) := if_pos rfl
      rw [this, gu, ew]
      split
      · rfl
      · rw [Int.add_mul]
    · by_cases e2 : u = v
      · subst e2
        have : upd (upd g u (g u - x * ht w - x)) w (g w + (if w = s then 0 else x * ht w)) u = g u - x * ht w - x := by
          unfold upd; rw [if_neg e1, if_pos rfl]
        rw [this, gu, if_neg hvs, if_neg hvs, ev, Int.sub_mul, hh, Int.mul_add, Int.mul_add]; omega
      · have : upd (upd g v (g v - x * ht w - x)) w (g w + (if w = s then 0 else x * ht w)) u = g u := by
          unfold upd; rw [if_neg e1, if_neg e2]
        rw [this, gu, eo u e2 e1]
  unfold Phi2
  rw [e, ← hg, sumN_upd hw, sumN_upd hv]
  have : upd g v (g v - x * ht w - x) w = g w := if_neg (fun h => ne h.symm)
  rw [this]
  split <;> omega

theorem PvI.give (P : PvI n m fr to cap s t K room ht ex nxt Q cur) (hn : ∀ i, i < m → fr i < n ∧ to i < n) {a v : Nat} (ha : a < 2 * m) (hv : tlA fr to a = v) (hc : cur = some v) (hvs : v ≠ s) (hvt : v ≠ t)
    (hadm : ht v = ht (hdA fr to a) + 1) {x : Int} (hx0 : 0 < x) (hx1 : x ≤ room a) (hx2 : x ≤ ex v) :
    PvI n m fr to cap s t K (sndR room a x) ht (giveX ex v (hdA fr to a) x) nxt (giveQ s t ex Q (hdA fr to a)) cur := by
  have hvn : v < n := hv ▸ tl_lt hn ha
  have hw := hd_lt hn ha
  have ep : hdA fr to (prA a) = v := by rw [hd_pr]; exact hv
  have et : tlA fr to (prA a) = hdA fr to a := tl_pr a
  have os := out_snd (fr := fr) (to := to) (room := room) (x := x) ha
  rw [hv] at os
  generalize hdA fr to a = w at *
  have ne : v ≠ w := by rintro rfl; omega
  have gx : ∀ u, giveX ex v w x u = ex u - (if v = u then x else 0) + (if w = u then x else 0) := by
    intro u
    unfold giveX upd
    by_cases e1 : u = w
    · subst e1
      rw [if_pos rfl, if_neg (fun h => ne h.symm), if_neg ne, if_pos rfl]; omega
    · rw [if_neg e1, if_neg (c := w = u) (fun h => e1 h.symm)]
      by_cases e2 : u = v
      · subst e2; rw [if_pos rfl, if_pos rfl]; omega
      · rw [if_neg e2, if_neg (fun h => e2 h.symm)]; omega
  refine ⟨P.rm.snd ha (by omega) hx1, P.hs, P.htt, P.hb, ?_, ?_, ?_, ?_, ?_, P.nb, ?_⟩
  · intro b hb hr
    rcases room_up (by omega) hr with h | rfl
    · exact P.val b hb h
    · rw [ep, et]; omega
  · intro u hu hus
    have := P.ex0 u hu hus
    rw [os, gx]
    constructor
    · omega
    · by_cases e1 : v = u
      · subst e1; rw [if_pos rfl]; split <;> omega
      · rw [if_neg e1]; split <;> omega
  · rw [os, gx, P.exs]; omega
  · intro u hu h1 h2 h3
    rw [gx] at h3
    by_cases e1 : w = u
    · subst e1
      refine .inl ?_
      unfold giveQ
      by_cases e2 : ex w = 0
      · rw [if_pos ⟨e2, h1, h2⟩]; simp
      · rw [if_neg (fun h => e2 h.1)]
        have := P.ex0 w hu h1
        rcases P.cov w hu h1 h2 (by omega) with h | h
        · exact h
        · rw [hc] at h; simp only [Option.some.injEq] at h; exact absurd h ne
    · rw [if_neg e1] at h3
      by_cases e2 : v = u
      · subst e2; exact .inr hc
      · rw [if_neg e2] at h3
        rcases P.cov u hu h1 h2 (by omega) with h | h
        · refine .inl ?_
          unfold giveQ
          split
          · exact List.mem_append_left _ h
          · exact h
        · exact .inr h
  · intro u hu
    unfold giveQ at hu
    split at hu
    · rename_i h
      rcases List.mem_append.1 hu with h2 | h2
      · exact P.mem u h2
      · rw [List.mem_singleton] at h2
        subst h2
        exact ⟨hw, h.2.1, h.2.2⟩
    · exact P.mem u hu
  · rintro u hu b hb ⟨h1, h2⟩
    rcases room_up (by omega) h1 with h | rfl
    · exact P.ca u hu b hb ⟨h, h2⟩
    · rw [ep] at h2
      have := (mem_arcsL.1 (List.mem_of_mem_take hb)).2
      rw [et] at this
      subst this
      omega

theorem PvI.lift (P : PvI n m fr to cap s t K room ht ex nxt Q cur) (hn : ∀ i, i < m → fr i < n ∧ to i < n) {v : Nat} (hv : v < n) (hvs : v ≠ s) (hvt : v ≠ t) (hs : s < n) {ht' nxt' : Nat → Int}
    (L : LiftR n m fr to s room ht nxt v ht' nxt') : PvI n m fr to cap s t K room ht' ex nxt' Q cur ∧ Phi1 n ht' < Phi1 n ht := by
  obtain ⟨low, l1, l2, l3, L⟩ := L
  have hbv := P.hb v hv
  have u1 : upd ht v (low : Int) v = low := if_pos rfl
  have u2 : ∀ u, u ≠ v → upd ht v (low : Int) u = ht u := fun u h => if_neg h
  have up : ∀ u, ht u ≤ upd ht v (low : Int) u := by
    intro u
    by_cases e : u = v
    · subst e; rw [u1]; omega
    · rw [u2 u e]; omega
  have P1 : PvI n m fr to cap s t K room (upd ht v (low : Int)) ex (upd nxt v 0) Q cur := by
    refine ⟨P.rm, by rw [u2 _ (fun h => hvs h.symm)]; exact P.hs, by rw [u2 _ (fun h => hvt h.symm)]; exact P.htt, ?_, ?_, P.ex0, P.exs, P.cov, P.mem, ?_, ?_⟩
    · intro u hu
      have := P.hb u hu
      by_cases e : u = v
      · subst e; rw [u1]; omega
      · rw [u2 u e]; exact this
    · intro a ha hr
      have := up (hdA fr to a)
      by_cases e : tlA fr to a = v
      · rw [e, u1]
        have := l3 a ha e hr
        omega
      · rw [u2 _ e]
        have := P.val a ha hr
        omega
    · intro u hu
      have := P.nb u hu
      unfold upd; split <;> omega
    · rintro u hu a ha ⟨h1, h2⟩
      by_cases e : u = v
      · subst e
        have : upd nxt u 0 u = 0 := if_pos rfl
        rw [this] at ha
        simp at ha
      · have e2 : upd nxt v 0 u = nxt u := if_neg e
        rw [e2] at ha
        have := P.ca u hu a ha
        have ham := mem_arcsL.1 (List.mem_of_mem_take ha)
        have := P.val a ham.1 h1
        rw [ham.2] at this
        rw [u2 u e] at h2
        have := up (hdA fr to a)
        exact P.ca u hu a ha ⟨h1, by omega⟩
  have F1 : Phi1 n (upd ht v (low : Int)) < Phi1 n ht := by
    unfold Phi1
    have e : (fun u => 2 * (n : Int) - upd ht v (low : Int) u) = upd (fun u => 2 * (n : Int) - ht u) v (2 * n - low) := by
      funext u
      unfold upd
      by_cases e : u = v
      · rw [if_pos e, if_pos e]
      · rw [if_neg e, if_neg e]
    rw [e, sumN_upd hv]; omega
  rcases L with ⟨rfl, rfl⟩ | ⟨hno, hlt, rfl, rfl⟩
  · exact ⟨P1, F1⟩
  · generalize upd ht v (low : Int) = h1 at *
    generalize upd nxt v 0 = n1 at *
    have gl : ∀ u, u < n → (ht v < h1 u ∧ h1 u ≤ n ∧ u ≠ s ∧ gapH (ht v) n s n h1 u = n + 1 ∧ gapN (ht v) n s n h1 n1 u = 0) ∨
        (¬ (ht v < h1 u ∧ h1 u ≤ n ∧ u ≠ s) ∧ gapH (ht v) n s n h1 u = h1 u ∧ gapN (ht v) n s n h1 n1 u = n1 u) := by
      intro u hu
      unfold gapH gapN
      by_cases e : ht v < h1 u ∧ h1 u ≤ n ∧ u ≠ s
      · rw [if_pos ⟨hu, e⟩, if_pos ⟨hu, e⟩]; exact .inl ⟨e.1, e.2.1, e.2.2, by omega, rfl⟩
      · rw [if_neg (fun h => e h.2), if_neg (fun h => e h.2)]; exact .inr ⟨e, rfl, rfl⟩
    have gup : ∀ u, u < n → h1 u ≤ gapH (ht v) n s n h1 u := by
      intro u hu
      rcases gl u hu with ⟨a, b, c, d, e⟩ | ⟨a, b, c⟩ <;> omega
    refine ⟨⟨P1.rm, ?_, ?_, ?_, ?_, P1.ex0, P1.exs, P1.cov, P1.mem, ?_, ?_⟩, ?_⟩
    · rcases gl s hs with ⟨a, b, c, d, e⟩ | ⟨a, b, c⟩
      · exact absurd rfl c
      · rw [b]; exact P1.hs
    · unfold gapH
      rw [if_neg]
      · exact P1.htt
      · rw [P1.htt]; omega
    · intro u hu
      have := P1.hb u hu
      rcases gl u hu with ⟨a, b, c, d, e⟩ | ⟨a, b, c⟩ <;> omega
    · intro a ha hr
      have t1 := tl_lt hn ha
      have t2 := hd_lt hn ha
      have := P1.val a ha hr
      have g2 := gup _ t2
      rcases gl _ t1 with ⟨a1, b1, c1, d1, e1⟩ | ⟨a1, b1, c1⟩
      · rw [d1]
        have := hno _ t2
        by_cases e2 : hdA fr to a = s
        · have := P1.hs
          rw [← e2] at this
          omega
        · rcases gl _ t2 with ⟨a2, b2, c2, d2, e3⟩ | ⟨a2, b2, c2⟩
          · omega
          · have : ¬ h1 (hdA fr to a) ≤ n := fun h => a2 ⟨by omega, h, e2⟩
            omega
      · omega
    · intro u hu
      have := P1.nb u hu
      rcases gl u hu with ⟨a, b, c, d, e⟩ | ⟨a, b, c⟩ <;> omega
    · rintro u hu a ha ⟨h2, h3⟩
      rcases gl u hu with ⟨a1, b1, c1, d1, e1⟩ | ⟨a1, b1, c1⟩
      · rw [e1] at ha; simp at ha
      · rw [c1] at ha
        rw [b1] at h3
        have ham := mem_arcsL.1 (List.mem_of_mem_take ha)
        have := P1.val a ham.1 h2
        rw [ham.2] at this
        have := gup _ (hd_lt hn ham.1)
        exact P1.ca u hu a ha ⟨h2, by omega⟩
    · refine Int.lt_of_le_of_lt ?_ F1
      exact sumN_le fun u hu => by have := gup u hu; omega

theorem PvI.skip (P : PvI n m fr to cap s t K room ht ex nxt Q cur) {v l : Nat} (hv : v < n) (hl : nxt v = l) (hla : l < (arcsL fr to m v).length)
    (hno : ¬ (0 < room (arcsL fr to m v)[l] ∧ ht v = ht (hdA fr to (arcsL fr to m v)[l]) + 1)) : PvI n m fr to cap s t K room ht ex (upd nxt v ((l + 1 : Nat) : Int)) Q cur := by
  refine ⟨P.rm, P.hs, P.htt, P.hb, P.val, P.ex0, P.exs, P.cov, P.mem, ?_, ?_⟩
  · intro u hu
    have := P.nb u hu
    unfold upd
    by_cases e : u = v
    · subst e; rw [if_pos rfl]; omega
    · rw [if_neg e]; exact this
  · intro u hu a ha
    by_cases e : u = v
    · subst e
      have e2 : upd nxt u ((l + 1 : Nat) : Int) u = ((l + 1 : Nat) : Int) := if_pos rfl
      rw [e2, Int.toNat_natCast, List.take_succ_eq_append_getElem hla] at ha
      rcases List.mem_append.1 ha with h | h
      · exact P.ca u hu a (by rw [hl, Int.toNat_natCast]; exact h)
      · rw [List.mem_singleton] at h
        rw [h]; exact hno
    · have e2 : upd nxt v ((l + 1 : Nat) : Int) u = nxt u := if_neg e
      rw [e2] at ha
      exact P.ca u hu a ha
end

end Go.Proofs.Ythglkcpoofenbaa

/-! Pushing: fill. -/
namespace Go.Proofs.Ythglkcpoofenbaa
open Go
set_option linter.unusedVariables false
set_option linter.unusedSimpArgs false

theorem giveX_at {ex : Nat → Int} {v w : Nat} {x : Int} (u : Nat) : giveX ex v w x u = ex u - (if v = u then x else 0) + (if w = u then x else 0) := by
  unfold giveX upd
  by_cases e1 : u = w
  · subst e1
    rw [if_pos rfl, if_pos rfl]
    by_cases e2 : u = v
    · subst e2; rw [if_pos rfl, if_pos rfl]
    · rw [if_neg e2, if_neg (fun h => e2 h.symm)]; omega
  · rw [if_neg e1, if_neg (c := w = u) (fun h => e1 h.symm)]
    by_cases e2 : u = v
    · subst e2; rw [if_pos rfl, if_pos rfl]; omega
    · rw [if_neg e2, if_neg (fun h => e2 h.symm)]; omega
theorem giveQ_le {s t w : Nat} {ex : Nat → Int} {Q : List Nat} : (giveQ s t ex Q w).length ≤ Q.length + 1 := by
  unfold giveQ; split <;> simp
theorem r4_trans {a b c : N4} (h1 : r4 a b) (h2 : r4 b c) : r4 a c := by
  obtain ⟨a1, a2, a3, a4⟩ := a
  obtain ⟨b1, b2, b3, b4⟩ := b
  obtain ⟨c1, c2, c3, c4⟩ := c
  simp only [r4] at *
  omega

/-- The queue does not grow too long. -/
theorem zq {n s t v w : Nat} {ex : Nat → Int} {Q : List Nat} {x : Int} (hv : v < n) (hw : w < n) (hs : s < n) (ne : v ≠ w) (hvs : v ≠ s) (hx : 0 < x) (hxv : x ≤ ex v) (hew : w ≠ s → 0 ≤ ex w) :
    ((giveQ s t ex Q w).length : Int) + cntH n (upd (giveX ex v w x) s 1) 0 + (if 0 < giveX ex v w x v then 1 else 0) ≤ Q.length + cntH n (upd ex s 1) 0 + 1 := by
  have e1 : giveX ex v w x v = ex v - x := by rw [giveX_at, if_pos rfl, if_neg (fun h => ne h.symm)]; omega
  rw [e1]
  by_cases hws : w = s
  · have e2 : upd (giveX ex v w x) s 1 = upd (upd ex s 1) v (ex v - x) := by
      funext u
      unfold upd
      by_cases h1 : u = s
      · rw [if_pos h1, if_neg (fun h => hvs (h.symm.trans h1)), if_pos h1]
      · rw [if_neg h1, giveX_at]
        by_cases h2 : u = v
        · subst h2; rw [if_pos rfl, if_pos rfl, if_neg (fun h => ne h.symm)]; omega
        · rw [if_neg h2, if_neg h1, if_neg (fun h => h2 h.symm), if_neg (fun h => h1 (h.symm.trans hws))]; omega
    have e3 : upd ex s 1 v = ex v := if_neg hvs
    have e4 : giveQ s t ex Q w = Q := if_neg fun h => h.2.1 hws
    rw [e2, e4, cntH_upd hv, e3, if_neg (c := ex v = 0) (by omega)]
    split <;> split <;> omega
  · have hw0 := hew hws
    have e2 : upd (giveX ex v w x) s 1 = upd (upd (upd ex s 1) v (ex v - x)) w (ex w + x) := by
      funext u
      unfold upd
      by_cases h1 : u = s
      · rw [if_pos h1, if_neg (fun h => hws (h.symm.trans h1)), if_neg (fun h => hvs (h.symm.trans h1)), if_pos h1]
      · rw [if_neg h1, giveX_at]
        by_cases h2 : u = w
        · subst h2; rw [if_pos rfl, if_pos rfl, if_neg ne]; omega
        · rw [if_neg h2, if_neg (c := w = u) (fun h => h2 h.symm)]
          by_cases h3 : u = v
          · subst h3; rw [if_pos rfl, if_pos rfl]; omega
          · rw [if_neg h3, if_neg h1, if_neg (fun h => h3 h.symm)]; omega
    have e3 : upd ex s 1 v = ex v := if_neg hvs
    have e5 : upd (upd ex s 1) v (ex v - x) w = ex w := by
      unfold upd
      rw [if_neg (fun h => ne h.symm), if_neg hws]
    have gq : (giveQ s t ex Q w).length ≤ Q.length + (if ex w = 0 then 1 else 0) := by
      unfold giveQ
      by_cases e : ex w = 0
      · rw [if_pos e]; split <;> simp
      · rw [if_neg e, if_neg (fun h => e h.1)]; omega
    rw [e2, cntH_upd hw, cntH_upd hv, e3, e5, if_neg (c := ex v = 0) (by omega), if_neg (c := ex w + x = 0) (by omega)]
    by_cases h1 : ex w = 0
    · rw [if_pos h1] at gq ⊢
      split <;> split <;> omega
    · rw [if_neg h1] at gq ⊢
      split <;> split <;> omega

/-- While all is sent from the source. -/
structure PiI (n m : Nat) (fr to : Nat → Nat) (cap : Nat → Int) (s t : Nat) (K : Int) (j : Nat) (room ex : Nat → Int) (Q : List Nat) : Prop where
  rm : RmP m cap room
  ex0 : ∀ u, u < n → u ≠ s → ex u = - OutF m fr to (onR room) u ∧ 0 ≤ ex u
  exs : ex s = K - OutF m fr to (onR room) s
  exs0 : 0 ≤ ex s
  kb : 0 ≤ K ∧ K ≤ j * 1048576
  cov : ∀ u, u < n → u ≠ s → u ≠ t → 0 < ex u → u ∈ Q
  mem : ∀ u, u ∈ Q → u < n ∧ u ≠ s ∧ u ≠ t
  ql : Q.length ≤ j
  zero : ∀ a ∈ (arcsL fr to m s).take j, hdA fr to a ≠ s → room a = 0

section
variable {n m s t : Nat} {fr to : Nat → Nat} {cap room ht ex nxt : Nat → Int} {Q : List Nat} {cur : Option Nat} {K : Int}
theorem PiI.next {j : Nat} (P : PiI n m fr to cap s t K j room ex Q) (hn : ∀ i, i < m → fr i < n ∧ to i < n) (hc : ∀ i, i < m → cap i ≤ 1048576) (hj : j < (arcsL fr to m s).length) {a : Nat} (ha : (arcsL fr to m s)[j] = a) :
    PiI n m fr to cap s t (K + room a) (j + 1) (sndR room a (room a)) (giveX (upd ex s (ex s + room a)) s (hdA fr to a) (room a)) (giveQ s t (upd ex s (ex s + room a)) Q (hdA fr to a)) := by
  have hm := mem_arcsL.1 (List.getElem_mem hj)
  rw [ha] at hm
  have hr0 := P.rm.pos a hm.1
  have hrp := P.rm.pr hm.1
  have hrq := P.rm.pos _ (prA_lt hm.1)
  have hca := hc (a / 2) (by omega)
  have hw := hd_lt hn hm.1
  have os := out_snd (fr := fr) (to := to) (room := room) (x := room a) hm.1
  rw [hm.2] at os
  have uo : ∀ u, u ≠ s → upd ex s (ex s + room a) u = ex u := fun u h => if_neg h
  have us : upd ex s (ex s + room a) s = ex s + room a := if_pos rfl
  refine ⟨P.rm.snd hm.1 hr0 (Int.le_refl _), ?_, ?_, ?_, ?_, ?_, ?_, ?_, ?_⟩
  · intro u hu hus
    have := P.ex0 u hu hus
    rw [os, giveX_at, uo u hus, if_neg (c := s = u) (fun h => hus h.symm)]
    split <;> omega
  · rw [os, giveX_at, us, if_pos rfl]
    have := P.exs
    split <;> omega
  · rw [giveX_at, us, if_pos rfl]
    have := P.exs0
    split <;> omega
  · have := P.kb
    omega
  · intro u hu h1 h2 h3
    rw [giveX_at, uo u h1, if_neg (c := s = u) (fun h => h1 h.symm)] at h3
    unfold giveQ
    by_cases e1 : hdA fr to a = u
    · subst e1
      by_cases e2 : ex (hdA fr to a) = 0
      · rw [if_pos ⟨by rw [uo _ h1]; exact e2, h1, h2⟩]; simp
      · rw [if_neg (fun h => e2 (by rw [← uo _ h1]; exact h.1))]
        have := P.ex0 _ hu h1
        exact P.cov _ hu h1 h2 (by omega)
    · rw [if_neg e1] at h3
      have := P.cov u hu h1 h2 (by omega)
      split
      · exact List.mem_append_left _ this
      · exact this
  · intro u hu
    unfold giveQ at hu
    split at hu
    · rename_i h
      rcases List.mem_append.1 hu with h2 | h2
      · exact P.mem u h2
      · rw [List.mem_singleton] at h2
        subst h2
        exact ⟨hw, h.2.1, h.2.2⟩
    · exact P.mem u hu
  · have := giveQ_le (s := s) (t := t) (w := hdA fr to a) (ex := upd ex s (ex s + room a)) (Q := Q)
    have := P.ql
    omega
  · intro b hb hbs
    have z : b ≠ a → room b = 0 := by
      intro hne
      rw [List.take_succ_eq_append_getElem hj] at hb
      rcases List.mem_append.1 hb with h | h
      · exact P.zero b h hbs
      · rw [List.mem_singleton] at h; exact absurd (h.trans ha) hne
    have hbm := mem_arcsL.1 (List.mem_of_mem_take hb)
    by_cases e1 : b = a
    · subst e1; rw [sndR_a]; omega
    · by_cases e2 : b = prA a
      · exfalso
        rw [e2, hd_pr, hm.2] at hbs
        exact hbs rfl
      · rw [sndR_o e1 e2]; exact z e1

theorem PiI.start {j : Nat} (P : PiI n m fr to cap s t K j room ex Q) (hj : j = (arcsL fr to m s).length) (hst : s ≠ t) (hn : ∀ i, i < m → fr i < n ∧ to i < n) (hs : s < n) :
    PvI n m fr to cap s t K room (upd (fun _ => 0) s n) ex (fun _ => 0) Q none := by
  have u1 : upd (fun _ => (0 : Int)) s n s = n := if_pos rfl
  have u2 : ∀ u, u ≠ s → upd (fun _ => (0 : Int)) s n u = 0 := fun u h => if_neg h
  subst hj
  refine ⟨P.rm, u1, u2 _ fun h => hst h.symm, ?_, ?_, P.ex0, P.exs, fun u hu h1 h2 h3 => .inl (P.cov u hu h1 h2 h3), P.mem, fun u hu => ⟨Int.le_refl _, by omega⟩, fun u hu a ha => by simp at ha⟩
  · intro u hu
    by_cases e : u = s
    · subst e; rw [u1]; omega
    · rw [u2 u e]; omega
  · intro a ha hr
    by_cases e : tlA fr to a = s
    · by_cases e2 : hdA fr to a = s
      · rw [e, e2]; omega
      · have := P.zero a (by rw [List.take_length]; exact mem_arcsL.2 ⟨ha, e⟩) e2
        omega
    · rw [u2 _ e]
      by_cases e2 : hdA fr to a = s
      · rw [e2, u1]; omega
      · rw [u2 _ e2]; omega

def PhM (n m s : Nat) (fr to : Nat → Nat) (ht ex nxt : Nat → Int) (Q : List Nat) : N4 := ((Phi1 n ht).toNat, (Phi2 n s ex ht).toNat, (Phi3 n m fr to nxt).toNat, Q.length)
theorem PvI.nn (P : PvI n m fr to cap s t K room ht ex nxt Q cur) : 0 ≤ Phi1 n ht ∧ 0 ≤ Phi2 n s ex ht ∧ 0 ≤ Phi3 n m fr to nxt := by
  refine ⟨sumN_nonneg fun u hu => by have := P.hb u hu; omega, sumN_nonneg fun u hu => ?_, sumN_nonneg fun u hu => by have := P.nb u hu; omega⟩
  split
  · omega
  · rename_i h
    exact Int.mul_nonneg (P.ex0 u hu h).2 (P.hb u hu).1
theorem PvI.exb (P : PvI n m fr to cap s t K room ht ex nxt Q cur) (hc : ∀ i, i < m → cap i ≤ 1048576) (m1 : m ≤ 4096) (hk : 0 ≤ K ∧ K ≤ 8192 * 1048576) : ∀ u, u < n → -1000000000000 ≤ ex u ∧ ex u ≤ 1000000000000 := by
  intro u hu
  have b := out_bd (fr := fr) (to := to) (onR_bd P.rm hc) m1 u
  by_cases e : u = s
  · have := P.exs
    rw [← e] at this
    omega
  · have := P.ex0 u hu e
    omega
theorem rm_bd (R : RmP m cap room) (hc : ∀ i, i < m → cap i ≤ 1048576) : ∀ a, a < 2 * m → 0 ≤ room a ∧ room a ≤ 1048576 := by
  intro a ha
  have := R.pos a ha
  have := R.pos _ (prA_lt ha)
  have := R.pr ha
  have := hc (a / 2) (by omega)
  omega
theorem Phi3_upd {v : Nat} {y : Int} (hv : v < n) : Phi3 n m fr to (upd nxt v y) = Phi3 n m fr to nxt + nxt v - y := by
  unfold Phi3
  have e : (fun u => ((arcsL fr to m u).length : Int) - upd nxt v y u) = upd (fun u => ((arcsL fr to m u).length : Int) - nxt u) v ((arcsL fr to m v).length - y) := by
    funext u
    unfold upd
    by_cases e : u = v
    · subst e; rw [if_pos rfl, if_pos rfl]
    · rw [if_neg e, if_neg e]
  rw [e, sumN_upd hv]; omega
end

section
variable {own : Own} {h : H} {bp bn n m s t : Nat} {fr to : Nat → Nat} {cap room : Nat → Int}
theorem pfill_T (hc0 : ∀ i, i < m → 0 ≤ cap i) (hc : ∀ i, i < m → cap i ≤ 1048576) (hn : ∀ i, i < m → fr i < n ∧ to i < n) (m1 : m ≤ 4096) (n1 : n ≤ 1024) (hs : s < n) (ht : t < n) {x1 x2 x3 x5 : Value}
    (N : Net own h bn n m fr to s t room) (B : B1 own h 5 bp [.pointer (some (bk bn)), x1, x2, x3, .slice none 0 0, x5]) (R : RmP m cap room) (O : ∀ u, OutF m fr to (onR room) u = 0) (hst : s ≠ t) :
    T Try.prog F.maxflow_pushing_fill [.pointer (some (bk bp))] h fun r h' => ∃ own' room', r = .ret (.tuple ⟨[]⟩) ∧ Fm [2, 5, 6, 7, 8, 9, 10] own h own' h' ∧ Net own' h' bn n m fr to s t room' ∧
      FlS n m fr to cap s t room' ∧ ¬ Rch (ArS m fr to room') s t := by
  refine E_maxflow_pushing_fill ?_
  unfold B_maxflow_pushing_fill
  obtain ⟨vto, vroom, vout, outs, q4, q1, q2, q3, qa⟩ := N.ex
  refine ptrP_mk ⟨_, B.ld rfl, ptrP_mk ⟨_, q4.ld rfl, q3.len (va_length _ _) fun _ _ => ?_⟩⟩
  clear q4 q1 q2 q3 qa
  -- height
  refine mk_ints 6 (by omega) (by omega) ?_
  intro b8 g9 hb8 x9 S6
  rw [Int.toNat_natCast]
  have F : Fm [2, 5, 6, 7, 8, 9, 10] own h (own1 own b8 6) g9 := Fm.new x9 hb8
  have k6 := S6 own
  have B := B.nw (j := 6) x9 hb8
  have N := N.new (i := 6) x9 hb8
  generalize own1 own b8 6 = own2 at *
  clear S6
  refine ptrP_mk (B.st (by simp) ?_)
  intro g11 F2 B
  simp only [List.set] at B
  have N := N.fm F2 (by simp <;> omega)
  have k6 := k6.fm F2 (by simp <;> omega)
  have F := F.trans (F2.mono (by simp))
  clear F2
  -- count
  have ew : IntKind.i64.wrap (IntKind.i64.wrap (2 * (n : Int)) + 2) = ((2 * n + 2 : Nat) : Int) := by
    have e1 : IntKind.i64.wrap (2 * (n : Int)) = 2 * (n : Int) := w64_in (by omega) (by omega)
    have e2 : IntKind.i64.wrap (2 * (n : Int) + 2) = 2 * (n : Int) + 2 := w64_in (by omega) (by omega)
    rw [e1, e2]; omega
  rw [ew]
  refine mk_ints 7 (by omega) (by omega) ?_
  intro b12 g13 hb12 x13 S7
  rw [Int.toNat_natCast]
  have F := F.trans (Fm.new (i := 7) x13 hb12)
  have k7 := S7 own2
  have B := B.nw (j := 7) x13 hb12
  have k6 := k6.nw (j := 7) x13 hb12
  have N := N.new (i := 7) x13 hb12
  generalize own1 own2 b12 7 = own3 at *
  clear S7
  refine ptrP_mk (B.st (by simp) ?_)
  intro g15 F2 B
  simp only [List.set] at B
  have N := N.fm F2 (by simp <;> omega)
  have k6 := k6.fm F2 (by simp <;> omega)
  have k7 := k7.fm F2 (by simp <;> omega)
  have F := F.trans (F2.mono (by simp))
  clear F2
  -- excess
  refine mk_ints 8 (by omega) (by omega) ?_
  intro b16 g17 hb16 x17 S8
  have F := F.trans (Fm.new (i := 8) x17 hb16)
  have k8 := S8 own3
  have B := B.nw (j := 8) x17 hb16
  have k6 := k6.nw (j := 8) x17 hb16
  have k7 := k7.nw (j := 8) x17 hb16
  have N := N.new (i := 8) x17 hb16
  generalize own1 own3 b16 8 = own4 at *
  clear S8
  refine ptrP_mk (B.st (by simp) ?_)
  intro g19 F2 B
  simp only [List.set] at B
  have N := N.fm F2 (by simp <;> omega)
  have k6 := k6.fm F2 (by simp <;> omega)
  have k7 := k7.fm F2 (by simp <;> omega)
  have k8 := k8.fm F2 (by simp <;> omega)
  have F := F.trans (F2.mono (by simp))
  clear F2
  -- next
  refine mk_ints 10 (by omega) (by omega) ?_
  intro b20 g21 hb20 x21 S10
  have F := F.trans (Fm.new (i := 10) x21 hb20)
  have k10 := S10 own4
  have B := B.nw (j := 10) x21 hb20
  have k6 := k6.nw (j := 10) x21 hb20
  have k7 := k7.nw (j := 10) x21 hb20
  have k8 := k8.nw (j := 10) x21 hb20
  have N := N.new (i := 10) x21 hb20
  generalize own1 own4 b20 10 = own5 at *
  clear S10
  refine ptrP_mk (B.st (by simp) ?_)
  intro g23 F2 B
  simp only [List.set] at B
  have N := N.fm F2 (by simp <;> omega)
  have k6 := k6.fm F2 (by simp <;> omega)
  have k7 := k7.fm F2 (by simp <;> omega)
  have k8 := k8.fm F2 (by simp <;> omega)
  have k10 := k10.fm F2 (by simp <;> omega)
  have F := F.trans (F2.mono (by simp))
  clear F2
  refine ptrP_mk ⟨_, B.ld rfl, k7.setI (j := 0) (by omega) ?_⟩
  intro g27 F2 k7
  have N := N.fm F2 (by simp <;> omega)
  have B := B.fm F2 (by simp <;> omega)
  have k6 := k6.fm F2 (by simp <;> omega)
  have k8 := k8.fm F2 (by simp <;> omega)
  have k10 := k10.fm F2 (by simp <;> omega)
  have F := F.trans (F2.mono (by simp))
  clear F2
  have P : Ps own5 g27 bp bn n m fr to s t room (fun _ => 0) (fun _ => 0) (fun _ => 0) [] := by
    refine ⟨N, _, _, _, _, _, _, B, k6, k7, ?_, k8, Sq.nil, k10⟩
    intro k hk
    unfold cntH
    by_cases e : k = 0
    · subst e
      have : sumN n (fun u => if (0 : Int) = ((0 : Nat) : Int) then (1 : Int) else 0) = sumN n fun _ => 1 := rfl
      rw [this, sumN_const]; unfold upd; simp
    · rw [sumN_zero fun u _ => if_neg (show ¬ (0 : Int) = (k : Int) by omega)]
      unfold upd; rw [if_neg e]
  obtain ⟨vto, vroom, vout, outs, q4, q1, q2, q3, qa⟩ := N.ex
  refine ptrP_mk ⟨_, B.ld rfl, ptrP_mk ⟨_, q4.ld rfl, ?_⟩⟩
  clear q4 q1 q2 q3 qa N B k6 k7 k8 k10
  refine (set_T P n1 hs (x := 0) rfl (y := n) (by omega) (by omega)).mono ?_
  rintro _ g33 ⟨rfl, F2, P⟩
  refine rt_ret ⟨rfl, ?_⟩
  have F := F.trans (F2.mono (by simp))
  clear F2
  obtain ⟨vh, vc, vx, vq, vn, cnt, k5, k6, k7, C, k8, k9, k10⟩ := P.ex_
  obtain ⟨vto, vroom, vout, outs, q4, q1, q2, q3, qa⟩ := P.net.ex
  refine ptrP_mk (ptrP_mk ⟨_, k5.ld rfl, ptrP_mk ⟨_, q4.ld rfl, _, k5.ld rfl, ptrP_mk ⟨_, q4.ld rfl, q3.rdV hs ?_⟩⟩⟩)
  have hlen := arcsL_length (fr := fr) (to := to) (v := s) (i := m)
  have qs := qa s hs
  refine qs.len (natV_length _) fun _ _ => ?_
  clear k5 k6 k7 C k8 k9 k10 q4 q1 q2 q3 qa
  let I47 : (Int × Unit) → H → Nat → Prop := fun p q k => ∃ (j : Nat) (own' : Own) (room ex : Nat → Int) (Q : List Nat) (K : Int), p.1 = j ∧ j ≤ (arcsL fr to m s).length ∧ k = (arcsL fr to m s).length - j ∧
    Fm [2, 5, 6, 7, 8, 9, 10] own h own' q ∧ S1 own' q (20 + s) (outs s) (natV (arcsL fr to m s)) ∧ Ps own' q bp bn n m fr to s t room (upd (fun _ => 0) s n) ex (fun _ => 0) Q ∧ PiI n m fr to cap s t K j room ex Q
  refine ⟨fun p q => ∃ k, I47 p q k, rk I47, rk_wf I47, ⟨_, 0, own5, room, _, [], 0, rfl, by omega, rfl, F, qs, P, ?_⟩, ?_⟩
  · refine ⟨R, fun u hu _ => ⟨by rw [O]; rfl, Int.le_refl _⟩, by rw [O]; rfl, Int.le_refl _, ⟨Int.le_refl _, by omega⟩, fun u _ _ _ h => by omega, fun u hu => (by cases hu), Nat.le_refl _, fun a ha => by simp at ha⟩
  clear P F qs
  intro p q hI
  obtain ⟨j, own6, room, ex, Q, K, e1, hj, hk, F, qs, P, PI⟩ := mu_spec hI
  generalize hkk : mu I47 ((p, ()), q) = km at *
  change p = (j : Int) at e1
  subst e1
  refine ifP_of (fun h1 => ?_) (fun h1 => ?_)
  · have hja : j < (arcsL fr to m s).length := by have := of_decide_eq_true h1; omega
    have hlt : (arcsL fr to m s).length - (j + 1) < mu I47 (((j : Int), ()), q) := by rw [hkk, hk]; omega
    clear hI
    have ha := mem_arcsL.1 (List.getElem_mem hja)
    generalize haa : (arcsL fr to m s)[j] = a at ha
    have hw := hd_lt hn ha.1
    refine qs.rd (natV_get hja) ?_
    rw [haa]
    obtain ⟨vh, vc, vx, vq, vn, cnt, k5, k6, k7, C, k8, k9, k10⟩ := P.ex_
    obtain ⟨vto, vroom, vout, outs', q4, q1, q2, q3, qa⟩ := P.net.ex
    refine ptrP_mk (ptrP_mk (ptrP_mk ⟨_, k5.ld rfl, _, k5.ld rfl, ptrP_mk ⟨_, q4.ld rfl, k8.rdI hs ?_⟩⟩))
    refine ⟨_, k5.ld rfl, ptrP_mk ⟨_, q4.ld rfl, q2.rdI ha.1 ?_⟩⟩
    have rb := rm_bd PI.rm hc
    have hra := rb a ha.1
    have ob := out_bd (fr := fr) (to := to) (onR_bd PI.rm hc) m1
    have kb := PI.kb
    have exs := PI.exs
    have exs0 := PI.exs0
    have obs := ob s
    have ew : IntKind.i64.wrap (ex s + room a) = ex s + room a := w64_in (by omega) (by omega)
    rw [ew]
    refine k8.setI hs ?_
    intro g68 F2 k8
    have N := P.net
    have N := N.fm F2 (by simp <;> omega)
    have k5 := k5.fm F2 (by simp <;> omega)
    have k6 := k6.fm F2 (by simp <;> omega)
    have k7 := k7.fm F2 (by simp <;> omega)
    have k9 := k9.fm F2 (by simp <;> omega)
    have k10 := k10.fm F2 (by simp <;> omega)
    have qs := qs.fm F2 (by simp <;> omega)
    have F := F.trans (F2.mono (by simp))
    clear F2 q4 q1 q2 q3 qa
    have P2 : Ps own6 g68 bp bn n m fr to s t room (upd (fun _ => 0) s n) (upd ex s (ex s + room a)) (fun _ => 0) Q := ⟨N, _, _, _, _, _, _, k5, k6, k7, C, k8, k9, k10⟩
    obtain ⟨vto, vroom, vout, outs', q4, q1, q2, q3, qa⟩ := N.ex
    refine ptrP_mk ⟨_, k5.ld rfl, ptrP_mk ⟨_, q4.ld rfl, ?_⟩⟩
    have us : upd ex s (ex s + room a) s = ex s + room a := if_pos rfl
    refine (give_T P2 hn m1 hs ha.1 (x := room a) (by rw [us]; split <;> omega) ?_ rb hra.1 (by have := PI.ql; omega)).mono ?_
    · intro u hu
      unfold upd
      by_cases e : u = s
      · rw [if_pos e]; omega
      · rw [if_neg e]
        have := PI.ex0 u hu e
        have := ob u
        omega
    rintro _ g74 ⟨own7, rfl, F2, P3⟩
    refine rt_ret ⟨rfl, ?_⟩
    rw [i64_inc (by omega)]
    exact mu_next (I := I47) (k := (arcsL fr to m s).length - (j + 1)) ⟨j + 1, own7, _, _, _, _, rfl, hja, rfl, F.trans (F2.mono (by simp)), qs.fm F2 (by simp <;> omega), P3, PI.next hn hc hja haa⟩ hlt
  -- the main loop
  have hja : j = (arcsL fr to m s).length := by have := of_decide_eq_false h1; omega
  have V := PI.start hja hst hn hs
  have kb := PI.kb
  have kb2 : 0 ≤ K ∧ K ≤ 8192 * 1048576 := by omega
  have hql := PI.ql
  have czb := cntH_bd (n := n) (ht := upd ex s 1) (k := 0)
  clear PI hI hkk hk qs h1
  let I77 : Unit → H → N4 → Prop := fun _ q al => ∃ (own' : Own) (room ht ex nxt : Nat → Int) (Q : List Nat), al = PhM n m s fr to ht ex nxt Q ∧ Fm [2, 5, 6, 7, 8, 9, 10] own h own' q ∧
    Ps own' q bp bn n m fr to s t room ht ex nxt Q ∧ PvI n m fr to cap s t K room ht ex nxt Q none ∧ Q.length + cntH n (upd ex s 1) 0 ≤ 2 * m + n
  refine ⟨fun p q => ∃ k, I77 p q k, rkW W4 I77, rkW_wf W4 I77, ⟨_, own6, room, _, ex, _, Q, rfl, F, P, V, by omega⟩, ?_⟩
  clear P V F czb hql room ex Q hj own6
  intro q hI
  obtain ⟨al, ⟨own6, room, ht7, ex, nxt, Q, hal, F, P, V, hQZ⟩, hmin⟩ := muW (W := W4) hI
  clear hI
  have czb := cntH_bd (n := n) (ht := upd ex s 1) (k := 0)
  obtain ⟨vh, vc, vx, vq, vn, cnt, k5, k6, k7, C, k8, k9, k10⟩ := P.ex_
  have N := P.net
  refine ptrP_mk ⟨_, k5.ld rfl, k9.len (natV_length _) fun _ _ => ?_⟩
  refine ifP_of (fun h1 => ?_) (fun h1 => ?_)
  rotate_left
  · have : Q = [] := by
      have := of_decide_eq_false h1
      exact List.length_eq_zero_iff.1 (by omega)
    subst this
    obtain ⟨f1, f2⟩ := V.fin hn hs ht
    exact ⟨own6, room, rfl, F, N, f1, f2⟩
  cases Q with
  | nil => simp at h1
  | cons v Q =>
  obtain ⟨hv, hvs, hvt⟩ := V.mem v (List.mem_cons_self ..)
  refine ptrP_mk ⟨_, k5.ld rfl, k9.rd (j := 0) (x := (v : Nat)) rfl ?_⟩
  refine ptrP_mk ⟨_, k5.ld rfl, Sq.tl (x := .int .i64 (v : Nat)) (xs := natV Q) k9 ?_⟩
  intro qa ql qc hql1 hql2 hql3 k9'
  refine ⟨by omega, by omega, by omega, hql2, ptrP_mk (oneP_slc k9'.isS (k5.st (by simp) ?_))⟩
  clear k9
  have k9 := k9'
  clear k9'
  intro g95 F2 k5
  simp only [List.set] at k5
  have N := N.fm F2 (by simp <;> omega)
  have k6 := k6.fm F2 (by simp <;> omega)
  have k7 := k7.fm F2 (by simp <;> omega)
  have k8 := k8.fm F2 (by simp <;> omega)
  have k9 := k9.fm F2 (by simp <;> omega)
  have k10 := k10.fm F2 (by simp <;> omega)
  have F := F.trans (F2.mono (by simp))
  have P : Ps own6 g95 bp bn n m fr to s t room ht7 ex nxt Q := ⟨N, _, _, _, _, _, _, k5, k6, k7, C, k8, k9, k10⟩
  have V : PvI n m fr to cap s t K room ht7 ex nxt Q (some v) := by
    refine ⟨V.rm, V.hs, V.htt, V.hb, V.val, V.ex0, V.exs, fun u hu h1 h2 h3 => ?_, fun u hu => V.mem u (List.mem_cons_of_mem _ hu), V.nb, V.ca⟩
    rcases V.cov u hu h1 h2 h3 with h | h
    · rcases List.mem_cons.1 h with rfl | h
      · exact .inr rfl
      · exact .inl h
    · cases h
  have hr : r4 (PhM n m s fr to ht7 ex nxt Q) al := by
    rw [hal]
    unfold PhM r4
    simp
  have hQZ : (Q.length : Int) + cntH n (upd ex s 1) 0 + (if 0 < ex v then 1 else 0) ≤ 2 * m + n := by
    simp only [List.length_cons] at hQZ
    split <;> omega
  clear hql1 hql2 hql3 k5 k6 k7 C k8 k9 k10 N F2 h1 hal
  let I96 : Unit → H → N4 → Prop := fun _ q be => ∃ (own' : Own) (room ht ex nxt : Nat → Int) (Q : List Nat), be = PhM n m s fr to ht ex nxt Q ∧ Fm [2, 5, 6, 7, 8, 9, 10] own h own' q ∧
    Ps own' q bp bn n m fr to s t room ht ex nxt Q ∧ PvI n m fr to cap s t K room ht ex nxt Q (some v) ∧ (Q.length : Int) + cntH n (upd ex s 1) 0 + (if 0 < ex v then 1 else 0) ≤ 2 * m + n ∧ r4 be al
  refine ⟨fun p q => ∃ k, I96 p q k, rkW W4 I96, rkW_wf W4 I96, ⟨_, own6, room, ht7, ex, nxt, Q, rfl, F, P, V, hQZ, hr⟩, ?_⟩
  clear P V F czb hQZ hr
  intro q2 hI
  obtain ⟨be, ⟨own6, room, ht7, ex, nxt, Q, hbe, F, P, V, hQZ, hr⟩, hmin2⟩ := muW (W := W4) hI
  clear hI
  have czb := cntH_bd (n := n) (ht := upd ex s 1) (k := 0)
  obtain ⟨vh, vc, vx, vq, vn, cnt, k5, k6, k7, C, k8, k9, k10⟩ := P.ex_
  have N := P.net
  obtain ⟨vto, vroom, vout, outs', q4, q1, q2', q3, qa⟩ := N.ex
  have hlenv := arcsL_length (fr := fr) (to := to) (v := v) (i := m)
  have hnv := V.nb v hv
  obtain ⟨l, hl⟩ : ∃ l : Nat, nxt v = l := ⟨(nxt v).toNat, by omega⟩
  obtain ⟨n1_, n2_, n3_⟩ := V.nn
  refine ptrP_mk ⟨_, k5.ld rfl, k8.rdI hv ?_⟩
  refine ifP_of (fun h1 => ?_) (fun h1 => ?_)
  rotate_left
  · have hev := of_decide_eq_false h1
    rw [if_neg hev] at hQZ
    refine muW_next hmin (a := be) ⟨own6, room, ht7, ex, nxt, Q, hbe, F, P, ?_, by omega⟩ hr
    refine ⟨V.rm, V.hs, V.htt, V.hb, V.val, V.ex0, V.exs, fun u hu h1 h2 h3 => ?_, V.mem, V.nb, V.ca⟩
    rcases V.cov u hu h1 h2 h3 with h | h
    · exact .inl h
    · simp only [Option.some.injEq] at h
      subst h
      exact absurd h3 hev
  have hev := of_decide_eq_true h1
  refine ptrP_mk (ptrP_mk ⟨_, k5.ld rfl, k10.rdI hv ⟨_, k5.ld rfl, ptrP_mk ⟨_, q4.ld rfl, q3.rdV hv ?_⟩⟩⟩)
  refine (qa v hv).len (natV_length _) fun _ _ => ?_
  rw [hl]
  refine ifP_of (fun h2 => ?_) (fun h2 => ?_)
  · -- lift
    have h2 := of_decide_eq_true h2
    refine (lift_T P hn n1 m1 hv V.hb (V.low hn hs hv hvs hev) (fun a ha hta hra => ?_)).mono ?_
    · have := V.val a ha hra
      have := V.ca v hv a (by rw [hl, Int.toNat_natCast, show l = (arcsL fr to m v).length by omega, List.take_length]; exact mem_arcsL.2 ⟨ha, hta⟩)
      rw [hta] at *
      have : ¬ ht7 v = ht7 (hdA fr to a) + 1 := fun h => this ⟨hra, h⟩
      omega
    rintro _ g117 ⟨rfl, F2, ht8, nxt8, P2, L⟩
    refine rt_ret ⟨rfl, ?_⟩
    obtain ⟨V2, hph⟩ := V.lift hn hv hvs hvt hs L
    have hlt : r4 (PhM n m s fr to ht8 ex nxt8 Q) be := by
      rw [hbe]
      have := V2.nn
      unfold PhM r4
      simp only
      omega
    exact muW_next hmin2 (a := PhM n m s fr to ht8 ex nxt8 Q) ⟨own6, room, ht8, ex, nxt8, Q, rfl, F.trans (F2.mono (by simp)), P2, V2, hQZ, r4_trans hlt hr⟩ hlt
  have h2 := of_decide_eq_false h2
  have hla : l < (arcsL fr to m v).length := by omega
  have ha := mem_arcsL.1 (List.getElem_mem hla)
  have hskip := V.skip hv hl hla
  generalize haa : (arcsL fr to m v)[l] = a at ha hskip
  have hw := hd_lt hn ha.1
  refine ptrP_mk (ptrP_mk ⟨_, k5.ld rfl, ptrP_mk ⟨_, q4.ld rfl, q3.rdV hv ⟨_, k5.ld rfl, k10.rdI hv ?_⟩⟩⟩)
  rw [hl]
  refine (qa v hv).rd (natV_get hla) ?_
  rw [haa]
  refine ptrP_mk ⟨_, k5.ld rfl, ptrP_mk ⟨_, q4.ld rfl, q2'.rdI ha.1 ?_⟩⟩
  have step : ¬ (0 < room a ∧ ht7 v = ht7 (hdA fr to a) + 1) → ptrP (.pointer (some (bk bp))) fun a162 => ldV q2 (a162.add 5) fun x163 => ixS x163 (v : Int) 1 fun a164 => ldI q2 a164 .i64 fun x165 => ixS x163 (v : Int) 1 fun a166 =>
      stC q2 a166 (.int .i64 (IntKind.i64.wrap (x165 + 1))) fun h167 => (∃ k, I96 () h167 k) ∧ rkW W4 I96 ((), h167) ((), q2) := by
    intro hno
    refine ptrP_mk ⟨_, k5.ld rfl, k10.rdI hv ?_⟩
    rw [hl, i64_inc (by omega)]
    refine k10.setI hv ?_
    intro g161 F2 k10
    have N := N.fm F2 (by simp <;> omega)
    have k5 := k5.fm F2 (by simp <;> omega)
    have k6 := k6.fm F2 (by simp <;> omega)
    have k7 := k7.fm F2 (by simp <;> omega)
    have k8 := k8.fm F2 (by simp <;> omega)
    have k9 := k9.fm F2 (by simp <;> omega)
    have V2 := hskip hno
    have hlt : r4 (PhM n m s fr to ht7 ex (upd nxt v ((l + 1 : Nat) : Int)) Q) be := by
      rw [hbe]
      have n2 := V2.nn
      have e3 := Phi3_upd (n := n) (m := m) (fr := fr) (to := to) (nxt := nxt) (y := ((l + 1 : Nat) : Int)) hv
      rw [hl] at e3
      refine .inr ⟨rfl, .inr ⟨rfl, .inl ?_⟩⟩
      show (Phi3 n m fr to (upd nxt v ((l + 1 : Nat) : Int))).toNat < (Phi3 n m fr to nxt).toNat
      omega
    exact muW_next hmin2 (a := PhM n m s fr to ht7 ex (upd nxt v ((l + 1 : Nat) : Int)) Q) ⟨own6, room, ht7, ex, _, Q, rfl, F.trans (F2.mono (by simp)), ⟨N, _, _, _, _, _, _, k5, k6, k7, C, k8, k9, k10⟩, V2, hQZ, r4_trans hlt hr⟩ hlt
  refine ifP_of (fun h3 => ?_) (fun h3 => step fun h => of_decide_eq_false h3 h.1)
  have h3 := of_decide_eq_true h3
  refine ptrP_mk (ptrP_mk (ptrP_mk ⟨_, k5.ld rfl, k6.rdI hv ⟨_, k5.ld rfl, _, k5.ld rfl, ptrP_mk ⟨_, q4.ld rfl, q1.rdI ha.1 (k6.rdI hw ?_)⟩⟩⟩))
  dsimp only
  have hbw := V.hb _ hw
  have ew2 : IntKind.i64.wrap (ht7 (hdA fr to a) + 1) = ht7 (hdA fr to a) + 1 := w64_in (by omega) (by omega)
  rw [ew2]
  refine ifP_of (fun h4 => ?_) (fun h4 => step fun h => of_decide_eq_false h4 h.2)
  have h4 := of_decide_eq_true h4
  -- give
  have rb := rm_bd V.rm hc
  have hra := rb a ha.1
  obtain ⟨x, hx⟩ : ∃ x, x = if room a < ex v then room a else ex v := ⟨_, rfl⟩
  have hx1 : 0 < x ∧ x ≤ room a ∧ x ≤ ex v := by rw [hx]; split <;> omega
  rw [if_pos hev] at hQZ
  refine (give_T P hn m1 hv ha.1 hx (V.exb hc m1 kb2) rb (by omega) (by omega)).mono ?_
  rintro _ g153 ⟨own7, rfl, F2, P2⟩
  refine rt_ret ⟨rfl, ?_⟩
  have V2 := V.give hn ha.1 ha.2 rfl hvs hvt h4 hx1.1 hx1.2.1 hx1.2.2
  have ne : v ≠ hdA fr to a := by intro h; rw [← h] at h4; omega
  have hph := Phi2_give (n := n) (s := s) (ex := ex) (x := x) hv hw ne hvs h4 hbw.1 (by omega)
  have hlt : r4 (PhM n m s fr to ht7 (giveX ex v (hdA fr to a) x) nxt (giveQ s t ex Q (hdA fr to a))) be := by
    rw [hbe]
    have n2 := V2.nn
    refine .inr ⟨rfl, .inl ?_⟩
    show (Phi2 n s (giveX ex v (hdA fr to a) x) ht7).toNat < (Phi2 n s ex ht7).toNat
    omega
  refine muW_next hmin2 (a := PhM n m s fr to ht7 (giveX ex v (hdA fr to a) x) nxt (giveQ s t ex Q (hdA fr to a))) ⟨own7, _, ht7, _, nxt, _, rfl, F.trans (F2.mono (by simp)), P2, V2, ?_, r4_trans hlt hr⟩ hlt
  have hz := zq (Q := Q) (t := t) hv hw hs ne hvs hx1.1 hx1.2.2 (fun h => (V.ex0 _ hw h).2)
  omega
end

end Go.Proofs.Ythglkcpoofenbaa

