import Derived.Deep.Slices
import Derived.Deep.Fields
import Derived.ChangeSame
import Derived.SizedLaws
import Derived.WalkKit
import Derived.ProofKit
import Derived.OpenShut
import Derived.ShutString
import Derived.ChangeOld
import Derived.Below
import Derived.Test.YtkdnnfpmppmmcaaProg
import Derived.Test.YtkdnnfpmppmmcaaCA4
namespace Go.Proofs.Ytkdnnfpmppmmcaa
open Go
set_option linter.unusedVariables false
set_option linter.unusedSimpArgs false
set_option maxRecDepth 100000

def fstOf : Code → Code
  | .seq a _ => a
  | _ => .skip
def appC : List Code → Code → Code
  | [], X => X
  | c :: cs, X => .seq c (appC cs X)
def slotsP (fr : Fr) : List Nat → (List Value → Prop) → Prop
  | [], K => K []
  | t :: r, K => on (Fr.get fr t) fun v => slotsP fr r fun vs => K (v :: vs)
theorem on_some {α : Type} {x : Option α} {K : α → Prop} (h : on x K) : ∃ v, x = some v ∧ K v := by
  cases x with
  | none => exact h.elim
  | some v => exact ⟨v, rfl, h⟩
theorem FrOK.cons {fr : Fr} {a : Act} {t : Nat} {v : Value} (h : FrOK fr a) (hv : a.tmps[t]? = some v) : FrOK ((t, v) :: fr) a := by
  intro s q hq
  simp only [Fr.get] at hq
  cases e : Nat.beq t s with
  | true =>
    have := Nat.eq_of_beq_eq_true e
    subst this
    rw [e, cond_true] at hq
    rw [hv]; exact hq
  | false =>
    rw [e, cond_false] at hq
    exact h s q hq
/-- A prefix of the code, walked at once. -/
theorem appC_sound {P : Program} {n : Nat} {A : An} (hA : ∀ i, A.ct i = none) {X c : Code} {ds : List Deferred} {h0 : H} {w0 : World} {W : List Nat} {a0 : Act} {Q : Exit → Act → World → Prop} {Q0 : Ex → Fr → H → Prop}
    (hQ : ∀ e fr' h' a' w', Q0 e fr' h' → Rel n ds h0 w0 W a0 fr' h' a' w' → Exit.then (X.wp P Q) Q (cex e) a' w') : ∀ (cs : List Code) (fr : Fr) (h : H) (a : Act) (w : World), cpt P n A (appC cs c) fr h Q0 →
    (∀ t ∈ writesOf (appC cs c), has t W = true) → Rel n ds h0 w0 W a0 fr h a w → (appC cs (.seq c X)).wp P Q a w := by
  intro cs
  induction cs with
  | nil =>
    intro fr h a w hc hW rel
    exact wp_seq (cpt_sound c fr h Q0 hc ds h0 w0 W a0 a w _ hW rel hQ)
  | cons d cs ih =>
    intro fr h a w hc hW rel
    refine wp_seq ?_
    have hc2 : cpt P n A d fr h fun e fr h => match e with
        | .normal => cpt P n A (appC cs c) fr h Q0
        | e => Q0 e fr h := by
      have := hc
      unfold appC cpt at this
      rw [hA] at this
      exact this
    have hW1 : ∀ t ∈ writesOf d, has t W = true := fun t ht => hW t (by unfold appC writesOf; exact List.mem_append.2 (.inl ht))
    have hW2 : ∀ t ∈ writesOf (appC cs c), has t W = true := fun t ht => hW t (by show t ∈ writesOf (.seq d (appC cs c)); unfold writesOf; exact List.mem_append.2 (.inr ht))
    refine cpt_sound d fr h _ hc2 ds h0 w0 W a0 a w _ hW1 rel ?_
    intro e fr' h' a' w' hq rel'
    cases e with
    | normal => exact ih fr' h' a' w' hq hW2 rel'
    | exit i => exact hQ (.exit i) fr' h' a' w' hq rel'
    | ret => exact hQ .ret fr' h' a' w' hq rel'
    | panic v => exact hQ (.panic v) fr' h' a' w' hq rel'

def A_SolveA : An := ⟨lkA [(0, rng 5), (1, rng 4), (2, rng 3), (3, ⟨[1, 0, 2, 3, 4, 5, 6], lkN [(3, [2]), (4, [2]), (5, [2])]⟩), (4, rng 4), (5, rng 2), (6, rng 6), (7, rng 4), (8, rng 1), (9, rng 1), (10, rng 5), (11, rng 2), (12, rng 4), (13, rng 2), (14, rng 4), (15, rng 2), (16, rng 5)], lkL [], lkC []⟩
def BSolveA (p0_g : List Value) (p1_supply : Value) (p2_kind : Int) (N : List Value → H → Prop) (R : Res → H → Prop) (h : H) : Prop :=
  newP h (.cells ⟨p0_g⟩ 24 (0, 0)) fun b1 h2 =>
  newP h2 (.cells ⟨[.slice none 0 0, .slice none 0 0, .slice none 0 0]⟩ 28 (0, 0)) fun b3 h4 =>
  newP h4 (.cells ⟨[.int .i64 0]⟩ 2 (0, 0)) fun b5 h6 =>
  newP h6 (.cells ⟨[.slice none 0 0]⟩ 29 (0, 0)) fun b7 h8 =>
  newP h8 (.cells ⟨[.int .i64 0]⟩ 30 (0, 0)) fun b9 h10 =>
  ldN h10 (bk b1) 2 fun x11 =>
  T Try.prog F.graph_Check [.agg ⟨x11⟩] h10 (rt (fun v12 h13 =>
  ∃ r14 : List Value, r14.length = 2 ∧ v12 = .agg ⟨r14⟩ ∧
  newP h13 (.cells ⟨[.int .i64 0, .int .i64 0]⟩ 62 (0, 0)) fun b15 h16 =>
  stN h16 (bk b15) r14 2 fun h17 =>
  ldI h17 ((bk b15).add 0) .i64 fun x18 =>
  ifP (!decide (x18 = 0)) (ldN h17 (bk b3) 3 fun x19 =>
  ldI h17 ((bk b15).add 0) .i64 fun x20 =>
  stN h17 (bk b3) x19 3 fun h21 =>
  (sameAt 2 ((bk b15).add 0) h17 h21) ∧
  stC h21 (bk b5) (.int .i64 0) fun h22 =>
  (sameAt 2 ((bk b15).add 0) h21 h22) ∧
  stC h22 (bk b7) (.slice none 0 0) fun h23 =>
  (sameAt 2 ((bk b15).add 0) h22 h23) ∧
  stC h23 (bk b9) (.int .i64 x20) fun h24 =>
  ldN h24 (bk b3) 3 fun x25 =>
  ldI h24 (bk b5) .i64 fun x26 =>
  ldV h24 (bk b7) fun x27 =>
  ldI h24 (bk b9) .i64 fun x28 =>
  R (.ret (.tuple ⟨[.agg ⟨x25⟩, .int .i64 x26, x27, .int .i64 x28]⟩)) h24)
  (ldN h17 (bk b1) 2 fun x29 =>
  T Try.prog F.mincost_supplied [.agg ⟨x29⟩, p1_supply] h17 (rt (fun v30 h31 =>
  ∃ r32, v30 = .int .i64 r32 ∧
  ifP (!decide (r32 = 0)) (ldN h31 (bk b3) 3 fun x33 =>
  stN h31 (bk b3) x33 3 fun h34 =>
  stC h34 (bk b5) (.int .i64 0) fun h35 =>
  stC h35 (bk b7) (.slice none 0 0) fun h36 =>
  stC h36 (bk b9) (.int .i64 r32) fun h37 =>
  ldN h37 (bk b3) 3 fun x38 =>
  ldI h37 (bk b5) .i64 fun x39 =>
  ldV h37 (bk b7) fun x40 =>
  ldI h37 (bk b9) .i64 fun x41 =>
  R (.ret (.tuple ⟨[.agg ⟨x38⟩, .int .i64 x39, x40, .int .i64 x41]⟩)) h37)
  (ldN h31 (bk b1) 2 fun x42 =>
  T Try.prog F.mincost_newNet [.agg ⟨x42⟩, p1_supply] h31 (rt (fun v43 h44 =>
  ifP (decide (p2_kind = 1)) (oneP v43 (N [p1_supply, .pointer (some (bk b1)), .pointer (some (bk b3)), .pointer (some (bk b5)), .pointer (some (bk b7)), .pointer (some (bk b9)), v43, .iface 70 (.agg ⟨[v43]⟩)] h44))
  (ifP (decide (p2_kind = 2)) (oneP v43 (N [p1_supply, .pointer (some (bk b1)), .pointer (some (bk b3)), .pointer (some (bk b5)), .pointer (some (bk b7)), .pointer (some (bk b9)), v43, .iface 71 (.agg ⟨[v43]⟩)] h44))
  (ifP (decide (p2_kind = 3)) (oneP v43 (newP h44 (.cells ⟨[v43, .int .i64 0]⟩ 74 (0, 0)) fun b45 h46 =>
  N [p1_supply, .pointer (some (bk b1)), .pointer (some (bk b3)), .pointer (some (bk b5)), .pointer (some (bk b7)), .pointer (some (bk b9)), v43, .iface 72 (.pointer (some (bk b45)))] h46))
  (ldN h44 (bk b3) 3 fun x47 =>
  stN h44 (bk b3) x47 3 fun h48 =>
  stC h48 (bk b5) (.int .i64 0) fun h49 =>
  stC h49 (bk b7) (.slice none 0 0) fun h50 =>
  stC h50 (bk b9) (.int .i64 50) fun h51 =>
  ldN h51 (bk b3) 3 fun x52 =>
  ldI h51 (bk b5) .i64 fun x53 =>
  ldV h51 (bk b7) fun x54 =>
  ldI h51 (bk b9) .i64 fun x55 =>
  R (.ret (.tuple ⟨[.agg ⟨x52⟩, .int .i64 x53, x54, .int .i64 x55]⟩)) h51)))) (fun v56 h57 => R (.pan v56) h57)))) (fun v58 h59 => R (.pan v58) h59)))) (fun v60 h61 => R (.pan v60) h61))
noncomputable abbrev cSolve : Code := bodyOf Try.f11
noncomputable abbrev lSolve : List Code := [fstOf cSolve, fstOf (restOf cSolve), fstOf (restOf (restOf cSolve)), fstOf (restOf (restOf (restOf cSolve))), fstOf (restOf (restOf (restOf (restOf cSolve))))]
noncomputable abbrev xSolve : Code := fstOf (restOf (restOf (restOf (restOf (restOf cSolve)))))
noncomputable abbrev dSolve : Code := fstOf (restOf (restOf (restOf (restOf (restOf (restOf cSolve))))))
noncomputable abbrev ySolve : Code := restOf (restOf (restOf (restOf (restOf (restOf (restOf cSolve))))))
theorem ESolveA {p0_g : List Value} {p1_supply : Value} {p2_kind : Int} {N : List Value → H → Prop} {R : Res → H → Prop} {h : H} (H0 : BSolveA p0_g p1_supply p2_kind N R h) :
    cpt Try.prog 101 A_SolveA (appC lSolve xSolve) [(0, .agg ⟨p0_g⟩), (1, p1_supply), (2, .int .i64 p2_kind)] h (fun e fr h => match e with
      | .normal => slotsP fr [1, 3, 6, 7, 8, 9, 12, 13] fun vs => N vs h
      | .ret => resP Try.prog fr h Try.f11.results.toList fun v => R (.ret v) h
      | .panic v => R (.pan v) h
      | .exit _ => False) := cast_of (by kernel_rfl) H0
def A_SolveB : An := ⟨lkA [(18, rng 2), (19, ⟨[1, 3, 7, 8, 9, 4, 5, 10, 0, 2, 6, 11, 12], lkN [(2, [4, 10])]⟩), (20, rng 4), (21, rng 1), (22, rng 6), (23, ⟨[0, 2, 3, 4, 5, 7, 8, 9, 1, 6, 10, 11, 12, 13], lkN []⟩), (24, ⟨[1, 3, 5, 0, 2, 4, 6, 7, 8, 9, 10], lkN []⟩), (25, rng 2), (26, ⟨[0, 1, 2, 3, 4, 5], lkN [(2, [1])]⟩)], lkL [(21, [(70, .int .i64)])], lkC []⟩
def BSolveB (p1 : Value) (b3 b6 b7 b8 b9 : Nat) (v12 v13 : Value) (N : H → Prop) (X : Value → H → Prop) (h : H) : Prop :=
  methP Try.prog h v13 "compass/mincost.meet" fun f1 rv2 =>
  T Try.prog f1 (rv2 :: []) h (rt (fun v3 h4 =>
  v3 = .tuple ⟨[]⟩ ∧
  ptrP v12 fun a5 =>
  ldV h4 ((bk b3).add 1) fun x6 =>
  slcP x6 fun a7 l8 c9 =>
  ldV h4 (a5.add 6) fun x10 =>
  newP h4 (.cells ⟨[]⟩ 2 (0, 0)) fun b11 h12 =>
  apP (.slice (some (bk b11)) 0 0) p1 h12 1 2 8 [.int .i64 0] fun s13 h14 =>
  (sameAt 2 (a5.add 6) h12 h14) ∧
  (sameAt 2 ((bk b3).add 1) h12 h14) ∧
  mkS ((l8 : Nat) : Int) ((l8 : Nat) : Int) 8 [.int .i64 0] 2 h14 fun b15 h16 =>
  oneP s13 (oneP x10 (stN h16 (bk b6) [s13, .slice (some (bk b15)) (((l8 : Nat) : Int).toNat) (((l8 : Nat) : Int).toNat), x10] 3 fun h17 =>
  ldV h17 ((bk b3).add 1) fun x18 =>
  slcP x18 fun a19 l20 c21 =>
  ∃ (I22 : (Int × Unit) → H → Prop) (r23 : (Int × Unit) × H → (Int × Unit) × H → Prop), WellFounded r23 ∧ I22 (0, ()) h17 ∧
  ∀ (s25 : Int) (h24 : H), I22 (s25, ()) h24 →
  ifP (decide (s25 < ((l20 : Nat) : Int))) (ixS x18 s25 4 fun a26 =>
  ldN h24 a26 4 fun x27 =>
  newP h24 (.cells ⟨[.int .i64 0, .int .i64 0, .int .i64 0, .int .i64 0]⟩ 44 (0, 0)) fun b28 h29 =>
  stN h29 (bk b28) x27 4 fun h30 =>
  ptrP v12 fun a31 =>
  ldV h30 ((bk b6).add 1) fun x32 =>
  ldV h30 (a31.add 2) fun x33 =>
  ixS x33 (IntKind.i64.wrap ((IntKind.i64.wrap (2 * s25)) + 1)) 1 fun a34 =>
  ldI h30 a34 .i64 fun x35 =>
  ixS x32 s25 1 fun a36 =>
  stC h30 a36 (.int .i64 x35) fun h37 =>
  ldI h37 (bk b7) .i64 fun x38 =>
  ldI h37 ((bk b28).add 3) .i64 fun x39 =>
  ldV h37 ((bk b6).add 1) fun x40 =>
  ixS x40 s25 1 fun a41 =>
  ldI h37 a41 .i64 fun x42 =>
  stC h37 (bk b7) (.int .i64 (IntKind.i64.wrap (x38 + (IntKind.i64.wrap (x39 * x42))))) fun h43 =>
  I22 ((IntKind.i64.wrap (s25 + 1)), ()) h43 ∧ r23 (((IntKind.i64.wrap (s25 + 1)), ()), h43) ((s25, ()), h24))
  (ldN h24 (bk b6) 3 fun x44 =>
  ldI h24 (bk b7) .i64 fun x45 =>
  stN h24 (bk b6) x44 3 fun h46 =>
  (sameAt 2 (bk b7) h24 h46) ∧
  stC h46 (bk b7) (.int .i64 x45) fun h47 =>
  stC h47 (bk b8) (.slice none 0 0) fun h48 =>
  stC h48 (bk b9) (.int .i64 0) fun h49 =>
  N h49)))) (fun v50 h51 => X v50 h51))
theorem ESolveB {p1 : Value} {b3 b6 b7 b8 b9 : Nat} {v12 v13 vf : Value} {N : H → Prop} {X : Value → H → Prop} {h : H} (H0 : BSolveB p1 b3 b6 b7 b8 b9 v12 v13 N X h) :
    cpt Try.prog 101 A_SolveB ySolve [(52, vf), (1, p1), (3, .pointer (some (bk b3))), (6, .pointer (some (bk b6))), (7, .pointer (some (bk b7))), (8, .pointer (some (bk b8))), (9, .pointer (some (bk b9))), (12, v12), (13, v13)] h (fun e fr h => match e with
      | .normal => N h
      | .ret => N h
      | .panic v => X v h
      | .exit _ => False) := cast_of (by kernel_rfl) H0
def A_SolveC : An := ⟨lkA [(1, rng 1), (2, ⟨[0, 1, 2, 3, 4, 5, 6], lkN [(3, [2]), (4, [2])]⟩)], lkL [], lkC []⟩
def BSolveC (b6 b7 b8 b9 b4 : Nat) (v5 : Bool) (N : H → Prop) (h : H) : Prop :=
  ifP v5 (ldV h ((bk b4).add 0) fun x1 =>
  stN h (bk b6) [.slice none 0 0, .slice none 0 0, .slice none 0 0] 3 fun h2 =>
  (sameAt 2 ((bk b4).add 0) h h2) ∧
  stC h2 (bk b7) (.int .i64 0) fun h3 =>
  (sameAt 2 ((bk b4).add 0) h2 h3) ∧
  oneP x1 (stC h3 (bk b8) x1 fun h4 =>
  stC h4 (bk b9) (.int .i64 5) fun h5 =>
  N h5))
  (N h)
theorem ESolveC {b6 b7 b8 b9 b4 : Nat} {v5 : Bool} {v9 v8 v : Value} {N : H → Prop} {h : H} (H0 : BSolveC b6 b7 b8 b9 b4 v5 N h) :
    cpt Try.prog 15 A_SolveC (restOf (bodyOf Try.f27)) [(5, .bool v5), (4, .pointer (some (bk b4))), (10, .bool v5), (9, v9), (6, v8), (8, v8), (7, v), (0, .pointer (some (bk b6))), (1, .pointer (some (bk b7))), (2, .pointer (some (bk b8))), (3, .pointer (some (bk b9)))] h (fun e fr h => match e with
      | .normal => N h
      | .ret => N h
      | _ => False) := cast_of (by kernel_rfl) H0
/-- What is given up with. -/
abbrev gvL (sd : Value) : Value := .iface 76 (.agg ⟨[sd]⟩)
theorem ta_lack (sd : Value) (w : World) : (Instr.typeAssert (gvL sd) 20 76 true).run Try.prog w = .ok (.tuple ⟨[.agg ⟨[sd]⟩, .bool true]⟩) w := by kernel_rfl
theorem ta_lack0 (w : World) : (Instr.typeAssert .nilIface 20 76 true).run Try.prog w = .ok (.tuple ⟨[.agg ⟨[.slice none 0 0]⟩, .bool false]⟩) w := by kernel_rfl
theorem f27_seq : bodyOf Try.f27 = .seq (.region 0 (firstOps (bodyOf Try.f27)) false) (restOf (bodyOf Try.f27)) := by kernel_rfl
def B27 (v : Value) (h : H) (K : Fr → H → Prop) (b6 b7 b8 b9 : Nat) : Prop :=
  runP Try.prog h (Instr.typeAssert v 20 76 true) fun v8 => tupP v8 fun vs => on (vs[0]?) fun v9 => tupP v8 fun vs => on (vs[1]?) fun v10 =>
    newP h (.cells ⟨[.slice none 0 0]⟩ 76 (0, 0)) fun b1 h1 => aggP v9 fun ws => stN h1 (bk b1) ws 1 fun h2 => K [(5, v10), (4, .pointer (some (bk b1))), (10, v10), (9, v9), (6, v8), (8, v8), (7, v), (0, .pointer (some (bk b6))), (1, .pointer (some (bk b7))), (2, .pointer (some (bk b8))), (3, .pointer (some (bk b9)))] h2
theorem E27 {v : Value} {h : H} {K : Fr → H → Prop} {X : Value → H → Prop} {b6 b7 b8 b9 : Nat} (H0 : B27 v h K b6 b7 b8 b9) :
    rpt Try.prog (firstOps (bodyOf Try.f27)).toList (fun _ => []) [] [1, 2, 3, 4, 5, 6, 7] [(7, v), (0, .pointer (some (bk b6))), (1, .pointer (some (bk b7))), (2, .pointer (some (bk b8))), (3, .pointer (some (bk b9)))] h K X := cast_of (by kernel_rfl) H0
theorem cSolve_eq : cSolve = appC lSolve (.seq xSolve (.seq (.region 17 (firstOps (.seq dSolve .skip)) false) ySolve)) := by kernel_rfl

end Go.Proofs.Ytkdnnfpmppmmcaa

namespace Go.Proofs.Ytkdnnfpmppmmcaa
open Go
set_option linter.unusedVariables false
set_option linter.unusedSimpArgs false
set_option maxRecDepth 100000

/-- The results' blocks. -/
structure P4 (g : H) (b6 b7 b8 b9 : Nat) (pl : List Value) (co : Int) (sv : Value) (er : Int) : Prop where
  l : pl.length = 3
  k6 : Bl g b6 pl
  k7 : Bl g b7 [.int .i64 co]
  k8 : Bl g b8 [sv]
  k9 : Bl g b9 [.int .i64 er]
  ne : b6 ≠ b7 ∧ b6 ≠ b8 ∧ b6 ≠ b9 ∧ b7 ≠ b8 ∧ b7 ≠ b9 ∧ b8 ≠ b9
/-- All but the results' blocks is kept. -/
def K4 (b6 b7 b8 b9 : Nat) (g g2 : H) : Prop := ∀ c o, c ≠ b6 → c ≠ b7 → c ≠ b8 → c ≠ b9 → g c = some o → g2 c = some o
section
variable {g g' : H} {b6 b7 b8 b9 : Nat} {pl : List Value} {co er : Int} {sv : Value}
theorem P4.ext (P : P4 g b6 b7 b8 b9 pl co sv er) (x : Ext g g') : P4 g' b6 b7 b8 b9 pl co sv er := ⟨P.l, P.k6.ext x, P.k7.ext x, P.k8.ext x, P.k9.ext x, P.ne⟩
theorem Ext.k4 (x : Ext g g') : K4 b6 b7 b8 b9 g g' := fun c o _ _ _ _ h => x c o h
theorem K4.trans {g2 g3 : H} (a : K4 b6 b7 b8 b9 g g2) (b : K4 b6 b7 b8 b9 g2 g3) : K4 b6 b7 b8 b9 g g3 := fun c o h1 h2 h3 h4 h => b c o h1 h2 h3 h4 (a c o h1 h2 h3 h4 h)
theorem P4.s6 {pl' : List Value} {K : H → Prop} (P : P4 g b6 b7 b8 b9 pl co sv er) (hl : pl'.length = 3) (o1 : ∀ v ∈ pl', v.oneCell' = true) (k : ∀ g1, K4 b6 b7 b8 b9 g g1 → P4 g1 b6 b7 b8 b9 pl' co sv er → K g1) : stN g (bk b6) pl' 3 K :=
  P.k6.stN hl P.l o1 fun g1 kp B => k g1 (fun c o h1 _ _ _ h => kp c o h1 h) ⟨hl, B, P.k7.kp kp P.ne.1.symm, P.k8.kp kp P.ne.2.1.symm, P.k9.kp kp P.ne.2.2.1.symm, P.ne⟩
theorem P4.s7 {co' : Int} {K : H → Prop} (P : P4 g b6 b7 b8 b9 pl co sv er) (k : ∀ g1, K4 b6 b7 b8 b9 g g1 → P4 g1 b6 b7 b8 b9 pl co' sv er → K g1) : stC g (bk b7) (.int .i64 co') K := by
  have := P.k7.stC (i := 0) (x := .int .i64 co') (K := K) (by simp) fun g1 kp B => k g1 (fun c o _ h1 _ _ h => kp c o h1 h) ⟨P.l, P.k6.kp kp P.ne.1, B, P.k8.kp kp P.ne.2.2.2.1.symm, P.k9.kp kp P.ne.2.2.2.2.1.symm, P.ne⟩
  rwa [add_zero'] at this
theorem P4.s8 {sv' : Value} {K : H → Prop} (P : P4 g b6 b7 b8 b9 pl co sv er) (k : ∀ g1, K4 b6 b7 b8 b9 g g1 → P4 g1 b6 b7 b8 b9 pl co sv' er → K g1) : stC g (bk b8) sv' K := by
  have := P.k8.stC (i := 0) (x := sv') (K := K) (by simp) fun g1 kp B => k g1 (fun c o _ _ h1 _ h => kp c o h1 h) ⟨P.l, P.k6.kp kp P.ne.2.1, P.k7.kp kp P.ne.2.2.2.1, B, P.k9.kp kp P.ne.2.2.2.2.2.symm, P.ne⟩
  rwa [add_zero'] at this
theorem P4.s9 {er' : Int} {K : H → Prop} (P : P4 g b6 b7 b8 b9 pl co sv er) (k : ∀ g1, K4 b6 b7 b8 b9 g g1 → P4 g1 b6 b7 b8 b9 pl co sv er' → K g1) : stC g (bk b9) (.int .i64 er') K := by
  have := P.k9.stC (i := 0) (x := .int .i64 er') (K := K) (by simp) fun g1 kp B => k g1 (fun c o _ _ _ h1 h => kp c o h1 h) ⟨P.l, P.k6.kp kp P.ne.2.2.1, P.k7.kp kp P.ne.2.2.2.2.1, P.k8.kp kp P.ne.2.2.2.2.2, B, P.ne⟩
  rwa [add_zero'] at this
theorem Bl.ldI0 {b : Nat} {x : Int} {K : Int → Prop} (B : Bl g b [.int .i64 x]) (k : K x) : ldI g (bk b) .i64 K := ⟨x, by have := B.ld (i := 0) rfl; rwa [add_zero'] at this, k⟩
theorem Bl.ldV0 {b : Nat} {x : Value} {K : Value → Prop} (B : Bl g b [x]) (k : K x) : ldV g (bk b) K := ⟨x, by have := B.ld (i := 0) rfl; rwa [add_zero'] at this, k⟩
/-- The results are read. -/
theorem P4.read {K : List Value → Int → Value → Int → Prop} (P : P4 g b6 b7 b8 b9 pl co sv er) (k : K pl co sv er) : ldN g (bk b6) 3 fun x1 => ldI g (bk b7) .i64 fun x2 => ldV g (bk b8) fun x3 => ldI g (bk b9) .i64 fun x4 => K x1 x2 x3 x4 :=
  P.k6.ldN P.l (P.k7.ldI0 (P.k8.ldV0 (P.k9.ldI0 k)))
end
abbrev plZ : List Value := [.slice none 0 0, .slice none 0 0, .slice none 0 0]
theorem plZ_one : ∀ v ∈ plZ, v.oneCell' = true := by simp [Value.oneCell']

/-- The closure, called while u is under way. -/
theorem f27_D {h : H} {w : World} {b6 b7 b8 b9 : Nat} {pl pl' : List Value} {co co' er er' : Int} {sv sv' : Value} {u u' : FrameMode} {v : Value} (hP : P4 h b6 b7 b8 b9 pl co sv er) (hs : Sub h w)
    (hrec : ∀ (c₀ : Frame) (cs : List Frame), c₀.mode = u → recoverD (c₀ :: cs) = some (v, { c₀ with mode := u' } :: cs) ∨ (recoverD (c₀ :: cs) = none ∧ v = .nilIface ∧ u' = u))
    (hv : (v = gvL sv' ∧ (∃ a l c, sv' = .slice a l c) ∧ pl' = plZ ∧ co' = 0 ∧ er' = 5) ∨ (v = .nilIface ∧ pl' = pl ∧ co' = co ∧ sv' = sv ∧ er' = er)) :
    CallsD Try.prog 27 #[.pointer (some (bk b6)), .pointer (some (bk b7)), .pointer (some (bk b8)), .pointer (some (bk b9))] u w fun e q w' => e = .returned (.tuple ⟨[]⟩) ∧ q = u' ∧ ∃ h', Sub h' w' ∧ Stp h w h' w' ∧ K4 b6 b7 b8 b9 h h' ∧ P4 h' b6 b7 b8 b9 pl' co' sv' er' := by
  refine callsD_of_wpS Try.func27 (c := bodyOf Try.f27) (by kernel_rfl) fun c₀ cs hu => ?_
  have hr := hrec c₀ cs hu
  obtain ⟨cs', hcs, hrec'⟩ : ∃ cs', cs' = { c₀ with mode := u' } :: cs ∧ (recoverD (c₀ :: cs) = some (v, cs') ∨ (recoverD (c₀ :: cs) = none ∧ v = .nilIface ∧ cs' = c₀ :: cs)) := by
    rcases hr with h | ⟨h1, h2, h3⟩
    · exact ⟨_, rfl, .inl h⟩
    · refine ⟨_, rfl, .inr ⟨h1, h2, ?_⟩⟩
      subst h3; subst hu; rfl
  rw [f27_seq]
  refine wpS_seq ?_
  refine wpS_region_recover (o := opAt (firstOps (bodyOf Try.f27)) 0) (rest := [1, 2, 3, 4, 5, 6, 7]) (v := v) (cs' := cs') (by kernel_rfl) (by kernel_rfl) (by kernel_rfl) (by kernel_rfl) hrec' ?_
  let ar : Array Value := #[.pointer (some (bk b6)), .pointer (some (bk b7)), .pointer (some (bk b8)), .pointer (some (bk b9))]
  let a1 : Act := Act.put { tmps := ar ++ Array.replicate (Try.f27.ntmps - ar.size) undef, defers := [] } (some 7) v
  have ea : Act.put { tmps := ar ++ Array.replicate (Try.f27.ntmps - ar.size) undef, defers := [] } (opAt (firstOps (bodyOf Try.f27)) 0).dst v = a1 := by kernel_rfl
  show wpOps _ _ _ _ (Act.put { tmps := ar ++ Array.replicate (Try.f27.ntmps - ar.size) undef, defers := [] } (opAt (firstOps (bodyOf Try.f27)) 0).dst v) w
  rw [ea]
  have h7 : a1.tmps[7]? = some v := by kernel_rfl
  have h0 : a1.tmps[0]? = some (.pointer (some (bk b6))) := by kernel_rfl
  have h1 : a1.tmps[1]? = some (.pointer (some (bk b7))) := by kernel_rfl
  have h2 : a1.tmps[2]? = some (.pointer (some (bk b8))) := by kernel_rfl
  have h3 : a1.tmps[3]? = some (.pointer (some (bk b9))) := by kernel_rfl
  have rel : Rel 15 [] h w (List.range 15) a1 [(7, v), (0, .pointer (some (bk b6))), (1, .pointer (some (bk b7))), (2, .pointer (some (bk b8))), (3, .pointer (some (bk b9)))] h a1 w :=
    ⟨((((((FrOK.nil a1).cons h3).cons h2).cons h1).cons h0).cons h7), hs, Stp.refl h w, by kernel_rfl, by kernel_rfl, fun _ _ => rfl⟩
  obtain ⟨bl, z, hrpt, hz⟩ : ∃ (bl : Bool) (z : Value), (rpt Try.prog (firstOps (bodyOf Try.f27)).toList (fun _ => []) [] [1, 2, 3, 4, 5, 6, 7] [(7, v), (0, .pointer (some (bk b6))), (1, .pointer (some (bk b7))), (2, .pointer (some (bk b8))), (3, .pointer (some (bk b9)))] h
      (fun f g => ∃ b1 v8 v9, Fr.le [(5, .bool bl), (4, .pointer (some (bk b1))), (10, .bool bl), (9, v9), (6, v8), (8, v8), (7, v), (0, .pointer (some (bk b6))), (1, .pointer (some (bk b7))), (2, .pointer (some (bk b8))), (3, .pointer (some (bk b9)))] f ∧ Ext h g ∧ h b1 = none ∧ Bl g b1 [z]) (fun _ _ => False)) ∧
      ((bl = true ∧ z = sv' ∧ (∃ a l c, sv' = .slice a l c) ∧ pl' = plZ ∧ co' = 0 ∧ er' = 5) ∨ (bl = false ∧ pl' = pl ∧ co' = co ∧ sv' = sv ∧ er' = er)) := by
    rcases hv with ⟨rfl, hsl, e⟩ | ⟨rfl, e⟩
    · refine ⟨true, sv', E27 ⟨_, fun w _ => ta_lack sv' w, ?_⟩, .inl ⟨rfl, rfl, hsl, e⟩⟩
      refine new_bl_st rfl rfl (by obtain ⟨_, _, _, rfl⟩ := hsl; simp [Value.oneCell']) ?_
      intro b1 g hb1 x1 B1_
      exact ⟨b1, _, _, Fr.le.refl _, x1, hb1, B1_⟩
    · refine ⟨false, .slice none 0 0, E27 ⟨_, fun w _ => ta_lack0 w, ?_⟩, .inr ⟨rfl, e⟩⟩
      refine new_bl_st rfl rfl (by simp [Value.oneCell']) ?_
      intro b1 g hb1 x1 B1_
      exact ⟨b1, _, _, Fr.le.refl _, x1, hb1, B1_⟩
  have hasr : ∀ d, d < 15 → has d (List.range 15) = true := fun d hd => has_iff.2 (List.mem_range.2 hd)
  have hds : dstsOK 15 (firstOps (bodyOf Try.f27)).toList = true := by kernel_rfl
  refine list_sound (n := 15) (ds := []) (h0 := h) (w0 := w) (W := List.range 15) (a0 := a1) ?_ (fun o ho d hd => ⟨dstsOK_spec hds o ho d hd, hasr d (dstsOK_spec hds o ho d hd)⟩) (fun _ _ _ _ h _ => h.elim) ?_ _ _ _ _ _ _ hrpt rel
  · rintro f f' h _ hl ⟨b1, v5, v6, h1, h2, h3, h4⟩
    exact ⟨b1, v5, v6, h1.trans hl, h2, h3, h4⟩
  rintro f g a2 w2 ⟨b1, v8, v9, hle, x2, hnone, Bz⟩ rel2
  show (restOf (bodyOf Try.f27)).wpS Try.prog _ a2 cs' w2
  refine wpS_of_wp ?_
  have rel2 := rel2.le hle
  have P2 := hP.ext x2
  have ne6 : b1 ≠ b6 := (hP.k6.ne hnone).symm
  have ne7 : b1 ≠ b7 := (hP.k7.ne hnone).symm
  have ne8 : b1 ≠ b8 := (hP.k8.ne hnone).symm
  have ne9 : b1 ≠ b9 := (hP.k9.ne hnone).symm
  refine cpt_sound (n := 15) _ _ g _ (ESolveC (N := fun g3 => K4 b6 b7 b8 b9 h g3 ∧ P4 g3 b6 b7 b8 b9 pl' co' sv' er') ?_) [] h w (List.range 15) a1 a2 w2 _ (fun t ht => hasr t ?_) rel2 ?_
  · refine ifP_of (fun hb => ?_) (fun hb => ?_)
    · rcases hz with ⟨_, rfl, hsl, rfl, rfl, rfl⟩ | ⟨h, _⟩
      · refine ⟨_, by have := Bz.ld (i := 0) rfl; exact this, ?_⟩
        have keepB : ∀ {g1 g2 : H}, Bl g1 b1 [z] → K4 b6 b7 b8 b9 g1 g2 → Bl g2 b1 [z] := fun B k => by
          obtain ⟨e, hb⟩ := B
          exact ⟨e, k _ _ ne6 ne7 ne8 ne9 hb⟩
        refine P2.s6 rfl plZ_one fun g1 q1 P3 => ?_
        have Bz1 := keepB Bz q1
        refine ⟨sameAt_bl Bz Bz1, P3.s7 fun g2 q2 P3 => ?_⟩
        have Bz2 := keepB Bz1 q2
        refine ⟨sameAt_bl Bz1 Bz2, oneP_slc hsl (P3.s8 fun g3 q3 P3 => P3.s9 fun g4 q4 P3 => ?_)⟩
        exact ⟨(((x2.k4.trans q1).trans q2).trans q3).trans q4, P3⟩
      · rw [h] at hb; cases hb
    · rcases hz with ⟨h, _⟩ | ⟨_, rfl, rfl, rfl, rfl⟩
      · rw [h] at hb; cases hb
      · exact ⟨x2.k4, P2⟩
  · have : ((writesOf (restOf (bodyOf Try.f27))).all fun t => Nat.blt t 15) = true := by kernel_rfl
    have := List.all_eq_true.1 this t ht
    simpa [Nat.blt_eq] using this
  · rintro e fr g3 a3 w3 hq rel3
    cases e with
    | normal =>
      obtain ⟨k4, P5⟩ := hq
      exact ⟨rel3.defers, u', by rw [hcs], .tuple #[], results_none rfl _ _ _, rfl, rfl, g3, rel3.sub, rel3.same, k4, P5⟩
    | ret =>
      obtain ⟨k4, P5⟩ := hq
      exact ⟨rel3.defers, u', by rw [hcs], .tuple #[], results_none rfl _ _ _, rfl, rfl, g3, rel3.sub, rel3.same, k4, P5⟩
    | exit i => exact hq.elim
    | panic v => exact hq.elim

end Go.Proofs.Ytkdnnfpmppmmcaa

namespace Go.Proofs.Ytkdnnfpmppmmcaa
open Go
set_option linter.unusedVariables false
set_option linter.unusedSimpArgs false
set_option maxRecDepth 100000

def SolveN (R : Res → H → Prop) (b6 b7 b8 b9 : Nat) (g1 : H) : Prop :=
  ∃ pl co sv er, P4 g1 b6 b7 b8 b9 pl co sv er ∧ ∀ g2, K4 b6 b7 b8 b9 g1 g2 → P4 g2 b6 b7 b8 b9 pl co sv er → R (.ret (.tuple ⟨[.agg ⟨pl⟩, .int .i64 co, sv, .int .i64 er]⟩)) g2
def SolveX (R : Res → H → Prop) (b6 b7 b8 b9 : Nat) (v : Value) (g1 : H) : Prop :=
  ∃ pl co sv er sd, v = gvL sd ∧ (∃ a l c, sd = .slice a l c) ∧ P4 g1 b6 b7 b8 b9 pl co sv er ∧ ∀ g2, K4 b6 b7 b8 b9 g1 g2 → P4 g2 b6 b7 b8 b9 plZ 0 sd 5 → R (.ret (.tuple ⟨[.agg ⟨plZ⟩, .int .i64 0, sd, .int .i64 5]⟩)) g2
def SolveM (p1 : Value) (R : Res → H → Prop) (vs : List Value) (g : H) : Prop :=
  ∃ (b3 b6 b7 b8 b9 : Nat) (v12 v13 : Value), vs = [p1, .pointer (some (bk b3)), .pointer (some (bk b6)), .pointer (some (bk b7)), .pointer (some (bk b8)), .pointer (some (bk b9)), v12, v13] ∧
    BSolveB p1 b3 b6 b7 b8 b9 v12 v13 (SolveN R b6 b7 b8 b9) (SolveX R b6 b7 b8 b9) g

theorem Solve_of {p0 : List Value} {p1 : Value} {p2 : Int} {h : H} {R : Res → H → Prop} (HA : BSolveA p0 p1 p2 (SolveM p1 R) R h) : T Try.prog F.mincost_Solve [.agg ⟨p0⟩, p1, .int .i64 p2] h R := by
  refine ⟨⟨Try.f11, Try.func11, by kernel_rfl, by kernel_rfl⟩, fun w hw => ?_⟩
  refine calls_of_wp_defers Try.func11 (c := cSolve) (by kernel_rfl) ?_
  rw [cSolve_eq]
  have hasr : ∀ d, d < 101 → has d (List.range 101) = true := fun d hd => has_iff.2 (List.mem_range.2 hd)
  let ar : Array Value := #[.agg ⟨p0⟩, p1, .int .i64 p2]
  obtain ⟨a0, ha0⟩ : ∃ a0 : Act, a0 = { tmps := ar ++ Array.replicate (Try.f11.ntmps - ar.size) undef, defers := [] } := ⟨_, rfl⟩
  have t0 : a0.tmps[0]? = some (.agg ⟨p0⟩) := by rw [ha0]; kernel_rfl
  have t1 : a0.tmps[1]? = some p1 := by rw [ha0]; kernel_rfl
  have t2 : a0.tmps[2]? = some (.int .i64 p2) := by rw [ha0]; kernel_rfl
  have hsz : a0.tmps.size = 101 := by rw [ha0]; kernel_rfl
  have hdf : a0.defers = [] := by rw [ha0]
  have goalA : (appC lSolve (.seq xSolve (.seq (.region 17 (firstOps (.seq dSolve .skip)) false) ySolve))).wp Try.prog
      (bodyPostD Try.prog Try.f11 fun e w' => ∃ h', Sub h' w' ∧ Stp h w h' w' ∧ match e with
        | .returned v => R (.ret v) h'
        | .panicked [⟨v, false, false⟩] => R (.pan v) h'
        | _ => False) a0 w := by
    refine appC_sound (n := 101) (A := A_SolveA) (fun _ => rfl) (ds := []) (h0 := h) (w0 := w) (W := List.range 101) (a0 := a0) (Q0 := _) ?_ lSolve [(0, .agg ⟨p0⟩), (1, p1), (2, .int .i64 p2)] h a0 w (ESolveA HA) (fun t ht => hasr t ?_) ⟨((((FrOK.nil a0).cons t2).cons t1).cons t0), hw, Stp.refl h w, hsz, hdf, fun _ _ => rfl⟩
    rotate_left
    · have : ((writesOf (appC lSolve xSolve)).all fun t => Nat.blt t 101) = true := by kernel_rfl
      have := List.all_eq_true.1 this t ht
      simpa [Nat.blt_eq] using this
    intro e fr g a1 w1 hq rel1
    cases e with
    | exit i => exact hq.elim
    | panic v =>
      show Leaves _ _ _ _ a1.defers (.panicking [⟨v, false, false⟩]) w1
      rw [rel1.defers]
      exact ⟨g, rel1.sub, rel1.same, hq⟩
    | ret =>
      show Leaves _ _ _ _ a1.defers .returning w1
      rw [rel1.defers]
      obtain ⟨v, hv, hr⟩ := resP_run (fn := Try.f11) rel1.fr hq
      exact ⟨_, hr w1 rel1.sub, g, rel1.sub, rel1.same, hv⟩
    | normal =>
      show (Code.seq (.region 17 (firstOps (.seq dSolve .skip)) false) ySolve).wp Try.prog _ a1 w1
      obtain ⟨v1, g1, hq⟩ := on_some hq
      obtain ⟨v3, g3, hq⟩ := on_some hq
      obtain ⟨v6, g6, hq⟩ := on_some hq
      obtain ⟨v7, g7, hq⟩ := on_some hq
      obtain ⟨v8, g8, hq⟩ := on_some hq
      obtain ⟨v9, g9, hq⟩ := on_some hq
      obtain ⟨v12, g12, hq⟩ := on_some hq
      obtain ⟨v13, g13, hq⟩ := on_some hq
      obtain ⟨b3, b6, b7, b8, b9, u12, u13, hvs, HB⟩ := hq
      simp only [List.cons.injEq, and_true] at hvs
      obtain ⟨rfl, rfl, rfl, rfl, rfl, rfl, rfl, rfl⟩ := hvs
      have f1 := rel1.fr _ _ g1
      have f3 := rel1.fr _ _ g3
      have f6 := rel1.fr _ _ g6
      have f7 := rel1.fr _ _ g7
      have f8 := rel1.fr _ _ g8
      have f9 := rel1.fr _ _ g9
      have f12 := rel1.fr _ _ g12
      have f13 := rel1.fr _ _ g13
      have frA : FrOK [(1, v1), (3, .pointer (some (bk b3))), (6, .pointer (some (bk b6))), (7, .pointer (some (bk b7))), (8, .pointer (some (bk b8))), (9, .pointer (some (bk b9))), (12, v12), (13, v13)] a1 :=
        (((((((((FrOK.nil a1).cons f13).cons f12).cons f9).cons f8).cons f7).cons f6).cons f3).cons f1)
      refine wp_seq (wp_region ?_)
      have hr : List.range (firstOps (.seq dSolve .skip)).size = [0, 1] := by kernel_rfl
      rw [hr]
      refine wp_first (o := opAt (firstOps (.seq dSolve .skip)) 0) (by kernel_rfl) (by kernel_rfl) ?_
      let fv : Value := .func (.func 27) #[] #[.pointer (some (bk b6)), .pointer (some (bk b7)), .pointer (some (bk b8)), .pointer (some (bk b9))]
      have ho : opt Try.prog (opAt (firstOps (.seq dSolve .skip)) 0) [(1, v1), (3, .pointer (some (bk b3))), (6, .pointer (some (bk b6))), (7, .pointer (some (bk b7))), (8, .pointer (some (bk b8))), (9, .pointer (some (bk b9))), (12, v12), (13, v13)] g
          (fun v g' => v = fv ∧ g' = g) (fun _ _ => False) :=
        cast_of (A := opt Try.prog (opAt (firstOps (.seq dSolve .skip)) 0) [(1, v1), (3, .pointer (some (bk b3))), (6, .pointer (some (bk b6))), (7, .pointer (some (bk b7))), (8, .pointer (some (bk b8))), (9, .pointer (some (bk b9))), (12, v12), (13, v13)] g
          (fun v g' => v = fv ∧ g' = g) (fun _ _ => False))
          (B := (Value.func (.func 27) ⟨[]⟩ ⟨[.pointer (some (bk b6)), .pointer (some (bk b7)), .pointer (some (bk b8)), .pointer (some (bk b9))]⟩ = fv ∧ g = g)) (by kernel_rfl) ⟨rfl, rfl⟩
      refine opt_sound ho frA rel1.sub ?_ (fun _ _ _ h => h.elim)
      rintro vx _ w2 ⟨rfl, rfl⟩ hs2 hst2
      generalize ha2 : a1.put (opAt (firstOps (.seq dSolve .skip)) 0).dst fv = a2
      have hd3 : (opAt (firstOps (.seq dSolve .skip)) 0).dst = some 52 := by kernel_rfl
      have fr2 : FrOK [(52, fv), (1, v1), (3, .pointer (some (bk b3))), (6, .pointer (some (bk b6))), (7, .pointer (some (bk b7))), (8, .pointer (some (bk b8))), (9, .pointer (some (bk b9))), (12, v12), (13, v13)] a2 := by
        rw [← ha2, hd3]
        exact frA.put (d := some 52) (fun t ht => by cases ht; rw [rel1.size]; omega) _
      have sz2 : a2.tmps.size = 101 := by rw [← ha2, size_put, rel1.size]
      have df2 : a2.defers = [] := by rw [← ha2, defers_put, rel1.defers]
      refine wp_first (o := opAt (firstOps (.seq dSolve .skip)) 1) (by kernel_rfl) (by kernel_rfl) ?_
      have h52 : a2.eval (.tmp 52) = fv := by
        have := fr2 52 _ rfl
        simp [Act.eval, this]
      let df : Deferred := { target := .fn (.func 27) #[.pointer (some (bk b6)), .pointer (some (bk b7)), .pointer (some (bk b8)), .pointer (some (bk b9))], args := #[] }
      have hrun : (execOp a2.eval (opAt (firstOps (.seq dSolve .skip)) 1)).run Try.prog w2 = .ok (.defer df) w2 := by
        have hop : (opAt (firstOps (.seq dSolve .skip)) 1).op = .defer { callee := .value (.tmp 52), args := #[], argTypes := #[] } := by kernel_rfl
        simp [execOp, hop, resolve, Deferred.ofValue, h52, fv, df]
      unfold Oper.wp
      rw [hrun, Oper.upon_defer]
      have hd1 : (opAt (firstOps (.seq dSolve .skip)) 1).dst = none := by kernel_rfl
      rw [hd1]
      generalize ha3 : (Act.put { a2 with defers := df :: a2.defers } none undef) = a3
      have tm3 : a3.tmps = a2.tmps := by rw [← ha3]; rfl
      have df3 : a3.defers = [df] := by rw [← ha3, defers_put, df2]
      have fr3 : FrOK [(52, fv), (1, v1), (3, .pointer (some (bk b3))), (6, .pointer (some (bk b6))), (7, .pointer (some (bk b7))), (8, .pointer (some (bk b8))), (9, .pointer (some (bk b9))), (12, v12), (13, v13)] a3 := fun t v hv => by rw [tm3]; exact fr2 t v hv
      show ySolve.wp Try.prog _ a3 w2
      refine cpt_sound (n := 101) _ _ _ _ (ESolveB HB) [df] h w (writesOf ySolve) a3 a3 w2 _ (fun t ht => has_iff.2 ht)
        ⟨fr3, hs2, rel1.same.trans hst2, by rw [tm3]; exact sz2, df3, fun _ _ => rfl⟩ ?_
      intro e fr' g' a4 w4 hq rel4
      have c6 : a4.tmps[6]? = some (.pointer (some (bk b6))) := by rw [rel4.keep 6 (by kernel_rfl)]; exact fr3 6 _ rfl
      have c7 : a4.tmps[7]? = some (.pointer (some (bk b7))) := by rw [rel4.keep 7 (by kernel_rfl)]; exact fr3 7 _ rfl
      have c8 : a4.tmps[8]? = some (.pointer (some (bk b8))) := by rw [rel4.keep 8 (by kernel_rfl)]; exact fr3 8 _ rfl
      have c9 : a4.tmps[9]? = some (.pointer (some (bk b9))) := by rw [rel4.keep 9 (by kernel_rfl)]; exact fr3 9 _ rfl
      have fin : ∀ (h5 : H) (w5 : World) (pl : List Value) (co : Int) (sv : Value) (er : Int), Sub h5 w5 → Stp g' w4 h5 w5 → P4 h5 b6 b7 b8 b9 pl co sv er → R (.ret (.tuple ⟨[.agg ⟨pl⟩, .int .i64 co, sv, .int .i64 er]⟩)) h5 →
          Leaves Try.prog Try.f11 a4.tmps (fun e w' => ∃ h', Sub h' w' ∧ Stp h w h' w' ∧ match e with
            | .returned v => R (.ret v) h'
            | .panicked [⟨v, false, false⟩] => R (.pan v) h'
            | _ => False) [] .returning w5 := by
        intro h5 w5 pl co sv er s5 st5 P5 hR
        have hres : resP Try.prog [(6, .pointer (some (bk b6))), (7, .pointer (some (bk b7))), (8, .pointer (some (bk b8))), (9, .pointer (some (bk b9)))] h5 Try.f11.results.toList (fun v => v = .tuple ⟨[.agg ⟨pl⟩, .int .i64 co, sv, .int .i64 er]⟩) :=
          cast_of (A := resP Try.prog [(6, .pointer (some (bk b6))), (7, .pointer (some (bk b7))), (8, .pointer (some (bk b8))), (9, .pointer (some (bk b9)))] h5 Try.f11.results.toList (fun v => v = .tuple ⟨[.agg ⟨pl⟩, .int .i64 co, sv, .int .i64 er]⟩))
            (B := ldN h5 (bk b6) 3 fun x1 => ldI h5 (bk b7) .i64 fun x2 => ldV h5 (bk b8) fun x3 => ldI h5 (bk b9) .i64 fun x4 => Value.tuple ⟨[.agg ⟨x1⟩, .int .i64 x2, x3, .int .i64 x4]⟩ = .tuple ⟨[.agg ⟨pl⟩, .int .i64 co, sv, .int .i64 er]⟩) (by kernel_rfl) (P5.read rfl)
        obtain ⟨v, rfl, hr⟩ := resP_run (fn := Try.f11) (a := a4) (((((FrOK.nil a4).cons c9).cons c8).cons c7).cons c6) hres
        exact ⟨_, hr w5 s5, h5, s5, rel4.same.trans st5, hR⟩
      have okR : SolveN R b6 b7 b8 b9 g' → Leaves Try.prog Try.f11 a4.tmps (fun e w' => ∃ h', Sub h' w' ∧ Stp h w h' w' ∧ match e with
            | .returned v => R (.ret v) h'
            | .panicked [⟨v, false, false⟩] => R (.pan v) h'
            | _ => False) a4.defers .returning w4 := by
        rintro ⟨pl, co, sv, er, P, hR⟩
        rw [rel4.defers]
        refine leaves_cons (f := 27) (args := #[.pointer (some (bk b6)), .pointer (some (bk b7)), .pointer (some (bk b8)), .pointer (some (bk b9))]) (by simp) (by kernel_rfl) ?_
        refine (f27_D (u := .returning) (u' := .returning) (v := .nilIface) P rel4.sub (fun c₀ cs hu => .inr ⟨by simp [recoverD, hu], rfl, rfl⟩) (.inr ⟨rfl, rfl, rfl, rfl, rfl⟩)).mono ?_
        rintro e q w5 ⟨rfl, rfl, h5, s5, st5, k5, P5⟩
        exact fin h5 w5 pl co sv er s5 st5 P5 (hR h5 k5 P5)
      cases e with
      | exit i => exact hq.elim
      | normal => exact okR hq
      | ret => exact okR hq
      | panic v =>
        show Leaves _ _ _ _ a4.defers (.panicking [⟨v, false, false⟩]) w4
        rw [rel4.defers]
        obtain ⟨pl, co, sv, er, sd, rfl, hsl, P, hR⟩ := hq
        refine leaves_cons (f := 27) (args := #[.pointer (some (bk b6)), .pointer (some (bk b7)), .pointer (some (bk b8)), .pointer (some (bk b9))]) (by simp) (by kernel_rfl) ?_
        refine (f27_D (u := .panicking [⟨gvL sd, false, false⟩]) (u' := .panicking [⟨gvL sd, true, false⟩]) (v := gvL sd) P rel4.sub (fun c₀ cs hu => .inl (by simp [recoverD, hu])) (.inl ⟨rfl, hsl, rfl, rfl, rfl⟩)).mono ?_
        rintro e q w5 ⟨rfl, rfl, h5, s5, st5, k5, P5⟩
        have hset : settle (.panicking [⟨gvL sd, true, false⟩]) = .returning := by simp [settle]
        show Leaves _ _ _ _ [] (settle (.panicking [⟨gvL sd, true, false⟩])) w5
        rw [hset]
        exact fin h5 w5 plZ 0 sd 5 s5 st5 P5 (hR h5 k5 P5)
  rw [ha0] at goalA
  exact goalA

end Go.Proofs.Ytkdnnfpmppmmcaa

namespace Go.Proofs.Ytkdnnfpmppmmcaa
open Go
set_option linter.unusedVariables false
set_option linter.unusedSimpArgs false

instance {n : Int} {l : Nat} {bf : Nat → Int} : Decidable (supOK n l bf) := by unfold supOK; infer_instance
/-- The error's number of a task. -/
def wrong14 (n : Int) (m : Nat) (es : Nat → Ed) (l : Nat) (bf : Nat → Int) (k : Int) : Int :=
  if (faultG n m es).1 = 0 then (if supOK n l bf then (if 1 ≤ k ∧ k ≤ 3 then 0 else 50) else 130) else (faultG n m es).1
/-- A plan as Go holds it. -/
abbrev plV (sup on pot : Value) : List Value := [sup, on, pot]
/-- What Solve answers where nothing is wrong. -/
structure PlanR (own : Own) (h' : H) (n m : Nat) (es : Nat → Ed) (bf : Nat → Int) (vs von vp : Value) (f p : Nat → Int) : Prop where
  s : S1 own h' 24 vs (ints n bf)
  o : S1 own h' 23 von (ints m f)
  po : S1 own h' 7 vp (ints n p)
  pl : PlanP n m (frE es) (toE es) (cpE es) bf f
  pt : PotP m (frE es) (toE es) (cpE es) (ckE es) f p
  pb : ∀ v, v < n → -1073741824 ≤ p v ∧ p v ≤ 1073741824
def SolC (h : H) (n : Int) (m : Nat) (es : Nat → Ed) (l : Nat) (bf : Nat → Int) (k : Int) (r : Res) (h' : H) : Prop :=
  Ext h h' ∧ ((wrong14 n m es l bf k ≠ 0 ∧ r = .ret (.tuple ⟨[.agg ⟨plZ⟩, .int .i64 0, .slice none 0 0, .int .i64 (wrong14 n m es l bf k)]⟩)) ∨
    (wrong14 n m es l bf k = 0 ∧ n = l ∧ Gd l m es ∧
      ((∃ (own : Own) (vs von vp : Value) (f p : Nat → Int), r = .ret (.tuple ⟨[.agg ⟨plV vs von vp⟩, .int .i64 (totC m (ckE es) f), .slice none 0 0, .int .i64 0]⟩) ∧ Bs h own h' ∧ PlanR own h' l m es bf vs von vp f p) ∨
       (∃ (bs : Nat) (sd : Nat → Bool), r = .ret (.tuple ⟨[.agg ⟨plZ⟩, .int .i64 0, slV bs l, .int .i64 5]⟩) ∧ h bs = none ∧ Sl h' bs (slV bs l) (bools l sd) ∧
         cutC m (frE es) (toE es) (cpE es) (fun v => sd v = true) < sumN l fun v => if sd v = true then bf v else 0))))

theorem meth70 (v : Value) (w : World) : (method (Try.prog.types.size + Made.depth) 70 (.agg ⟨[v]⟩) "compass/mincost.meet").run Try.prog w = .ok (F.mincost_ways_meet, .agg ⟨[v]⟩) w := by kernel_rfl
theorem meth71 (v : Value) (w : World) : (method (Try.prog.types.size + Made.depth) 71 (.agg ⟨[v]⟩) "compass/mincost.meet").run Try.prog w = .ok (F.mincost_circles_meet, .agg ⟨[v]⟩) w := by kernel_rfl
theorem meth72 (a : Addr) (w : World) : (method (Try.prog.types.size + Made.depth) 72 (.pointer (some a)) "compass/mincost.meet").run Try.prog w = .ok (F.mincost_scaling_meet, .pointer (some a)) w := by kernel_rfl

section
variable {own own' : Own} {g g' h h' : H} {i b : Nat} {v : Value} {vs : List Value}
/-- The owners of new blocks besides those of old ones. -/
def mgO (g : H) (own own' : Own) : Own := fun c => match g c with
  | none => own' c
  | some _ => own c
theorem mgO_new {c : Nat} (h : g c = none) : mgO g own own' c = own' c := by unfold mgO; rw [h]
theorem mgO_old {c : Nat} {o : Obj} (h : g c = some o) : mgO g own own' c = own c := by unfold mgO; rw [h]
theorem Bs.mg {M : List Nat} (bs : Bs g own' g') : Fm M own g (mgO g own own') g' := ⟨fun c o e _ => bs.ext c o e, fun c o e => ⟨⟨o, bs.ext c o e⟩, mgO_old e⟩⟩
theorem Bs.new_ (bs : Bs g own' g') {c : Nat} (h : own' c ≠ 0) : g c = none := by
  cases e : g c with
  | none => rfl
  | some o => exact absurd (bs.old c o e) h
theorem S1.mg (s : S1 own' g' i v vs) (bs : Bs g own' g') (hi : i ≠ 0) : S1 (mgO g own own') g' i v vs := by
  rcases s with s | ⟨c, hc, s⟩
  · exact .inl s
  · exact .inr ⟨c, by rw [mgO_new (bs.new_ (by rw [hc]; exact hi))]; exact hc, s⟩
theorem B1.mg (s : B1 own' g' i b vs) (bs : Bs g own' g') (hi : i ≠ 0) : B1 (mgO g own own') g' i b vs := ⟨by
  obtain ⟨hc, _⟩ := s
  rw [mgO_new (bs.new_ (by rw [hc]; exact hi))]; exact hc, s.bl⟩
theorem MN.mg {bn n m : Nat} {fr to : Nat → Nat} {room cost ex pot : Nat → Int} (N : MN own' g' bn n m fr to room cost ex pot) (bs : Bs g own' g') : MN (mgO g own own') g' bn n m fr to room cost ex pot := by
  obtain ⟨vf, vt, vr, vc, vo, vx, vp, outs, k8, k1, k2, k3, k4, k5, k6, k7, ko⟩ := N.q
  exact ⟨vf, vt, vr, vc, vo, vx, vp, outs, k8.mg bs (by omega), k1.mg bs (by omega), k2.mg bs (by omega), k3.mg bs (by omega), k4.mg bs (by omega), k5.mg bs (by omega), k6.mg bs (by omega), k7.mg bs (by omega), fun v hv => (ko v hv).mg bs (by omega)⟩
theorem K4.fm {b6 b7 b8 b9 : Nat} {pl pl' : List Value} {co er co' er' : Int} {sv sv' : Value} (k : K4 b6 b7 b8 b9 g g') (P : P4 g b6 b7 b8 b9 pl co sv er) (P' : P4 g' b6 b7 b8 b9 pl' co' sv' er') (h6 : own b6 = 15) (h7 : own b7 = 16) (h8 : own b8 = 17) (h9 : own b9 = 18) : Fm [15, 16, 17, 18] own g own g' := by
  refine ⟨fun c o e n => k c o ?_ ?_ ?_ ?_ e, fun c o e => ⟨?_, rfl⟩⟩
  · rintro rfl; rw [h6] at n; simp at n
  · rintro rfl; rw [h7] at n; simp at n
  · rintro rfl; rw [h8] at n; simp at n
  · rintro rfl; rw [h9] at n; simp at n
  · by_cases e6 : c = b6
    · subst e6; obtain ⟨x, hx⟩ := P'.k6; exact ⟨_, hx⟩
    · by_cases e7 : c = b7
      · subst e7; obtain ⟨x, hx⟩ := P'.k7; exact ⟨_, hx⟩
      · by_cases e8 : c = b8
        · subst e8; obtain ⟨x, hx⟩ := P'.k8; exact ⟨_, hx⟩
        · by_cases e9 : c = b9
          · subst e9; obtain ⟨x, hx⟩ := P'.k9; exact ⟨_, hx⟩
          · exact ⟨o, k c o e6 e7 e8 e9 e⟩
theorem P4.of {b6 b7 b8 b9 : Nat} {pl : List Value} {co er : Int} {sv : Value} (hl : pl.length = 3) (k6 : B1 own g 15 b6 pl) (k7 : B1 own g 16 b7 [.int .i64 co]) (k8 : B1 own g 17 b8 [sv]) (k9 : B1 own g 18 b9 [.int .i64 er]) : P4 g b6 b7 b8 b9 pl co sv er := by
  have h6 := k6.own_
  have h7 := k7.own_
  have h8 := k8.own_
  have h9 := k9.own_
  refine ⟨hl, k6.bl, k7.bl, k8.bl, k9.bl, ?_, ?_, ?_, ?_, ?_, ?_⟩ <;> (rintro rfl; omega)
end

end Go.Proofs.Ytkdnnfpmppmmcaa

namespace Go.Proofs.Ytkdnnfpmppmmcaa
open Go
set_option linter.unusedVariables false
set_option linter.unusedSimpArgs false

section
variable {h : H} {w : List Value} {n : Int} {m l : Nat} {es : Nat → Ed} {sv : Value} {bf : Nat → Int}
theorem K4.ext_ {b6 b7 b8 b9 : Nat} {g g' : H} (x : Ext h g) (n6 : h b6 = none) (n7 : h b7 = none) (n8 : h b8 = none) (n9 : h b9 = none) (k : K4 b6 b7 b8 b9 g g') : Ext h g' := fun c o e => by
  refine k c o ?_ ?_ ?_ ?_ (x c o e)
  · rintro rfl; rw [n6] at e; cases e
  · rintro rfl; rw [n7] at e; cases e
  · rintro rfl; rw [n8] at e; cases e
  · rintro rfl; rw [n9] at e; cases e
/-- Behind the defer. -/
theorem SolveB_T {bn b1 b6 b7 b8 b9 : Nat} {v13 : Value} {ow : Own} {g : H} {k : Int} {f1 : FuncId} {rv : Value} {room pot : Nat → Int} (G : GrA h w l m es) (Z : RS h sv (ints l bf)) (gd : Gd l m es) (hw : wrong14 l m es l bf k = 0)
    (bs : Bs h ow g) (k14 : B1 ow g 14 b1 w) (k15 : B1 ow g 15 b6 plZ) (k16 : B1 ow g 16 b7 [.int .i64 0]) (k17 : B1 ow g 17 b8 [.slice none 0 0]) (k18 : B1 ow g 18 b9 [.int .i64 0]) (E : EvP l m (frE es) (toE es) (cpE es) bf)
    (hmeth : ∀ K : FuncId → Value → Prop, K f1 rv → methP Try.prog g v13 "compass/mincost.meet" K)
    (hT : T Try.prog f1 [rv] g (MeetA [3, 6, 7, 8, 10, 13, 20, 21, 22] ow g bn l m (frE es) (toE es) (cpE es) bf (cA (ckE es)))) (hM : ∃ room ex pot, MS ow g bn l m (frE es) (toE es) (cpE es) bf (cA (ckE es)) room ex pot) :
    BSolveB sv b1 b6 b7 b8 b9 (.pointer (some (bk bn))) v13 (SolveN (SolC h l m es l bf k) b6 b7 b8 b9) (SolveX (SolC h l m es l bf k) b6 b7 b8 b9) g := by
  have hm1 := E.m1
  have hn1 := E.n1
  have n6 : h b6 = none := bs.new_ (by rw [k15.own_]; omega)
  have n7 : h b7 = none := bs.new_ (by rw [k16.own_]; omega)
  have n8 : h b8 = none := bs.new_ (by rw [k17.own_]; omega)
  have n9 : h b9 = none := bs.new_ (by rw [k18.own_]; omega)
  unfold BSolveB
  refine hmeth _ (hT.mono ?_)
  rintro r g1 ⟨ow1, F1, hr⟩
  have bs0 := bs
  have k15g := k15
  have k16g := k16
  have k17g := k17
  have k18g := k18
  have bs := bs.fm F1 (by simp <;> omega)
  have k14 := k14.fm F1 (by simp <;> omega)
  have k15 := k15.fm F1 (by simp <;> omega)
  have k16 := k16.fm F1 (by simp <;> omega)
  have k17 := k17.fm F1 (by simp <;> omega)
  have k18 := k18.fm F1 (by simp <;> omega)
  rcases hr with ⟨rfl, room', ex', pot', S, ex0, red, pb⟩ | ⟨bsd, sd, rfl, hbs, sS, hlack⟩
  rotate_left
  · have P := P4.of rfl k15 k16 k17 k18
    refine ⟨_, _, _, _, slV bsd l, rfl, ⟨_, _, _, rfl⟩, P, fun g2 k4 P2 => ?_⟩
    have nb : ∀ {c : Nat} {vs : List Value}, Bl g c vs → bsd ≠ c := fun B => (B.ne hbs).symm
    obtain ⟨c, e, zs, h1, h2, h3⟩ := sS
    refine ⟨K4.ext_ bs.ext n6 n7 n8 n9 k4, .inr ⟨hw, rfl, gd, .inr ⟨bsd, sd, rfl, ?_, ⟨c, e, zs, h1, k4 _ _ (nb k15g.bl) (nb k16g.bl) (nb k17g.bl) (nb k18g.bl) h2, h3⟩, hlack⟩⟩⟩
    exact bs0.ext.new hbs
  obtain ⟨gv, rfl, Gv⟩ := G.gs
  obtain ⟨vf, vt, vr, vc, vo, vx, vp, outs, k8, k1, k2, k3, k4, k5, k6, k7, ko⟩ := S.net.q
  have rm := S.rm
  have bal := S.bal
  clear S k1 k2 k4 k5 k6 ko
  refine rt_ret ⟨rfl, ptrP_mk ⟨_, k14.ld rfl, (Gv.ext bs.ext).len fun _ _ => ⟨_, k8.ld rfl, new_put ?_⟩⟩⟩
  intro b11 g2 hb11 x11 h11
  have k24 : S1 (own1 ow1 b11 24) g2 24 (.slice (some (bk b11)) 0 0) [] := .inr ⟨b11, own1_at, 0, 2, [], rfl, h11, rfl⟩
  have bs := bs.nw (j := 24) x11 hb11
  have k14 := k14.nw (j := 24) x11 hb11
  have k15 := k15.nw (j := 24) x11 hb11
  have k16 := k16.nw (j := 24) x11 hb11
  have k17 := k17.nw (j := 24) x11 hb11
  have k18 := k18.nw (j := 24) x11 hb11
  have k3 := k3.nw (j := 24) x11 hb11
  have k7 := k7.nw (j := 24) x11 hb11
  have k8 := k8.nw (j := 24) x11 hb11
  generalize own1 ow1 b11 24 = ow2 at *
  refine k24.catR (Z.ext bs.ext) (by
    intro v hv
    unfold ints at hv
    obtain ⟨j, _, rfl⟩ := List.mem_map.1 hv
    rfl) (by omega) (by rw [ints_length]; simp; omega) ?_
  intro s7 ow3 g3 F2 k24
  rw [List.nil_append] at k24
  have k8' := k8
  have k14' := k14
  have bs := bs.fm F2 (by simp <;> omega)
  have k14 := k14.fm F2 (by simp <;> omega)
  have k15 := k15.fm F2 (by simp <;> omega)
  have k16 := k16.fm F2 (by simp <;> omega)
  have k17 := k17.fm F2 (by simp <;> omega)
  have k18 := k18.fm F2 (by simp <;> omega)
  have k3 := k3.fm F2 (by simp <;> omega)
  have k7 := k7.fm F2 (by simp <;> omega)
  have k8 := k8.fm F2 (by simp <;> omega)
  refine ⟨sameAt_b1 k8' k8, sameAt_b1 k14' k14, mk_ints 23 (by omega) (by omega) ?_⟩
  intro b15 g4 hb15 x15 S15
  have k23 := S15 ow3
  have bs := bs.nw (j := 23) x15 hb15
  have k14 := k14.nw (j := 23) x15 hb15
  have k15 := k15.nw (j := 23) x15 hb15
  have k16 := k16.nw (j := 23) x15 hb15
  have k17 := k17.nw (j := 23) x15 hb15
  have k18 := k18.nw (j := 23) x15 hb15
  have k3 := k3.nw (j := 23) x15 hb15
  have k7 := k7.nw (j := 23) x15 hb15
  have k8 := k8.nw (j := 23) x15 hb15
  have k24 := k24.nw (j := 23) x15 hb15
  generalize own1 ow3 b15 23 = ow4 at *
  clear S15 k8' k14'
  simp only [Int.toNat_natCast]
  refine oneP_slc k24.isS (oneP_slc k7.isS ?_)
  refine k15.stN rfl rfl (by
    intro v hv
    simp only [List.mem_cons, List.not_mem_nil, or_false] at hv
    rcases hv with rfl | rfl | rfl
    · exact k24.one
    · exact slc_one ⟨_, _, _, rfl⟩
    · exact k7.one) fun g5 F3 k15 => ?_
  have bs := bs.fm F3 (by simp <;> omega)
  have k14 := k14.fm F3 (by simp <;> omega)
  have k16 := k16.fm F3 (by simp <;> omega)
  have k17 := k17.fm F3 (by simp <;> omega)
  have k18 := k18.fm F3 (by simp <;> omega)
  have k3 := k3.fm F3 (by simp <;> omega)
  have k7 := k7.fm F3 (by simp <;> omega)
  have k8 := k8.fm F3 (by simp <;> omega)
  have k24 := k24.fm F3 (by simp <;> omega)
  have k23 := k23.fm F3 (by simp <;> omega)
  refine ⟨_, k14.ld rfl, (Gv.ext bs.ext).len fun _ _ => ?_⟩
  let I : (Int × Unit) → H → Nat → Prop := fun p q z => ∃ (s : Nat) (ow : Own) (fo : Nat → Int), p.1 = s ∧ s ≤ m ∧ z = m - s ∧ Bs h ow q ∧ B1 ow q 14 b1 [.int .i64 l, gv] ∧ B1 ow q 15 b6 [s7, slV b15 m, vp] ∧ B1 ow q 16 b7 [.int .i64 (totC s (ckE es) (onR room'))] ∧ B1 ow q 17 b8 [.slice none 0 0] ∧ B1 ow q 18 b9 [.int .i64 0] ∧
    S1 ow q 3 vr (ints (2 * m) room') ∧ S1 ow q 7 vp (ints l pot') ∧ B1 ow q 8 bn [vf, vt, vr, vc, vo, vx, vp] ∧ S1 ow q 24 s7 (ints l bf) ∧ S1 ow q 23 (slV b15 m) (ints m fo) ∧ ∀ j, j < s → fo j = onR room' j
  refine ⟨fun p q => ∃ k, I p q k, rk I, rk_wf I, ⟨_, 0, ow4, _, rfl, by omega, rfl, bs, k14, k15, k16, k17, k18, k3, k7, k8, k24, k23, fun j hj => by omega⟩, ?_⟩
  clear bs k14 k15 k16 k17 k18 k3 k7 k8 k24 k23
  intro p q hI
  obtain ⟨s, ow, fo, e1, hs, hz, bs, k14, k15, k16, k17, k18, k3, k7, k8, k24, k23, hfo⟩ := mu_spec hI
  generalize hkk : mu I ((p, ()), q) = km at *
  change p = (s : Int) at e1
  subst e1
  have hlt : s < m → m - (s + 1) < mu I (((s : Int), ()), q) := fun h => by rw [hkk, hz]; exact sub_dec h
  clear hI
  refine ifP_of (fun h1 => ?_) (fun h1 => ?_)
  · have hsm : s < m := by have := of_decide_eq_true h1; omega
    refine (Gv.ext bs.ext).e4 hsm (new_bl_st rfl rfl (ed_one _) ?_)
    intro b28 q2 hb28 x28 B28
    have k25 : B1 (own1 ow b28 25) q2 25 b28 (es s).vs := B1.new B28
    have bs := bs.nw (j := 25) x28 hb28
    have k14 := k14.nw (j := 25) x28 hb28
    have k15 := k15.nw (j := 25) x28 hb28
    have k16 := k16.nw (j := 25) x28 hb28
    have k17 := k17.nw (j := 25) x28 hb28
    have k18 := k18.nw (j := 25) x28 hb28
    have k3 := k3.nw (j := 25) x28 hb28
    have k7 := k7.nw (j := 25) x28 hb28
    have k8 := k8.nw (j := 25) x28 hb28
    have k24 := k24.nw (j := 25) x28 hb28
    have k23 := k23.nw (j := 25) x28 hb28
    generalize own1 ow b28 25 = ow at *
    have e1 : IntKind.i64.wrap (2 * (s : Int)) = ((2 * s : Nat) : Int) := by
      rw [show (2 * (s : Int)) = ((2 * s : Nat) : Int) by omega]; exact w64_in (by omega) (by omega)
    have e2 : IntKind.i64.wrap (((2 * s : Nat) : Int) + 1) = ((2 * s + 1 : Nat) : Int) := i64_inc (by omega)
    refine ptrP_mk ⟨_, k15.ld rfl, _, k8.ld rfl, ?_⟩
    rw [e1, e2, i64_inc (by omega)]
    refine k3.rdI (by omega) (k23.setI hsm fun q3 F4 k23 => ?_)
    have bs := bs.fm F4 (by simp <;> omega)
    have k14 := k14.fm F4 (by simp <;> omega)
    have k15 := k15.fm F4 (by simp <;> omega)
    have k16 := k16.fm F4 (by simp <;> omega)
    have k17 := k17.fm F4 (by simp <;> omega)
    have k18 := k18.fm F4 (by simp <;> omega)
    have k3 := k3.fm F4 (by simp <;> omega)
    have k7 := k7.fm F4 (by simp <;> omega)
    have k8 := k8.fm F4 (by simp <;> omega)
    have k24 := k24.fm F4 (by simp <;> omega)
    have k25 := k25.fm F4 (by simp <;> omega)
    refine k16.bl.ldI0 ⟨_, k25.ld rfl, _, k15.ld rfl, k23.rdI hsm ?_⟩
    rw [upd_at]
    have hb := totC_bd (m := s) (k := ckE es) (f := onR room') (C := 1048576) (X := 1048576) (by omega) (by omega) (fun i hi => gd.k i (by omega)) (fun i hi => rm.onb (fun i hi => (E.cp i hi).2) i (by omega))
    have hb1 := totC_bd (m := s + 1) (k := ckE es) (f := onR room') (C := 1048576) (X := 1048576) (by omega) (by omega) (fun i hi => gd.k i (by omega)) (fun i hi => rm.onb (fun i hi => (E.cp i hi).2) i (by omega))
    have et : totC (s + 1) (ckE es) (onR room') = totC s (ckE es) (onR room') + (es s).k * room' (2 * s + 1) := rfl
    rw [et] at hb1
    generalize hX : (es s).k * room' (2 * s + 1) = X at *
    have e3 : IntKind.i64.wrap X = X := w64_in (by omega) (by omega)
    have e4 : IntKind.i64.wrap (totC s (ckE es) (onR room') + X) = totC (s + 1) (ckE es) (onR room') := by rw [et]; exact w64_in (by omega) (by omega)
    rw [e3, e4]
    have st : stC q3 ((bk b7).add 0) (.int .i64 (totC (s + 1) (ckE es) (onR room'))) fun h43 => (∃ k, I (((s + 1 : Nat) : Int), ()) h43 k) ∧ rk I ((((s + 1 : Nat) : Int), ()), h43) (((s : Int), ()), q) := by
      refine k16.st (by simp) fun q4 F5 k16 => ?_
      have bs := bs.fm F5 (by simp <;> omega)
      have k14 := k14.fm F5 (by simp <;> omega)
      have k15 := k15.fm F5 (by simp <;> omega)
      have k17 := k17.fm F5 (by simp <;> omega)
      have k18 := k18.fm F5 (by simp <;> omega)
      have k3 := k3.fm F5 (by simp <;> omega)
      have k7 := k7.fm F5 (by simp <;> omega)
      have k8 := k8.fm F5 (by simp <;> omega)
      have k24 := k24.fm F5 (by simp <;> omega)
      have k23 := k23.fm F5 (by simp <;> omega)
      refine mu_next (I := I) (k := m - (s + 1)) ⟨s + 1, ow, _, rfl, hsm, rfl, bs, k14, k15, k16, k17, k18, k3, k7, k8, k24, k23, fun j hj => ?_⟩ (hlt hsm)
      by_cases e : j = s
      · subst e; rw [upd_at]; rfl
      · rw [upd_ne e]; exact hfo j (by omega)
    rwa [add_zero'] at st
  · have : s = m := by have := of_decide_eq_false h1; omega
    subst this
    have efo : ints s fo = ints s (onR room') := ints_ext hfo
    rw [efo] at k23
    have P := P4.of rfl k15 k16 k17 k18
    have h6 := k15.own_
    have h7 := k16.own_
    have h8 := k17.own_
    have h9 := k18.own_
    refine P.k6.ldN rfl (P.k7.ldI0 ?_)
    have one : ∀ v ∈ [s7, slV b15 s, vp], v.oneCell' = true := by
      intro v hv
      simp only [List.mem_cons, List.not_mem_nil, or_false] at hv
      rcases hv with rfl | rfl | rfl
      · exact k24.one
      · exact slc_one ⟨_, _, _, rfl⟩
      · exact k7.one
    refine P.s6 rfl one fun q1 K1 P1 => ?_
    refine ⟨by have := sameAt_bl (n := 2) (i := 0) P.k7 P1.k7; rwa [add_zero'] at this, P1.s7 fun q2 K2 P2 => P2.s8 fun q3 K3 P3 => P3.s9 fun q4 K4_ P4_ => ?_⟩
    refine ⟨_, _, _, _, P4_, fun g2 K5 P5 => ?_⟩
    have F := K4.fm (own := ow) ((((K1.trans K2).trans K3).trans K4_).trans K5) P P5 h6 h7 h8 h9
    have bs := bs.fm F (by simp <;> omega)
    have k7 := k7.fm F (by simp <;> omega)
    have k24 := k24.fm F (by simp <;> omega)
    have k23 := k23.fm F (by simp <;> omega)
    refine ⟨bs.ext, .inr ⟨hw, rfl, gd, .inl ⟨ow, s7, slV b15 s, vp, onR room', pot', rfl, bs, k24, k23, k7, rm.plan fun v hv => by have := bal v hv; have := ex0 v hv; omega, RedP.pot rm fun a ha hr => red a ha hr, pb⟩⟩⟩
end

end Go.Proofs.Ytkdnnfpmppmmcaa

namespace Go.Proofs.Ytkdnnfpmppmmcaa
open Go
set_option linter.unusedVariables false
set_option linter.unusedSimpArgs false

section
variable {h : H} {w : List Value} {n : Int} {m l : Nat} {es : Nat → Ed} {sv : Value} {bf : Nat → Int}
theorem Gd.ev (gd : Gd l m es) (hs : supOK l l bf) : EvP l m (frE es) (toE es) (cpE es) bf :=
  ⟨gd.n1, gd.m1, fun i hi => gd.ends i hi, gd.c, hs.2.1, hs.2.2⟩
/-- The answer to a wrong task. -/
theorem err14 {b3 b5 b7 b9 : Nat} {q : H} {c k : Int} (xq : Ext h q) (n3 : h b3 = none) (n5 : h b5 = none) (n7 : h b7 = none) (n9 : h b9 = none) (P : P4 q b3 b5 b7 b9 plZ 0 (.slice none 0 0) 0) (hc : wrong14 n m es l bf k = c) (h0 : c ≠ 0) :
    stN q (bk b3) plZ 3 fun h34 => stC h34 (bk b5) (.int .i64 0) fun h35 => stC h35 (bk b7) (.slice none 0 0) fun h36 => stC h36 (bk b9) (.int .i64 c) fun h37 =>
      ldN h37 (bk b3) 3 fun x38 => ldI h37 (bk b5) .i64 fun x39 => ldV h37 (bk b7) fun x40 => ldI h37 (bk b9) .i64 fun x41 => SolC h n m es l bf k (.ret (.tuple ⟨[.agg ⟨x38⟩, .int .i64 x39, x40, .int .i64 x41]⟩)) h37 :=
  P.s6 rfl plZ_one fun q1 K1 P => P.s7 fun q2 K2 P => P.s8 fun q3 K3 P => P.s9 fun q4 K4_ P =>
    P.read ⟨K4.ext_ xq n3 n5 n7 n9 (((K1.trans K2).trans K3).trans K4_), .inl ⟨by rw [hc]; exact h0, by rw [hc]⟩⟩
theorem MSolve_T (G : GrA h w n m es) (Z : RS h sv (ints l bf)) (k : Int) : T Try.prog F.mincost_Solve [.agg ⟨w⟩, sv, .int .i64 k] h (SolC h n m es l bf k) := by
  refine Solve_of ?_
  unfold BSolveA
  refine new_bl ?_
  intro b1 g1 hb1 x1 B1_
  have bs : Bs h (own1 (fun _ => 0) b1 14) g1 := Bs.start.new x1 hb1
  have k14 : B1 (own1 (fun _ => 0) b1 14) g1 14 b1 w := B1.new B1_
  generalize own1 (fun _ => 0) b1 14 = ow at *
  refine new_bl ?_
  intro b3 g3 hb3 x3 B3
  have k15 : B1 (own1 ow b3 15) g3 15 b3 plZ := B1.new B3
  have bs := bs.nw (j := 15) x3 hb3
  have k14 := k14.nw (j := 15) x3 hb3
  generalize own1 ow b3 15 = ow at *
  refine new_bl ?_
  intro b5 g5 hb5 x5 B5
  have k16 : B1 (own1 ow b5 16) g5 16 b5 [.int .i64 0] := B1.new B5
  have bs := bs.nw (j := 16) x5 hb5
  have k14 := k14.nw (j := 16) x5 hb5
  have k15 := k15.nw (j := 16) x5 hb5
  generalize own1 ow b5 16 = ow at *
  refine new_bl ?_
  intro b7 g7 hb7 x7 B7
  have k17 : B1 (own1 ow b7 17) g7 17 b7 [.slice none 0 0] := B1.new B7
  have bs := bs.nw (j := 17) x7 hb7
  have k14 := k14.nw (j := 17) x7 hb7
  have k15 := k15.nw (j := 17) x7 hb7
  have k16 := k16.nw (j := 17) x7 hb7
  generalize own1 ow b7 17 = ow at *
  refine new_bl ?_
  intro b9 g9 hb9 x9 B9
  have k18 : B1 (own1 ow b9 18) g9 18 b9 [.int .i64 0] := B1.new B9
  have bs := bs.nw (j := 18) x9 hb9
  have k14 := k14.nw (j := 18) x9 hb9
  have k15 := k15.nw (j := 18) x9 hb9
  have k16 := k16.nw (j := 18) x9 hb9
  have k17 := k17.nw (j := 18) x9 hb9
  generalize own1 ow b9 18 = ow at *
  clear x1 x3 x5 x7 x9 B1_ B3 B5 B7 B9 hb1 hb3 hb5 hb7 hb9
  have n3 : h b3 = none := bs.new_ (by rw [k15.own_]; omega)
  have n5 : h b5 = none := bs.new_ (by rw [k16.own_]; omega)
  have n7 : h b7 = none := bs.new_ (by rw [k17.own_]; omega)
  have n9 : h b9 = none := bs.new_ (by rw [k18.own_]; omega)
  refine k14.ldN G.one.1 ((Check_T (G.ext bs.ext)).mono ?_)
  rintro _ q ⟨rfl, x⟩
  refine rt_ret ⟨_, rfl, rfl, ?_⟩
  have bs := bs.ext_ x
  have k14 := k14.ext x
  have k15 := k15.ext x
  have k16 := k16.ext x
  have k17 := k17.ext x
  have k18 := k18.ext x
  clear x
  refine new_bl_st rfl rfl (by simp [Value.oneCell']) ?_
  intro b15 q2 hb15 x15 B15
  have k19 : B1 (own1 ow b15 19) q2 19 b15 _ := B1.new B15
  have bs := bs.nw (j := 19) x15 hb15
  have k14 := k14.nw (j := 19) x15 hb15
  have k15 := k15.nw (j := 19) x15 hb15
  have k16 := k16.nw (j := 19) x15 hb15
  have k17 := k17.nw (j := 19) x15 hb15
  have k18 := k18.nw (j := 19) x15 hb15
  generalize own1 ow b15 19 = ow at *
  clear x15 hb15 B15
  have P := P4.of rfl k15 k16 k17 k18
  have h6 := k15.own_
  have h7 := k16.own_
  have h8 := k17.own_
  have h9 := k18.own_
  have e19 := k19.own_
  refine ⟨_, k19.ld rfl, ifP_of (fun h0 => ?_) (fun h0 => ?_)⟩
  · have h0 : (faultG n m es).1 ≠ 0 := by simpa using h0
    have hc : wrong14 n m es l bf k = (faultG n m es).1 := by unfold wrong14; rw [if_neg h0]
    have kk : ∀ {q q' : H}, Bl q b15 [.int .i64 (faultG n m es).1, .int .i64 (faultG n m es).2] → K4 b3 b5 b7 b9 q q' → Bl q' b15 [.int .i64 (faultG n m es).1, .int .i64 (faultG n m es).2] := fun B k4 => by
      obtain ⟨e, hb⟩ := B
      exact ⟨e, k4 _ _ (by rintro rfl; omega) (by rintro rfl; omega) (by rintro rfl; omega) (by rintro rfl; omega) hb⟩
    refine P.k6.ldN rfl ⟨_, k19.ld rfl, P.s6 rfl plZ_one fun q1 K1 P => ?_⟩
    have B1' := kk k19.bl K1
    refine ⟨sameAt_bl k19.bl B1', P.s7 fun q2 K2 P => ?_⟩
    have B2' := kk B1' K2
    refine ⟨sameAt_bl B1' B2', P.s8 fun q3 K3 P => ?_⟩
    have B3' := kk B2' K3
    refine ⟨sameAt_bl B2' B3', P.s9 fun q4 K4_ P => ?_⟩
    exact P.read ⟨K4.ext_ bs.ext n3 n5 n7 n9 (((K1.trans K2).trans K3).trans K4_), .inl ⟨by rw [hc]; exact h0, by rw [hc]⟩⟩
  have h0 : (faultG n m es).1 = 0 := by simpa using h0
  obtain ⟨n, rfl, gd⟩ := Gd.of h0
  refine k14.ldN G.one.1 ((supplied_T (G.ext bs.ext) (by have := gd.n1; omega) (Z.ext bs.ext)).mono ?_)
  rintro _ q3 ⟨x, hr⟩
  have bs := bs.ext_ x
  have k14 := k14.ext x
  have k15 := k15.ext x
  have k16 := k16.ext x
  have k17 := k17.ext x
  have k18 := k18.ext x
  have P := P4.of rfl k15 k16 k17 k18
  rcases hr with ⟨hs, rfl⟩ | ⟨hs, rfl⟩
  rotate_left
  · refine rt_ret ⟨_, rfl, ifP_of (fun _ => ?_) (fun h => by simp at h)⟩
    have hc : wrong14 n m es l bf k = 130 := by unfold wrong14; rw [if_pos h0, if_neg hs]
    exact P.k6.ldN rfl (err14 bs.ext n3 n5 n7 n9 P hc (by omega))
  refine rt_ret ⟨_, rfl, ifP_of (fun h => by simp at h) (fun _ => ?_)⟩
  have hnl : n = l := by have := hs.1; omega
  subst hnl
  have E := gd.ev hs
  refine k14.ldN G.one.1 ((mnet_T (G.ext bs.ext) gd (Z.ext bs.ext)).mono ?_)
  rintro _ q4 ⟨bn, own', rfl, bs4, N⟩
  have F4 : Fm [] ow q3 (mgO q3 ow own') q4 := bs4.mg
  have N : MN (mgO q3 ow own') q4 bn _ _ _ _ _ _ _ _ := N.mg bs4
  have bs := bs.fm F4 (by simp <;> omega)
  have k14 := k14.fm F4 (by simp <;> omega)
  have k15 := k15.fm F4 (by simp <;> omega)
  have k16 := k16.fm F4 (by simp <;> omega)
  have k17 := k17.fm F4 (by simp <;> omega)
  have k18 := k18.fm F4 (by simp <;> omega)
  generalize mgO q3 ow own' = ow4 at *
  have S : MS ow4 q4 bn n m (frE es) (toE es) (cpE es) bf (cA (ckE es)) (room0 (cpE es)) bf (fun _ => 0) := ⟨N, room0_ok fun i hi => (gd.c i hi).1, fun v hv => by rw [room0_out]; omega⟩
  have r0 : ∀ i, i < m → room0 (cpE es) (2 * i + 1) = 0 := fun i _ => by unfold room0; rw [if_neg (by omega)]
  have hcost : ∀ a, a < 2 * m → cA (ckE es) a = cA (ckE es) a := fun _ _ => rfl
  have hok : 1 ≤ k ∧ k ≤ 3 → wrong14 n m es n bf k = 0 := fun h => by unfold wrong14; rw [if_pos h0, if_pos hs, if_pos h]
  have up : ∀ {M : List Nat} {own : Own} {h : H} {r : Res} {h' : H}, M ⊆ [3, 6, 7, 8, 10, 13, 20, 21, 22] → MeetA M own h bn n m (frE es) (toE es) (cpE es) bf (cA (ckE es)) r h' → MeetA [3, 6, 7, 8, 10, 13, 20, 21, 22] own h bn n m (frE es) (toE es) (cpE es) bf (cA (ckE es)) r h' :=
    fun hM ⟨o, F, r⟩ => ⟨o, F.mono hM, r⟩
  refine rt_ret (ifP_of (fun h1 => ?_) (fun h1 => ifP_of (fun h2 => ?_) (fun h2 => ifP_of (fun h3 => ?_) (fun h3 => ?_))))
  · have h1 := of_decide_eq_true h1
    refine oneP_ptr ⟨b1, b3, b5, b7, b9, _, _, rfl, ?_⟩
    exact SolveB_T G Z gd (hok (by omega)) bs k14 k15 k16 k17 k18 E (f1 := F.mincost_ways_meet) (rv := .agg ⟨[.pointer (some (bk bn))]⟩) (room := fun _ => 0) (pot := fun _ => 0) (fun K hK => ⟨_, _, fun w _ => meth70 _ w, hK⟩) ((ways_T S E gd.k hcost r0 fun _ _ => rfl).mono fun r h' hr => up (by simp) hr) ⟨_, _, _, S⟩
  · have h2 := of_decide_eq_true h2
    refine oneP_ptr ⟨b1, b3, b5, b7, b9, _, _, rfl, ?_⟩
    exact SolveB_T G Z gd (hok (by omega)) bs k14 k15 k16 k17 k18 E (f1 := F.mincost_circles_meet) (rv := .agg ⟨[.pointer (some (bk bn))]⟩) (room := fun _ => 0) (pot := fun _ => 0) (fun K hK => ⟨_, _, fun w _ => meth71 _ w, hK⟩) ((circles_T S E gd.k hcost).mono fun r h' hr => up (by simp) hr) ⟨_, _, _, S⟩
  · have h3 := of_decide_eq_true h3
    refine oneP_ptr (new_bl ?_)
    intro b45 q5 hb45 x45 B45
    have k10 : B1 (own1 ow4 b45 10) q5 10 b45 _ := B1.new B45
    have S : MS (own1 ow4 b45 10) q5 bn n m (frE es) (toE es) (cpE es) bf (cA (ckE es)) (room0 (cpE es)) bf (fun _ => 0) := ⟨S.net.nw x45 hb45, S.rm, S.bal⟩
    have bs := bs.nw (j := 10) x45 hb45
    have k14 := k14.nw (j := 10) x45 hb45
    have k15 := k15.nw (j := 10) x45 hb45
    have k16 := k16.nw (j := 10) x45 hb45
    have k17 := k17.nw (j := 10) x45 hb45
    have k18 := k18.nw (j := 10) x45 hb45
    generalize own1 ow4 b45 10 = ow5 at *
    refine ⟨b1, b3, b5, b7, b9, _, _, rfl, ?_⟩
    exact SolveB_T G Z gd (hok (by omega)) bs k14 k15 k16 k17 k18 E (f1 := F.mincost_scaling_meet) (rv := .pointer (some (bk b45))) (room := fun _ => 0) (pot := fun _ => 0) (fun K hK => ⟨_, _, fun w _ => meth72 _ w, hK⟩) (scaling_T S E gd.k hcost r0 (fun _ _ => rfl) k10) ⟨_, _, _, S⟩
  · have hc : wrong14 n m es n bf k = 50 := by
      have h1 := of_decide_eq_false h1
      have h2 := of_decide_eq_false h2
      have h3 := of_decide_eq_false h3
      unfold wrong14
      rw [if_pos h0, if_pos hs, if_neg (by omega)]
    have P := P4.of rfl k15 k16 k17 k18
    exact P.k6.ldN rfl (err14 bs.ext n3 n5 n7 n9 P hc (by omega))
end

end Go.Proofs.Ytkdnnfpmppmmcaa

namespace Go.Proofs.Ytkdnnfpmppmmcaa
open Go
set_option linter.unusedVariables false
set_option linter.unusedSimpArgs false

def supC (n : Int) (m : Nat) (es : Nat → Ed) (l : Nat) (bf : Nat → Int) : Int := if (faultG n m es).1 = 0 then (if supOK n l bf then 0 else 130) else (faultG n m es).1
section
variable {h : H} {w : List Value} {n : Int} {k m l : Nat} {es : Nat → Ed} {sv on pot : Value} {bf f p : Nat → Int}
theorem Supplies_R (G : GrA h w n m es) (Z : RS h sv (ints l bf)) : T Try.prog F.compassref11_Supplies [.agg ⟨w⟩, sv] h fun r h' => r = .ret (.int .i64 (supC n m es l bf)) ∧ Ext h h' := by
  refine E_compassref11_Supplies ?_
  unfold B_compassref11_Supplies
  refine new_bl ?_
  intro b1 q1 hb1 x1 B
  refine B.ldN G.one.1 ((Check_R (G.ext x1)).mono ?_)
  rintro _ q2 ⟨rfl, x2⟩
  have x := x1.trans' x2
  refine rt_ret ⟨_, _, rfl, ifP_of (fun h0 => ?_) (fun h0 => ?_)⟩
  · have h0 : (faultG n m es).1 ≠ 0 := by simpa using h0
    exact ⟨by unfold supC; rw [if_neg h0], x⟩
  have h0 : (faultG n m es).1 = 0 := by simpa using h0
  obtain ⟨n, rfl, gd⟩ := Gd.of h0
  have n1 := gd.n1
  obtain ⟨gv, rfl, Gv⟩ := G.gs
  have Z := Z.ext x
  have B := B.ext x2
  have bad : ¬ supOK n l bf → (.ret (.int .i64 130) : Res) = .ret (.int .i64 (supC n m es l bf)) ∧ Ext h q2 := fun hn => ⟨by unfold supC; rw [if_pos h0, if_neg hn], x⟩
  refine Z.len (ints_length _ _) fun _ _ => ⟨_, B.ld rfl, ifP_of (fun h1 => bad fun hs => ?_) (fun h1 => ?_)⟩
  · have := hs.1; simp at h1; omega
  have hln : n = l := by simp at h1; omega
  subst hln
  let I : (Int × Int × Unit) → H → Nat → Prop := fun p q z => ∃ j : Nat, p.2.1 = j ∧ j ≤ n ∧ z = n - j ∧ q = q2 ∧ p.1 = sumN j bf ∧ ∀ v, v < j → -1048576 ≤ bf v ∧ bf v ≤ 1048576
  refine ⟨fun p q => ∃ k, I p q k, rk I, rk_wf I, ⟨_, 0, rfl, by omega, rfl, rfl, rfl, fun v hv => by omega⟩, ?_⟩
  intro sm p q hI
  obtain ⟨j, e1, hj, hz, e2, e3, hb⟩ := mu_spec hI
  generalize hkk : mu I ((sm, p, ()), q) = km at *
  change p = (j : Int) at e1
  change sm = sumN j bf at e3
  subst e1 e2 e3
  have hlt : j < n → n - (j + 1) < mu I ((sumN j bf, (j : Int), ()), q) := fun h => by rw [hkk, hz]; exact sub_dec h
  clear hI
  refine ⟨_, B.ld rfl, ifP_of (fun h2 => ?_) (fun h2 => ?_)⟩
  · have hjl : j < n := by have := of_decide_eq_true h2; omega
    refine Z.rdI hjl (ifP_of (fun h3 => bad fun hs => ?_) (fun h3 => Z.rdI hjl (ifP_of (fun h4 => bad fun hs => ?_) (fun h4 => Z.rdI hjl ?_))))
    · have := hs.2.1 j hjl; have := of_decide_eq_true h3; omega
    · have := hs.2.1 j hjl; have := of_decide_eq_true h4; omega
    · have h3 := of_decide_eq_false h3
      have h4 := of_decide_eq_false h4
      have sb := sumN_bd2 hb
      have ew : IntKind.i64.wrap (sumN j bf + bf j) = sumN (j + 1) bf := w64_in (by omega) (by omega)
      rw [ew, i64_inc (by omega)]
      refine mu_next (I := I) (k := n - (j + 1)) ⟨j + 1, rfl, hjl, rfl, rfl, rfl, fun v hv => ?_⟩ (hlt hjl)
      by_cases e : v = j
      · subst e; omega
      · exact hb v (by omega)
  · have : j = n := by have := of_decide_eq_false h2; omega
    subst this
    refine ifP_of (fun h3 => bad fun hs => ?_) (fun h3 => ?_)
    · have := hs.2.2; simp at h3; omega
    · exact ⟨by unfold supC; rw [if_pos h0, if_pos ⟨rfl, hb, by simp at h3; omega⟩], x⟩
theorem Total_R (G : GrA h w n m es) (hm : m ≤ 4096) (hk : ∀ i, i < m → -1048576 ≤ (es i).k ∧ (es i).k ≤ 1048576) (S : RS h on (ints m f)) (hf : ∀ i, i < m → 0 ≤ f i ∧ f i ≤ 1048576) :
    T Try.prog F.compassref11_Total [.agg ⟨w⟩, on] h fun r h' => r = .ret (.int .i64 (totC m (ckE es) f)) ∧ Ext h h' := by
  refine E_compassref11_Total ?_
  unfold B_compassref11_Total
  refine new_bl ?_
  intro b1 q1 hb1 x B
  obtain ⟨gv, rfl, Gv⟩ := G.gs
  have S := S.ext x
  have Gv := Gv.ext x
  let I : (Int × Int × Unit) → H → Nat → Prop := fun p q z => ∃ j : Nat, p.2.1 = j ∧ j ≤ m ∧ z = m - j ∧ q = q1 ∧ p.1 = totC j (ckE es) f
  refine ⟨fun p q => ∃ k, I p q k, rk I, rk_wf I, ⟨_, 0, rfl, by omega, rfl, rfl, rfl⟩, ?_⟩
  intro sm p q hI
  obtain ⟨j, e1, hj, hz, e2, e3⟩ := mu_spec hI
  generalize hkk : mu I ((sm, p, ()), q) = km at *
  change p = (j : Int) at e1
  change sm = totC j (ckE es) f at e3
  subst e1 e2 e3
  have hlt : j < m → m - (j + 1) < mu I ((totC j (ckE es) f, (j : Int), ()), q) := fun h => by rw [hkk, hz]; exact sub_dec h
  clear hI
  refine S.len (ints_length _ _) fun _ _ => ifP_of (fun h1 => ?_) (fun h1 => ?_)
  · have hjm : j < m := by have := of_decide_eq_true h1; omega
    rw [i64_inc (by omega)]
    refine S.at (ints_get hjm) fun a11 ha11 => ⟨_, B.ld rfl, Gv.at hjm fun a13 hc => ⟨_, hc 3 _ rfl, _, ha11, ?_⟩⟩
    have hb := totC_bd (m := j) (k := ckE es) (f := f) (C := 1048576) (X := 1048576) (by omega) (by omega) (fun i hi => hk i (by omega)) (fun i hi => hf i (by omega))
    have hb1 := totC_bd (m := j + 1) (k := ckE es) (f := f) (C := 1048576) (X := 1048576) (by omega) (by omega) (fun i hi => hk i (by omega)) (fun i hi => hf i (by omega))
    have et : totC (j + 1) (ckE es) f = totC j (ckE es) f + (es j).k * f j := rfl
    rw [et] at hb1
    generalize hX : (es j).k * f j = X at *
    have e3 : IntKind.i64.wrap X = X := w64_in (by omega) (by omega)
    have e4 : IntKind.i64.wrap (totC j (ckE es) f + X) = totC (j + 1) (ckE es) f := by rw [et]; exact w64_in (by omega) (by omega)
    show (∃ k, I (IntKind.i64.wrap (totC j (ckE es) f + IntKind.i64.wrap ((es j).k * f j)), ((j + 1 : Nat) : Int), ()) q k) ∧ rk I ((IntKind.i64.wrap (totC j (ckE es) f + IntKind.i64.wrap ((es j).k * f j)), ((j + 1 : Nat) : Int), ()), q) ((totC j (ckE es) f, (j : Int), ()), q)
    rw [hX, e3, e4]
    exact mu_next (I := I) (k := m - (j + 1)) ⟨j + 1, rfl, hjm, rfl, rfl, rfl⟩ (hlt hjm)
  · have : j = m := by have := of_decide_eq_false h1; omega
    subst this
    exact ⟨rfl, x⟩
theorem Pots_R {n : Nat} (G : GrA h w n m es) (P : RS h pot (ints n p)) (hn : n ≤ 1024) (hp : ∀ v, v < n → -4398046511104 ≤ p v ∧ p v ≤ 4398046511104) : T Try.prog F.compassref11_Pots [.agg ⟨w⟩, pot] h fun r h' => r = .ret (.bool true) ∧ Ext h h' := by
  refine E_compassref11_Pots ?_
  unfold B_compassref11_Pots
  refine new_bl ?_
  intro b1 q1 hb1 x B
  obtain ⟨gv, rfl, Gv⟩ := G.gs
  have P := P.ext x
  refine P.len (ints_length _ _) fun _ _ => ⟨_, B.ld rfl, ifP_of (fun h => by simp at h) (fun _ => ?_)⟩
  let I : (Int × Unit) → H → Nat → Prop := fun p q z => ∃ j : Nat, p.1 = j ∧ j ≤ n ∧ z = n - j ∧ q = q1
  refine ⟨fun p q => ∃ k, I p q k, rk I, rk_wf I, ⟨_, 0, rfl, by omega, rfl, rfl⟩, ?_⟩
  intro p q hI
  obtain ⟨j, e1, hj, hz, e2⟩ := mu_spec hI
  generalize hkk : mu I ((p, ()), q) = km at *
  change p = (j : Int) at e1
  subst e1 e2
  have hlt : j < n → n - (j + 1) < mu I (((j : Int), ()), q) := fun h => by rw [hkk, hz]; exact sub_dec h
  clear hI
  refine ⟨_, B.ld rfl, ifP_of (fun h1 => ?_) (fun h1 => ⟨rfl, x⟩)⟩
  have hjn : j < n := by have := of_decide_eq_true h1; omega
  have := hp j hjn
  rw [i64_inc (by omega)]
  exact P.rdI hjn (ifP_of (fun h => by have := of_decide_eq_true h; omega) (fun _ => P.rdI hjn (ifP_of (fun h => by have := of_decide_eq_true h; omega) (fun _ => mu_next (I := I) (k := n - (j + 1)) ⟨j + 1, rfl, hjn, rfl, rfl⟩ (hlt hjn)))))
theorem Reduced_R {n : Nat} {e : Ed} {u v : Nat} (P : RS h pot (ints n p)) (hp : ∀ v, v < n → -4398046511104 ≤ p v ∧ p v ≤ 4398046511104) (hk : -1048576 ≤ e.k ∧ e.k ≤ 1048576) (hf : e.f = u) (ht : e.t = v) (hu : u < n) (hv : v < n) :
    T Try.prog F.compassref11_Reduced [.agg ⟨e.vs⟩, pot] h fun r h' => r = .ret (.int .i64 (e.k + p u - p v)) ∧ Ext h h' := by
  refine E_compassref11_Reduced ?_
  unfold B_compassref11_Reduced
  refine new_bl ?_
  intro b1 q1 hb1 x B
  have P := P.ext x
  refine ⟨_, B.ld rfl, _, B.ld rfl, ?_⟩
  rw [hf]
  refine P.rdI hu ⟨_, B.ld rfl, ?_⟩
  rw [ht]
  refine P.rdI hv ?_
  have p1 := hp u hu
  have p2 := hp v hv
  have e1 : IntKind.i64.wrap (e.k + p u) = e.k + p u := w64_in (by omega) (by omega)
  have e2 : IntKind.i64.wrap (e.k + p u - p v) = e.k + p u - p v := w64_in (by omega) (by omega)
  rw [e1, e2]
  exact ⟨rfl, x⟩
end

end Go.Proofs.Ytkdnnfpmppmmcaa

namespace Go.Proofs.Ytkdnnfpmppmmcaa
open Go
set_option linter.unusedVariables false
set_option linter.unusedSimpArgs false

theorem cutB_C {m : Nat} {fr to : Nat → Nat} {cap : Nat → Int} {sd : Nat → Bool} : cutB m fr to cap sd = cutC m fr to cap (fun v => sd v = true) := by
  unfold cutB cutC
  refine sumN_congr fun i _ => ?_
  by_cases h1 : sd (fr i) = true
  · by_cases h2 : sd (to i) = true
    · simp [h1, h2]
    · have h3 : sd (to i) = false := by simpa using h2
      simp [h1, h3]
  · simp [h1]
section
variable {h : H} {w : List Value} {n m : Nat} {es : Nat → Ed} {sv on pot side : Value} {bf f p : Nat → Int} {sd : Nat → Bool}
theorem supC_ok (gd : Gd n m es) (hs : supOK n n bf) : supC n m es n bf = 0 := by
  unfold supC; rw [if_pos (Gd.iff.2 gd), if_pos hs]
theorem Cheapest_R (G : GrA h w n m es) (gd : Gd n m es) (hs : supOK n n bf) (Z : RS h sv (ints n bf)) (S : RS h on (ints m f)) (Q : RS h pot (ints n p)) (Pl : PlanP n m (frE es) (toE es) (cpE es) bf f)
    (Pt : PotP m (frE es) (toE es) (cpE es) (ckE es) f p) (pb : ∀ v, v < n → -4398046511104 ≤ p v ∧ p v ≤ 4398046511104) :
    T Try.prog F.compassref11_Cheapest [.agg ⟨w⟩, sv, on, pot] h fun r h' => r = .ret (.tuple ⟨[.int .i64 (totC m (ckE es) f), .int .i64 0]⟩) ∧ Ext h h' := by
  have n1 := gd.n1
  have m1 := gd.m1
  refine E_compassref11_Cheapest ?_
  unfold B_compassref11_Cheapest
  refine new_bl ?_
  intro b1 q1 hb1 x1 B
  refine B.ldN G.one.1 ((Supplies_R (G.ext x1) (Z.ext x1)).mono ?_)
  rintro _ q2 ⟨rfl, x2⟩
  rw [supC_ok gd hs]
  refine rt_ret ⟨_, rfl, ifP_of (fun h => by simp at h) (fun _ => ?_)⟩
  have x := x1.trans' x2
  refine (B.ext x2).ldN G.one.1 ((Fits_R (G.ext x) gd.w (S.ext x) Pl.cp (Z.ext x) Pl.out).mono ?_)
  rintro _ q3 ⟨rfl, x3⟩
  refine rt_ret ⟨_, rfl, ifP_of (fun h => by simp at h) (fun _ => ?_)⟩
  have B := (B.ext x2).ext x3
  have x := x.trans' x3
  clear x1 x2 x3
  refine B.ldN G.one.1 ((Pots_R (G.ext x) (Q.ext x) n1 pb).mono ?_)
  rintro _ q4 ⟨rfl, x4⟩
  refine rt_ret ⟨_, rfl, ifP_of (fun h => by simp at h) (fun _ => ?_)⟩
  have B := B.ext x4
  have x := x.trans' x4
  obtain ⟨gv, rfl, Gv⟩ := G.gs
  let I : (Int × Unit) → H → Nat → Prop := fun p q z => ∃ j : Nat, p.1 = j ∧ j ≤ m ∧ z = m - j ∧ Ext q4 q
  refine ⟨fun p q => ∃ k, I p q k, rk I, rk_wf I, ⟨_, 0, rfl, by omega, rfl, Ext.refl _⟩, ?_⟩
  intro pp q hI
  obtain ⟨j, e1, hj, hz, xq⟩ := mu_spec hI
  generalize hkk : mu I ((pp, ()), q) = km at *
  change pp = (j : Int) at e1
  subst e1
  have hlt : j < m → m - (j + 1) < mu I (((j : Int), ()), q) := fun h => by rw [hkk, hz]; exact sub_dec h
  clear hI
  have x := x.trans' xq
  have B := B.ext xq
  have S := S.ext x
  refine S.len (ints_length _ _) fun _ _ => ifP_of (fun h1 => ?_) (fun h1 => ?_)
  · have hjm : j < m := by have := of_decide_eq_true h1; omega
    have hf := gd.fr hjm
    have ht := gd.to hjm
    rw [i64_inc (by omega)]
    refine ⟨_, B.ld rfl, (Gv.ext x).e4 hjm ((Reduced_R (Q.ext x) pb (gd.k j hjm) hf.1 ht.1 hf.2 ht.2).mono ?_)⟩
    rintro _ q5 ⟨rfl, x5⟩
    have S := S.ext x5
    have B := B.ext x5
    have xa := x.trans' x5
    obtain ⟨c1, c2⟩ := Pt j hjm
    have next : (∃ k, I (((j + 1 : Nat) : Int), ()) q5 k) ∧ rk I ((((j + 1 : Nat) : Int), ()), q5) (((j : Int), ()), q) := mu_next (I := I) (k := m - (j + 1)) ⟨j + 1, rfl, hjm, rfl, xq.trans' x5⟩ (hlt hjm)
    have low : ifP (decide ((es j).k + p (frE es j) - p (toE es j) < 0)) (ixS on (j : Int) 1 fun a30 => ldI q5 a30 .i64 fun x31 => ldV q5 ((bk b1).add 1) fun x32 => ixS x32 (j : Int) 4 fun a33 => ldI q5 (a33.add 2) .i64 fun x34 =>
        ifP (decide (x31 < x34)) ((.ret (.tuple ⟨[.int .i64 0, .int .i64 221]⟩) : Res) = .ret (.tuple ⟨[.int .i64 (totC m (ckE es) f), .int .i64 0]⟩) ∧ Ext h q5)
        ((∃ k, I (((j + 1 : Nat) : Int), ()) q5 k) ∧ rk I ((((j + 1 : Nat) : Int), ()), q5) (((j : Int), ()), q))) ((∃ k, I (((j + 1 : Nat) : Int), ()) q5 k) ∧ rk I ((((j + 1 : Nat) : Int), ()), q5) (((j : Int), ()), q)) := by
      refine ifP_of (fun h2 => ?_) (fun _ => next)
      have h2 := of_decide_eq_true h2
      have e := c2 h2
      refine S.rdI hjm ⟨_, B.ld rfl, (Gv.ext xa).c hjm (ifP_of (fun h3 => ?_) (fun _ => next))⟩
      have h3 := of_decide_eq_true h3
      have : (es j).c = cpE es j := rfl
      omega
    refine rt_ret ⟨_, rfl, ifP_of (fun h2 => ?_) (fun h2 => low)⟩
    have h2 := of_decide_eq_true h2
    have e := c1 h2
    exact S.rdI hjm (ifP_of (fun h3 => by have := of_decide_eq_true h3; omega) (fun _ => low))
  · refine B.ldN rfl ((Total_R (G.ext x) m1 gd.k S fun i hi => ?_).mono ?_)
    · have := Pl.cp i hi
      have := gd.c i hi
      have : cpE es i = (es i).c := rfl
      omega
    rintro _ q5 ⟨rfl, x5⟩
    exact rt_ret ⟨_, rfl, rfl, x.trans' x5⟩
theorem NoPlan_R (G : GrA h w n m es) (gd : Gd n m es) (hs : supOK n n bf) (Z : RS h sv (ints n bf)) (S : RS h side (bools n sd))
    (hl : cutC m (frE es) (toE es) (cpE es) (fun v => sd v = true) < sumN n fun v => if sd v = true then bf v else 0) :
    T Try.prog F.compassref11_NoPlan [.agg ⟨w⟩, sv, side] h fun r h' => r = .ret (.int .i64 0) ∧ Ext h h' := by
  have n1 := gd.n1
  have m1 := gd.m1
  refine E_compassref11_NoPlan ?_
  unfold B_compassref11_NoPlan
  refine new_bl ?_
  intro b1 q1 hb1 x1 B
  refine B.ldN G.one.1 ((Supplies_R (G.ext x1) (Z.ext x1)).mono ?_)
  rintro _ q2 ⟨rfl, x2⟩
  rw [supC_ok gd hs]
  refine rt_ret ⟨_, rfl, ifP_of (fun h => by simp at h) (fun _ => ?_)⟩
  have x := x1.trans' x2
  have B := B.ext x2
  have S := S.ext x
  have Z := Z.ext x
  obtain ⟨gv, rfl, Gv⟩ := G.gs
  refine S.len (va_length _ _) fun _ _ => ⟨_, B.ld rfl, ifP_of (fun h => by simp at h) (fun _ => ?_)⟩
  let I : (Int × Int × Unit) → H → Nat → Prop := fun p q z => ∃ j : Nat, p.2.1 = j ∧ j ≤ n ∧ z = n - j ∧ q = q2 ∧ p.1 = sumN j fun v => if sd v = true then bf v else 0
  refine ⟨fun p q => ∃ k, I p q k, rk I, rk_wf I, ⟨_, 0, rfl, by omega, rfl, rfl, rfl⟩, ?_⟩
  intro sm pp q hI
  obtain ⟨j, e1, hj, hz, e2, e3⟩ := mu_spec hI
  generalize hkk : mu I ((sm, pp, ()), q) = km at *
  change pp = (j : Int) at e1
  change sm = sumN j fun v => if sd v = true then bf v else 0 at e3
  subst e1 e2
  have hlt : j < n → n - (j + 1) < mu I ((sm, (j : Int), ()), q) := fun h => by rw [hkk, hz]; exact sub_dec h
  clear hI
  refine ⟨_, B.ld rfl, ifP_of (fun h1 => ?_) (fun h1 => ?_)⟩
  · have hjn : j < n := by have := of_decide_eq_true h1; omega
    rw [i64_inc (by omega)]
    have sb := sumN_bd2 (f := fun v => if sd v = true then bf v else 0) (k := j) fun v hv => by have := hs.2.1 v (by omega); split <;> omega
    rw [← e3] at sb
    have bb := hs.2.1 j hjn
    have eS : (sumN (j + 1) fun v => if sd v = true then bf v else 0) = sm + (if sd j = true then bf j else 0) := by rw [e3]; rfl
    refine S.rdB hjn (ifP_of (fun h2 => ?_) (fun h2 => ?_))
    · refine Z.rdI hjn ?_
      have ew : IntKind.i64.wrap (sm + bf j) = sm + bf j := w64_in (by omega) (by omega)
      rw [ew]
      exact mu_next (I := I) (k := n - (j + 1)) ⟨j + 1, rfl, hjn, rfl, rfl, by rw [eS, if_pos h2]⟩ (hlt hjn)
    · exact mu_next (I := I) (k := n - (j + 1)) ⟨j + 1, rfl, hjn, rfl, rfl, by rw [eS, if_neg (by rw [h2]; simp)]; show sm = _; omega⟩ (hlt hjn)
  · have : j = n := by have := of_decide_eq_false h1; omega
    subst this
    refine B.ldN rfl ((Cut_R (G.ext x) gd.w S).mono ?_)
    rintro _ q5 ⟨rfl, x5⟩
    refine rt_ret ⟨_, rfl, ifP_of (fun h2 => ?_) (fun _ => ⟨rfl, x.trans' x5⟩)⟩
    have h2 := of_decide_eq_true h2
    rw [cutB_C, e3] at h2
    omega
end

end Go.Proofs.Ytkdnnfpmppmmcaa

namespace Go.Proofs.Ytkdnnfpmppmmcaa
open Go
set_option linter.unusedVariables false
set_option linter.unusedSimpArgs false

/-- The edges with capacity. -/
def usl (es : Nat → Ed) (M : Nat) : List Nat := (List.range M).filter fun i => decide (0 < (es i).c)
theorem usl_succ {es : Nat → Ed} {M : Nat} : usl es (M + 1) = usl es M ++ (if 0 < (es M).c then [M] else []) := by
  unfold usl
  rw [List.range_succ, List.filter_append]
  congr 1
  by_cases h : 0 < (es M).c <;> simp [h]
theorem usl_len {es : Nat → Ed} {M : Nat} : (usl es M).length ≤ M := by
  have := List.length_filter_le (fun i => decide (0 < (es i).c)) (List.range M)
  simpa [usl] using this
theorem usl_mem {es : Nat → Ed} {M i : Nat} : i ∈ usl es M ↔ i < M ∧ 0 < (es i).c := by simp [usl, List.mem_filter]
def subEd (es : Nat → Ed) (l : List Nat) (j : Nat) : Ed := es (l.getD j 0)
theorem getD_app {l : List Nat} {x j : Nat} : (l ++ [x]).getD j 0 = if j = l.length then x else l.getD j 0 := by
  by_cases h : j = l.length
  · subst h; simp
  · rw [if_neg h]
    by_cases h2 : j < l.length
    · simp [List.getElem?_append_left h2]
    · have h3 : l.length + 1 ≤ j := by omega
      simp only [List.getD_eq_getElem?_getD]
      rw [List.getElem?_eq_none (by simp; omega), List.getElem?_eq_none (by omega)]
section
variable {h : H} {w : List Value} {n : Int} {M m l : Nat} {es : Nat → Ed}
theorem useful_R (G : GrA h w n M es) (hM : M ≤ 100000) : T Try.prog F.compassref11_useful [.agg ⟨w⟩] h fun r h' => ∃ v vw, r = .ret (.tuple ⟨[.agg ⟨[.int .i64 n, v]⟩, vw]⟩) ∧ Ext h h' ∧
    Gs h' v (usl es M).length (subEd es (usl es M)) ∧ RS h' vw (natV (usl es M)) := by
  refine E_compassref11_useful ?_
  unfold B_compassref11_useful
  obtain ⟨gv, rfl, Gv⟩ := G.gs
  refine new_bl ?_
  intro b1 q1 hb1 x1 B
  refine new_bl ?_
  intro b3 q3 hb3 x3 B3
  refine ⟨_, (B.ext x3).ld rfl, ?_⟩
  have bs : Bs h (own1 (own1 (fun _ => 0) b1 9) b3 8) q3 := (Bs.start.new x1 hb1).nw x3 hb3
  have k9 : B1 (own1 (own1 (fun _ => 0) b1 9) b3 8) q3 9 b1 [.int .i64 n, gv] := (B1.new B).nw x3 hb3
  have k8 : B1 (own1 (own1 (fun _ => 0) b1 9) b3 8) q3 8 b3 [.int .i64 0, .slice none 0 0] := B1.new B3
  generalize own1 (own1 (fun _ => 0) b1 9) b3 8 = ow at *
  refine new_bl_st rfl rfl (by simp [Value.oneCell']) ?_
  intro b6 q8 hb6 x8 B6
  have k4 : B1 (own1 ow b6 4) q8 4 b6 [.int .i64 n, .slice none 0 0] := B1.new B6
  have bs := bs.nw (j := 4) x8 hb6
  have k9 := k9.nw (j := 4) x8 hb6
  have k8 := k8.nw (j := 4) x8 hb6
  generalize own1 ow b6 4 = ow at *
  let I : (Value × Int × Unit) → H → Nat → Prop := fun p q z => ∃ (j : Nat) (own : Own) (v : Value), p.2.1 = j ∧ j ≤ M ∧ z = M - j ∧ Bs h own q ∧ B1 own q 9 b1 [.int .i64 n, gv] ∧ B1 own q 8 b3 [.int .i64 0, .slice none 0 0] ∧ B1 own q 4 b6 [.int .i64 n, v] ∧ S4 own q 1 v (usl es j).length (subEd es (usl es j)) ∧ S1 own q 2 p.1 (natV (usl es j))
  refine ⟨fun p q => ∃ k, I p q k, rk I, rk_wf I, ⟨_, 0, ow, _, rfl, by omega, rfl, bs, k9, k8, k4, S4.nil, S1.nil⟩, ?_⟩
  clear bs k9 k8 k4
  intro wh p q hI
  obtain ⟨j, own, v, e1, hj, hk, bs, k9, k8, k4, k1, k2⟩ := mu_spec hI
  generalize hkk : mu I ((wh, p, ()), q) = km at *
  change p = (j : Int) at e1
  change S1 own q 2 wh _ at k2
  subst e1
  have hlt : j < M → M - (j + 1) < mu I ((wh, (j : Int), ()), q) := fun h => by rw [hkk, hk]; exact sub_dec h
  clear hI
  have hl := usl_len (es := es) (M := j)
  refine ⟨_, k9.ld rfl, (Gv.ext bs.ext).len fun _ _ => ifP_of (fun h1 => ?_) (fun h1 => ?_)⟩
  · have hjm : j < M := by have := of_decide_eq_true h1; omega
    rw [i64_inc (by omega)]
    refine ⟨_, k9.ld rfl, (Gv.ext bs.ext).c hjm (ifP_of (fun h2 => ?_) (fun h2 => ?_))⟩
    · have h2 := of_decide_eq_true h2
      refine ⟨_, k4.ld rfl, _, k9.ld rfl, (Gv.ext bs.ext).e4 hjm ⟨rfl, ?_⟩⟩
      rw [List.append_nil]
      refine S4.push (ed := es j) k1 (by omega) ?_
      intro _ _ v2 own2 q33 _ _ F k1
      have bs := bs.fm F (by simp <;> omega)
      have k9 := k9.fm F (by simp <;> omega)
      have k8 := k8.fm F (by simp <;> omega)
      have k4 := k4.fm F (by simp <;> omega)
      have k2 := k2.fm F (by simp <;> omega)
      refine oneP_slc k1.isS (k4.st (by simp) ?_)
      intro q34 F2 k4
      simp only [List.set] at k4
      have bs := bs.fm F2 (by simp <;> omega)
      have k9 := k9.fm F2 (by simp <;> omega)
      have k8 := k8.fm F2 (by simp <;> omega)
      have k1 := k1.fm F2 (by simp <;> omega)
      have k2 := k2.fm F2 (by simp <;> omega)
      refine k2.push (l := 1) rfl (by simp [Value.oneCell']) (by simp) (by omega) (by rw [natV_length]; omega) ?_
      intro bx hm2 p' ow' q' hbx xm F3 k2
      have bs := bs.fm F3 (by simp <;> omega)
      have k9 := k9.fm F3 (by simp <;> omega)
      have k8 := k8.fm F3 (by simp <;> omega)
      have k1 := k1.fm F3 (by simp <;> omega)
      have k4 := k4.fm F3 (by simp <;> omega)
      have eu : usl es (j + 1) = usl es j ++ [j] := by rw [usl_succ, if_pos h2]
      refine mu_next (I := I) (k := M - (j + 1)) ⟨j + 1, ow', v2, rfl, hjm, rfl, bs, k9, k8, k4, ?_, ?_⟩ (hlt hjm)
      · rw [eu, List.length_append]
        refine k1.congr fun i hi => ?_
        unfold subEd
        rw [getD_app]
        split <;> rfl
      · show S1 ow' q' 2 p' (natV (usl es (j + 1)))
        rw [eu]
        simpa [natV] using k2
    · have h2 := of_decide_eq_false h2
      have eu : usl es (j + 1) = usl es j := by rw [usl_succ, if_neg h2, List.append_nil]
      exact mu_next (I := I) (k := M - (j + 1)) ⟨j + 1, own, v, rfl, hjm, rfl, bs, k9, k8, k4, by rw [eu]; exact k1, by rw [eu]; exact k2⟩ (hlt hjm)
  · have : j = M := by have := of_decide_eq_false h1; omega
    subst this
    refine k4.ldN rfl (k8.stN rfl rfl (by
      intro z hz
      simp only [List.mem_cons, List.not_mem_nil, or_false] at hz
      rcases hz with rfl | rfl
      · rfl
      · exact slc_one k1.isS) fun g F k8 => ?_)
    have bs := bs.fm F (by simp <;> omega)
    have k1 := k1.fm F (by simp <;> omega)
    have k2 := k2.fm F (by simp <;> omega)
    exact k8.ldN rfl ⟨v, wh, rfl, bs.ext, k1.gs, RS.of_S1 k2⟩
end
/-- F (p - 1), .., F 0. -/
def LP (F : Nat → Nat) : Nat → List Nat
  | 0 => []
  | p + 1 => F p :: LP F p
theorem LP_len {F : Nat → Nat} : ∀ {p : Nat}, (LP F p).length = p
  | 0 => rfl
  | p + 1 => by unfold LP; rw [List.length_cons, LP_len]
theorem LP_mem {F : Nat → Nat} {a : Nat} : ∀ {p : Nat}, a ∈ LP F p ↔ ∃ s, s < p ∧ a = F s
  | 0 => ⟨fun h => (by cases h), fun ⟨s, h, _⟩ => by omega⟩
  | p + 1 => by
    unfold LP
    rw [List.mem_cons, LP_mem]
    constructor
    · rintro (rfl | ⟨s, h1, h2⟩)
      · exact ⟨p, by omega, rfl⟩
      · exact ⟨s, by omega, h2⟩
    · rintro ⟨s, h1, h2⟩
      by_cases e : s = p
      · subst e; exact .inl h2
      · exact .inr ⟨s, by omega, h2⟩
theorem LP_map {F g : Nat → Nat} : ∀ {p : Nat}, (LP F p).map g = LP (fun s => g (F s)) p
  | 0 => rfl
  | p + 1 => by unfold LP; rw [List.map_cons, LP_map]
/-- A circle that costs less than nothing, of distinct nodes. -/
structure CircP (n M : Nat) (tl hd : Nat → Nat) (c : Nat → Int) (Y F : Nat → Nat) (p : Nat) : Prop where
  p1 : 1 ≤ p
  pn : p ≤ n
  cl : Y p = Y 0
  arc : ∀ s, s < p → F s < M ∧ hd (F s) = Y s ∧ tl (F s) = Y (s + 1)
  dis : ∀ s t, s < t → t < p → Y s ≠ Y t
  neg : sumN p (fun s => c (F s)) < 0
/-- Who was changed in round n + 1 hangs on such a circle. -/
theorem BF.circle {n M j tm : Nat} {tl hd : Nat → Nat} {c : Nat → Int} {U : Nat → Prop} {C : Int} {d : Nat → Int} {via τ r : Nat → Nat} (B : BF M tl hd c U C (n + 1) j d via τ r tm) (hnA : ∀ i, i < M → tl i < n ∧ hd i < n) {v : Nat} (hrv : r v = n + 1) :
    (∀ s, via (bck tl via v s) < M ∧ bck tl via v s < n) ∧ ∃ p, CircP n M tl hd c (fun t => bck tl via v (n + t)) (fun t => via (bck tl via v (n + t))) p ∧ ∀ q, 1 ≤ q → q < p → bck tl via v (n + q) ≠ bck tl via v n := by
  obtain ⟨hpos, p0, p1, p2, p3⟩ := B.found hnA hrv
  have hset : ∀ s, via (bck tl via v s) < M ∧ hd (via (bck tl via v s)) = bck tl via v s := fun s => by
    obtain ⟨a, b, c, _⟩ := B.set _ (hpos s)
    exact ⟨a, c⟩
  have hbn : ∀ s, bck tl via v s < n := fun s => by
    obtain ⟨a, c⟩ := hset s
    rw [← c]; exact (hnA _ a).2
  refine ⟨fun s => ⟨(hset s).1, hbn s⟩, ?_⟩
  obtain ⟨L, ⟨L1, L2, L3⟩, Lmin⟩ := least (P := fun p => 1 ≤ p ∧ p ≤ n ∧ bck tl via v (n + p) = bck tl via v n) ⟨p0, p1, p2, by rw [bck_add]; exact p3⟩
  refine ⟨L, ⟨L1, L2, L3, fun s _ => ⟨(hset _).1, (hset _).2, rfl⟩, fun i l h1 h2 e => ?_, ?_⟩, fun q q1 q2 e => ?_⟩
  · have e2 : bck tl via v (n + i + (L - l)) = bck tl via v (n + l + (L - l)) := by rw [bck_add, bck_add (i := n + l)]; rw [show bck tl via v (n + i) = bck tl via v (n + l) from e]
    rw [show n + l + (L - l) = n + L by omega, L3, show n + i + (L - l) = n + (i + (L - l)) by omega] at e2
    have := Lmin (i + (L - l)) ⟨by omega, by omega, e2⟩
    omega
  · have := B.circ (y := bck tl via v n) (p := L) L1 (by rw [← bck_add]; exact L3) (fun i _ => by rw [← bck_add]; exact hpos _)
    refine Int.lt_of_le_of_lt (Int.le_of_eq (sumN_congr fun t _ => ?_)) this
    rw [← bck_add]
  · have := Lmin q ⟨q1, by omega, e⟩
    omega

end Go.Proofs.Ytkdnnfpmppmmcaa

namespace Go.Proofs.Ytkdnnfpmppmmcaa
open Go
set_option linter.unusedVariables false
set_option linter.unusedSimpArgs false

theorem LP_head {F : Nat → Nat} {t : Nat} : (natV (LP F (t + 1)))[0]? = some (.int .i64 (F t : Nat)) := rfl
section
variable {h : H} {w : List Value} {n M : Nat} {es : Nat → Ed}
theorem Below_R (G : GrA h w n M es) (hE1 : ∀ i, i < M → (es i).f = (frE es i : Nat) ∧ frE es i < n) (hE2 : ∀ i, i < M → (es i).t = (toE es i : Nat) ∧ toE es i < n) (n1 : n ≤ 1024) (M1 : M ≤ 8192)
    (hk : ∀ i, i < M → -1048576 ≤ (es i).k ∧ (es i).k ≤ 1048576) :
    T Try.prog F.compassref11_Below [.agg ⟨w⟩] h fun r h' => ∃ v l, r = .ret v ∧ Ext h h' ∧ RS h' v (natV l) ∧ ((l = [] ∧ ∃ d : Nat → Int, ∀ i, i < M → d (toE es i) ≤ d (frE es i) + (es i).k) ∨
      ∃ Y F p, l = LP F p ∧ CircP n M (frE es) (toE es) (ckE es) Y F p) := by
  have hnA : ∀ i, i < M → frE es i < n ∧ toE es i < n := fun i hi => ⟨(hE1 i hi).2, (hE2 i hi).2⟩
  refine E_compassref11_Below ?_
  unfold B_compassref11_Below
  obtain ⟨gv, rfl, Gv⟩ := G.gs
  refine new_bl ?_
  intro b1 q1 hb1 x1 B
  have k9 : B1 (own1 (fun _ => 0) b1 9) q1 9 b1 [.int .i64 n, gv] := B1.new B
  have bs : Bs h (own1 (fun _ => 0) b1 9) q1 := Bs.start.new x1 hb1
  generalize own1 (fun _ => 0) b1 9 = ow at *
  refine ⟨_, k9.ld rfl, mk_ints 1 (by omega) (by omega) ?_⟩
  intro b4 q4 hb4 x4 S4_
  have kD := S4_ ow
  have bs := bs.nw (j := 1) x4 hb4
  have k9 := k9.nw (j := 1) x4 hb4
  generalize own1 ow b4 1 = ow at *
  clear S4_
  refine ⟨_, k9.ld rfl, mk_ints 2 (by omega) (by omega) ?_⟩
  intro b7 q7 hb7 x7 S7
  have kV := S7 ow
  have bs := bs.nw (j := 2) x7 hb7
  have k9 := k9.nw (j := 2) x7 hb7
  have kD := kD.nw (j := 2) x7 hb7
  generalize own1 ow b7 2 = ow at *
  clear S7
  simp only [Int.toNat_natCast]
  let U : Nat → Prop := fun _ => True
  let I : (Int × Int × Unit) → H → Nat → Prop := fun p q z => ∃ (t : Nat) (ow : Own) (d : Nat → Int) (via τ r : Nat → Nat) (tm : Nat), p.2.1 = t ∧ t ≤ n + 1 ∧ z = n + 1 - t ∧ Bs h ow q ∧ B1 ow q 9 b1 [.int .i64 n, gv] ∧ S1 ow q 1 (slV b4 n) (ints n d) ∧ S1 ow q 2 (slV b7 n) (ints n fun v => (via v : Nat)) ∧
    BF M (frE es) (toE es) (ckE es) U 1048576 (t + 1) 0 d via τ r tm ∧ tm ≤ 1 + t * 8192 ∧ (∀ v, r v ≤ t) ∧ (0 < t → BF M (frE es) (toE es) (ckE es) U 1048576 t M d via τ r tm ∧ ((p.1 = -1 ∧ ∀ v, r v < t) ∨ ∃ v : Nat, p.1 = v ∧ v < n ∧ r v = t))
  refine ⟨fun p q => ∃ k, I p q k, rk I, rk_wf I, ⟨_, 0, ow, fun _ => 0, fun _ => 0, fun _ => 0, fun _ => 0, 1, rfl, by omega, rfl, bs, k9, kD, kV, BF.start (by omega), by omega, fun v => Nat.le_refl _, fun h => by omega⟩, ?_⟩
  clear bs k9 kD kV
  intro last p q hI
  obtain ⟨t, ow, d, via, τ, r, tm, e1, ht, hz, bs, k9, kD, kV, B0, htm, hr, hB⟩ := mu_spec hI
  generalize hkk : mu I ((last, p, ()), q) = km at *
  change p = (t : Int) at e1
  change 0 < t → BF M (frE es) (toE es) (ckE es) U 1048576 t M d via τ r tm ∧ ((last = -1 ∧ ∀ v, r v < t) ∨ ∃ v : Nat, last = v ∧ v < n ∧ r v = t) at hB
  subst e1
  have hlt : t < n + 1 → n + 1 - (t + 1) < mu I ((last, (t : Int), ()), q) := fun h => by rw [hkk, hz]; exact sub_dec h
  clear hI
  refine ⟨_, k9.ld rfl, ifP_of (fun h1 => ?_) (fun h1 => ?_)⟩
  · have htn : t < n + 1 := by have := of_decide_eq_true h1; omega
    rw [i64_inc (by omega)]
    let I3 : (Int × Int × Unit) → H → Nat → Prop := fun p q z => ∃ (j : Nat) (ow : Own) (d : Nat → Int) (via τ r : Nat → Nat) (tm : Nat), p.2.1 = j ∧ j ≤ M ∧ z = M - j ∧ Bs h ow q ∧ B1 ow q 9 b1 [.int .i64 n, gv] ∧ S1 ow q 1 (slV b4 n) (ints n d) ∧ S1 ow q 2 (slV b7 n) (ints n fun v => (via v : Nat)) ∧
      BF M (frE es) (toE es) (ckE es) U 1048576 (t + 1) j d via τ r tm ∧ tm ≤ 1 + t * 8192 + j ∧ ((p.1 = -1 ∧ ∀ v, r v ≤ t) ∨ ∃ v : Nat, p.1 = v ∧ v < n ∧ r v = t + 1)
    refine ⟨fun p q => ∃ k, I3 p q k, Go.Proofs.Ytkdnnfpmppmmcaa.rk I3, rk_wf I3, ⟨_, 0, ow, d, via, τ, r, tm, rfl, by omega, rfl, bs, k9, kD, kV, B0, by omega, .inl ⟨rfl, hr⟩⟩, ?_⟩
    clear bs k9 kD kV B0 htm hr hB
    intro last2 p q2 hI
    obtain ⟨j, ow, d, via, τ, r, tm, e1, hj, hz2, bs, k9, kD, kV, B0, htm, hl⟩ := mu_spec hI
    generalize hkk2 : mu I3 ((last2, p, ()), q2) = km2 at *
    change p = (j : Int) at e1
    change (last2 = -1 ∧ ∀ v, r v ≤ t) ∨ ∃ v : Nat, last2 = v ∧ v < n ∧ r v = t + 1 at hl
    subst e1
    have hlt2 : j < M → M - (j + 1) < mu I3 ((last2, (j : Int), ()), q2) := fun h => by rw [hkk2, hz2]; exact sub_dec h
    clear hI
    refine ⟨_, k9.ld rfl, (Gv.ext bs.ext).len fun _ _ => ifP_of (fun h2 => ?_) (fun h2 => ?_)⟩
    · have hjm : j < M := by have := of_decide_eq_true h2; omega
      have hA := hnA j hjm
      rw [i64_inc (by omega)]
      refine ⟨_, k9.ld rfl, (Gv.ext bs.ext).e4 hjm (new_bl_st rfl rfl (ed_one _) ?_)⟩
      intro b27 q3 hb27 x27 B27
      have kE : B1 (own1 ow b27 8) q3 8 b27 (es j).vs := B1.new B27
      have bs := bs.nw (j := 8) x27 hb27
      have k9 := k9.nw (j := 8) x27 hb27
      have kD := kD.nw (j := 8) x27 hb27
      have kV := kV.nw (j := 8) x27 hb27
      generalize own1 ow b27 8 = ow at *
      have l1 := B0.lb (frE es j)
      have l2 := B0.neg (frE es j)
      have cb := hk j hjm
      have ef := (hE1 j hjm).1
      have et := (hE2 j hjm).1
      have ed : IntKind.i64.wrap (d (frE es j) + (es j).k) = d (frE es j) + (es j).k := w64_in (by omega) (by omega)
      refine ⟨_, kE.ld rfl, ?_⟩
      rw [ef]
      refine kD.rdI hA.1 ⟨_, kE.ld rfl, _, kE.ld rfl, ?_⟩
      rw [et]
      refine kD.rdI hA.2 ?_
      rw [ed]
      refine ifP_of (fun h4 => ?_) (fun h4 => ?_)
      · have h4 := of_decide_eq_true h4
        refine ⟨_, kE.ld rfl, _, kE.ld rfl, ?_⟩
        rw [ef]
        refine kD.rdI hA.1 ⟨_, kE.ld rfl, ?_⟩
        rw [et]
        dsimp only
        rw [ed]
        refine kD.setI hA.2 fun g F1 kD => ?_
        have bs := bs.fm F1 (by simp <;> omega)
        have k9 := k9.fm F1 (by simp <;> omega)
        have kV := kV.fm F1 (by simp <;> omega)
        have kE := kE.fm F1 (by simp <;> omega)
        refine ⟨_, kE.ld rfl, ?_⟩
        rw [et]
        refine kV.setI hA.2 fun g2 F2 kV => ?_
        have bs := bs.fm F2 (by simp <;> omega)
        have k9 := k9.fm F2 (by simp <;> omega)
        have kD := kD.fm F2 (by simp <;> omega)
        have kE := kE.fm F2 (by simp <;> omega)
        have ev : upd (fun v => ((via v : Nat) : Int)) (toE es j) (j : Int) = fun v => ((updN via (toE es j) j v : Nat) : Int) := by
          funext v; unfold upd updN; split <;> rfl
        rw [ev] at kV
        refine ⟨_, kE.ld rfl, ?_⟩
        rw [et]
        exact mu_next (I := I3) (k := M - (j + 1)) ⟨j + 1, ow, _, _, _, _, tm + 1, rfl, hjm, rfl, bs, k9, kD, kV, B0.relax (by omega) hjm trivial (fun i hi => (hk i hi).1) (by omega) h4, by omega, .inr ⟨toE es j, rfl, hA.2, by rw [updN_at]⟩⟩ (hlt2 hjm)
      · have h4 := of_decide_eq_false h4
        exact mu_next (I := I3) (k := M - (j + 1)) ⟨j + 1, ow, d, via, τ, r, tm, rfl, hjm, rfl, bs, k9, kD, kV, B0.skip (.inr (by have : ckE es j = (es j).k := rfl; omega)), by omega, hl⟩ (hlt2 hjm)
    · have : j = M := by have := of_decide_eq_false h2; omega
      subst this
      refine mu_next (I := I) (k := n + 1 - (t + 1)) ⟨t + 1, ow, d, via, τ, r, tm, rfl, htn, rfl, bs, k9, kD, kV, B0.next, by omega, B0.rk, fun _ => ⟨B0, ?_⟩⟩ (hlt htn)
      rcases hl with ⟨h, hr⟩ | h
      · exact .inl ⟨h, fun v => by have := hr v; omega⟩
      · exact .inr h
  have : t = n + 1 := by have := of_decide_eq_false h1; omega
  subst this
  obtain ⟨B, hB⟩ := hB (by omega)
  clear hlt hkk hz h1 B0
  rcases hB with ⟨rfl, hr⟩ | ⟨v, rfl, hvn, hrv⟩
  · refine ifP_of (fun _ => ?_) (fun h => by simp at h)
    exact ⟨_, [], rfl, bs.ext, ⟨none, 0, rfl, fun j x hj => by simp [natV] at hj⟩, .inl ⟨rfl, d, fun i hi => B.done hr i hi trivial⟩⟩
  refine ifP_of (fun h => by have := of_decide_eq_true h; omega) (fun _ => ?_)
  obtain ⟨hset, L, hC, hmin⟩ := B.circle hnA hrv
  let I7 : (Int × Int × Unit) → H → Nat → Prop := fun p q' z => ∃ s : Nat, p.2.1 = s ∧ p.1 = (bck (frE es) via v s : Nat) ∧ s ≤ n ∧ z = n - s ∧ q' = q
  refine ⟨fun p q => ∃ k, I7 p q k, Go.Proofs.Ytkdnnfpmppmmcaa.rk I7, rk_wf I7, ⟨_, 0, rfl, rfl, by omega, rfl, rfl⟩, ?_⟩
  intro la p q7 hI
  obtain ⟨s, e1, e2, hs, hz, e3⟩ := mu_spec hI
  generalize hkk : mu I7 ((la, p, ()), q7) = km at *
  change p = (s : Int) at e1
  change la = (bck (frE es) via v s : Nat) at e2
  subst e1 e2 e3
  have hlt : s < n → n - (s + 1) < mu I7 ((((bck (frE es) via v s : Nat) : Int), (s : Int), ()), q7) := fun h => by rw [hkk, hz]; exact sub_dec h
  clear hI
  refine ⟨_, k9.ld rfl, ifP_of (fun h1 => ?_) (fun h1 => ?_)⟩
  · have hsn : s < n := by have := of_decide_eq_true h1; omega
    have hA := hset s
    have ef := (hE1 _ hA.1).1
    rw [i64_inc (by omega)]
    refine kV.at (ints_get hA.2) fun a54 ha54 => ⟨_, k9.ld rfl, _, ha54, (Gv.ext bs.ext).f hA.1 ?_⟩
    rw [ef]
    exact mu_next (I := I7) (k := n - (s + 1)) ⟨s + 1, rfl, rfl, hsn, rfl, rfl⟩ (hlt hsn)
  have : s = n := by have := of_decide_eq_false h1; omega
  subst this
  clear hlt hkk hz h1 hs B
  obtain ⟨Y, hY⟩ : ∃ Y : Nat → Nat, Y = fun t => bck (frE es) via v (s + t) := ⟨_, rfl⟩
  have Y0 : bck (frE es) via v s = Y 0 := by rw [hY]; rfl
  have Yt : ∀ t, bck (frE es) via v (s + t) = Y t := fun t => by rw [hY]
  have Yset : ∀ t, via (Y t) < M ∧ Y t < s := fun t => by rw [hY]; exact hset _
  have Ys : ∀ t, frE es (via (Y t)) = Y (t + 1) := fun t => by rw [hY]; rfl
  have hC : CircP s M (frE es) (toE es) (ckE es) Y (fun t => via (Y t)) L := by rw [hY]; exact hC
  rw [Y0]
  simp only [Yt, Y0] at hmin
  clear hset hrv
  refine kV.rdI (Yset 0).2 (new_bl ?_)
  intro b61 q61 hb61 x61 B61
  have kL : S1 (own1 ow b61 3) q61 3 (.slice (some (bk b61)) 1 1) (natV (LP (fun t => via (Y t)) 1)) := .inr ⟨b61, own1_at, 1, B61.choose, [], rfl, B61.choose_spec, rfl⟩
  have bs := bs.nw (j := 3) x61 hb61
  have k9 := k9.nw (j := 3) x61 hb61
  have kV := kV.nw (j := 3) x61 hb61
  generalize own1 ow b61 3 = ow2 at *
  let I8 : (Value × Unit) → H → Nat → Prop := fun p q z => ∃ (t : Nat) (ow : Own), t < L ∧ z = L - t ∧ Bs h ow q ∧ B1 ow q 9 b1 [.int .i64 s, gv] ∧ S1 ow q 2 (slV b7 s) (ints s fun v => (via v : Nat)) ∧ RS q p.1 (natV (LP (fun t => via (Y t)) (t + 1)))
  refine ⟨fun p q => ∃ k, I8 p q k, Go.Proofs.Ytkdnnfpmppmmcaa.rk I8, rk_wf I8, ⟨_, 0, ow2, by have := hC.p1; omega, rfl, bs, k9, kV, RS.of_S1 kL⟩, ?_⟩
  clear bs k9 kV kL
  intro ls q8 hI
  obtain ⟨t, ow, htL, hz, bs, k9, kV, kL⟩ := mu_spec hI
  generalize hkk : mu I8 ((ls, ()), q8) = km at *
  change RS q8 ls _ at kL
  have hlt : L - (t + 1) < mu I8 ((ls, ()), q8) := by rw [hkk, hz]; omega
  clear hI
  have ef := (hE1 _ (Yset t).1).1
  have pn := hC.pn
  refine kL.at (j := 0) LP_head fun a67 ha67 => ⟨_, k9.ld rfl, _, ha67, (Gv.ext bs.ext).f (Yset t).1 ?_⟩
  rw [ef, Ys]
  refine ifP_of (fun h1 => ?_) (fun h1 => ?_)
  · have hne : Y (t + 1) ≠ Y 0 := fun e => by rw [e] at h1; simp at h1
    have htL2 : t + 1 < L := by
      by_cases e : t + 1 = L
      · rw [e] at hne; exact absurd hC.cl hne
      · omega
    refine kL.at (j := 0) LP_head fun a72 ha72 => ⟨_, k9.ld rfl, _, ha72, (Gv.ext bs.ext).f (Yset t).1 ?_⟩
    rw [ef, Ys]
    refine kV.rdI (Yset (t + 1)).2 (new_bl ?_)
    intro b79 q79 hb79 x79 B79
    have kN : S1 (own1 ow b79 4) q79 4 (.slice (some (bk b79)) 1 1) [.int .i64 ((via (Y (t + 1)) : Nat) : Int)] := .inr ⟨b79, own1_at, 1, B79.choose, [], rfl, B79.choose_spec, rfl⟩
    have bs := bs.nw (j := 4) x79 hb79
    have k9 := k9.nw (j := 4) x79 hb79
    have kV := kV.nw (j := 4) x79 hb79
    have kL := kL.ext x79
    generalize own1 ow b79 4 = ow at *
    refine kN.catR kL (by
      intro v hv
      unfold natV at hv
      obtain ⟨j, _, rfl⟩ := List.mem_map.1 hv
      rfl) (by omega) (by rw [natV_length, LP_len]; simp; omega) ?_
    intro s81 ow3 q82 F1 kN
    have bs := bs.fm F1 (by simp <;> omega)
    have k9 := k9.fm F1 (by simp <;> omega)
    have kV := kV.fm F1 (by simp <;> omega)
    refine mu_next (I := I8) (k := L - (t + 1)) ⟨t + 1, ow3, htL2, rfl, bs, k9, kV, RS.of_S1 kN⟩ hlt
  · have hcl : Y (t + 1) = Y 0 := by
      have h1' : ((Y (t + 1) : Nat) : Int) = ((Y 0 : Nat) : Int) := by simpa using h1
      omega
    have htL2 : t + 1 = L := by
      apply Classical.byContradiction
      intro h
      exact hmin (t + 1) (by omega) (by omega) hcl
    exact ⟨ls, _, rfl, bs.ext, kL, .inr ⟨Y, _, t + 1, rfl, by rw [htL2]; exact hC⟩⟩
end

end Go.Proofs.Ytkdnnfpmppmmcaa

namespace Go.Proofs.Ytkdnnfpmppmmcaa
open Go
set_option linter.unusedVariables false
set_option linter.unusedSimpArgs false

section
variable {h : H} {w : List Value} {n M : Nat} {es : Nat → Ed} {dv : Value} {d : Nat → Int}
theorem ints_o1 (n : Nat) (f : Nat → Int) : ∀ v ∈ ints n f, v.oneCell' = true := by
  intro v hv
  unfold ints at hv
  obtain ⟨j, _, rfl⟩ := List.mem_map.1 hv
  rfl
theorem rounds_R (G : GrA h w n M es) (hE1 : ∀ i, i < M → (es i).f = (frE es i : Nat) ∧ frE es i < n) (hE2 : ∀ i, i < M → (es i).t = (toE es i : Nat) ∧ toE es i < n) (n1 : n ≤ 1024) (M1 : M ≤ 8192) (D : RS h dv (ints n d)) :
    T Try.prog F.compassref08_rounds [.agg ⟨w⟩, dv, .int .i64 n] h fun r h' => ∃ v d', r = .ret v ∧ Ext h h' ∧ RS h' v (ints n d') := by
  refine E_compassref08_rounds ?_
  unfold B_compassref08_rounds
  obtain ⟨gv, rfl, Gv⟩ := G.gs
  refine new_bl ?_
  intro b1 q1 hb1 x1 B
  let I : (Value × Int × Unit) → H → Nat → Prop := fun p q z => ∃ (t : Nat) (d : Nat → Int), p.2.1 = t ∧ t ≤ n ∧ z = n - t ∧ Ext q1 q ∧ RS q p.1 (ints n d)
  refine ⟨fun p q => ∃ k, I p q k, rk I, rk_wf I, ⟨_, 0, d, rfl, by omega, rfl, Ext.refl _, D.ext x1⟩, ?_⟩
  intro dv p q hI
  obtain ⟨t, d, e1, ht, hz, xq, D⟩ := mu_spec hI
  generalize hkk : mu I ((dv, p, ()), q) = km at *
  change p = (t : Int) at e1
  change RS q dv _ at D
  subst e1
  have hlt : t < n → n - (t + 1) < mu I ((dv, (t : Int), ()), q) := fun h => by rw [hkk, hz]; exact sub_dec h
  clear hI
  refine ifP_of (fun h1 => ?_) (fun h1 => ⟨dv, d, rfl, x1.trans' xq, D⟩)
  have htn : t < n := by have := of_decide_eq_true h1; omega
  rw [i64_inc (by omega)]
  refine new_put ?_
  intro b8 q8 hb8 x8 h8
  have k1 : S1 (own1 (fun _ => 0) b8 1) q8 1 (.slice (some (bk b8)) 0 0) [] := .inr ⟨b8, own1_at, 0, 2, [], rfl, h8, rfl⟩
  have bs : Bs q (own1 (fun _ => 0) b8 1) q8 := Bs.start.new x8 hb8
  generalize own1 (fun _ => 0) b8 1 = ow at *
  refine k1.catR (D.ext x8) (ints_o1 _ _) (by omega) (by rw [ints_length]; simp; omega) ?_
  intro s10 ow2 q11 F1 k1
  rw [List.nil_append] at k1
  have bs := bs.fm F1 (by simp <;> omega)
  let I2 : (Int × Unit) → H → Nat → Prop := fun p q' z => ∃ (j : Nat) (ow : Own) (d2 : Nat → Int), p.1 = j ∧ j ≤ M ∧ z = M - j ∧ Bs q ow q' ∧ S1 ow q' 1 s10 (ints n d2)
  refine ⟨fun p q => ∃ k, I2 p q k, rk I2, rk_wf I2, ⟨_, 0, ow2, d, rfl, by omega, rfl, bs, k1⟩, ?_⟩
  clear bs k1
  intro p q3 hI
  obtain ⟨j, ow, d2, e1, hj, hz2, bs, k1⟩ := mu_spec hI
  generalize hkk2 : mu I2 ((p, ()), q3) = km2 at *
  change p = (j : Int) at e1
  subst e1
  have hlt2 : j < M → M - (j + 1) < mu I2 (((j : Int), ()), q3) := fun h => by rw [hkk2, hz2]; exact sub_dec h
  clear hI
  have B2 := (B.ext xq).ext bs.ext
  have xx := (x1.trans' xq).trans' bs.ext
  refine ⟨_, B2.ld rfl, (Gv.ext xx).len fun _ _ => ifP_of (fun h2 => ?_) (fun h2 => ?_)⟩
  · have hjm : j < M := by have := of_decide_eq_true h2; omega
    have ef := (hE1 j hjm)
    have et := (hE2 j hjm)
    rw [i64_inc (by omega)]
    refine ⟨_, B2.ld rfl, (Gv.ext xx).e4 hjm (new_bl_st rfl rfl (ed_one _) ?_)⟩
    intro b23 q4 hb23 x23 B23
    have kE : B1 (own1 ow b23 8) q4 8 b23 (es j).vs := B1.new B23
    have bs := bs.nw (j := 8) x23 hb23
    have k1 := k1.nw (j := 8) x23 hb23
    generalize own1 ow b23 8 = ow at *
    have Dz := D.ext bs.ext
    have next : (∃ k, I2 (((j + 1 : Nat) : Int), ()) q4 k) ∧ rk I2 ((((j + 1 : Nat) : Int), ()), q4) (((j : Int), ()), q3) := mu_next (I := I2) (k := M - (j + 1)) ⟨j + 1, ow, d2, rfl, hjm, rfl, bs, k1⟩ (hlt2 hjm)
    refine ⟨_, kE.ld rfl, ?_⟩
    rw [ef.1]
    refine Dz.rdI ef.2 (ifP_of (fun _ => ?_) (fun _ => next))
    refine ⟨_, kE.ld rfl, ?_⟩
    rw [ef.1]
    refine Dz.rdI ef.2 ⟨_, kE.ld rfl, _, kE.ld rfl, ?_⟩
    rw [et.1]
    refine k1.rdI et.2 (ifP_of (fun _ => ?_) (fun _ => next))
    refine ⟨_, kE.ld rfl, _, kE.ld rfl, ?_⟩
    rw [ef.1]
    refine Dz.rdI ef.2 ⟨_, kE.ld rfl, ?_⟩
    rw [et.1]
    refine k1.setI et.2 fun g F2 k1 => ?_
    have bs := bs.fm F2 (by simp <;> omega)
    exact mu_next (I := I2) (k := M - (j + 1)) ⟨j + 1, ow, _, rfl, hjm, rfl, bs, k1⟩ (hlt2 hjm)
  · exact mu_next (I := I) (k := n - (t + 1)) ⟨t + 1, d2, rfl, htn, rfl, xq.trans' bs.ext, RS.of_S1 k1⟩ (hlt htn)
theorem settled_R (G : GrA h w n M es) (hE1 : ∀ i, i < M → (es i).f = (frE es i : Nat) ∧ frE es i < n) (hE2 : ∀ i, i < M → (es i).t = (toE es i : Nat) ∧ toE es i < n) (M1 : M ≤ 8192) (D : RS h dv (ints n d)) :
    T Try.prog F.compassref08_settled [.agg ⟨w⟩, dv] h fun r h' => ∃ t : Bool, r = .ret (.bool t) ∧ Ext h h' := by
  refine E_compassref08_settled ?_
  unfold B_compassref08_settled
  obtain ⟨gv, rfl, Gv⟩ := G.gs
  refine new_bl ?_
  intro b1 q1 hb1 x1 B
  let I2 : (Int × Unit) → H → Nat → Prop := fun p q' z => ∃ (j : Nat), p.1 = j ∧ j ≤ M ∧ z = M - j ∧ Ext q1 q'
  refine ⟨fun p q => ∃ k, I2 p q k, rk I2, rk_wf I2, ⟨_, 0, rfl, by omega, rfl, Ext.refl _⟩, ?_⟩
  intro p q3 hI
  obtain ⟨j, e1, hj, hz2, xq⟩ := mu_spec hI
  generalize hkk2 : mu I2 ((p, ()), q3) = km2 at *
  change p = (j : Int) at e1
  subst e1
  have hlt2 : j < M → M - (j + 1) < mu I2 (((j : Int), ()), q3) := fun h => by rw [hkk2, hz2]; exact sub_dec h
  clear hI
  have B2 := B.ext xq
  have xx := x1.trans' xq
  refine ⟨_, B2.ld rfl, (Gv.ext xx).len fun _ _ => ifP_of (fun h2 => ?_) (fun h2 => ⟨true, rfl, xx⟩)⟩
  have hjm : j < M := by have := of_decide_eq_true h2; omega
  have ef := (hE1 j hjm)
  have et := (hE2 j hjm)
  rw [i64_inc (by omega)]
  refine ⟨_, B2.ld rfl, (Gv.ext xx).e4 hjm (new_bl_st rfl rfl (ed_one _) ?_)⟩
  intro b23 q4 hb23 x23 kE
  have Dz := D.ext (xx.trans' x23)
  have next : (∃ k, I2 (((j + 1 : Nat) : Int), ()) q4 k) ∧ rk I2 ((((j + 1 : Nat) : Int), ()), q4) (((j : Int), ()), q3) := mu_next (I := I2) (k := M - (j + 1)) ⟨j + 1, rfl, hjm, rfl, xq.trans' x23⟩ (hlt2 hjm)
  refine ⟨_, kE.ld rfl, ?_⟩
  rw [ef.1]
  refine Dz.rdI ef.2 (ifP_of (fun _ => ?_) (fun _ => next))
  refine ⟨_, kE.ld rfl, ?_⟩
  rw [ef.1]
  refine Dz.rdI ef.2 ⟨_, kE.ld rfl, _, kE.ld rfl, ?_⟩
  rw [et.1]
  exact Dz.rdI et.2 (ifP_of (fun _ => ⟨false, rfl, xx.trans' x23⟩) (fun _ => next))
theorem Potentials_R (G : GrA h w n M es) : T Try.prog F.compassref08_Potentials [.agg ⟨w⟩] h fun r h' => ∃ v c, r = .ret (.tuple ⟨[v, .int .i64 c]⟩) ∧ Ext h h' := by
  refine E_compassref08_Potentials ?_
  unfold B_compassref08_Potentials
  refine new_bl ?_
  intro b1 q1 hb1 x1 B
  refine B.ldN G.one.1 ((Check_R (G.ext x1)).mono ?_)
  rintro _ q2 ⟨rfl, x2⟩
  have x := x1.trans' x2
  have B := B.ext x2
  refine rt_ret ⟨_, _, rfl, ifP_of (fun h0 => ⟨_, _, rfl, x⟩) (fun h0 => ?_)⟩
  have h0 : (faultG n M es).1 = 0 := by simpa using h0
  have gd := Gd.iff.1 h0
  have n1 := gd.n1
  have m1 := gd.m1
  obtain ⟨gv, rfl, Gv⟩ := G.gs
  refine B.ldN rfl ⟨_, B.ld rfl, _, B.ld rfl, mk_ints 1 (by omega) (by omega) ?_⟩
  intro b11 q12 hb11 x11 S11
  rw [Int.toNat_natCast]
  have D := RS.of_S1 (S11 fun _ => 0)
  have xb := x.trans' x11
  refine (rounds_R (G.ext xb) (fun i hi => gd.fr hi) (fun i hi => gd.to hi) n1 (by omega) D).mono ?_
  rintro _ q3 ⟨v, d', rfl, x3, D⟩
  have B := (B.ext x11).ext x3
  have xc := xb.trans' x3
  refine rt_ret (B.ldN rfl ((settled_R (G.ext xc) (fun i hi => gd.fr hi) (fun i hi => gd.to hi) (by omega) D).mono ?_))
  rintro _ q4 ⟨t, rfl, x4⟩
  exact rt_ret ⟨_, rfl, ifP_of (fun _ => ⟨_, _, rfl, xc.trans' x4⟩) (fun _ => ⟨_, _, rfl, xc.trans' x4⟩)⟩
end

end Go.Proofs.Ytkdnnfpmppmmcaa

namespace Go.Proofs.Ytkdnnfpmppmmcaa
open Go
set_option linter.unusedVariables false
set_option linter.unusedSimpArgs false

theorem sumN_split {a : Nat} {f : Nat → Int} : ∀ {b : Nat}, sumN (a + b) f = sumN a f + sumN b fun i => f (a + i)
  | 0 => by show sumN a f = sumN a f + 0; omega
  | b + 1 => by
    show sumN (a + b) f + f (a + b) = sumN a f + (sumN b (fun i => f (a + i)) + f (a + b))
    rw [sumN_split]; omega
/-- The graph with a source before and a sink behind. -/
def wdE (n m : Nat) (es : Nat → Ed) (bf : Nat → Int) (j : Nat) : Ed :=
  if j < m then es j else if 0 < bf (j - m) then ⟨n, (j - m : Nat), bf (j - m), 0⟩ else ⟨(j - m : Nat), (n + 1 : Nat), -bf (j - m), 0⟩
section
variable {n m : Nat} {es : Nat → Ed} {bf f g : Nat → Int}
theorem wd_lo {j : Nat} (h : j < m) : wdE n m es bf j = es j := if_pos h
theorem wd_hi {u : Nat} : wdE n m es bf (m + u) = if 0 < bf u then ⟨n, (u : Nat), bf u, 0⟩ else ⟨(u : Nat), (n + 1 : Nat), -bf u, 0⟩ := by
  unfold wdE
  rw [if_neg (by omega), show m + u - m = u by omega]
theorem wd_fr {u : Nat} : frE (wdE n m es bf) (m + u) = if 0 < bf u then n else u := by
  unfold frE; rw [wd_hi]; split <;> simp
theorem wd_to {u : Nat} : toE (wdE n m es bf) (m + u) = if 0 < bf u then u else n + 1 := by
  unfold toE; rw [wd_hi]; split <;> simp
theorem wd_cp {u : Nat} : cpE (wdE n m es bf) (m + u) = if 0 < bf u then bf u else -bf u := by
  unfold cpE; rw [wd_hi]; split <;> rfl
theorem wd_gw (gd : Gd n m es) (hs : supOK n n bf) : Gw (n + 2) (m + n) (wdE n m es bf) := by
  have key : ∀ i, i < m + n → i < m ∨ ∃ u, u < n ∧ i = m + u := fun i hi => by
    by_cases h : i < m
    · exact .inl h
    · exact .inr ⟨i - m, by omega, by omega⟩
  refine ⟨by have := gd.n1; omega, by have := gd.m1; have := gd.n1; omega, fun i hi => ?_, fun i hi => ?_, fun i hi => ?_, fun i hi => ?_⟩
  · rcases key i hi with h | ⟨u, hu, rfl⟩
    · have := gd.fr h
      unfold frE at *
      rw [wd_lo h]; exact ⟨this.1, by omega⟩
    · rw [wd_fr, wd_hi]
      split <;> exact ⟨rfl, by omega⟩
  · rcases key i hi with h | ⟨u, hu, rfl⟩
    · have := gd.to h
      unfold toE at *
      rw [wd_lo h]; exact ⟨this.1, by omega⟩
    · rw [wd_to, wd_hi]
      split <;> exact ⟨rfl, by omega⟩
  · rcases key i hi with h | ⟨u, hu, rfl⟩
    · rw [wd_lo h]; exact gd.c i h
    · have := hs.2.1 u hu
      rw [wd_hi]
      split
      · show 0 ≤ bf u ∧ bf u ≤ 1048576; omega
      · show 0 ≤ -bf u ∧ -bf u ≤ 1048576; omega
  · rcases key i hi with h | ⟨u, hu, rfl⟩
    · rw [wd_lo h]; exact gd.k i h
    · rw [wd_hi]
      split <;> (show -1048576 ≤ (0 : Int) ∧ (0 : Int) ≤ 1048576; omega)
theorem wd_out (v : Nat) : OutF (m + n) (frE (wdE n m es bf)) (toE (wdE n m es bf)) f v =
    OutF m (frE es) (toE es) f v + sumN n fun u => (if (if 0 < bf u then n else u) = v then f (m + u) else 0) - (if (if 0 < bf u then u else n + 1) = v then f (m + u) else 0) := by
  unfold OutF
  rw [sumN_split]
  congr 1
  · refine sumN_congr fun i hi => ?_
    unfold frE toE
    rw [wd_lo hi]
  · refine sumN_congr fun u _ => ?_
    rw [wd_fr, wd_to]
theorem wd_out_v {v : Nat} (hv : v < n) : OutF (m + n) (frE (wdE n m es bf)) (toE (wdE n m es bf)) f v = OutF m (frE es) (toE es) f v + (if 0 < bf v then -f (m + v) else f (m + v)) := by
  rw [wd_out]
  congr 1
  rw [← sumN_ptf (f := fun v => if 0 < bf v then -f (m + v) else f (m + v)) hv]
  refine sumN_congr fun u hu => ?_
  by_cases h : 0 < bf u
  · simp only [h, if_true]
    rw [if_neg (show ¬ n = v by omega)]
    by_cases e : u = v
    · subst e; simp
    · rw [if_neg e, if_neg (fun h => e h.symm)]; omega
  · simp only [h, if_false]
    rw [if_neg (show ¬ n + 1 = v by omega)]
    by_cases e : u = v
    · subst e; simp
    · rw [if_neg e, if_neg (fun h => e h.symm)]; omega
theorem wd_out_s (hn : ∀ i, i < m → frE es i < n ∧ toE es i < n) : OutF (m + n) (frE (wdE n m es bf)) (toE (wdE n m es bf)) f n = sumN n fun u => if 0 < bf u then f (m + u) else 0 := by
  rw [wd_out]
  have e : OutF m (frE es) (toE es) f n = 0 := sumN_zero fun i hi => by
    have := hn i hi
    rw [if_neg (by omega), if_neg (by omega)]; rfl
  rw [e, Int.zero_add]
  refine sumN_congr fun u hu => ?_
  by_cases h : 0 < bf u
  · simp only [h, if_true]
    rw [if_neg (show ¬ u = n by omega)]; omega
  · simp only [h, if_false]
    rw [if_neg (show ¬ u = n by omega), if_neg (show ¬ n + 1 = n by omega)]; rfl
theorem wd_out_t (hn : ∀ i, i < m → frE es i < n ∧ toE es i < n) : OutF (m + n) (frE (wdE n m es bf)) (toE (wdE n m es bf)) f (n + 1) = - sumN n fun u => if 0 < bf u then 0 else f (m + u) := by
  rw [wd_out]
  have e : OutF m (frE es) (toE es) f (n + 1) = 0 := sumN_zero fun i hi => by
    have := hn i hi
    rw [if_neg (by omega), if_neg (by omega)]; rfl
  rw [e, Int.zero_add]
  have e2 := sumN_sub (f := fun _ => 0) (g := fun u => if 0 < bf u then 0 else f (m + u)) (k := n)
  rw [sumN_zero fun _ _ => rfl] at e2
  rw [← Int.zero_sub, ← e2]
  refine sumN_congr fun u hu => ?_
  by_cases h : 0 < bf u
  · simp only [h, if_true]
    rw [if_neg (show ¬ n = n + 1 by omega), if_neg (show ¬ u = n + 1 by omega)]
  · simp only [h, if_false, if_true]
    rw [if_neg (show ¬ u = n + 1 by omega)]
theorem plan_flow (gd : Gd n m es) (P : PlanP n m (frE es) (toE es) (cpE es) bf g) :
    ∃ G, FlowP (n + 2) (m + n) (frE (wdE n m es bf)) (toE (wdE n m es bf)) (cpE (wdE n m es bf)) n (n + 1) G ∧ OutF (m + n) (frE (wdE n m es bf)) (toE (wdE n m es bf)) G n = posS n bf := by
  let G : Nat → Int := fun j => if j < m then g j else cpE (wdE n m es bf) j
  have Ghi : ∀ u, G (m + u) = if 0 < bf u then bf u else -bf u := fun u => by
    show (if m + u < m then g (m + u) else cpE (wdE n m es bf) (m + u)) = _
    rw [if_neg (by omega), wd_cp]
  have Gout : ∀ v, OutF m (frE es) (toE es) G v = OutF m (frE es) (toE es) g v := fun v => sumN_congr fun i hi => by
    show (if frE es i = v then (if i < m then g i else cpE (wdE n m es bf) i) else 0) - _ = _
    rw [if_pos hi]
    show _ - (if toE es i = v then (if i < m then g i else cpE (wdE n m es bf) i) else 0) = _
    rw [if_pos hi]
  refine ⟨G, ⟨fun i hi => ?_, fun v hv h1 h2 => ?_⟩, ?_⟩
  · by_cases h : i < m
    · have := P.cp i h
      show 0 ≤ (if i < m then g i else cpE (wdE n m es bf) i) ∧ (if i < m then g i else cpE (wdE n m es bf) i) ≤ _
      rw [if_pos h]
      unfold cpE at *
      rw [wd_lo h]; exact this
    · have e : i = m + (i - m) := by omega
      rw [e, Ghi, wd_cp]
      refine ⟨by split <;> omega, Int.le_refl _⟩
  · have hvn : v < n := by omega
    rw [wd_out_v hvn, Gout, P.out v hvn, Ghi]
    split <;> omega
  · rw [wd_out_s gd.ends]
    unfold posS
    refine sumN_congr fun u _ => ?_
    rw [Ghi]
    split
    · rfl
    · rfl
theorem flow_plan (gd : Gd n m es) (hs : supOK n n bf) (F : FlowP (n + 2) (m + n) (frE (wdE n m es bf)) (toE (wdE n m es bf)) (cpE (wdE n m es bf)) n (n + 1) f)
    (hv : posS n bf ≤ OutF (m + n) (frE (wdE n m es bf)) (toE (wdE n m es bf)) f n) : PlanP n m (frE es) (toE es) (cpE es) bf f := by
  have hw := wd_gw gd hs
  have hcp : ∀ u, u < n → 0 ≤ f (m + u) ∧ f (m + u) ≤ if 0 < bf u then bf u else -bf u := fun u hu => by
    have := F.cp (m + u) (by omega)
    rwa [wd_cp] at this
  have es_ := wd_out_s (f := f) (bf := bf) gd.ends
  have et := wd_out_t (f := f) (bf := bf) gd.ends
  rw [es_] at hv
  -- the source's edges are full
  have d1 : ∀ u, u < n → 0 ≤ (if 0 < bf u then bf u else 0) - (if 0 < bf u then f (m + u) else 0) := fun u hu => by
    have := hcp u hu
    split at this <;> simp_all <;> omega
  have z1 := sumN_all0 d1 (by rw [sumN_sub]; unfold posS at hv; omega)
  -- the sink's edges are full
  have all := out_all (n := n + 2) (f := f) hw.ends
  have e2 : sumN (n + 2) (fun v => OutF (m + n) (frE (wdE n m es bf)) (toE (wdE n m es bf)) f v) = sumN n (fun v => OutF (m + n) (frE (wdE n m es bf)) (toE (wdE n m es bf)) f v) + OutF (m + n) (frE (wdE n m es bf)) (toE (wdE n m es bf)) f n + OutF (m + n) (frE (wdE n m es bf)) (toE (wdE n m es bf)) f (n + 1) := rfl
  rw [e2, sumN_zero fun v hv => F.cons v (by omega) (by omega) (by omega), es_, et] at all
  have hb : sumN n (fun u => if 0 < bf u then bf u else 0) + sumN n (fun u => if 0 < bf u then 0 else bf u) = 0 := by
    rw [← sumN_add]
    exact (sumN_congr fun u _ => by split <;> omega).trans hs.2.2
  have d2 : ∀ u, u < n → 0 ≤ (if 0 < bf u then 0 else -bf u) - (if 0 < bf u then 0 else f (m + u)) := fun u hu => by
    have := hcp u hu
    split at this <;> simp_all <;> omega
  have hneg : sumN n (fun u => if 0 < bf u then 0 else -bf u) = - sumN n (fun u => if 0 < bf u then 0 else bf u) := by
    have e3 := sumN_sub (f := fun _ => 0) (g := fun u => if 0 < bf u then 0 else bf u) (k := n)
    rw [sumN_zero fun _ _ => rfl] at e3
    rw [← Int.zero_sub, ← e3]
    exact sumN_congr fun u _ => by split <;> omega
  have z2 := sumN_all0 d2 (by rw [sumN_sub, hneg]; unfold posS at hv; omega)
  refine ⟨fun i hi => ?_, fun v hvn => ?_⟩
  · have := F.cp i (by omega)
    unfold cpE at *
    rwa [wd_lo hi] at this
  · have c := F.cons v (by omega) (by omega) (by omega)
    rw [wd_out_v hvn] at c
    have a1 := z1 v hvn
    have a2 := z2 v hvn
    by_cases h : 0 < bf v
    · rw [if_pos h] at c; rw [if_pos h, if_pos h] at a1; omega
    · rw [if_neg h] at c; rw [if_neg h, if_neg h] at a2; omega
end
/-- Sending along arcs, the last first. -/
theorem circ_snd {m : Nat} {fr to : Nat → Nat} {cap k : Nat → Int} {x : Int} {Y A : Nat → Nat} (hx : 0 ≤ x) : ∀ {p : Nat} {room : Nat → Int}, RmP m cap room → (∀ s, s < p → A s < 2 * m ∧ hdA fr to (A s) = Y s ∧ tlA fr to (A s) = Y (s + 1) ∧ x ≤ room (A s)) → (∀ s t, s < t → t < p → A s ≠ A t) →
    RmP m cap (sndF room (LP A p) x) ∧ (∀ v, OutF m fr to (onR (sndF room (LP A p) x)) v = OutF m fr to (onR room) v + (if Y p = v then x else 0) - (if Y 0 = v then x else 0)) ∧
      totC m k (onR (sndF room (LP A p) x)) = totC m k (onR room) + x * sumN p fun s => cA k (A s)
  | 0, room, R, _, _ => ⟨R, fun v => by show OutF m fr to (onR room) v = _; omega, by show totC m k (onR room) = totC m k (onR room) + x * 0; omega⟩
  | p + 1, room, R, h, hd => by
    obtain ⟨a1, a2, a3, a4⟩ := h p (by omega)
    obtain ⟨r1, r2, r3⟩ := circ_snd (k := k) (p := p) (room := sndR room (A p) x) hx (R.snd a1 hx a4) (fun s hs => by
      obtain ⟨b1, b2, b3, b4⟩ := h s (by omega)
      refine ⟨b1, b2, b3, ?_⟩
      have ne := hd s p hs (by omega)
      by_cases e : A s = prA (A p)
      · rw [e, sndR_p]; rw [e] at b4; omega
      · rw [sndR_o ne e]; exact b4) (fun s t h1 h2 => hd s t h1 (by omega))
    refine ⟨r1, fun v => ?_, ?_⟩
    · show OutF m fr to (onR (sndF (sndR room (A p) x) (LP A p) x)) v = _
      rw [r2 v, out_snd a1, a2, a3]; omega
    · show totC m k (onR (sndF (sndR room (A p) x) (LP A p) x)) = _
      rw [r3, tot_snd a1]
      show _ = _ + x * (sumN p (fun s => cA k (A s)) + cA k (A p))
      rw [Int.mul_add, Int.mul_comm x (cA k (A p))]; omega

end Go.Proofs.Ytkdnnfpmppmmcaa

namespace Go.Proofs.Ytkdnnfpmppmmcaa
open Go
open Classical
set_option linter.unusedVariables false
set_option linter.unusedSimpArgs false

section
variable {h : H} {w : List Value} {n m : Nat} {es : Nat → Ed} {sv : Value} {bf : Nat → Int}
/-- The first ones. -/
theorem RS.take {v : Value} {a b : Nat} {f : Nat → Int} (s : RS h v (ints (a + b) f)) (hc : capV v) (hb : 0 < b) : ∃ ad l c, v = .slice ad l c ∧ l = a + b ∧ a ≤ c ∧ RS h (sliceV ad c 0 (a : Int) 1) (ints a f) := by
  obtain ⟨ad, c, e, k⟩ := s
  obtain ⟨ad2, l2, c2, e2, hle⟩ := hc
  rw [e] at e2
  simp only [Value.slice.injEq] at e2
  obtain ⟨rfl, rfl, rfl⟩ := e2
  rw [ints_length] at hle e
  obtain ⟨a0, ha0, _⟩ := k 0 _ (ints_get (show 0 < a + b by omega))
  subst ha0
  refine ⟨some a0, a + b, c, e, rfl, by omega, ⟨some a0, c, ?_, fun j x hj => ?_⟩⟩
  · unfold sliceV
    rw [if_neg (show ¬ c = (0 : Int).toNat by simp; omega)]
    simp [Addr.add, ints_length]
  · have hl := (List.getElem?_eq_some_iff.1 hj).1
    rw [ints_length] at hl
    refine k j x ?_
    rw [ints_get (by omega)]
    rwa [ints_get hl] at hj
theorem res_ends (gd : Gd n m es) (f : Nat → Int) : (∀ a, a < 2 * m → (resEd es f a).f = (frE (resEd es f) a : Nat) ∧ frE (resEd es f) a < n) ∧ (∀ a, a < 2 * m → (resEd es f a).t = (toE (resEd es f) a : Nat) ∧ toE (resEd es f) a < n) := by
  constructor
  · intro a ha
    have h1 := gd.fr (i := a / 2) (by omega)
    have h2 := gd.to (i := a / 2) (by omega)
    unfold frE resEd
    split
    · exact h1
    · exact h2
  · intro a ha
    have h1 := gd.fr (i := a / 2) (by omega)
    have h2 := gd.to (i := a / 2) (by omega)
    unfold toE resEd
    split
    · exact h2
    · exact h1
theorem res_k (es : Nat → Ed) (f : Nat → Int) (a : Nat) : (resEd es f a).k = cA (ckE es) a := by
  unfold resEd cA; split <;> rfl
def MinA (h : H) (n m : Nat) (es : Nat → Ed) (bf : Nat → Int) (r : Res) (h' : H) : Prop :=
  ∃ (von vpot vside : Value) (t : Bool), r = .ret (.tuple ⟨[von, vpot, vside, .bool t]⟩) ∧ Ext h h' ∧ ((t = true ∧ ∃ f, RS h' von (ints m f) ∧ PlanP n m (frE es) (toE es) (cpE es) bf f ∧ ∀ g, PlanP n m (frE es) (toE es) (cpE es) bf g → totC m (ckE es) f ≤ totC m (ckE es) g) ∨
    (t = false ∧ ∀ g, ¬ PlanP n m (frE es) (toE es) (cpE es) bf g))
theorem MinCost_R (G : GrA h w n m es) (gd : Gd n m es) (hs : supOK n n bf) (Z : RS h sv (ints n bf)) : T Try.prog F.compassref11_MinCost [.agg ⟨w⟩, sv] h (MinA h n m es bf) := by
  have n1 := gd.n1
  have m1 := gd.m1
  refine E_compassref11_MinCost ?_
  unfold B_compassref11_MinCost
  refine new_bl ?_
  intro b1 q1 hb1 x1 B
  refine B.ldN G.one.1 ((Copy_R (G.ext x1) (by omega)).mono ?_)
  rintro _ q2 ⟨ev, ow, rfl, bs, k1⟩
  obtain ⟨gv, rfl, Gv⟩ := G.gs
  refine rt_ret ⟨_, rfl, rfl, ?_⟩
  refine new_bl_st rfl rfl (by
    intro z hz
    simp only [List.mem_cons, List.not_mem_nil, or_false] at hz
    rcases hz with rfl | rfl
    · rfl
    · exact slc_one k1.isS) ?_
  intro b7 q9 hb7 x9 B7
  have k4 : B1 (own1 ow b7 4) q9 4 b7 [.int .i64 n, ev] := B1.new B7
  have bs := bs.nw (j := 4) x9 hb7
  have k1 := k1.nw (j := 4) x9 hb7
  generalize own1 ow b7 4 = ow at *
  refine ⟨_, k4.ld rfl, k4.st (by simp) fun q11 F1 k4 => ?_⟩
  have ew : IntKind.i64.wrap ((n : Int) + 2) = ((n + 2 : Nat) : Int) := w64_in (by omega) (by omega)
  rw [ew] at k4
  simp only [List.set] at k4
  have bs := bs.fm F1 (by simp <;> omega)
  have k1 := k1.fm F1 (by simp <;> omega)
  refine ⟨_, (B.ext bs.ext).ld rfl, ?_⟩
  let I : (Int × Int × Unit) → H → Nat → Prop := fun p q z => ∃ (j : Nat) (ow : Own) (ev : Value), p.2.1 = j ∧ j ≤ n ∧ z = n - j ∧ Bs q1 ow q ∧ B1 ow q 4 b7 [.int .i64 (n + 2 : Nat), ev] ∧ S4 ow q 1 ev (m + j) (wdE n m es bf) ∧ p.1 = posS j bf
  refine ⟨fun p q => ∃ k, I p q k, rk I, rk_wf I, ⟨_, 0, ow, ev, rfl, by omega, rfl, bs, k4, k1.congr fun i hi => wd_lo hi, rfl⟩, ?_⟩
  clear bs k4 k1 ew F1 x9 hb7
  intro tot p q hI
  obtain ⟨j, ow, ev, e1, hj, hz, bs, k4, k1, e3⟩ := mu_spec hI
  generalize hkk : mu I ((tot, p, ()), q) = km at *
  change p = (j : Int) at e1
  change tot = posS j bf at e3
  subst e1
  have hlt : j < n → n - (j + 1) < mu I ((tot, (j : Int), ()), q) := fun h => by rw [hkk, hz]; exact sub_dec h
  clear hI
  have B2 := B.ext bs.ext
  have x := x1.trans' bs.ext
  have pj : 0 ≤ posS j bf ∧ posS j bf ≤ j * 1048576 := ⟨posS_nn, sumN_bd fun i hi => by have := hs.2.1 i (by omega); split <;> omega⟩
  refine ⟨_, B2.ld rfl, ifP_of (fun h1 => ?_) (fun h1 => ?_)⟩
  · have hjn : j < n := by have := of_decide_eq_true h1; omega
    have bb := hs.2.1 j hjn
    rw [i64_inc (by omega)]
    have Zx := Z.ext x
    have eps : posS (j + 1) bf = posS j bf + (if 0 < bf j then bf j else 0) := rfl
    refine Zx.rdI hjn (ifP_of (fun h2 => ?_) (fun h2 => ?_))
    · have h2 := of_decide_eq_true h2
      refine Zx.at (ints_get hjn) fun a21 ha21 => ⟨_, k4.ld rfl, _, ha21, rfl, ?_⟩
      refine S4.push (ed := ⟨n, (j : Nat), bf j, 0⟩) k1 (by omega) ?_
      intro _ _ v2 own2 q33 _ _ F k1
      have bs := bs.fm F (by simp <;> omega)
      have k4 := k4.fm F (by simp <;> omega)
      refine oneP_slc k1.isS (k4.st (by simp) ?_)
      intro q34 F2 k4
      simp only [List.set] at k4
      have bs := bs.fm F2 (by simp <;> omega)
      have k1 := k1.fm F2 (by simp <;> omega)
      refine (Z.ext (x1.trans' bs.ext)).rdI hjn ?_
      have et : IntKind.i64.wrap (tot + bf j) = posS (j + 1) bf := by rw [eps, if_pos h2, e3]; exact w64_in (by omega) (by omega)
      rw [et]
      refine mu_next (I := I) (k := n - (j + 1)) ⟨j + 1, own2, v2, rfl, hjn, rfl, bs, k4, k1.congr fun i hi => ?_, rfl⟩ (hlt hjn)
      by_cases e : i = m + j
      · subst e; rw [if_pos rfl, wd_hi, if_pos h2]
      · rw [if_neg e]
    · have h2 := of_decide_eq_false h2
      refine Zx.at (ints_get hjn) fun a21 ha21 => ⟨_, k4.ld rfl, _, ha21, ?_⟩
      have e1 : IntKind.i64.wrap ((n : Int) + 1) = ((n + 1 : Nat) : Int) := i64_inc (by omega)
      have e2 : IntKind.i64.wrap (0 - bf j) = -bf j := by rw [show (0 : Int) - bf j = -bf j by omega]; exact w64_in (by omega) (by omega)
      dsimp only
      rw [e1, e2]
      refine ⟨rfl, ?_⟩
      refine S4.push (ed := ⟨(j : Nat), (n + 1 : Nat), -bf j, 0⟩) k1 (by omega) ?_
      intro _ _ v2 own2 q33 _ _ F k1
      have bs := bs.fm F (by simp <;> omega)
      have k4 := k4.fm F (by simp <;> omega)
      refine oneP_slc k1.isS (k4.st (by simp) ?_)
      intro q34 F2 k4
      simp only [List.set] at k4
      have bs := bs.fm F2 (by simp <;> omega)
      have k1 := k1.fm F2 (by simp <;> omega)
      refine mu_next (I := I) (k := n - (j + 1)) ⟨j + 1, own2, v2, rfl, hjn, rfl, bs, k4, k1.congr fun i hi => ?_, by show tot = _; rw [eps, if_neg h2, e3]; omega⟩ (hlt hjn)
      by_cases e : i = m + j
      · subst e; rw [if_pos rfl, wd_hi, if_neg h2]
      · rw [if_neg e]
  have hjn : j = n := by have := of_decide_eq_false h1; omega
  subst hjn
  clear hlt hkk hz h1 hj
  have hw := wd_gw gd hs
  have Gw_ := k1.gs.gr ((j + 2 : Nat) : Int)
  have e1 : IntKind.i64.wrap ((j : Int) + 1) = ((j + 1 : Nat) : Int) := i64_inc (by omega)
  rw [e1]
  refine k4.ldN rfl ((MaxFlow_C Gw_ hw (s := j) (t := j + 1) (by omega) (by omega) (by omega)).mono ?_)
  rintro _ q5 ⟨von, vsd, f, sd, rfl, x5, So, capo, Sd, caps, Mx, _⟩
  refine rt_ret ⟨_, _, rfl, ?_⟩
  have k4 := k4.ext x5
  have B2 := B2.ext x5
  have x := x.trans' x5
  have fb : ∀ i, i < m + j → -1099511627776 ≤ f i ∧ f i ≤ 1099511627776 := fun i hi => by
    have := Mx.fl.cp i hi
    have := hw.c i hi
    unfold cpE at *; omega
  refine k4.ldN rfl ((Out_R (Gw_.ext x5) hw So fb j).mono ?_)
  rintro _ q6 ⟨rfl, x6⟩
  refine rt_ret ⟨_, rfl, ?_⟩
  have B2 := B2.ext x6
  have x := x.trans' x6
  have So := So.ext x6
  rw [e3]
  refine ifP_of (fun h1 => ?_) (fun h1 => ?_)
  · have h1 := of_decide_eq_true h1
    obtain ⟨a, l, c, rfl, hc⟩ := caps
    have hl : l = j + 2 := by
      obtain ⟨_, _, e, _⟩ := Sd
      simp only [Value.slice.injEq] at e
      rw [e.2.1]; exact va_length _ _
    subst hl
    refine ⟨_, B2.ld rfl, slcP_mk ⟨by omega, by omega, by omega, by omega, ?_⟩⟩
    refine ⟨_, _, _, _, rfl, x, .inr ⟨rfl, fun g P => ?_⟩⟩
    obtain ⟨G', F', hv⟩ := plan_flow gd P
    have l1 := F'.le_cut hw.ends (by omega) .refl Mx.nr
    have l2 := Mx.cut hw.ends (by omega)
    omega
  have h1 := of_decide_eq_false h1
  have P0 := flow_plan gd hs Mx.fl (by omega)
  refine ⟨_, B2.ld rfl, (Gv.ext x).len fun _ _ => ?_⟩
  have St : ∃ ad l c, von = .slice ad l c ∧ m ≤ c ∧ RS q6 (sliceV ad c 0 (m : Int) 1) (ints m f) := by
    by_cases h0 : 0 < j
    · obtain ⟨ad, l, c, e, _, hc, S⟩ := So.take capo h0
      exact ⟨ad, l, c, e, hc, S⟩
    · have j0 : j = 0 := by omega
      have m0 : m = 0 := by
        apply Classical.byContradiction
        intro hm
        have := (gd.ends 0 (by omega)).1
        omega
      subst j0 m0
      obtain ⟨a, l, c, e, hc⟩ := capo
      refine ⟨a, l, c, e, Nat.zero_le _, ?_⟩
      unfold sliceV
      split
      · exact ⟨_, _, rfl, fun j x hj => by simp [ints] at hj⟩
      · exact ⟨_, _, rfl, fun j x hj => by simp [ints] at hj⟩
  obtain ⟨ad, lo, co, rfl, hco, S0⟩ := St
  refine slcP_mk ⟨by omega, by omega, by omega, by omega, ?_⟩
  clear So Sd caps capo Mx fb Gw_ hw k1 k4 bs e3 pj h1 x5 x6
  let I2 : (Value × Unit) → H → Nat → Prop := fun p q z => ∃ f, z = (totC m (ckE es) f + m * (1048576 * 1048576)).toNat ∧ Ext q6 q ∧ RS q p.1 (ints m f) ∧ PlanP j m (frE es) (toE es) (cpE es) bf f
  refine ⟨fun p q => ∃ k, I2 p q k, rk I2, rk_wf I2, ⟨_, f, rfl, Ext.refl _, S0, P0⟩, ?_⟩
  clear S0 P0
  intro on q7 hI
  obtain ⟨f, hz, xq, S, P⟩ := mu_spec hI
  generalize hkk : mu I2 ((on, ()), q7) = km at *
  change RS q7 on _ at S
  clear hI
  have B2 := B2.ext xq
  have x := x.trans' xq
  have fcp : ∀ i, i < m → 0 ≤ f i ∧ f i ≤ 1048576 := fun i hi => by
    have := P.cp i hi
    have := gd.c i hi
    unfold cpE at *; omega
  have Rm := resR_ok P.cp
  obtain ⟨rE1, rE2⟩ := res_ends gd f
  refine B2.ldN rfl ((Residual_R ((Gv.ext x).gr j) gd.w S P.cp).mono ?_)
  rintro _ q8 ⟨rv, rfl, x8, Gr⟩
  refine rt_ret ⟨_, rfl, rfl, (useful_R (Gr.gr j) (by omega)).mono ?_⟩
  rintro _ q9 ⟨uv, vw, rfl, x9, Gu, Sw⟩
  refine rt_ret ⟨_, rfl, _, rfl, ?_⟩
  refine new_bl_st rfl rfl (by
    intro z hz
    simp only [List.mem_cons, List.not_mem_nil, or_false] at hz
    rcases hz with rfl | rfl
    · rfl
    · exact slc_one Gu.isS) ?_
  intro b71 q10 hb71 x10 B71
  have ul := usl_len (es := resEd es f) (M := 2 * m)
  -- arcs behind the edges with capacity
  let W : Nat → Nat := fun i => (usl (resEd es f) (2 * m)).getD i 0
  have hW : ∀ i, i < (usl (resEd es f) (2 * m)).length → W i < 2 * m ∧ 0 < resR (cpE es) f (W i) := fun i hi => by
    have e : W i = (usl (resEd es f) (2 * m))[i] := by
      show (usl (resEd es f) (2 * m)).getD i 0 = _
      simp [hi]
    have := usl_mem.1 (show W i ∈ usl (resEd es f) (2 * m) by rw [e]; exact List.getElem_mem hi)
    rw [resEd_c] at this
    exact this
  have hWf : ∀ i, frE (subEd (resEd es f) (usl (resEd es f) (2 * m))) i = tlA (frE es) (toE es) (W i) := fun i => resEd_fr es f (W i)
  have hWt : ∀ i, toE (subEd (resEd es f) (usl (resEd es f) (2 * m))) i = hdA (frE es) (toE es) (W i) := fun i => resEd_to es f (W i)
  have hWk : ∀ i, (subEd (resEd es f) (usl (resEd es f) (2 * m)) i).k = cA (ckE es) (W i) := fun i => res_k es f (W i)
  have Gu2 := (Gu.ext x10).gr (j : Int)
  refine B71.ldN rfl ((Below_R Gu2 (fun i hi => rE1 (W i) (hW i hi).1) (fun i hi => rE2 (W i) (hW i hi).1) n1 (by omega) (fun i hi => by rw [hWk]; exact cA_bd gd.k (hW i hi).1)).mono ?_)
  rintro _ q11 ⟨vl, l, rfl, x11, Sl_, hl⟩
  have x7 := ((x8.trans' x9).trans' x10).trans' x11
  refine rt_ret (Sl_.len (natV_length l) fun _ _ => ?_)
  rcases hl with ⟨rfl, d, hd⟩ | ⟨Y, F, p, rfl, hC⟩
  · -- none left
    refine ifP_of (fun _ => ?_) (fun h => by simp at h)
    refine (B71.ext x11).ldN rfl ((Potentials_R (Gu2.ext x11)).mono ?_)
    rintro _ q12 ⟨vp, c, rfl, x12⟩
    refine rt_ret ⟨_, _, rfl, ?_⟩
    refine ⟨_, _, _, _, rfl, (x.trans' x7).trans' x12, .inl ⟨rfl, f, (S.ext x7).ext x12, P, fun g Pg => ?_⟩⟩
    have red : RedP m (frE es) (toE es) (ckE es) (resR (cpE es) f) d := fun a ha hr => by
      have hm : a ∈ usl (resEd es f) (2 * m) := usl_mem.2 ⟨ha, by rw [resEd_c]; exact hr⟩
      obtain ⟨i, hi, e⟩ := List.getElem_of_mem hm
      have eW : W i = a := by
        show (usl (resEd es f) (2 * m)).getD i 0 = _
        simp [hi, e]
      have := hd i hi
      rw [hWf, hWt, hWk, eW] at this
      omega
    have pt := red.pot Rm
    rw [onR_res] at pt
    exact P.best Pg gd.ends pt
  -- round it
  have pl : (LP F p).length = p := LP_len
  have p1 := hC.p1
  have pn := hC.pn
  refine ifP_of (fun h => by rw [pl] at h; simp at h; omega) (fun _ => ?_)
  let I3 : (Value × Int × Unit) → H → Nat → Prop := fun pp q z => ∃ (s : Nat) (ow : Own), pp.2.1 = s ∧ s ≤ p ∧ z = p - s ∧ Bs q11 ow q ∧ S1 ow q 7 pp.1 (natV (((LP F p).take s).map W))
  refine ⟨fun pp q => ∃ k, I3 pp q k, Go.Proofs.Ytkdnnfpmppmmcaa.rk I3, rk_wf I3, ⟨_, 0, fun _ => 0, rfl, by omega, rfl, Bs.start, S1.nil⟩, ?_⟩
  intro lst pp q12 hI
  obtain ⟨s, ow, e1, hs_, hz3, bs, k7⟩ := mu_spec hI
  generalize hkk3 : mu I3 ((lst, pp, ()), q12) = km3 at *
  change pp = (s : Int) at e1
  change S1 ow q12 7 lst _ at k7
  subst e1
  have hlt3 : s < p → p - (s + 1) < mu I3 ((lst, (s : Int), ()), q12) := fun h => by rw [hkk3, hz3]; exact sub_dec h
  clear hI
  have Slz := Sl_.ext bs.ext
  refine Slz.len (natV_length _) fun _ _ => ifP_of (fun h1 => ?_) (fun h1 => ?_)
  · have hsp : s < p := by have := of_decide_eq_true h1; omega
    have hsl : s < (LP F p).length := by omega
    obtain ⟨a, ha⟩ : ∃ a, a = (LP F p)[s] := ⟨_, rfl⟩
    have ham := LP_mem.1 (show a ∈ LP F p by rw [ha]; exact List.getElem_mem hsl)
    have haM : a < (usl (resEd es f) (2 * m)).length := by obtain ⟨t, h2, rfl⟩ := ham; exact (hC.arc t h2).1
    have htk : (LP F p).take (s + 1) = (LP F p).take s ++ [a] := by rw [ha, List.take_succ_eq_append_getElem hsl]
    rw [i64_inc (by omega)]
    refine Slz.rd (natV_get hsl) ?_
    rw [← ha]
    have eW : (usl (resEd es f) (2 * m))[a] = W a := by
      show _ = (usl (resEd es f) (2 * m)).getD a 0
      simp [haM]
    refine ((Sw.ext (x10.trans' x11)).ext bs.ext).rd (natV_get haM) ?_
    rw [eW]
    refine k7.push (l := 1) rfl (by simp [Value.oneCell']) (by simp) (by omega) (by rw [natV_length, List.length_map, List.length_take]; omega) ?_
    intro bx hm2 p' ow' q' hbx xm F3 k7
    have bs := bs.fm F3 (by simp <;> omega)
    refine mu_next (I := I3) (k := p - (s + 1)) ⟨s + 1, ow', rfl, hsp, rfl, bs, ?_⟩ (hlt3 hsp)
    show S1 ow' q' 7 p' (natV (((LP F p).take (s + 1)).map W))
    rw [htk, List.map_append, natV_append]
    exact k7
  have hsp : s = p := by have := of_decide_eq_false h1; omega
  subst hsp
  have elist : ((LP F s).take s).map W = LP (fun t => W (F t)) s := by
    rw [List.take_of_length_le (by omega), LP_map]
  rw [elist] at k7
  clear hlt3 hkk3 hz3 h1 hs_
  have x12 := x7.trans' bs.ext
  have xx := x.trans' x12
  have hA : ∀ t, t < s → W (F t) < 2 * m ∧ hdA (frE es) (toE es) (W (F t)) = Y t ∧ tlA (frE es) (toE es) (W (F t)) = Y (t + 1) ∧ 0 < resR (cpE es) f (W (F t)) := fun t ht => by
    obtain ⟨c1, c2, c3⟩ := hC.arc t ht
    rw [hWt] at c2
    rw [hWf] at c3
    exact ⟨(hW _ c1).1, c2, c3, (hW _ c1).2⟩
  refine (B2.ext x12).ldN rfl ((Residual_R ((Gv.ext xx).gr j) gd.w (S.ext x12) P.cp).mono ?_)
  rintro _ q13 ⟨rv2, rfl, x13, Gr2⟩
  refine rt_ret ⟨_, rfl, rfl, ?_⟩
  refine (room_R (Gr2.gr j) (l := LP (fun t => W (F t)) s) (by intro e; have := congrArg List.length e; rw [LP_len] at this; simp at this; omega) (by rw [LP_len]; omega) (fun a ha => by obtain ⟨t, ht, rfl⟩ := LP_mem.1 ha; exact (hA t ht).1) ((RS.of_S1 k7).ext x13)).mono ?_
  rintro _ q14 ⟨y, rfl, x14, hy1, a0, ha0, hy0⟩
  obtain ⟨t0, ht0, rfl⟩ := LP_mem.1 ha0
  rw [resEd_c] at hy0
  have yp : 0 < y := by rw [hy0]; exact (hA t0 ht0).2.2.2
  have yb : y ≤ 1048576 := by
    rw [hy0]
    exact (Rm.rb (fun i hi => (gd.c i hi).2) (hA t0 ht0).1).2
  refine rt_ret ⟨_, rfl, ?_⟩
  refine (change_C (((S.ext x12).ext x13).ext x14) (by omega) (fun i hi => by have := fcp i hi; omega) (x := y) (by omega) (((RS.of_S1 k7).ext x13).ext x14) (by rw [LP_len]; omega) (fun a ha => by obtain ⟨t, ht, rfl⟩ := LP_mem.1 ha; exact (hA t ht).1)).mono ?_
  rintro _ q15 ⟨on2, rfl, x15, S2, _⟩
  obtain ⟨r1, r2, r3⟩ := circ_snd (k := ckE es) (x := y) (Y := Y) (A := fun t => W (F t)) (p := s) (by omega) Rm (fun t ht => ⟨(hA t ht).1, (hA t ht).2.1, (hA t ht).2.2.1, by have := hy1 _ (LP_mem.2 ⟨t, ht, rfl⟩); rwa [resEd_c] at this⟩) (fun a b h1 h2 e => hC.dis a b h1 h2 (by
    have h3 := (hA a (by omega)).2.1
    rw [e, (hA b h2).2.1] at h3
    exact h3.symm))
  rw [onR_sndF, onR_res] at r2 r3
  have P2 : PlanP j m (frE es) (toE es) (cpE es) bf (chgF f (LP (fun t => W (F t)) s) y) := by
    refine ⟨fun i hi => ?_, fun v hv => ?_⟩
    · have e : chgF f (LP (fun t => W (F t)) s) y i = onR (sndF (resR (cpE es) f) (LP (fun t => W (F t)) s) y) i := by rw [onR_sndF, onR_res]
      rw [e]
      have := r1.sum i hi
      have h3 := r1.pos (2 * i) (by omega)
      have h4 := r1.pos (2 * i + 1) (by omega)
      unfold onR; omega
    · rw [r2 v, hC.cl, P.out v hv]; omega
  have neg : sumN s (fun t => cA (ckE es) (W (F t))) < 0 := by
    refine Int.lt_of_le_of_lt (Int.le_of_eq (sumN_congr fun t _ => ?_)) hC.neg
    exact (hWk (F t)).symm
  have tlt : totC m (ckE es) (chgF f (LP (fun t => W (F t)) s) y) < totC m (ckE es) f := by
    rw [r3]
    have := Int.mul_neg_of_pos_of_neg yp neg
    omega
  have tb := (totC_bd (m := m) (k := ckE es) (f := chgF f (LP (fun t => W (F t)) s) y) (C := 1048576) (X := 1048576) (by omega) (by omega) gd.k (fun i hi => by
    have := P2.cp i hi
    have := gd.c i hi
    unfold cpE at *; omega)).1
  refine rt_ret (mu_next (I := I2) ⟨_, rfl, (((xq.trans' x12).trans' x13).trans' x14).trans' x15, S2, P2⟩ ?_)
  rw [hkk, hz]
  generalize totC m (ckE es) (chgF f (LP (fun t => W (F t)) s) y) = t2 at *
  generalize totC m (ckE es) f = t1 at *
  omega
end

end Go.Proofs.Ytkdnnfpmppmmcaa

namespace Go.Proofs.Ytkdnnfpmppmmcaa
open Go
set_option linter.unusedVariables false
set_option linter.unusedSimpArgs false

/-- The document's answer. -/
def RefC (n : Int) (m : Nat) (es : Nat → Ed) (l : Nat) (bf : Nat → Int) (k : Int) (c e : Int) : Prop :=
  (wrong14 n m es l bf k ≠ 0 ∧ c = 0 ∧ e = wrong14 n m es l bf k) ∨
    (wrong14 n m es l bf k = 0 ∧ ((e = 0 ∧ ∃ f, PlanP l m (frE es) (toE es) (cpE es) bf f ∧ (∀ g, PlanP l m (frE es) (toE es) (cpE es) bf g → totC m (ckE es) f ≤ totC m (ckE es) g) ∧ c = totC m (ckE es) f) ∨ (e = 5 ∧ c = 0 ∧ ∀ g, ¬ PlanP l m (frE es) (toE es) (cpE es) bf g)))
theorem wrong14_0 {n : Int} {m : Nat} {es : Nat → Ed} {l : Nat} {bf : Nat → Int} {k : Int} (h : wrong14 n m es l bf k = 0) : n = l ∧ Gd l m es ∧ supOK l l bf ∧ 1 ≤ k ∧ k ≤ 3 := by
  unfold wrong14 at h
  by_cases h0 : (faultG n m es).1 = 0
  · rw [if_pos h0] at h
    by_cases h1 : supOK n l bf
    · rw [if_pos h1] at h
      by_cases h2 : 1 ≤ k ∧ k ≤ 3
      · have e := h1.1
        subst e
        exact ⟨rfl, Gd.iff.1 h0, h1, h2⟩
      · rw [if_neg h2] at h; omega
    · rw [if_neg h1] at h; omega
  · rw [if_neg h0] at h; exact absurd h h0
section
variable {h : H} {w : List Value} {n : Int} {m l : Nat} {es : Nat → Ed} {sv : Value} {bf : Nat → Int}
theorem Cost_R (G : GrA h w n m es) (Z : RS h sv (ints l bf)) (k : Int) : T Try.prog F.compassref14_Cost [.agg ⟨w⟩, sv, .int .i64 k] h fun r h' => ∃ c e, r = .ret (.tuple ⟨[.int .i64 c, .int .i64 e]⟩) ∧ Ext h h' ∧ RefC n m es l bf k c e := by
  refine E_compassref14_Cost ?_
  unfold B_compassref14_Cost
  refine new_bl ?_
  intro b1 q1 hb1 x1 B
  refine B.ldN G.one.1 ((Supplies_R (G.ext x1) (Z.ext x1)).mono ?_)
  rintro _ q2 ⟨rfl, x2⟩
  have x := x1.trans' x2
  have B := B.ext x2
  refine rt_ret ⟨_, rfl, ?_⟩
  unfold RefC
  by_cases h0 : (faultG n m es).1 = 0
  rotate_left
  · have e1 : supC n m es l bf = (faultG n m es).1 := by unfold supC; rw [if_neg h0]
    have e2 : wrong14 n m es l bf k = (faultG n m es).1 := by unfold wrong14; rw [if_neg h0]
    rw [e1, e2]
    refine ifP_of (fun _ => ⟨_, _, rfl, x, .inl ⟨h0, rfl, rfl⟩⟩) (fun h => ?_)
    simp at h; exact absurd h h0
  by_cases h1 : supOK n l bf
  rotate_left
  · have e1 : supC n m es l bf = 130 := by unfold supC; rw [if_pos h0, if_neg h1]
    have e2 : wrong14 n m es l bf k = 130 := by unfold wrong14; rw [if_pos h0, if_neg h1]
    rw [e1, e2]
    exact ifP_of (fun _ => ⟨_, _, rfl, x, .inl ⟨by omega, rfl, rfl⟩⟩) (fun h => by simp at h)
  have e1 : supC n m es l bf = 0 := by unfold supC; rw [if_pos h0, if_pos h1]
  rw [e1]
  refine ifP_of (fun h => by simp at h) (fun _ => ?_)
  have w50 : ¬ (1 ≤ k ∧ k ≤ 3) → wrong14 n m es l bf k = 50 := fun h => by unfold wrong14; rw [if_pos h0, if_pos h1, if_neg h]
  refine ifP_of (fun h => ?_) (fun h2 => ifP_of (fun h => ?_) (fun h3 => ?_))
  · rw [w50 (by have := of_decide_eq_true h; omega)]
    exact ⟨_, _, rfl, x, .inl ⟨by omega, rfl, rfl⟩⟩
  · rw [w50 (by have := of_decide_eq_true h; omega)]
    exact ⟨_, _, rfl, x, .inl ⟨by omega, rfl, rfl⟩⟩
  have hk : 1 ≤ k ∧ k ≤ 3 := by have := of_decide_eq_false h2; have := of_decide_eq_false h3; omega
  have w0 : wrong14 n m es l bf k = 0 := by unfold wrong14; rw [if_pos h0, if_pos h1, if_pos hk]
  obtain ⟨rfl, gd, hs, _⟩ := wrong14_0 w0
  rw [w0]
  refine B.ldN G.one.1 ((MinCost_R (G.ext x) gd hs (Z.ext x)).mono ?_)
  rintro _ q3 ⟨von, vpot, vside, t, rfl, x3, hr⟩
  refine rt_ret ⟨_, _, _, _, rfl, ?_⟩
  rcases hr with ⟨rfl, f, S, P, best⟩ | ⟨rfl, no⟩
  · refine ifP_of (fun h => by simp at h) (fun _ => (B.ext x3).ldN G.one.1 ((Total_R (G.ext (x.trans' x3)) gd.m1 gd.k S fun i hi => ?_).mono ?_))
    · have := P.cp i hi
      have := gd.c i hi
      unfold cpE at *; omega
    rintro _ q4 ⟨rfl, x4⟩
    exact rt_ret ⟨_, rfl, _, _, rfl, (x.trans' x3).trans' x4, .inr ⟨rfl, .inl ⟨rfl, f, P, best, rfl⟩⟩⟩
  · exact ifP_of (fun _ => ⟨_, _, rfl, x.trans' x3, .inr ⟨rfl, .inr ⟨rfl, rfl, no⟩⟩⟩) (fun h => by simp at h)
theorem longs_R {va vb : Value} {k : Nat} {f g : Nat → Int} (A : RS h va (ints k f)) (B : RS h vb (ints k g)) (he : ∀ i, i < k → f i = g i) (hk : k < 1000000) :
    T Try.prog F.compasslaw14_longs [va, vb] h fun r h' => r = .ret (.bool true) ∧ h = h' := by
  refine E_compasslaw14_longs ?_
  unfold B_compasslaw14_longs
  refine A.len (ints_length _ _) fun _ _ => B.len (ints_length _ _) fun _ _ => ifP_of (fun h => by simp at h) (fun _ => A.len (ints_length _ _) fun _ _ => ?_)
  let I : (Int × Unit) → H → Nat → Prop := fun p q z => ∃ j : Nat, p.1 = j ∧ j ≤ k ∧ z = k - j ∧ q = h
  refine ⟨fun p q => ∃ k, I p q k, rk I, rk_wf I, ⟨_, 0, rfl, by omega, rfl, rfl⟩, ?_⟩
  intro p q hI
  obtain ⟨j, e1, hj, hk2, e2⟩ := mu_spec hI
  generalize hkk : mu I ((p, ()), q) = km at *
  change p = (j : Int) at e1
  subst e1 e2
  have hlt : j < k → k - (j + 1) < mu I (((j : Int), ()), q) := fun h => by rw [hkk, hk2]; exact sub_dec h
  clear hI
  refine ifP_of (fun h1 => ?_) (fun _ => ⟨rfl, rfl⟩)
  have hjk : j < k := by have := of_decide_eq_true h1; omega
  refine A.at (ints_get hjk) fun a ha => B.at (ints_get hjk) fun b hb => ⟨_, ha, _, hb, ?_⟩
  rw [he j hjk]
  refine ifP_of (fun h => by simp at h) (fun _ => ?_)
  rw [i64_inc (by omega)]
  exact mu_next (I := I) (k := k - (j + 1)) ⟨j + 1, rfl, hjk, rfl, rfl⟩ (hlt hjk)
theorem empty14_R : T Try.prog F.compasslaw14_empty [.agg ⟨plZ⟩] h fun r h' => r = .ret (.bool true) ∧ Ext h h' := by
  refine E_compasslaw14_empty ?_
  unfold B_compasslaw14_empty
  refine new_bl ?_
  intro b1 q1 hb1 x1 B
  refine ⟨_, B.ld rfl, slcP_mk (ifP_of (fun _ => ?_) (fun h => by simp at h))⟩
  refine ⟨_, B.ld rfl, slcP_mk (ifP_of (fun _ => ?_) (fun h => by simp at h))⟩
  exact ⟨_, B.ld rfl, slcP_mk ⟨rfl, x1⟩⟩
end

/-- The graph of awake. -/
def esB (i : Nat) : Ed := match i with
  | 0 => ⟨0, 1, 9, 5⟩
  | _ => ⟨0, 1, 2, 3⟩
def bB (x y : Int) (i : Nat) : Int := match i with
  | 0 => x
  | _ => y
theorem esB_w : ∀ k : Nat, k < 4 → 1 ≤ k → wrong14 2 2 esB 2 (bB 3 (-3)) k = 0 ∧ wrong14 2 2 esB 2 (bB (-1) 1) k = 0 := by decide
theorem esB_out (f : Nat → Int) : OutF 2 (frE esB) (toE esB) f 0 = f 0 + f 1 := by
  show (0 + ((f 0) - 0)) + ((f 1) - 0) = _; omega
theorem esB_tot (f : Nat → Int) : totC 2 (ckE esB) f = 5 * f 0 + 3 * f 1 := by
  show (0 + 5 * f 0) + 3 * f 1 = _; omega
theorem esB_plan : PlanP 2 2 (frE esB) (toE esB) (cpE esB) (bB 3 (-3)) (bB 1 2) := ⟨by decide, by decide⟩
theorem esB_no (g : Nat → Int) : ¬ PlanP 2 2 (frE esB) (toE esB) (cpE esB) (bB (-1) 1) g := fun P => by
  have h := P.out 0 (by omega)
  rw [esB_out] at h
  have a := (P.cp 0 (by omega)).1
  have b := (P.cp 1 (by omega)).1
  change g 0 + g 1 = -1 at h
  omega
theorem Bl.rs {h : H} {b : Nat} {vs : List Value} (B : Bl h b vs) : RS h (.slice (some (bk b)) vs.length vs.length) vs := by
  refine ⟨_, _, rfl, fun j x hj => ⟨_, rfl, ?_⟩⟩
  rw [Nat.mul_one]; exact B.ld hj
section
variable {h : H} {own : Own} {n m l : Nat} {es : Nat → Ed} {bf f p : Nat → Int} {vs von vp : Value}
theorem PlanR.one (P : PlanR own h n m es bf vs von vp f p) : ∀ v ∈ plV vs von vp, v.oneCell' = true := by
  intro v hv
  simp only [List.mem_cons, List.not_mem_nil, or_false] at hv
  rcases hv with rfl | rfl | rfl
  · exact P.s.one
  · exact P.o.one
  · exact P.po.one
/-- What the awakened program answers to what can't be wrong. -/
theorem awake14_R : T Try.prog F.compasslaw14_awake [] h fun r h' => r = .ret (.bool true) ∧ Ext h h' := by
  refine E_compasslaw14_awake ?_
  unfold B_compasslaw14_awake
  refine ⟨rfl, rfl, new_bl ?_⟩
  intro b1 q1 hb1 x1 B1_
  have Gv : Gs q1 (.slice (some (bk b1)) 2 2) 2 esB := by
    refine ⟨_, _, rfl, fun i hi => ⟨_, rfl, fun j v hj => ?_⟩⟩
    rw [bk_add, bk_add2, ← bk_add]
    refine B1_.ld ?_
    match i, hi with
    | 0, _ => match j, hj with
      | 0, hj => exact hj
      | 1, hj => exact hj
      | 2, hj => exact hj
      | 3, hj => exact hj
    | 1, _ => match j, hj with
      | 0, hj => exact hj
      | 1, hj => exact hj
      | 2, hj => exact hj
      | 3, hj => exact hj
  refine new_bl_st rfl rfl (by simp [Value.oneCell']) ?_
  intro b3 q5 hb3 x5 B3
  have x15 := x1.trans' x5
  have Gv := Gv.ext x5
  let I : (Int × Unit) → H → Nat → Prop := fun p q z => ∃ j : Nat, p.1 = j ∧ 1 ≤ j ∧ j ≤ 4 ∧ z = 4 - j ∧ Ext q5 q
  refine ⟨fun p q => ∃ k, I p q k, rk I, rk_wf I, ⟨_, 1, rfl, by omega, by omega, rfl, Ext.refl _⟩, ?_⟩
  intro p q hI
  obtain ⟨j, e1, hj1, hj, hk2, xq⟩ := mu_spec hI
  generalize hkk : mu I ((p, ()), q) = km at *
  change p = (j : Int) at e1
  subst e1
  have hlt : j < 4 → 4 - (j + 1) < mu I (((j : Int), ()), q) := fun h => by rw [hkk, hk2]; exact sub_dec h
  clear hI
  refine ifP_of (fun h1 => ?_) (fun _ => ⟨rfl, x15.trans' xq⟩)
  have hj4 : j < 4 := by have := of_decide_eq_true h1; omega
  obtain ⟨w1, w2⟩ := esB_w j hj4 hj1
  refine (B3.ext xq).ldN rfl (new_bl ?_)
  intro b11 q12 hb11 x12 B11
  have xa := xq.trans' x12
  refine (MSolve_T ((Gv.ext xa).gr 2) (l := 2) (bf := bB 3 (-3)) B11.rs j).mono ?_
  rintro _ q14 ⟨x14, hr⟩
  rcases hr with ⟨h, _⟩ | ⟨_, _, _, hr⟩
  · exact absurd w1 h
  rcases hr with ⟨own, vs, von, vp, f, p, rfl, bs, P⟩ | ⟨bs, sd, rfl, _, _, hl⟩
  rotate_left
  · have := esB_plan.side (by decide) (fun v => sd v = true)
    have e : (sumN 2 fun v => if sd v = true then bB 3 (-3) v else 0) = sumN 2 fun v => @ite Int (sd v = true) (Classical.propDecidable _) (bB 3 (-3) v) 0 := sumN_congr fun v _ => by by_cases h : sd v = true <;> simp [h]
    rw [e] at hl
    omega
  -- the plan is the cheapest one
  have h3 := P.pl.out 0 (by omega)
  rw [esB_out] at h3
  change f 0 + f 1 = 3 at h3
  have h4 := P.pl.best esB_plan (by decide) P.pt
  rw [esB_tot, esB_tot] at h4
  change 5 * f 0 + 3 * f 1 ≤ 5 * 1 + 3 * 2 at h4
  have h5 := P.pl.cp 1 (by omega)
  change 0 ≤ f 1 ∧ f 1 ≤ 2 at h5
  have f1 : f 1 = 2 := by omega
  have f0 : f 0 = 1 := by omega
  have ht : totC 2 (ckE esB) f = 11 := by rw [esB_tot]; omega
  refine rt_ret ⟨_, rfl, _, _, _, rfl, new_bl_st rfl rfl P.one ?_⟩
  intro b19 q20 hb19 x20 B19
  have xb := (xa.trans' x14).trans' x20
  refine (B3.ext xb).ldN rfl (new_bl ?_)
  intro b23 q24 hb23 x24 B23
  have xc := xb.trans' x24
  refine (MSolve_T ((Gv.ext xc).gr 2) (l := 2) (bf := bB (-1) 1) B23.rs j).mono ?_
  rintro _ q26 ⟨x26, hr⟩
  rcases hr with ⟨h, _⟩ | ⟨_, _, _, hr⟩
  · exact absurd w2 h
  rcases hr with ⟨_, _, _, _, g, _, _, _, P2⟩ | ⟨bs2, sd, rfl, _, _, hl⟩
  · exact absurd P2.pl (esB_no g)
  refine rt_ret ⟨_, rfl, _, _, _, rfl, new_bl_st rfl rfl plZ_one ?_⟩
  intro b31 q32 hb31 x32 B31
  have xd := (x24.trans' x26).trans' x32
  have B19 := B19.ext xd
  have So := ((RS.of_S1 P.o).ext x20).ext xd
  rw [ht]
  refine ifP_of (fun h => by simp at h) (fun _ => ifP_of (fun h => by simp at h) (fun _ => ⟨_, B19.ld rfl, So.len (ints_length _ _) fun _ _ => ifP_of (fun h => by simp at h) (fun _ => ⟨_, B19.ld rfl, So.rdI (j := 0) (by omega) ?_⟩)⟩))
  rw [f0]
  refine ifP_of (fun h => by simp at h) (fun _ => ⟨_, B19.ld rfl, So.rdI (j := 1) (by omega) ?_⟩)
  rw [f1]
  refine ifP_of (fun h => by simp at h) (fun _ => ifP_of (fun h => by simp at h) (fun _ => slcP_mk (ifP_of (fun h => by simp at h) (fun _ => ?_))))
  rw [i64_inc (by omega)]
  exact mu_next (I := I) (k := 4 - (j + 1)) ⟨j + 1, rfl, by omega, hj4, rfl, xb.trans' xd⟩ (hlt hj4)
end

end Go.Proofs.Ytkdnnfpmppmmcaa

namespace Go.Proofs.Ytkdnnfpmppmmcaa
open Go
set_option linter.unusedVariables false
set_option linter.unusedSimpArgs false

section
variable {h : H} {w : List Value} {n : Int} {m l : Nat} {es : Nat → Ed} {sv : Value} {bf : Nat → Int}
theorem PlanP.none_ {sd : Nat → Bool} {f : Nat → Int} (gd : Gd l m es) (P : PlanP l m (frE es) (toE es) (cpE es) bf f) : ¬ cutC m (frE es) (toE es) (cpE es) (fun v => sd v = true) < sumN l fun v => if sd v = true then bf v else 0 := fun hl => by
  have := P.side gd.ends (fun v => sd v = true)
  have e : (sumN l fun v => if sd v = true then bf v else 0) = sumN l fun v => @ite Int (sd v = true) (Classical.propDecidable _) (bf v) 0 := sumN_congr fun v _ => by by_cases h : sd v = true <;> simp [h]
  rw [e] at hl
  omega
theorem badFrom_5 {n : Int} {es : Nat → Ed} : ∀ {k i : Nat}, (badFrom n es i k).1 ≠ 5
  | 0, i => by show (0 : Int) ≠ 5; omega
  | k + 1, i => by
    show (if badE n (es i) ≠ 0 then (badE n (es i), (i : Int)) else badFrom n es (i + 1) k).1 ≠ 5
    split
    · show badE n (es i) ≠ 5
      unfold badE
      split
      · omega
      · split <;> omega
    · exact badFrom_5
theorem faultG_5 {n : Int} {m : Nat} {es : Nat → Ed} (h : (faultG n m es).1 = 5) : False := by
  unfold faultG at h
  split at h
  · exact absurd h (by decide)
  · exact badFrom_5 h
theorem CostSolves_T (G : GrA h w n m es) (Z : RS h sv (ints l bf)) (k : Int) : T Try.prog F.compasslaw14_CostSolves [.agg ⟨w⟩, sv, .int .i64 k] h fun r h' => r = .ret (.bool true) ∧ Ext h h' := by
  refine E_compasslaw14_CostSolves ?_
  unfold B_compasslaw14_CostSolves
  refine new_bl ?_
  intro b1 q1 hb1 x1 B
  refine awake14_R.mono ?_
  rintro _ q2 ⟨rfl, x2⟩
  have x := x1.trans' x2
  have B := B.ext x2
  refine rt_ret ⟨_, rfl, ifP_of (fun h => by simp at h) (fun _ => B.ldN G.one.1 ((MSolve_T (G.ext x) (Z.ext x) k).mono ?_))⟩
  rintro _ q3 ⟨x3, hr⟩
  have xa := x.trans' x3
  have B := B.ext x3
  -- what stands behind Solve
  rcases hr with ⟨hw, rfl⟩ | ⟨hw, hnl, gd, hr⟩
  · refine rt_ret ⟨_, rfl, _, _, _, rfl, new_bl_st rfl rfl plZ_one ?_⟩
    intro b13 q15 hb13 x15 B13
    have xb := xa.trans' x15
    refine (B.ext x15).ldN G.one.1 ((Cost_R (G.ext xb) (Z.ext xb) k).mono ?_)
    rintro _ q4 ⟨c, e, rfl, x4, hc⟩
    rcases hc with ⟨_, rfl, rfl⟩ | ⟨h, _⟩
    · refine rt_ret ⟨_, _, rfl, ifP_of (fun h => by simp at h) (fun _ => ifP_of (fun h => by simp at h) (fun _ => ifP_of (fun h5 => ?_) (fun _ => ifP_of (fun _ => ?_) (fun h => ?_))))⟩
      · have h5 := of_decide_eq_true h5
        exfalso
        unfold wrong14 at h5
        by_cases h0 : (faultG n m es).1 = 0
        · rw [if_pos h0] at h5
          split at h5
          · split at h5 <;> omega
          · omega
        · rw [if_neg h0] at h5
          exact faultG_5 h5
      · refine (B13.ext x4).ldN rfl (empty14_R.mono ?_)
        rintro _ q5 ⟨rfl, x5⟩
        exact rt_ret ⟨_, rfl, ifP_of (fun _ => slcP_mk ⟨rfl, (xb.trans' x4).trans' x5⟩) (fun h => by simp at h)⟩
      · simp at h; exact absurd h hw
    · exact absurd h hw
  subst hnl
  have hs := (wrong14_0 hw).2.2.1
  rcases hr with ⟨own, vs, von, vp, f, p, rfl, bs, P⟩ | ⟨bs, sd, rfl, _, Sd, hl⟩
  · refine rt_ret ⟨_, rfl, _, _, _, rfl, new_bl_st rfl rfl P.one ?_⟩
    intro b13 q15 hb13 x15 B13
    have xb := xa.trans' x15
    refine (B.ext x15).ldN G.one.1 ((Cost_R (G.ext xb) (Z.ext xb) k).mono ?_)
    rintro _ q4 ⟨c, e, rfl, x4, hc⟩
    rcases hc with ⟨h, _⟩ | ⟨_, ⟨rfl, g, Pg, best, rfl⟩ | ⟨_, _, no⟩⟩
    · exact absurd hw h
    · have e1 : totC m (ckE es) f = totC m (ckE es) g := Int.le_antisymm (P.pl.best Pg gd.ends P.pt) (best f P.pl)
      rw [e1]
      refine rt_ret ⟨_, _, rfl, ifP_of (fun h => by simp at h) (fun _ => ifP_of (fun h => by simp at h) (fun _ => ifP_of (fun h => by simp at h) (fun _ => ifP_of (fun h => by simp at h) (fun _ => ?_))))⟩
      have xc := xb.trans' x4
      have xd := x15.trans' x4
      have B13 := B13.ext x4
      refine ((B.ext x15).ext x4).ldN G.one.1 ⟨_, B13.ld rfl, _, B13.ld rfl, _, B13.ld rfl, (Cheapest_R (G.ext xc) gd hs ((RS.of_S1 P.s).ext xd) ((RS.of_S1 P.o).ext xd) ((RS.of_S1 P.po).ext xd) P.pl P.pt (fun v hv => by have := P.pb v hv; omega)).mono ?_⟩
      rintro _ q5 ⟨rfl, x5⟩
      rw [e1]
      refine rt_ret ⟨_, _, rfl, ifP_of (fun _ => ifP_of (fun _ => ⟨_, (B13.ext x5).ld rfl, (longs_R (((RS.of_S1 P.s).ext xd).ext x5) (Z.ext (xc.trans' x5)) (fun _ _ => rfl) (by have := gd.n1; omega)).mono ?_⟩) (fun h => by simp at h)) (fun h => by simp at h)⟩
      rintro _ _ ⟨rfl, rfl⟩
      exact rt_ret ⟨_, rfl, ifP_of (fun _ => slcP_mk ⟨rfl, xc.trans' x5⟩) (fun h => by simp at h)⟩
    · exact absurd P.pl (no f)
  · refine rt_ret ⟨_, rfl, _, _, _, rfl, new_bl_st rfl rfl plZ_one ?_⟩
    intro b13 q15 hb13 x15 B13
    have xb := xa.trans' x15
    refine (B.ext x15).ldN G.one.1 ((Cost_R (G.ext xb) (Z.ext xb) k).mono ?_)
    rintro _ q4 ⟨c, e, rfl, x4, hc⟩
    rcases hc with ⟨h, _⟩ | ⟨_, ⟨_, g, Pg, _, _⟩ | ⟨rfl, rfl, no⟩⟩
    · exact absurd hw h
    · exact absurd hl (Pg.none_ gd)
    · refine rt_ret ⟨_, _, rfl, ifP_of (fun h => by simp at h) (fun _ => ifP_of (fun h => by simp at h) (fun _ => ifP_of (fun _ => ?_) (fun h => by simp at h)))⟩
      refine (B13.ext x4).ldN rfl (empty14_R.mono ?_)
      rintro _ q5 ⟨rfl, x5⟩
      refine rt_ret ⟨_, rfl, ifP_of (fun _ => ?_) (fun h => by simp at h)⟩
      have xc := (xb.trans' x4).trans' x5
      have xd := (x15.trans' x4).trans' x5
      refine (((B.ext x15).ext x4).ext x5).ldN G.one.1 ((NoPlan_R (G.ext xc) gd hs (Z.ext xc) ((RS.of_sl Sd).ext xd) hl).mono ?_)
      rintro _ q6 ⟨rfl, x6⟩
      exact rt_ret ⟨_, rfl, rfl, xc.trans' x6⟩
end

end Go.Proofs.Ytkdnnfpmppmmcaa

namespace Go.Proofs.Ytkdnnfpmppmmcaa
open Go Go.ChangeShapes Go.WideShapes Go.Deep Go.RowKit
set_option linter.unusedVariables false

/-- What a world's heap holds, all of it. -/
def hOf (w : World) : H := fun b => w.heap[b]?
theorem hOf_sub (w : World) : Sub (hOf w) w := fun _ _ h => h
theorem hOf_cell {w : World} {a : Addr} {v : Value} (h : w.cell? a = some v) : hcell (hOf w) a = some v := by
  exact h

theorem T.row {P : Program} {f : FuncId} {args : List Value} {w : World} (t : T P f args (hOf w) fun r h' => r = .ret (.bool true) ∧ Ext (hOf w) h') :
    Calls P f args.toArray w fun e w' => e = .returned (.bool true) ∧ Below w.heap.size w w' := by
  refine (t.2 w (hOf_sub w)).mono ?_
  rintro e w' ⟨h', hs, st, hq⟩
  have hr : e = .returned (.bool true) ∧ Ext (hOf w) h' := by
    split at hq
    · obtain ⟨h1, h2⟩ := hq
      cases h1
      exact ⟨rfl, h2⟩
    · obtain ⟨h1, _⟩ := hq
      cases h1
    · exact hq.elim
  refine ⟨hr.1, ⟨st.same.1, st.same.2.1, st.same.2.2, st.size, fun k hk => ?_⟩⟩
  have e1 : w.heap[k]? = some (w.heap[k]'hk) := Array.getElem?_eq_getElem hk
  rw [e1]
  exact hs k _ (hr.2 k _ e1)

def intFields (P : Program) (fs : Array Field) : Bool := (List.range fs.size).all fun i => match fs[i]? with
  | some f => match P.underlying f.type with
    | some (.int .i64) => true
    | _ => false
  | none => false
theorem intFields_of {P : Program} {fs : Array Field} (h : intFields P fs = true) : ∀ (i : Nat) (f : Field), fs[i]? = some f → P.underlying f.type = some (.int .i64) := by
  intro i f hi
  have hlt : i < fs.size := (Array.getElem?_eq_some_iff.1 hi).1
  have := List.all_eq_true.1 h i (List.mem_range.2 hlt)
  simp only [hi] at this
  split at this
  · assumption
  · cases this

end Go.Proofs.Ytkdnnfpmppmmcaa

namespace Go.Proofs.Ytkdnnfpmppmmcaa
open Go Go.ChangeShapes Go.WideShapes Go.Deep Go.RowKit
set_option linter.unusedVariables false

section
variable {K : Type} {enc : TypeId × Value → K} {P : Program} {w : World} {base : Nat} {spare : Nat → Bool} {held : Bool}

/-- A slice of records of whole numbers, wherever it lies. -/
theorem open_recsN {t e : TypeId} {fs : Array Field} {B fuel : Nat} {cs : List Value} {x : DataW K × List MemPlace}
    (ht : P.underlying t = some (.slice e)) (he : P.underlying e = some (.struct fs)) (hone : oneCellFields P fs = true) (hint : intFields P fs = true) (hC : P.cellsOf e = fs.size) (hB : P.bytesOf e = B)
    (hsz : ∀ el sp, x.1 = .slice el sp → (el.length + sp.length) * B ≤ 140737488351232)
    (hf : DataW.trod enc P w base spare held fuel t cs = some x) :
    ∃ a len cap, cs = [.slice a len cap] ∧ len * B ≤ 140737488351232 ∧ ∀ i, i < len → ∃ ad, a = some ad ∧ ∀ j, j < fs.size → ∃ n : Int, w.cell? (ad.add (i * fs.size + j)) = some (.int .i64 n) := by
  rcases open_slice ht hf with ⟨hcs, _⟩ | ⟨x', l, c, m, n, D, Pl, hcs, _, hl, _, hm, hx, hi⟩
  · exact ⟨none, 0, 0, hcs, by simp, fun i hi => by omega⟩
  · have hlm : l ≤ m := by
      rw [hm]
      split
      · exact hl
      · exact Nat.le_refl _
    refine ⟨some x', l, c, hcs, ?_, fun i hil => ⟨x', rfl, fun j hj => ?_⟩⟩
    · have z := hsz _ _ (by rw [hx])
      simp only [List.length_map, List.length_range] at z
      calc l * B ≤ (l + (m - l)) * B := Nat.mul_le_mul_right _ (by omega)
        _ ≤ _ := z
    · obtain ⟨cs', hc, ht'⟩ := hi i (by omega)
      rw [hC] at hc
      obtain ⟨ys, n', _, _, hlen, hyl, hg⟩ := DataW.trod_struct he ht'
      obtain ⟨_, hcl, hat⟩ := World.cells?_some hc
      have hfj : fs[j]? = some (fs[j]'hj) := Array.getElem?_eq_getElem hj
      obtain ⟨ho, hk⟩ := hone_of hone j _ hfj
      have hw1 := hg j _ hfj
      rw [ho, hk] at hw1
      have one : (cs'.drop j).take 1 = [cs'[j]'(by omega)] := by
        rw [List.drop_eq_getElem_cons (by omega)]
        rfl
      rw [one, List.getElem?_eq_getElem (by omega)] at hw1
      obtain ⟨z, hz, _, _⟩ := DataW.trod_int (intFields_of hint j _ hfj) hw1
      refine ⟨z, ?_⟩
      rw [← Go.Deep.add_add, hat j hj, List.getElem?_eq_getElem (by omega)]
      simpa using hz

theorem open_struct2 {r : Reach} {b0 : Nat} {t : TypeId} {f0 f1 : Field} {v : Value} {d : DataW K} {p : List MemPlace} (hs : P.underlying t = some (.struct #[f0, f1])) (hone : oneCellFields P #[f0, f1] = true) (hC : P.cellsOf t = 2)
    (hv : Value.okWide P w r b0 t v) (h : DataW.Trod enc P w base spare held t v d p) :
    ∃ (v0 v1 : Value) (y0 y1 : DataW K × List MemPlace) (n : Nat), v = .agg ⟨[v0, v1]⟩ ∧ d = .agg [y0.1, y1.1] ∧
      DataW.trod enc P w base spare held n f0.type [v0] = some y0 ∧ DataW.trod enc P w base spare held n f1.type [v1] = some y1 := by
  obtain ⟨cs, rfl, hsz⟩ := okWide_struct hs hv
  obtain ⟨l⟩ := cs
  match l, hsz.trans hC with
  | [c0, c1], _ =>
    obtain ⟨fuel, hf⟩ := h
    obtain ⟨xs, n, _, hx, _, hlen, hg⟩ := DataW.trod_struct hs hf
    obtain ⟨o0, k0⟩ := hone_of hone 0 f0 rfl
    obtain ⟨o1, k1⟩ := hone_of hone 1 f1 rfl
    match xs, hlen with
    | [y0, y1], _ =>
      simp only [Prod.mk.injEq] at hx
      exact ⟨c0, c1, y0, y1, n, rfl, by simpa using hx.1, by simpa [Value.cells, o0, k0] using hg 0 f0 rfl, by simpa [Value.cells, o1, k1] using hg 1 f1 rfl⟩
end

/-- Edges read are edges. -/
theorem Gs.of_cells {W : World} {a : Option Addr} {len cap : Nat} (h : ∀ i, i < len → ∃ ad, a = some ad ∧ ∀ j, j < 4 → ∃ n : Int, W.cell? (ad.add (i * 4 + j)) = some (.int .i64 n)) :
    ∃ es, Gs (hOf W) (.slice a len cap) len es := by
  have h2 : ∀ i, ∃ o : Ed, i < len → ∃ ad, a = some ad ∧ hcells (hOf W) (ad.add (i * 4)) o.vs := by
    intro i
    by_cases hi : i < len
    · obtain ⟨ad, rfl, hc⟩ := h i hi
      obtain ⟨n0, h0⟩ := hc 0 (by decide)
      obtain ⟨n1, h1⟩ := hc 1 (by decide)
      obtain ⟨n2, h2⟩ := hc 2 (by decide)
      obtain ⟨n3, h3⟩ := hc 3 (by decide)
      refine ⟨⟨n0, n1, n2, n3⟩, fun _ => ⟨ad, rfl, fun j v hj => ?_⟩⟩
      rw [Go.Deep.add_add]
      match j, hj with
      | 0, hj => cases hj; exact hOf_cell h0
      | 1, hj => cases hj; exact hOf_cell h1
      | 2, hj => cases hj; exact hOf_cell h2
      | 3, hj => cases hj; exact hOf_cell h3
    · exact ⟨⟨0, 0, 0, 0⟩, fun h => absurd h hi⟩
  exact ⟨fun i => Classical.choose (h2 i), a, cap, rfl, fun i hi => Classical.choose_spec (h2 i) hi⟩

end Go.Proofs.Ytkdnnfpmppmmcaa

namespace Go.Proofs.Ytkdnnfpmppmmcaa
open Go Go.ChangeShapes Go.WideShapes Go.Deep Go.RowKit
set_option linter.unusedVariables false

section
variable {K : Type} {enc : TypeId × Value → K} {P : Program} {w : World} {base : Nat} {spare : Nat → Bool} {held : Bool}

/-- A slice of whole numbers, wherever it lies. -/
theorem open_intsN {t e : TypeId} {B fuel : Nat} {cs : List Value} {x : DataW K × List MemPlace}
    (ht : P.underlying t = some (.slice e)) (he : P.underlying e = some (.int .i64)) (hC : P.cellsOf e = 1) (hB : P.bytesOf e = B)
    (hsz : ∀ el sp, x.1 = .slice el sp → (el.length + sp.length) * B ≤ 140737488351232)
    (hf : DataW.trod enc P w base spare held fuel t cs = some x) :
    ∃ a len cap, cs = [.slice a len cap] ∧ len * B ≤ 140737488351232 ∧ ∀ i, i < len → ∃ ad, a = some ad ∧ ∃ n : Int, w.cell? (ad.add (i * 1)) = some (.int .i64 n) := by
  rcases open_slice ht hf with ⟨hcs, _⟩ | ⟨x', l, c, m, n, D, Pl, hcs, _, hl, _, hm, hx, hi⟩
  · exact ⟨none, 0, 0, hcs, by simp, fun i hi => by omega⟩
  · have hlm : l ≤ m := by
      rw [hm]
      split
      · exact hl
      · exact Nat.le_refl _
    refine ⟨some x', l, c, hcs, ?_, fun i hil => ⟨x', rfl, ?_⟩⟩
    · have z := hsz _ _ (by rw [hx])
      simp only [List.length_map, List.length_range] at z
      calc l * B ≤ (l + (m - l)) * B := Nat.mul_le_mul_right _ (by omega)
        _ ≤ _ := z
    · obtain ⟨cs', hc, ht'⟩ := hi i (by omega)
      rw [hC] at hc
      obtain ⟨z, hz, _, _⟩ := DataW.trod_int he ht'
      obtain ⟨_, hcl, hat⟩ := World.cells?_some hc
      refine ⟨z, ?_⟩
      have := hat 0 (by omega)
      rw [hz] at this
      simpa [Addr.add] using this
theorem open_ints {t e : TypeId} {a : Option Addr} {len cap B j : Nat} {d : DataW K} {ps : List MemPlace} {ts : List TypeId} {ds : List (DataW K)}
    (ht : P.underlying t = some (.slice e)) (he : P.underlying e = some (.int .i64)) (hC : P.cellsOf e = 1) (hB : P.bytesOf e = B)
    (hsz : (DataW.weightsEach P ts ds).all (· ≤ reachBytes) = true) (hj : ts[j]? = some t) (hd : ds[j]? = some d)
    (h : DataW.Trod enc P w base spare held t (.slice a len cap) d ps) :
    len * B ≤ 140737488351232 ∧ ∀ i, i < len → ∃ ad, a = some ad ∧ ∃ n : Int, w.cell? (ad.add (i * 1)) = some (.int .i64 n) := by
  obtain ⟨fuel, hf⟩ := h
  have hf' := hf
  rcases open_slice ht hf with ⟨hcs, _⟩ | ⟨x, l, c, m, n, D, Pl, hcs, _, hl, _, hm, hx, hi⟩
  · simp [Value.cells] at hcs
    obtain ⟨rfl, rfl, rfl⟩ := hcs
    exact ⟨by simp, fun i hi => by omega⟩
  · have hd' : ∀ el sp, d = .slice el sp → (el.length + sp.length) * B ≤ 140737488351232 := by
      rintro el sp rfl
      have z := sized_slice hsz hj hd ht
      rw [hB] at z
      exact z
    obtain ⟨a', len', cap', hcs', h1, h2⟩ := open_intsN (B := B) ht he hC hB hd' hf'
    simp [Value.cells] at hcs'
    obtain ⟨rfl, rfl, rfl⟩ := hcs'
    exact ⟨h1, h2⟩
end

/-- Numbers read are numbers. -/
theorem RS.of_cells {W : World} {a : Option Addr} {len cap : Nat} (h : ∀ i, i < len → ∃ ad, a = some ad ∧ ∃ n : Int, W.cell? (ad.add (i * 1)) = some (.int .i64 n)) :
    ∃ bf, RS (hOf W) (.slice a len cap) (ints len bf) := by
  have h2 : ∀ i, ∃ o : Int, i < len → ∃ ad, a = some ad ∧ hcell (hOf W) (ad.add (i * 1)) = some (.int .i64 o) := by
    intro i
    by_cases hi : i < len
    · obtain ⟨ad, rfl, n, hn⟩ := h i hi
      exact ⟨n, fun _ => ⟨ad, rfl, hOf_cell hn⟩⟩
    · exact ⟨0, fun h => absurd h hi⟩
  refine ⟨fun i => Classical.choose (h2 i), a, cap, by rw [ints_length], fun j x hj => ?_⟩
  have hl := (List.getElem?_eq_some_iff.1 hj).1
  rw [ints_length] at hl
  rw [ints_get hl] at hj
  cases hj
  exact Classical.choose_spec (h2 j) hl

end Go.Proofs.Ytkdnnfpmppmmcaa

namespace Go.Proofs.Ytkdnnfpmppmmcaa
open Go Go.ChangeShapes Go.WideShapes Go.ChangeAt Go.RowKit
set_option linter.unusedVariables false

theorem own : ownKnob Try.prog.godebug = none := by kernel_rfl
theorem laidOut : laidOutB Try.prog = true := by kernel_rfl

end Go.Proofs.Ytkdnnfpmppmmcaa

