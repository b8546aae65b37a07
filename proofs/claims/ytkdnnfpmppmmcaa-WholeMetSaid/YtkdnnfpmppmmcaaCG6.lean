import Derived.Deep.Slices
import Derived.Deep.Fields
import Derived.ChangeSame
import Derived.SizedLaws
import Derived.WalkKit
import Derived.ProofKit
import Derived.OpenShut
import Derived.ShutString
import Derived.ChangeOld
import Derived.Below
import Derived.Test.YtkdnnfpmppmmcaaCG5
namespace Go.Proofs.Ytkdnnfpmppmmcaa
open Go
set_option linter.unusedVariables false
set_option linter.unusedSimpArgs false
set_option maxRecDepth 100000

def SolveN (R : Res → H → Prop) (b6 b7 b8 b9 : Nat) (g1 : H) : Prop :=
  ∃ pl co sv er, P4 g1 b6 b7 b8 b9 pl co sv er ∧ ∀ g2, K4 b6 b7 b8 b9 g1 g2 → P4 g2 b6 b7 b8 b9 pl co sv er → R (.ret (.tuple ⟨[.agg ⟨pl⟩, .int .i64 co, sv, .int .i64 er]⟩)) g2
def SolveX (R : Res → H → Prop) (b6 b7 b8 b9 : Nat) (v : Value) (g1 : H) : Prop :=
  ∃ pl co sv er sd, v = gvL sd ∧ (∃ a l c, sd = .slice a l c) ∧ P4 g1 b6 b7 b8 b9 pl co sv er ∧ ∀ g2, K4 b6 b7 b8 b9 g1 g2 → P4 g2 b6 b7 b8 b9 plZ 0 sd 5 → R (.ret (.tuple ⟨[.agg ⟨plZ⟩, .int .i64 0, sd, .int .i64 5]⟩)) g2
def SolveM (p1 : Value) (R : Res → H → Prop) (vs : List Value) (g : H) : Prop :=
  ∃ (b3 b6 b7 b8 b9 : Nat) (v12 v13 : Value), vs = [p1, .pointer (some (bk b3)), .pointer (some (bk b6)), .pointer (some (bk b7)), .pointer (some (bk b8)), .pointer (some (bk b9)), v12, v13] ∧
    BSolveB p1 b3 b6 b7 b8 b9 v12 v13 (SolveN R b6 b7 b8 b9) (SolveX R b6 b7 b8 b9) g

theorem Solve_of {p0 : List Value} {p1 : Value} {p2 : Int} {h : H} {R : Res → H → Prop} (HA : BSolveA p0 p1 p2 (SolveM p1 R) R h) : T Try.prog F.mincost_Solve [.agg ⟨p0⟩, p1, .int .i64 p2] h R := by
  refine ⟨⟨Try.f11, Try.func11, by kernel_rfl, by kernel_rfl⟩, fun w hw => ?_⟩
  refine calls_of_wp_defers Try.func11 (c := cSolve) (by kernel_rfl) ?_
  rw [cSolve_eq]
  have hasr : ∀ d, d < 101 → has d (List.range 101) = true := fun d hd => has_iff.2 (List.mem_range.2 hd)
  let ar : Array Value := #[.agg ⟨p0⟩, p1, .int .i64 p2]
  obtain ⟨a0, ha0⟩ : ∃ a0 : Act, a0 = { tmps := ar ++ Array.replicate (Try.f11.ntmps - ar.size) undef, defers := [] } := ⟨_, rfl⟩
  have t0 : a0.tmps[0]? = some (.agg ⟨p0⟩) := by rw [ha0]; kernel_rfl
  have t1 : a0.tmps[1]? = some p1 := by rw [ha0]; kernel_rfl
  have t2 : a0.tmps[2]? = some (.int .i64 p2) := by rw [ha0]; kernel_rfl
  have hsz : a0.tmps.size = 101 := by rw [ha0]; kernel_rfl
  have hdf : a0.defers = [] := by rw [ha0]
  have goalA : (appC lSolve (.seq xSolve (.seq (.region 17 (firstOps (.seq dSolve .skip)) false) ySolve))).wp Try.prog
      (bodyPostD Try.prog Try.f11 fun e w' => ∃ h', Sub h' w' ∧ Stp h w h' w' ∧ match e with
        | .returned v => R (.ret v) h'
        | .panicked [⟨v, false, false⟩] => R (.pan v) h'
        | _ => False) a0 w := by
    refine appC_sound (n := 101) (A := A_SolveA) (fun _ => rfl) (ds := []) (h0 := h) (w0 := w) (W := List.range 101) (a0 := a0) (Q0 := _) ?_ lSolve [(0, .agg ⟨p0⟩), (1, p1), (2, .int .i64 p2)] h a0 w (ESolveA HA) (fun t ht => hasr t ?_) ⟨((((FrOK.nil a0).cons t2).cons t1).cons t0), hw, Stp.refl h w, hsz, hdf, fun _ _ => rfl⟩
    rotate_left
    · have : ((writesOf (appC lSolve xSolve)).all fun t => Nat.blt t 101) = true := by kernel_rfl
      have := List.all_eq_true.1 this t ht
      simpa [Nat.blt_eq] using this
    intro e fr g a1 w1 hq rel1
    cases e with
    | exit i => exact hq.elim
    | panic v =>
      show Leaves _ _ _ _ a1.defers (.panicking [⟨v, false, false⟩]) w1
      rw [rel1.defers]
      exact ⟨g, rel1.sub, rel1.same, hq⟩
    | ret =>
      show Leaves _ _ _ _ a1.defers .returning w1
      rw [rel1.defers]
      obtain ⟨v, hv, hr⟩ := resP_run (fn := Try.f11) rel1.fr hq
      exact ⟨_, hr w1 rel1.sub, g, rel1.sub, rel1.same, hv⟩
    | normal =>
      show (Code.seq (.region 17 (firstOps (.seq dSolve .skip)) false) ySolve).wp Try.prog _ a1 w1
      obtain ⟨v1, g1, hq⟩ := on_some hq
      obtain ⟨v3, g3, hq⟩ := on_some hq
      obtain ⟨v6, g6, hq⟩ := on_some hq
      obtain ⟨v7, g7, hq⟩ := on_some hq
      obtain ⟨v8, g8, hq⟩ := on_some hq
      obtain ⟨v9, g9, hq⟩ := on_some hq
      obtain ⟨v12, g12, hq⟩ := on_some hq
      obtain ⟨v13, g13, hq⟩ := on_some hq
      obtain ⟨b3, b6, b7, b8, b9, u12, u13, hvs, HB⟩ := hq
      simp only [List.cons.injEq, and_true] at hvs
      obtain ⟨rfl, rfl, rfl, rfl, rfl, rfl, rfl, rfl⟩ := hvs
      have f1 := rel1.fr _ _ g1
      have f3 := rel1.fr _ _ g3
      have f6 := rel1.fr _ _ g6
      have f7 := rel1.fr _ _ g7
      have f8 := rel1.fr _ _ g8
      have f9 := rel1.fr _ _ g9
      have f12 := rel1.fr _ _ g12
      have f13 := rel1.fr _ _ g13
      have frA : FrOK [(1, v1), (3, .pointer (some (bk b3))), (6, .pointer (some (bk b6))), (7, .pointer (some (bk b7))), (8, .pointer (some (bk b8))), (9, .pointer (some (bk b9))), (12, v12), (13, v13)] a1 :=
        (((((((((FrOK.nil a1).cons f13).cons f12).cons f9).cons f8).cons f7).cons f6).cons f3).cons f1)
      refine wp_seq (wp_region ?_)
      have hr : List.range (firstOps (.seq dSolve .skip)).size = [0, 1] := by kernel_rfl
      rw [hr]
      refine wp_first (o := opAt (firstOps (.seq dSolve .skip)) 0) (by kernel_rfl) (by kernel_rfl) ?_
      let fv : Value := .func (.func 27) #[] #[.pointer (some (bk b6)), .pointer (some (bk b7)), .pointer (some (bk b8)), .pointer (some (bk b9))]
      have ho : opt Try.prog (opAt (firstOps (.seq dSolve .skip)) 0) [(1, v1), (3, .pointer (some (bk b3))), (6, .pointer (some (bk b6))), (7, .pointer (some (bk b7))), (8, .pointer (some (bk b8))), (9, .pointer (some (bk b9))), (12, v12), (13, v13)] g
          (fun v g' => v = fv ∧ g' = g) (fun _ _ => False) :=
        cast_of (A := opt Try.prog (opAt (firstOps (.seq dSolve .skip)) 0) [(1, v1), (3, .pointer (some (bk b3))), (6, .pointer (some (bk b6))), (7, .pointer (some (bk b7))), (8, .pointer (some (bk b8))), (9, .pointer (some (bk b9))), (12, v12), (13, v13)] g
          (fun v g' => v = fv ∧ g' = g) (fun _ _ => False))
          (B := (Value.func (.func 27) ⟨[]⟩ ⟨[.pointer (some (bk b6)), .pointer (some (bk b7)), .pointer (some (bk b8)), .pointer (some (bk b9))]⟩ = fv ∧ g = g)) (by kernel_rfl) ⟨rfl, rfl⟩
      refine opt_sound ho frA rel1.sub ?_ (fun _ _ _ h => h.elim)
      rintro vx _ w2 ⟨rfl, rfl⟩ hs2 hst2
      generalize ha2 : a1.put (opAt (firstOps (.seq dSolve .skip)) 0).dst fv = a2
      have hd3 : (opAt (firstOps (.seq dSolve .skip)) 0).dst = some 52 := by kernel_rfl
      have fr2 : FrOK [(52, fv), (1, v1), (3, .pointer (some (bk b3))), (6, .pointer (some (bk b6))), (7, .pointer (some (bk b7))), (8, .pointer (some (bk b8))), (9, .pointer (some (bk b9))), (12, v12), (13, v13)] a2 := by
        rw [← ha2, hd3]
        exact frA.put (d := some 52) (fun t ht => by cases ht; rw [rel1.size]; omega) _
      have sz2 : a2.tmps.size = 101 := by rw [← ha2, size_put, rel1.size]
      have df2 : a2.defers = [] := by rw [← ha2, defers_put, rel1.defers]
      refine wp_first (o := opAt (firstOps (.seq dSolve .skip)) 1) (by kernel_rfl) (by kernel_rfl) ?_
      have h52 : a2.eval (.tmp 52) = fv := by
        have := fr2 52 _ rfl
        simp [Act.eval, this]
      let df : Deferred := { target := .fn (.func 27) #[.pointer (some (bk b6)), .pointer (some (bk b7)), .pointer (some (bk b8)), .pointer (some (bk b9))], args := #[] }
      have hrun : (execOp a2.eval (opAt (firstOps (.seq dSolve .skip)) 1)).run Try.prog w2 = .ok (.defer df) w2 := by
        have hop : (opAt (firstOps (.seq dSolve .skip)) 1).op = .defer { callee := .value (.tmp 52), args := #[], argTypes := #[] } := by kernel_rfl
        simp [execOp, hop, resolve, Deferred.ofValue, h52, fv, df]
      unfold Oper.wp
      rw [hrun, Oper.upon_defer]
      have hd1 : (opAt (firstOps (.seq dSolve .skip)) 1).dst = none := by kernel_rfl
      rw [hd1]
      generalize ha3 : (Act.put { a2 with defers := df :: a2.defers } none undef) = a3
      have tm3 : a3.tmps = a2.tmps := by rw [← ha3]; rfl
      have df3 : a3.defers = [df] := by rw [← ha3, defers_put, df2]
      have fr3 : FrOK [(52, fv), (1, v1), (3, .pointer (some (bk b3))), (6, .pointer (some (bk b6))), (7, .pointer (some (bk b7))), (8, .pointer (some (bk b8))), (9, .pointer (some (bk b9))), (12, v12), (13, v13)] a3 := fun t v hv => by rw [tm3]; exact fr2 t v hv
      show ySolve.wp Try.prog _ a3 w2
      refine cpt_sound (n := 101) _ _ _ _ (ESolveB HB) [df] h w (writesOf ySolve) a3 a3 w2 _ (fun t ht => has_iff.2 ht)
        ⟨fr3, hs2, rel1.same.trans hst2, by rw [tm3]; exact sz2, df3, fun _ _ => rfl⟩ ?_
      intro e fr' g' a4 w4 hq rel4
      have c6 : a4.tmps[6]? = some (.pointer (some (bk b6))) := by rw [rel4.keep 6 (by kernel_rfl)]; exact fr3 6 _ rfl
      have c7 : a4.tmps[7]? = some (.pointer (some (bk b7))) := by rw [rel4.keep 7 (by kernel_rfl)]; exact fr3 7 _ rfl
      have c8 : a4.tmps[8]? = some (.pointer (some (bk b8))) := by rw [rel4.keep 8 (by kernel_rfl)]; exact fr3 8 _ rfl
      have c9 : a4.tmps[9]? = some (.pointer (some (bk b9))) := by rw [rel4.keep 9 (by kernel_rfl)]; exact fr3 9 _ rfl
      have fin : ∀ (h5 : H) (w5 : World) (pl : List Value) (co : Int) (sv : Value) (er : Int), Sub h5 w5 → Stp g' w4 h5 w5 → P4 h5 b6 b7 b8 b9 pl co sv er → R (.ret (.tuple ⟨[.agg ⟨pl⟩, .int .i64 co, sv, .int .i64 er]⟩)) h5 →
          Leaves Try.prog Try.f11 a4.tmps (fun e w' => ∃ h', Sub h' w' ∧ Stp h w h' w' ∧ match e with
            | .returned v => R (.ret v) h'
            | .panicked [⟨v, false, false⟩] => R (.pan v) h'
            | _ => False) [] .returning w5 := by
        intro h5 w5 pl co sv er s5 st5 P5 hR
        have hres : resP Try.prog [(6, .pointer (some (bk b6))), (7, .pointer (some (bk b7))), (8, .pointer (some (bk b8))), (9, .pointer (some (bk b9)))] h5 Try.f11.results.toList (fun v => v = .tuple ⟨[.agg ⟨pl⟩, .int .i64 co, sv, .int .i64 er]⟩) :=
          cast_of (A := resP Try.prog [(6, .pointer (some (bk b6))), (7, .pointer (some (bk b7))), (8, .pointer (some (bk b8))), (9, .pointer (some (bk b9)))] h5 Try.f11.results.toList (fun v => v = .tuple ⟨[.agg ⟨pl⟩, .int .i64 co, sv, .int .i64 er]⟩))
            (B := ldN h5 (bk b6) 3 fun x1 => ldI h5 (bk b7) .i64 fun x2 => ldV h5 (bk b8) fun x3 => ldI h5 (bk b9) .i64 fun x4 => Value.tuple ⟨[.agg ⟨x1⟩, .int .i64 x2, x3, .int .i64 x4]⟩ = .tuple ⟨[.agg ⟨pl⟩, .int .i64 co, sv, .int .i64 er]⟩) (by kernel_rfl) (P5.read rfl)
        obtain ⟨v, rfl, hr⟩ := resP_run (fn := Try.f11) (a := a4) (((((FrOK.nil a4).cons c9).cons c8).cons c7).cons c6) hres
        exact ⟨_, hr w5 s5, h5, s5, rel4.same.trans st5, hR⟩
      have okR : SolveN R b6 b7 b8 b9 g' → Leaves Try.prog Try.f11 a4.tmps (fun e w' => ∃ h', Sub h' w' ∧ Stp h w h' w' ∧ match e with
            | .returned v => R (.ret v) h'
            | .panicked [⟨v, false, false⟩] => R (.pan v) h'
            | _ => False) a4.defers .returning w4 := by
        rintro ⟨pl, co, sv, er, P, hR⟩
        rw [rel4.defers]
        refine leaves_cons (f := 27) (args := #[.pointer (some (bk b6)), .pointer (some (bk b7)), .pointer (some (bk b8)), .pointer (some (bk b9))]) (by simp) (by kernel_rfl) ?_
        refine (f27_D (u := .returning) (u' := .returning) (v := .nilIface) P rel4.sub (fun c₀ cs hu => .inr ⟨by simp [recoverD, hu], rfl, rfl⟩) (.inr ⟨rfl, rfl, rfl, rfl, rfl⟩)).mono ?_
        rintro e q w5 ⟨rfl, rfl, h5, s5, st5, k5, P5⟩
        exact fin h5 w5 pl co sv er s5 st5 P5 (hR h5 k5 P5)
      cases e with
      | exit i => exact hq.elim
      | normal => exact okR hq
      | ret => exact okR hq
      | panic v =>
        show Leaves _ _ _ _ a4.defers (.panicking [⟨v, false, false⟩]) w4
        rw [rel4.defers]
        obtain ⟨pl, co, sv, er, sd, rfl, hsl, P, hR⟩ := hq
        refine leaves_cons (f := 27) (args := #[.pointer (some (bk b6)), .pointer (some (bk b7)), .pointer (some (bk b8)), .pointer (some (bk b9))]) (by simp) (by kernel_rfl) ?_
        refine (f27_D (u := .panicking [⟨gvL sd, false, false⟩]) (u' := .panicking [⟨gvL sd, true, false⟩]) (v := gvL sd) P rel4.sub (fun c₀ cs hu => .inl (by simp [recoverD, hu])) (.inl ⟨rfl, hsl, rfl, rfl, rfl⟩)).mono ?_
        rintro e q w5 ⟨rfl, rfl, h5, s5, st5, k5, P5⟩
        have hset : settle (.panicking [⟨gvL sd, true, false⟩]) = .returning := by simp [settle]
        show Leaves _ _ _ _ [] (settle (.panicking [⟨gvL sd, true, false⟩])) w5
        rw [hset]
        exact fin h5 w5 plZ 0 sd 5 s5 st5 P5 (hR h5 k5 P5)
  rw [ha0] at goalA
  exact goalA

end Go.Proofs.Ytkdnnfpmppmmcaa

namespace Go.Proofs.Ytkdnnfpmppmmcaa
open Go
set_option linter.unusedVariables false
set_option linter.unusedSimpArgs false

instance {n : Int} {l : Nat} {bf : Nat → Int} : Decidable (supOK n l bf) := by unfold supOK; infer_instance
/-- The error's number of a task. -/
def wrong14 (n : Int) (m : Nat) (es : Nat → Ed) (l : Nat) (bf : Nat → Int) (k : Int) : Int :=
  if (faultG n m es).1 = 0 then (if supOK n l bf then (if 1 ≤ k ∧ k ≤ 3 then 0 else 50) else 130) else (faultG n m es).1
/-- A plan as Go holds it. -/
abbrev plV (sup on pot : Value) : List Value := [sup, on, pot]
/-- What Solve answers where nothing is wrong. -/
structure PlanR (own : Own) (h' : H) (n m : Nat) (es : Nat → Ed) (bf : Nat → Int) (vs von vp : Value) (f p : Nat → Int) : Prop where
  s : S1 own h' 24 vs (ints n bf)
  o : S1 own h' 23 von (ints m f)
  po : S1 own h' 7 vp (ints n p)
  pl : PlanP n m (frE es) (toE es) (cpE es) bf f
  pt : PotP m (frE es) (toE es) (cpE es) (ckE es) f p
  pb : ∀ v, v < n → -1073741824 ≤ p v ∧ p v ≤ 1073741824
def SolC (h : H) (n : Int) (m : Nat) (es : Nat → Ed) (l : Nat) (bf : Nat → Int) (k : Int) (r : Res) (h' : H) : Prop :=
  Ext h h' ∧ ((wrong14 n m es l bf k ≠ 0 ∧ r = .ret (.tuple ⟨[.agg ⟨plZ⟩, .int .i64 0, .slice none 0 0, .int .i64 (wrong14 n m es l bf k)]⟩)) ∨
    (wrong14 n m es l bf k = 0 ∧ n = l ∧ Gd l m es ∧
      ((∃ (own : Own) (vs von vp : Value) (f p : Nat → Int), r = .ret (.tuple ⟨[.agg ⟨plV vs von vp⟩, .int .i64 (totC m (ckE es) f), .slice none 0 0, .int .i64 0]⟩) ∧ Bs h own h' ∧ PlanR own h' l m es bf vs von vp f p) ∨
       (∃ (bs : Nat) (sd : Nat → Bool), r = .ret (.tuple ⟨[.agg ⟨plZ⟩, .int .i64 0, slV bs l, .int .i64 5]⟩) ∧ h bs = none ∧ Sl h' bs (slV bs l) (bools l sd) ∧
         cutC m (frE es) (toE es) (cpE es) (fun v => sd v = true) < sumN l fun v => if sd v = true then bf v else 0))))

theorem meth70 (v : Value) (w : World) : (method (Try.prog.types.size + Made.depth) 70 (.agg ⟨[v]⟩) "compass/mincost.meet").run Try.prog w = .ok (F.mincost_ways_meet, .agg ⟨[v]⟩) w := by kernel_rfl
theorem meth71 (v : Value) (w : World) : (method (Try.prog.types.size + Made.depth) 71 (.agg ⟨[v]⟩) "compass/mincost.meet").run Try.prog w = .ok (F.mincost_circles_meet, .agg ⟨[v]⟩) w := by kernel_rfl
theorem meth72 (a : Addr) (w : World) : (method (Try.prog.types.size + Made.depth) 72 (.pointer (some a)) "compass/mincost.meet").run Try.prog w = .ok (F.mincost_scaling_meet, .pointer (some a)) w := by kernel_rfl

section
variable {own own' : Own} {g g' h h' : H} {i b : Nat} {v : Value} {vs : List Value}
/-- The owners of new blocks besides those of old ones. -/
def mgO (g : H) (own own' : Own) : Own := fun c => match g c with
  | none => own' c
  | some _ => own c
theorem mgO_new {c : Nat} (h : g c = none) : mgO g own own' c = own' c := by unfold mgO; rw [h]
theorem mgO_old {c : Nat} {o : Obj} (h : g c = some o) : mgO g own own' c = own c := by unfold mgO; rw [h]
theorem Bs.mg {M : List Nat} (bs : Bs g own' g') : Fm M own g (mgO g own own') g' := ⟨fun c o e _ => bs.ext c o e, fun c o e => ⟨⟨o, bs.ext c o e⟩, mgO_old e⟩⟩
theorem Bs.new_ (bs : Bs g own' g') {c : Nat} (h : own' c ≠ 0) : g c = none := by
  cases e : g c with
  | none => rfl
  | some o => exact absurd (bs.old c o e) h
theorem S1.mg (s : S1 own' g' i v vs) (bs : Bs g own' g') (hi : i ≠ 0) : S1 (mgO g own own') g' i v vs := by
  rcases s with s | ⟨c, hc, s⟩
  · exact .inl s
  · exact .inr ⟨c, by rw [mgO_new (bs.new_ (by rw [hc]; exact hi))]; exact hc, s⟩
theorem B1.mg (s : B1 own' g' i b vs) (bs : Bs g own' g') (hi : i ≠ 0) : B1 (mgO g own own') g' i b vs := ⟨by
  obtain ⟨hc, _⟩ := s
  rw [mgO_new (bs.new_ (by rw [hc]; exact hi))]; exact hc, s.bl⟩
theorem MN.mg {bn n m : Nat} {fr to : Nat → Nat} {room cost ex pot : Nat → Int} (N : MN own' g' bn n m fr to room cost ex pot) (bs : Bs g own' g') : MN (mgO g own own') g' bn n m fr to room cost ex pot := by
  obtain ⟨vf, vt, vr, vc, vo, vx, vp, outs, k8, k1, k2, k3, k4, k5, k6, k7, ko⟩ := N.q
  exact ⟨vf, vt, vr, vc, vo, vx, vp, outs, k8.mg bs (by omega), k1.mg bs (by omega), k2.mg bs (by omega), k3.mg bs (by omega), k4.mg bs (by omega), k5.mg bs (by omega), k6.mg bs (by omega), k7.mg bs (by omega), fun v hv => (ko v hv).mg bs (by omega)⟩
theorem K4.fm {b6 b7 b8 b9 : Nat} {pl pl' : List Value} {co er co' er' : Int} {sv sv' : Value} (k : K4 b6 b7 b8 b9 g g') (P : P4 g b6 b7 b8 b9 pl co sv er) (P' : P4 g' b6 b7 b8 b9 pl' co' sv' er') (h6 : own b6 = 15) (h7 : own b7 = 16) (h8 : own b8 = 17) (h9 : own b9 = 18) : Fm [15, 16, 17, 18] own g own g' := by
  refine ⟨fun c o e n => k c o ?_ ?_ ?_ ?_ e, fun c o e => ⟨?_, rfl⟩⟩
  · rintro rfl; rw [h6] at n; simp at n
  · rintro rfl; rw [h7] at n; simp at n
  · rintro rfl; rw [h8] at n; simp at n
  · rintro rfl; rw [h9] at n; simp at n
  · by_cases e6 : c = b6
    · subst e6; obtain ⟨x, hx⟩ := P'.k6; exact ⟨_, hx⟩
    · by_cases e7 : c = b7
      · subst e7; obtain ⟨x, hx⟩ := P'.k7; exact ⟨_, hx⟩
      · by_cases e8 : c = b8
        · subst e8; obtain ⟨x, hx⟩ := P'.k8; exact ⟨_, hx⟩
        · by_cases e9 : c = b9
          · subst e9; obtain ⟨x, hx⟩ := P'.k9; exact ⟨_, hx⟩
          · exact ⟨o, k c o e6 e7 e8 e9 e⟩
theorem P4.of {b6 b7 b8 b9 : Nat} {pl : List Value} {co er : Int} {sv : Value} (hl : pl.length = 3) (k6 : B1 own g 15 b6 pl) (k7 : B1 own g 16 b7 [.int .i64 co]) (k8 : B1 own g 17 b8 [sv]) (k9 : B1 own g 18 b9 [.int .i64 er]) : P4 g b6 b7 b8 b9 pl co sv er := by
  have h6 := k6.own_
  have h7 := k7.own_
  have h8 := k8.own_
  have h9 := k9.own_
  refine ⟨hl, k6.bl, k7.bl, k8.bl, k9.bl, ?_, ?_, ?_, ?_, ?_, ?_⟩ <;> (rintro rfl; omega)
end

end Go.Proofs.Ytkdnnfpmppmmcaa

namespace Go.Proofs.Ytkdnnfpmppmmcaa
open Go
set_option linter.unusedVariables false
set_option linter.unusedSimpArgs false

section
variable {h : H} {w : List Value} {n : Int} {m l : Nat} {es : Nat → Ed} {sv : Value} {bf : Nat → Int}
theorem K4.ext_ {b6 b7 b8 b9 : Nat} {g g' : H} (x : Ext h g) (n6 : h b6 = none) (n7 : h b7 = none) (n8 : h b8 = none) (n9 : h b9 = none) (k : K4 b6 b7 b8 b9 g g') : Ext h g' := fun c o e => by
  refine k c o ?_ ?_ ?_ ?_ (x c o e)
  · rintro rfl; rw [n6] at e; cases e
  · rintro rfl; rw [n7] at e; cases e
  · rintro rfl; rw [n8] at e; cases e
  · rintro rfl; rw [n9] at e; cases e
/-- Behind the defer. -/
theorem SolveB_T {bn b1 b6 b7 b8 b9 : Nat} {v13 : Value} {ow : Own} {g : H} {k : Int} {f1 : FuncId} {rv : Value} {room pot : Nat → Int} (G : GrA h w l m es) (Z : RS h sv (ints l bf)) (gd : Gd l m es) (hw : wrong14 l m es l bf k = 0)
    (bs : Bs h ow g) (k14 : B1 ow g 14 b1 w) (k15 : B1 ow g 15 b6 plZ) (k16 : B1 ow g 16 b7 [.int .i64 0]) (k17 : B1 ow g 17 b8 [.slice none 0 0]) (k18 : B1 ow g 18 b9 [.int .i64 0]) (E : EvP l m (frE es) (toE es) (cpE es) bf)
    (hmeth : ∀ K : FuncId → Value → Prop, K f1 rv → methP Try.prog g v13 "compass/mincost.meet" K)
    (hT : T Try.prog f1 [rv] g (MeetA [3, 6, 7, 8, 10, 13, 20, 21, 22] ow g bn l m (frE es) (toE es) (cpE es) bf (cA (ckE es)))) (hM : ∃ room ex pot, MS ow g bn l m (frE es) (toE es) (cpE es) bf (cA (ckE es)) room ex pot) :
    BSolveB sv b1 b6 b7 b8 b9 (.pointer (some (bk bn))) v13 (SolveN (SolC h l m es l bf k) b6 b7 b8 b9) (SolveX (SolC h l m es l bf k) b6 b7 b8 b9) g := by
  have hm1 := E.m1
  have hn1 := E.n1
  have n6 : h b6 = none := bs.new_ (by rw [k15.own_]; omega)
  have n7 : h b7 = none := bs.new_ (by rw [k16.own_]; omega)
  have n8 : h b8 = none := bs.new_ (by rw [k17.own_]; omega)
  have n9 : h b9 = none := bs.new_ (by rw [k18.own_]; omega)
  unfold BSolveB
  refine hmeth _ (hT.mono ?_)
  rintro r g1 ⟨ow1, F1, hr⟩
  have bs0 := bs
  have k15g := k15
  have k16g := k16
  have k17g := k17
  have k18g := k18
  have bs := bs.fm F1 (by simp <;> omega)
  have k14 := k14.fm F1 (by simp <;> omega)
  have k15 := k15.fm F1 (by simp <;> omega)
  have k16 := k16.fm F1 (by simp <;> omega)
  have k17 := k17.fm F1 (by simp <;> omega)
  have k18 := k18.fm F1 (by simp <;> omega)
  rcases hr with ⟨rfl, room', ex', pot', S, ex0, red, pb⟩ | ⟨bsd, sd, rfl, hbs, sS, hlack⟩
  rotate_left
  · have P := P4.of rfl k15 k16 k17 k18
    refine ⟨_, _, _, _, slV bsd l, rfl, ⟨_, _, _, rfl⟩, P, fun g2 k4 P2 => ?_⟩
    have nb : ∀ {c : Nat} {vs : List Value}, Bl g c vs → bsd ≠ c := fun B => (B.ne hbs).symm
    obtain ⟨c, e, zs, h1, h2, h3⟩ := sS
    refine ⟨K4.ext_ bs.ext n6 n7 n8 n9 k4, .inr ⟨hw, rfl, gd, .inr ⟨bsd, sd, rfl, ?_, ⟨c, e, zs, h1, k4 _ _ (nb k15g.bl) (nb k16g.bl) (nb k17g.bl) (nb k18g.bl) h2, h3⟩, hlack⟩⟩⟩
    exact bs0.ext.new hbs
  obtain ⟨gv, rfl, Gv⟩ := G.gs
  obtain ⟨vf, vt, vr, vc, vo, vx, vp, outs, k8, k1, k2, k3, k4, k5, k6, k7, ko⟩ := S.net.q
  have rm := S.rm
  have bal := S.bal
  clear S k1 k2 k4 k5 k6 ko
  refine rt_ret ⟨rfl, ptrP_mk ⟨_, k14.ld rfl, (Gv.ext bs.ext).len fun _ _ => ⟨_, k8.ld rfl, new_put ?_⟩⟩⟩
  intro b11 g2 hb11 x11 h11
  have k24 : S1 (own1 ow1 b11 24) g2 24 (.slice (some (bk b11)) 0 0) [] := .inr ⟨b11, own1_at, 0, 2, [], rfl, h11, rfl⟩
  have bs := bs.nw (j := 24) x11 hb11
  have k14 := k14.nw (j := 24) x11 hb11
  have k15 := k15.nw (j := 24) x11 hb11
  have k16 := k16.nw (j := 24) x11 hb11
  have k17 := k17.nw (j := 24) x11 hb11
  have k18 := k18.nw (j := 24) x11 hb11
  have k3 := k3.nw (j := 24) x11 hb11
  have k7 := k7.nw (j := 24) x11 hb11
  have k8 := k8.nw (j := 24) x11 hb11
  generalize own1 ow1 b11 24 = ow2 at *
  refine k24.catR (Z.ext bs.ext) (by
    intro v hv
    unfold ints at hv
    obtain ⟨j, _, rfl⟩ := List.mem_map.1 hv
    rfl) (by omega) (by rw [ints_length]; simp; omega) ?_
  intro s7 ow3 g3 F2 k24
  rw [List.nil_append] at k24
  have k8' := k8
  have k14' := k14
  have bs := bs.fm F2 (by simp <;> omega)
  have k14 := k14.fm F2 (by simp <;> omega)
  have k15 := k15.fm F2 (by simp <;> omega)
  have k16 := k16.fm F2 (by simp <;> omega)
  have k17 := k17.fm F2 (by simp <;> omega)
  have k18 := k18.fm F2 (by simp <;> omega)
  have k3 := k3.fm F2 (by simp <;> omega)
  have k7 := k7.fm F2 (by simp <;> omega)
  have k8 := k8.fm F2 (by simp <;> omega)
  refine ⟨sameAt_b1 k8' k8, sameAt_b1 k14' k14, mk_ints 23 (by omega) (by omega) ?_⟩
  intro b15 g4 hb15 x15 S15
  have k23 := S15 ow3
  have bs := bs.nw (j := 23) x15 hb15
  have k14 := k14.nw (j := 23) x15 hb15
  have k15 := k15.nw (j := 23) x15 hb15
  have k16 := k16.nw (j := 23) x15 hb15
  have k17 := k17.nw (j := 23) x15 hb15
  have k18 := k18.nw (j := 23) x15 hb15
  have k3 := k3.nw (j := 23) x15 hb15
  have k7 := k7.nw (j := 23) x15 hb15
  have k8 := k8.nw (j := 23) x15 hb15
  have k24 := k24.nw (j := 23) x15 hb15
  generalize own1 ow3 b15 23 = ow4 at *
  clear S15 k8' k14'
  simp only [Int.toNat_natCast]
  refine oneP_slc k24.isS (oneP_slc k7.isS ?_)
  refine k15.stN rfl rfl (by
    intro v hv
    simp only [List.mem_cons, List.not_mem_nil, or_false] at hv
    rcases hv with rfl | rfl | rfl
    · exact k24.one
    · exact slc_one ⟨_, _, _, rfl⟩
    · exact k7.one) fun g5 F3 k15 => ?_
  have bs := bs.fm F3 (by simp <;> omega)
  have k14 := k14.fm F3 (by simp <;> omega)
  have k16 := k16.fm F3 (by simp <;> omega)
  have k17 := k17.fm F3 (by simp <;> omega)
  have k18 := k18.fm F3 (by simp <;> omega)
  have k3 := k3.fm F3 (by simp <;> omega)
  have k7 := k7.fm F3 (by simp <;> omega)
  have k8 := k8.fm F3 (by simp <;> omega)
  have k24 := k24.fm F3 (by simp <;> omega)
  have k23 := k23.fm F3 (by simp <;> omega)
  refine ⟨_, k14.ld rfl, (Gv.ext bs.ext).len fun _ _ => ?_⟩
  let I : (Int × Unit) → H → Nat → Prop := fun p q z => ∃ (s : Nat) (ow : Own) (fo : Nat → Int), p.1 = s ∧ s ≤ m ∧ z = m - s ∧ Bs h ow q ∧ B1 ow q 14 b1 [.int .i64 l, gv] ∧ B1 ow q 15 b6 [s7, slV b15 m, vp] ∧ B1 ow q 16 b7 [.int .i64 (totC s (ckE es) (onR room'))] ∧ B1 ow q 17 b8 [.slice none 0 0] ∧ B1 ow q 18 b9 [.int .i64 0] ∧
    S1 ow q 3 vr (ints (2 * m) room') ∧ S1 ow q 7 vp (ints l pot') ∧ B1 ow q 8 bn [vf, vt, vr, vc, vo, vx, vp] ∧ S1 ow q 24 s7 (ints l bf) ∧ S1 ow q 23 (slV b15 m) (ints m fo) ∧ ∀ j, j < s → fo j = onR room' j
  refine ⟨fun p q => ∃ k, I p q k, rk I, rk_wf I, ⟨_, 0, ow4, _, rfl, by omega, rfl, bs, k14, k15, k16, k17, k18, k3, k7, k8, k24, k23, fun j hj => by omega⟩, ?_⟩
  clear bs k14 k15 k16 k17 k18 k3 k7 k8 k24 k23
  intro p q hI
  obtain ⟨s, ow, fo, e1, hs, hz, bs, k14, k15, k16, k17, k18, k3, k7, k8, k24, k23, hfo⟩ := mu_spec hI
  generalize hkk : mu I ((p, ()), q) = km at *
  change p = (s : Int) at e1
  subst e1
  have hlt : s < m → m - (s + 1) < mu I (((s : Int), ()), q) := fun h => by rw [hkk, hz]; exact sub_dec h
  clear hI
  refine ifP_of (fun h1 => ?_) (fun h1 => ?_)
  · have hsm : s < m := by have := of_decide_eq_true h1; omega
    refine (Gv.ext bs.ext).e4 hsm (new_bl_st rfl rfl (ed_one _) ?_)
    intro b28 q2 hb28 x28 B28
    have k25 : B1 (own1 ow b28 25) q2 25 b28 (es s).vs := B1.new B28
    have bs := bs.nw (j := 25) x28 hb28
    have k14 := k14.nw (j := 25) x28 hb28
    have k15 := k15.nw (j := 25) x28 hb28
    have k16 := k16.nw (j := 25) x28 hb28
    have k17 := k17.nw (j := 25) x28 hb28
    have k18 := k18.nw (j := 25) x28 hb28
    have k3 := k3.nw (j := 25) x28 hb28
    have k7 := k7.nw (j := 25) x28 hb28
    have k8 := k8.nw (j := 25) x28 hb28
    have k24 := k24.nw (j := 25) x28 hb28
    have k23 := k23.nw (j := 25) x28 hb28
    generalize own1 ow b28 25 = ow at *
    have e1 : IntKind.i64.wrap (2 * (s : Int)) = ((2 * s : Nat) : Int) := by
      rw [show (2 * (s : Int)) = ((2 * s : Nat) : Int) by omega]; exact w64_in (by omega) (by omega)
    have e2 : IntKind.i64.wrap (((2 * s : Nat) : Int) + 1) = ((2 * s + 1 : Nat) : Int) := i64_inc (by omega)
    refine ptrP_mk ⟨_, k15.ld rfl, _, k8.ld rfl, ?_⟩
    rw [e1, e2, i64_inc (by omega)]
    refine k3.rdI (by omega) (k23.setI hsm fun q3 F4 k23 => ?_)
    have bs := bs.fm F4 (by simp <;> omega)
    have k14 := k14.fm F4 (by simp <;> omega)
    have k15 := k15.fm F4 (by simp <;> omega)
    have k16 := k16.fm F4 (by simp <;> omega)
    have k17 := k17.fm F4 (by simp <;> omega)
    have k18 := k18.fm F4 (by simp <;> omega)
    have k3 := k3.fm F4 (by simp <;> omega)
    have k7 := k7.fm F4 (by simp <;> omega)
    have k8 := k8.fm F4 (by simp <;> omega)
    have k24 := k24.fm F4 (by simp <;> omega)
    have k25 := k25.fm F4 (by simp <;> omega)
    refine k16.bl.ldI0 ⟨_, k25.ld rfl, _, k15.ld rfl, k23.rdI hsm ?_⟩
    rw [upd_at]
    have hb := totC_bd (m := s) (k := ckE es) (f := onR room') (C := 1048576) (X := 1048576) (by omega) (by omega) (fun i hi => gd.k i (by omega)) (fun i hi => rm.onb (fun i hi => (E.cp i hi).2) i (by omega))
    have hb1 := totC_bd (m := s + 1) (k := ckE es) (f := onR room') (C := 1048576) (X := 1048576) (by omega) (by omega) (fun i hi => gd.k i (by omega)) (fun i hi => rm.onb (fun i hi => (E.cp i hi).2) i (by omega))
    have et : totC (s + 1) (ckE es) (onR room') = totC s (ckE es) (onR room') + (es s).k * room' (2 * s + 1) := rfl
    rw [et] at hb1
    generalize hX : (es s).k * room' (2 * s + 1) = X at *
    have e3 : IntKind.i64.wrap X = X := w64_in (by omega) (by omega)
    have e4 : IntKind.i64.wrap (totC s (ckE es) (onR room') + X) = totC (s + 1) (ckE es) (onR room') := by rw [et]; exact w64_in (by omega) (by omega)
    rw [e3, e4]
    have st : stC q3 ((bk b7).add 0) (.int .i64 (totC (s + 1) (ckE es) (onR room'))) fun h43 => (∃ k, I (((s + 1 : Nat) : Int), ()) h43 k) ∧ rk I ((((s + 1 : Nat) : Int), ()), h43) (((s : Int), ()), q) := by
      refine k16.st (by simp) fun q4 F5 k16 => ?_
      have bs := bs.fm F5 (by simp <;> omega)
      have k14 := k14.fm F5 (by simp <;> omega)
      have k15 := k15.fm F5 (by simp <;> omega)
      have k17 := k17.fm F5 (by simp <;> omega)
      have k18 := k18.fm F5 (by simp <;> omega)
      have k3 := k3.fm F5 (by simp <;> omega)
      have k7 := k7.fm F5 (by simp <;> omega)
      have k8 := k8.fm F5 (by simp <;> omega)
      have k24 := k24.fm F5 (by simp <;> omega)
      have k23 := k23.fm F5 (by simp <;> omega)
      refine mu_next (I := I) (k := m - (s + 1)) ⟨s + 1, ow, _, rfl, hsm, rfl, bs, k14, k15, k16, k17, k18, k3, k7, k8, k24, k23, fun j hj => ?_⟩ (hlt hsm)
      by_cases e : j = s
      · subst e; rw [upd_at]; rfl
      · rw [upd_ne e]; exact hfo j (by omega)
    rwa [add_zero'] at st
  · have : s = m := by have := of_decide_eq_false h1; omega
    subst this
    have efo : ints s fo = ints s (onR room') := ints_ext hfo
    rw [efo] at k23
    have P := P4.of rfl k15 k16 k17 k18
    have h6 := k15.own_
    have h7 := k16.own_
    have h8 := k17.own_
    have h9 := k18.own_
    refine P.k6.ldN rfl (P.k7.ldI0 ?_)
    have one : ∀ v ∈ [s7, slV b15 s, vp], v.oneCell' = true := by
      intro v hv
      simp only [List.mem_cons, List.not_mem_nil, or_false] at hv
      rcases hv with rfl | rfl | rfl
      · exact k24.one
      · exact slc_one ⟨_, _, _, rfl⟩
      · exact k7.one
    refine P.s6 rfl one fun q1 K1 P1 => ?_
    refine ⟨by have := sameAt_bl (n := 2) (i := 0) P.k7 P1.k7; rwa [add_zero'] at this, P1.s7 fun q2 K2 P2 => P2.s8 fun q3 K3 P3 => P3.s9 fun q4 K4_ P4_ => ?_⟩
    refine ⟨_, _, _, _, P4_, fun g2 K5 P5 => ?_⟩
    have F := K4.fm (own := ow) ((((K1.trans K2).trans K3).trans K4_).trans K5) P P5 h6 h7 h8 h9
    have bs := bs.fm F (by simp <;> omega)
    have k7 := k7.fm F (by simp <;> omega)
    have k24 := k24.fm F (by simp <;> omega)
    have k23 := k23.fm F (by simp <;> omega)
    refine ⟨bs.ext, .inr ⟨hw, rfl, gd, .inl ⟨ow, s7, slV b15 s, vp, onR room', pot', rfl, bs, k24, k23, k7, rm.plan fun v hv => by have := bal v hv; have := ex0 v hv; omega, RedP.pot rm fun a ha hr => red a ha hr, pb⟩⟩⟩
end

end Go.Proofs.Ytkdnnfpmppmmcaa

namespace Go.Proofs.Ytkdnnfpmppmmcaa
open Go
set_option linter.unusedVariables false
set_option linter.unusedSimpArgs false

section
variable {h : H} {w : List Value} {n : Int} {m l : Nat} {es : Nat → Ed} {sv : Value} {bf : Nat → Int}
theorem Gd.ev (gd : Gd l m es) (hs : supOK l l bf) : EvP l m (frE es) (toE es) (cpE es) bf :=
  ⟨gd.n1, gd.m1, fun i hi => gd.ends i hi, gd.c, hs.2.1, hs.2.2⟩
/-- The answer to a wrong task. -/
theorem err14 {b3 b5 b7 b9 : Nat} {q : H} {c k : Int} (xq : Ext h q) (n3 : h b3 = none) (n5 : h b5 = none) (n7 : h b7 = none) (n9 : h b9 = none) (P : P4 q b3 b5 b7 b9 plZ 0 (.slice none 0 0) 0) (hc : wrong14 n m es l bf k = c) (h0 : c ≠ 0) :
    stN q (bk b3) plZ 3 fun h34 => stC h34 (bk b5) (.int .i64 0) fun h35 => stC h35 (bk b7) (.slice none 0 0) fun h36 => stC h36 (bk b9) (.int .i64 c) fun h37 =>
      ldN h37 (bk b3) 3 fun x38 => ldI h37 (bk b5) .i64 fun x39 => ldV h37 (bk b7) fun x40 => ldI h37 (bk b9) .i64 fun x41 => SolC h n m es l bf k (.ret (.tuple ⟨[.agg ⟨x38⟩, .int .i64 x39, x40, .int .i64 x41]⟩)) h37 :=
  P.s6 rfl plZ_one fun q1 K1 P => P.s7 fun q2 K2 P => P.s8 fun q3 K3 P => P.s9 fun q4 K4_ P =>
    P.read ⟨K4.ext_ xq n3 n5 n7 n9 (((K1.trans K2).trans K3).trans K4_), .inl ⟨by rw [hc]; exact h0, by rw [hc]⟩⟩
theorem MSolve_T (G : GrA h w n m es) (Z : RS h sv (ints l bf)) (k : Int) : T Try.prog F.mincost_Solve [.agg ⟨w⟩, sv, .int .i64 k] h (SolC h n m es l bf k) := by
  refine Solve_of ?_
  unfold BSolveA
  refine new_bl ?_
  intro b1 g1 hb1 x1 B1_
  have bs : Bs h (own1 (fun _ => 0) b1 14) g1 := Bs.start.new x1 hb1
  have k14 : B1 (own1 (fun _ => 0) b1 14) g1 14 b1 w := B1.new B1_
  generalize own1 (fun _ => 0) b1 14 = ow at *
  refine new_bl ?_
  intro b3 g3 hb3 x3 B3
  have k15 : B1 (own1 ow b3 15) g3 15 b3 plZ := B1.new B3
  have bs := bs.nw (j := 15) x3 hb3
  have k14 := k14.nw (j := 15) x3 hb3
  generalize own1 ow b3 15 = ow at *
  refine new_bl ?_
  intro b5 g5 hb5 x5 B5
  have k16 : B1 (own1 ow b5 16) g5 16 b5 [.int .i64 0] := B1.new B5
  have bs := bs.nw (j := 16) x5 hb5
  have k14 := k14.nw (j := 16) x5 hb5
  have k15 := k15.nw (j := 16) x5 hb5
  generalize own1 ow b5 16 = ow at *
  refine new_bl ?_
  intro b7 g7 hb7 x7 B7
  have k17 : B1 (own1 ow b7 17) g7 17 b7 [.slice none 0 0] := B1.new B7
  have bs := bs.nw (j := 17) x7 hb7
  have k14 := k14.nw (j := 17) x7 hb7
  have k15 := k15.nw (j := 17) x7 hb7
  have k16 := k16.nw (j := 17) x7 hb7
  generalize own1 ow b7 17 = ow at *
  refine new_bl ?_
  intro b9 g9 hb9 x9 B9
  have k18 : B1 (own1 ow b9 18) g9 18 b9 [.int .i64 0] := B1.new B9
  have bs := bs.nw (j := 18) x9 hb9
  have k14 := k14.nw (j := 18) x9 hb9
  have k15 := k15.nw (j := 18) x9 hb9
  have k16 := k16.nw (j := 18) x9 hb9
  have k17 := k17.nw (j := 18) x9 hb9
  generalize own1 ow b9 18 = ow at *
  clear x1 x3 x5 x7 x9 B1_ B3 B5 B7 B9 hb1 hb3 hb5 hb7 hb9
  have n3 : h b3 = none := bs.new_ (by rw [k15.own_]; omega)
  have n5 : h b5 = none := bs.new_ (by rw [k16.own_]; omega)
  have n7 : h b7 = none := bs.new_ (by rw [k17.own_]; omega)
  have n9 : h b9 = none := bs.new_ (by rw [k18.own_]; omega)
  refine k14.ldN G.one.1 ((Check_T (G.ext bs.ext)).mono ?_)
  rintro _ q ⟨rfl, x⟩
  refine rt_ret ⟨_, rfl, rfl, ?_⟩
  have bs := bs.ext_ x
  have k14 := k14.ext x
  have k15 := k15.ext x
  have k16 := k16.ext x
  have k17 := k17.ext x
  have k18 := k18.ext x
  clear x
  refine new_bl_st rfl rfl (by simp [Value.oneCell']) ?_
  intro b15 q2 hb15 x15 B15
  have k19 : B1 (own1 ow b15 19) q2 19 b15 _ := B1.new B15
  have bs := bs.nw (j := 19) x15 hb15
  have k14 := k14.nw (j := 19) x15 hb15
  have k15 := k15.nw (j := 19) x15 hb15
  have k16 := k16.nw (j := 19) x15 hb15
  have k17 := k17.nw (j := 19) x15 hb15
  have k18 := k18.nw (j := 19) x15 hb15
  generalize own1 ow b15 19 = ow at *
  clear x15 hb15 B15
  have P := P4.of rfl k15 k16 k17 k18
  have h6 := k15.own_
  have h7 := k16.own_
  have h8 := k17.own_
  have h9 := k18.own_
  have e19 := k19.own_
  refine ⟨_, k19.ld rfl, ifP_of (fun h0 => ?_) (fun h0 => ?_)⟩
  · have h0 : (faultG n m es).1 ≠ 0 := by simpa using h0
    have hc : wrong14 n m es l bf k = (faultG n m es).1 := by unfold wrong14; rw [if_neg h0]
    have kk : ∀ {q q' : H}, Bl q b15 [.int .i64 (faultG n m es).1, .int .i64 (faultG n m es).2] → K4 b3 b5 b7 b9 q q' → Bl q' b15 [.int .i64 (faultG n m es).1, .int .i64 (faultG n m es).2] := fun B k4 => by
      obtain ⟨e, hb⟩ := B
      exact ⟨e, k4 _ _ (by rintro rfl; omega) (by rintro rfl; omega) (by rintro rfl; omega) (by rintro rfl; omega) hb⟩
    refine P.k6.ldN rfl ⟨_, k19.ld rfl, P.s6 rfl plZ_one fun q1 K1 P => ?_⟩
    have B1' := kk k19.bl K1
    refine ⟨sameAt_bl k19.bl B1', P.s7 fun q2 K2 P => ?_⟩
    have B2' := kk B1' K2
    refine ⟨sameAt_bl B1' B2', P.s8 fun q3 K3 P => ?_⟩
    have B3' := kk B2' K3
    refine ⟨sameAt_bl B2' B3', P.s9 fun q4 K4_ P => ?_⟩
    exact P.read ⟨K4.ext_ bs.ext n3 n5 n7 n9 (((K1.trans K2).trans K3).trans K4_), .inl ⟨by rw [hc]; exact h0, by rw [hc]⟩⟩
  have h0 : (faultG n m es).1 = 0 := by simpa using h0
  obtain ⟨n, rfl, gd⟩ := Gd.of h0
  refine k14.ldN G.one.1 ((supplied_T (G.ext bs.ext) (by have := gd.n1; omega) (Z.ext bs.ext)).mono ?_)
  rintro _ q3 ⟨x, hr⟩
  have bs := bs.ext_ x
  have k14 := k14.ext x
  have k15 := k15.ext x
  have k16 := k16.ext x
  have k17 := k17.ext x
  have k18 := k18.ext x
  have P := P4.of rfl k15 k16 k17 k18
  rcases hr with ⟨hs, rfl⟩ | ⟨hs, rfl⟩
  rotate_left
  · refine rt_ret ⟨_, rfl, ifP_of (fun _ => ?_) (fun h => by simp at h)⟩
    have hc : wrong14 n m es l bf k = 130 := by unfold wrong14; rw [if_pos h0, if_neg hs]
    exact P.k6.ldN rfl (err14 bs.ext n3 n5 n7 n9 P hc (by omega))
  refine rt_ret ⟨_, rfl, ifP_of (fun h => by simp at h) (fun _ => ?_)⟩
  have hnl : n = l := by have := hs.1; omega
  subst hnl
  have E := gd.ev hs
  refine k14.ldN G.one.1 ((mnet_T (G.ext bs.ext) gd (Z.ext bs.ext)).mono ?_)
  rintro _ q4 ⟨bn, own', rfl, bs4, N⟩
  have F4 : Fm [] ow q3 (mgO q3 ow own') q4 := bs4.mg
  have N : MN (mgO q3 ow own') q4 bn _ _ _ _ _ _ _ _ := N.mg bs4
  have bs := bs.fm F4 (by simp <;> omega)
  have k14 := k14.fm F4 (by simp <;> omega)
  have k15 := k15.fm F4 (by simp <;> omega)
  have k16 := k16.fm F4 (by simp <;> omega)
  have k17 := k17.fm F4 (by simp <;> omega)
  have k18 := k18.fm F4 (by simp <;> omega)
  generalize mgO q3 ow own' = ow4 at *
  have S : MS ow4 q4 bn n m (frE es) (toE es) (cpE es) bf (cA (ckE es)) (room0 (cpE es)) bf (fun _ => 0) := ⟨N, room0_ok fun i hi => (gd.c i hi).1, fun v hv => by rw [room0_out]; omega⟩
  have r0 : ∀ i, i < m → room0 (cpE es) (2 * i + 1) = 0 := fun i _ => by unfold room0; rw [if_neg (by omega)]
  have hcost : ∀ a, a < 2 * m → cA (ckE es) a = cA (ckE es) a := fun _ _ => rfl
  have hok : 1 ≤ k ∧ k ≤ 3 → wrong14 n m es n bf k = 0 := fun h => by unfold wrong14; rw [if_pos h0, if_pos hs, if_pos h]
  have up : ∀ {M : List Nat} {own : Own} {h : H} {r : Res} {h' : H}, M ⊆ [3, 6, 7, 8, 10, 13, 20, 21, 22] → MeetA M own h bn n m (frE es) (toE es) (cpE es) bf (cA (ckE es)) r h' → MeetA [3, 6, 7, 8, 10, 13, 20, 21, 22] own h bn n m (frE es) (toE es) (cpE es) bf (cA (ckE es)) r h' :=
    fun hM ⟨o, F, r⟩ => ⟨o, F.mono hM, r⟩
  refine rt_ret (ifP_of (fun h1 => ?_) (fun h1 => ifP_of (fun h2 => ?_) (fun h2 => ifP_of (fun h3 => ?_) (fun h3 => ?_))))
  · have h1 := of_decide_eq_true h1
    refine oneP_ptr ⟨b1, b3, b5, b7, b9, _, _, rfl, ?_⟩
    exact SolveB_T G Z gd (hok (by omega)) bs k14 k15 k16 k17 k18 E (f1 := F.mincost_ways_meet) (rv := .agg ⟨[.pointer (some (bk bn))]⟩) (room := fun _ => 0) (pot := fun _ => 0) (fun K hK => ⟨_, _, fun w _ => meth70 _ w, hK⟩) ((ways_T S E gd.k hcost r0 fun _ _ => rfl).mono fun r h' hr => up (by simp) hr) ⟨_, _, _, S⟩
  · have h2 := of_decide_eq_true h2
    refine oneP_ptr ⟨b1, b3, b5, b7, b9, _, _, rfl, ?_⟩
    exact SolveB_T G Z gd (hok (by omega)) bs k14 k15 k16 k17 k18 E (f1 := F.mincost_circles_meet) (rv := .agg ⟨[.pointer (some (bk bn))]⟩) (room := fun _ => 0) (pot := fun _ => 0) (fun K hK => ⟨_, _, fun w _ => meth71 _ w, hK⟩) ((circles_T S E gd.k hcost).mono fun r h' hr => up (by simp) hr) ⟨_, _, _, S⟩
  · have h3 := of_decide_eq_true h3
    refine oneP_ptr (new_bl ?_)
    intro b45 q5 hb45 x45 B45
    have k10 : B1 (own1 ow4 b45 10) q5 10 b45 _ := B1.new B45
    have S : MS (own1 ow4 b45 10) q5 bn n m (frE es) (toE es) (cpE es) bf (cA (ckE es)) (room0 (cpE es)) bf (fun _ => 0) := ⟨S.net.nw x45 hb45, S.rm, S.bal⟩
    have bs := bs.nw (j := 10) x45 hb45
    have k14 := k14.nw (j := 10) x45 hb45
    have k15 := k15.nw (j := 10) x45 hb45
    have k16 := k16.nw (j := 10) x45 hb45
    have k17 := k17.nw (j := 10) x45 hb45
    have k18 := k18.nw (j := 10) x45 hb45
    generalize own1 ow4 b45 10 = ow5 at *
    refine ⟨b1, b3, b5, b7, b9, _, _, rfl, ?_⟩
    exact SolveB_T G Z gd (hok (by omega)) bs k14 k15 k16 k17 k18 E (f1 := F.mincost_scaling_meet) (rv := .pointer (some (bk b45))) (room := fun _ => 0) (pot := fun _ => 0) (fun K hK => ⟨_, _, fun w _ => meth72 _ w, hK⟩) (scaling_T S E gd.k hcost r0 (fun _ _ => rfl) k10) ⟨_, _, _, S⟩
  · have hc : wrong14 n m es n bf k = 50 := by
      have h1 := of_decide_eq_false h1
      have h2 := of_decide_eq_false h2
      have h3 := of_decide_eq_false h3
      unfold wrong14
      rw [if_pos h0, if_pos hs, if_neg (by omega)]
    have P := P4.of rfl k15 k16 k17 k18
    exact P.k6.ldN rfl (err14 bs.ext n3 n5 n7 n9 P hc (by omega))
end

end Go.Proofs.Ytkdnnfpmppmmcaa

namespace Go.Proofs.Ytkdnnfpmppmmcaa
open Go
set_option linter.unusedVariables false
set_option linter.unusedSimpArgs false

/-- A circle that costs less than nothing, of distinct nodes. -/
structure CircP (n M : Nat) (tl hd : Nat → Nat) (c : Nat → Int) (Y F : Nat → Nat) (p : Nat) : Prop where
  p1 : 1 ≤ p
  pn : p ≤ n
  cl : Y p = Y 0
  arc : ∀ s, s < p → F s < M ∧ hd (F s) = Y s ∧ tl (F s) = Y (s + 1)
  dis : ∀ s t, s < t → t < p → Y s ≠ Y t
  neg : sumN p (fun s => c (F s)) < 0
/-- Who was changed in round n + 1 hangs on such a circle. -/
theorem BF.circle {n M j tm : Nat} {tl hd : Nat → Nat} {c : Nat → Int} {U : Nat → Prop} {C : Int} {d : Nat → Int} {via τ r : Nat → Nat} (B : BF M tl hd c U C (n + 1) j d via τ r tm) (hnA : ∀ i, i < M → tl i < n ∧ hd i < n) {v : Nat} (hrv : r v = n + 1) :
    (∀ s, via (bck tl via v s) < M ∧ bck tl via v s < n) ∧ ∃ p, CircP n M tl hd c (fun t => bck tl via v (n + t)) (fun t => via (bck tl via v (n + t))) p ∧ ∀ q, 1 ≤ q → q < p → bck tl via v (n + q) ≠ bck tl via v n := by
  obtain ⟨hpos, p0, p1, p2, p3⟩ := B.found hnA hrv
  have hset : ∀ s, via (bck tl via v s) < M ∧ hd (via (bck tl via v s)) = bck tl via v s := fun s => by
    obtain ⟨a, b, c, _⟩ := B.set _ (hpos s)
    exact ⟨a, c⟩
  have hbn : ∀ s, bck tl via v s < n := fun s => by
    obtain ⟨a, c⟩ := hset s
    rw [← c]; exact (hnA _ a).2
  refine ⟨fun s => ⟨(hset s).1, hbn s⟩, ?_⟩
  obtain ⟨L, ⟨L1, L2, L3⟩, Lmin⟩ := least (P := fun p => 1 ≤ p ∧ p ≤ n ∧ bck tl via v (n + p) = bck tl via v n) ⟨p0, p1, p2, by rw [bck_add]; exact p3⟩
  refine ⟨L, ⟨L1, L2, L3, fun s _ => ⟨(hset _).1, (hset _).2, rfl⟩, fun i l h1 h2 e => ?_, ?_⟩, fun q q1 q2 e => ?_⟩
  · have e2 : bck tl via v (n + i + (L - l)) = bck tl via v (n + l + (L - l)) := by rw [bck_add, bck_add (i := n + l)]; rw [show bck tl via v (n + i) = bck tl via v (n + l) from e]
    rw [show n + l + (L - l) = n + L by omega, L3, show n + i + (L - l) = n + (i + (L - l)) by omega] at e2
    have := Lmin (i + (L - l)) ⟨by omega, by omega, e2⟩
    omega
  · have := B.circ (y := bck tl via v n) (p := L) L1 (by rw [← bck_add]; exact L3) (fun i _ => by rw [← bck_add]; exact hpos _)
    refine Int.lt_of_le_of_lt (Int.le_of_eq (sumN_congr fun t _ => ?_)) this
    rw [← bck_add]
  · have := Lmin q ⟨q1, by omega, e⟩
    omega

end Go.Proofs.Ytkdnnfpmppmmcaa

namespace Go.Proofs.Ytkdnnfpmppmmcaa
open Go
set_option linter.unusedVariables false
set_option linter.unusedSimpArgs false

theorem sumN_split {a : Nat} {f : Nat → Int} : ∀ {b : Nat}, sumN (a + b) f = sumN a f + sumN b fun i => f (a + i)
  | 0 => by show sumN a f = sumN a f + 0; omega
  | b + 1 => by
    show sumN (a + b) f + f (a + b) = sumN a f + (sumN b (fun i => f (a + i)) + f (a + b))
    rw [sumN_split]; omega
/-- The graph with a source before and a sink behind. -/
def wdE (n m : Nat) (es : Nat → Ed) (bf : Nat → Int) (j : Nat) : Ed :=
  if j < m then es j else if 0 < bf (j - m) then ⟨n, (j - m : Nat), bf (j - m), 0⟩ else ⟨(j - m : Nat), (n + 1 : Nat), -bf (j - m), 0⟩
section
variable {n m : Nat} {es : Nat → Ed} {bf f g : Nat → Int}
theorem wd_lo {j : Nat} (h : j < m) : wdE n m es bf j = es j := if_pos h
theorem wd_hi {u : Nat} : wdE n m es bf (m + u) = if 0 < bf u then ⟨n, (u : Nat), bf u, 0⟩ else ⟨(u : Nat), (n + 1 : Nat), -bf u, 0⟩ := by
  unfold wdE
  rw [if_neg (by omega), show m + u - m = u by omega]
theorem wd_fr {u : Nat} : frE (wdE n m es bf) (m + u) = if 0 < bf u then n else u := by
  unfold frE; rw [wd_hi]; split <;> simp
theorem wd_to {u : Nat} : toE (wdE n m es bf) (m + u) = if 0 < bf u then u else n + 1 := by
  unfold toE; rw [wd_hi]; split <;> simp
theorem wd_cp {u : Nat} : cpE (wdE n m es bf) (m + u) = if 0 < bf u then bf u else -bf u := by
  unfold cpE; rw [wd_hi]; split <;> rfl
theorem wd_gw (gd : Gd n m es) (hs : supOK n n bf) : Gw (n + 2) (m + n) (wdE n m es bf) := by
  have key : ∀ i, i < m + n → i < m ∨ ∃ u, u < n ∧ i = m + u := fun i hi => by
    by_cases h : i < m
    · exact .inl h
    · exact .inr ⟨i - m, by omega, by omega⟩
  refine ⟨by have := gd.n1; omega, by have := gd.m1; have := gd.n1; omega, fun i hi => ?_, fun i hi => ?_, fun i hi => ?_, fun i hi => ?_⟩
  · rcases key i hi with h | ⟨u, hu, rfl⟩
    · have := gd.fr h
      unfold frE at *
      rw [wd_lo h]; exact ⟨this.1, by omega⟩
    · rw [wd_fr, wd_hi]
      split <;> exact ⟨rfl, by omega⟩
  · rcases key i hi with h | ⟨u, hu, rfl⟩
    · have := gd.to h
      unfold toE at *
      rw [wd_lo h]; exact ⟨this.1, by omega⟩
    · rw [wd_to, wd_hi]
      split <;> exact ⟨rfl, by omega⟩
  · rcases key i hi with h | ⟨u, hu, rfl⟩
    · rw [wd_lo h]; exact gd.c i h
    · have := hs.2.1 u hu
      rw [wd_hi]
      split
      · show 0 ≤ bf u ∧ bf u ≤ 1048576; omega
      · show 0 ≤ -bf u ∧ -bf u ≤ 1048576; omega
  · rcases key i hi with h | ⟨u, hu, rfl⟩
    · rw [wd_lo h]; exact gd.k i h
    · rw [wd_hi]
      split <;> (show -1048576 ≤ (0 : Int) ∧ (0 : Int) ≤ 1048576; omega)
theorem wd_out (v : Nat) : OutF (m + n) (frE (wdE n m es bf)) (toE (wdE n m es bf)) f v =
    OutF m (frE es) (toE es) f v + sumN n fun u => (if (if 0 < bf u then n else u) = v then f (m + u) else 0) - (if (if 0 < bf u then u else n + 1) = v then f (m + u) else 0) := by
  unfold OutF
  rw [sumN_split]
  congr 1
  · refine sumN_congr fun i hi => ?_
    unfold frE toE
    rw [wd_lo hi]
  · refine sumN_congr fun u _ => ?_
    rw [wd_fr, wd_to]
theorem wd_out_v {v : Nat} (hv : v < n) : OutF (m + n) (frE (wdE n m es bf)) (toE (wdE n m es bf)) f v = OutF m (frE es) (toE es) f v + (if 0 < bf v then -f (m + v) else f (m + v)) := by
  rw [wd_out]
  congr 1
  rw [← sumN_ptf (f := fun v => if 0 < bf v then -f (m + v) else f (m + v)) hv]
  refine sumN_congr fun u hu => ?_
  by_cases h : 0 < bf u
  · simp only [h, if_true]
    rw [if_neg (show ¬ n = v by omega)]
    by_cases e : u = v
    · subst e; simp
    · rw [if_neg e, if_neg (fun h => e h.symm)]; omega
  · simp only [h, if_false]
    rw [if_neg (show ¬ n + 1 = v by omega)]
    by_cases e : u = v
    · subst e; simp
    · rw [if_neg e, if_neg (fun h => e h.symm)]; omega
theorem wd_out_s (hn : ∀ i, i < m → frE es i < n ∧ toE es i < n) : OutF (m + n) (frE (wdE n m es bf)) (toE (wdE n m es bf)) f n = sumN n fun u => if 0 < bf u then f (m + u) else 0 := by
  rw [wd_out]
  have e : OutF m (frE es) (toE es) f n = 0 := sumN_zero fun i hi => by
    have := hn i hi
    rw [if_neg (by omega), if_neg (by omega)]; rfl
  rw [e, Int.zero_add]
  refine sumN_congr fun u hu => ?_
  by_cases h : 0 < bf u
  · simp only [h, if_true]
    rw [if_neg (show ¬ u = n by omega)]; omega
  · simp only [h, if_false]
    rw [if_neg (show ¬ u = n by omega), if_neg (show ¬ n + 1 = n by omega)]; rfl
theorem wd_out_t (hn : ∀ i, i < m → frE es i < n ∧ toE es i < n) : OutF (m + n) (frE (wdE n m es bf)) (toE (wdE n m es bf)) f (n + 1) = - sumN n fun u => if 0 < bf u then 0 else f (m + u) := by
  rw [wd_out]
  have e : OutF m (frE es) (toE es) f (n + 1) = 0 := sumN_zero fun i hi => by
    have := hn i hi
    rw [if_neg (by omega), if_neg (by omega)]; rfl
  rw [e, Int.zero_add]
  have e2 := sumN_sub (f := fun _ => 0) (g := fun u => if 0 < bf u then 0 else f (m + u)) (k := n)
  rw [sumN_zero fun _ _ => rfl] at e2
  rw [← Int.zero_sub, ← e2]
  refine sumN_congr fun u hu => ?_
  by_cases h : 0 < bf u
  · simp only [h, if_true]
    rw [if_neg (show ¬ n = n + 1 by omega), if_neg (show ¬ u = n + 1 by omega)]
  · simp only [h, if_false, if_true]
    rw [if_neg (show ¬ u = n + 1 by omega)]
theorem flow_plan (gd : Gd n m es) (hs : supOK n n bf) (F : FlowP (n + 2) (m + n) (frE (wdE n m es bf)) (toE (wdE n m es bf)) (cpE (wdE n m es bf)) n (n + 1) f)
    (hv : posS n bf ≤ OutF (m + n) (frE (wdE n m es bf)) (toE (wdE n m es bf)) f n) : PlanP n m (frE es) (toE es) (cpE es) bf f := by
  have hw := wd_gw gd hs
  have hcp : ∀ u, u < n → 0 ≤ f (m + u) ∧ f (m + u) ≤ if 0 < bf u then bf u else -bf u := fun u hu => by
    have := F.cp (m + u) (by omega)
    rwa [wd_cp] at this
  have es_ := wd_out_s (f := f) (bf := bf) gd.ends
  have et := wd_out_t (f := f) (bf := bf) gd.ends
  rw [es_] at hv
  -- the source's edges are full
  have d1 : ∀ u, u < n → 0 ≤ (if 0 < bf u then bf u else 0) - (if 0 < bf u then f (m + u) else 0) := fun u hu => by
    have := hcp u hu
    split at this <;> simp_all <;> omega
  have z1 := sumN_all0 d1 (by rw [sumN_sub]; unfold posS at hv; omega)
  -- the sink's edges are full
  have all := out_all (n := n + 2) (f := f) hw.ends
  have e2 : sumN (n + 2) (fun v => OutF (m + n) (frE (wdE n m es bf)) (toE (wdE n m es bf)) f v) = sumN n (fun v => OutF (m + n) (frE (wdE n m es bf)) (toE (wdE n m es bf)) f v) + OutF (m + n) (frE (wdE n m es bf)) (toE (wdE n m es bf)) f n + OutF (m + n) (frE (wdE n m es bf)) (toE (wdE n m es bf)) f (n + 1) := rfl
  rw [e2, sumN_zero fun v hv => F.cons v (by omega) (by omega) (by omega), es_, et] at all
  have hb : sumN n (fun u => if 0 < bf u then bf u else 0) + sumN n (fun u => if 0 < bf u then 0 else bf u) = 0 := by
    rw [← sumN_add]
    exact (sumN_congr fun u _ => by split <;> omega).trans hs.2.2
  have d2 : ∀ u, u < n → 0 ≤ (if 0 < bf u then 0 else -bf u) - (if 0 < bf u then 0 else f (m + u)) := fun u hu => by
    have := hcp u hu
    split at this <;> simp_all <;> omega
  have hneg : sumN n (fun u => if 0 < bf u then 0 else -bf u) = - sumN n (fun u => if 0 < bf u then 0 else bf u) := by
    have e3 := sumN_sub (f := fun _ => 0) (g := fun u => if 0 < bf u then 0 else bf u) (k := n)
    rw [sumN_zero fun _ _ => rfl] at e3
    rw [← Int.zero_sub, ← e3]
    exact sumN_congr fun u _ => by split <;> omega
  have z2 := sumN_all0 d2 (by rw [sumN_sub, hneg]; unfold posS at hv; omega)
  refine ⟨fun i hi => ?_, fun v hvn => ?_⟩
  · have := F.cp i (by omega)
    unfold cpE at *
    rwa [wd_lo hi] at this
  · have c := F.cons v (by omega) (by omega) (by omega)
    rw [wd_out_v hvn] at c
    have a1 := z1 v hvn
    have a2 := z2 v hvn
    by_cases h : 0 < bf v
    · rw [if_pos h] at c; rw [if_pos h, if_pos h] at a1; omega
    · rw [if_neg h] at c; rw [if_neg h, if_neg h] at a2; omega
end
end Go.Proofs.Ytkdnnfpmppmmcaa

namespace Go.Proofs.Ytkdnnfpmppmmcaa
open Go
open Classical
set_option linter.unusedVariables false
set_option linter.unusedSimpArgs false

section
variable {h : H} {w : List Value} {n m : Nat} {es : Nat → Ed} {sv : Value} {bf : Nat → Int}
/-- The first ones. -/
theorem RS.take {v : Value} {a b : Nat} {f : Nat → Int} (s : RS h v (ints (a + b) f)) (hc : capV v) (hb : 0 < b) : ∃ ad l c, v = .slice ad l c ∧ l = a + b ∧ a ≤ c ∧ RS h (sliceV ad c 0 (a : Int) 1) (ints a f) := by
  obtain ⟨ad, c, e, k⟩ := s
  obtain ⟨ad2, l2, c2, e2, hle⟩ := hc
  rw [e] at e2
  simp only [Value.slice.injEq] at e2
  obtain ⟨rfl, rfl, rfl⟩ := e2
  rw [ints_length] at hle e
  obtain ⟨a0, ha0, _⟩ := k 0 _ (ints_get (show 0 < a + b by omega))
  subst ha0
  refine ⟨some a0, a + b, c, e, rfl, by omega, ⟨some a0, c, ?_, fun j x hj => ?_⟩⟩
  · unfold sliceV
    rw [if_neg (show ¬ c = (0 : Int).toNat by simp; omega)]
    simp [Addr.add, ints_length]
  · have hl := (List.getElem?_eq_some_iff.1 hj).1
    rw [ints_length] at hl
    refine k j x ?_
    rw [ints_get (by omega)]
    rwa [ints_get hl] at hj
end

end Go.Proofs.Ytkdnnfpmppmmcaa

namespace Go.Proofs.Ytkdnnfpmppmmcaa
open Go
set_option linter.unusedVariables false
set_option linter.unusedSimpArgs false

theorem wrong14_0 {n : Int} {m : Nat} {es : Nat → Ed} {l : Nat} {bf : Nat → Int} {k : Int} (h : wrong14 n m es l bf k = 0) : n = l ∧ Gd l m es ∧ supOK l l bf ∧ 1 ≤ k ∧ k ≤ 3 := by
  unfold wrong14 at h
  by_cases h0 : (faultG n m es).1 = 0
  · rw [if_pos h0] at h
    by_cases h1 : supOK n l bf
    · rw [if_pos h1] at h
      by_cases h2 : 1 ≤ k ∧ k ≤ 3
      · have e := h1.1
        subst e
        exact ⟨rfl, Gd.iff.1 h0, h1, h2⟩
      · rw [if_neg h2] at h; omega
    · rw [if_neg h1] at h; omega
  · rw [if_neg h0] at h; exact absurd h h0
def bB (x y : Int) (i : Nat) : Int := match i with
  | 0 => x
  | _ => y
theorem Bl.rs {h : H} {b : Nat} {vs : List Value} (B : Bl h b vs) : RS h (.slice (some (bk b)) vs.length vs.length) vs := by
  refine ⟨_, _, rfl, fun j x hj => ⟨_, rfl, ?_⟩⟩
  rw [Nat.mul_one]; exact B.ld hj
section
variable {h : H} {own : Own} {n m l : Nat} {es : Nat → Ed} {bf f p : Nat → Int} {vs von vp : Value}
theorem PlanR.one (P : PlanR own h n m es bf vs von vp f p) : ∀ v ∈ plV vs von vp, v.oneCell' = true := by
  intro v hv
  simp only [List.mem_cons, List.not_mem_nil, or_false] at hv
  rcases hv with rfl | rfl | rfl
  · exact P.s.one
  · exact P.o.one
  · exact P.po.one
end

end Go.Proofs.Ytkdnnfpmppmmcaa

namespace Go.Proofs.Ytkdnnfpmppmmcaa
open Go
set_option linter.unusedVariables false
set_option linter.unusedSimpArgs false

section
variable {h : H} {w : List Value} {n : Int} {m l : Nat} {es : Nat → Ed} {sv : Value} {bf : Nat → Int}
theorem PlanP.none_ {sd : Nat → Bool} {f : Nat → Int} (gd : Gd l m es) (P : PlanP l m (frE es) (toE es) (cpE es) bf f) : ¬ cutC m (frE es) (toE es) (cpE es) (fun v => sd v = true) < sumN l fun v => if sd v = true then bf v else 0 := fun hl => by
  have := P.side gd.ends (fun v => sd v = true)
  have e : (sumN l fun v => if sd v = true then bf v else 0) = sumN l fun v => @ite Int (sd v = true) (Classical.propDecidable _) (bf v) 0 := sumN_congr fun v _ => by by_cases h : sd v = true <;> simp [h]
  rw [e] at hl
  omega
theorem badFrom_5 {n : Int} {es : Nat → Ed} : ∀ {k i : Nat}, (badFrom n es i k).1 ≠ 5
  | 0, i => by show (0 : Int) ≠ 5; omega
  | k + 1, i => by
    show (if badE n (es i) ≠ 0 then (badE n (es i), (i : Int)) else badFrom n es (i + 1) k).1 ≠ 5
    split
    · show badE n (es i) ≠ 5
      unfold badE
      split
      · omega
      · split <;> omega
    · exact badFrom_5
end

end Go.Proofs.Ytkdnnfpmppmmcaa

namespace Go.Proofs.Ytkdnnfpmppmmcaa
open Go Go.ChangeShapes Go.WideShapes Go.Deep Go.RowKit
set_option linter.unusedVariables false

/-- What a world's heap holds, all of it. -/
def hOf (w : World) : H := fun b => w.heap[b]?
theorem hOf_sub (w : World) : Sub (hOf w) w := fun _ _ h => h
theorem hOf_cell {w : World} {a : Addr} {v : Value} (h : w.cell? a = some v) : hcell (hOf w) a = some v := by
  exact h

theorem T.row {P : Program} {f : FuncId} {args : List Value} {w : World} (t : T P f args (hOf w) fun r h' => r = .ret (.bool true) ∧ Ext (hOf w) h') :
    Calls P f args.toArray w fun e w' => e = .returned (.bool true) ∧ Below w.heap.size w w' := by
  refine (t.2 w (hOf_sub w)).mono ?_
  rintro e w' ⟨h', hs, st, hq⟩
  have hr : e = .returned (.bool true) ∧ Ext (hOf w) h' := by
    split at hq
    · obtain ⟨h1, h2⟩ := hq
      cases h1
      exact ⟨rfl, h2⟩
    · obtain ⟨h1, _⟩ := hq
      cases h1
    · exact hq.elim
  refine ⟨hr.1, ⟨st.same.1, st.same.2.1, st.same.2.2, st.size, fun k hk => ?_⟩⟩
  have e1 : w.heap[k]? = some (w.heap[k]'hk) := Array.getElem?_eq_getElem hk
  rw [e1]
  exact hs k _ (hr.2 k _ e1)

def intFields (P : Program) (fs : Array Field) : Bool := (List.range fs.size).all fun i => match fs[i]? with
  | some f => match P.underlying f.type with
    | some (.int .i64) => true
    | _ => false
  | none => false
theorem intFields_of {P : Program} {fs : Array Field} (h : intFields P fs = true) : ∀ (i : Nat) (f : Field), fs[i]? = some f → P.underlying f.type = some (.int .i64) := by
  intro i f hi
  have hlt : i < fs.size := (Array.getElem?_eq_some_iff.1 hi).1
  have := List.all_eq_true.1 h i (List.mem_range.2 hlt)
  simp only [hi] at this
  split at this
  · assumption
  · cases this

end Go.Proofs.Ytkdnnfpmppmmcaa

namespace Go.Proofs.Ytkdnnfpmppmmcaa
open Go Go.ChangeShapes Go.WideShapes Go.Deep Go.RowKit
set_option linter.unusedVariables false

section
variable {K : Type} {enc : TypeId × Value → K} {P : Program} {w : World} {base : Nat} {spare : Nat → Bool} {held : Bool}

theorem okWide_array {r : Reach} {b0 : Nat} {t e : TypeId} {v : Value} {n : Nat} (ht : P.underlying t = some (.array n e)) (h : Value.okWide P w r b0 t v) : ∃ cs, v = .agg cs ∧ cs.size = P.cellsOf t := by
  simp only [Value.okWide, ht] at h
  obtain ⟨cs, h1, h2, _⟩ := h
  exact ⟨cs, h1, h2⟩

/-- A slice of records of whole numbers, wherever it lies. -/
theorem open_recsN {t e : TypeId} {fs : Array Field} {B fuel : Nat} {cs : List Value} {x : DataW K × List MemPlace}
    (ht : P.underlying t = some (.slice e)) (he : P.underlying e = some (.struct fs)) (hone : oneCellFields P fs = true) (hint : intFields P fs = true) (hC : P.cellsOf e = fs.size) (hB : P.bytesOf e = B)
    (hsz : ∀ el sp, x.1 = .slice el sp → (el.length + sp.length) * B ≤ 140737488351232)
    (hf : DataW.trod enc P w base spare held fuel t cs = some x) :
    ∃ a len cap, cs = [.slice a len cap] ∧ len * B ≤ 140737488351232 ∧ ∀ i, i < len → ∃ ad, a = some ad ∧ ∀ j, j < fs.size → ∃ n : Int, w.cell? (ad.add (i * fs.size + j)) = some (.int .i64 n) := by
  rcases open_slice ht hf with ⟨hcs, _⟩ | ⟨x', l, c, m, n, D, Pl, hcs, _, hl, _, hm, hx, hi⟩
  · exact ⟨none, 0, 0, hcs, by simp, fun i hi => by omega⟩
  · have hlm : l ≤ m := by
      rw [hm]
      split
      · exact hl
      · exact Nat.le_refl _
    refine ⟨some x', l, c, hcs, ?_, fun i hil => ⟨x', rfl, fun j hj => ?_⟩⟩
    · have z := hsz _ _ (by rw [hx])
      simp only [List.length_map, List.length_range] at z
      calc l * B ≤ (l + (m - l)) * B := Nat.mul_le_mul_right _ (by omega)
        _ ≤ _ := z
    · obtain ⟨cs', hc, ht'⟩ := hi i (by omega)
      rw [hC] at hc
      obtain ⟨ys, n', _, _, hlen, hyl, hg⟩ := DataW.trod_struct he ht'
      obtain ⟨_, hcl, hat⟩ := World.cells?_some hc
      have hfj : fs[j]? = some (fs[j]'hj) := Array.getElem?_eq_getElem hj
      obtain ⟨ho, hk⟩ := hone_of hone j _ hfj
      have hw1 := hg j _ hfj
      rw [ho, hk] at hw1
      have one : (cs'.drop j).take 1 = [cs'[j]'(by omega)] := by
        rw [List.drop_eq_getElem_cons (by omega)]
        rfl
      rw [one, List.getElem?_eq_getElem (by omega)] at hw1
      obtain ⟨z, hz, _, _⟩ := DataW.trod_int (intFields_of hint j _ hfj) hw1
      refine ⟨z, ?_⟩
      rw [← Go.Deep.add_add, hat j hj, List.getElem?_eq_getElem (by omega)]
      simpa using hz

theorem open_pair {r : Reach} {b0 : Nat} {t e : TypeId} {v : Value} {d : DataW K} {ps : List MemPlace} (ht : P.underlying t = some (.array 2 e)) (he : P.underlying e = some (.int .i64)) (hC : P.cellsOf t = 2) (hCe : P.cellsOf e = 1)
    (hv : Value.okWide P w r b0 t v) (h : DataW.Trod enc P w base spare held t v d ps) : ∃ s u : Int, v = .agg ⟨[.int .i64 s, .int .i64 u]⟩ := by
  obtain ⟨cs, rfl, hsz⟩ := okWide_array ht hv
  obtain ⟨l⟩ := cs
  match l, hsz.trans hC with
  | [c0, c1], _ =>
    obtain ⟨fuel, hf⟩ := h
    obtain ⟨xs, m, _, _, _, hl, hg⟩ := DataW.trod_array ht hf
    have h0 := hg 0 (by omega)
    have h1 := hg 1 (by omega)
    rw [hCe] at h0 h1
    rw [List.getElem?_eq_getElem (by omega)] at h0 h1
    have h0 : DataW.trod enc P w base spare held m e [c0] = _ := h0
    have h1 : DataW.trod enc P w base spare held m e [c1] = _ := h1
    obtain ⟨s, hs, _⟩ := DataW.trod_int he h0
    obtain ⟨u, hu, _⟩ := DataW.trod_int he h1
    simp only [List.cons.injEq, and_true] at hs hu
    subst hs hu
    exact ⟨s, u, rfl⟩

theorem open_struct2 {r : Reach} {b0 : Nat} {t : TypeId} {f0 f1 : Field} {v : Value} {d : DataW K} {p : List MemPlace} (hs : P.underlying t = some (.struct #[f0, f1])) (hone : oneCellFields P #[f0, f1] = true) (hC : P.cellsOf t = 2)
    (hv : Value.okWide P w r b0 t v) (h : DataW.Trod enc P w base spare held t v d p) :
    ∃ (v0 v1 : Value) (y0 y1 : DataW K × List MemPlace) (n : Nat), v = .agg ⟨[v0, v1]⟩ ∧ d = .agg [y0.1, y1.1] ∧
      DataW.trod enc P w base spare held n f0.type [v0] = some y0 ∧ DataW.trod enc P w base spare held n f1.type [v1] = some y1 := by
  obtain ⟨cs, rfl, hsz⟩ := okWide_struct hs hv
  obtain ⟨l⟩ := cs
  match l, hsz.trans hC with
  | [c0, c1], _ =>
    obtain ⟨fuel, hf⟩ := h
    obtain ⟨xs, n, _, hx, _, hlen, hg⟩ := DataW.trod_struct hs hf
    obtain ⟨o0, k0⟩ := hone_of hone 0 f0 rfl
    obtain ⟨o1, k1⟩ := hone_of hone 1 f1 rfl
    match xs, hlen with
    | [y0, y1], _ =>
      simp only [Prod.mk.injEq] at hx
      exact ⟨c0, c1, y0, y1, n, rfl, by simpa using hx.1, by simpa [Value.cells, o0, k0] using hg 0 f0 rfl, by simpa [Value.cells, o1, k1] using hg 1 f1 rfl⟩
end

/-- Edges read are edges. -/
theorem Gs.of_cells {W : World} {a : Option Addr} {len cap : Nat} (h : ∀ i, i < len → ∃ ad, a = some ad ∧ ∀ j, j < 4 → ∃ n : Int, W.cell? (ad.add (i * 4 + j)) = some (.int .i64 n)) :
    ∃ es, Gs (hOf W) (.slice a len cap) len es := by
  have h2 : ∀ i, ∃ o : Ed, i < len → ∃ ad, a = some ad ∧ hcells (hOf W) (ad.add (i * 4)) o.vs := by
    intro i
    by_cases hi : i < len
    · obtain ⟨ad, rfl, hc⟩ := h i hi
      obtain ⟨n0, h0⟩ := hc 0 (by decide)
      obtain ⟨n1, h1⟩ := hc 1 (by decide)
      obtain ⟨n2, h2⟩ := hc 2 (by decide)
      obtain ⟨n3, h3⟩ := hc 3 (by decide)
      refine ⟨⟨n0, n1, n2, n3⟩, fun _ => ⟨ad, rfl, fun j v hj => ?_⟩⟩
      rw [Go.Deep.add_add]
      match j, hj with
      | 0, hj => cases hj; exact hOf_cell h0
      | 1, hj => cases hj; exact hOf_cell h1
      | 2, hj => cases hj; exact hOf_cell h2
      | 3, hj => cases hj; exact hOf_cell h3
    · exact ⟨⟨0, 0, 0, 0⟩, fun h => absurd h hi⟩
  exact ⟨fun i => Classical.choose (h2 i), a, cap, rfl, fun i hi => Classical.choose_spec (h2 i) hi⟩

end Go.Proofs.Ytkdnnfpmppmmcaa

namespace Go.Proofs.Ytkdnnfpmppmmcaa
open Go Go.ChangeShapes Go.WideShapes Go.Deep Go.RowKit
set_option linter.unusedVariables false

theorem wf_rng {n : Int} (h : (Lit.int .i64 n).wf = true) : -9223372036854775808 ≤ n ∧ n ≤ 9223372036854775807 := by
  have h2 : (decide (IntKind.i64.min ≤ n) && decide (n ≤ IntKind.i64.max)) = true := h
  rw [Bool.and_eq_true] at h2
  have a := of_decide_eq_true h2.1
  have b := of_decide_eq_true h2.2
  exact ⟨a, b⟩
section
variable {K : Type} {enc : TypeId × Value → K} {P : Program} {w : World} {base : Nat} {spare : Nat → Bool} {held : Bool}

/-- A slice of whole numbers, wherever it lies. -/
theorem open_intsN {t e : TypeId} {B fuel : Nat} {cs : List Value} {x : DataW K × List MemPlace}
    (ht : P.underlying t = some (.slice e)) (he : P.underlying e = some (.int .i64)) (hC : P.cellsOf e = 1) (hB : P.bytesOf e = B)
    (hsz : ∀ el sp, x.1 = .slice el sp → (el.length + sp.length) * B ≤ 140737488351232)
    (hf : DataW.trod enc P w base spare held fuel t cs = some x) :
    ∃ a len cap, cs = [.slice a len cap] ∧ len * B ≤ 140737488351232 ∧ ∀ i, i < len → ∃ ad, a = some ad ∧ ∃ n : Int, w.cell? (ad.add (i * 1)) = some (.int .i64 n) ∧ -9223372036854775808 ≤ n ∧ n ≤ 9223372036854775807 := by
  rcases open_slice ht hf with ⟨hcs, _⟩ | ⟨x', l, c, m, n, D, Pl, hcs, _, hl, _, hm, hx, hi⟩
  · exact ⟨none, 0, 0, hcs, by simp, fun i hi => by omega⟩
  · have hlm : l ≤ m := by
      rw [hm]
      split
      · exact hl
      · exact Nat.le_refl _
    refine ⟨some x', l, c, hcs, ?_, fun i hil => ⟨x', rfl, ?_⟩⟩
    · have z := hsz _ _ (by rw [hx])
      simp only [List.length_map, List.length_range] at z
      calc l * B ≤ (l + (m - l)) * B := Nat.mul_le_mul_right _ (by omega)
        _ ≤ _ := z
    · obtain ⟨cs', hc, ht'⟩ := hi i (by omega)
      rw [hC] at hc
      obtain ⟨z, hz, _, hwf⟩ := DataW.trod_int he ht'
      obtain ⟨_, hcl, hat⟩ := World.cells?_some hc
      refine ⟨z, ?_, wf_rng hwf⟩
      have := hat 0 (by omega)
      rw [hz] at this
      simpa [Addr.add] using this
theorem open_ints {t e : TypeId} {a : Option Addr} {len cap B j : Nat} {d : DataW K} {ps : List MemPlace} {ts : List TypeId} {ds : List (DataW K)}
    (ht : P.underlying t = some (.slice e)) (he : P.underlying e = some (.int .i64)) (hC : P.cellsOf e = 1) (hB : P.bytesOf e = B)
    (hsz : (DataW.weightsEach P ts ds).all (· ≤ reachBytes) = true) (hj : ts[j]? = some t) (hd : ds[j]? = some d)
    (h : DataW.Trod enc P w base spare held t (.slice a len cap) d ps) :
    len * B ≤ 140737488351232 ∧ ∀ i, i < len → ∃ ad, a = some ad ∧ ∃ n : Int, w.cell? (ad.add (i * 1)) = some (.int .i64 n) ∧ -9223372036854775808 ≤ n ∧ n ≤ 9223372036854775807 := by
  obtain ⟨fuel, hf⟩ := h
  have hf' := hf
  rcases open_slice ht hf with ⟨hcs, _⟩ | ⟨x, l, c, m, n, D, Pl, hcs, _, hl, _, hm, hx, hi⟩
  · simp [Value.cells] at hcs
    obtain ⟨rfl, rfl, rfl⟩ := hcs
    exact ⟨by simp, fun i hi => by omega⟩
  · have hd' : ∀ el sp, d = .slice el sp → (el.length + sp.length) * B ≤ 140737488351232 := by
      rintro el sp rfl
      have z := sized_slice hsz hj hd ht
      rw [hB] at z
      exact z
    obtain ⟨a', len', cap', hcs', h1, h2⟩ := open_intsN (B := B) ht he hC hB hd' hf'
    simp [Value.cells] at hcs'
    obtain ⟨rfl, rfl, rfl⟩ := hcs'
    exact ⟨h1, h2⟩
end

/-- Numbers read are numbers. -/
theorem RS.of_cells {W : World} {a : Option Addr} {len cap : Nat} (h : ∀ i, i < len → ∃ ad, a = some ad ∧ ∃ n : Int, W.cell? (ad.add (i * 1)) = some (.int .i64 n) ∧ -9223372036854775808 ≤ n ∧ n ≤ 9223372036854775807) :
    ∃ bf : Nat → Int, RS (hOf W) (.slice a len cap) (ints len bf) ∧ ∀ i, i < len → -9223372036854775808 ≤ bf i ∧ bf i ≤ 9223372036854775807 := by
  have h2 : ∀ i, ∃ o : Int, i < len → ∃ ad, a = some ad ∧ hcell (hOf W) (ad.add (i * 1)) = some (.int .i64 o) ∧ -9223372036854775808 ≤ o ∧ o ≤ 9223372036854775807 := by
    intro i
    by_cases hi : i < len
    · obtain ⟨ad, rfl, n, hn, hr⟩ := h i hi
      exact ⟨n, fun _ => ⟨ad, rfl, hOf_cell hn, hr⟩⟩
    · exact ⟨0, fun h => absurd h hi⟩
  refine ⟨fun i => Classical.choose (h2 i), ⟨a, cap, by rw [ints_length], fun j x hj => ?_⟩, fun i hi => by obtain ⟨_, _, _, hr⟩ := Classical.choose_spec (h2 i) hi; exact hr⟩
  have hl := (List.getElem?_eq_some_iff.1 hj).1
  rw [ints_length] at hl
  rw [ints_get hl] at hj
  cases hj
  obtain ⟨ad, e, hc, _⟩ := Classical.choose_spec (h2 j) hl
  exact ⟨ad, e, hc⟩

end Go.Proofs.Ytkdnnfpmppmmcaa

