import Derived.Test.YtdcamadeblojdaaGreatWP4
namespace Go.Proofs.YtdcamadeblojdaaGreat
open Go
open Classical
set_option linter.unusedVariables false
set_option linter.unusedSimpArgs false

abbrev heldP (n : Nat) (held : Nat → Bool) (v : Nat) : Prop := v < n ∧ held v = true
/-- A queue: who is held, with which keys. -/
def FQ (own : Own) (h : H) (bq n : Nat) (key : Nat → Int) (held : Nat → Bool) : Prop :=
  ∃ bf bl last best st L C, HQ own h bq bf bl n key held (cntP n (heldP n held)) last best st ∧ FH n key (heldP n held) st best L C
section
variable {own own' : Own} {h h' : H} {n bq : Nat} {key : Nat → Int} {held : Nat → Bool}
theorem FQ.fm {M : List Nat} (Q : FQ own h bq n key held) (F : Fm M own h own' h') (hM : ∀ j, j ∈ M → j < 31 ∨ 35 < j) : FQ own' h' bq n key held := by
  obtain ⟨bf, bl, last, best, st, L, C, Q, G⟩ := Q
  exact ⟨bf, bl, last, best, st, L, C, Q.fm F hM, G⟩
theorem Len_T (Q : FQ own h bq n key held) : T Tryz.prog F.heaps_Queue_Len [.pointer (some (bk bq))] h fun r h' => r = .ret (.int .i64 (cntP n (heldP n held))) ∧ h = h' := by
  obtain ⟨bf, bl, last, best, st, L, C, Q, G⟩ := Q
  obtain ⟨vk, vh, k1, k2, k3⟩ := Q.q
  refine E_heaps_Queue_Len ?_
  unfold B_heaps_Queue_Len
  exact ptrP_mk ⟨_, k1.ld rfl, rfl, rfl⟩
theorem low_T {bf bl : Nat} {cnt last best : Int} {st : Nat → Nat → Int} (Q : HQ own h bq bf bl n key held cnt last best st) (k : Int) : T Tryz.prog F.heaps_Queue_low [.pointer (some (bk bq)), .int .i64 k] h fun r h' => r = .ret (.bool false) ∧ h = h' := by
  obtain ⟨vk, vh, k1, k2, k3⟩ := Q.q
  refine E_heaps_Queue_low ?_
  unfold B_heaps_Queue_low
  exact ptrP_mk ⟨_, k1.ld rfl, ifP_of (fun h => by simp at h) (fun _ => ⟨rfl, rfl⟩)⟩

theorem B1.ld0 {i b j : Nat} {vs : List Value} {v : Value} (B : B1 own h i b vs) (hi : vs[j]? = some v) : hcell h (((bk b).add 0).add j) = some v := by rw [add_zero']; exact B.ld hi
theorem FH.rekey {key' : Nat → Int} {A : Nat → Prop} {st : Nat → Nat → Int} {best : Int} {L : List Nat} {C : Nat → List Nat} (G : FH n key A st best L C) (hk : ∀ x, A x → key' x = key x) : FH n key' A st best L C := by
  have e : ∀ x y, A x → A y → ahd key x y → ahd key' x y := fun x y hx hy h => by unfold ahd at *; rw [hk x hx, hk y hy]; exact h
  refine ⟨G.ft.rekey fun x hx hr p hp _ ho => ?_, G.ri.nd, G.ri.cyc, G.ri.r0, ?_⟩
  · obtain ⟨p', e1, e2⟩ := G.ft.par x hx hr
    have : p' = p := by omega
    subst this
    exact e _ _ e2 hx ho
  · rcases G.ri.bst with h | ⟨b, h1, h2, h3⟩
    · exact .inl h
    · refine .inr ⟨b, h1, h2, fun v hv => ?_⟩
      rcases h3 v hv with k | k
      · exact .inl k
      · exact .inr (e _ _ (G.ft.ra b h2) (G.ft.ra v hv) k)
theorem FH.uset {A A' : Nat → Prop} {st : Nat → Nat → Int} {best : Int} {L : List Nat} {C : Nat → List Nat} (G : FH n key A st best L C) (h : ∀ x, A' x ↔ A x) : FH n key A' st best L C :=
  ⟨G.ft.uset h fun _ => Iff.rfl, G.ri⟩

theorem qpush_T (Q : FQ own h bq n key held) {v : Nat} {k : Int} (hv : v < n) (hh : held v = false) (hn : n ≤ 1024) :
    T Tryz.prog F.heaps_Queue_Push [.pointer (some (bk bq)), .int .i64 v, .int .i64 k] h fun r h' => r = .ret (.int .i64 0) ∧ Fm [31, 32, 33, 34, 35] own h own h' ∧ FQ own h' bq n (upd key v k) (updB held v true) := by
  obtain ⟨bf, bl, last, best, st, L, C, Q, G⟩ := Q
  have Q0 := Q
  obtain ⟨vk, vh, k1, k2, k3⟩ := Q.q
  have kf := Q.f
  have kl := Q.l
  refine E_heaps_Queue_Push ?_
  unfold B_heaps_Queue_Push
  refine ifP_of (fun e => by have := of_decide_eq_true e; omega) (fun _ => ptrP_mk ⟨_, k1.ld0 rfl, k3.len (bools_length _ _) fun _ _ => ifP_of (fun e => by have := of_decide_eq_true e; omega) (fun _ => ptrP_mk ⟨_, k1.ld0 rfl, k3.rdB hv ?_⟩)⟩)
  rw [hh]
  refine ifP_of (fun e => by cases e) (fun _ => ?_)
  refine (low_T Q0 k).mono ?_
  rintro _ _ ⟨rfl, rfl⟩
  refine rt_ret ⟨_, rfl, ifP_of (fun e => by cases e) (fun _ => ptrP_mk (ptrP_mk ⟨_, k1.ld0 rfl, _, k1.ld0 rfl, k2.setI hv fun g1 F1 k2 => ?_⟩))⟩
  have k1 := k1.fm F1 (by simp <;> omega)
  have k3 := k3.fm F1 (by simp <;> omega)
  have kf := kf.fm F1 (by simp <;> omega)
  have kl := kl.fm F1 (by simp <;> omega)
  refine k3.setB hv fun g2 F2 k3 => ?_
  have k1 := k1.fm F2 (by simp <;> omega)
  have k2 := k2.fm F2 (by simp <;> omega)
  have kf := kf.fm F2 (by simp <;> omega)
  have kl := kl.fm F2 (by simp <;> omega)
  have cb : 0 ≤ cntP n (heldP n held) ∧ cntP n (heldP n held) ≤ 1024 := ⟨cntP_nn, by have := cntP_all (n := n) (P := heldP n held); omega⟩
  have ew : IntKind.i64.wrap (cntP n (heldP n held) + 1) = cntP n (heldP n held) + 1 := w64_in (by omega) (by omega)
  refine ptrP_mk ⟨_, k1.ld rfl, ptrP_mk (k1.st (j := 3) (by simp) fun g3 F3 k1 => ?_)⟩
  rw [ew] at k1
  have k2 := k2.fm F3 (by simp <;> omega)
  have k3 := k3.fm F3 (by simp <;> omega)
  have kf := kf.fm F3 (by simp <;> omega)
  have kl := kl.fm F3 (by simp <;> omega)
  have ec : cntP n (heldP n (updB held v true)) = cntP n (heldP n held) + 1 := by
    rw [← cntP_add (P := heldP n held) hv (fun e => by have := e.2; rw [hh] at this; cases this)]
    refine cntP_congr fun x hx => ?_
    unfold updB heldP
    by_cases e : x = v
    · subst e; simp [hx]
    · simp [e]
  have Q : HQ own g3 bq bf bl n (upd key v k) (updB held v true) (cntP n (heldP n (updB held v true))) last best st := ⟨⟨vk, vh, by rw [ec]; exact k1, k2, k3⟩, kf, kl⟩
  have G := G.rekey (key' := upd key v k) fun x hx => upd_ne (by rintro rfl; have := hx.2; rw [hh] at this; cases this)
  refine ptrP_mk ⟨_, k1.ld rfl, _, _, fun w _ => methPush _ w, ?_⟩
  refine (fpush_T Q G hv (fun e => by have := e.2; rw [hh] at this; cases this)).mono ?_
  rintro _ g4 ⟨rfl, F4, st', best', L', C', Q, G⟩
  refine rt_ret ⟨rfl, rfl, (((F1.mono (by simp)).trans (F2.mono (by simp))).trans (F3.mono (by simp))).trans (F4.mono (by simp)), bf, bl, last, best', st', L', C', Q, G.uset fun x => ?_⟩
  unfold updB heldP
  by_cases e : x = v
  · subst e; simp [hv]
  · simp [e]

theorem qlower_T (Q : FQ own h bq n key held) {v : Nat} {k : Int} (hv : v < n) (hh : held v = true) (hk : k < key v) (hn : n ≤ 1024) :
    T Tryz.prog F.heaps_Queue_Lower [.pointer (some (bk bq)), .int .i64 v, .int .i64 k] h fun r h' => r = .ret (.int .i64 0) ∧ Fm [31, 32, 33, 34, 35] own h own h' ∧ FQ own h' bq n (upd key v k) held := by
  obtain ⟨bf, bl, last, best, st, L, C, Q, G⟩ := Q
  have Q0 := Q
  obtain ⟨vk, vh, k1, k2, k3⟩ := Q.q
  have kf := Q.f
  have kl := Q.l
  refine E_heaps_Queue_Lower ?_
  unfold B_heaps_Queue_Lower
  refine ifP_of (fun e => by have := of_decide_eq_true e; omega) (fun _ => ptrP_mk ⟨_, k1.ld0 rfl, k3.len (bools_length _ _) fun _ _ => ifP_of (fun e => by have := of_decide_eq_true e; omega) (fun _ => ptrP_mk ⟨_, k1.ld0 rfl, k3.rdB hv ?_⟩)⟩)
  rw [hh]
  refine ifP_of (fun e => by cases e) (fun _ => ptrP_mk ⟨_, k1.ld0 rfl, k2.rdI hv (ifP_of (fun e => by have := of_decide_eq_true e; omega) (fun _ => ?_))⟩)
  refine (low_T Q0 k).mono ?_
  rintro _ _ ⟨rfl, rfl⟩
  refine rt_ret ⟨_, rfl, ifP_of (fun e => by cases e) (fun _ => ptrP_mk ⟨_, k1.ld0 rfl, k2.rdI hv (ifP_of (fun _ => ?_) (fun e => by have := of_decide_eq_false e; omega))⟩)⟩
  refine ptrP_mk ⟨_, k1.ld0 rfl, k2.setI hv fun g1 F1 k2 => ?_⟩
  have k1 := k1.fm F1 (by simp <;> omega)
  have k3 := k3.fm F1 (by simp <;> omega)
  have kf := kf.fm F1 (by simp <;> omega)
  have kl := kl.fm F1 (by simp <;> omega)
  have Q : HQ own g1 bq bf bl n (upd key v k) held (cntP n (heldP n held)) last best st := ⟨⟨vk, vh, k1, k2, k3⟩, kf, kl⟩
  refine ptrP_mk ⟨_, k1.ld rfl, _, _, fun w _ => methLower _ w, ?_⟩
  refine (flower_T Q G hn ⟨hv, hh⟩ (by rw [upd_at]; exact hk) (fun x hx => upd_ne hx)).mono ?_
  rintro _ g2 ⟨rfl, F2, st', best', L', C', Q, G⟩
  exact rt_ret ⟨rfl, rfl, (F1.mono (by simp)).trans (F2.mono (by simp)), bf, bl, last, best', st', L', C', Q, G⟩
end

end Go.Proofs.YtdcamadeblojdaaGreat

namespace Go.Proofs.YtdcamadeblojdaaGreat
open Go
open Classical
set_option linter.unusedVariables false
set_option linter.unusedSimpArgs false

section
variable {own own' : Own} {h h' : H} {n bq : Nat} {key : Nat → Int} {held : Nat → Bool}
theorem qpop_T (Q : FQ own h bq n key held) (hc : 0 < cntP n (heldP n held)) (hn : n ≤ 1024) :
    T Tryz.prog F.heaps_Queue_Pop [.pointer (some (bk bq))] h fun r h' => ∃ (v : Nat) (own' : Own), r = .ret (.tuple ⟨[.int .i64 v, .int .i64 (key v), .int .i64 0]⟩) ∧ v < n ∧ held v = true ∧ (∀ x, x < n → held x = true → key v ≤ key x) ∧
      Fm [31, 32, 33, 34, 35, 36, 37, 38] own h own' h' ∧ FQ own' h' bq n key (updB held v false) := by
  obtain ⟨bf, bl, last, best, st, L, C, Q, G⟩ := Q
  have Q0 := Q
  obtain ⟨vk, vh, k1, k2, k3⟩ := Q.q
  have cb : cntP n (heldP n held) ≤ 1024 := by have := cntP_all (n := n) (P := heldP n held); omega
  -- the best
  obtain ⟨b, rfl, hbL, hmin⟩ : ∃ b : Nat, best = b ∧ b ∈ L ∧ ∀ v ∈ L, v = b ∨ ahd key b v := by
    rcases G.ri.bst with ⟨e, _⟩ | e
    · exfalso
      subst e
      have : ∀ k : Nat, ∀ v, heldP n held v → cntP n (fun y => ahd key y v) ≤ k → False := by
        intro k
        induction k with
        | zero =>
          intro v hv hc
          obtain ⟨q, e, hq⟩ := G.ft.par v hv (by simp)
          have o := G.ft.ord v q hv (by simp) e (by omega)
          have := cntP_one (n := n) (P := fun y => ahd key y v) (G.ft.lt q hq) o
          omega
        | succ k ih =>
          intro v hv hc
          obtain ⟨q, e, hq⟩ := G.ft.par v hv (by simp)
          have o := G.ft.ord v q hv (by simp) e (by omega)
          refine ih q hq ?_
          have h1 : cntP n (fun y => y = q ∨ ahd key y q) ≤ cntP n (fun y => ahd key y v) := cntP_le fun y _ hy => by
            rcases hy with rfl | hy
            · exact o
            · exact ahd_tr hy o
          rw [cntP_add (P := fun y => ahd key y q) (G.ft.lt q hq) ahd_irr] at h1
          omega
      have e0 : cntP n (heldP n held) = 0 := cntP_0 fun x _ hx => this n x hx cntP_all
      omega
    · exact e
  have hbA := G.ft.ra b hbL
  have hbn := hbA.1
  have hbest : ∀ x, x < n → held x = true → key b ≤ key x := fun x hx hh => by
    rcases G.ft.min (fun v hv => hmin v hv) x ⟨hx, hh⟩ with e | e
    · rw [e]; omega
    · unfold ahd at e; omega
  refine E_heaps_Queue_Pop ?_
  unfold B_heaps_Queue_Pop
  have top : T Tryz.prog F.heaps_Queue_Top [.pointer (some (bk bq))] h fun r h' => r = .ret (.tuple ⟨[.int .i64 b, .int .i64 (key b), .int .i64 0]⟩) ∧ h = h' := by
    refine E_heaps_Queue_Top ?_
    unfold B_heaps_Queue_Top
    refine ptrP_mk ⟨_, k1.ld rfl, ifP_of (fun e => by have := of_decide_eq_true e; omega) (fun _ => ptrP_mk ⟨_, k1.ld rfl, _, _, fun w _ => methTop _ w, ?_⟩)⟩
    have tt : T Tryz.prog F.heaps_fibonacci_top [.pointer (some (bk bf))] h fun r h' => r = .ret (.int .i64 b) ∧ h = h' := by
      refine E_heaps_fibonacci_top ?_
      unfold B_heaps_fibonacci_top
      exact ptrP_mk ⟨_, Q.f.ld rfl, rfl, rfl⟩
    refine tt.mono ?_
    rintro _ _ ⟨rfl, rfl⟩
    exact rt_ret ⟨_, rfl, ptrP_mk ⟨_, k1.ld0 rfl, k2.rdI hbn ⟨rfl, rfl⟩⟩⟩
  refine top.mono ?_
  rintro _ _ ⟨rfl, rfl⟩
  refine rt_ret ⟨_, _, _, rfl, ifP_of (fun _ => ptrP_mk ⟨_, k1.ld rfl, _, _, fun w _ => methPop _ w, ?_⟩) (fun e => by simp at e)⟩
  refine (fpop_T Q G hn rfl hbL).mono ?_
  rintro _ g1 ⟨rfl, own1_, st', best', L', C', F1, Q, G⟩
  obtain ⟨vk, vh, k1, k2, k3⟩ := Q.q
  have kf := Q.f
  have kl := Q.l
  refine rt_ret ⟨rfl, ptrP_mk ⟨_, k1.ld0 rfl, k3.setB hbn fun g2 F2 k3 => ?_⟩⟩
  have k1 := k1.fm F2 (by simp <;> omega)
  have k2 := k2.fm F2 (by simp <;> omega)
  have kf := kf.fm F2 (by simp <;> omega)
  have kl := kl.fm F2 (by simp <;> omega)
  have ew : IntKind.i64.wrap (cntP n (heldP n held) - 1) = cntP n (heldP n held) - 1 := w64_in (by omega) (by omega)
  refine ptrP_mk ⟨_, k1.ld rfl, ptrP_mk (k1.st (j := 3) (by simp) fun g3 F3 k1 => ?_)⟩
  rw [ew] at k1
  have k2 := k2.fm F3 (by simp <;> omega)
  have k3 := k3.fm F3 (by simp <;> omega)
  have kf := kf.fm F3 (by simp <;> omega)
  have kl := kl.fm F3 (by simp <;> omega)
  refine ptrP_mk (k1.st (j := 5) (by simp) fun g4 F4 k1 => ?_)
  have k2 := k2.fm F4 (by simp <;> omega)
  have k3 := k3.fm F4 (by simp <;> omega)
  have kf := kf.fm F4 (by simp <;> omega)
  have kl := kl.fm F4 (by simp <;> omega)
  have ec : cntP n (heldP n held) = cntP n (heldP n (updB held b false)) + 1 := by
    rw [← cntP_add (a := b) (P := heldP n (updB held b false)) hbn (fun e => by have := e.2; unfold updB at this; rw [if_pos rfl] at this; cases this)]
    refine cntP_congr fun x hx => ?_
    unfold updB heldP
    by_cases e : x = b
    · subst e; simp [hx, hbA.2]
    · simp [e]
  have Q : HQ own1_ g4 bq bf bl n key (updB held b false) (cntP n (heldP n (updB held b false))) (key b) best' st' :=
    ⟨⟨vk, vh, by rw [show cntP n (heldP n (updB held b false)) = cntP n (heldP n held) - 1 by omega]; exact k1, k2, k3⟩, kf, kl⟩
  refine ⟨b, own1_, rfl, hbn, hbA.2, hbest, (((F1.mono (by simp)).trans (F2.mono (by simp))).trans (F3.mono (by simp))).trans (F4.mono (by simp)), bf, bl, key b, best', st', L', C', Q, G.uset fun x => ?_⟩
  unfold updB heldP
  by_cases e : x = b
  · subst e; simp
  · simp [e]

theorem va_6 {k : Nat} {f : Nat → Value} : va (k + 6) f = va k f ++ [f k, f (k + 1), f (k + 2), f (k + 3), f (k + 4), f (k + 5)] := by
  simp [va, List.range_succ]
theorem zrep_fcl : ∀ {n : Nat}, zrep [.int .i64 0, .int .i64 0, .int .i64 0, .int .i64 0, .int .i64 0, .bool false] n = va (n * 6) (fcl fun _ _ => 0)
  | 0 => rfl
  | n + 1 => by
    have ih := zrep_fcl (n := n)
    unfold zrep at ih ⊢
    rw [List.replicate_succ', List.flatten_append, ih, show (n + 1) * 6 = n * 6 + 6 by omega, va_6]
    have e0 : fcl (fun _ _ => 0) (n * 6) = .int .i64 0 := fcl_i (st := fun _ _ => 0) (x := n) (k := 0) (by omega)
    have e1 : fcl (fun _ _ => 0) (n * 6 + 1) = .int .i64 0 := fcl_i (st := fun _ _ => 0) (by omega)
    have e2 : fcl (fun _ _ => 0) (n * 6 + 2) = .int .i64 0 := fcl_i (st := fun _ _ => 0) (by omega)
    have e3 : fcl (fun _ _ => 0) (n * 6 + 3) = .int .i64 0 := fcl_i (st := fun _ _ => 0) (by omega)
    have e4 : fcl (fun _ _ => 0) (n * 6 + 4) = .int .i64 0 := fcl_i (st := fun _ _ => 0) (by omega)
    have e5 : fcl (fun _ _ => 0) (n * 6 + 5) = .bool false := fcl_b (st := fun _ _ => 0)
    rw [e0, e1, e2, e3, e4, e5]
    simp
theorem qnew_T (own : Own) (hn : n ≤ 1024) : T Tryz.prog F.heaps_New [.int .i64 3, .int .i64 n] h fun r h' => ∃ (bq : Nat) (own' : Own), r = .ret (.tuple ⟨[.pointer (some (bk bq)), .int .i64 0]⟩) ∧
    Fm [31] own h own' h' ∧ FQ own' h' bq n (fun _ => 0) (fun _ => false) := by
  refine E_heaps_New ?_
  unfold B_heaps_New
  refine ifP_of (fun e => by simp at e) (fun _ => ifP_of (fun e => by simp at e) (fun _ => ifP_of (fun e => by have := of_decide_eq_true e; omega) (fun _ => ifP_of (fun e => by have := of_decide_eq_true e; omega) (fun _ => ?_))))
  refine mk_ints 33 (by omega) (by omega) ?_
  intro b1 q1 hb1 x1 S1_
  have F1 : Fm [] own h (own1 own b1 33) q1 := Fm.new x1 hb1
  have k2 := S1_ own
  rw [Int.toNat_natCast]
  generalize own1 own b1 33 = own1_ at *
  refine mk_bools 34 (by omega) (by omega) ?_
  intro b3 q3 hb3 x3 S3_
  have F3 : Fm [] own1_ q1 (own1 own1_ b3 34) q3 := Fm.new x3 hb3
  have k3 := S3_ own1_
  have k2 := k2.fm F3 (by simp <;> omega)
  have F1 := F1.trans F3
  generalize own1 own1_ b3 34 = own3 at *
  refine ⟨rfl, new_bl ?_⟩
  intro b5 q5 hb5 x5 B5
  have F5 : Fm [] own3 q3 (own1 own3 b5 31) q5 := Fm.new x5 hb5
  have k1 : B1 (own1 own3 b5 31) q5 31 b5 _ := B1.new B5
  have k2 := k2.fm F5 (by simp <;> omega)
  have k3 := k3.fm F5 (by simp <;> omega)
  have F1 := F1.trans F5
  generalize own1 own3 b5 31 = own5 at *
  refine ifP_of (fun e => by simp at e) (fun _ => ifP_of (fun e => by simp at e) (fun _ => ifP_of (fun _ => ?_) (fun e => by simp at e)))
  refine ⟨by omega, by omega, by omega, by omega, ?_⟩
  rw [Int.toNat_natCast, zrep_fcl]
  refine new_bl ?_
  intro b17 q17 hb17 x17 B17
  have F17 : Fm [] own5 q5 (own1 own5 b17 35) q17 := Fm.new x17 hb17
  have kl : B1 (own1 own5 b17 35) q17 35 b17 _ := B1.new B17
  have k1 := k1.fm F17 (by simp <;> omega)
  have k2 := k2.fm F17 (by simp <;> omega)
  have k3 := k3.fm F17 (by simp <;> omega)
  have F1 := F1.trans F17
  generalize own1 own5 b17 35 = own7 at *
  refine new_bl ?_
  intro b19 q19 hb19 x19 B19
  have F19 : Fm [] own7 q17 (own1 own7 b19 32) q19 := Fm.new x19 hb19
  have kf : B1 (own1 own7 b19 32) q19 32 b19 _ := B1.new B19
  have k1 := k1.fm F19 (by simp <;> omega)
  have k2 := k2.fm F19 (by simp <;> omega)
  have k3 := k3.fm F19 (by simp <;> omega)
  have kl := kl.fm F19 (by simp <;> omega)
  have F1 := F1.trans F19
  generalize own1 own7 b19 32 = own9 at *
  rw [add_zero'] at kf
  refine k1.st (j := 2) (by simp) fun g F20 k1 => ?_
  have k2 := k2.fm F20 (by simp <;> omega)
  have k3 := k3.fm F20 (by simp <;> omega)
  have kl := kl.fm F20 (by simp <;> omega)
  have kf := kf.fm F20 (by simp <;> omega)
  have e0 : cntP n (heldP n fun _ => false) = 0 := cntP_0 fun x _ hx => by cases hx.2
  have hF : ∀ x, heldP n (fun _ => false) x ↔ False := fun x => ⟨fun hx => (by cases hx.2), fun e => e.elim⟩
  refine ⟨b5, own9, rfl, (F1.mono (by simp)).trans F20, b19, b17, 0, -1, fun _ _ => 0, [], fun _ => [], ⟨⟨_, _, ?_, k2, k3⟩, kf, kl⟩, ⟨FT.init.uset hF fun x => by simp, by simp, trivial, by simp, .inl ⟨rfl, rfl⟩⟩⟩
  rw [e0]
  exact k1
end

end Go.Proofs.YtdcamadeblojdaaGreat

namespace Go.Proofs.YtdcamadeblojdaaGreat
open Go
set_option linter.unusedVariables false
set_option linter.unusedSimpArgs false

/-- What each node still has too much, when x goes along an arc. -/
def exS (ex : Nat → Int) (a b : Nat) (x : Int) : Nat → Int := fun v => ex v - (if a = v then x else 0) + (if b = v then x else 0)
/-- The net of mincost in the heap: owners 1 from, 2 to, 3 room, 4 cost, 5 out, 6 extra, 7 pot, 8 the struct, 40 + v (out of v). -/
structure MN (own : Own) (h : H) (bn n m : Nat) (fr to : Nat → Nat) (room cost ex pot : Nat → Int) : Prop where
  q : ∃ vf vt vr vc vo vx vp outs, B1 own h 8 bn [vf, vt, vr, vc, vo, vx, vp] ∧ S1 own h 1 vf (ints (2 * m) fun a => (tlA fr to a : Nat)) ∧ S1 own h 2 vt (ints (2 * m) fun a => (hdA fr to a : Nat)) ∧
    S1 own h 3 vr (ints (2 * m) room) ∧ S1 own h 4 vc (ints (2 * m) cost) ∧ S1 own h 5 vo (va n outs) ∧ S1 own h 6 vx (ints n ex) ∧ S1 own h 7 vp (ints n pot) ∧ ∀ v, v < n → S1 own h (40 + v) (outs v) (natV (arcsL fr to m v))
section
variable {own own' : Own} {h h' : H} {bn n m : Nat} {fr to : Nat → Nat} {room cost ex pot : Nat → Int} {M : List Nat}
theorem MN.fm (N : MN own h bn n m fr to room cost ex pot) (F : Fm M own h own' h') (hM : ∀ i, i ∈ M → 8 < i ∧ i < 40) : MN own' h' bn n m fr to room cost ex pot := by
  obtain ⟨vf, vt, vr, vc, vo, vx, vp, outs, k8, k1, k2, k3, k4, k5, k6, k7, ko⟩ := N.q
  have no : ∀ j, (j ≤ 8 ∨ 40 ≤ j) → j ∉ M := fun j hj hm => by have := hM j hm; omega
  exact ⟨vf, vt, vr, vc, vo, vx, vp, outs, k8.fm F (no _ (by omega)), k1.fm F (no _ (by omega)), k2.fm F (no _ (by omega)), k3.fm F (no _ (by omega)), k4.fm F (no _ (by omega)), k5.fm F (no _ (by omega)),
    k6.fm F (no _ (by omega)), k7.fm F (no _ (by omega)), fun v hv => (ko v hv).fm F (no _ (by omega))⟩
theorem MN.ext (N : MN own h bn n m fr to room cost ex pot) (x : Ext h h') : MN own h' bn n m fr to room cost ex pot := N.fm (M := []) (Fm.of_ext x) (by simp)
theorem MN.nw {b i : Nat} (N : MN own h bn n m fr to room cost ex pot) (x : Ext h h') (hb : h b = none) : MN (own1 own b i) h' bn n m fr to room cost ex pot := N.fm (M := []) (Fm.new x hb) (by simp)

theorem msend_T (N : MN own h bn n m fr to room cost ex pot) (hm : m ≤ 4096) (hn : ∀ i, i < m → fr i < n ∧ to i < n) {a : Nat} {x : Int} (ha : a < 2 * m)
    (hr : ∀ c, c < 2 * m → -1152921504606846976 ≤ room c ∧ room c ≤ 1152921504606846976) (hx : -1152921504606846976 ≤ x ∧ x ≤ 1152921504606846976) (he : ∀ v, v < n → -1152921504606846976 ≤ ex v ∧ ex v ≤ 1152921504606846976) :
    T Tryz.prog F.mincost_net_send [.pointer (some (bk bn)), .int .i64 a, .int .i64 x] h fun r h' => r = .ret (.tuple ⟨[]⟩) ∧ Fm [3, 6] own h own h' ∧
      MN own h' bn n m fr to (sndR room a x) cost (exS ex (tlA fr to a) (hdA fr to a) x) pot := by
  obtain ⟨vf, vt, vr, vc, vo, vx, vp, outs, k8, k1, k2, k3, k4, k5, k6, k7, ko⟩ := N.q
  have hp := prA_lt ha
  have ht := tl_lt hn ha
  have hd := hd_lt hn ha
  have r1 := hr a ha
  have r2 := hr _ hp
  have e1 := he _ ht
  have e2 := he _ hd
  refine E_mincost_net_send ?_
  unfold B_mincost_net_send
  refine ptrP_mk ⟨_, k8.ld rfl, k3.rdI ha (k3.setI ha fun g1 F1 k3 => ?_)⟩
  have k1 := k1.fm F1 (by simp <;> omega)
  have k2 := k2.fm F1 (by simp <;> omega)
  have k4 := k4.fm F1 (by simp <;> omega)
  have k5 := k5.fm F1 (by simp <;> omega)
  have k6 := k6.fm F1 (by simp <;> omega)
  have k7 := k7.fm F1 (by simp <;> omega)
  have k8 := k8.fm F1 (by simp <;> omega)
  have ko := fun v hv => (ko v hv).fm F1 (by simp; omega)
  rw [xor1 (by omega)]
  refine ptrP_mk ⟨_, k8.ld rfl, k3.rdI hp (k3.setI hp fun g2 F2 k3 => ?_)⟩
  have k1 := k1.fm F2 (by simp <;> omega)
  have k2 := k2.fm F2 (by simp <;> omega)
  have k4 := k4.fm F2 (by simp <;> omega)
  have k5 := k5.fm F2 (by simp <;> omega)
  have k6 := k6.fm F2 (by simp <;> omega)
  have k7 := k7.fm F2 (by simp <;> omega)
  have k8 := k8.fm F2 (by simp <;> omega)
  have ko := fun v hv => (ko v hv).fm F2 (by simp; omega)
  refine ptrP_mk (ptrP_mk ⟨_, k8.ld rfl, _, k8.ld rfl, k1.rdI ha (k6.rdI ht (k6.setI ht fun g3 F3 k6 => ?_))⟩)
  have k1 := k1.fm F3 (by simp <;> omega)
  have k2 := k2.fm F3 (by simp <;> omega)
  have k3 := k3.fm F3 (by simp <;> omega)
  have k4 := k4.fm F3 (by simp <;> omega)
  have k5 := k5.fm F3 (by simp <;> omega)
  have k7 := k7.fm F3 (by simp <;> omega)
  have k8 := k8.fm F3 (by simp <;> omega)
  have ko := fun v hv => (ko v hv).fm F3 (by simp; omega)
  refine ptrP_mk (ptrP_mk ⟨_, k8.ld rfl, _, k8.ld rfl, k2.rdI ha (k6.rdI hd (k6.setI hd fun g4 F4 k6 => ?_))⟩)
  have k1 := k1.fm F4 (by simp <;> omega)
  have k2 := k2.fm F4 (by simp <;> omega)
  have k3 := k3.fm F4 (by simp <;> omega)
  have k4 := k4.fm F4 (by simp <;> omega)
  have k5 := k5.fm F4 (by simp <;> omega)
  have k7 := k7.fm F4 (by simp <;> omega)
  have k8 := k8.fm F4 (by simp <;> omega)
  have ko := fun v hv => (ko v hv).fm F4 (by simp; omega)
  have er : upd (upd room a (IntKind.i64.wrap (room a - x))) (prA a) (IntKind.i64.wrap (upd room a (IntKind.i64.wrap (room a - x)) (prA a) + x)) = sndR room a x := by
    have q1 : IntKind.i64.wrap (room a - x) = room a - x := w64_in (by omega) (by omega)
    have q2 : upd room a (IntKind.i64.wrap (room a - x)) (prA a) = room (prA a) := if_neg (prA_ne a)
    have q3 : IntKind.i64.wrap (room (prA a) + x) = room (prA a) + x := w64_in (by omega) (by omega)
    rw [q2, q3, q1]; rfl
  have ee : upd (upd ex (tlA fr to a) (IntKind.i64.wrap (ex (tlA fr to a) - x))) (hdA fr to a) (IntKind.i64.wrap (upd ex (tlA fr to a) (IntKind.i64.wrap (ex (tlA fr to a) - x)) (hdA fr to a) + x)) = exS ex (tlA fr to a) (hdA fr to a) x := by
    have q1 : IntKind.i64.wrap (ex (tlA fr to a) - x) = ex (tlA fr to a) - x := w64_in (by omega) (by omega)
    rw [q1]
    generalize tlA fr to a = u at *
    generalize hdA fr to a = w at *
    have q2 : upd ex u (ex u - x) w = ex w - (if u = w then x else 0) := by
      unfold upd
      by_cases e : w = u
      · subst e; rw [if_pos rfl, if_pos rfl]
      · rw [if_neg e, if_neg (fun h => e h.symm)]; omega
    rw [q2]
    have q3 : IntKind.i64.wrap (ex w - (if u = w then x else 0) + x) = ex w - (if u = w then x else 0) + x := w64_in (by split <;> omega) (by split <;> omega)
    rw [q3]
    funext v
    unfold exS upd
    by_cases e : v = w
    · subst e; rw [if_pos rfl, if_pos rfl]
    · rw [if_neg e, if_neg (fun h : w = v => e h.symm)]
      by_cases e2 : v = u
      · subst e2; rw [if_pos rfl, if_pos rfl]; omega
      · rw [if_neg e2, if_neg (fun h : u = v => e2 h.symm)]; omega
  rw [er] at k3
  rw [ee] at k6
  exact ⟨rfl, (((F1.mono (by simp)).trans (F2.mono (by simp))).trans (F3.mono (by simp))).trans (F4.mono (by simp)), vf, vt, vr, vc, vo, vx, vp, outs, k8, k1, k2, k3, k4, k5, k6, k7, ko⟩
end

end Go.Proofs.YtdcamadeblojdaaGreat

namespace Go.Proofs.YtdcamadeblojdaaGreat
open Go
set_option linter.unusedVariables false
set_option linter.unusedSimpArgs false

/-- An arc's cost by the potentials. -/
def redC (fr to : Nat → Nat) (cost pot : Nat → Int) (a : Nat) : Int := cost a + pot (tlA fr to a) - pot (hdA fr to a)
section
variable {own own' : Own} {h h' : H} {bn n m : Nat} {fr to : Nat → Nat} {room cost ex pot : Nat → Int} {M : List Nat}
theorem reduced_T (N : MN own h bn n m fr to room cost ex pot) (hn : ∀ i, i < m → fr i < n ∧ to i < n) {a : Nat} (ha : a < 2 * m)
    (hc : -1152921504606846976 ≤ cost a ∧ cost a ≤ 1152921504606846976) (hp : ∀ v, v < n → -1152921504606846976 ≤ pot v ∧ pot v ≤ 1152921504606846976) :
    T Tryz.prog F.mincost_net_reduced [.pointer (some (bk bn)), .int .i64 a] h fun r h' => r = .ret (.int .i64 (redC fr to cost pot a)) ∧ h = h' := by
  obtain ⟨vf, vt, vr, vc, vo, vx, vp, outs, k8, k1, k2, k3, k4, k5, k6, k7, ko⟩ := N.q
  have ht := tl_lt hn ha
  have hd := hd_lt hn ha
  have p1 := hp _ ht
  have p2 := hp _ hd
  refine E_mincost_net_reduced ?_
  unfold B_mincost_net_reduced
  refine ptrP_mk (ptrP_mk (ptrP_mk (ptrP_mk (ptrP_mk ⟨_, k8.ld rfl, k4.rdI ha ⟨_, k8.ld rfl, _, k8.ld rfl, k1.rdI ha (k7.rdI ht ⟨_, k8.ld rfl, _, k8.ld rfl, k2.rdI ha (k7.rdI hd ?_)⟩)⟩⟩))))
  have q1 : IntKind.i64.wrap (cost a + pot (tlA fr to a)) = cost a + pot (tlA fr to a) := w64_in (by omega) (by omega)
  have q2 : IntKind.i64.wrap (cost a + pot (tlA fr to a) - pot (hdA fr to a)) = cost a + pot (tlA fr to a) - pot (hdA fr to a) := w64_in (by omega) (by omega)
  rw [q1, q2]
  exact ⟨rfl, rfl⟩
theorem missing_T (N : MN own h bn n m fr to room cost ex pot) (hn1 : n ≤ 1024) :
    T Tryz.prog F.mincost_ways_missing [.agg ⟨[.pointer (some (bk bn))]⟩] h fun r h' => (∃ t : Bool, r = .ret (.bool t) ∧ (t = true ↔ ∃ v, v < n ∧ 0 < ex v)) ∧ Ext h h' := by
  obtain ⟨vf, vt, vr, vc, vo, vx, vp, outs, k8, k1, k2, k3, k4, k5, k6, k7, ko⟩ := N.q
  refine E_mincost_ways_missing ?_
  unfold B_mincost_ways_missing
  refine new_bl ?_
  intro b1 q1 hb1 x1 B1_
  have k8 := k8.ext x1
  have k6 := k6.ext x1
  refine ⟨_, B1_.ld rfl, ptrP_mk ⟨_, k8.ld rfl, k6.len (ints_length _ _) fun _ _ => ?_⟩⟩
  let I : (Int × Unit) → H → Nat → Prop := fun p q z => ∃ j : Nat, p.1 = j ∧ j ≤ n ∧ z = n - j ∧ q1 = q ∧ ∀ v, v < j → ¬ 0 < ex v
  refine ⟨fun p q => ∃ k, I p q k, rk I, rk_wf I, ⟨_, 0, rfl, by omega, rfl, rfl, fun v hv => by omega⟩, ?_⟩
  intro p q hI
  obtain ⟨j, e1, hj, hz, e2, hno⟩ := mu_spec hI
  generalize hkk : mu I ((p, ()), q) = km at *
  change p = (j : Int) at e1
  subst e1 e2
  have hlt : j < n → n - (j + 1) < mu I (((j : Int), ()), q1) := fun h => by rw [hkk, hz]; omega
  clear hI
  refine ifP_of (fun h1 => ?_) (fun h1 => ?_)
  · have hjn : j < n := by have := of_decide_eq_true h1; omega
    refine k6.rdI hjn (ifP_of (fun h2 => ?_) (fun h2 => ?_))
    · exact ⟨⟨true, rfl, fun _ => ⟨j, hjn, of_decide_eq_true h2⟩, fun _ => rfl⟩, x1⟩
    · have h2 := of_decide_eq_false h2
      rw [i64_inc (by omega)]
      refine mu_next (I := I) (k := n - (j + 1)) ⟨j + 1, rfl, hjn, rfl, rfl, fun v hv => ?_⟩ (hlt hjn)
      by_cases e : v = j
      · subst e; exact h2
      · exact hno v (by omega)
  · have : j = n := by have := of_decide_eq_false h1; omega
    subst this
    refine ⟨⟨false, rfl, fun h => (by cases h), fun ⟨v, h2, h3⟩ => absurd h3 (hno v h2)⟩, x1⟩
end

end Go.Proofs.YtdcamadeblojdaaGreat

namespace Go.Proofs.YtdcamadeblojdaaGreat
open Go
set_option linter.unusedVariables false
set_option linter.unusedSimpArgs false

section
variable {own own' : Own} {h h' : H} {i : Nat}
/-- The last one gone: v[:len(v)-1]. -/
theorem S1.pop {v x : Value} {xs : List Value} (s : S1 own h i v (xs ++ [x])) :
    ∃ b c, v = .slice (some (bk b)) (xs.length + 1) c ∧ xs.length + 1 ≤ c ∧ S1 own h i (sliceV (some (bk b)) c 0 (xs.length : Int) 1) xs := by
  rcases s with ⟨e, _⟩ | ⟨b, hb, c, e, zs, rfl, h2, h3⟩
  · simp at e
  · simp only [List.length_append, List.length_cons, List.length_nil] at h3 ⊢
    refine ⟨b, c, rfl, by omega, .inr ⟨b, hb, c, e, x :: zs, ?_, by simpa using h2, by simp; omega⟩⟩
    unfold sliceV
    rw [if_neg (show ¬ c = (0 : Int).toNat by simp; omega)]
    simp [bk, Addr.add]
/-- How many are not marked. -/
noncomputable def unm (n : Nat) (sd : Nat → Bool) : Int := cntP n fun v => sd v = false
theorem unm_set {n : Nat} {sd : Nat → Bool} {v : Nat} (hv : v < n) (h : sd v = false) : unm n sd = unm n (updB sd v true) + 1 := by
  unfold unm
  rw [← cntP_add (a := v) (P := fun w => updB sd v true w = false) hv (by unfold updB; simp)]
  refine cntP_congr fun w hw => ?_
  unfold updB
  by_cases e : w = v
  · subst e; simp [h]
  · simp [e]
theorem updB_mono {sd : Nat → Bool} {v w : Nat} (h : sd w = true) : updB sd v true w = true := by
  unfold updB; split <;> simp [h]
/-- Depth first: marked and off the stack: all that can be stepped to is marked. -/
structure DfP (n m : Nat) (fr to : Nat → Nat) (room ex : Nat → Int) (sd : Nat → Bool) (S : List Nat) (cur : Nat → Prop) : Prop where
  st : ∀ v ∈ S, v < n ∧ sd v = true
  snd : ∀ v, sd v = true → ∃ u, u < n ∧ 0 < ex u ∧ Rch (ArS m fr to room) u v
  cl : ∀ v w, sd v = true → v ∉ S → ¬ cur v → ArS m fr to room v w → sd w = true
end

section
variable {own own' : Own} {h h' : H} {bn n m : Nat} {fr to : Nat → Nat} {room cost ex pot : Nat → Int}
theorem reached_T (N : MN own h bn n m fr to room cost ex pot) (hn : ∀ i, i < m → fr i < n ∧ to i < n) (hn1 : n ≤ 1024) (hm : m ≤ 4096) :
    T Tryz.prog F.mincost_net_reached [.pointer (some (bk bn))] h fun r h' => ∃ (b : Nat) (sd : Nat → Bool), r = .ret (slV b n) ∧ h b = none ∧ Ext h h' ∧ Sl h' b (slV b n) (bools n sd) ∧
      ∀ v, v < n → (sd v = true ↔ ∃ u, u < n ∧ 0 < ex u ∧ Rch (ArS m fr to room) u v) := by
  refine E_mincost_net_reached ?_
  unfold B_mincost_net_reached
  obtain ⟨vf, vt, vr, vc, vo, vx, vp, outs, k8, k1, k2, k3, k4, k5, k6, k7, ko⟩ := N.q
  refine ptrP_mk ⟨_, k8.ld rfl, k5.len (va_length _ _) fun _ _ => mk_bools 1 (by omega) (by omega) ?_⟩
  intro b6 q7 hb6 x7 S7
  rw [Int.toNat_natCast]
  have bs : Bs h (own1 (fun _ => 0) b6 1) q7 := Bs.start.new x7 hb6
  have kS := S7 fun _ => 0
  generalize own1 (fun _ => 0) b6 1 = ow at *
  clear S7
  refine ptrP_mk ⟨_, (k8.ext bs.ext).ld rfl, (k6.ext bs.ext).len (ints_length _ _) fun _ _ => ?_⟩
  let I : (Value × Int × Unit) → H → Nat → Prop := fun p q z => ∃ (j : Nat) (ow : Own) (sd : Nat → Bool) (S : List Nat), p.2.1 = j ∧ j ≤ n ∧ z = n - j ∧ Bs h ow q ∧ S1 ow q 1 (slV b6 n) (bools n sd) ∧ S1 ow q 2 p.1 (natV S) ∧
    (S.length : Int) + unm n sd ≤ n ∧ (∀ v, sd v = true ↔ v < j ∧ 0 < ex v) ∧ (∀ v, v ∈ S ↔ v < j ∧ 0 < ex v)
  refine ⟨fun p q => ∃ k, I p q k, rk I, rk_wf I, ⟨_, 0, ow, _, [], rfl, by omega, rfl, bs, kS, S1.nil, ?_, fun v => by simp, fun v => by simp⟩, ?_⟩
  · have := cntP_all (n := n) (P := fun v => (fun _ => false) v = false)
    unfold unm; simpa using this
  clear bs kS
  intro stk p q hI
  obtain ⟨j, ow, sd, S, e1, hj, hz, bs, kS, kT, hlen, hsd, hS⟩ := mu_spec hI
  generalize hkk : mu I ((stk, p, ()), q) = km at *
  change p = (j : Int) at e1
  subst e1
  have hlt : j < n → n - (j + 1) < mu I ((stk, (j : Int), ()), q) := fun h => by rw [hkk, hz]; omega
  clear hI
  have hun : 0 ≤ unm n sd := cntP_nn
  refine ifP_of (fun h1 => ?_) (fun h1 => ?_)
  · have hjn : j < n := by have := of_decide_eq_true h1; omega
    refine (k6.ext bs.ext).rdI hjn ?_
    rw [i64_inc (by omega)]
    refine ifP_of (fun h2 => ?_) (fun h2 => ?_)
    · have h2 := of_decide_eq_true h2
      have hf : sd j = false := by
        cases e : sd j
        · rfl
        · have := (hsd j).1 e; omega
      have hu := unm_set hjn hf
      refine kS.setB hjn fun g F1 kS => ?_
      have bs := bs.fm F1 (by simp <;> omega)
      have kT := kT.fm F1 (by simp <;> omega)
      refine kT.push (l := 1) rfl (by simp [Value.oneCell']) (by simp) (by omega) (by rw [natV_length]; omega) ?_
      intro bx hm2 p' ow' q' hbx xm F2 kT
      have bs := bs.fm F2 (by simp <;> omega)
      have kS := kS.fm F2 (by simp <;> omega)
      refine mu_next (I := I) (k := n - (j + 1)) ⟨j + 1, ow', _, S ++ [j], rfl, hjn, rfl, bs, kS, by simpa [natV] using kT, ?_, fun v => ?_, fun v => ?_⟩ (hlt hjn)
      · simp only [List.length_append, List.length_cons, List.length_nil]; omega
      · unfold updB
        by_cases e : v = j
        · subst e; simp [h2]
        · rw [if_neg e, hsd v]; constructor <;> (rintro ⟨a, b⟩; exact ⟨by omega, b⟩)
      · rw [List.mem_append, hS v, List.mem_singleton]
        constructor
        · rintro (⟨a, b⟩ | rfl)
          · exact ⟨by omega, b⟩
          · exact ⟨by omega, h2⟩
        · rintro ⟨a, b⟩
          by_cases e : v = j
          · exact .inr e
          · exact .inl ⟨by omega, b⟩
    · have h2 := of_decide_eq_false h2
      refine mu_next (I := I) (k := n - (j + 1)) ⟨j + 1, ow, sd, S, rfl, hjn, rfl, bs, kS, kT, hlen, fun v => ?_, fun v => ?_⟩ (hlt hjn)
      · rw [hsd v]
        by_cases e : v = j
        · subst e; constructor <;> (rintro ⟨a, b⟩; exact absurd b h2)
        · constructor <;> (rintro ⟨a, b⟩; exact ⟨by omega, b⟩)
      · rw [hS v]
        by_cases e : v = j
        · subst e; constructor <;> (rintro ⟨a, b⟩; exact absurd b h2)
        · constructor <;> (rintro ⟨a, b⟩; exact ⟨by omega, b⟩)
  have : j = n := by have := of_decide_eq_false h1; omega
  subst this
  let I2 : (Value × Unit) → H → Nat → Prop := fun p q z => ∃ (ow : Own) (sd : Nat → Bool) (S : List Nat), (z : Int) = 2 * unm j sd + S.length ∧ Bs h ow q ∧ S1 ow q 1 (slV b6 j) (bools j sd) ∧ S1 ow q 2 p.1 (natV S) ∧
    (S.length : Int) + unm j sd ≤ j ∧ DfP j m fr to room ex sd S (fun _ => False) ∧ (∀ v, v < j → 0 < ex v → sd v = true)
  refine ⟨fun p q => ∃ k, I2 p q k, rk I2, rk_wf I2, ⟨(2 * unm j sd + S.length).toNat, ow, sd, S, by omega, bs, kS, kT, hlen, ⟨fun v hv => ⟨((hS v).1 hv).1, (hsd v).2 ((hS v).1 hv)⟩, fun v hv => ⟨v, ((hsd v).1 hv).1, ((hsd v).1 hv).2, .refl⟩, fun v w hv hvS => absurd ((hS v).2 ((hsd v).1 hv)) hvS⟩, fun v hv hx => (hsd v).2 ⟨hv, hx⟩⟩, ?_⟩
  clear bs kS kT hlen hsd hS hlt hkk hz h1 hj hun
  intro stk q hI
  obtain ⟨ow, sd, S, hz, bs, kS, kT, hlen, D, hsrc⟩ := mu_spec hI
  generalize hkk : mu I2 ((stk, ()), q) = km at *
  clear hI
  refine kT.len (natV_length S) fun _ _ => ?_
  refine ifP_of (fun h1 => ?_) (fun h1 => ?_)
  rotate_left
  · have hS0 : S = [] := by
      have := of_decide_eq_false h1
      exact List.length_eq_zero_iff.1 (by omega)
    subst hS0
    rcases kS with ⟨_, e⟩ | ⟨b, _, kS⟩
    · cases e
    · have hb : b = b6 := by
        obtain ⟨c, e, zs, h3, _⟩ := kS
        simp only [Value.slice.injEq, Option.some.injEq, bk, Addr.mk.injEq] at h3
        exact h3.1.1.symm
      subst hb
      refine ⟨b, sd, rfl, hb6, bs.ext, kS, fun v hv => ⟨D.snd v, ?_⟩⟩
      rintro ⟨u, hu, hx, r⟩
      exact r.closed (C := fun w => sd w = true) (hsrc u hu hx) fun a b ha hab => D.cl a b ha (by simp) (fun e => e) hab
  obtain ⟨S', v, rfl⟩ : ∃ S' v, S = S' ++ [v] := by
    rcases List.eq_nil_or_concat S with e | ⟨u, z, e⟩
    · subst e; simp at h1
    · exact ⟨u, z, by simpa using e⟩
  have hv := D.st v (by simp)
  have eT : natV (S' ++ [v]) = natV S' ++ [.int .i64 (v : Nat)] := by simp [natV]
  rw [eT] at kT
  have kT0 := kT
  obtain ⟨bt, c, rfl, hc, kP⟩ := kT.pop
  have hl9 : (natV S').length = S'.length := natV_length _
  have hun : 0 ≤ unm j sd := cntP_nn
  simp only [List.length_append, List.length_cons, List.length_nil] at hz hlen
  have ew : IntKind.i64.wrap ((((natV S').length + 1 : Nat) : Int) - 1) = (natV S').length := by
    rw [show ((((natV S').length + 1 : Nat) : Int) - 1) = (natV S').length by omega]; exact w64_in (by omega) (by omega)
  refine slcP_mk ?_
  rw [ew]
  refine kT0.rd (j := (natV S').length) (x := (v : Nat)) (by simp) ?_
  refine slcP_mk (slcP_mk ?_)
  rw [ew]
  refine ⟨by omega, by omega, by omega, by omega, ptrP_mk ⟨_, (k8.ext bs.ext).ld rfl, (k5.ext bs.ext).rdV hv.1 (((ko v hv.1).ext bs.ext).len (natV_length _) fun _ _ => ?_)⟩⟩
  have hvS : sd v = true := hv.2
  let I3 : (Value × Int × Unit) → H → Nat → Prop := fun p q z => ∃ (s : Nat) (ow : Own) (sd2 : Nat → Bool) (S : List Nat), p.2.1 = s ∧ s ≤ (arcsL fr to m v).length ∧ z = (arcsL fr to m v).length - s ∧ 2 * unm j sd2 + S.length ≤ 2 * unm j sd + S'.length ∧
    Bs h ow q ∧ S1 ow q 1 (slV b6 j) (bools j sd2) ∧ S1 ow q 2 p.1 (natV S) ∧ (S.length : Int) + unm j sd2 ≤ j ∧ DfP j m fr to room ex sd2 S (fun w => w = v) ∧ (∀ v, v < j → 0 < ex v → sd2 v = true) ∧ sd2 v = true ∧
    ∀ a ∈ (arcsL fr to m v).take s, 0 < room a → sd2 (hdA fr to a) = true
  refine ⟨fun p q => ∃ k, I3 p q k, rk I3, rk_wf I3, ⟨_, 0, ow, sd, S', rfl, by omega, rfl, by omega, bs, kS, kP, by omega, ⟨fun w hw => D.st w (by simp [hw]), D.snd, fun a b ha hb hc hab => D.cl a b ha (by simp; exact ⟨hb, hc⟩) (fun e => e) hab⟩, hsrc, hvS, by simp⟩, ?_⟩
  clear bs kS kT kT0 kP D
  intro stk2 p q2 hI
  obtain ⟨s, ow, sd2, S, e1, hs, hz2, hle, bs, kS, kT, hlen2, D, hsrc2, hv2, hdone⟩ := mu_spec hI
  generalize hkk2 : mu I3 ((stk2, p, ()), q2) = km2 at *
  change p = (s : Int) at e1
  subst e1
  have hlt2 : s < (arcsL fr to m v).length → (arcsL fr to m v).length - (s + 1) < mu I3 ((stk2, (s : Int), ()), q2) := fun h => by rw [hkk2, hz2]; omega
  clear hI
  have hun2 : 0 ≤ unm j sd2 := cntP_nn
  refine ifP_of (fun h3 => ?_) (fun h3 => ?_)
  · have hsl : s < (arcsL fr to m v).length := by have := of_decide_eq_true h3; omega
    have hal := arcsL_length (fr := fr) (to := to) (v := v) (i := m)
    obtain ⟨a, ha⟩ : ∃ a, a = (arcsL fr to m v)[s] := ⟨_, rfl⟩
    have ham := mem_arcsL.1 (show a ∈ arcsL fr to m v by rw [ha]; exact List.getElem_mem hsl)
    have htk : (arcsL fr to m v).take (s + 1) = (arcsL fr to m v).take s ++ [a] := by rw [ha, List.take_succ_eq_append_getElem hsl]
    have hd := hd_lt hn ham.1
    refine ((ko v hv.1).ext bs.ext).rd (natV_get hsl) ?_
    rw [← ha, i64_inc (by omega)]
    refine ptrP_mk ⟨_, (k8.ext bs.ext).ld rfl, (k2.ext bs.ext).rdI ham.1 (ptrP_mk ⟨_, (k8.ext bs.ext).ld rfl, (k3.ext bs.ext).rdI ham.1 (ifP_of (fun h4 => ?_) (fun h4 => ?_))⟩)⟩
    · have h4 := of_decide_eq_true h4
      refine kS.rdB hd (ifP_of (fun h5 => ?_) (fun h5 => ?_))
      · have hf : sd2 (hdA fr to a) = false := by simpa using h5
        have hu := unm_set hd hf
        refine kS.setB hd fun g F1 kS => ?_
        have bs := bs.fm F1 (by simp <;> omega)
        have kT := kT.fm F1 (by simp <;> omega)
        refine kT.push (l := 1) rfl (by simp [Value.oneCell']) (by simp) (by omega) (by rw [natV_length]; omega) ?_
        intro bx hm2 p' ow' q' hbx xm F2 kT
        have bs := bs.fm F2 (by simp <;> omega)
        have kS := kS.fm F2 (by simp <;> omega)
        refine mu_next (I := I3) (k := (arcsL fr to m v).length - (s + 1)) ⟨s + 1, ow', _, S ++ [hdA fr to a], rfl, hsl, rfl, ?_, bs, kS, by simpa [natV] using kT, ?_, ⟨?_, ?_, ?_⟩, fun w h6 h7 => updB_mono (hsrc2 w h6 h7), updB_mono hv2, ?_⟩ (hlt2 hsl)
        · simp only [List.length_append, List.length_cons, List.length_nil]; omega
        · simp only [List.length_append, List.length_cons, List.length_nil]; omega
        · intro w hw
          rcases List.mem_append.1 hw with k | k
          · exact ⟨(D.st w k).1, updB_mono (D.st w k).2⟩
          · have : w = hdA fr to a := by simpa using k
            subst this; exact ⟨hd, by unfold updB; simp⟩
        · intro w hw
          by_cases e : w = hdA fr to a
          · subst e
            obtain ⟨u, h6, h7, r⟩ := D.snd v hv2
            exact ⟨u, h6, h7, r.step ⟨a, ham.1, ham.2, rfl, h4⟩⟩
          · exact D.snd w (by unfold updB at hw; rwa [if_neg e] at hw)
        · intro x w hx hxS hxv hxw
          have e : x ≠ hdA fr to a := by rintro rfl; exact hxS (by simp)
          exact updB_mono (D.cl x w (by unfold updB at hx; rwa [if_neg e] at hx) (fun k => hxS (by simp [k])) hxv hxw)
        · intro a' ha' hr
          rw [htk] at ha'
          rcases List.mem_append.1 ha' with k | k
          · exact updB_mono (hdone a' k hr)
          · have : a' = a := by simpa using k
            subst this; unfold updB; simp
      · refine mu_next (I := I3) (k := (arcsL fr to m v).length - (s + 1)) ⟨s + 1, ow, sd2, S, rfl, hsl, rfl, hle, bs, kS, kT, hlen2, D, hsrc2, hv2, fun a' ha' hr => ?_⟩ (hlt2 hsl)
        rw [htk] at ha'
        rcases List.mem_append.1 ha' with k | k
        · exact hdone a' k hr
        · have : a' = a := by simpa using k
          subst this; simpa using h5
    · have h4 := of_decide_eq_false h4
      refine mu_next (I := I3) (k := (arcsL fr to m v).length - (s + 1)) ⟨s + 1, ow, sd2, S, rfl, hsl, rfl, hle, bs, kS, kT, hlen2, D, hsrc2, hv2, fun a' ha' hr => ?_⟩ (hlt2 hsl)
      rw [htk] at ha'
      rcases List.mem_append.1 ha' with k | k
      · exact hdone a' k hr
      · have : a' = a := by simpa using k
        subst this; exact absurd hr h4
  · have : s = (arcsL fr to m v).length := by have := of_decide_eq_false h3; omega
    subst this
    rw [List.take_length] at hdone
    refine mu_next (I := I2) (k := (2 * unm j sd2 + S.length).toNat) ⟨ow, sd2, S, by omega, bs, kS, kT, hlen2, ⟨D.st, D.snd, fun x w hx hxS _ hxw => ?_⟩, hsrc2⟩ ?_
    · by_cases e : x = v
      · subst e
        obtain ⟨a, h6, h7, h8, h9⟩ := hxw
        rw [← h8]; exact hdone a (mem_arcsL.2 ⟨h6, h7⟩) h9
      · exact D.cl x w hx hxS e hxw
    · rw [hkk]; omega
end

end Go.Proofs.YtdcamadeblojdaaGreat

namespace Go.Proofs.YtdcamadeblojdaaGreat
open Go
set_option linter.unusedVariables false
set_option linter.unusedSimpArgs false

/-- A way back, along arcs with room: from y 0 to y L. -/
structure WayP (n m : Nat) (fr to : Nat → Nat) (room via : Nat → Int) (y : Nat → Nat) (L : Nat) : Prop where
  lt : ∀ s, s ≤ L → y s < n
  arc : ∀ s, s < L → ∃ a : Nat, via (y s) = a ∧ a < 2 * m ∧ hdA fr to a = y s ∧ tlA fr to a = y (s + 1) ∧ 0 < room a
  stop : via (y L) < 0
  inj : ∀ s t, s < t → t ≤ L → y s ≠ y t

section
variable {own own' : Own} {h h' : H} {bn n m : Nat} {fr to : Nat → Nat} {room cost ex pot cap via : Nat → Int} {vvia : Value} {j : Nat}
theorem carry_T (N : MN own h bn n m fr to room cost ex pot) (hn : ∀ i, i < m → fr i < n ∧ to i < n) (hm : m ≤ 4096) (R : RmP m cap room) (hcap : ∀ i, i < m → cap i ≤ 1048576) (he : ∀ v, v < n → -4611686018427387904 / 8 ≤ ex v ∧ ex v ≤ 4611686018427387904 / 8)
    (V : S1 own h j vvia (ints n via)) (hj : 8 < j ∧ j < 40) {y : Nat → Nat} {L : Nat} (W : WayP n m fr to room via y L) (h0 : ex (y 0) < 0) (h1 : 0 < ex (y L)) :
    T Tryz.prog F.mincost_net_carry [.pointer (some (bk bn)), vvia, .int .i64 (y 0 : Nat)] h fun r h' => r = .ret (.tuple ⟨[]⟩) ∧ ∃ (x : Int) (room' ex' : Nat → Int), 0 < x ∧ x ≤ ex (y L) ∧ x ≤ - ex (y 0) ∧ Fm [3, 6] own h own h' ∧
      MN own h' bn n m fr to room' cost ex' pot ∧ RmP m cap room' ∧ (∀ w, ex' w = ex w + (if w = y 0 then x else 0) - (if w = y L then x else 0)) ∧
      (∀ w, OutF m fr to (onR room') w + ex' w = OutF m fr to (onR room) w + ex w) ∧
      (∀ a, a < 2 * m → 0 < room' a → 0 < room a ∨ ∃ s b, s < L ∧ via (y s) = (b : Nat) ∧ a = prA b) := by
  refine E_mincost_net_carry ?_
  unfold B_mincost_net_carry
  obtain ⟨vf, vt, vr, vc, vo, vx, vp, outs, k8, k1, k2, k3, k4, k5, k6, k7, ko⟩ := N.q
  have y0 := W.lt 0 (by omega)
  have e0 := he _ y0
  refine ptrP_mk ⟨_, k8.ld rfl, k6.rdI y0 ?_⟩
  have ew : IntKind.i64.wrap (0 - ex (y 0)) = - ex (y 0) := by
    rw [show (0 : Int) - ex (y 0) = - ex (y 0) by omega]; exact w64_in (by omega) (by omega)
  rw [ew]
  let I : (Int × Int × Unit) → H → Nat → Prop := fun p q z => ∃ s : Nat, p.2.1 = (y s : Nat) ∧ s ≤ L ∧ z = L - s ∧ h = q ∧ 0 < p.1 ∧ p.1 ≤ - ex (y 0) ∧ ∀ t, t < s → ∀ a : Nat, via (y t) = a → p.1 ≤ room a
  refine ⟨fun p q => ∃ k, I p q k, rk I, rk_wf I, ⟨_, 0, rfl, by omega, rfl, rfl, by omega, Int.le_refl _, fun t ht => by omega⟩, ?_⟩
  intro x u q hI
  obtain ⟨s, e1, hs, hz, e2, hx0, hx1, hxr⟩ := mu_spec hI
  generalize hkk : mu I ((x, u, ()), q) = km at *
  change u = (y s : Int) at e1
  change 0 < x at hx0
  change x ≤ - ex (y 0) at hx1
  change ∀ t, t < s → ∀ a : Nat, via (y t) = a → x ≤ room a at hxr
  subst e1 e2
  have hlt : s < L → L - (s + 1) < mu I ((x, (y s : Int), ()), h) := fun k => by rw [hkk, hz]; omega
  clear hI
  have ys := W.lt s hs
  refine V.rdI ys (ifP_of (fun h2 => ?_) (fun h2 => ?_))
  · have h2 := of_decide_eq_true h2
    have hsL : s < L := by
      by_cases e : s = L
      · subst e; have := W.stop; omega
      · omega
    obtain ⟨a, a1, a2, a3, a4, a5⟩ := W.arc s hsL
    have key : ∀ x', x' = (if room a < x then room a else x) → (∃ k, I (x', (y (s + 1) : Int), ()) h k) ∧ rk I ((x', (y (s + 1) : Int), ()), h) ((x, (y s : Int), ()), h) := by
      rintro x' rfl
      refine mu_next (I := I) (k := L - (s + 1)) ⟨s + 1, rfl, hsL, rfl, rfl, ?_, ?_, fun t ht b hb => ?_⟩ (hlt hsL)
      · show 0 < (if room a < x then room a else x)
        split <;> omega
      · show (if room a < x then room a else x) ≤ _
        split <;> omega
      · show (if room a < x then room a else x) ≤ room b
        by_cases e : t = s
        · subst e
          have : b = a := by omega
          subst this; split <;> omega
        · have := hxr t (by omega) b hb
          split <;> omega
    refine ptrP_mk (V.at (ints_get ys) fun a13 ha13 => ⟨_, k8.ld rfl, _, ha13, ?_⟩)
    rw [a1]
    refine k3.rdI a2 (ptrP_mk (V.at (ints_get ys) fun a19 ha19 => ⟨_, k8.ld rfl, _, ha19, ?_⟩))
    rw [a1]
    refine k1.rdI a2 ?_
    rw [a4]
    exact key _ rfl
  · have h2 := of_decide_eq_false h2
    have hsL : s = L := by
      by_cases e : s = L
      · exact e
      · obtain ⟨a, a1, _⟩ := W.arc s (by omega); omega
    subst hsL
    clear hlt hkk hz h2
    have eL := he _ ys
    refine ptrP_mk ⟨_, k8.ld rfl, k6.rdI ys ?_⟩
    obtain ⟨X, hX⟩ : ∃ X, X = (if ex (y s) < x then ex (y s) else x) := ⟨_, rfl⟩
    rw [← hX]
    have X0 : 0 < X ∧ X ≤ ex (y s) ∧ X ≤ - ex (y 0) ∧ X ≤ x := by rw [hX]; split <;> omega
    let I2 : (Int × Unit) → H → Nat → Prop := fun p q z => ∃ (i : Nat) (room' ex' : Nat → Int), p.1 = (y i : Nat) ∧ i ≤ s ∧ z = s - i ∧ Fm [3, 6] own h own q ∧ MN own q bn n m fr to room' cost ex' pot ∧ RmP m cap room' ∧
      (∀ w, ex' w = ex w + (if w = y 0 then X else 0) - (if w = y i then X else 0)) ∧ (∀ w, OutF m fr to (onR room') w + ex' w = OutF m fr to (onR room) w + ex w) ∧
      (∀ a, a < 2 * m → 0 < room' a → 0 < room a ∨ ∃ t b, t < s ∧ via (y t) = (b : Nat) ∧ a = prA b) ∧ (∀ t, i ≤ t → t < s → ∀ a : Nat, via (y t) = a → X ≤ room' a)
    refine ⟨fun p q => ∃ k, I2 p q k, rk I2, rk_wf I2, ⟨_, 0, room, ex, rfl, by omega, rfl, Fm.refl, N, R, fun w => by omega, fun w => rfl, fun a _ h => .inl h, fun t _ ht a ha => by have := hxr t ht a ha; omega⟩, ?_⟩
    intro p q hI
    obtain ⟨i, room', ex', e1, hi, hz, F0, N, R', hex, hout, hnew, hle⟩ := mu_spec hI
    generalize hkk : mu I2 ((p, ()), q) = km at *
    change p = (y i : Int) at e1
    subst e1
    have hlt : i < s → s - (i + 1) < mu I2 (((y i : Int), ()), q) := fun k => by rw [hkk, hz]; omega
    clear hI
    have yi := W.lt i hi
    have V' := V.fm F0 (by simp; omega)
    refine V'.rdI yi (ifP_of (fun h3 => ?_) (fun h3 => ?_))
    · have h3 := of_decide_eq_true h3
      have his : i < s := by
        by_cases e : i = s
        · subst e; have := W.stop; omega
        · omega
      obtain ⟨a, a1, a2, a3, a4, a5⟩ := W.arc i his
      have hXa := hle i (Nat.le_refl _) his a a1
      refine V'.rdI yi ?_
      rw [a1]
      have rb : ∀ c, c < 2 * m → 0 ≤ room' c ∧ room' c ≤ 1048576 := fun c hc => by
        have := R'.pos c hc
        have := R'.pos _ (prA_lt hc)
        have := R'.pr hc
        have := hcap (c / 2) (by omega)
        omega
      have ra := rb a a2
      refine (msend_T N hm hn a2 (fun c hc => by have := rb c hc; omega) (by omega) (fun v hv => by have := he v hv; rw [hex v]; split <;> split <;> omega)).mono ?_
      rintro _ q2 ⟨rfl, F1, N⟩
      have V2 := V'.fm F1 (by simp; omega)
      obtain ⟨vf, vt, vr, vc, vo, vx, vp, outs, k8, k1, k2, k3, k4, k5, k6, k7, ko⟩ := N.q
      refine rt_ret ⟨rfl, ptrP_mk (V2.at (ints_get yi) fun a39 ha39 => ⟨_, k8.ld rfl, _, ha39, ?_⟩)⟩
      rw [a1]
      refine k1.rdI a2 ?_
      rw [a4]
      rw [a3, a4] at N
      refine mu_next (I := I2) (k := s - (i + 1)) ⟨i + 1, _, _, rfl, his, rfl, F0.trans F1, N, R'.snd a2 (by omega) hXa, fun w => ?_, fun w => ?_, fun c hc h4 => ?_, fun t h4 h5 b hb => ?_⟩ (hlt his)
      · unfold exS
        rw [hex w]
        have n1 := W.inj i (i + 1) (by omega) (by omega)
        generalize (if w = y 0 then X else 0) = A0
        by_cases e1 : y i = w
        · have e2 : ¬ y (i + 1) = w := fun k => n1 (e1.trans k.symm)
          rw [if_pos e1, if_pos e1.symm, if_neg e2, if_neg (fun k => e2 k.symm)]; omega
        · rw [if_neg e1, if_neg (fun k => e1 k.symm)]
          by_cases e2 : y (i + 1) = w
          · rw [if_pos e2, if_pos e2.symm]; omega
          · rw [if_neg e2, if_neg (fun k => e2 k.symm)]; omega
      · have o := out_snd (fr := fr) (to := to) (room := room') (x := X) a2 w
        rw [a3, a4] at o
        have := hout w
        unfold exS
        rw [o]; omega
      · by_cases e1 : c = a
        · subst e1; exact .inl a5
        · by_cases e2 : c = prA a
          · exact .inr ⟨i, a, his, a1, e2⟩
          · rw [sndR_o e1 e2] at h4
            exact hnew c hc h4
      · obtain ⟨b', b1, b2, b3, b4, b5⟩ := W.arc t h5
        have : b' = b := by omega
        subst this
        have hb2 := hle t (by omega) h5 b' hb
        have hne : b' ≠ a := by
          rintro rfl
          exact W.inj i t (by omega) (by omega) (a3.symm.trans b3)
        by_cases e2 : b' = prA a
        · rw [e2, sndR_p]; rw [e2] at hb2; omega
        · rw [sndR_o hne e2]; exact hb2
    · have h3 := of_decide_eq_false h3
      have his : i = s := by
        by_cases e : i = s
        · exact e
        · obtain ⟨a, a1, _⟩ := W.arc i (by omega); omega
      subst his
      exact ⟨rfl, X, room', ex', X0.1, X0.2.1, X0.2.2.1, F0, N, R', hex, hout, hnew⟩
end

end Go.Proofs.YtdcamadeblojdaaGreat

namespace Go.Proofs.YtdcamadeblojdaaGreat
open Go
open Classical
set_option linter.unusedVariables false

abbrev farI : Int := 4611686018427387904
/-- Dijkstra under way: D has come out in the order rk, k of them; Cb bounds the costs. -/
structure DjP (n m : Nat) (fr to : Nat → Nat) (room cost ex pot : Nat → Int) (D : Nat → Prop) (rk : Nat → Nat) (k : Nat) (dist via : Nat → Int) : Prop where
  pos : ∀ v, v < n → 0 ≤ dist v ∧ dist v ≤ farI
  src : ∀ v, v < n → 0 < ex v → dist v = 0
  dn : ∀ v, D v → v < n ∧ dist v < farI ∧ rk v < k
  arc : ∀ v, v < n → dist v < farI → (via v = -1 ∧ 0 < ex v) ∨ ∃ a : Nat, via v = a ∧ a < 2 * m ∧ hdA fr to a = v ∧ 0 < room a ∧ D (tlA fr to a) ∧ dist v = dist (tlA fr to a) + redC fr to cost pot a ∧ (D v → rk (tlA fr to a) < rk v)
  mono : ∀ u v, D u → v < n → ¬ D v → dist u ≤ dist v
  bd : ∀ v, v < n → dist v < farI → dist v + pot v ≤ k * 1048576
  cnt : cntP n D = k
section
variable {n m : Nat} {fr to : Nat → Nat} {room cost ex pot : Nat → Int} {D : Nat → Prop} {rk : Nat → Nat} {k : Nat} {dist via : Nat → Int}
/-- The nearest comes out. -/
theorem DjP.out (J : DjP n m fr to room cost ex pot D rk k dist via) {v : Nat} (hv : v < n) (hD : ¬ D v) (hf : dist v < farI) (hmin : ∀ w, w < n → ¬ D w → dist v ≤ dist w) :
    DjP n m fr to room cost ex pot (fun w => w = v ∨ D w) (updN rk v k) (k + 1) dist via := by
  have ne : ∀ w, D w → w ≠ v := fun w hw e => hD (e ▸ hw)
  refine ⟨J.pos, J.src, ?_, ?_, ?_, ?_, ?_⟩
  · rintro w (rfl | hw)
    · exact ⟨hv, hf, by rw [updN_at]; omega⟩
    · obtain ⟨a, b, c⟩ := J.dn w hw
      exact ⟨a, b, by rw [updN_ne (ne w hw)]; omega⟩
  · intro w hw hwf
    rcases J.arc w hw hwf with h | ⟨a, h1, h2, h3, h4, h5, h6, h7⟩
    · exact .inl h
    · refine .inr ⟨a, h1, h2, h3, h4, .inr h5, h6, ?_⟩
      rw [updN_ne (ne _ h5)]
      rintro (rfl | hDw)
      · rw [updN_at]; exact (J.dn _ h5).2.2
      · rw [updN_ne (ne w hDw)]; exact h7 hDw
  · rintro u w (rfl | hu) hw hn
    · exact hmin w hw fun h => hn (.inr h)
    · exact J.mono u w hu hw fun h => hn (.inr h)
  · intro w hw hwf
    have := J.bd w hw hwf
    have e : ((k + 1 : Nat) : Int) * 1048576 = k * 1048576 + 1048576 := by omega
    omega
  · rw [cntP_add (P := D) hv hD, J.cnt]; omega
/-- Along an arc of the one that came out last. -/
theorem DjP.relax (J : DjP n m fr to room cost ex pot D rk k dist via) {v a : Nat} (hv : D v) (hm : ∀ u, D u → dist u ≤ dist v) (ha : a < 2 * m) (ht : tlA fr to a = v) (hd : hdA fr to a < n) (hr : 0 < room a)
    (hc : 0 ≤ redC fr to cost pot a) (hC : cost a ≤ 1048576) (hb : dist v + pot v + 1048576 ≤ k * 1048576) (hlt : dist v + redC fr to cost pot a < dist (hdA fr to a)) :
    ¬ D (hdA fr to a) ∧ DjP n m fr to room cost ex pot D rk k (upd dist (hdA fr to a) (dist v + redC fr to cost pot a)) (upd via (hdA fr to a) a) := by
  have hnD : ¬ D (hdA fr to a) := fun h => by have := hm _ h; omega
  have ne : ∀ w, D w → w ≠ hdA fr to a := fun w hw e => hnD (e ▸ hw)
  have dv := J.dn v hv
  have pv := J.pos v dv.1
  have pu := J.pos _ hd
  refine ⟨hnD, ?_, ?_, ?_, ?_, ?_, ?_, J.cnt⟩
  · intro w hw
    by_cases e : w = hdA fr to a
    · subst e; rw [upd_at]; omega
    · rw [upd_ne e]; exact J.pos w hw
  · intro w hw hx
    by_cases e : w = hdA fr to a
    · subst e; have := J.src _ hw hx; omega
    · rw [upd_ne e]; exact J.src w hw hx
  · intro w hw
    rw [upd_ne (ne w hw)]; exact J.dn w hw
  · intro w hw hwf
    by_cases e : w = hdA fr to a
    · subst e
      refine .inr ⟨a, by rw [upd_at], ha, rfl, hr, by rw [ht]; exact hv, ?_, fun h => absurd h hnD⟩
      rw [upd_at, ht, upd_ne (ne v hv)]
    · rw [upd_ne e] at hwf ⊢
      rw [upd_ne e]
      rcases J.arc w hw hwf with h | ⟨a', h1, h2, h3, h4, h5, h6, h7⟩
      · exact .inl h
      · exact .inr ⟨a', h1, h2, h3, h4, h5, by rw [upd_ne (ne _ h5)]; exact h6, h7⟩
  · intro u w hu hw hn
    rw [upd_ne (ne u hu)]
    by_cases e : w = hdA fr to a
    · subst e; rw [upd_at]; have := hm u hu; omega
    · rw [upd_ne e]; exact J.mono u w hu hw hn
  · intro w hw hwf
    by_cases e : w = hdA fr to a
    · subst e
      rw [upd_at]
      unfold redC
      rw [ht]; omega
    · rw [upd_ne e] at hwf ⊢; exact J.bd w hw hwf
end

/-- What Dijkstra ends with. -/
def mnd (dist : Nat → Int) (f v : Nat) : Int := if dist f < dist v then dist f else dist v
structure DjE (n m : Nat) (fr to : Nat → Nat) (room cost ex pot : Nat → Int) (dist via : Nat → Int) (fnd : Int) : Prop where
  pos : ∀ v, v < n → 0 ≤ dist v ∧ dist v ≤ farI
  src : ∀ v, v < n → 0 < ex v → dist v = 0
  no : fnd < 0 → ∀ u v, u < n → 0 < ex u → Rch (ArS m fr to room) u v → 0 ≤ ex v
  yes : 0 ≤ fnd → ∃ f : Nat, fnd = f ∧ f < n ∧ ex f < 0 ∧ dist f + pot f ≤ n * 1048576 ∧ (∀ w, w < n → ex w < 0 → dist f ≤ dist w) ∧
    (∀ a, a < 2 * m → 0 < room a → 0 ≤ redC fr to cost (fun v => pot v + mnd dist f v) a) ∧
    ∃ y L, y 0 = f ∧ WayP n m fr to room via y L ∧ 0 < ex (y L) ∧ ∀ s, s < L → ∀ a : Nat, via (y s) = a → redC fr to cost (fun v => pot v + mnd dist f v) a = 0
/-- Who was found. -/
def FndP (n : Nat) (ex : Nat → Int) (D : Nat → Prop) (dist : Nat → Int) (fnd : Int) : Prop :=
  (fnd < 0 ∧ ∀ v, D v → 0 ≤ ex v) ∨ ∃ f : Nat, fnd = f ∧ f < n ∧ D f ∧ ex f < 0 ∧ ∀ w, w < n → ex w < 0 → dist f ≤ dist w
section
variable {n m : Nat} {fr to : Nat → Nat} {room cost ex pot : Nat → Int} {D : Nat → Prop} {rk : Nat → Nat} {k : Nat} {dist via : Nat → Int} {fnd : Int}
theorem DjP.way (J : DjP n m fr to room cost ex pot D rk k dist via) (hc : ∀ a, a < 2 * m → 0 < room a → 0 ≤ redC fr to cost pot a) : ∀ (q u : Nat), D u → rk u < q →
    ∃ (y : Nat → Nat) (L : Nat), y 0 = u ∧ WayP n m fr to room via y L ∧ 0 < ex (y L) ∧ (∀ s, s ≤ L → D (y s) ∧ rk (y s) ≤ rk u ∧ dist (y s) ≤ dist u) ∧
      ∀ s, s < L → ∀ a : Nat, via (y s) = a → tlA fr to a = y (s + 1) ∧ hdA fr to a = y s ∧ dist (y s) = dist (y (s + 1)) + redC fr to cost pot a := by
  intro q
  induction q with
  | zero => intro u _ h; omega
  | succ q ih =>
    intro u hu hr
    have du := J.dn u hu
    rcases J.arc u du.1 du.2.1 with ⟨h1, h2⟩ | ⟨a, h1, h2, h3, h4, h5, h6, h7⟩
    · refine ⟨fun _ => u, 0, rfl, ⟨fun _ _ => du.1, fun s hs => by omega, by rw [h1]; omega, fun s t h h' => by omega⟩, h2, fun s _ => ⟨hu, Nat.le_refl _, Int.le_refl _⟩, fun s hs => by omega⟩
    · have h7 := h7 hu
      obtain ⟨y, L, y0, W, w2, w3, w4⟩ := ih (tlA fr to a) h5 (by omega)
      have hca := hc a h2 h4
      let z : Nat → Nat := fun s => if s = 0 then u else y (s - 1)
      have z0 : z 0 = u := rfl
      have zs : ∀ s, z (s + 1) = y s := fun s => rfl
      have z1 : ∀ s, s ≠ 0 → z s = y (s - 1) := fun s hs => if_neg hs
      refine ⟨z, L + 1, rfl, ⟨fun s hs => ?_, fun s hs => ?_, by rw [zs]; exact W.stop, fun s t hst ht => ?_⟩, by rw [zs]; exact w2, fun s hs => ?_, fun s hs b hb => ?_⟩
      · by_cases e : s = 0
        · subst e; exact du.1
        · rw [z1 s e]; exact W.lt _ (by omega)
      · by_cases e : s = 0
        · subst e
          exact ⟨a, h1, h2, h3, by rw [zs, y0], h4⟩
        · rw [z1 s e, zs]
          have := W.arc (s - 1) (by omega)
          rwa [show s - 1 + 1 = s by omega] at this
      · rw [z1 t (by omega)]
        by_cases e : s = 0
        · subst e
          rw [z0]
          intro e
          have := w3 (t - 1) (by omega)
          rw [← e] at this; omega
        · rw [z1 s e]
          exact W.inj _ _ (by omega) (by omega)
      · by_cases e : s = 0
        · subst e; exact ⟨hu, Nat.le_refl _, Int.le_refl _⟩
        · rw [z1 s e]
          have := w3 (s - 1) (by omega)
          exact ⟨this.1, by omega, by omega⟩
      · by_cases e : s = 0
        · subst e
          rw [z0] at hb ⊢
          rw [zs, y0]
          have : b = a := by omega
          subst this
          exact ⟨rfl, h3, h6⟩
        · rw [z1 s e] at hb ⊢
          rw [zs]
          have := w4 (s - 1) (by omega) b hb
          rwa [show s - 1 + 1 = s by omega] at this
theorem DjP.fin (J : DjP n m fr to room cost ex pot D rk k dist via) (hc : ∀ a, a < 2 * m → 0 < room a → 0 ≤ redC fr to cost pot a) (hn : ∀ i, i < m → fr i < n ∧ to i < n)
    (all : ∀ v, v < n → dist v < farI → D v) (cl : ∀ a, a < 2 * m → 0 < room a → D (tlA fr to a) → dist (hdA fr to a) ≤ dist (tlA fr to a) + redC fr to cost pot a)
    (bdc : ∀ a, a < 2 * m → redC fr to cost pot a ≤ 4294967296) (hd2 : ∀ v, D v → dist v ≤ 1152921504606846976) (F : FndP n ex D dist fnd) : DjE n m fr to room cost ex pot dist via fnd := by
  refine ⟨J.pos, J.src, ?_, ?_⟩
  · intro hf u v hu hx hr
    rcases F with ⟨_, F⟩ | ⟨f, e, _⟩
    · refine F v (hr.closed (C := D) (all u hu ?_) fun x w hx hxw => ?_)
      · rw [J.src u hu hx]; decide
      · obtain ⟨a, a1, a2, a3, a4⟩ := hxw
        rw [← a2] at hx
        have h1 := cl a a1 a4 hx
        rw [← a3]
        have h2 := hd2 _ hx
        have h3 := bdc a a1
        exact all _ (hd_lt hn a1) (by show _ < (4611686018427387904 : Int); omega)
    · omega
  · intro hf
    rcases F with ⟨e, _⟩ | ⟨f, e, fn, fD, fx, fm⟩
    · omega
    · have df := J.dn f fD
      obtain ⟨y, L, y0, W, w2, w3, w4⟩ := J.way hc (rk f + 1) f fD (by omega)
      have kn : (k : Int) ≤ n := by have := J.cnt; have := cntP_all (n := n) (P := D); omega
      have hb := J.bd f fn df.2.1
      refine ⟨f, e, fn, fx, by omega, fm, fun a ha hr => ?_, y, L, y0, W, w2, fun s hs a hva => ?_⟩
      · have c0 := hc a ha hr
        have pf := J.pos f fn
        have pt := J.pos _ (tl_lt hn ha)
        have ph := J.pos _ (hd_lt hn ha)
        by_cases hD : D (tlA fr to a)
        · have := cl a ha hr hD
          unfold redC mnd at *
          dsimp only at *
          split <;> split <;> omega
        · have : dist (tlA fr to a) = farI := by
            apply Classical.byContradiction
            intro h
            exact hD (all _ (tl_lt hn ha) (by omega))
          unfold redC mnd at *
          dsimp only at *
          split <;> split <;> omega
      · obtain ⟨a1, a2, a3⟩ := w4 s hs a hva
        have l1 := w3 s (by omega)
        have l2 := w3 (s + 1) (by omega)
        unfold redC mnd at *
        rw [a1, a2] at *
        dsimp only at *
        rw [if_neg (by omega), if_neg (by omega)]
        omega
end

end Go.Proofs.YtdcamadeblojdaaGreat

namespace Go.Proofs.YtdcamadeblojdaaGreat
open Go
open Classical
set_option linter.unusedVariables false
set_option linter.unusedSimpArgs false

section
variable {own own' : Own} {h h' : H} {bn n m : Nat} {fr to : Nat → Nat} {room cost ex pot : Nat → Int}
theorem cheapest_T (N : MN own h bn n m fr to room cost ex pot) (hn : ∀ i, i < m → fr i < n ∧ to i < n) (hn1 : n ≤ 1024) (hm : m ≤ 4096) (hroom : ∀ a, a < 2 * m → 0 ≤ room a)
    (hcost : ∀ a, a < 2 * m → -1048576 ≤ cost a ∧ cost a ≤ 1048576) (hpot : ∀ v, v < n → 0 ≤ pot v ∧ pot v ≤ 1073741824) (hred : ∀ a, a < 2 * m → 0 < room a → 0 ≤ redC fr to cost pot a) (hsrc : ∀ v, v < n → 0 < ex v → pot v = 0) :
    T Tryz.prog F.mincost_ways_cheapest [.agg ⟨[.pointer (some (bk bn))]⟩] h fun r h' => ∃ (bd bv : Nat) (dist via : Nat → Int) (fnd : Int), r = .ret (.tuple ⟨[slV bd n, slV bv n, .int .i64 fnd]⟩) ∧ Ext h h' ∧ h bd = none ∧ h bv = none ∧
      Sl h' bd (slV bd n) (ints n dist) ∧ Sl h' bv (slV bv n) (ints n via) ∧ DjE n m fr to room cost ex pot dist via fnd := by
  refine E_mincost_ways_cheapest ?_
  unfold B_mincost_ways_cheapest
  refine new_bl ?_
  intro b1 q1 hb1 x1 B1_
  have N := N.ext x1
  obtain ⟨vf, vt, vr, vc, vo, vx, vp, outs, k8, k1, k2, k3, k4, k5, k6, k7, ko⟩ := N.q
  refine ⟨_, B1_.ld rfl, ptrP_mk ⟨_, k8.ld rfl, k5.len (va_length _ _) fun _ _ => mk_ints 20 (by omega) (by omega) ?_⟩⟩
  intro b9 q9 hb9 x9 S9
  refine mk_ints 21 (by omega) (by omega) ?_
  intro b11 q11 hb11 x11 S11
  simp only [Int.toNat_natCast]
  have bs : Bs q1 (own1 (fun _ => 0) b9 20) q9 := Bs.start.new x9 hb9
  have kD := S9 fun _ => 0
  generalize own1 (fun _ => 0) b9 20 = ow at *
  have bs := bs.nw (j := 21) x11 hb11
  have kD := kD.nw (j := 21) x11 hb11
  have kV := S11 ow
  generalize own1 ow b11 21 = ow at *
  clear S9 S11
  refine (qnew_T ow hn1).mono ?_
  rintro _ q14 ⟨bq, ow2, rfl, F1, Q⟩
  have bs := bs.fm F1 (by simp <;> omega)
  have kD := kD.fm F1 (by simp <;> omega)
  have kV := kV.fm F1 (by simp <;> omega)
  refine rt_ret ⟨_, _, rfl, ?_⟩
  let I : (Int × Unit) → H → Nat → Prop := fun p q z => ∃ (j : Nat) (ow : Own) (dist via key : Nat → Int) (held : Nat → Bool), p.1 = j ∧ j ≤ n ∧ z = n - j ∧ Bs q1 ow q ∧ S1 ow q 20 (slV b9 n) (ints n dist) ∧ S1 ow q 21 (slV b11 n) (ints n via) ∧ FQ ow q bq n key held ∧
    (∀ v, held v = true ↔ v < j ∧ 0 < ex v) ∧ (∀ v, v < j → dist v = (if 0 < ex v then 0 else farI) ∧ via v = -1) ∧ (∀ v, held v = true → key v = 0)
  refine ⟨fun p q => ∃ k, I p q k, rk I, rk_wf I, ⟨_, 0, ow2, _, _, _, _, rfl, by omega, rfl, bs, kD, kV, Q, fun v => by simp, fun v hv => by omega, fun v hv => by cases hv⟩, ?_⟩
  clear bs kD kV Q F1
  intro p q hI
  obtain ⟨j, ow, dist, via, key, held, e1, hj, hz, bs, kD, kV, Q, hH, hd, hk⟩ := mu_spec hI
  generalize hkk : mu I ((p, ()), q) = km at *
  change p = (j : Int) at e1
  subst e1
  have hlt : j < n → n - (j + 1) < mu I (((j : Int), ()), q) := fun h => by rw [hkk, hz]; omega
  clear hI
  refine ifP_of (fun h1 => ?_) (fun h1 => ?_)
  · have hjn : j < n := by have := of_decide_eq_true h1; omega
    rw [i64_inc (by omega)]
    refine kD.setI hjn fun g F1 kD => ?_
    have bs := bs.fm F1 (by simp <;> omega)
    have kV := kV.fm F1 (by simp <;> omega)
    have Q := Q.fm F1 (by simp <;> omega)
    refine kV.setI hjn fun g F1 kV => ?_
    have bs := bs.fm F1 (by simp <;> omega)
    have kD := kD.fm F1 (by simp <;> omega)
    have Q := Q.fm F1 (by simp <;> omega)
    refine ⟨_, (B1_.ext bs.ext).ld rfl, ptrP_mk ⟨_, (k8.ext bs.ext).ld rfl, (k6.ext bs.ext).rdI hjn (ifP_of (fun h2 => ?_) (fun h2 => ?_))⟩⟩
    · have h2 := of_decide_eq_true h2
      refine kD.setI hjn fun g F1 kD => ?_
      have bs := bs.fm F1 (by simp <;> omega)
      have kV := kV.fm F1 (by simp <;> omega)
      have Q := Q.fm F1 (by simp <;> omega)
      have hf : held j = false := by
        cases e : held j
        · rfl
        · have := (hH j).1 e; omega
      refine (qpush_T Q hjn hf hn1).mono ?_
      rintro _ q2 ⟨rfl, F1, Q⟩
      have bs := bs.fm F1 (by simp <;> omega)
      have kD := kD.fm F1 (by simp <;> omega)
      have kV := kV.fm F1 (by simp <;> omega)
      refine rt_ret ⟨_, rfl, mu_next (I := I) (k := n - (j + 1)) ⟨j + 1, ow, _, _, _, _, rfl, hjn, rfl, bs, kD, kV, Q, fun v => ?_, fun v hv => ?_, fun v hv => ?_⟩ (hlt hjn)⟩
      · unfold updB
        by_cases e : v = j
        · subst e; simp [h2]
        · rw [if_neg e, hH v]; constructor <;> (rintro ⟨a, b⟩; exact ⟨by omega, b⟩)
      · by_cases e : v = j
        · subst e; rw [upd_at, upd_at, if_pos h2]; exact ⟨rfl, rfl⟩
        · rw [upd_ne e, upd_ne e, upd_ne e]; exact hd v (by omega)
      · by_cases e : v = j
        · subst e; rw [upd_at]
        · rw [upd_ne e]; refine hk v ?_
          unfold updB at hv; rwa [if_neg e] at hv
    · have h2 := of_decide_eq_false h2
      refine mu_next (I := I) (k := n - (j + 1)) ⟨j + 1, ow, _, _, _, _, rfl, hjn, rfl, bs, kD, kV, Q, fun v => ?_, fun v hv => ?_, hk⟩ (hlt hjn)
      · rw [hH v]
        by_cases e : v = j
        · subst e; constructor <;> (rintro ⟨a, b⟩; exact absurd b h2)
        · constructor <;> (rintro ⟨a, b⟩; exact ⟨by omega, b⟩)
      · by_cases e : v = j
        · subst e; rw [upd_at, upd_at, if_neg h2]; exact ⟨rfl, rfl⟩
        · rw [upd_ne e, upd_ne e]; exact hd v (by omega)
  have : j = n := by have := of_decide_eq_false h1; omega
  subst this
  have bdc : ∀ a, a < 2 * m → redC fr to cost pot a ≤ 4294967296 := fun a ha => by
    have c1 := hcost a ha
    have p1 := hpot _ (tl_lt hn ha)
    have p2 := hpot _ (hd_lt hn ha)
    unfold redC; omega
  let I2 : (Int × Unit) → H → Nat → Prop := fun p q z => ∃ (ow : Own) (D : Nat → Prop) (rk : Nat → Nat) (k : Nat) (dist via key : Nat → Int) (held : Nat → Bool), z = j - k ∧ Bs q1 ow q ∧ S1 ow q 20 (slV b9 j) (ints j dist) ∧ S1 ow q 21 (slV b11 j) (ints j via) ∧ FQ ow q bq j key held ∧
    DjP j m fr to room cost ex pot D rk k dist via ∧ (∀ v, v < j → (held v = true ↔ dist v < farI ∧ ¬ D v)) ∧ (∀ v, v < j → held v = true → key v = dist v) ∧
    (∀ a, a < 2 * m → 0 < room a → D (tlA fr to a) → dist (hdA fr to a) ≤ dist (tlA fr to a) + redC fr to cost pot a) ∧ FndP j ex D dist p.1
  have fi : (0 : Int) < farI := by decide
  have fe : farI = 4611686018427387904 := rfl
  refine ⟨fun p q => ∃ k, I2 p q k, Go.Proofs.YtdcamadeblojdaaGreat.rk I2, rk_wf I2, ⟨_, ow, fun _ => False, fun _ => 0, 0, dist, via, key, held, rfl, bs, kD, kV, Q, ⟨fun v hv => ?_, fun v hv hx => ?_, fun v hv => hv.elim, fun v hv hf => ?_, fun u v hu => hu.elim, fun v hv hf => ?_, cntP_0 fun _ _ h => h⟩, fun v hv => ?_, fun v hv hh => ?_, fun a _ _ ht => ht.elim, .inl ⟨by show (-1 : Int) < 0; omega, fun v hv => hv.elim⟩⟩, ?_⟩
  · rw [(hd v hv).1]; split <;> omega
  · rw [(hd v hv).1, if_pos hx]
  · refine .inl ⟨(hd v hv).2, ?_⟩
    apply Classical.byContradiction
    intro h
    rw [(hd v hv).1, if_neg h] at hf; omega
  · have h0 : 0 < ex v := by
      apply Classical.byContradiction
      intro h
      rw [(hd v hv).1, if_neg h] at hf; omega
    rw [(hd v hv).1, if_pos h0, hsrc v hv h0]; simp
  · rw [hH v, (hd v hv).1]
    by_cases h0 : 0 < ex v
    · rw [if_pos h0]; simp [h0, hv, fi]
    · rw [if_neg h0]; simp [h0]
  · have h0 := ((hH v).1 hh).2
    rw [hk v hh, (hd v hv).1, if_pos h0]
  clear hlt hkk hz h1 bs kD kV Q hH hd hk hj dist via key held
  intro fnd q hI
  obtain ⟨ow, D, rk, k, dist, via, key, held, hz, bs, kD, kV, Q, J, hH, hk, hcl, hF⟩ := mu_spec hI
  generalize hkk : mu I2 ((fnd, ()), q) = km at *
  change FndP j ex D dist fnd at hF
  clear hI
  refine (Len_T Q).mono ?_
  rintro _ _ ⟨rfl, rfl⟩
  refine rt_ret ⟨_, rfl, ifP_of (fun h1 => ?_) (fun h1 => ?_)⟩
  rotate_left
  · have h1 := of_decide_eq_false h1
    have no : ∀ v, v < j → ¬ held v = true := fun v hv hh => h1 (by have := cntP_one (P := heldP j held) hv ⟨hv, hh⟩; omega)
    refine ⟨b9, b11, dist, via, fnd, rfl, x1.trans' bs.ext, ?_, ?_, kD.sl.1, kV.sl.1, J.fin hred hn (fun v hv hf => ?_) hcl bdc (fun v hv => ?_) hF⟩
    · exact x1.new hb9
    · exact x1.new (x9.new hb11)
    · apply Classical.byContradiction
      intro hD
      exact no v hv ((hH v hv).2 ⟨hf, hD⟩)
    · have d := J.dn v hv
      have b := J.bd v d.1 d.2.1
      have c := J.cnt
      have c2 := cntP_all (n := j) (P := D)
      have p := hpot v d.1
      omega
  have h1 := of_decide_eq_true h1
  refine (qpop_T Q h1 hn1).mono ?_
  rintro _ q3 ⟨v, ow2, rfl, hv, hhv, hmin, F1, Q⟩
  have bs := bs.fm F1 (by simp <;> omega)
  have kD := kD.fm F1 (by simp <;> omega)
  have kV := kV.fm F1 (by simp <;> omega)
  clear F1
  obtain ⟨hvf, hvD⟩ := (hH v hv).1 hhv
  have hvk := hk v hv hhv
  have hmin2 : ∀ w, w < j → ¬ D w → dist v ≤ dist w := fun w hw hD => by
    by_cases hh : held w = true
    · have := hmin w hw hh
      rw [hvk, hk w hw hh] at this; exact this
    · have : ¬ dist w < farI := fun hf => hh ((hH w hw).2 ⟨hf, hD⟩)
      have := J.pos v hv
      omega
  have J2 := J.out hv hvD hvf hmin2
  have pv := J.pos v hv
  have bv := J.bd v hv hvf
  have kn : (k : Int) + 1 ≤ j := by
    have h1 := J2.cnt
    have := cntP_all (n := j) (P := fun w => w = v ∨ D w); omega
  have ppv := hpot v hv
  refine rt_ret ⟨_, _, _, rfl, ?_⟩
  rw [hvk]
  refine ⟨fun p q => q = q3 ∧ FndP j ex (fun w => w = v ∨ D w) dist p.1, ?_, ?_⟩
  · have keep : 0 ≤ ex v ∨ ¬ fnd < 0 → FndP j ex (fun w => w = v ∨ D w) dist fnd := fun hx => by
      rcases hF with ⟨a, b⟩ | ⟨f, a, b, c, d⟩
      · rcases hx with hx | hx
        · exact .inl ⟨a, fun w hw => by rcases hw with rfl | hw; exact hx; exact b w hw⟩
        · exact absurd a hx
      · exact .inr ⟨f, a, b, .inr c, d⟩
    refine ⟨_, (B1_.ext bs.ext).ld rfl, ptrP_mk ⟨_, (k8.ext bs.ext).ld rfl, (k6.ext bs.ext).rdI hv (ifP_of (fun h2 => ?_) (fun h2 => ?_))⟩⟩
    · refine ifP_of (fun h3 => ?_) (fun h3 => ?_)
      · refine ⟨rfl, .inr ⟨v, rfl, hv, .inl rfl, of_decide_eq_true h2, fun w hw hx => hmin2 w hw fun hD => ?_⟩⟩
        have h3 := of_decide_eq_true h3
        rcases hF with ⟨a, b⟩ | ⟨f, a, b, c, d⟩
        · have := b w hD; omega
        · omega
      · exact ⟨rfl, keep (.inr (of_decide_eq_false h3))⟩
    · exact ⟨rfl, keep (.inl (by have := of_decide_eq_false h2; omega))⟩
  rintro fnd2 _ ⟨rfl, hF⟩
  change FndP j ex (fun w => w = v ∨ D w) dist fnd2 at hF
  refine ⟨_, (B1_.ext bs.ext).ld rfl, ptrP_mk ⟨_, (k8.ext bs.ext).ld rfl, (k5.ext bs.ext).rdV hv (((ko v hv).ext bs.ext).len (natV_length _) fun _ _ => ?_)⟩⟩
  obtain ⟨d0, hd0⟩ : ∃ d0, dist v = d0 := ⟨_, rfl⟩
  rw [hd0] at pv bv ⊢
  have hm0 : ∀ u, (u = v ∨ D u) → dist u ≤ d0 := fun u hu => by
    rcases hu with rfl | hu
    · rw [hd0]; omega
    · have := J.mono u v hu hv hvD; rw [← hd0]; exact this
  let I3 : (Int × Unit) → H → Nat → Prop := fun p q z => ∃ (s : Nat) (ow : Own) (dist via key : Nat → Int) (held : Nat → Bool), p.1 = s ∧ s ≤ (arcsL fr to m v).length ∧ z = (arcsL fr to m v).length - s ∧ Bs q1 ow q ∧ S1 ow q 20 (slV b9 j) (ints j dist) ∧ S1 ow q 21 (slV b11 j) (ints j via) ∧ FQ ow q bq j key held ∧
    DjP j m fr to room cost ex pot (fun w => w = v ∨ D w) (updN rk v k) (k + 1) dist via ∧ (∀ w, w < j → (held w = true ↔ dist w < farI ∧ ¬ (w = v ∨ D w))) ∧ (∀ w, w < j → held w = true → key w = dist w) ∧
    (∀ a, a < 2 * m → 0 < room a → (tlA fr to a = v ∨ D (tlA fr to a)) → (tlA fr to a = v → a ∈ (arcsL fr to m v).take s) → dist (hdA fr to a) ≤ dist (tlA fr to a) + redC fr to cost pot a) ∧ FndP j ex (fun w => w = v ∨ D w) dist fnd2 ∧ dist v = d0 ∧ (∀ u, (u = v ∨ D u) → dist u ≤ d0)
  refine ⟨fun p q => ∃ k, I3 p q k, Go.Proofs.YtdcamadeblojdaaGreat.rk I3, rk_wf I3, ⟨_, 0, ow2, dist, via, key, _, rfl, by omega, rfl, bs, kD, kV, Q, J2, fun w hw => ?_, fun w hw hh => ?_, fun a ha hr ht hm => ?_, hF, hd0, hm0⟩, ?_⟩
  · unfold updB
    by_cases e : w = v
    · subst e; simp
    · rw [if_neg e, hH w hw]; simp [e]
  · unfold updB at hh
    by_cases e : w = v
    · subst e; simp at hh
    · rw [if_neg e] at hh; exact hk w hw hh
  · rcases ht with e | ht
    · exact absurd (hm e) (by simp)
    · exact hcl a ha hr ht
  clear bs kD kV Q J2 hF hH hk hcl hm0 hmin2 hvk hhv hmin h1 hvf pv J
  intro p q4 hI
  obtain ⟨s, ow, dist, via, key, held, e1, hs, hz2, bs, kD, kV, Q, J, hH, hk, hcl, hF, hdv, hm0⟩ := mu_spec hI
  generalize hkk2 : mu I3 ((p, ()), q4) = km2 at *
  change p = (s : Int) at e1
  subst e1
  have hlt2 : s < (arcsL fr to m v).length → (arcsL fr to m v).length - (s + 1) < mu I3 (((s : Int), ()), q4) := fun h => by rw [hkk2, hz2]; omega
  clear hI
  refine ifP_of (fun h3 => ?_) (fun h3 => ?_)
  · have hsl : s < (arcsL fr to m v).length := by have := of_decide_eq_true h3; omega
    have hal := arcsL_length (fr := fr) (to := to) (v := v) (i := m)
    obtain ⟨a, ha⟩ : ∃ a, a = (arcsL fr to m v)[s] := ⟨_, rfl⟩
    have ham := mem_arcsL.1 (show a ∈ arcsL fr to m v by rw [ha]; exact List.getElem_mem hsl)
    have htk : (arcsL fr to m v).take (s + 1) = (arcsL fr to m v).take s ++ [a] := by rw [ha, List.take_succ_eq_append_getElem hsl]
    have hu := hd_lt hn ham.1
    refine ((ko v hv).ext bs.ext).rd (natV_get hsl) ?_
    rw [← ha, i64_inc (by omega)]
    have skip : (room a = 0 ∨ dist (hdA fr to a) ≤ d0 + redC fr to cost pot a) → ∀ b, b < 2 * m → 0 < room b → (tlA fr to b = v ∨ D (tlA fr to b)) → (tlA fr to b = v → b ∈ (arcsL fr to m v).take (s + 1)) → dist (hdA fr to b) ≤ dist (tlA fr to b) + redC fr to cost pot b := fun hx b hb hrb ht hm => by
      by_cases e : b = a
      · subst e
        rcases hx with hx | hx
        · omega
        · rw [ham.2, hdv]; exact hx
      · refine hcl b hb hrb ht fun e2 => ?_
        have := hm e2
        rw [htk] at this
        rcases List.mem_append.1 this with k | k
        · exact k
        · exact absurd (by simpa using k) e
    refine ⟨_, (B1_.ext bs.ext).ld rfl, ptrP_mk ⟨_, (k8.ext bs.ext).ld rfl, (k2.ext bs.ext).rdI ham.1 (kD.at (ints_get hu) fun a76 ha76 => ⟨_, ha76, _, (B1_.ext bs.ext).ld rfl, ?_⟩)⟩⟩
    have cb := hcost a ham.1
    refine (reduced_T (N.ext bs.ext) hn ham.1 (by omega) (fun w hw => by have := hpot w hw; omega)).mono ?_
    rintro _ _ ⟨rfl, rfl⟩
    have jv := J.pos v hv
    have jb := J.bd v hv (J.dn v (.inl rfl)).2.1
    rw [hdv] at jb jv
    have r1 := bdc a ham.1
    have r2 : -4294967296 ≤ redC fr to cost pot a := by
      have p1 := hpot _ (tl_lt hn ham.1)
      have p2 := hpot _ hu
      unfold redC; omega
    have ew : IntKind.i64.wrap (d0 + redC fr to cost pot a) = d0 + redC fr to cost pot a := w64_in (by omega) (by omega)
    refine rt_ret ⟨_, rfl, sameAt_of rfl, ?_⟩
    rw [ew]
    have hra := hroom a ham.1
    refine ⟨_, (B1_.ext bs.ext).ld rfl, ptrP_mk ⟨_, (k8.ext bs.ext).ld rfl, (k3.ext bs.ext).rdI ham.1 (ifP_of (fun h4 => ?_) (fun h4 => ifP_of (fun h5 => ?_) (fun h5 => ?_)))⟩⟩
    · exact mu_next (I := I3) (k := (arcsL fr to m v).length - (s + 1)) ⟨s + 1, ow, dist, via, key, held, rfl, hsl, rfl, bs, kD, kV, Q, J, hH, hk, skip (.inl (of_decide_eq_true h4)), hF, hdv, hm0⟩ (hlt2 hsl)
    · exact mu_next (I := I3) (k := (arcsL fr to m v).length - (s + 1)) ⟨s + 1, ow, dist, via, key, held, rfl, hsl, rfl, bs, kD, kV, Q, J, hH, hk, skip (.inr (of_decide_eq_true h5)), hF, hdv, hm0⟩ (hlt2 hsl)
    · have h4 := of_decide_eq_false h4
      have h5 := of_decide_eq_false h5
      have hrp : 0 < room a := by omega
      have c0 := hred a ham.1 hrp
      obtain ⟨hnD, J2⟩ := J.relax (v := v) (.inl rfl) (by rw [hdv]; exact hm0) ham.1 ham.2 hu hrp c0 cb.2 (by rw [hdv]; omega) (by rw [hdv]; omega)
      rw [hdv] at J2
      have ne : ∀ w, (w = v ∨ D w) → w ≠ hdA fr to a := fun w hw e => hnD (e ▸ hw)
      have newcl : ∀ b, b < 2 * m → 0 < room b → (tlA fr to b = v ∨ D (tlA fr to b)) → (tlA fr to b = v → b ∈ (arcsL fr to m v).take (s + 1)) → upd dist (hdA fr to a) (d0 + redC fr to cost pot a) (hdA fr to b) ≤ upd dist (hdA fr to a) (d0 + redC fr to cost pot a) (tlA fr to b) + redC fr to cost pot b := fun b hb hrb ht hm => by
        rw [upd_ne (ne _ ht)]
        by_cases e : b = a
        · subst e
          rw [upd_at, ham.2, hdv]; omega
        · have := hcl b hb hrb ht fun e2 => by
            have := hm e2
            rw [htk] at this
            rcases List.mem_append.1 this with k | k
            · exact k
            · exact absurd (by simpa using k) e
          by_cases e2 : hdA fr to b = hdA fr to a
          · rw [e2, upd_at]; rw [e2] at this; omega
          · rw [upd_ne e2]; exact this
      have newF : FndP j ex (fun w => w = v ∨ D w) (upd dist (hdA fr to a) (d0 + redC fr to cost pot a)) fnd2 := by
        rcases hF with hF | ⟨f, f1, f2, f3, f4, f5⟩
        · exact .inl hF
        · refine .inr ⟨f, f1, f2, f3, f4, fun w hw hx => ?_⟩
          rw [upd_ne (ne f f3)]
          by_cases e : w = hdA fr to a
          · subst e; rw [upd_at]; have := hm0 f f3; omega
          · rw [upd_ne e]; exact f5 w hw hx
      have newv : upd dist (hdA fr to a) (d0 + redC fr to cost pot a) v = d0 := by rw [upd_ne (ne v (.inl rfl))]; exact hdv
      have newm : ∀ u, (u = v ∨ D u) → upd dist (hdA fr to a) (d0 + redC fr to cost pot a) u ≤ d0 := fun u hu => by rw [upd_ne (ne u hu)]; exact hm0 u hu
      have dlt : d0 + redC fr to cost pot a < farI := by have := J.pos _ hu; omega
      refine kD.setI hu fun g F1 kD => ?_
      have bs := bs.fm F1 (by simp <;> omega)
      have kV := kV.fm F1 (by simp <;> omega)
      have Q := Q.fm F1 (by simp <;> omega)
      refine kV.setI hu fun g F1 kV => ?_
      have bs := bs.fm F1 (by simp <;> omega)
      have kD := kD.fm F1 (by simp <;> omega)
      have Q := Q.fm F1 (by simp <;> omega)
      refine ifP_of (fun h6 => ?_) (fun h6 => ?_)
      · have h6 := of_decide_eq_true h6
        have hf : held (hdA fr to a) = false := by
          cases e : held (hdA fr to a)
          · rfl
          · have h7 := ((hH _ hu).1 e).1
            rw [h6] at h7; omega
        refine (qpush_T Q hu hf hn1).mono ?_
        rintro _ q2 ⟨rfl, F1, Q⟩
        have bs := bs.fm F1 (by simp <;> omega)
        have kD := kD.fm F1 (by simp <;> omega)
        have kV := kV.fm F1 (by simp <;> omega)
        refine rt_ret ⟨_, rfl, mu_next (I := I3) (k := (arcsL fr to m v).length - (s + 1)) ⟨s + 1, ow, _, _, _, _, rfl, hsl, rfl, bs, kD, kV, Q, J2, fun w hw => ?_, fun w hw hh => ?_, newcl, newF, newv, newm⟩ (hlt2 hsl)⟩
        · unfold updB
          by_cases e : w = hdA fr to a
          · subst e; rw [if_pos rfl, upd_at]; exact ⟨fun _ => ⟨dlt, hnD⟩, fun _ => rfl⟩
          · rw [if_neg e, upd_ne e]; exact hH w hw
        · by_cases e : w = hdA fr to a
          · subst e; rw [upd_at, upd_at]
          · rw [upd_ne e, upd_ne e]
            unfold updB at hh; rw [if_neg e] at hh
            exact hk w hw hh
      · have h6 := of_decide_eq_false h6
        have hf : held (hdA fr to a) = true := (hH _ hu).2 ⟨by have := J.pos _ hu; omega, hnD⟩
        have hkf := hk _ hu hf
        refine (qlower_T Q hu hf (by rw [hkf]; omega) hn1).mono ?_
        rintro _ q2 ⟨rfl, F1, Q⟩
        have bs := bs.fm F1 (by simp <;> omega)
        have kD := kD.fm F1 (by simp <;> omega)
        have kV := kV.fm F1 (by simp <;> omega)
        refine rt_ret ⟨_, rfl, mu_next (I := I3) (k := (arcsL fr to m v).length - (s + 1)) ⟨s + 1, ow, _, _, _, _, rfl, hsl, rfl, bs, kD, kV, Q, J2, fun w hw => ?_, fun w hw hh => ?_, newcl, newF, newv, newm⟩ (hlt2 hsl)⟩
        · by_cases e : w = hdA fr to a
          · subst e; rw [upd_at]; exact ⟨fun _ => ⟨dlt, hnD⟩, fun _ => hf⟩
          · rw [upd_ne e]; exact hH w hw
        · by_cases e : w = hdA fr to a
          · subst e; rw [upd_at, upd_at]
          · rw [upd_ne e, upd_ne e]
            exact hk w hw hh
  · have : s = (arcsL fr to m v).length := by have := of_decide_eq_false h3; omega
    subst this
    refine mu_next (I := I2) (k := j - (k + 1)) ⟨ow, _, _, k + 1, dist, via, key, held, rfl, bs, kD, kV, Q, J, hH, hk, fun a ha hr ht => hcl a ha hr ht fun e => ?_, hF⟩ ?_
    · rw [List.take_length]; exact mem_arcsL.2 ⟨ha, e⟩
    · rw [hkk, hz]; omega
end

end Go.Proofs.YtdcamadeblojdaaGreat

namespace Go.Proofs.YtdcamadeblojdaaGreat
open Go
open Classical
set_option linter.unusedVariables false
set_option linter.unusedSimpArgs false

/-- The task's numbers. -/
structure EvP (n m : Nat) (fr to : Nat → Nat) (cap b : Nat → Int) : Prop where
  n1 : n ≤ 1024
  m1 : m ≤ 4096
  e : ∀ i, i < m → fr i < n ∧ to i < n
  cp : ∀ i, i < m → 0 ≤ cap i ∧ cap i ≤ 1048576
  bb : ∀ v, v < n → -1048576 ≤ b v ∧ b v ≤ 1048576
  s0 : sumN n b = 0
/-- The net, its rooms right, what is still too much right. -/
structure MS (own : Own) (h : H) (bn n m : Nat) (fr to : Nat → Nat) (cap b cost room ex pot : Nat → Int) : Prop where
  net : MN own h bn n m fr to room cost ex pot
  rm : RmP m cap room
  bal : ∀ v, v < n → ex v + OutF m fr to (onR room) v = b v
section
variable {own own' : Own} {h h' : H} {bn n m : Nat} {fr to : Nat → Nat} {cap b cost room ex pot : Nat → Int} {M : List Nat}
theorem RmP.rb (R : RmP m cap room) (hc : ∀ i, i < m → cap i ≤ 1048576) {a : Nat} (ha : a < 2 * m) : 0 ≤ room a ∧ room a ≤ 1048576 := by
  have := R.pos a ha
  have := R.pos _ (prA_lt ha)
  have := R.pr ha
  have := hc (a / 2) (by omega)
  omega
theorem RmP.onb (R : RmP m cap room) (hc : ∀ i, i < m → cap i ≤ 1048576) : ∀ i, i < m → 0 ≤ onR room i ∧ onR room i ≤ 1048576 := fun i hi => R.rb hc (a := 2 * i + 1) (by omega)
theorem MS.fm (S : MS own h bn n m fr to cap b cost room ex pot) (F : Fm M own h own' h') (hM : ∀ i, i ∈ M → 8 < i ∧ i < 40) : MS own' h' bn n m fr to cap b cost room ex pot := ⟨S.net.fm F hM, S.rm, S.bal⟩
theorem MS.ext (S : MS own h bn n m fr to cap b cost room ex pot) (x : Ext h h') : MS own h' bn n m fr to cap b cost room ex pot := ⟨S.net.ext x, S.rm, S.bal⟩
theorem MS.exb (S : MS own h bn n m fr to cap b cost room ex pot) (E : EvP n m fr to cap b) {v : Nat} (hv : v < n) : -8589934592 ≤ ex v ∧ ex v ≤ 8589934592 := by
  have := S.bal v hv
  have := E.bb v hv
  have := out_bd (fr := fr) (to := to) (S.rm.onb fun i hi => (E.cp i hi).2) E.m1 v
  omega
theorem MS.rb (S : MS own h bn n m fr to cap b cost room ex pot) (E : EvP n m fr to cap b) {a : Nat} (ha : a < 2 * m) : 0 ≤ room a ∧ room a ≤ 1048576 := S.rm.rb (fun i hi => (E.cp i hi).2) ha
theorem MS.sum0 (S : MS own h bn n m fr to cap b cost room ex pot) (E : EvP n m fr to cap b) : sumN n ex = 0 := by
  have e1 : sumN n ex = sumN n fun v => b v - OutF m fr to (onR room) v := sumN_congr fun v hv => by have := S.bal v hv; omega
  rw [e1, sumN_sub, E.s0, out_all E.e]; rfl
theorem MS.done (S : MS own h bn n m fr to cap b cost room ex pot) (E : EvP n m fr to cap b) (no : ¬ ∃ v, v < n ∧ 0 < ex v) : ∀ v, v < n → ex v = 0 := by
  have h1 : ∀ v, v < n → 0 ≤ - ex v := fun v hv => by
    apply Classical.byContradiction
    intro h
    exact no ⟨v, hv, by omega⟩
  have e : sumN n (fun v => - ex v) = 0 := by
    have := sumN_sub (f := fun _ => 0) (g := ex) (k := n)
    rw [sumN_zero fun _ _ => rfl, S.sum0 E] at this
    rw [show (fun v => - ex v) = fun v => 0 - ex v by funext v; omega, this]; rfl
  intro v hv
  have := sumN_all0 h1 (by omega) v hv
  omega
theorem MS.send (S : MS own h bn n m fr to cap b cost room ex pot) (E : EvP n m fr to cap b) {a : Nat} {x : Int} (ha : a < 2 * m) (h0 : 0 ≤ x) (h1 : x ≤ room a) :
    T Tryz.prog F.mincost_net_send [.pointer (some (bk bn)), .int .i64 a, .int .i64 x] h fun r h' => r = .ret (.tuple ⟨[]⟩) ∧ Fm [3, 6] own h own h' ∧
      MS own h' bn n m fr to cap b cost (sndR room a x) (exS ex (tlA fr to a) (hdA fr to a) x) pot := by
  have ra := S.rb E ha
  refine (msend_T S.net E.m1 E.e ha (fun c hc => by have := S.rb E hc; omega) (by omega) (fun v hv => by have := S.exb E hv; omega)).mono ?_
  rintro _ q ⟨rfl, F, N⟩
  refine ⟨rfl, F, N, S.rm.snd ha h0 h1, fun v hv => ?_⟩
  have := S.bal v hv
  rw [out_snd ha]
  unfold exS
  omega
/-- The side where what is too much can't leave. -/
theorem MS.lack (S : MS own h bn n m fr to cap b cost room ex pot) (E : EvP n m fr to cap b) {sd : Nat → Bool} (hsd : ∀ v, v < n → (sd v = true ↔ ∃ u, u < n ∧ 0 < ex u ∧ Rch (ArS m fr to room) u v))
    (no : ∀ u v, u < n → 0 < ex u → Rch (ArS m fr to room) u v → 0 ≤ ex v) (some_ : ∃ v, v < n ∧ 0 < ex v) : cutC m fr to cap (fun v => sd v = true) < sumN n fun v => if sd v = true then b v else 0 := by
  obtain ⟨v, hv, hx⟩ := some_
  refine Int.lt_of_lt_of_le (S.rm.lack (b := b) E.e (C := fun v => sd v = true) (fun a ha hr hs => ?_) (fun w hw hs => ?_) hv ((hsd v hv).2 ⟨v, hv, hx, .refl⟩) (by have := S.bal v hv; omega)) (Int.le_of_eq (sumN_congr fun v _ => by by_cases h : sd v = true <;> simp [h]))
  · obtain ⟨u, hu, hxu, r⟩ := (hsd _ (tl_lt E.e ha)).1 hs
    exact (hsd _ (hd_lt E.e ha)).2 ⟨u, hu, hxu, r.step ⟨a, ha, rfl, rfl, hr⟩⟩
  · obtain ⟨u, hu, hxu, r⟩ := (hsd w hw).1 hs
    have := no u w hu hxu r
    have := S.bal w hw; omega
/-- How much there is too much. -/
def posS (n : Nat) (ex : Nat → Int) : Int := sumN n fun v => if 0 < ex v then ex v else 0
theorem posS_nn : 0 ≤ posS n ex := sumN_nonneg fun v _ => by split <;> omega
theorem posS_carry {ex' : Nat → Int} {u w : Nat} {x : Int} (hu : u < n) (hx : x ≤ ex u) (h0 : 0 < x) (hw : ex w ≤ - x) (he : ∀ v, ex' v = ex v + (if v = w then x else 0) - (if v = u then x else 0)) : posS n ex' = posS n ex - x := by
  have e : posS n ex' = sumN n fun v => (if 0 < ex v then ex v else 0) - (if u = v then x else 0) := sumN_congr fun v _ => by
    have ne : w ≠ u := by rintro rfl; omega
    rw [he v]
    by_cases e1 : v = u
    · subst e1
      rw [if_neg (fun h : v = w => ne h.symm), if_pos rfl]
      split <;> split <;> omega
    · rw [if_neg e1, if_neg (fun h : u = v => e1 h.symm)]
      by_cases e2 : v = w
      · subst e2
        rw [if_pos rfl]
        split <;> split <;> omega
      · rw [if_neg e2]
        simp
  rw [e, sumN_sub, sumN_pt, if_pos hu]; rfl
theorem Fm.newT {b c i : Nat} (x : Ext h h') (hb : h b = none) (hc : h c = none) : Fm M own h (own1 (own1 own b i) c i) h' :=
  ⟨fun d o e _ => x d o e, fun d o e => ⟨⟨o, x d o e⟩, by
    rw [own1_ne (by rintro rfl; rw [hc] at e; cases e), own1_ne (by rintro rfl; rw [hb] at e; cases e)]⟩⟩
theorem Fm.none {b : Nat} (F : Fm M own h own' h') (hb : h' b = none) : h b = none := by
  cases e : h b with
  | none => rfl
  | some o => obtain ⟨⟨o', e'⟩, _⟩ := F.stay b o e; rw [hb] at e'; cases e'
theorem S1.of2 {b c i : Nat} {v : Value} {vs : List Value} (s : Sl h b v vs) (own : Own) : S1 (own1 (own1 own b i) c i) h i v vs :=
  .inr ⟨b, by unfold own1; split; rfl; exact if_pos rfl, s⟩
theorem redC_pr {a : Nat} (hc : cost (prA a) = - cost a) (ha : a < 2 * m) : redC fr to cost pot (prA a) = - redC fr to cost pot a := by
  unfold redC
  rw [hc, tl_pr, hd_pr]; omega
end

end Go.Proofs.YtdcamadeblojdaaGreat

namespace Go.Proofs.YtdcamadeblojdaaGreat
open Go
open Classical
set_option linter.unusedVariables false
set_option linter.unusedSimpArgs false

/-- The panic of what can't be met, with the side that proves it. -/
def LackA (h : H) (n m : Nat) (fr to : Nat → Nat) (cap b : Nat → Int) (r : Res) (h' : H) : Prop :=
  ∃ (bs : Nat) (sd : Nat → Bool), r = .pan (.iface 73 (.agg ⟨[slV bs n]⟩)) ∧ h bs = none ∧ Sl h' bs (slV bs n) (bools n sd) ∧ cutC m fr to cap (fun v => sd v = true) < sumN n fun v => if sd v = true then b v else 0
/-- What ways.meet ends with. -/
def MeetA (M : List Nat) (own : Own) (h : H) (bn n m : Nat) (fr to : Nat → Nat) (cap b cost : Nat → Int) (r : Res) (h' : H) : Prop :=
  ∃ own', Fm M own h own' h' ∧ ((r = .ret (.tuple ⟨[]⟩) ∧ ∃ room' ex' pot', MS own' h' bn n m fr to cap b cost room' ex' pot' ∧ (∀ v, v < n → ex' v = 0) ∧
    (∀ a, a < 2 * m → 0 < room' a → 0 ≤ redC fr to cost pot' a) ∧ ∀ v, v < n → -1073741824 ≤ pot' v ∧ pot' v ≤ 1073741824) ∨ LackA h n m fr to cap b r h')
section
variable {own own' : Own} {h h' : H} {bn n m : Nat} {fr to : Nat → Nat} {cap b k cost room ex pot : Nat → Int} {M : List Nat}
theorem ways_T (S : MS own h bn n m fr to cap b cost room ex pot) (E : EvP n m fr to cap b) (hk : ∀ i, i < m → -1048576 ≤ k i ∧ k i ≤ 1048576) (hcost : ∀ a, a < 2 * m → cost a = cA k a)
    (r0 : ∀ i, i < m → room (2 * i + 1) = 0) (p0 : ∀ v, v < n → pot v = 0) :
    T Tryz.prog F.mincost_ways_meet [.agg ⟨[.pointer (some (bk bn))]⟩] h (MeetA [3, 6, 7, 20, 21, 22] own h bn n m fr to cap b cost) := by
  have hm1 := E.m1
  have hn1 := E.n1
  have hcb : ∀ a, a < 2 * m → -1048576 ≤ cost a ∧ cost a ≤ 1048576 := fun a ha => by rw [hcost a ha]; exact cA_bd hk ha
  have hcpr : ∀ a, a < 2 * m → cost (prA a) = - cost a := fun a ha => by rw [hcost a ha, hcost _ (prA_lt ha), cA_pr]
  refine E_mincost_ways_meet ?_
  unfold B_mincost_ways_meet
  refine new_bl ?_
  intro b1 q1 hb1 x1 B1_
  have C1 : B1 (own1 own b1 9) q1 9 b1 [.pointer (some (bk bn))] := B1.new B1_
  have F1 : Fm [3, 6, 7] own h (own1 own b1 9) q1 := Fm.new x1 hb1
  have S : MS (own1 own b1 9) q1 bn n m fr to cap b cost room ex pot := ⟨S.net.nw x1 hb1, S.rm, S.bal⟩
  generalize own1 own b1 9 = ow at *
  let I : (Int × Unit) → H → Nat → Prop := fun p q z => ∃ (i : Nat) (room' ex' : Nat → Int), p.1 = ((2 * i : Nat) : Int) ∧ i ≤ m ∧ z = m - i ∧ Fm [3, 6, 7] own h ow q ∧ MS ow q bn n m fr to cap b cost room' ex' pot ∧ B1 ow q 9 b1 [.pointer (some (bk bn))] ∧
    (∀ j, j < i → (0 < room' (2 * j) → 0 ≤ k j) ∧ (0 < room' (2 * j + 1) → k j < 0)) ∧ ∀ j, i ≤ j → j < m → room' (2 * j + 1) = 0
  refine ⟨fun p q => ∃ k, I p q k, rk I, rk_wf I, ⟨_, 0, room, ex, rfl, by omega, rfl, F1, S, C1, fun j hj => by omega, fun j _ hj => r0 j hj⟩, ?_⟩
  clear S C1 F1
  intro p q hI
  obtain ⟨i, room', ex', e1, hi, hz, F0, S, C1, hd, hr⟩ := mu_spec hI
  generalize hkk : mu I ((p, ()), q) = km at *
  change p = ((2 * i : Nat) : Int) at e1
  subst e1
  have hlt : i < m → m - (i + 1) < mu I ((((2 * i : Nat) : Int), ()), q) := fun h => by rw [hkk, hz]; omega
  clear hI
  obtain ⟨vf, vt, vr, vc, vo, vx, vp, outs, k8, k1, k2, k3, k4, k5, k6, k7, ko⟩ := S.net.q
  refine ⟨_, C1.ld0 rfl, ptrP_mk ⟨_, k8.ld rfl, k2.len (ints_length _ _) fun _ _ => ifP_of (fun h1 => ?_) (fun h1 => ?_)⟩⟩
  · have him : i < m := by have := of_decide_eq_true h1; omega
    have ew : IntKind.i64.wrap (((2 * i : Nat) : Int) + 2) = ((2 * (i + 1) : Nat) : Int) := by
      rw [show ((2 * i : Nat) : Int) + 2 = ((2 * (i + 1) : Nat) : Int) by omega]; exact w64_in (by omega) (by omega)
    rw [ew]
    refine ⟨_, C1.ld0 rfl, ptrP_mk ⟨_, k8.ld rfl, k4.rdI (show 2 * i < 2 * m by omega) ?_⟩⟩
    rw [hcost _ (by omega), cA_0]
    refine ifP_of (fun h2 => ?_) (fun h2 => ?_)
    · have h2 := of_decide_eq_true h2
      refine ⟨_, C1.ld0 rfl, _, C1.ld0 rfl, ptrP_mk ⟨_, k8.ld rfl, k3.rdI (show 2 * i < 2 * m by omega) ?_⟩⟩
      have hr0 := S.rm.pos (2 * i) (by omega)
      refine (S.send E (a := 2 * i) (by omega) hr0 (Int.le_refl _)).mono ?_
      rintro _ q2 ⟨rfl, F1, S⟩
      have C1 := C1.fm F1 (by simp <;> omega)
      refine rt_ret ⟨rfl, mu_next (I := I) (k := m - (i + 1)) ⟨i + 1, _, _, rfl, him, rfl, F0.trans (F1.mono (by simp)), S, C1, fun j hj => ?_, fun j h3 h4 => ?_⟩ (hlt him)⟩
      · have ep : prA (2 * i) = 2 * i + 1 := by unfold prA; rw [if_pos (by omega)]
        by_cases e : j = i
        · subst e
          refine ⟨fun h => ?_, fun _ => h2⟩
          rw [sndR_a] at h; omega
        · rw [sndR_o (by omega) (by rw [ep]; omega), sndR_o (by omega) (by rw [ep]; omega)]
          exact hd j (by omega)
      · have ep : prA (2 * i) = 2 * i + 1 := by unfold prA; rw [if_pos (by omega)]
        rw [sndR_o (by omega) (by rw [ep]; omega)]
        exact hr j (by omega) h4
    · have h2 := of_decide_eq_false h2
      refine mu_next (I := I) (k := m - (i + 1)) ⟨i + 1, _, _, rfl, him, rfl, F0, S, C1, fun j hj => ?_, fun j h3 h4 => hr j (by omega) h4⟩ (hlt him)
      by_cases e : j = i
      · subst e
        refine ⟨fun _ => by omega, fun h => ?_⟩
        rw [hr j (Nat.le_refl _) him] at h; omega
      · exact hd j (by omega)
  have : i = m := by have := of_decide_eq_false h1; omega
  subst this
  clear hlt hkk hz h1 hr k1 k2 k3 k4 k5 k6 k7 k8 ko
  have red0 : ∀ a, a < 2 * i → 0 < room' a → 0 ≤ redC fr to cost pot a := fun a ha h => by
    unfold redC
    rw [p0 _ (tl_lt E.e ha), p0 _ (hd_lt E.e ha), hcost a ha]
    obtain ⟨d1, d2⟩ := hd (a / 2) (by omega)
    by_cases e : a % 2 = 0
    · rw [show 2 * (a / 2) = a by omega] at d1
      unfold cA
      rw [if_pos e]
      have := d1 h; omega
    · rw [show 2 * (a / 2) + 1 = a by omega] at d2
      unfold cA
      rw [if_neg e]
      have := d2 h; omega
  let I2 : Unit → H → Nat → Prop := fun _ q z => ∃ (ow : Own) (room' ex' pot' : Nat → Int) (Dm : Int), z = (posS n ex').toNat ∧ Fm [3, 6, 7] own h ow q ∧ MS ow q bn n i fr to cap b cost room' ex' pot' ∧ B1 ow q 9 b1 [.pointer (some (bk bn))] ∧
    (∀ a, a < 2 * i → 0 < room' a → 0 ≤ redC fr to cost pot' a) ∧ (∀ v, v < n → 0 < ex' v → pot' v = 0) ∧ (∀ v, v < n → ex' v < 0 → pot' v = Dm) ∧ (∀ v, v < n → 0 ≤ pot' v ∧ pot' v ≤ Dm) ∧ 0 ≤ Dm ∧ Dm ≤ n * 1048576
  refine ⟨fun p q => ∃ k, I2 p q k, rk I2, rk_wf I2, ⟨_, ow, room', ex', pot, 0, rfl, F0, S, C1, red0, fun v hv _ => p0 v hv, fun v hv _ => p0 v hv, fun v hv => by rw [p0 v hv]; omega, by omega, by omega⟩, ?_⟩
  clear F0 S C1 red0 hd p0 r0
  intro q hI
  obtain ⟨ow, room', ex', pot', Dm, hz, F0, S, C1, red, pp, pm, pb, D0, D1⟩ := mu_spec hI
  generalize hkk : mu I2 ((), q) = km at *
  clear hI
  refine C1.ldN rfl ((missing_T S.net E.n1).mono ?_)
  rintro _ q2 ⟨⟨t, rfl, ht⟩, x2⟩
  have F0 := F0.trans (Fm.of_ext x2)
  have S := S.ext x2
  have C1 := C1.ext x2
  refine rt_ret ⟨_, rfl, ifP_of (fun h1 => ?_) (fun h1 => ?_)⟩
  rotate_left
  · have no : ¬ ∃ v, v < n ∧ 0 < ex' v := fun h => by rw [ht.2 h] at h1; cases h1
    exact ⟨ow, F0.mono (by simp), .inl ⟨rfl, room', ex', pot', S, S.done E no, red, fun v hv => by have := pb v hv; omega⟩⟩
  have hsome := ht.1 h1
  refine C1.ldN rfl ((cheapest_T S.net E.e hn1 hm1 (fun a ha => S.rm.pos a ha) hcb (fun v hv => by have := pb v hv; omega) red pp).mono ?_)
  rintro _ q3 ⟨bd, bv, dist, via, fnd, rfl, x3, hbd, hbv, sD, sV, J⟩
  have F3 : Fm [] ow q2 (own1 (own1 ow bd 20) bv 20) q3 := Fm.newT x3 hbd hbv
  have kD := S1.of2 (c := bv) (i := 20) sD ow
  have kV : S1 (own1 (own1 ow bd 20) bv 20) q3 20 (slV bv n) (ints n via) := S1.of sV _
  have S := S.fm F3 (by simp)
  have C1 := C1.fm F3 (by simp <;> omega)
  have F0 := F0.trans (F3.mono (by simp))
  generalize own1 (own1 ow bd 20) bv 20 = ow3 at *
  clear F3 sD sV hbd hbv x3 x2 ht
  refine rt_ret ⟨_, _, _, rfl, fun _ q => q = q3 ∧ 0 ≤ fnd, ?_, ?_⟩
  · refine ifP_of (fun h2 => ?_) (fun h2 => ⟨rfl, by have := of_decide_eq_false h2; omega⟩)
    have h2 := of_decide_eq_true h2
    refine ⟨_, C1.ld0 rfl, (reached_T S.net E.e hn1 hm1).mono ?_⟩
    rintro _ q4 ⟨bs, sd, rfl, hbs, x4, sS, hsd⟩
    exact rt_ret (oneP_mk ⟨ow3, (F0.trans (Fm.of_ext x4)).mono (by simp), .inr ⟨bs, sd, rfl, F0.none hbs, sS, S.lack E hsd (J.no h2) hsome⟩⟩)
  rintro q3 ⟨rfl, hf0⟩
  obtain ⟨f, rfl, fn, fx, fb, fm, fr_, y, L, y0, W, yL, tight⟩ := J.yes hf0
  have hjf := J.pos f fn
  let I4 : (Int × Unit) → H → Nat → Prop := fun p q z => ∃ (s : Nat) (pot2 : Nat → Int), p.1 = s ∧ s ≤ n ∧ z = n - s ∧ Fm [7] ow3 q3 ow3 q ∧ MS ow3 q bn n i fr to cap b cost room' ex' pot2 ∧ ∀ v, pot2 v = if v < s then pot' v + mnd dist f v else pot' v
  refine ⟨fun p q => ∃ k, I4 p q k, rk I4, rk_wf I4, ⟨_, 0, pot', rfl, by omega, rfl, Fm.refl, S, fun v => by simp⟩, ?_⟩
  clear S
  intro p q4 hI
  obtain ⟨s, pot2, e1, hs, hz2, F4, S, hp2⟩ := mu_spec hI
  generalize hkk2 : mu I4 ((p, ()), q4) = km2 at *
  change p = (s : Int) at e1
  subst e1
  have hlt2 : s < n → n - (s + 1) < mu I4 (((s : Int), ()), q4) := fun h => by rw [hkk2, hz2]; omega
  clear hI
  have C2 := C1.fm F4 (by simp)
  have kD2 := kD.fm F4 (by simp)
  have kV2 := kV.fm F4 (by simp)
  refine ifP_of (fun h2 => ?_) (fun h2 => ?_)
  · have hsn : s < n := by have := of_decide_eq_true h2; omega
    obtain ⟨vf, vt, vr, vc, vo, vx, vp, outs, k8, k1, k2, k3, k4, k5, k6, k7, ko⟩ := S.net.q
    rw [i64_inc (by omega)]
    refine kD2.rdI hsn (kD2.at (ints_get fn) fun a57 ha57 => ⟨_, C2.ld0 rfl, ptrP_mk ⟨_, k8.ld rfl, k7.rdI hsn ⟨_, ha57, k7.setI hsn fun g F5 k7 => ?_⟩⟩⟩)
    have ps := pb s hsn
    have pf0 := pb f fn
    have hjs := J.pos s hsn
    have e2 : pot2 s = pot' s := by rw [hp2 s, if_neg (by omega)]
    have ew : IntKind.i64.wrap (pot2 s + (if dist f < dist s then dist f else dist s)) = pot' s + mnd dist f s := by
      rw [e2]; exact w64_in (by split <;> omega) (by split <;> omega)
    rw [ew] at k7
    have k1 := k1.fm F5 (by simp <;> omega)
    have k2 := k2.fm F5 (by simp <;> omega)
    have k3 := k3.fm F5 (by simp <;> omega)
    have k4 := k4.fm F5 (by simp <;> omega)
    have k5 := k5.fm F5 (by simp <;> omega)
    have k6 := k6.fm F5 (by simp <;> omega)
    have k8 := k8.fm F5 (by simp <;> omega)
    have ko := fun v hv => (ko v hv).fm F5 (by simp; omega)
    refine mu_next (I := I4) (k := n - (s + 1)) ⟨s + 1, _, rfl, hsn, rfl, F4.trans F5, ⟨⟨vf, vt, vr, vc, vo, vx, vp, outs, k8, k1, k2, k3, k4, k5, k6, k7, ko⟩, S.rm, S.bal⟩, fun v => ?_⟩ (hlt2 hsn)
    by_cases e : v = s
    · subst e; rw [upd_at, if_pos (by omega)]
    · rw [upd_ne e, hp2 v]
      by_cases e2 : v < s
      · rw [if_pos e2, if_pos (by omega)]
      · rw [if_neg e2, if_neg (by omega)]
  have : s = n := by have := of_decide_eq_false h2; omega
  subst this
  have hp3 : ∀ v, v < s → pot2 v = pot' v + mnd dist f v := fun v hv => by rw [hp2 v, if_pos hv]
  have er : ∀ a, a < 2 * i → redC fr to cost pot2 a = redC fr to cost (fun v => pot' v + mnd dist f v) a := fun a ha => by
    unfold redC; rw [hp3 _ (tl_lt E.e ha), hp3 _ (hd_lt E.e ha)]
  have Df := pm f fn fx
  refine ⟨_, C2.ld0 rfl, ?_⟩
  rw [← y0]
  refine (carry_T S.net E.e hm1 S.rm (fun i hi => (E.cp i hi).2) (fun v hv => by have := S.exb E hv; omega) kV2 (by omega) W (by rw [y0]; exact fx) yL).mono ?_
  rintro _ q5 ⟨rfl, x, room2, ex2, X0, X1, X2, F5, N, R, hex, hout, hnew⟩
  have S2 : MS ow3 q5 bn s i fr to cap b cost room2 ex2 pot2 := ⟨N, R, fun v hv => by have := S.bal v hv; have := hout v; omega⟩
  have C3 := C2.fm F5 (by simp)
  have posE := posS_carry (ex := ex') (ex' := ex2) (W.lt L (Nat.le_refl _)) X1 X0 (show ex' (y 0) ≤ - x by omega) hex
  have pos2 := posS_nn (n := s) (ex := ex2)
  have hmb : ∀ v, v < s → 0 ≤ mnd dist f v ∧ mnd dist f v ≤ dist f := fun v hv => by
    have := J.pos v hv
    unfold mnd; split <;> omega
  refine rt_ret ⟨rfl, mu_next (I := I2) (k := (posS s ex2).toNat) ⟨ow3, room2, ex2, pot2, Dm + dist f, rfl, (F0.trans (F4.mono (by simp))).trans (F5.mono (by simp)), S2, C3, fun a ha hr => ?_, fun v hv hx => ?_, fun v hv hx => ?_, fun v hv => ?_, by omega, by omega⟩ (by rw [hkk, hz]; omega)⟩
  · rw [er a ha]
    rcases hnew a ha hr with h | ⟨t, c, h3, h4, h5⟩
    · exact fr_ a ha h
    · obtain ⟨c', g1, g2, g3, g4, g5⟩ := W.arc t h3
      have : c' = c := by omega
      subst this
      rw [h5, redC_pr (hcpr _ g2) g2, tight t h3 _ h4]; omega
  · rw [hp3 v hv]
    have h3 : 0 < ex' v := by
      have := hex v
      by_cases e : v = y 0
      · subst e; rw [if_pos rfl] at this; split at this <;> omega
      · rw [if_neg e] at this; split at this <;> omega
    rw [pp v hv h3]
    have := J.src v hv h3
    have := hmb v hv
    unfold mnd at *
    split <;> omega
  · rw [hp3 v hv]
    have h3 : ex' v < 0 := by
      have := hex v
      by_cases e : v = y L
      · subst e; rw [if_pos rfl] at this; split at this <;> omega
      · rw [if_neg e] at this; split at this <;> omega
    rw [pm v hv h3]
    have := fm v hv h3
    unfold mnd
    split <;> omega
  · rw [hp3 v hv]
    have := pb v hv
    have := hmb v hv
    omega
end

end Go.Proofs.YtdcamadeblojdaaGreat

namespace Go.Proofs.YtdcamadeblojdaaGreat
open Go
open Classical
set_option linter.unusedVariables false
set_option linter.unusedSimpArgs false

theorem sub_dec {a b : Nat} (h : b < a) : a - (b + 1) < a - b := by omega
end Go.Proofs.YtdcamadeblojdaaGreat

namespace Go.Proofs.YtdcamadeblojdaaGreat
open Go
set_option linter.unusedVariables false
set_option linter.unusedSimpArgs false

section
variable {h : H} {w : List Value} {n m l : Nat} {es : Nat → Ed} {sv : Value} {bf : Nat → Int}
theorem mnet_T (G : GrA h w n m es) (g : Gd n m es) (Z : RS h sv (ints n bf)) : T Tryz.prog F.mincost_newNet [.agg ⟨w⟩, sv] h fun r h' =>
    ∃ bn own, r = .ret (.pointer (some (bk bn))) ∧ Bs h own h' ∧ MN own h' bn n m (frE es) (toE es) (room0 (cpE es)) (cA (ckE es)) bf (fun _ => 0) := by
  have n1 := g.n1
  have m1 := g.m1
  refine E_mincost_newNet ?_
  unfold B_mincost_newNet
  refine new_bl ?_
  intro b1 g1 hb1 x1 B
  obtain ⟨a, c, rfl, hc⟩ := G
  have Z := Z.ext x1
  have bs : Bs h (own1 (fun _ => 0) b1 9) g1 := Bs.start.new x1 hb1
  have k9 : B1 (own1 (fun _ => 0) b1 9) g1 9 b1 [.int .i64 n, .slice a m c] := B1.new B
  generalize own1 (fun _ => 0) b1 9 = own at *
  refine ⟨_, k9.ld0 rfl, _, k9.ld0 rfl, new_put ?_⟩
  intro b5 g6 hb5 x5 h5
  have k6 : S1 (own1 own b5 6) g6 6 (.slice (some (bk b5)) 0 0) [] := .inr ⟨b5, own1_at, 0, 2, [], rfl, h5, rfl⟩
  have bs := bs.nw (j := 6) x5 hb5
  have k9 := k9.nw (j := 6) x5 hb5
  have Z := Z.ext x5
  generalize own1 own b5 6 = own at *
  refine k6.catR Z (by
    intro v hv
    unfold ints at hv
    obtain ⟨j, _, rfl⟩ := List.mem_map.1 hv
    rfl) (by omega) (by rw [ints_length]; simp; omega) ?_
  intro s7 own2 g8 F1 k6
  rw [List.nil_append] at k6
  have k9' := k9.fm F1 (by simp)
  have bs := bs.fm F1 (by simp)
  refine ⟨sameAt_b1 (j := 0) k9 k9', sameAt_b1 (j := 0) k9 k9', mk_S1 5 (by omega) (by omega) ?_⟩
  have k9 := k9'
  clear k9'
  intro b9 g10 hb9 x9 S9
  have k5 := S9 own2
  have bs := bs.nw (j := 5) x9 hb9
  have k9 := k9.nw (j := 5) x9 hb9
  have k6 := k6.nw (j := 5) x9 hb9
  generalize own1 own2 b9 5 = own at *
  clear S9
  refine mk_ints 7 (by omega) (by omega) ?_
  intro b11 g12 hb11 x11 S11
  have k7 := S11 own
  have bs := bs.nw (j := 7) x11 hb11
  have k9 := k9.nw (j := 7) x11 hb11
  have k6 := k6.nw (j := 7) x11 hb11
  have k5 := k5.nw (j := 7) x11 hb11
  generalize own1 own b11 7 = own at *
  clear S11
  simp only [Int.toNat_natCast]
  refine oneP_slc k6.isS (new_bl ?_)
  intro b13 g14 hb13 x13 B13
  have k8 : B1 (own1 own b13 8) g14 8 b13 _ := B1.new B13
  have bs := bs.nw (j := 8) x13 hb13
  have k9 := k9.nw (j := 8) x13 hb13
  have k6 := k6.nw (j := 8) x13 hb13
  have k5 := k5.nw (j := 8) x13 hb13
  have k7 := k7.nw (j := 8) x13 hb13
  generalize own1 own b13 8 = own at *
  refine ⟨_, k9.ld rfl, slcP_mk ?_⟩
  let I : (Int × Unit) → H → Nat → Prop := fun p q k => ∃ (i : Nat) (own : Own) (vf vt vr vc : Value) (outs : Nat → Value), p.1 = i ∧ i ≤ m ∧ k = m - i ∧ Bs h own q ∧
    B1 own q 9 b1 [.int .i64 n, .slice a m c] ∧
    B1 own q 8 b13 [vf, vt, vr, vc, .slice (some (bk b9)) n n, s7, .slice (some (bk b11)) n n] ∧ S1 own q 1 vf (ints (2 * i) fun a => (tlA (frE es) (toE es) a : Nat)) ∧ S1 own q 2 vt (ints (2 * i) fun a => (hdA (frE es) (toE es) a : Nat)) ∧
    S1 own q 3 vr (ints (2 * i) (room0 (cpE es))) ∧ S1 own q 4 vc (ints (2 * i) (cA (ckE es))) ∧ S1 own q 5 (.slice (some (bk b9)) n n) (va n outs) ∧ S1 own q 6 s7 (ints n bf) ∧ S1 own q 7 (.slice (some (bk b11)) n n) (ints n fun _ => 0) ∧
    ∀ v, v < n → S1 own q (40 + v) (outs v) (natV (arcsL (frE es) (toE es) i v))
  refine ⟨fun s g2 => ∃ k, I s g2 k, rk I, rk_wf I, ⟨_, 0, own, _, _, _, _, _, rfl, by omega, rfl, bs, k9, k8, S1.nil, S1.nil, S1.nil, S1.nil, k5, k6, k7, fun v hv => S1.nil⟩, ?_⟩
  clear bs k9 k8 k5 k6 k7
  intro p q hI
  obtain ⟨i, own, vf, vt, vr, vc, outs, e1, hi, hk, bs, k9, k8, k1, k2, k3, k4, k5, k6, k7, ko⟩ := mu_spec hI
  generalize hkk : mu I ((p, ()), q) = k at *
  change p = (i : Int) at e1
  subst e1
  refine ifP_of (fun h1 => ?_) (fun h1 => ?_)
  · have him : i < m := by have := of_decide_eq_true h1; omega
    obtain ⟨ad, rfl, hcc⟩ := hc i him
    have ef := g.fr him
    have et := g.to him
    refine ⟨by omega, by omega, ?_⟩
    rw [Int.toNat_natCast]
    refine ⟨(es i).vs, rfl, fun j v hj => bs.ext.cell (hcc j v hj), ?_⟩
    refine new_bl_st rfl rfl (ed_one _) ?_
    intro b18 g20 hb18 x20 B18
    have kE : B1 (own1 own b18 10) g20 10 b18 (es i).vs := B1.new B18
    have bs := bs.nw (j := 10) x20 hb18
    have k9 := k9.nw (j := 10) x20 hb18
    have k8 := k8.nw (j := 10) x20 hb18
    have k1 := k1.nw (j := 10) x20 hb18
    have k2 := k2.nw (j := 10) x20 hb18
    have k3 := k3.nw (j := 10) x20 hb18
    have k4 := k4.nw (j := 10) x20 hb18
    have k5 := k5.nw (j := 10) x20 hb18
    have k6 := k6.nw (j := 10) x20 hb18
    have k7 := k7.nw (j := 10) x20 hb18
    have ko := fun v hv => (ko v hv).nw (j := 10) x20 hb18
    generalize own1 own b18 10 = own at *
    refine ⟨_, k8.ld rfl, k2.len (ints_length _ _) fun _ _ => ⟨_, k8.ld0 rfl, _, kE.ld0 rfl, _, kE.ld rfl, ?_⟩⟩
    -- from
    refine k1.push rfl (by simp [Value.oneCell']) (by simp) (by omega) (by rw [ints_length]; omega) ?_
    intro _ _ vf' own2 g31 _ _ F2 k1
    refine oneP_slc k1.isS ?_
    have bs := bs.fm F2 (by simp <;> omega)
    have k9 := k9.fm F2 (by simp <;> omega)
    have kE := kE.fm F2 (by simp <;> omega)
    have k8 := k8.fm F2 (by simp <;> omega)
    have k2 := k2.fm F2 (by simp <;> omega)
    have k3 := k3.fm F2 (by simp <;> omega)
    have k4 := k4.fm F2 (by simp <;> omega)
    have k5 := k5.fm F2 (by simp <;> omega)
    have k6 := k6.fm F2 (by simp <;> omega)
    have k7 := k7.fm F2 (by simp <;> omega)
    have ko := fun v hv => (ko v hv).fm F2 (by simp <;> omega)
    refine k8.st (by simp) ?_
    intro g32 F3 k8
    simp only [List.set] at k8
    have bs := bs.fm F3 (by simp <;> omega)
    have k9 := k9.fm F3 (by simp <;> omega)
    have kE := kE.fm F3 (by simp <;> omega)
    have k1 := k1.fm F3 (by simp <;> omega)
    have k2 := k2.fm F3 (by simp <;> omega)
    have k3 := k3.fm F3 (by simp <;> omega)
    have k4 := k4.fm F3 (by simp <;> omega)
    have k5 := k5.fm F3 (by simp <;> omega)
    have k6 := k6.fm F3 (by simp <;> omega)
    have k7 := k7.fm F3 (by simp <;> omega)
    have ko := fun v hv => (ko v hv).fm F3 (by simp <;> omega)
    rw [ef.1, et.1, ints_snoc2 (by rw [tlA_0]) (by rw [tlA_1])] at k1
    -- to
    refine ⟨_, k8.ld rfl, _, kE.ld rfl, _, kE.ld0 rfl, ?_⟩
    refine k2.push rfl (by simp [Value.oneCell']) (by simp) (by omega) (by rw [ints_length]; omega) ?_
    intro _ _ vt' own3 g38 _ _ F2 k2
    refine oneP_slc k2.isS ?_
    have bs := bs.fm F2 (by simp <;> omega)
    have k9 := k9.fm F2 (by simp <;> omega)
    have kE := kE.fm F2 (by simp <;> omega)
    have k8 := k8.fm F2 (by simp <;> omega)
    have k1 := k1.fm F2 (by simp <;> omega)
    have k3 := k3.fm F2 (by simp <;> omega)
    have k4 := k4.fm F2 (by simp <;> omega)
    have k5 := k5.fm F2 (by simp <;> omega)
    have k6 := k6.fm F2 (by simp <;> omega)
    have k7 := k7.fm F2 (by simp <;> omega)
    have ko := fun v hv => (ko v hv).fm F2 (by simp <;> omega)
    refine k8.st (by simp) ?_
    intro g39 F3 k8
    simp only [List.set] at k8
    have bs := bs.fm F3 (by simp <;> omega)
    have k9 := k9.fm F3 (by simp <;> omega)
    have kE := kE.fm F3 (by simp <;> omega)
    have k1 := k1.fm F3 (by simp <;> omega)
    have k2 := k2.fm F3 (by simp <;> omega)
    have k3 := k3.fm F3 (by simp <;> omega)
    have k4 := k4.fm F3 (by simp <;> omega)
    have k5 := k5.fm F3 (by simp <;> omega)
    have k6 := k6.fm F3 (by simp <;> omega)
    have k7 := k7.fm F3 (by simp <;> omega)
    have ko := fun v hv => (ko v hv).fm F3 (by simp <;> omega)
    rw [ef.1, et.1, ints_snoc2 (by rw [hdA_0]) (by rw [hdA_1])] at k2
    -- room
    refine ⟨_, k8.ld rfl, _, kE.ld rfl, ?_⟩
    refine k3.push rfl (by simp [Value.oneCell']) (by simp) (by omega) (by rw [ints_length]; omega) ?_
    intro _ _ vr' own4 g40 _ _ F2 k3
    refine oneP_slc k3.isS ?_
    have bs := bs.fm F2 (by simp <;> omega)
    have k9 := k9.fm F2 (by simp <;> omega)
    have kE := kE.fm F2 (by simp <;> omega)
    have k8 := k8.fm F2 (by simp <;> omega)
    have k1 := k1.fm F2 (by simp <;> omega)
    have k2 := k2.fm F2 (by simp <;> omega)
    have k4 := k4.fm F2 (by simp <;> omega)
    have k5 := k5.fm F2 (by simp <;> omega)
    have k6 := k6.fm F2 (by simp <;> omega)
    have k7 := k7.fm F2 (by simp <;> omega)
    have ko := fun v hv => (ko v hv).fm F2 (by simp <;> omega)
    refine k8.st (by simp) ?_
    intro g41 F3 k8
    simp only [List.set] at k8
    have bs := bs.fm F3 (by simp <;> omega)
    have k9 := k9.fm F3 (by simp <;> omega)
    have kE := kE.fm F3 (by simp <;> omega)
    have k1 := k1.fm F3 (by simp <;> omega)
    have k2 := k2.fm F3 (by simp <;> omega)
    have k3 := k3.fm F3 (by simp <;> omega)
    have k4 := k4.fm F3 (by simp <;> omega)
    have k5 := k5.fm F3 (by simp <;> omega)
    have k6 := k6.fm F3 (by simp <;> omega)
    have k7 := k7.fm F3 (by simp <;> omega)
    have ko := fun v hv => (ko v hv).fm F3 (by simp <;> omega)
    rw [ints_snoc2 (by unfold room0; rw [if_pos (by omega), show 2 * i / 2 = i by omega]) (by unfold room0; rw [if_neg (by omega)])] at k3
    -- cost
    have kb := g.k i him
    have ew : IntKind.i64.wrap (0 - (es i).k) = -(es i).k := by rw [show (0 : Int) - (es i).k = -(es i).k by omega]; exact w64_in (by omega) (by omega)
    refine ⟨_, k8.ld rfl, _, kE.ld rfl, _, kE.ld rfl, ?_⟩
    show newP _ (.cells ⟨[.int .i64 (es i).k, .int .i64 (IntKind.i64.wrap (0 - (es i).k))]⟩ _ _) _
    rw [ew]
    refine k4.push rfl (by simp [Value.oneCell']) (by simp) (by omega) (by rw [ints_length]; omega) ?_
    intro _ _ vc' own5 g42 _ _ F2 k4
    refine oneP_slc k4.isS ?_
    have bs := bs.fm F2 (by simp <;> omega)
    have k9 := k9.fm F2 (by simp <;> omega)
    have kE := kE.fm F2 (by simp <;> omega)
    have k8 := k8.fm F2 (by simp <;> omega)
    have k1 := k1.fm F2 (by simp <;> omega)
    have k2 := k2.fm F2 (by simp <;> omega)
    have k3 := k3.fm F2 (by simp <;> omega)
    have k5 := k5.fm F2 (by simp <;> omega)
    have k6 := k6.fm F2 (by simp <;> omega)
    have k7 := k7.fm F2 (by simp <;> omega)
    have ko := fun v hv => (ko v hv).fm F2 (by simp <;> omega)
    refine k8.st (by simp) ?_
    intro g43 F3 k8
    simp only [List.set] at k8
    have bs := bs.fm F3 (by simp <;> omega)
    have k9 := k9.fm F3 (by simp <;> omega)
    have kE := kE.fm F3 (by simp <;> omega)
    have k1 := k1.fm F3 (by simp <;> omega)
    have k2 := k2.fm F3 (by simp <;> omega)
    have k3 := k3.fm F3 (by simp <;> omega)
    have k4 := k4.fm F3 (by simp <;> omega)
    have k5 := k5.fm F3 (by simp <;> omega)
    have k6 := k6.fm F3 (by simp <;> omega)
    have k7 := k7.fm F3 (by simp <;> omega)
    have ko := fun v hv => (ko v hv).fm F3 (by simp <;> omega)
    rw [ints_snoc2 (by rw [cA_0]) (by rw [cA_1])] at k4
    -- out of its start
    refine ⟨_, k8.ld rfl, _, kE.ld0 rfl, _, k8.ld rfl, _, kE.ld0 rfl, ?_⟩
    rw [ef.1]
    refine k5.rdV ef.2 ?_
    have lf := arcsL_length (fr := frE es) (to := toE es) (v := frE es i) (i := i)
    refine (ko _ ef.2).push rfl (by simp [Value.oneCell']) (by simp) (by omega) (by rw [natV_length]; omega) ?_
    intro _ g47 so own6 g49 _ x47 F6 kn
    have kE' := kE
    have k8' := k8
    have bs := bs.fm F6 (by simp <;> omega)
    have k9 := k9.fm F6 (by simp <;> omega)
    have kE := kE.fm F6 (by simp <;> omega)
    have k8 := k8.fm F6 (by simp <;> omega)
    have k1 := k1.fm F6 (by simp <;> omega)
    have k2 := k2.fm F6 (by simp <;> omega)
    have k3 := k3.fm F6 (by simp <;> omega)
    have k4 := k4.fm F6 (by simp <;> omega)
    have k5 := k5.fm F6 (by simp <;> omega)
    have k6 := k6.fm F6 (by simp <;> omega)
    have k7 := k7.fm F6 (by simp <;> omega)
    have ko := fun v hv (hne : v ≠ frE es i) => (ko v hv).fm F6 (by simp <;> omega)
    refine ⟨sameAt_b1 (kE'.ext x47) kE, sameAt_b1 (k8'.ext x47) k8, ?_⟩
    clear kE' k8'
    refine k5.setO ef.2 kn.isS ?_
    intro g51 F7 k5
    have bs := bs.fm F7 (by simp <;> omega)
    have k9 := k9.fm F7 (by simp <;> omega)
    have kE := kE.fm F7 (by simp <;> omega)
    have k8 := k8.fm F7 (by simp <;> omega)
    have k1 := k1.fm F7 (by simp <;> omega)
    have k2 := k2.fm F7 (by simp <;> omega)
    have k3 := k3.fm F7 (by simp <;> omega)
    have k4 := k4.fm F7 (by simp <;> omega)
    have k6 := k6.fm F7 (by simp <;> omega)
    have k7 := k7.fm F7 (by simp <;> omega)
    have kn := kn.fm F7 (by simp <;> omega)
    have ko' : ∀ v, v < n → S1 own6 g51 (40 + v) (updV outs (frE es i) so v) (natV (arcsL (frE es) (toE es) i v ++ (if frE es i = v then [2 * i] else []))) := by
      intro v hv
      unfold updV
      by_cases e : v = frE es i
      · rw [if_pos e, if_pos e.symm, natV_append, e]; exact kn
      · rw [if_neg e, if_neg (fun h => e h.symm), List.append_nil]
        exact ((ko v hv e).fm F7 (by simp <;> omega))
    clear ko
    have ko := ko'
    clear ko'
    -- out of its end
    refine ⟨_, k8.ld rfl, _, kE.ld rfl, _, k8.ld rfl, _, kE.ld rfl, ?_⟩
    rw [et.1]
    refine k5.rdV et.2 ?_
    have lf := arcsL_length (fr := frE es) (to := toE es) (v := toE es i) (i := i)
    refine (ko _ et.2).push rfl (by simp [Value.oneCell']) (by simp) (by omega) (by rw [natV_length, List.length_append]; split <;> simp <;> omega) ?_
    intro _ g59 so2 own7 g61 _ x59 F8 kn
    have kE' := kE
    have k8' := k8
    have bs := bs.fm F8 (by simp <;> omega)
    have k9 := k9.fm F8 (by simp <;> omega)
    have kE := kE.fm F8 (by simp <;> omega)
    have k8 := k8.fm F8 (by simp <;> omega)
    have k1 := k1.fm F8 (by simp <;> omega)
    have k2 := k2.fm F8 (by simp <;> omega)
    have k3 := k3.fm F8 (by simp <;> omega)
    have k4 := k4.fm F8 (by simp <;> omega)
    have k5 := k5.fm F8 (by simp <;> omega)
    have k6 := k6.fm F8 (by simp <;> omega)
    have k7 := k7.fm F8 (by simp <;> omega)
    have ko := fun v hv (hne : v ≠ toE es i) => (ko v hv).fm F8 (by simp <;> omega)
    refine ⟨sameAt_b1 (kE'.ext x59) kE, sameAt_b1 (k8'.ext x59) k8, ?_⟩
    refine k5.setO et.2 kn.isS ?_
    intro g63 F9 k5
    have bs := bs.fm F9 (by simp <;> omega)
    have k9 := k9.fm F9 (by simp <;> omega)
    have k8 := k8.fm F9 (by simp <;> omega)
    have k1 := k1.fm F9 (by simp <;> omega)
    have k2 := k2.fm F9 (by simp <;> omega)
    have k3 := k3.fm F9 (by simp <;> omega)
    have k4 := k4.fm F9 (by simp <;> omega)
    have k6 := k6.fm F9 (by simp <;> omega)
    have k7 := k7.fm F9 (by simp <;> omega)
    have kn := kn.fm F9 (by simp <;> omega)
    rw [i64_inc (by omega)]
    refine mu_next (I := I) (k := m - (i + 1)) ⟨i + 1, own7, vf', vt', vr', vc', _, rfl, him, rfl, bs, k9, k8, k1, k2, k3, k4, k5, k6, k7, ?_⟩ (by rw [hkk, hk]; omega)
    intro v hv
    unfold updV arcsL
    rw [← List.append_assoc, natV_append]
    by_cases e : v = toE es i
    · rw [if_pos e, if_pos e.symm, e]
      have e2 : natV [2 * i + 1] = [.int .i64 (IntKind.i64.wrap (((2 * i : Nat) : Int) + 1))] := by rw [i64_inc (by omega)]; rfl
      rw [e2]; exact kn
    · rw [if_neg e, if_neg (c := toE es i = v) (fun h => e h.symm)]
      have := (ko v hv e).fm F9 (by simp <;> omega)
      simpa [natV, updV] using this
  · have : i = m := by have := of_decide_eq_false h1; omega
    subst this
    exact ⟨b13, own, rfl, bs, vf, vt, vr, vc, _, s7, _, outs, k8, k1, k2, k3, k4, k5, k6, k7, ko⟩
/-- Are they supplies? -/
def supOK (n : Int) (l : Nat) (bf : Nat → Int) : Prop := n = l ∧ (∀ v, v < l → -1048576 ≤ bf v ∧ bf v ≤ 1048576) ∧ sumN l bf = 0
theorem sumN_bd2 {f : Nat → Int} : ∀ {k : Nat}, (∀ i, i < k → -1048576 ≤ f i ∧ f i ≤ 1048576) → -(k * 1048576 : Int) ≤ sumN k f ∧ sumN k f ≤ k * 1048576
  | 0, _ => ⟨by show -((0 : Nat) * 1048576 : Int) ≤ 0; omega, by show (0 : Int) ≤ (0 : Nat) * 1048576; omega⟩
  | k + 1, h => by
    have ih := sumN_bd2 (f := f) (k := k) fun i hi => h i (by omega)
    have := h k (by omega)
    have e : sumN (k + 1) f = sumN k f + f k := rfl
    rw [e]
    have e2 : (((k + 1 : Nat) : Int) * 1048576) = k * 1048576 + 1048576 := by omega
    rw [e2]; omega
theorem supplied_T {n : Int} (G : GrA h w n m es) (hl : n ≤ 1024) (Z : RS h sv (ints l bf)) : T Tryz.prog F.mincost_supplied [.agg ⟨w⟩, sv] h fun r h' => Ext h h' ∧ ((supOK n l bf ∧ r = .ret (.int .i64 0)) ∨ (¬ supOK n l bf ∧ r = .ret (.int .i64 130))) := by
  refine E_mincost_supplied ?_
  unfold B_mincost_supplied
  refine new_bl ?_
  intro b1 q1 hb1 x1 B
  obtain ⟨a, c, rfl, hc⟩ := G
  have Z := Z.ext x1
  refine Z.len (ints_length _ _) fun _ _ => ⟨_, B.ld rfl, ifP_of (fun h1 => ?_) (fun h1 => ?_)⟩
  · refine ⟨x1, .inr ⟨fun h => ?_, rfl⟩⟩
    have := h.1
    simp at h1; omega
  have hln : n = l := by simp at h1; omega
  refine Z.len (ints_length _ _) fun _ _ => ?_
  let I : (Int × Int × Unit) → H → Nat → Prop := fun p q z => ∃ j : Nat, p.2.1 = j ∧ j ≤ l ∧ z = l - j ∧ q = q1 ∧ p.1 = sumN j bf ∧ ∀ v, v < j → -1048576 ≤ bf v ∧ bf v ≤ 1048576
  refine ⟨fun p q => ∃ k, I p q k, rk I, rk_wf I, ⟨_, 0, rfl, by omega, rfl, rfl, rfl, fun v hv => by omega⟩, ?_⟩
  intro sm p q hI
  obtain ⟨j, e1, hj, hz, e2, e3, hb⟩ := mu_spec hI
  generalize hkk : mu I ((sm, p, ()), q) = km at *
  change p = (j : Int) at e1
  change sm = sumN j bf at e3
  subst e1 e2 e3
  have hlt : j < l → l - (j + 1) < mu I ((sumN j bf, (j : Int), ()), q) := fun h => by rw [hkk, hz]; exact sub_dec h
  clear hI
  refine ifP_of (fun h2 => ?_) (fun h2 => ?_)
  · have hjl : j < l := by have := of_decide_eq_true h2; omega
    refine Z.rdI hjl (ifP_of (fun h3 => ?_) (fun h3 => ifP_of (fun h4 => ?_) (fun h4 => ?_)))
    · exact ⟨x1, .inr ⟨fun h => by have := h.2.1 j hjl; have := of_decide_eq_true h3; omega, rfl⟩⟩
    · exact ⟨x1, .inr ⟨fun h => by have := h.2.1 j hjl; have := of_decide_eq_true h4; omega, rfl⟩⟩
    · have h3 := of_decide_eq_false h3
      have h4 := of_decide_eq_false h4
      have sb := sumN_bd2 hb
      have ew : IntKind.i64.wrap (sumN j bf + bf j) = sumN (j + 1) bf := w64_in (by omega) (by omega)
      rw [ew, i64_inc (by omega)]
      refine mu_next (I := I) (k := l - (j + 1)) ⟨j + 1, rfl, hjl, rfl, rfl, rfl, fun v hv => ?_⟩ (hlt hjl)
      by_cases e : v = j
      · subst e; omega
      · exact hb v (by omega)
  · have : j = l := by have := of_decide_eq_false h2; omega
    subst this
    refine ifP_of (fun h3 => ?_) (fun h3 => ?_)
    · exact ⟨x1, .inr ⟨fun h => by have := h.2.2; simp at h3; omega, rfl⟩⟩
    · exact ⟨x1, .inl ⟨⟨hln, hb, by simp at h3; omega⟩, rfl⟩⟩
end

end Go.Proofs.YtdcamadeblojdaaGreat

namespace Go.Proofs.YtdcamadeblojdaaGreat
open Go
set_option linter.unusedVariables false
set_option linter.unusedSimpArgs false
set_option maxRecDepth 100000

def fstOf : Code → Code
  | .seq a _ => a
  | _ => .skip
def appC : List Code → Code → Code
  | [], X => X
  | c :: cs, X => .seq c (appC cs X)
def slotsP (fr : Fr) : List Nat → (List Value → Prop) → Prop
  | [], K => K []
  | t :: r, K => on (Fr.get fr t) fun v => slotsP fr r fun vs => K (v :: vs)
theorem on_some {α : Type} {x : Option α} {K : α → Prop} (h : on x K) : ∃ v, x = some v ∧ K v := by
  cases x with
  | none => exact h.elim
  | some v => exact ⟨v, rfl, h⟩
theorem FrOK.cons {fr : Fr} {a : Act} {t : Nat} {v : Value} (h : FrOK fr a) (hv : a.tmps[t]? = some v) : FrOK ((t, v) :: fr) a := by
  intro s q hq
  simp only [Fr.get] at hq
  cases e : Nat.beq t s with
  | true =>
    have := Nat.eq_of_beq_eq_true e
    subst this
    rw [e, cond_true] at hq
    rw [hv]; exact hq
  | false =>
    rw [e, cond_false] at hq
    exact h s q hq
/-- A prefix of the code, walked at once. -/
theorem appC_sound {P : Program} {n : Nat} {A : An} (hA : ∀ i, A.ct i = none) {X c : Code} {ds : List Deferred} {h0 : H} {w0 : World} {W : List Nat} {a0 : Act} {Q : Exit → Act → World → Prop} {Q0 : Ex → Fr → H → Prop}
    (hQ : ∀ e fr' h' a' w', Q0 e fr' h' → Rel n ds h0 w0 W a0 fr' h' a' w' → Exit.then (X.wp P Q) Q (cex e) a' w') : ∀ (cs : List Code) (fr : Fr) (h : H) (a : Act) (w : World), cpt P n A (appC cs c) fr h Q0 →
    (∀ t ∈ writesOf (appC cs c), has t W = true) → Rel n ds h0 w0 W a0 fr h a w → (appC cs (.seq c X)).wp P Q a w := by
  intro cs
  induction cs with
  | nil =>
    intro fr h a w hc hW rel
    exact wp_seq (cpt_sound c fr h Q0 hc ds h0 w0 W a0 a w _ hW rel hQ)
  | cons d cs ih =>
    intro fr h a w hc hW rel
    refine wp_seq ?_
    have hc2 : cpt P n A d fr h fun e fr h => match e with
        | .normal => cpt P n A (appC cs c) fr h Q0
        | e => Q0 e fr h := by
      have := hc
      unfold appC cpt at this
      rw [hA] at this
      exact this
    have hW1 : ∀ t ∈ writesOf d, has t W = true := fun t ht => hW t (by unfold appC writesOf; exact List.mem_append.2 (.inl ht))
    have hW2 : ∀ t ∈ writesOf (appC cs c), has t W = true := fun t ht => hW t (by show t ∈ writesOf (.seq d (appC cs c)); unfold writesOf; exact List.mem_append.2 (.inr ht))
    refine cpt_sound d fr h _ hc2 ds h0 w0 W a0 a w _ hW1 rel ?_
    intro e fr' h' a' w' hq rel'
    cases e with
    | normal => exact ih fr' h' a' w' hq hW2 rel'
    | exit i => exact hQ (.exit i) fr' h' a' w' hq rel'
    | ret => exact hQ .ret fr' h' a' w' hq rel'
    | panic v => exact hQ (.panic v) fr' h' a' w' hq rel'

def A_SolveA : An := ⟨lkA [(0, rng 5), (1, rng 4), (2, rng 3), (3, ⟨[1, 0, 2, 3, 4, 5, 6], lkN [(3, [2]), (4, [2]), (5, [2])]⟩), (4, rng 4), (5, rng 2), (6, rng 6), (7, rng 4), (8, rng 1), (9, rng 1), (10, rng 5), (11, rng 2), (12, rng 4), (13, rng 2), (14, rng 4), (15, rng 2), (16, rng 5)], lkL [], lkC []⟩
def BSolveA (p0_g : List Value) (p1_supply : Value) (p2_kind : Int) (N : List Value → H → Prop) (R : Res → H → Prop) (h : H) : Prop :=
  newP h (.cells ⟨p0_g⟩ 24 (0, 0)) fun b1 h2 =>
  newP h2 (.cells ⟨[.slice none 0 0, .slice none 0 0, .slice none 0 0]⟩ 34 (0, 0)) fun b3 h4 =>
  newP h4 (.cells ⟨[.int .i64 0]⟩ 2 (0, 0)) fun b5 h6 =>
  newP h6 (.cells ⟨[.slice none 0 0]⟩ 35 (0, 0)) fun b7 h8 =>
  newP h8 (.cells ⟨[.int .i64 0]⟩ 29 (0, 0)) fun b9 h10 =>
  ldN h10 (bk b1) 2 fun x11 =>
  T Tryz.prog F.graph_Check [.agg ⟨x11⟩] h10 (rt (fun v12 h13 =>
  ∃ r14 : List Value, r14.length = 2 ∧ v12 = .agg ⟨r14⟩ ∧
  newP h13 (.cells ⟨[.int .i64 0, .int .i64 0]⟩ 50 (0, 0)) fun b15 h16 =>
  stN h16 (bk b15) r14 2 fun h17 =>
  ldI h17 ((bk b15).add 0) .i64 fun x18 =>
  ifP (!decide (x18 = 0)) (ldN h17 (bk b3) 3 fun x19 =>
  ldI h17 ((bk b15).add 0) .i64 fun x20 =>
  stN h17 (bk b3) x19 3 fun h21 =>
  (sameAt 2 ((bk b15).add 0) h17 h21) ∧
  stC h21 (bk b5) (.int .i64 0) fun h22 =>
  (sameAt 2 ((bk b15).add 0) h21 h22) ∧
  stC h22 (bk b7) (.slice none 0 0) fun h23 =>
  (sameAt 2 ((bk b15).add 0) h22 h23) ∧
  stC h23 (bk b9) (.int .i64 x20) fun h24 =>
  ldN h24 (bk b3) 3 fun x25 =>
  ldI h24 (bk b5) .i64 fun x26 =>
  ldV h24 (bk b7) fun x27 =>
  ldI h24 (bk b9) .i64 fun x28 =>
  R (.ret (.tuple ⟨[.agg ⟨x25⟩, .int .i64 x26, x27, .int .i64 x28]⟩)) h24)
  (ldN h17 (bk b1) 2 fun x29 =>
  T Tryz.prog F.mincost_supplied [.agg ⟨x29⟩, p1_supply] h17 (rt (fun v30 h31 =>
  ∃ r32, v30 = .int .i64 r32 ∧
  ifP (!decide (r32 = 0)) (ldN h31 (bk b3) 3 fun x33 =>
  stN h31 (bk b3) x33 3 fun h34 =>
  stC h34 (bk b5) (.int .i64 0) fun h35 =>
  stC h35 (bk b7) (.slice none 0 0) fun h36 =>
  stC h36 (bk b9) (.int .i64 r32) fun h37 =>
  ldN h37 (bk b3) 3 fun x38 =>
  ldI h37 (bk b5) .i64 fun x39 =>
  ldV h37 (bk b7) fun x40 =>
  ldI h37 (bk b9) .i64 fun x41 =>
  R (.ret (.tuple ⟨[.agg ⟨x38⟩, .int .i64 x39, x40, .int .i64 x41]⟩)) h37)
  (ldN h31 (bk b1) 2 fun x42 =>
  T Tryz.prog F.mincost_newNet [.agg ⟨x42⟩, p1_supply] h31 (rt (fun v43 h44 =>
  ifP (decide (p2_kind = 1)) (oneP v43 (N [p1_supply, .pointer (some (bk b1)), .pointer (some (bk b3)), .pointer (some (bk b5)), .pointer (some (bk b7)), .pointer (some (bk b9)), v43, .iface 67 (.agg ⟨[v43]⟩)] h44))
  (ifP (decide (p2_kind = 2)) (oneP v43 (N [p1_supply, .pointer (some (bk b1)), .pointer (some (bk b3)), .pointer (some (bk b5)), .pointer (some (bk b7)), .pointer (some (bk b9)), v43, .iface 68 (.agg ⟨[v43]⟩)] h44))
  (ifP (decide (p2_kind = 3)) (oneP v43 (newP h44 (.cells ⟨[v43, .int .i64 0]⟩ 71 (0, 0)) fun b45 h46 =>
  N [p1_supply, .pointer (some (bk b1)), .pointer (some (bk b3)), .pointer (some (bk b5)), .pointer (some (bk b7)), .pointer (some (bk b9)), v43, .iface 69 (.pointer (some (bk b45)))] h46))
  (ldN h44 (bk b3) 3 fun x47 =>
  stN h44 (bk b3) x47 3 fun h48 =>
  stC h48 (bk b5) (.int .i64 0) fun h49 =>
  stC h49 (bk b7) (.slice none 0 0) fun h50 =>
  stC h50 (bk b9) (.int .i64 50) fun h51 =>
  ldN h51 (bk b3) 3 fun x52 =>
  ldI h51 (bk b5) .i64 fun x53 =>
  ldV h51 (bk b7) fun x54 =>
  ldI h51 (bk b9) .i64 fun x55 =>
  R (.ret (.tuple ⟨[.agg ⟨x52⟩, .int .i64 x53, x54, .int .i64 x55]⟩)) h51)))) (fun v56 h57 => R (.pan v56) h57)))) (fun v58 h59 => R (.pan v58) h59)))) (fun v60 h61 => R (.pan v60) h61))
noncomputable abbrev cSolve : Code := bodyOf Tryz.f8
noncomputable abbrev lSolve : List Code := [fstOf cSolve, fstOf (restOf cSolve), fstOf (restOf (restOf cSolve)), fstOf (restOf (restOf (restOf cSolve))), fstOf (restOf (restOf (restOf (restOf cSolve))))]
noncomputable abbrev xSolve : Code := fstOf (restOf (restOf (restOf (restOf (restOf cSolve)))))
noncomputable abbrev dSolve : Code := fstOf (restOf (restOf (restOf (restOf (restOf (restOf cSolve))))))
noncomputable abbrev ySolve : Code := restOf (restOf (restOf (restOf (restOf (restOf (restOf cSolve))))))
theorem ESolveA {p0_g : List Value} {p1_supply : Value} {p2_kind : Int} {N : List Value → H → Prop} {R : Res → H → Prop} {h : H} (H0 : BSolveA p0_g p1_supply p2_kind N R h) :
    cpt Tryz.prog 101 A_SolveA (appC lSolve xSolve) [(0, .agg ⟨p0_g⟩), (1, p1_supply), (2, .int .i64 p2_kind)] h (fun e fr h => match e with
      | .normal => slotsP fr [1, 3, 6, 7, 8, 9, 12, 13] fun vs => N vs h
      | .ret => resP Tryz.prog fr h Tryz.f8.results.toList fun v => R (.ret v) h
      | .panic v => R (.pan v) h
      | .exit _ => False) := cast_of (by kernel_rfl) H0
def A_SolveB : An := ⟨lkA [(18, rng 2), (19, ⟨[1, 3, 7, 8, 9, 4, 5, 10, 0, 2, 6, 11, 12], lkN [(2, [4, 10])]⟩), (20, rng 4), (21, rng 1), (22, rng 6), (23, ⟨[0, 2, 3, 4, 5, 7, 8, 9, 1, 6, 10, 11, 12, 13], lkN []⟩), (24, ⟨[1, 3, 5, 0, 2, 4, 6, 7, 8, 9, 10], lkN []⟩), (25, rng 2), (26, ⟨[0, 1, 2, 3, 4, 5], lkN [(2, [1])]⟩)], lkL [(21, [(70, .int .i64)])], lkC []⟩
def BSolveB (p1 : Value) (b3 b6 b7 b8 b9 : Nat) (v12 v13 : Value) (N : H → Prop) (X : Value → H → Prop) (h : H) : Prop :=
  methP Tryz.prog h v13 "compass/mincost.meet" fun f1 rv2 =>
  T Tryz.prog f1 (rv2 :: []) h (rt (fun v3 h4 =>
  v3 = .tuple ⟨[]⟩ ∧
  ptrP v12 fun a5 =>
  ldV h4 ((bk b3).add 1) fun x6 =>
  slcP x6 fun a7 l8 c9 =>
  ldV h4 (a5.add 6) fun x10 =>
  newP h4 (.cells ⟨[]⟩ 2 (0, 0)) fun b11 h12 =>
  apP (.slice (some (bk b11)) 0 0) p1 h12 1 2 8 [.int .i64 0] fun s13 h14 =>
  (sameAt 2 (a5.add 6) h12 h14) ∧
  (sameAt 2 ((bk b3).add 1) h12 h14) ∧
  mkS ((l8 : Nat) : Int) ((l8 : Nat) : Int) 8 [.int .i64 0] 2 h14 fun b15 h16 =>
  oneP s13 (oneP x10 (stN h16 (bk b6) [s13, .slice (some (bk b15)) (((l8 : Nat) : Int).toNat) (((l8 : Nat) : Int).toNat), x10] 3 fun h17 =>
  ldV h17 ((bk b3).add 1) fun x18 =>
  slcP x18 fun a19 l20 c21 =>
  ∃ (I22 : (Int × Unit) → H → Prop) (r23 : (Int × Unit) × H → (Int × Unit) × H → Prop), WellFounded r23 ∧ I22 (0, ()) h17 ∧
  ∀ (s25 : Int) (h24 : H), I22 (s25, ()) h24 →
  ifP (decide (s25 < ((l20 : Nat) : Int))) (ixS x18 s25 4 fun a26 =>
  ldN h24 a26 4 fun x27 =>
  newP h24 (.cells ⟨[.int .i64 0, .int .i64 0, .int .i64 0, .int .i64 0]⟩ 44 (0, 0)) fun b28 h29 =>
  stN h29 (bk b28) x27 4 fun h30 =>
  ptrP v12 fun a31 =>
  ldV h30 ((bk b6).add 1) fun x32 =>
  ldV h30 (a31.add 2) fun x33 =>
  ixS x33 (IntKind.i64.wrap ((IntKind.i64.wrap (2 * s25)) + 1)) 1 fun a34 =>
  ldI h30 a34 .i64 fun x35 =>
  ixS x32 s25 1 fun a36 =>
  stC h30 a36 (.int .i64 x35) fun h37 =>
  ldI h37 (bk b7) .i64 fun x38 =>
  ldI h37 ((bk b28).add 3) .i64 fun x39 =>
  ldV h37 ((bk b6).add 1) fun x40 =>
  ixS x40 s25 1 fun a41 =>
  ldI h37 a41 .i64 fun x42 =>
  stC h37 (bk b7) (.int .i64 (IntKind.i64.wrap (x38 + (IntKind.i64.wrap (x39 * x42))))) fun h43 =>
  I22 ((IntKind.i64.wrap (s25 + 1)), ()) h43 ∧ r23 (((IntKind.i64.wrap (s25 + 1)), ()), h43) ((s25, ()), h24))
  (ldN h24 (bk b6) 3 fun x44 =>
  ldI h24 (bk b7) .i64 fun x45 =>
  stN h24 (bk b6) x44 3 fun h46 =>
  (sameAt 2 (bk b7) h24 h46) ∧
  stC h46 (bk b7) (.int .i64 x45) fun h47 =>
  stC h47 (bk b8) (.slice none 0 0) fun h48 =>
  stC h48 (bk b9) (.int .i64 0) fun h49 =>
  N h49)))) (fun v50 h51 => X v50 h51))
theorem ESolveB {p1 : Value} {b3 b6 b7 b8 b9 : Nat} {v12 v13 vf : Value} {N : H → Prop} {X : Value → H → Prop} {h : H} (H0 : BSolveB p1 b3 b6 b7 b8 b9 v12 v13 N X h) :
    cpt Tryz.prog 101 A_SolveB ySolve [(52, vf), (1, p1), (3, .pointer (some (bk b3))), (6, .pointer (some (bk b6))), (7, .pointer (some (bk b7))), (8, .pointer (some (bk b8))), (9, .pointer (some (bk b9))), (12, v12), (13, v13)] h (fun e fr h => match e with
      | .normal => N h
      | .ret => N h
      | .panic v => X v h
      | .exit _ => False) := cast_of (by kernel_rfl) H0
def A_SolveC : An := ⟨lkA [(1, rng 1), (2, ⟨[0, 1, 2, 3, 4, 5, 6], lkN [(3, [2]), (4, [2])]⟩)], lkL [], lkC []⟩
def BSolveC (b6 b7 b8 b9 b4 : Nat) (v5 : Bool) (N : H → Prop) (h : H) : Prop :=
  ifP v5 (ldV h ((bk b4).add 0) fun x1 =>
  stN h (bk b6) [.slice none 0 0, .slice none 0 0, .slice none 0 0] 3 fun h2 =>
  (sameAt 2 ((bk b4).add 0) h h2) ∧
  stC h2 (bk b7) (.int .i64 0) fun h3 =>
  (sameAt 2 ((bk b4).add 0) h2 h3) ∧
  oneP x1 (stC h3 (bk b8) x1 fun h4 =>
  stC h4 (bk b9) (.int .i64 5) fun h5 =>
  N h5))
  (N h)
theorem ESolveC {b6 b7 b8 b9 b4 : Nat} {v5 : Bool} {v9 v8 v : Value} {N : H → Prop} {h : H} (H0 : BSolveC b6 b7 b8 b9 b4 v5 N h) :
    cpt Tryz.prog 15 A_SolveC (restOf (bodyOf Tryz.f20)) [(5, .bool v5), (4, .pointer (some (bk b4))), (10, .bool v5), (9, v9), (6, v8), (8, v8), (7, v), (0, .pointer (some (bk b6))), (1, .pointer (some (bk b7))), (2, .pointer (some (bk b8))), (3, .pointer (some (bk b9)))] h (fun e fr h => match e with
      | .normal => N h
      | .ret => N h
      | _ => False) := cast_of (by kernel_rfl) H0
/-- What is given up with. -/
abbrev gvL (sd : Value) : Value := .iface 73 (.agg ⟨[sd]⟩)
theorem ta_lack (sd : Value) (w : World) : (Instr.typeAssert (gvL sd) 20 73 true).run Tryz.prog w = .ok (.tuple ⟨[.agg ⟨[sd]⟩, .bool true]⟩) w := by kernel_rfl
theorem ta_lack0 (w : World) : (Instr.typeAssert .nilIface 20 73 true).run Tryz.prog w = .ok (.tuple ⟨[.agg ⟨[.slice none 0 0]⟩, .bool false]⟩) w := by kernel_rfl
theorem f27_seq : bodyOf Tryz.f20 = .seq (.region 0 (firstOps (bodyOf Tryz.f20)) false) (restOf (bodyOf Tryz.f20)) := by kernel_rfl
def B27 (v : Value) (h : H) (K : Fr → H → Prop) (b6 b7 b8 b9 : Nat) : Prop :=
  runP Tryz.prog h (Instr.typeAssert v 20 73 true) fun v8 => tupP v8 fun vs => on (vs[0]?) fun v9 => tupP v8 fun vs => on (vs[1]?) fun v10 =>
    newP h (.cells ⟨[.slice none 0 0]⟩ 73 (0, 0)) fun b1 h1 => aggP v9 fun ws => stN h1 (bk b1) ws 1 fun h2 => K [(5, v10), (4, .pointer (some (bk b1))), (10, v10), (9, v9), (6, v8), (8, v8), (7, v), (0, .pointer (some (bk b6))), (1, .pointer (some (bk b7))), (2, .pointer (some (bk b8))), (3, .pointer (some (bk b9)))] h2
theorem E27 {v : Value} {h : H} {K : Fr → H → Prop} {X : Value → H → Prop} {b6 b7 b8 b9 : Nat} (H0 : B27 v h K b6 b7 b8 b9) :
    rpt Tryz.prog (firstOps (bodyOf Tryz.f20)).toList (fun _ => []) [] [1, 2, 3, 4, 5, 6, 7] [(7, v), (0, .pointer (some (bk b6))), (1, .pointer (some (bk b7))), (2, .pointer (some (bk b8))), (3, .pointer (some (bk b9)))] h K X := cast_of (by kernel_rfl) H0
theorem cSolve_eq : cSolve = appC lSolve (.seq xSolve (.seq (.region 17 (firstOps (.seq dSolve .skip)) false) ySolve)) := by kernel_rfl

end Go.Proofs.YtdcamadeblojdaaGreat

namespace Go.Proofs.YtdcamadeblojdaaGreat
open Go
set_option linter.unusedVariables false
set_option linter.unusedSimpArgs false
set_option maxRecDepth 100000

/-- The results' blocks. -/
structure P4 (g : H) (b6 b7 b8 b9 : Nat) (pl : List Value) (co : Int) (sv : Value) (er : Int) : Prop where
  l : pl.length = 3
  k6 : Bl g b6 pl
  k7 : Bl g b7 [.int .i64 co]
  k8 : Bl g b8 [sv]
  k9 : Bl g b9 [.int .i64 er]
  ne : b6 ≠ b7 ∧ b6 ≠ b8 ∧ b6 ≠ b9 ∧ b7 ≠ b8 ∧ b7 ≠ b9 ∧ b8 ≠ b9
/-- All but the results' blocks is kept. -/
def K4 (b6 b7 b8 b9 : Nat) (g g2 : H) : Prop := ∀ c o, c ≠ b6 → c ≠ b7 → c ≠ b8 → c ≠ b9 → g c = some o → g2 c = some o
section
variable {g g' : H} {b6 b7 b8 b9 : Nat} {pl : List Value} {co er : Int} {sv : Value}
theorem P4.ext (P : P4 g b6 b7 b8 b9 pl co sv er) (x : Ext g g') : P4 g' b6 b7 b8 b9 pl co sv er := ⟨P.l, P.k6.ext x, P.k7.ext x, P.k8.ext x, P.k9.ext x, P.ne⟩
theorem Ext.k4 (x : Ext g g') : K4 b6 b7 b8 b9 g g' := fun c o _ _ _ _ h => x c o h
theorem K4.trans {g2 g3 : H} (a : K4 b6 b7 b8 b9 g g2) (b : K4 b6 b7 b8 b9 g2 g3) : K4 b6 b7 b8 b9 g g3 := fun c o h1 h2 h3 h4 h => b c o h1 h2 h3 h4 (a c o h1 h2 h3 h4 h)
theorem P4.s6 {pl' : List Value} {K : H → Prop} (P : P4 g b6 b7 b8 b9 pl co sv er) (hl : pl'.length = 3) (o1 : ∀ v ∈ pl', v.oneCell' = true) (k : ∀ g1, K4 b6 b7 b8 b9 g g1 → P4 g1 b6 b7 b8 b9 pl' co sv er → K g1) : stN g (bk b6) pl' 3 K :=
  P.k6.stN hl P.l o1 fun g1 kp B => k g1 (fun c o h1 _ _ _ h => kp c o h1 h) ⟨hl, B, P.k7.kp kp P.ne.1.symm, P.k8.kp kp P.ne.2.1.symm, P.k9.kp kp P.ne.2.2.1.symm, P.ne⟩
theorem P4.s7 {co' : Int} {K : H → Prop} (P : P4 g b6 b7 b8 b9 pl co sv er) (k : ∀ g1, K4 b6 b7 b8 b9 g g1 → P4 g1 b6 b7 b8 b9 pl co' sv er → K g1) : stC g (bk b7) (.int .i64 co') K := by
  have := P.k7.stC (i := 0) (x := .int .i64 co') (K := K) (by simp) fun g1 kp B => k g1 (fun c o _ h1 _ _ h => kp c o h1 h) ⟨P.l, P.k6.kp kp P.ne.1, B, P.k8.kp kp P.ne.2.2.2.1.symm, P.k9.kp kp P.ne.2.2.2.2.1.symm, P.ne⟩
  rwa [add_zero'] at this
theorem P4.s8 {sv' : Value} {K : H → Prop} (P : P4 g b6 b7 b8 b9 pl co sv er) (k : ∀ g1, K4 b6 b7 b8 b9 g g1 → P4 g1 b6 b7 b8 b9 pl co sv' er → K g1) : stC g (bk b8) sv' K := by
  have := P.k8.stC (i := 0) (x := sv') (K := K) (by simp) fun g1 kp B => k g1 (fun c o _ _ h1 _ h => kp c o h1 h) ⟨P.l, P.k6.kp kp P.ne.2.1, P.k7.kp kp P.ne.2.2.2.1, B, P.k9.kp kp P.ne.2.2.2.2.2.symm, P.ne⟩
  rwa [add_zero'] at this
theorem P4.s9 {er' : Int} {K : H → Prop} (P : P4 g b6 b7 b8 b9 pl co sv er) (k : ∀ g1, K4 b6 b7 b8 b9 g g1 → P4 g1 b6 b7 b8 b9 pl co sv er' → K g1) : stC g (bk b9) (.int .i64 er') K := by
  have := P.k9.stC (i := 0) (x := .int .i64 er') (K := K) (by simp) fun g1 kp B => k g1 (fun c o _ _ _ h1 h => kp c o h1 h) ⟨P.l, P.k6.kp kp P.ne.2.2.1, P.k7.kp kp P.ne.2.2.2.2.1, P.k8.kp kp P.ne.2.2.2.2.2, B, P.ne⟩
  rwa [add_zero'] at this
theorem Bl.ldI0 {b : Nat} {x : Int} {K : Int → Prop} (B : Bl g b [.int .i64 x]) (k : K x) : ldI g (bk b) .i64 K := ⟨x, by have := B.ld (i := 0) rfl; rwa [add_zero'] at this, k⟩
theorem Bl.ldV0 {b : Nat} {x : Value} {K : Value → Prop} (B : Bl g b [x]) (k : K x) : ldV g (bk b) K := ⟨x, by have := B.ld (i := 0) rfl; rwa [add_zero'] at this, k⟩
/-- The results are read. -/
theorem P4.read {K : List Value → Int → Value → Int → Prop} (P : P4 g b6 b7 b8 b9 pl co sv er) (k : K pl co sv er) : ldN g (bk b6) 3 fun x1 => ldI g (bk b7) .i64 fun x2 => ldV g (bk b8) fun x3 => ldI g (bk b9) .i64 fun x4 => K x1 x2 x3 x4 :=
  P.k6.ldN P.l (P.k7.ldI0 (P.k8.ldV0 (P.k9.ldI0 k)))
end
abbrev plZ : List Value := [.slice none 0 0, .slice none 0 0, .slice none 0 0]
theorem plZ_one : ∀ v ∈ plZ, v.oneCell' = true := by simp [Value.oneCell']

/-- The closure, called while u is under way. -/
theorem f27_D {h : H} {w : World} {b6 b7 b8 b9 : Nat} {pl pl' : List Value} {co co' er er' : Int} {sv sv' : Value} {u u' : FrameMode} {v : Value} (hP : P4 h b6 b7 b8 b9 pl co sv er) (hs : Sub h w)
    (hrec : ∀ (c₀ : Frame) (cs : List Frame), c₀.mode = u → recoverD (c₀ :: cs) = some (v, { c₀ with mode := u' } :: cs) ∨ (recoverD (c₀ :: cs) = none ∧ v = .nilIface ∧ u' = u))
    (hv : (v = gvL sv' ∧ (∃ a l c, sv' = .slice a l c) ∧ pl' = plZ ∧ co' = 0 ∧ er' = 5) ∨ (v = .nilIface ∧ pl' = pl ∧ co' = co ∧ sv' = sv ∧ er' = er)) :
    CallsD Tryz.prog 20 #[.pointer (some (bk b6)), .pointer (some (bk b7)), .pointer (some (bk b8)), .pointer (some (bk b9))] u w fun e q w' => e = .returned (.tuple ⟨[]⟩) ∧ q = u' ∧ ∃ h', Sub h' w' ∧ Stp h w h' w' ∧ K4 b6 b7 b8 b9 h h' ∧ P4 h' b6 b7 b8 b9 pl' co' sv' er' := by
  refine callsD_of_wpS Tryz.func20 (c := bodyOf Tryz.f20) (by kernel_rfl) fun c₀ cs hu => ?_
  have hr := hrec c₀ cs hu
  obtain ⟨cs', hcs, hrec'⟩ : ∃ cs', cs' = { c₀ with mode := u' } :: cs ∧ (recoverD (c₀ :: cs) = some (v, cs') ∨ (recoverD (c₀ :: cs) = none ∧ v = .nilIface ∧ cs' = c₀ :: cs)) := by
    rcases hr with h | ⟨h1, h2, h3⟩
    · exact ⟨_, rfl, .inl h⟩
    · refine ⟨_, rfl, .inr ⟨h1, h2, ?_⟩⟩
      subst h3; subst hu; rfl
  rw [f27_seq]
  refine wpS_seq ?_
  refine wpS_region_recover (o := opAt (firstOps (bodyOf Tryz.f20)) 0) (rest := [1, 2, 3, 4, 5, 6, 7]) (v := v) (cs' := cs') (by kernel_rfl) (by kernel_rfl) (by kernel_rfl) (by kernel_rfl) hrec' ?_
  let ar : Array Value := #[.pointer (some (bk b6)), .pointer (some (bk b7)), .pointer (some (bk b8)), .pointer (some (bk b9))]
  let a1 : Act := Act.put { tmps := ar ++ Array.replicate (Tryz.f20.ntmps - ar.size) undef, defers := [] } (some 7) v
  have ea : Act.put { tmps := ar ++ Array.replicate (Tryz.f20.ntmps - ar.size) undef, defers := [] } (opAt (firstOps (bodyOf Tryz.f20)) 0).dst v = a1 := by kernel_rfl
  show wpOps _ _ _ _ (Act.put { tmps := ar ++ Array.replicate (Tryz.f20.ntmps - ar.size) undef, defers := [] } (opAt (firstOps (bodyOf Tryz.f20)) 0).dst v) w
  rw [ea]
  have h7 : a1.tmps[7]? = some v := by kernel_rfl
  have h0 : a1.tmps[0]? = some (.pointer (some (bk b6))) := by kernel_rfl
  have h1 : a1.tmps[1]? = some (.pointer (some (bk b7))) := by kernel_rfl
  have h2 : a1.tmps[2]? = some (.pointer (some (bk b8))) := by kernel_rfl
  have h3 : a1.tmps[3]? = some (.pointer (some (bk b9))) := by kernel_rfl
  have rel : Rel 15 [] h w (List.range 15) a1 [(7, v), (0, .pointer (some (bk b6))), (1, .pointer (some (bk b7))), (2, .pointer (some (bk b8))), (3, .pointer (some (bk b9)))] h a1 w :=
    ⟨((((((FrOK.nil a1).cons h3).cons h2).cons h1).cons h0).cons h7), hs, Stp.refl h w, by kernel_rfl, by kernel_rfl, fun _ _ => rfl⟩
  obtain ⟨bl, z, hrpt, hz⟩ : ∃ (bl : Bool) (z : Value), (rpt Tryz.prog (firstOps (bodyOf Tryz.f20)).toList (fun _ => []) [] [1, 2, 3, 4, 5, 6, 7] [(7, v), (0, .pointer (some (bk b6))), (1, .pointer (some (bk b7))), (2, .pointer (some (bk b8))), (3, .pointer (some (bk b9)))] h
      (fun f g => ∃ b1 v8 v9, Fr.le [(5, .bool bl), (4, .pointer (some (bk b1))), (10, .bool bl), (9, v9), (6, v8), (8, v8), (7, v), (0, .pointer (some (bk b6))), (1, .pointer (some (bk b7))), (2, .pointer (some (bk b8))), (3, .pointer (some (bk b9)))] f ∧ Ext h g ∧ h b1 = none ∧ Bl g b1 [z]) (fun _ _ => False)) ∧
      ((bl = true ∧ z = sv' ∧ (∃ a l c, sv' = .slice a l c) ∧ pl' = plZ ∧ co' = 0 ∧ er' = 5) ∨ (bl = false ∧ pl' = pl ∧ co' = co ∧ sv' = sv ∧ er' = er)) := by
    rcases hv with ⟨rfl, hsl, e⟩ | ⟨rfl, e⟩
    · refine ⟨true, sv', E27 ⟨_, fun w _ => ta_lack sv' w, ?_⟩, .inl ⟨rfl, rfl, hsl, e⟩⟩
      refine new_bl_st rfl rfl (by obtain ⟨_, _, _, rfl⟩ := hsl; simp [Value.oneCell']) ?_
      intro b1 g hb1 x1 B1_
      exact ⟨b1, _, _, Fr.le.refl _, x1, hb1, B1_⟩
    · refine ⟨false, .slice none 0 0, E27 ⟨_, fun w _ => ta_lack0 w, ?_⟩, .inr ⟨rfl, e⟩⟩
      refine new_bl_st rfl rfl (by simp [Value.oneCell']) ?_
      intro b1 g hb1 x1 B1_
      exact ⟨b1, _, _, Fr.le.refl _, x1, hb1, B1_⟩
  have hasr : ∀ d, d < 15 → has d (List.range 15) = true := fun d hd => has_iff.2 (List.mem_range.2 hd)
  have hds : dstsOK 15 (firstOps (bodyOf Tryz.f20)).toList = true := by kernel_rfl
  refine list_sound (n := 15) (ds := []) (h0 := h) (w0 := w) (W := List.range 15) (a0 := a1) ?_ (fun o ho d hd => ⟨dstsOK_spec hds o ho d hd, hasr d (dstsOK_spec hds o ho d hd)⟩) (fun _ _ _ _ h _ => h.elim) ?_ _ _ _ _ _ _ hrpt rel
  · rintro f f' h _ hl ⟨b1, v5, v6, h1, h2, h3, h4⟩
    exact ⟨b1, v5, v6, h1.trans hl, h2, h3, h4⟩
  rintro f g a2 w2 ⟨b1, v8, v9, hle, x2, hnone, Bz⟩ rel2
  show (restOf (bodyOf Tryz.f20)).wpS Tryz.prog _ a2 cs' w2
  refine wpS_of_wp ?_
  have rel2 := rel2.le hle
  have P2 := hP.ext x2
  have ne6 : b1 ≠ b6 := (hP.k6.ne hnone).symm
  have ne7 : b1 ≠ b7 := (hP.k7.ne hnone).symm
  have ne8 : b1 ≠ b8 := (hP.k8.ne hnone).symm
  have ne9 : b1 ≠ b9 := (hP.k9.ne hnone).symm
  refine cpt_sound (n := 15) _ _ g _ (ESolveC (N := fun g3 => K4 b6 b7 b8 b9 h g3 ∧ P4 g3 b6 b7 b8 b9 pl' co' sv' er') ?_) [] h w (List.range 15) a1 a2 w2 _ (fun t ht => hasr t ?_) rel2 ?_
  · refine ifP_of (fun hb => ?_) (fun hb => ?_)
    · rcases hz with ⟨_, rfl, hsl, rfl, rfl, rfl⟩ | ⟨h, _⟩
      · refine ⟨_, by have := Bz.ld (i := 0) rfl; exact this, ?_⟩
        have keepB : ∀ {g1 g2 : H}, Bl g1 b1 [z] → K4 b6 b7 b8 b9 g1 g2 → Bl g2 b1 [z] := fun B k => by
          obtain ⟨e, hb⟩ := B
          exact ⟨e, k _ _ ne6 ne7 ne8 ne9 hb⟩
        refine P2.s6 rfl plZ_one fun g1 q1 P3 => ?_
        have Bz1 := keepB Bz q1
        refine ⟨sameAt_bl Bz Bz1, P3.s7 fun g2 q2 P3 => ?_⟩
        have Bz2 := keepB Bz1 q2
        refine ⟨sameAt_bl Bz1 Bz2, oneP_slc hsl (P3.s8 fun g3 q3 P3 => P3.s9 fun g4 q4 P3 => ?_)⟩
        exact ⟨(((x2.k4.trans q1).trans q2).trans q3).trans q4, P3⟩
      · rw [h] at hb; cases hb
    · rcases hz with ⟨h, _⟩ | ⟨_, rfl, rfl, rfl, rfl⟩
      · rw [h] at hb; cases hb
      · exact ⟨x2.k4, P2⟩
  · have : ((writesOf (restOf (bodyOf Tryz.f20))).all fun t => Nat.blt t 15) = true := by kernel_rfl
    have := List.all_eq_true.1 this t ht
    simpa [Nat.blt_eq] using this
  · rintro e fr g3 a3 w3 hq rel3
    cases e with
    | normal =>
      obtain ⟨k4, P5⟩ := hq
      exact ⟨rel3.defers, u', by rw [hcs], .tuple #[], results_none rfl _ _ _, rfl, rfl, g3, rel3.sub, rel3.same, k4, P5⟩
    | ret =>
      obtain ⟨k4, P5⟩ := hq
      exact ⟨rel3.defers, u', by rw [hcs], .tuple #[], results_none rfl _ _ _, rfl, rfl, g3, rel3.sub, rel3.same, k4, P5⟩
    | exit i => exact hq.elim
    | panic v => exact hq.elim

end Go.Proofs.YtdcamadeblojdaaGreat

namespace Go.Proofs.YtdcamadeblojdaaGreat
open Go
set_option linter.unusedVariables false
set_option linter.unusedSimpArgs false
set_option maxRecDepth 100000

def SolveN (R : Res → H → Prop) (b6 b7 b8 b9 : Nat) (g1 : H) : Prop :=
  ∃ pl co sv er, P4 g1 b6 b7 b8 b9 pl co sv er ∧ ∀ g2, K4 b6 b7 b8 b9 g1 g2 → P4 g2 b6 b7 b8 b9 pl co sv er → R (.ret (.tuple ⟨[.agg ⟨pl⟩, .int .i64 co, sv, .int .i64 er]⟩)) g2
def SolveX (R : Res → H → Prop) (b6 b7 b8 b9 : Nat) (v : Value) (g1 : H) : Prop :=
  ∃ pl co sv er sd, v = gvL sd ∧ (∃ a l c, sd = .slice a l c) ∧ P4 g1 b6 b7 b8 b9 pl co sv er ∧ ∀ g2, K4 b6 b7 b8 b9 g1 g2 → P4 g2 b6 b7 b8 b9 plZ 0 sd 5 → R (.ret (.tuple ⟨[.agg ⟨plZ⟩, .int .i64 0, sd, .int .i64 5]⟩)) g2
def SolveM (p1 : Value) (R : Res → H → Prop) (vs : List Value) (g : H) : Prop :=
  ∃ (b3 b6 b7 b8 b9 : Nat) (v12 v13 : Value), vs = [p1, .pointer (some (bk b3)), .pointer (some (bk b6)), .pointer (some (bk b7)), .pointer (some (bk b8)), .pointer (some (bk b9)), v12, v13] ∧
    BSolveB p1 b3 b6 b7 b8 b9 v12 v13 (SolveN R b6 b7 b8 b9) (SolveX R b6 b7 b8 b9) g

theorem Solve_of {p0 : List Value} {p1 : Value} {p2 : Int} {h : H} {R : Res → H → Prop} (HA : BSolveA p0 p1 p2 (SolveM p1 R) R h) : T Tryz.prog F.mincost_Solve [.agg ⟨p0⟩, p1, .int .i64 p2] h R := by
  refine ⟨⟨Tryz.f8, Tryz.func8, by kernel_rfl, by kernel_rfl⟩, fun w hw => ?_⟩
  refine calls_of_wp_defers Tryz.func8 (c := cSolve) (by kernel_rfl) ?_
  rw [cSolve_eq]
  have hasr : ∀ d, d < 101 → has d (List.range 101) = true := fun d hd => has_iff.2 (List.mem_range.2 hd)
  let ar : Array Value := #[.agg ⟨p0⟩, p1, .int .i64 p2]
  obtain ⟨a0, ha0⟩ : ∃ a0 : Act, a0 = { tmps := ar ++ Array.replicate (Tryz.f8.ntmps - ar.size) undef, defers := [] } := ⟨_, rfl⟩
  have t0 : a0.tmps[0]? = some (.agg ⟨p0⟩) := by rw [ha0]; kernel_rfl
  have t1 : a0.tmps[1]? = some p1 := by rw [ha0]; kernel_rfl
  have t2 : a0.tmps[2]? = some (.int .i64 p2) := by rw [ha0]; kernel_rfl
  have hsz : a0.tmps.size = 101 := by rw [ha0]; kernel_rfl
  have hdf : a0.defers = [] := by rw [ha0]
  have goalA : (appC lSolve (.seq xSolve (.seq (.region 17 (firstOps (.seq dSolve .skip)) false) ySolve))).wp Tryz.prog
      (bodyPostD Tryz.prog Tryz.f8 fun e w' => ∃ h', Sub h' w' ∧ Stp h w h' w' ∧ match e with
        | .returned v => R (.ret v) h'
        | .panicked [⟨v, false, false⟩] => R (.pan v) h'
        | _ => False) a0 w := by
    refine appC_sound (n := 101) (A := A_SolveA) (fun _ => rfl) (ds := []) (h0 := h) (w0 := w) (W := List.range 101) (a0 := a0) (Q0 := _) ?_ lSolve [(0, .agg ⟨p0⟩), (1, p1), (2, .int .i64 p2)] h a0 w (ESolveA HA) (fun t ht => hasr t ?_) ⟨((((FrOK.nil a0).cons t2).cons t1).cons t0), hw, Stp.refl h w, hsz, hdf, fun _ _ => rfl⟩
    rotate_left
    · have : ((writesOf (appC lSolve xSolve)).all fun t => Nat.blt t 101) = true := by kernel_rfl
      have := List.all_eq_true.1 this t ht
      simpa [Nat.blt_eq] using this
    intro e fr g a1 w1 hq rel1
    cases e with
    | exit i => exact hq.elim
    | panic v =>
      show Leaves _ _ _ _ a1.defers (.panicking [⟨v, false, false⟩]) w1
      rw [rel1.defers]
      exact ⟨g, rel1.sub, rel1.same, hq⟩
    | ret =>
      show Leaves _ _ _ _ a1.defers .returning w1
      rw [rel1.defers]
      obtain ⟨v, hv, hr⟩ := resP_run (fn := Tryz.f8) rel1.fr hq
      exact ⟨_, hr w1 rel1.sub, g, rel1.sub, rel1.same, hv⟩
    | normal =>
      show (Code.seq (.region 17 (firstOps (.seq dSolve .skip)) false) ySolve).wp Tryz.prog _ a1 w1
      obtain ⟨v1, g1, hq⟩ := on_some hq
      obtain ⟨v3, g3, hq⟩ := on_some hq
      obtain ⟨v6, g6, hq⟩ := on_some hq
      obtain ⟨v7, g7, hq⟩ := on_some hq
      obtain ⟨v8, g8, hq⟩ := on_some hq
      obtain ⟨v9, g9, hq⟩ := on_some hq
      obtain ⟨v12, g12, hq⟩ := on_some hq
      obtain ⟨v13, g13, hq⟩ := on_some hq
      obtain ⟨b3, b6, b7, b8, b9, u12, u13, hvs, HB⟩ := hq
      simp only [List.cons.injEq, and_true] at hvs
      obtain ⟨rfl, rfl, rfl, rfl, rfl, rfl, rfl, rfl⟩ := hvs
      have f1 := rel1.fr _ _ g1
      have f3 := rel1.fr _ _ g3
      have f6 := rel1.fr _ _ g6
      have f7 := rel1.fr _ _ g7
      have f8 := rel1.fr _ _ g8
      have f9 := rel1.fr _ _ g9
      have f12 := rel1.fr _ _ g12
      have f13 := rel1.fr _ _ g13
      have frA : FrOK [(1, v1), (3, .pointer (some (bk b3))), (6, .pointer (some (bk b6))), (7, .pointer (some (bk b7))), (8, .pointer (some (bk b8))), (9, .pointer (some (bk b9))), (12, v12), (13, v13)] a1 :=
        (((((((((FrOK.nil a1).cons f13).cons f12).cons f9).cons f8).cons f7).cons f6).cons f3).cons f1)
      refine wp_seq (wp_region ?_)
      have hr : List.range (firstOps (.seq dSolve .skip)).size = [0, 1] := by kernel_rfl
      rw [hr]
      refine wp_first (o := opAt (firstOps (.seq dSolve .skip)) 0) (by kernel_rfl) (by kernel_rfl) ?_
      let fv : Value := .func (.func 20) #[] #[.pointer (some (bk b6)), .pointer (some (bk b7)), .pointer (some (bk b8)), .pointer (some (bk b9))]
      have ho : opt Tryz.prog (opAt (firstOps (.seq dSolve .skip)) 0) [(1, v1), (3, .pointer (some (bk b3))), (6, .pointer (some (bk b6))), (7, .pointer (some (bk b7))), (8, .pointer (some (bk b8))), (9, .pointer (some (bk b9))), (12, v12), (13, v13)] g
          (fun v g' => v = fv ∧ g' = g) (fun _ _ => False) :=
        cast_of (A := opt Tryz.prog (opAt (firstOps (.seq dSolve .skip)) 0) [(1, v1), (3, .pointer (some (bk b3))), (6, .pointer (some (bk b6))), (7, .pointer (some (bk b7))), (8, .pointer (some (bk b8))), (9, .pointer (some (bk b9))), (12, v12), (13, v13)] g
          (fun v g' => v = fv ∧ g' = g) (fun _ _ => False))
          (B := (Value.func (.func 20) ⟨[]⟩ ⟨[.pointer (some (bk b6)), .pointer (some (bk b7)), .pointer (some (bk b8)), .pointer (some (bk b9))]⟩ = fv ∧ g = g)) (by kernel_rfl) ⟨rfl, rfl⟩
      refine opt_sound ho frA rel1.sub ?_ (fun _ _ _ h => h.elim)
      rintro vx _ w2 ⟨rfl, rfl⟩ hs2 hst2
      generalize ha2 : a1.put (opAt (firstOps (.seq dSolve .skip)) 0).dst fv = a2
      have hd3 : (opAt (firstOps (.seq dSolve .skip)) 0).dst = some 52 := by kernel_rfl
      have fr2 : FrOK [(52, fv), (1, v1), (3, .pointer (some (bk b3))), (6, .pointer (some (bk b6))), (7, .pointer (some (bk b7))), (8, .pointer (some (bk b8))), (9, .pointer (some (bk b9))), (12, v12), (13, v13)] a2 := by
        rw [← ha2, hd3]
        exact frA.put (d := some 52) (fun t ht => by cases ht; rw [rel1.size]; omega) _
      have sz2 : a2.tmps.size = 101 := by rw [← ha2, size_put, rel1.size]
      have df2 : a2.defers = [] := by rw [← ha2, defers_put, rel1.defers]
      refine wp_first (o := opAt (firstOps (.seq dSolve .skip)) 1) (by kernel_rfl) (by kernel_rfl) ?_
      have h52 : a2.eval (.tmp 52) = fv := by
        have := fr2 52 _ rfl
        simp [Act.eval, this]
      let df : Deferred := { target := .fn (.func 20) #[.pointer (some (bk b6)), .pointer (some (bk b7)), .pointer (some (bk b8)), .pointer (some (bk b9))], args := #[] }
      have hrun : (execOp a2.eval (opAt (firstOps (.seq dSolve .skip)) 1)).run Tryz.prog w2 = .ok (.defer df) w2 := by
        have hop : (opAt (firstOps (.seq dSolve .skip)) 1).op = .defer { callee := .value (.tmp 52), args := #[], argTypes := #[] } := by kernel_rfl
        simp [execOp, hop, resolve, Deferred.ofValue, h52, fv, df]
      unfold Oper.wp
      rw [hrun, Oper.upon_defer]
      have hd1 : (opAt (firstOps (.seq dSolve .skip)) 1).dst = none := by kernel_rfl
      rw [hd1]
      generalize ha3 : (Act.put { a2 with defers := df :: a2.defers } none undef) = a3
      have tm3 : a3.tmps = a2.tmps := by rw [← ha3]; rfl
      have df3 : a3.defers = [df] := by rw [← ha3, defers_put, df2]
      have fr3 : FrOK [(52, fv), (1, v1), (3, .pointer (some (bk b3))), (6, .pointer (some (bk b6))), (7, .pointer (some (bk b7))), (8, .pointer (some (bk b8))), (9, .pointer (some (bk b9))), (12, v12), (13, v13)] a3 := fun t v hv => by rw [tm3]; exact fr2 t v hv
      show ySolve.wp Tryz.prog _ a3 w2
      refine cpt_sound (n := 101) _ _ _ _ (ESolveB HB) [df] h w (writesOf ySolve) a3 a3 w2 _ (fun t ht => has_iff.2 ht)
        ⟨fr3, hs2, rel1.same.trans hst2, by rw [tm3]; exact sz2, df3, fun _ _ => rfl⟩ ?_
      intro e fr' g' a4 w4 hq rel4
      have c6 : a4.tmps[6]? = some (.pointer (some (bk b6))) := by rw [rel4.keep 6 (by kernel_rfl)]; exact fr3 6 _ rfl
      have c7 : a4.tmps[7]? = some (.pointer (some (bk b7))) := by rw [rel4.keep 7 (by kernel_rfl)]; exact fr3 7 _ rfl
      have c8 : a4.tmps[8]? = some (.pointer (some (bk b8))) := by rw [rel4.keep 8 (by kernel_rfl)]; exact fr3 8 _ rfl
      have c9 : a4.tmps[9]? = some (.pointer (some (bk b9))) := by rw [rel4.keep 9 (by kernel_rfl)]; exact fr3 9 _ rfl
      have fin : ∀ (h5 : H) (w5 : World) (pl : List Value) (co : Int) (sv : Value) (er : Int), Sub h5 w5 → Stp g' w4 h5 w5 → P4 h5 b6 b7 b8 b9 pl co sv er → R (.ret (.tuple ⟨[.agg ⟨pl⟩, .int .i64 co, sv, .int .i64 er]⟩)) h5 →
          Leaves Tryz.prog Tryz.f8 a4.tmps (fun e w' => ∃ h', Sub h' w' ∧ Stp h w h' w' ∧ match e with
            | .returned v => R (.ret v) h'
            | .panicked [⟨v, false, false⟩] => R (.pan v) h'
            | _ => False) [] .returning w5 := by
        intro h5 w5 pl co sv er s5 st5 P5 hR
        have hres : resP Tryz.prog [(6, .pointer (some (bk b6))), (7, .pointer (some (bk b7))), (8, .pointer (some (bk b8))), (9, .pointer (some (bk b9)))] h5 Tryz.f8.results.toList (fun v => v = .tuple ⟨[.agg ⟨pl⟩, .int .i64 co, sv, .int .i64 er]⟩) :=
          cast_of (A := resP Tryz.prog [(6, .pointer (some (bk b6))), (7, .pointer (some (bk b7))), (8, .pointer (some (bk b8))), (9, .pointer (some (bk b9)))] h5 Tryz.f8.results.toList (fun v => v = .tuple ⟨[.agg ⟨pl⟩, .int .i64 co, sv, .int .i64 er]⟩))
            (B := ldN h5 (bk b6) 3 fun x1 => ldI h5 (bk b7) .i64 fun x2 => ldV h5 (bk b8) fun x3 => ldI h5 (bk b9) .i64 fun x4 => Value.tuple ⟨[.agg ⟨x1⟩, .int .i64 x2, x3, .int .i64 x4]⟩ = .tuple ⟨[.agg ⟨pl⟩, .int .i64 co, sv, .int .i64 er]⟩) (by kernel_rfl) (P5.read rfl)
        obtain ⟨v, rfl, hr⟩ := resP_run (fn := Tryz.f8) (a := a4) (((((FrOK.nil a4).cons c9).cons c8).cons c7).cons c6) hres
        exact ⟨_, hr w5 s5, h5, s5, rel4.same.trans st5, hR⟩
      have okR : SolveN R b6 b7 b8 b9 g' → Leaves Tryz.prog Tryz.f8 a4.tmps (fun e w' => ∃ h', Sub h' w' ∧ Stp h w h' w' ∧ match e with
            | .returned v => R (.ret v) h'
            | .panicked [⟨v, false, false⟩] => R (.pan v) h'
            | _ => False) a4.defers .returning w4 := by
        rintro ⟨pl, co, sv, er, P, hR⟩
        rw [rel4.defers]
        refine leaves_cons (f := 20) (args := #[.pointer (some (bk b6)), .pointer (some (bk b7)), .pointer (some (bk b8)), .pointer (some (bk b9))]) (by simp) (by kernel_rfl) ?_
        refine (f27_D (u := .returning) (u' := .returning) (v := .nilIface) P rel4.sub (fun c₀ cs hu => .inr ⟨by simp [recoverD, hu], rfl, rfl⟩) (.inr ⟨rfl, rfl, rfl, rfl, rfl⟩)).mono ?_
        rintro e q w5 ⟨rfl, rfl, h5, s5, st5, k5, P5⟩
        exact fin h5 w5 pl co sv er s5 st5 P5 (hR h5 k5 P5)
      cases e with
      | exit i => exact hq.elim
      | normal => exact okR hq
      | ret => exact okR hq
      | panic v =>
        show Leaves _ _ _ _ a4.defers (.panicking [⟨v, false, false⟩]) w4
        rw [rel4.defers]
        obtain ⟨pl, co, sv, er, sd, rfl, hsl, P, hR⟩ := hq
        refine leaves_cons (f := 20) (args := #[.pointer (some (bk b6)), .pointer (some (bk b7)), .pointer (some (bk b8)), .pointer (some (bk b9))]) (by simp) (by kernel_rfl) ?_
        refine (f27_D (u := .panicking [⟨gvL sd, false, false⟩]) (u' := .panicking [⟨gvL sd, true, false⟩]) (v := gvL sd) P rel4.sub (fun c₀ cs hu => .inl (by simp [recoverD, hu])) (.inl ⟨rfl, hsl, rfl, rfl, rfl⟩)).mono ?_
        rintro e q w5 ⟨rfl, rfl, h5, s5, st5, k5, P5⟩
        have hset : settle (.panicking [⟨gvL sd, true, false⟩]) = .returning := by simp [settle]
        show Leaves _ _ _ _ [] (settle (.panicking [⟨gvL sd, true, false⟩])) w5
        rw [hset]
        exact fin h5 w5 plZ 0 sd 5 s5 st5 P5 (hR h5 k5 P5)
  rw [ha0] at goalA
  exact goalA

end Go.Proofs.YtdcamadeblojdaaGreat

namespace Go.Proofs.YtdcamadeblojdaaGreat
open Go
set_option linter.unusedVariables false
set_option linter.unusedSimpArgs false

instance {n : Int} {l : Nat} {bf : Nat → Int} : Decidable (supOK n l bf) := by unfold supOK; infer_instance
/-- The error's number of a task. -/
def wrong14 (n : Int) (m : Nat) (es : Nat → Ed) (l : Nat) (bf : Nat → Int) (k : Int) : Int :=
  if (faultG n m es).1 = 0 then (if supOK n l bf then (if 1 ≤ k ∧ k ≤ 3 then 0 else 50) else 130) else (faultG n m es).1
/-- A plan as Go holds it. -/
abbrev plV (sup on pot : Value) : List Value := [sup, on, pot]
/-- What Solve answers where nothing is wrong. -/
structure PlanR (own : Own) (h' : H) (n m : Nat) (es : Nat → Ed) (bf : Nat → Int) (vs von vp : Value) (f p : Nat → Int) : Prop where
  s : S1 own h' 24 vs (ints n bf)
  o : S1 own h' 23 von (ints m f)
  po : S1 own h' 7 vp (ints n p)
  pl : PlanP n m (frE es) (toE es) (cpE es) bf f
  pt : PotP m (frE es) (toE es) (cpE es) (ckE es) f p
  pb : ∀ v, v < n → -1073741824 ≤ p v ∧ p v ≤ 1073741824
def SolC (h : H) (n : Int) (m : Nat) (es : Nat → Ed) (l : Nat) (bf : Nat → Int) (k : Int) (r : Res) (h' : H) : Prop :=
  Ext h h' ∧ ((wrong14 n m es l bf k ≠ 0 ∧ r = .ret (.tuple ⟨[.agg ⟨plZ⟩, .int .i64 0, .slice none 0 0, .int .i64 (wrong14 n m es l bf k)]⟩)) ∨
    (wrong14 n m es l bf k = 0 ∧ n = l ∧ Gd l m es ∧
      ((∃ (own : Own) (vs von vp : Value) (f p : Nat → Int), r = .ret (.tuple ⟨[.agg ⟨plV vs von vp⟩, .int .i64 (totC m (ckE es) f), .slice none 0 0, .int .i64 0]⟩) ∧ Bs h own h' ∧ PlanR own h' l m es bf vs von vp f p) ∨
       (∃ (bs : Nat) (sd : Nat → Bool), r = .ret (.tuple ⟨[.agg ⟨plZ⟩, .int .i64 0, slV bs l, .int .i64 5]⟩) ∧ h bs = none ∧ Sl h' bs (slV bs l) (bools l sd) ∧
         cutC m (frE es) (toE es) (cpE es) (fun v => sd v = true) < sumN l fun v => if sd v = true then bf v else 0))))

theorem meth70 (v : Value) (w : World) : (method (Tryz.prog.types.size + Made.depth) 67 (.agg ⟨[v]⟩) "compass/mincost.meet").run Tryz.prog w = .ok (F.mincost_ways_meet, .agg ⟨[v]⟩) w := by kernel_rfl
section
variable {own own' : Own} {g g' h h' : H} {i b : Nat} {v : Value} {vs : List Value}
/-- The owners of new blocks besides those of old ones. -/
def mgO (g : H) (own own' : Own) : Own := fun c => match g c with
  | none => own' c
  | some _ => own c
theorem mgO_new {c : Nat} (h : g c = none) : mgO g own own' c = own' c := by unfold mgO; rw [h]
theorem mgO_old {c : Nat} {o : Obj} (h : g c = some o) : mgO g own own' c = own c := by unfold mgO; rw [h]
theorem Bs.mg {M : List Nat} (bs : Bs g own' g') : Fm M own g (mgO g own own') g' := ⟨fun c o e _ => bs.ext c o e, fun c o e => ⟨⟨o, bs.ext c o e⟩, mgO_old e⟩⟩
theorem Bs.new_ (bs : Bs g own' g') {c : Nat} (h : own' c ≠ 0) : g c = none := by
  cases e : g c with
  | none => rfl
  | some o => exact absurd (bs.old c o e) h
theorem S1.mg (s : S1 own' g' i v vs) (bs : Bs g own' g') (hi : i ≠ 0) : S1 (mgO g own own') g' i v vs := by
  rcases s with s | ⟨c, hc, s⟩
  · exact .inl s
  · exact .inr ⟨c, by rw [mgO_new (bs.new_ (by rw [hc]; exact hi))]; exact hc, s⟩
theorem B1.mg (s : B1 own' g' i b vs) (bs : Bs g own' g') (hi : i ≠ 0) : B1 (mgO g own own') g' i b vs := ⟨by
  obtain ⟨hc, _⟩ := s
  rw [mgO_new (bs.new_ (by rw [hc]; exact hi))]; exact hc, s.bl⟩
theorem MN.mg {bn n m : Nat} {fr to : Nat → Nat} {room cost ex pot : Nat → Int} (N : MN own' g' bn n m fr to room cost ex pot) (bs : Bs g own' g') : MN (mgO g own own') g' bn n m fr to room cost ex pot := by
  obtain ⟨vf, vt, vr, vc, vo, vx, vp, outs, k8, k1, k2, k3, k4, k5, k6, k7, ko⟩ := N.q
  exact ⟨vf, vt, vr, vc, vo, vx, vp, outs, k8.mg bs (by omega), k1.mg bs (by omega), k2.mg bs (by omega), k3.mg bs (by omega), k4.mg bs (by omega), k5.mg bs (by omega), k6.mg bs (by omega), k7.mg bs (by omega), fun v hv => (ko v hv).mg bs (by omega)⟩
theorem K4.fm {b6 b7 b8 b9 : Nat} {pl pl' : List Value} {co er co' er' : Int} {sv sv' : Value} (k : K4 b6 b7 b8 b9 g g') (P : P4 g b6 b7 b8 b9 pl co sv er) (P' : P4 g' b6 b7 b8 b9 pl' co' sv' er') (h6 : own b6 = 15) (h7 : own b7 = 16) (h8 : own b8 = 17) (h9 : own b9 = 18) : Fm [15, 16, 17, 18] own g own g' := by
  refine ⟨fun c o e n => k c o ?_ ?_ ?_ ?_ e, fun c o e => ⟨?_, rfl⟩⟩
  · rintro rfl; rw [h6] at n; simp at n
  · rintro rfl; rw [h7] at n; simp at n
  · rintro rfl; rw [h8] at n; simp at n
  · rintro rfl; rw [h9] at n; simp at n
  · by_cases e6 : c = b6
    · subst e6; obtain ⟨x, hx⟩ := P'.k6; exact ⟨_, hx⟩
    · by_cases e7 : c = b7
      · subst e7; obtain ⟨x, hx⟩ := P'.k7; exact ⟨_, hx⟩
      · by_cases e8 : c = b8
        · subst e8; obtain ⟨x, hx⟩ := P'.k8; exact ⟨_, hx⟩
        · by_cases e9 : c = b9
          · subst e9; obtain ⟨x, hx⟩ := P'.k9; exact ⟨_, hx⟩
          · exact ⟨o, k c o e6 e7 e8 e9 e⟩
theorem P4.of {b6 b7 b8 b9 : Nat} {pl : List Value} {co er : Int} {sv : Value} (hl : pl.length = 3) (k6 : B1 own g 15 b6 pl) (k7 : B1 own g 16 b7 [.int .i64 co]) (k8 : B1 own g 17 b8 [sv]) (k9 : B1 own g 18 b9 [.int .i64 er]) : P4 g b6 b7 b8 b9 pl co sv er := by
  have h6 := k6.own_
  have h7 := k7.own_
  have h8 := k8.own_
  have h9 := k9.own_
  refine ⟨hl, k6.bl, k7.bl, k8.bl, k9.bl, ?_, ?_, ?_, ?_, ?_, ?_⟩ <;> (rintro rfl; omega)
end

end Go.Proofs.YtdcamadeblojdaaGreat

namespace Go.Proofs.YtdcamadeblojdaaGreat
open Go
set_option linter.unusedVariables false
set_option linter.unusedSimpArgs false

section
variable {h : H} {w : List Value} {n : Int} {m l : Nat} {es : Nat → Ed} {sv : Value} {bf : Nat → Int}
theorem K4.ext_ {b6 b7 b8 b9 : Nat} {g g' : H} (x : Ext h g) (n6 : h b6 = none) (n7 : h b7 = none) (n8 : h b8 = none) (n9 : h b9 = none) (k : K4 b6 b7 b8 b9 g g') : Ext h g' := fun c o e => by
  refine k c o ?_ ?_ ?_ ?_ (x c o e)
  · rintro rfl; rw [n6] at e; cases e
  · rintro rfl; rw [n7] at e; cases e
  · rintro rfl; rw [n8] at e; cases e
  · rintro rfl; rw [n9] at e; cases e
/-- Behind the defer. -/
theorem SolveB_T {bn b1 b6 b7 b8 b9 : Nat} {v13 : Value} {ow : Own} {g : H} {k : Int} {f1 : FuncId} {rv : Value} {room pot : Nat → Int} (G : GrA h w l m es) (Z : RS h sv (ints l bf)) (gd : Gd l m es) (hw : wrong14 l m es l bf k = 0)
    (bs : Bs h ow g) (k14 : B1 ow g 14 b1 w) (k15 : B1 ow g 15 b6 plZ) (k16 : B1 ow g 16 b7 [.int .i64 0]) (k17 : B1 ow g 17 b8 [.slice none 0 0]) (k18 : B1 ow g 18 b9 [.int .i64 0]) (E : EvP l m (frE es) (toE es) (cpE es) bf)
    (hmeth : ∀ K : FuncId → Value → Prop, K f1 rv → methP Tryz.prog g v13 "compass/mincost.meet" K)
    (hT : T Tryz.prog f1 [rv] g (MeetA [3, 6, 7, 8, 10, 13, 20, 21, 22] ow g bn l m (frE es) (toE es) (cpE es) bf (cA (ckE es)))) (hM : ∃ room ex pot, MS ow g bn l m (frE es) (toE es) (cpE es) bf (cA (ckE es)) room ex pot) :
    BSolveB sv b1 b6 b7 b8 b9 (.pointer (some (bk bn))) v13 (SolveN (SolC h l m es l bf k) b6 b7 b8 b9) (SolveX (SolC h l m es l bf k) b6 b7 b8 b9) g := by
  have hm1 := E.m1
  have hn1 := E.n1
  have n6 : h b6 = none := bs.new_ (by rw [k15.own_]; omega)
  have n7 : h b7 = none := bs.new_ (by rw [k16.own_]; omega)
  have n8 : h b8 = none := bs.new_ (by rw [k17.own_]; omega)
  have n9 : h b9 = none := bs.new_ (by rw [k18.own_]; omega)
  unfold BSolveB
  refine hmeth _ (hT.mono ?_)
  rintro r g1 ⟨ow1, F1, hr⟩
  have bs0 := bs
  have k15g := k15
  have k16g := k16
  have k17g := k17
  have k18g := k18
  have bs := bs.fm F1 (by simp <;> omega)
  have k14 := k14.fm F1 (by simp <;> omega)
  have k15 := k15.fm F1 (by simp <;> omega)
  have k16 := k16.fm F1 (by simp <;> omega)
  have k17 := k17.fm F1 (by simp <;> omega)
  have k18 := k18.fm F1 (by simp <;> omega)
  rcases hr with ⟨rfl, room', ex', pot', S, ex0, red, pb⟩ | ⟨bsd, sd, rfl, hbs, sS, hlack⟩
  rotate_left
  · have P := P4.of rfl k15 k16 k17 k18
    refine ⟨_, _, _, _, slV bsd l, rfl, ⟨_, _, _, rfl⟩, P, fun g2 k4 P2 => ?_⟩
    have nb : ∀ {c : Nat} {vs : List Value}, Bl g c vs → bsd ≠ c := fun B => (B.ne hbs).symm
    obtain ⟨c, e, zs, h1, h2, h3⟩ := sS
    refine ⟨K4.ext_ bs.ext n6 n7 n8 n9 k4, .inr ⟨hw, rfl, gd, .inr ⟨bsd, sd, rfl, ?_, ⟨c, e, zs, h1, k4 _ _ (nb k15g.bl) (nb k16g.bl) (nb k17g.bl) (nb k18g.bl) h2, h3⟩, hlack⟩⟩⟩
    exact bs0.ext.new hbs
  obtain ⟨gv, rfl, Gv⟩ := G.gs
  obtain ⟨vf, vt, vr, vc, vo, vx, vp, outs, k8, k1, k2, k3, k4, k5, k6, k7, ko⟩ := S.net.q
  have rm := S.rm
  have bal := S.bal
  clear S k1 k2 k4 k5 k6 ko
  refine rt_ret ⟨rfl, ptrP_mk ⟨_, k14.ld rfl, (Gv.ext bs.ext).len fun _ _ => ⟨_, k8.ld rfl, new_put ?_⟩⟩⟩
  intro b11 g2 hb11 x11 h11
  have k24 : S1 (own1 ow1 b11 24) g2 24 (.slice (some (bk b11)) 0 0) [] := .inr ⟨b11, own1_at, 0, 2, [], rfl, h11, rfl⟩
  have bs := bs.nw (j := 24) x11 hb11
  have k14 := k14.nw (j := 24) x11 hb11
  have k15 := k15.nw (j := 24) x11 hb11
  have k16 := k16.nw (j := 24) x11 hb11
  have k17 := k17.nw (j := 24) x11 hb11
  have k18 := k18.nw (j := 24) x11 hb11
  have k3 := k3.nw (j := 24) x11 hb11
  have k7 := k7.nw (j := 24) x11 hb11
  have k8 := k8.nw (j := 24) x11 hb11
  generalize own1 ow1 b11 24 = ow2 at *
  refine k24.catR (Z.ext bs.ext) (by
    intro v hv
    unfold ints at hv
    obtain ⟨j, _, rfl⟩ := List.mem_map.1 hv
    rfl) (by omega) (by rw [ints_length]; simp; omega) ?_
  intro s7 ow3 g3 F2 k24
  rw [List.nil_append] at k24
  have k8' := k8
  have k14' := k14
  have bs := bs.fm F2 (by simp <;> omega)
  have k14 := k14.fm F2 (by simp <;> omega)
  have k15 := k15.fm F2 (by simp <;> omega)
  have k16 := k16.fm F2 (by simp <;> omega)
  have k17 := k17.fm F2 (by simp <;> omega)
  have k18 := k18.fm F2 (by simp <;> omega)
  have k3 := k3.fm F2 (by simp <;> omega)
  have k7 := k7.fm F2 (by simp <;> omega)
  have k8 := k8.fm F2 (by simp <;> omega)
  refine ⟨sameAt_b1 k8' k8, sameAt_b1 k14' k14, mk_ints 23 (by omega) (by omega) ?_⟩
  intro b15 g4 hb15 x15 S15
  have k23 := S15 ow3
  have bs := bs.nw (j := 23) x15 hb15
  have k14 := k14.nw (j := 23) x15 hb15
  have k15 := k15.nw (j := 23) x15 hb15
  have k16 := k16.nw (j := 23) x15 hb15
  have k17 := k17.nw (j := 23) x15 hb15
  have k18 := k18.nw (j := 23) x15 hb15
  have k3 := k3.nw (j := 23) x15 hb15
  have k7 := k7.nw (j := 23) x15 hb15
  have k8 := k8.nw (j := 23) x15 hb15
  have k24 := k24.nw (j := 23) x15 hb15
  generalize own1 ow3 b15 23 = ow4 at *
  clear S15 k8' k14'
  simp only [Int.toNat_natCast]
  refine oneP_slc k24.isS (oneP_slc k7.isS ?_)
  refine k15.stN rfl rfl (by
    intro v hv
    simp only [List.mem_cons, List.not_mem_nil, or_false] at hv
    rcases hv with rfl | rfl | rfl
    · exact k24.one
    · exact slc_one ⟨_, _, _, rfl⟩
    · exact k7.one) fun g5 F3 k15 => ?_
  have bs := bs.fm F3 (by simp <;> omega)
  have k14 := k14.fm F3 (by simp <;> omega)
  have k16 := k16.fm F3 (by simp <;> omega)
  have k17 := k17.fm F3 (by simp <;> omega)
  have k18 := k18.fm F3 (by simp <;> omega)
  have k3 := k3.fm F3 (by simp <;> omega)
  have k7 := k7.fm F3 (by simp <;> omega)
  have k8 := k8.fm F3 (by simp <;> omega)
  have k24 := k24.fm F3 (by simp <;> omega)
  have k23 := k23.fm F3 (by simp <;> omega)
  refine ⟨_, k14.ld rfl, (Gv.ext bs.ext).len fun _ _ => ?_⟩
  let I : (Int × Unit) → H → Nat → Prop := fun p q z => ∃ (s : Nat) (ow : Own) (fo : Nat → Int), p.1 = s ∧ s ≤ m ∧ z = m - s ∧ Bs h ow q ∧ B1 ow q 14 b1 [.int .i64 l, gv] ∧ B1 ow q 15 b6 [s7, slV b15 m, vp] ∧ B1 ow q 16 b7 [.int .i64 (totC s (ckE es) (onR room'))] ∧ B1 ow q 17 b8 [.slice none 0 0] ∧ B1 ow q 18 b9 [.int .i64 0] ∧
    S1 ow q 3 vr (ints (2 * m) room') ∧ S1 ow q 7 vp (ints l pot') ∧ B1 ow q 8 bn [vf, vt, vr, vc, vo, vx, vp] ∧ S1 ow q 24 s7 (ints l bf) ∧ S1 ow q 23 (slV b15 m) (ints m fo) ∧ ∀ j, j < s → fo j = onR room' j
  refine ⟨fun p q => ∃ k, I p q k, rk I, rk_wf I, ⟨_, 0, ow4, _, rfl, by omega, rfl, bs, k14, k15, k16, k17, k18, k3, k7, k8, k24, k23, fun j hj => by omega⟩, ?_⟩
  clear bs k14 k15 k16 k17 k18 k3 k7 k8 k24 k23
  intro p q hI
  obtain ⟨s, ow, fo, e1, hs, hz, bs, k14, k15, k16, k17, k18, k3, k7, k8, k24, k23, hfo⟩ := mu_spec hI
  generalize hkk : mu I ((p, ()), q) = km at *
  change p = (s : Int) at e1
  subst e1
  have hlt : s < m → m - (s + 1) < mu I (((s : Int), ()), q) := fun h => by rw [hkk, hz]; exact sub_dec h
  clear hI
  refine ifP_of (fun h1 => ?_) (fun h1 => ?_)
  · have hsm : s < m := by have := of_decide_eq_true h1; omega
    refine (Gv.ext bs.ext).e4 hsm (new_bl_st rfl rfl (ed_one _) ?_)
    intro b28 q2 hb28 x28 B28
    have k25 : B1 (own1 ow b28 25) q2 25 b28 (es s).vs := B1.new B28
    have bs := bs.nw (j := 25) x28 hb28
    have k14 := k14.nw (j := 25) x28 hb28
    have k15 := k15.nw (j := 25) x28 hb28
    have k16 := k16.nw (j := 25) x28 hb28
    have k17 := k17.nw (j := 25) x28 hb28
    have k18 := k18.nw (j := 25) x28 hb28
    have k3 := k3.nw (j := 25) x28 hb28
    have k7 := k7.nw (j := 25) x28 hb28
    have k8 := k8.nw (j := 25) x28 hb28
    have k24 := k24.nw (j := 25) x28 hb28
    have k23 := k23.nw (j := 25) x28 hb28
    generalize own1 ow b28 25 = ow at *
    have e1 : IntKind.i64.wrap (2 * (s : Int)) = ((2 * s : Nat) : Int) := by
      rw [show (2 * (s : Int)) = ((2 * s : Nat) : Int) by omega]; exact w64_in (by omega) (by omega)
    have e2 : IntKind.i64.wrap (((2 * s : Nat) : Int) + 1) = ((2 * s + 1 : Nat) : Int) := i64_inc (by omega)
    refine ptrP_mk ⟨_, k15.ld rfl, _, k8.ld rfl, ?_⟩
    rw [e1, e2, i64_inc (by omega)]
    refine k3.rdI (by omega) (k23.setI hsm fun q3 F4 k23 => ?_)
    have bs := bs.fm F4 (by simp <;> omega)
    have k14 := k14.fm F4 (by simp <;> omega)
    have k15 := k15.fm F4 (by simp <;> omega)
    have k16 := k16.fm F4 (by simp <;> omega)
    have k17 := k17.fm F4 (by simp <;> omega)
    have k18 := k18.fm F4 (by simp <;> omega)
    have k3 := k3.fm F4 (by simp <;> omega)
    have k7 := k7.fm F4 (by simp <;> omega)
    have k8 := k8.fm F4 (by simp <;> omega)
    have k24 := k24.fm F4 (by simp <;> omega)
    have k25 := k25.fm F4 (by simp <;> omega)
    refine k16.bl.ldI0 ⟨_, k25.ld rfl, _, k15.ld rfl, k23.rdI hsm ?_⟩
    rw [upd_at]
    have hb := totC_bd (m := s) (k := ckE es) (f := onR room') (C := 1048576) (X := 1048576) (by omega) (by omega) (fun i hi => gd.k i (by omega)) (fun i hi => rm.onb (fun i hi => (E.cp i hi).2) i (by omega))
    have hb1 := totC_bd (m := s + 1) (k := ckE es) (f := onR room') (C := 1048576) (X := 1048576) (by omega) (by omega) (fun i hi => gd.k i (by omega)) (fun i hi => rm.onb (fun i hi => (E.cp i hi).2) i (by omega))
    have et : totC (s + 1) (ckE es) (onR room') = totC s (ckE es) (onR room') + (es s).k * room' (2 * s + 1) := rfl
    rw [et] at hb1
    generalize hX : (es s).k * room' (2 * s + 1) = X at *
    have e3 : IntKind.i64.wrap X = X := w64_in (by omega) (by omega)
    have e4 : IntKind.i64.wrap (totC s (ckE es) (onR room') + X) = totC (s + 1) (ckE es) (onR room') := by rw [et]; exact w64_in (by omega) (by omega)
    rw [e3, e4]
    have st : stC q3 ((bk b7).add 0) (.int .i64 (totC (s + 1) (ckE es) (onR room'))) fun h43 => (∃ k, I (((s + 1 : Nat) : Int), ()) h43 k) ∧ rk I ((((s + 1 : Nat) : Int), ()), h43) (((s : Int), ()), q) := by
      refine k16.st (by simp) fun q4 F5 k16 => ?_
      have bs := bs.fm F5 (by simp <;> omega)
      have k14 := k14.fm F5 (by simp <;> omega)
      have k15 := k15.fm F5 (by simp <;> omega)
      have k17 := k17.fm F5 (by simp <;> omega)
      have k18 := k18.fm F5 (by simp <;> omega)
      have k3 := k3.fm F5 (by simp <;> omega)
      have k7 := k7.fm F5 (by simp <;> omega)
      have k8 := k8.fm F5 (by simp <;> omega)
      have k24 := k24.fm F5 (by simp <;> omega)
      have k23 := k23.fm F5 (by simp <;> omega)
      refine mu_next (I := I) (k := m - (s + 1)) ⟨s + 1, ow, _, rfl, hsm, rfl, bs, k14, k15, k16, k17, k18, k3, k7, k8, k24, k23, fun j hj => ?_⟩ (hlt hsm)
      by_cases e : j = s
      · subst e; rw [upd_at]; rfl
      · rw [upd_ne e]; exact hfo j (by omega)
    rwa [add_zero'] at st
  · have : s = m := by have := of_decide_eq_false h1; omega
    subst this
    have efo : ints s fo = ints s (onR room') := ints_ext hfo
    rw [efo] at k23
    have P := P4.of rfl k15 k16 k17 k18
    have h6 := k15.own_
    have h7 := k16.own_
    have h8 := k17.own_
    have h9 := k18.own_
    refine P.k6.ldN rfl (P.k7.ldI0 ?_)
    have one : ∀ v ∈ [s7, slV b15 s, vp], v.oneCell' = true := by
      intro v hv
      simp only [List.mem_cons, List.not_mem_nil, or_false] at hv
      rcases hv with rfl | rfl | rfl
      · exact k24.one
      · exact slc_one ⟨_, _, _, rfl⟩
      · exact k7.one
    refine P.s6 rfl one fun q1 K1 P1 => ?_
    refine ⟨by have := sameAt_bl (n := 2) (i := 0) P.k7 P1.k7; rwa [add_zero'] at this, P1.s7 fun q2 K2 P2 => P2.s8 fun q3 K3 P3 => P3.s9 fun q4 K4_ P4_ => ?_⟩
    refine ⟨_, _, _, _, P4_, fun g2 K5 P5 => ?_⟩
    have F := K4.fm (own := ow) ((((K1.trans K2).trans K3).trans K4_).trans K5) P P5 h6 h7 h8 h9
    have bs := bs.fm F (by simp <;> omega)
    have k7 := k7.fm F (by simp <;> omega)
    have k24 := k24.fm F (by simp <;> omega)
    have k23 := k23.fm F (by simp <;> omega)
    refine ⟨bs.ext, .inr ⟨hw, rfl, gd, .inl ⟨ow, s7, slV b15 s, vp, onR room', pot', rfl, bs, k24, k23, k7, rm.plan fun v hv => by have := bal v hv; have := ex0 v hv; omega, RedP.pot rm fun a ha hr => red a ha hr, pb⟩⟩⟩
end

end Go.Proofs.YtdcamadeblojdaaGreat

namespace Go.Proofs.YtdcamadeblojdaaGreat
open Go
set_option linter.unusedVariables false
set_option linter.unusedSimpArgs false

section
variable {h : H} {w : List Value} {n : Int} {m l : Nat} {es : Nat → Ed} {sv : Value} {bf : Nat → Int}
theorem Gd.ev (gd : Gd l m es) (hs : supOK l l bf) : EvP l m (frE es) (toE es) (cpE es) bf :=
  ⟨gd.n1, gd.m1, fun i hi => gd.ends i hi, gd.c, hs.2.1, hs.2.2⟩
/-- The answer to a wrong task. -/
theorem err14 {b3 b5 b7 b9 : Nat} {q : H} {c k : Int} (xq : Ext h q) (n3 : h b3 = none) (n5 : h b5 = none) (n7 : h b7 = none) (n9 : h b9 = none) (P : P4 q b3 b5 b7 b9 plZ 0 (.slice none 0 0) 0) (hc : wrong14 n m es l bf k = c) (h0 : c ≠ 0) :
    stN q (bk b3) plZ 3 fun h34 => stC h34 (bk b5) (.int .i64 0) fun h35 => stC h35 (bk b7) (.slice none 0 0) fun h36 => stC h36 (bk b9) (.int .i64 c) fun h37 =>
      ldN h37 (bk b3) 3 fun x38 => ldI h37 (bk b5) .i64 fun x39 => ldV h37 (bk b7) fun x40 => ldI h37 (bk b9) .i64 fun x41 => SolC h n m es l bf k (.ret (.tuple ⟨[.agg ⟨x38⟩, .int .i64 x39, x40, .int .i64 x41]⟩)) h37 :=
  P.s6 rfl plZ_one fun q1 K1 P => P.s7 fun q2 K2 P => P.s8 fun q3 K3 P => P.s9 fun q4 K4_ P =>
    P.read ⟨K4.ext_ xq n3 n5 n7 n9 (((K1.trans K2).trans K3).trans K4_), .inl ⟨by rw [hc]; exact h0, by rw [hc]⟩⟩
end

end Go.Proofs.YtdcamadeblojdaaGreat

namespace Go.Proofs.YtdcamadeblojdaaGreat
open Go
set_option linter.unusedVariables false
set_option linter.unusedSimpArgs false

section
variable {h : H} {w : List Value} {n : Int} {m l : Nat} {es : Nat → Ed} {sv : Value} {bf : Nat → Int}
theorem MSolve1_T (G : GrA h w n m es) (Z : RS h sv (ints l bf)) (k : Int) (hk1 : k = 1) : T Tryz.prog F.mincost_Solve [.agg ⟨w⟩, sv, .int .i64 k] h (SolC h n m es l bf k) := by
  refine Solve_of ?_
  unfold BSolveA
  refine new_bl ?_
  intro b1 g1 hb1 x1 B1_
  have bs : Bs h (own1 (fun _ => 0) b1 14) g1 := Bs.start.new x1 hb1
  have k14 : B1 (own1 (fun _ => 0) b1 14) g1 14 b1 w := B1.new B1_
  generalize own1 (fun _ => 0) b1 14 = ow at *
  refine new_bl ?_
  intro b3 g3 hb3 x3 B3
  have k15 : B1 (own1 ow b3 15) g3 15 b3 plZ := B1.new B3
  have bs := bs.nw (j := 15) x3 hb3
  have k14 := k14.nw (j := 15) x3 hb3
  generalize own1 ow b3 15 = ow at *
  refine new_bl ?_
  intro b5 g5 hb5 x5 B5
  have k16 : B1 (own1 ow b5 16) g5 16 b5 [.int .i64 0] := B1.new B5
  have bs := bs.nw (j := 16) x5 hb5
  have k14 := k14.nw (j := 16) x5 hb5
  have k15 := k15.nw (j := 16) x5 hb5
  generalize own1 ow b5 16 = ow at *
  refine new_bl ?_
  intro b7 g7 hb7 x7 B7
  have k17 : B1 (own1 ow b7 17) g7 17 b7 [.slice none 0 0] := B1.new B7
  have bs := bs.nw (j := 17) x7 hb7
  have k14 := k14.nw (j := 17) x7 hb7
  have k15 := k15.nw (j := 17) x7 hb7
  have k16 := k16.nw (j := 17) x7 hb7
  generalize own1 ow b7 17 = ow at *
  refine new_bl ?_
  intro b9 g9 hb9 x9 B9
  have k18 : B1 (own1 ow b9 18) g9 18 b9 [.int .i64 0] := B1.new B9
  have bs := bs.nw (j := 18) x9 hb9
  have k14 := k14.nw (j := 18) x9 hb9
  have k15 := k15.nw (j := 18) x9 hb9
  have k16 := k16.nw (j := 18) x9 hb9
  have k17 := k17.nw (j := 18) x9 hb9
  generalize own1 ow b9 18 = ow at *
  clear x1 x3 x5 x7 x9 B1_ B3 B5 B7 B9 hb1 hb3 hb5 hb7 hb9
  have n3 : h b3 = none := bs.new_ (by rw [k15.own_]; omega)
  have n5 : h b5 = none := bs.new_ (by rw [k16.own_]; omega)
  have n7 : h b7 = none := bs.new_ (by rw [k17.own_]; omega)
  have n9 : h b9 = none := bs.new_ (by rw [k18.own_]; omega)
  refine k14.ldN G.one.1 ((Check_T (G.ext bs.ext)).mono ?_)
  rintro _ q ⟨rfl, x⟩
  refine rt_ret ⟨_, rfl, rfl, ?_⟩
  have bs := bs.ext_ x
  have k14 := k14.ext x
  have k15 := k15.ext x
  have k16 := k16.ext x
  have k17 := k17.ext x
  have k18 := k18.ext x
  clear x
  refine new_bl_st rfl rfl (by simp [Value.oneCell']) ?_
  intro b15 q2 hb15 x15 B15
  have k19 : B1 (own1 ow b15 19) q2 19 b15 _ := B1.new B15
  have bs := bs.nw (j := 19) x15 hb15
  have k14 := k14.nw (j := 19) x15 hb15
  have k15 := k15.nw (j := 19) x15 hb15
  have k16 := k16.nw (j := 19) x15 hb15
  have k17 := k17.nw (j := 19) x15 hb15
  have k18 := k18.nw (j := 19) x15 hb15
  generalize own1 ow b15 19 = ow at *
  clear x15 hb15 B15
  have P := P4.of rfl k15 k16 k17 k18
  have h6 := k15.own_
  have h7 := k16.own_
  have h8 := k17.own_
  have h9 := k18.own_
  have e19 := k19.own_
  refine ⟨_, k19.ld rfl, ifP_of (fun h0 => ?_) (fun h0 => ?_)⟩
  · have h0 : (faultG n m es).1 ≠ 0 := by simpa using h0
    have hc : wrong14 n m es l bf k = (faultG n m es).1 := by unfold wrong14; rw [if_neg h0]
    have kk : ∀ {q q' : H}, Bl q b15 [.int .i64 (faultG n m es).1, .int .i64 (faultG n m es).2] → K4 b3 b5 b7 b9 q q' → Bl q' b15 [.int .i64 (faultG n m es).1, .int .i64 (faultG n m es).2] := fun B k4 => by
      obtain ⟨e, hb⟩ := B
      exact ⟨e, k4 _ _ (by rintro rfl; omega) (by rintro rfl; omega) (by rintro rfl; omega) (by rintro rfl; omega) hb⟩
    refine P.k6.ldN rfl ⟨_, k19.ld rfl, P.s6 rfl plZ_one fun q1 K1 P => ?_⟩
    have B1' := kk k19.bl K1
    refine ⟨sameAt_bl k19.bl B1', P.s7 fun q2 K2 P => ?_⟩
    have B2' := kk B1' K2
    refine ⟨sameAt_bl B1' B2', P.s8 fun q3 K3 P => ?_⟩
    have B3' := kk B2' K3
    refine ⟨sameAt_bl B2' B3', P.s9 fun q4 K4_ P => ?_⟩
    exact P.read ⟨K4.ext_ bs.ext n3 n5 n7 n9 (((K1.trans K2).trans K3).trans K4_), .inl ⟨by rw [hc]; exact h0, by rw [hc]⟩⟩
  have h0 : (faultG n m es).1 = 0 := by simpa using h0
  obtain ⟨n, rfl, gd⟩ := Gd.of h0
  refine k14.ldN G.one.1 ((supplied_T (G.ext bs.ext) (by have := gd.n1; omega) (Z.ext bs.ext)).mono ?_)
  rintro _ q3 ⟨x, hr⟩
  have bs := bs.ext_ x
  have k14 := k14.ext x
  have k15 := k15.ext x
  have k16 := k16.ext x
  have k17 := k17.ext x
  have k18 := k18.ext x
  have P := P4.of rfl k15 k16 k17 k18
  rcases hr with ⟨hs, rfl⟩ | ⟨hs, rfl⟩
  rotate_left
  · refine rt_ret ⟨_, rfl, ifP_of (fun _ => ?_) (fun h => by simp at h)⟩
    have hc : wrong14 n m es l bf k = 130 := by unfold wrong14; rw [if_pos h0, if_neg hs]
    exact P.k6.ldN rfl (err14 bs.ext n3 n5 n7 n9 P hc (by omega))
  refine rt_ret ⟨_, rfl, ifP_of (fun h => by simp at h) (fun _ => ?_)⟩
  have hnl : n = l := by have := hs.1; omega
  subst hnl
  have E := gd.ev hs
  refine k14.ldN G.one.1 ((mnet_T (G.ext bs.ext) gd (Z.ext bs.ext)).mono ?_)
  rintro _ q4 ⟨bn, own', rfl, bs4, N⟩
  have F4 : Fm [] ow q3 (mgO q3 ow own') q4 := bs4.mg
  have N : MN (mgO q3 ow own') q4 bn _ _ _ _ _ _ _ _ := N.mg bs4
  have bs := bs.fm F4 (by simp <;> omega)
  have k14 := k14.fm F4 (by simp <;> omega)
  have k15 := k15.fm F4 (by simp <;> omega)
  have k16 := k16.fm F4 (by simp <;> omega)
  have k17 := k17.fm F4 (by simp <;> omega)
  have k18 := k18.fm F4 (by simp <;> omega)
  generalize mgO q3 ow own' = ow4 at *
  have S : MS ow4 q4 bn n m (frE es) (toE es) (cpE es) bf (cA (ckE es)) (room0 (cpE es)) bf (fun _ => 0) := ⟨N, room0_ok fun i hi => (gd.c i hi).1, fun v hv => by rw [room0_out]; omega⟩
  have r0 : ∀ i, i < m → room0 (cpE es) (2 * i + 1) = 0 := fun i _ => by unfold room0; rw [if_neg (by omega)]
  have hcost : ∀ a, a < 2 * m → cA (ckE es) a = cA (ckE es) a := fun _ _ => rfl
  have hok : 1 ≤ k ∧ k ≤ 3 → wrong14 n m es n bf k = 0 := fun h => by unfold wrong14; rw [if_pos h0, if_pos hs, if_pos h]
  have up : ∀ {M : List Nat} {own : Own} {h : H} {r : Res} {h' : H}, M ⊆ [3, 6, 7, 8, 10, 13, 20, 21, 22] → MeetA M own h bn n m (frE es) (toE es) (cpE es) bf (cA (ckE es)) r h' → MeetA [3, 6, 7, 8, 10, 13, 20, 21, 22] own h bn n m (frE es) (toE es) (cpE es) bf (cA (ckE es)) r h' :=
    fun hM ⟨o, F, r⟩ => ⟨o, F.mono hM, r⟩
  refine rt_ret (ifP_of (fun h1 => ?_) (fun h1 => ?_))
  · have h1 := of_decide_eq_true h1
    refine oneP_ptr ⟨b1, b3, b5, b7, b9, _, _, rfl, ?_⟩
    exact SolveB_T G Z gd (hok (by omega)) bs k14 k15 k16 k17 k18 E (f1 := F.mincost_ways_meet) (rv := .agg ⟨[.pointer (some (bk bn))]⟩) (room := fun _ => 0) (pot := fun _ => 0) (fun K hK => ⟨_, _, fun w _ => meth70 _ w, hK⟩) ((ways_T S E gd.k hcost r0 fun _ _ => rfl).mono fun r h' hr => up (by simp) hr) ⟨_, _, _, S⟩
  · exact absurd hk1 (of_decide_eq_false h1)
end

end Go.Proofs.YtdcamadeblojdaaGreat

namespace Go.Proofs.YtdcamadeblojdaaGreat
open Go
set_option linter.unusedVariables false
set_option linter.unusedSimpArgs false

theorem sumN_split {a : Nat} {f : Nat → Int} : ∀ {b : Nat}, sumN (a + b) f = sumN a f + sumN b fun i => f (a + i)
  | 0 => by show sumN a f = sumN a f + 0; omega
  | b + 1 => by
    show sumN (a + b) f + f (a + b) = sumN a f + (sumN b (fun i => f (a + i)) + f (a + b))
    rw [sumN_split]; omega
/-- A graph that may be somewhat too large for the program. -/
structure Gm (n m : Nat) (es : Nat → Ed) : Prop where
  n1 : n ≤ 1100
  m1 : m ≤ 8000
  f : ∀ i, i < m → ∃ v : Nat, (es i).f = v ∧ v < n
  t : ∀ i, i < m → ∃ v : Nat, (es i).t = v ∧ v < n
  c : ∀ i, i < m → 0 ≤ (es i).c ∧ (es i).c ≤ 1048576
  k : ∀ i, i < m → -1048576 ≤ (es i).k ∧ (es i).k ≤ 1048576
theorem Gm.fr {n m : Nat} {es : Nat → Ed} (g : Gm n m es) {i : Nat} (hi : i < m) : (es i).f = (frE es i : Nat) ∧ frE es i < n := by
  obtain ⟨v, e, hv⟩ := g.f i hi
  unfold frE
  rw [e]; exact ⟨by simp, by simpa using hv⟩
theorem Gm.to {n m : Nat} {es : Nat → Ed} (g : Gm n m es) {i : Nat} (hi : i < m) : (es i).t = (toE es i : Nat) ∧ toE es i < n := by
  obtain ⟨v, e, hv⟩ := g.t i hi
  unfold toE
  rw [e]; exact ⟨by simp, by simpa using hv⟩
end Go.Proofs.YtdcamadeblojdaaGreat

namespace Go.Proofs.YtdcamadeblojdaaGreat
open Go
set_option linter.unusedVariables false
set_option linter.unusedSimpArgs false

/-- The graph of awake. -/
def esB (i : Nat) : Ed := match i with
  | 0 => ⟨0, 1, 9, 5⟩
  | _ => ⟨0, 1, 2, 3⟩
def bB (x y : Int) (i : Nat) : Int := match i with
  | 0 => x
  | _ => y
theorem Bl.rs {h : H} {b : Nat} {vs : List Value} (B : Bl h b vs) : RS h (.slice (some (bk b)) vs.length vs.length) vs := by
  refine ⟨_, _, rfl, fun j x hj => ⟨_, rfl, ?_⟩⟩
  rw [Nat.mul_one]; exact B.ld hj
section
variable {h : H} {own : Own} {n m l : Nat} {es : Nat → Ed} {bf f p : Nat → Int} {vs von vp : Value}
theorem PlanR.one (P : PlanR own h n m es bf vs von vp f p) : ∀ v ∈ plV vs von vp, v.oneCell' = true := by
  intro v hv
  simp only [List.mem_cons, List.not_mem_nil, or_false] at hv
  rcases hv with rfl | rfl | rfl
  · exact P.s.one
  · exact P.o.one
  · exact P.po.one
end

end Go.Proofs.YtdcamadeblojdaaGreat

namespace Go.Proofs.YtdcamadeblojdaaGreat
open Go
set_option linter.unusedVariables false
set_option linter.unusedSimpArgs false

section
variable {h : H} {w : List Value} {n : Int} {m l : Nat} {es : Nat → Ed} {sv : Value} {bf : Nat → Int}
theorem PlanP.none_ {sd : Nat → Bool} {f : Nat → Int} (gd : Gd l m es) (P : PlanP l m (frE es) (toE es) (cpE es) bf f) : ¬ cutC m (frE es) (toE es) (cpE es) (fun v => sd v = true) < sumN l fun v => if sd v = true then bf v else 0 := fun hl => by
  have := P.side gd.ends (fun v => sd v = true)
  have e : (sumN l fun v => if sd v = true then bf v else 0) = sumN l fun v => @ite Int (sd v = true) (Classical.propDecidable _) (bf v) 0 := sumN_congr fun v _ => by by_cases h : sd v = true <;> simp [h]
  rw [e] at hl
  omega
end

end Go.Proofs.YtdcamadeblojdaaGreat

namespace Go.Proofs.YtdcamadeblojdaaGreat
open Go
set_option linter.unusedVariables false
set_option linter.unusedSimpArgs false

/-- The graph of flows. -/
def esC (_ : Nat) : Ed := ⟨0, 1, 2, 1⟩
theorem esC_flow : FlowP 2 1 (frE esC) (toE esC) (cpE esC) 0 1 (fun _ => 2) := ⟨by decide, by decide⟩
theorem esC_max : MaxP 2 1 (frE esC) (toE esC) (cpE esC) 0 1 (fun _ => 2) := by
  refine ⟨esC_flow, fun r => ?_⟩
  have := r.closed (C := fun v => v = 0) rfl (by
    rintro u v rfl ⟨i, hi, h⟩
    rcases h with ⟨h1, h2, h3⟩ | ⟨h1, h2, h3⟩
    · exact absurd h3 (by show ¬ (2 : Int) < 2; decide)
    · exact h2.symm)
  omega
theorem esC_13 : wrong13 2 1 esC 0 1 1 = 0 := by decide
theorem esC_14 : wrong14 2 1 esC 2 (bB 2 (-2)) 1 = 0 := by decide
theorem esC_plan : PlanP 2 1 (frE esC) (toE esC) (cpE esC) (bB 2 (-2)) (fun _ => 2) := ⟨by decide, by decide⟩
end Go.Proofs.YtdcamadeblojdaaGreat

namespace Go.Proofs.YtdcamadeblojdaaGreat
open Go
set_option linter.unusedVariables false
set_option linter.unusedSimpArgs false

section
variable {h : H}
theorem flows2_R : T Tryz.prog F.compasstop_flows [] h fun r h' => r = .ret (.bool true) ∧ Ext h h' := by
  refine E_compasstop_flows ?_
  unfold B_compasstop_flows
  refine ⟨rfl, new_bl ?_⟩
  intro b1 q1 hb1 x1 B1_
  have Gv : Gs q1 (.slice (some (bk b1)) 1 1) 1 esC := by
    refine ⟨_, _, rfl, fun i hi => ⟨_, rfl, fun j v hj => ?_⟩⟩
    rw [bk_add, bk_add2, ← bk_add]
    refine B1_.ld ?_
    match i, hi with
    | 0, _ => match j, hj with
      | 0, hj => exact hj
      | 1, hj => exact hj
      | 2, hj => exact hj
      | 3, hj => exact hj
  refine new_bl_st rfl rfl (by simp [Value.oneCell']) ?_
  intro b3 q5 hb3 x5 B3
  have x15 := x1.trans' x5
  have Gv := Gv.ext x5
  refine B3.ldN rfl ((Solve1_T (Gv.gr 2) 0 1 1 rfl).mono ?_)
  intro r q6 hA
  obtain ⟨x6, ⟨hw, _⟩ | ⟨_, n', s', t', c1, c2, f, sd, e1, e2, e3, hs, ht, hst, gd, rfl, S⟩⟩ := hA
  · exact absurd esC_13 hw
  have : n' = 2 := by omega
  subst this
  have : s' = 0 := by omega
  subst this
  have : t' = 1 := by omega
  subst this
  have hv : OutF 1 (frE esC) (toE esC) f 0 = 2 := (S.mx.uniq esC_max (by decide) (by omega)).1
  rw [hv]
  refine rt_ret ⟨_, rfl, _, _, rfl, new_bl_st rfl rfl (by simp [Value.oneCell']) ?_⟩
  intro b12 q14 hb12 x14 B12
  have xa := x6.trans' x14
  refine (B3.ext xa).ldN rfl (new_bl ?_)
  intro b16 q17 hb16 x17 B16
  have xb := xa.trans' x17
  refine (MSolve1_T ((Gv.ext xb).gr 2) (l := 2) (bf := bB 2 (-2)) B16.rs 1 rfl).mono ?_
  rintro _ q19 ⟨x19, hr⟩
  rcases hr with ⟨h, _⟩ | ⟨_, _, gd2, hr⟩
  · exact absurd esC_14 h
  rcases hr with ⟨own, vs, von, vp, f2, p, rfl, bs, P⟩ | ⟨bs, sd2, rfl, _, _, hl⟩
  rotate_left
  · exact absurd hl (esC_plan.none_ gd2)
  have h3 := P.pl.out 0 (by omega)
  change (0 + (f2 0 - 0)) = 2 at h3
  have ht : totC 1 (ckE esC) f2 = 2 := by
    show 0 + 1 * f2 0 = 2; omega
  rw [ht]
  refine rt_ret ⟨_, rfl, _, _, _, rfl, new_bl_st rfl rfl P.one ?_⟩
  intro b24 q25 hb24 x25 B24
  refine ifP_of (fun _ => ifP_of (fun _ => ifP_of (fun _ => ⟨rfl, ((x15.trans' xb).trans' x19).trans' x25⟩) (fun h => by simp at h)) (fun h => by simp at h)) (fun h => by simp at h)
end

end Go.Proofs.YtdcamadeblojdaaGreat

namespace Go.Proofs.YtdcamadeblojdaaGreat
open Go
set_option linter.unusedVariables false
set_option linter.unusedSimpArgs false

/-- The columns that a row may have. -/
def al (wd u c : Nat) : Prop := c < wd ∨ c = wd + u
instance {wd u c : Nat} : Decidable (al wd u c) := by unfold al; infer_instance
end Go.Proofs.YtdcamadeblojdaaGreat

namespace Go.Proofs.YtdcamadeblojdaaGreat
open Go
set_option linter.unusedVariables false
set_option linter.unusedSimpArgs false

abbrev lfE (es : Nat → Ed) (i : Nat) : Nat := min (frE es i) (toE es i)
abbrev rtE (es : Nat → Ed) (i : Nat) : Nat := max (frE es i) (toE es i)
/-- What edges of a list cost. -/
def lkE (es : Nat → Ed) : List Nat → Int
  | [] => 0
  | i :: l => (es i).k + lkE es l
/-- A matching of two sides with potentials that prove that none costs more. -/
structure MaR (n m left : Nat) (es : Nat → Ed) (L : List Nat) (pt : Nat → Int) : Prop where
  lt : ∀ i, i ∈ L → i < m
  nd : L.Pairwise fun i j => lfE es i ≠ lfE es j ∧ rtE es i ≠ rtE es j
  po : ∀ v, v < n → 0 ≤ pt v ∧ pt v ≤ 2147483648
  co : ∀ i, i < m → (es i).k ≤ pt (frE es i) + pt (toE es i)
  su : sumN n pt = lkE es L
  ln : L.length ≤ 1024
end Go.Proofs.YtdcamadeblojdaaGreat

namespace Go.Proofs.YtdcamadeblojdaaGreat
open Go
set_option linter.unusedVariables false
set_option linter.unusedSimpArgs false

/-- The table in the heap. -/
structure Tb (own : Own) (h : H) (bt left wd m : Nat) (es : Nat → Ed) (bs : Nat → Nat → Nat) : Prop where
  q : ∃ (vb vc : Value) (vals : Nat → Value), B1 own h 1 bt [.int .i64 left, .int .i64 ((left + wd : Nat) : Int), vb, vc] ∧ S1 own h 2 vb (va left vals) ∧ S1 own h 3 vc (ints m (ckE es)) ∧
    ∀ v, v < left → S1 own h (40 + v) (vals v) (ints wd fun c => (bs v c : Nat))
theorem B1.rI {own : Own} {h : H} {i b j : Nat} {vs : List Value} {x : Int} {K : Int → Prop} (B : B1 own h i b vs) (hi : vs[j]? = some (.int .i64 x)) (k : K x) : ldI h ((bk b).add j) .i64 K := ⟨x, B.ld hi, k⟩
theorem B1.rV {own : Own} {h : H} {i b j : Nat} {vs : List Value} {x : Value} {K : Value → Prop} (B : B1 own h i b vs) (hi : vs[j]? = some x) (k : K x) : ldV h ((bk b).add j) K := ⟨x, B.ld hi, k⟩
end Go.Proofs.YtdcamadeblojdaaGreat

namespace Go.Proofs.YtdcamadeblojdaaGreat
open Go
set_option linter.unusedVariables false
set_option linter.unusedSimpArgs false
set_option maxHeartbeats 1000000

theorem S1.cg {own : Own} {h : H} {i n : Nat} {v : Value} {f g : Nat → Int} (s : S1 own h i v (ints n f)) (e : ∀ j, j < n → f j = g j) : S1 own h i v (ints n g) := by rw [← ints_ext e]; exact s
theorem upd_to {f g : Nat → Int} {j : Nat} {x : Int} (hx : x = g j) (c : Nat) : upd (fun c => if c < j then g c else f c) j x c = if c < j + 1 then g c else f c := by
  by_cases e : c = j
  · subst e; rw [upd_at, if_pos (by omega), hx]
  · rw [upd_ne e]
    show (if c < j then g c else f c) = _
    by_cases h : c < j
    · rw [if_pos h, if_pos (by omega)]
    · rw [if_neg h, if_neg (by omega)]
end Go.Proofs.YtdcamadeblojdaaGreat

namespace Go.Proofs.YtdcamadeblojdaaGreat
open Go
set_option linter.unusedVariables false
set_option linter.unusedSimpArgs false
set_option maxHeartbeats 1000000

theorem sliceV1_n {b c k : Nat} : sliceV (some (bk b)) c 0 (k : Int) 1 = .slice (some (bk b)) k c := by
  unfold sliceV
  split <;> simp [bk, Addr.add]
end Go.Proofs.YtdcamadeblojdaaGreat

