import Derived.Test.YtgbmkfifjijoiaaK26
/-! LinkPlays. -/
namespace Go.Proofs.Ytgbmkfifjijoiaa
open Go
set_option linter.unusedVariables false

theorem LinkPlays_T {h : H} {s : Value} {l : Nat} {ops : Nat → Opn} (S : Scr h s l ops) (hl : l * 32 ≤ 140737488351232) (n : Int) :
    T Try.prog F.compasslaw07_LinkPlays [.int .i64 n, s] h fun r h' => r = .ret (.bool true) ∧ Ext h h' := by
  refine E_compasslaw07_LinkPlays ?_
  unfold B_compasslaw07_LinkPlays
  refine (awake_T h).mono ?_
  rintro _ h2 ⟨rfl, x2⟩
  refine ⟨_, rfl, ifP_of (fun hh => by cases hh) (fun _ => ?_)⟩
  refine (New_T h2 n).mono ?_
  rintro _ h5 ⟨x5, ⟨hbad, rfl⟩ | ⟨hn0, hn1, bf, bn, rfl, hbf, hbn, P⟩⟩
  · refine ⟨_, _, rfl, ?_⟩
    refine (New_R h5 (fun _ => True) n (fun _ _ => trivial)).mono ?_
    rintro _ h9 ⟨x9, ⟨_, w, hw, one, rfl⟩ | ⟨a, b, _⟩⟩
    · refine ⟨_, hw, _, rfl, ?_⟩
      refine new_bl_st hw rfl one ?_
      intro b12 h14 _ x14 _
      refine ifP_of (fun hh => by simp at hh) (fun _ => ptrO_mk ?_)
      refine ifP_of (fun hh => by simp at hh) (fun _ => ptrO_mk ?_)
      exact ifP_of (fun _ => ⟨rfl, ((x2.trans' x5).trans' x9).trans' x14⟩) (fun hh => by simp at hh)
    · omega
  · obtain ⟨m, rfl⟩ : ∃ m : Nat, n = m := ⟨n.toNat, by omega⟩
    rw [Int.toNat_natCast] at P
    refine ⟨_, _, rfl, ?_⟩
    refine (New_R h5 (· ≠ bn) m P.bn_ne).mono ?_
    rintro _ h9 ⟨x9, ⟨hbad, _⟩ | ⟨_, _, w, rfl, r⟩⟩
    · omega
    rw [Int.toNat_natCast] at r
    refine ⟨_, r.one.1, _, rfl, ?_⟩
    refine new_bl_st r.one.1 rfl r.one.2 ?_
    intro b12 h14 hb12 x14 B12
    have hbnh := x2.new hbn
    have x2' := ((x2.trans' x5).trans' x9)
    have hb12h := x2'.new hb12
    have xh := x2'.trans' x14
    have P14 := (P.ext x9).ext x14
    have r14 := (r.avoid hb12).ext x14
    have n12 := (P.ext x9).bn_ne b12 hb12
    have n12f := ((P.ext x9).ne hb12).1
    refine ifP_of (fun hh => by simp at hh) (fun _ => ptrO_mk ?_)
    refine ifP_of (fun hh => by simp at hh) (fun _ => ptrO_mk ?_)
    refine ifP_of (fun hh => by simp at hh) (fun _ => ?_)
    obtain ⟨a, c, rfl, hS⟩ := S
    refine slcP_mk ?_
    let I20 : (Int × Unit) → H → Nat → Prop := fun s g k => ∃ (i : Nat) (w : List Value) (par tv : Nat → Int), s.1 = i ∧ i ≤ l ∧ k = l - i ∧ Ext h g ∧ Forest g bf bn m par tv ∧
      RF (fun b => b ≠ bn ∧ b ≠ b12) g w m par tv ∧ Bl g b12 w ∧ Bd m tv ((i : Int) * 1048576)
    refine ⟨fun s g => ∃ k, I20 s g k, rk I20, rk_wf I20, ⟨_, 0, w, _, _, rfl, by omega, rfl, xh, P14, r14, B12, fun y hy => by show _ ≤ (0 : Int) ∧ (0 : Int) ≤ _; omega⟩, ?_⟩
    intro s g hI
    obtain ⟨i, w, par, tv, e1, hil, hk, xg, Pg, rg, Bg, Bdg⟩ := mu_spec hI
    generalize hkk : mu I20 ((s, ()), g) = k at *
    change s = (i : Int) at e1
    subst e1
    refine ifP_of (fun h0 => ?_) (fun h0 => ?_)
    · have hil : i < l := by have := of_decide_eq_true h0; omega
      obtain ⟨ad, rfl, hc⟩ := hS i hil
      refine ⟨by omega, by omega, ?_⟩
      rw [Int.toNat_natCast]
      refine ⟨(ops i).vs, rfl, fun j v hj => xg.cell (hc j v hj), ?_⟩
      refine new_bl_st rfl rfl (op_one _) ?_
      intro b26 g28 hb26 x28 B26
      refine (Bg.ext x28).ldN rg.one.1 (B26.ldN rfl ?_)
      refine (step_T (ok := fun b => b ≠ bn ∧ b ≠ b12) (fun b hb => ⟨(Pg.ext x28).bn_ne b hb, fun e => (Bg.ext x28).ne hb e.symm⟩) (fun b hb => hb.1) (Pg.ext x28) (rg.ext x28) (ops i) (b := (i : Int) * 1048576) (by omega) (by omega) Bdg).mono ?_
      rintro _ g32 ⟨w', par', tv', rfl, k32, P32, r32, Bd32⟩
      refine ⟨_, r32.one.1, _, rfl, ?_⟩
      have Bg32 := (Bg.ext x28).kp k32 n12
      refine Bg32.stN r32.one.1 rg.one.1 r32.one.2 ?_
      intro g35 k35 B35
      refine ifP_of (fun hh => by cases hh) (fun _ => ?_)
      rw [i64_inc (by omega)]
      have xg35 := ((xg.trans' x28).of_kp k32 hbnh).of_kp k35 hb12h
      refine mu_next (I := I20) (k := l - (i + 1)) ⟨i + 1, w', par', tv', rfl, hil, rfl, xg35, P32.kp k35 n12f n12, r32.kp' k35 (fun b hb => hb.2), B35, ?_⟩ (by rw [hkk, hk]; omega)
      have : ((i + 1 : Nat) : Int) * 1048576 = (i : Int) * 1048576 + 1048576 := by omega
      rw [this]
      exact Bd32
    · obtain ⟨pv, vv, hwe, pa, pb⟩ := rg.ex
      obtain ⟨a0, c0, hpv⟩ := pa.shape
      refine ⟨_, Bg.ld (v := pv) (by rw [hwe]; rfl), ?_⟩
      rw [hpv]
      refine slcP_mk ?_
      let I42 : (Int × Unit) → H → Nat → Prop := fun s g => fun k => ∃ i : Nat, s.1 = i ∧ i ≤ m ∧ k = m - i ∧ Ext h g ∧ Forest g bf bn m par tv ∧ RF (fun b => b ≠ bn ∧ b ≠ b12) g w m par tv ∧ Bl g b12 w
      refine ⟨fun s g => ∃ k, I42 s g k, rk I42, rk_wf I42, ⟨_, 0, rfl, by omega, rfl, xg, Pg, rg, Bg⟩, ?_⟩
      intro s2 g2 hI2
      obtain ⟨j, e2, hj, hk2, xg2, Pg2, rg2, Bg2⟩ := mu_spec hI2
      generalize hkk2 : mu I42 ((s2, ()), g2) = k2 at *
      change s2 = (j : Int) at e2
      subst e2
      refine ifP_of (fun h1 => ?_) (fun h1 => ⟨rfl, xg2⟩)
      have hj2 : j < m := by have := of_decide_eq_true h1; omega
      refine Bg2.ldN rg2.one.1 ?_
      refine (tells_T Pg2 (rg2.imp fun b hb => hb.1) ⟨0, j, 0, 0⟩).mono ?_
      rintro _ g3 ⟨rfl, k3, P3⟩
      refine ⟨_, rfl, ifP_of (fun hh => by cases hh) (fun _ => ?_)⟩
      rw [i64_inc (by omega)]
      exact mu_next (I := I42) (k := m - (j + 1)) ⟨j + 1, rfl, hj2, rfl, xg2.of_kp k3 hbnh, P3, rg2.kp' k3 (fun b hb => hb.1), Bg2.kp k3 n12⟩ (by rw [hkk2, hk2]; omega)

end Go.Proofs.Ytgbmkfifjijoiaa
