import Derived.Test.YtdblngaacnpgmaaAK3
namespace Go.Proofs.Ytdblngaacnpgmaa
open Go
open Classical
set_option linter.unusedVariables false
set_option linter.unusedSimpArgs false
set_option maxHeartbeats 1000000

theorem methPushB (a : Addr) (w : World) : (method (Try.prog.types.size + Made.depth) 135 (.pointer (some a)) "compass/heaps.push").run Try.prog w = .ok (F.heaps_binary_push, .pointer (some a)) w := by kernel_rfl
theorem methLowerB (a : Addr) (w : World) : (method (Try.prog.types.size + Made.depth) 135 (.pointer (some a)) "compass/heaps.lower").run Try.prog w = .ok (F.heaps_binary_lower, .pointer (some a)) w := by kernel_rfl
theorem methTopB (a : Addr) (w : World) : (method (Try.prog.types.size + Made.depth) 135 (.pointer (some a)) "compass/heaps.top").run Try.prog w = .ok (F.heaps_binary_top, .pointer (some a)) w := by kernel_rfl
theorem methPopB (a : Addr) (w : World) : (method (Try.prog.types.size + Made.depth) 135 (.pointer (some a)) "compass/heaps.pop").run Try.prog w = .ok (F.heaps_binary_pop, .pointer (some a)) w := by kernel_rfl
theorem S1.form {own : Own} {h : H} {i : Nat} {v : Value} {vs : List Value} (s : S1 own h i v vs) (hn : vs ≠ []) : ∃ b c, v = .slice (some (bk b)) vs.length c ∧ vs.length ≤ c := by
  rcases s with ⟨e, _⟩ | ⟨b, hb, c, e, zs, h1, h2, h3⟩
  · exact absurd e hn
  · exact ⟨b, c, h1, by omega⟩

section
variable {own : Own} {h : H} {bq bb n k i x : Nat} {key pl : Nat → Int} {held : Nat → Bool} {hp : Nat → Nat} {A : Nat → Prop} {vk vh vp vl : Value} {ws : List Value} {cnt last : Int}
abbrev hpv (hp : Nat → Nat) : Nat → Int := fun j => (hp j : Nat)
theorem bahead_T (k1 : B1 own h 31 bq (vk :: ws)) (k3 : S1 own h 33 vk (ints n key)) {a b : Nat} (ha : a < n) (hb : b < n) :
    T Try.prog F.heaps_keyed_ahead [.pointer (some (bk bq)), .int .i64 a, .int .i64 b] h fun r h' => ∃ t : Bool, r = .ret (.bool t) ∧ (t = true ↔ ahd key a b) ∧ h = h' := by
  refine E_heaps_keyed_ahead ?_
  unfold B_heaps_keyed_ahead
  refine ptrP_mk (ptrP_mk (k1.rV rfl (k3.rdI ha (k1.rV rfl (k3.rdI hb (ifP_of (fun h1 => ?_) (fun h1 => ?_)))))))
  · exact ⟨true, rfl, ⟨fun _ => .inl (of_decide_eq_true h1), fun _ => rfl⟩, rfl⟩
  have h1 := of_decide_eq_false h1
  refine ptrP_mk (ptrP_mk (k1.rV rfl (k3.rdI ha (k1.rV rfl (k3.rdI hb (ifP_of (fun h2 => ?_) (fun h2 => ?_)))))))
  · have h2 := of_decide_eq_true h2
    refine ⟨_, rfl, ?_, rfl⟩
    rw [decide_eq_true_iff]
    unfold ahd; omega
  · have h2 := of_decide_eq_false h2
    refine ⟨false, rfl, ?_, rfl⟩
    unfold ahd
    constructor
    · intro h; cases h
    · intro h; omega
theorem bput_T (k2 : B1 own h 32 bb [.pointer (some (bk bq)), vp, vl]) (k5 : S1 own h 35 vp (ints k (hpv hp))) (k6 : S1 own h 36 vl (ints n pl)) (hi : i < k) (hx : x < n) :
    T Try.prog F.heaps_binary_put [.pointer (some (bk bb)), .int .i64 i, .int .i64 x] h fun r h' => r = .ret (.tuple ⟨[]⟩) ∧ Fm [35, 36] own h own h' ∧ S1 own h' 35 vp (ints k (hpv (updN hp i x))) ∧ S1 own h' 36 vl (ints n (upd pl x i)) := by
  refine E_heaps_binary_put ?_
  unfold B_heaps_binary_put
  refine ptrP_mk (ptrP_mk (k2.rV rfl (k2.rV rfl (k5.setI hi fun g1 F1 k5 => ?_))))
  have k6 := k6.fm F1 (by simp <;> omega)
  refine k6.setI hx fun g2 F2 k6 => ?_
  have k5 := k5.fm F2 (by simp <;> omega)
  refine ⟨rfl, (F1.mono (by simp)).trans (F2.mono (by simp)), k5.cg fun j _ => ?_, k6⟩
  by_cases e : j = i
  · subst e; rw [upd_at]; show _ = ((updN hp j x j : Nat) : Int); rw [updN_at]
  · rw [upd_ne e]; show _ = ((updN hp i x j : Nat) : Int); rw [updN_ne e]
theorem half_w {i : Nat} (h0 : 0 < i) (h1 : i ≤ 1024) : IntKind.i64.wrap ((IntKind.i64.wrap ((i : Int) - 1)).tdiv 2) = (((i - 1) / 2 : Nat) : Int) := by
  have e : IntKind.i64.wrap ((i : Int) - 1) = ((i - 1 : Nat) : Int) := by rw [show ((i : Int) - 1) = ((i - 1 : Nat) : Int) by omega]; exact w64_in (by omega) (by omega)
  rw [e, Int.tdiv_eq_ediv_of_nonneg (by omega), show (((i - 1 : Nat) : Int) / 2) = (((i - 1) / 2 : Nat) : Int) by omega]
  exact w64_in (by omega) (by omega)
/-- The engine of a queue, from a free place up. -/
theorem blower_T (k1 : B1 own h 31 bq (vk :: ws)) (k3 : S1 own h 33 vk (ints n key)) (k2 : B1 own h 32 bb [.pointer (some (bk bq)), vp, vl]) (k5 : S1 own h 35 vp (ints k (hpv hp))) (k6 : S1 own h 36 vl (ints n pl))
    (G : HoP k hp pl A key i x) (u : UpP k hp key i x) (hpl : pl x = i) (hA : ∀ v, A v → v < n) (hk : k ≤ 1024) :
    T Try.prog F.heaps_binary_lower [.pointer (some (bk bb)), .int .i64 x] h fun r h' => r = .ret (.tuple ⟨[]⟩) ∧ Fm [35, 36] own h own h' ∧ ∃ hp' pl', S1 own h' 35 vp (ints k (hpv hp')) ∧ S1 own h' 36 vl (ints n pl') ∧ HpP k hp' pl' A key := by
  have hx : x < n := hA x G.ax
  refine E_heaps_binary_lower ?_
  unfold B_heaps_binary_lower
  refine ptrP_mk (k2.rV rfl (k6.rdI hx ?_))
  rw [hpl]
  let I : (Int × Unit) → H → Nat → Prop := fun s g z => ∃ (i : Nat) (hp : Nat → Nat) (pl : Nat → Int), s.1 = i ∧ z = i ∧ Fm [35, 36] own h own g ∧ S1 own g 35 vp (ints k (hpv hp)) ∧ S1 own g 36 vl (ints n pl) ∧ HoP k hp pl A key i x ∧ UpP k hp key i x
  refine ⟨fun p q => ∃ k, I p q k, rk I, rk_wf I, ⟨_, i, hp, pl, rfl, rfl, Fm.refl, k5, k6, G, u⟩, ?_⟩
  clear k5 k6 G u hpl
  intro s g hI
  obtain ⟨i, hp, pl, e1, hz, Fq, k5, k6, G, u⟩ := mu_spec hI
  generalize hkk : mu I ((s, ()), g) = km at *
  change s = (i : Int) at e1
  subst e1
  have hlt : ∀ p, p < i → p < mu I (((i : Int), ()), g) := fun p h => by rw [hkk, hz]; exact h
  clear hI
  have ik := G.ik
  have k1 := k1.fm Fq (by simp <;> omega)
  have k2 := k2.fm Fq (by simp <;> omega)
  have k3 := k3.fm Fq (by simp <;> omega)
  refine ifP_of (fun h1 => ?_) (fun h1 => ?_)
  · have h0 : 0 < i := by have := of_decide_eq_true h1; omega
    have ep := half_w h0 (by omega)
    obtain ⟨a1, a2, a3⟩ := G.in_ ((i - 1) / 2) (by omega) (by omega)
    refine ptrP_mk (ptrP_mk ⟨by decide, k2.rV rfl (k2.rV rfl ?_)⟩)
    rw [ep]
    refine k5.rdI (show (i - 1) / 2 < k by omega) ((bahead_T k1 k3 hx (hA _ a1)).mono ?_)
    rintro _ _ ⟨t, rfl, ht, rfl⟩
    refine rt_ret ⟨_, rfl, ifP_of (fun h2 => ?_) (fun h2 => ?_)⟩
    · refine ptrP_mk (k2.rV rfl ⟨by decide, ?_⟩)
      refine k5.rdI (show (i - 1) / 2 < k by omega) ((bput_T k2 k5 k6 ik (hA _ a1)).mono ?_)
      rintro _ g1 ⟨rfl, F1, k5, k6⟩
      obtain ⟨G2, u2⟩ := G.up u h0 (ht.1 h2)
      refine rt_ret ⟨rfl, by decide, ?_⟩
      exact mu_next (I := I) (k := (i - 1) / 2) ⟨_, _, _, rfl, rfl, Fq.trans F1, k5, k6, G2, u2⟩ (hlt _ (by omega))
    · refine (bput_T k2 k5 k6 ik hx).mono ?_
      rintro _ g1 ⟨rfl, F1, k5, k6⟩
      exact rt_ret ⟨rfl, rfl, Fq.trans F1, _, _, k5, k6, G.fill u fun _ h3 => by rw [ht.2 h3] at h2; cases h2⟩
  · have h0 : ¬ 0 < i := by have := of_decide_eq_false h1; omega
    refine (bput_T k2 k5 k6 ik hx).mono ?_
    rintro _ g1 ⟨rfl, F1, k5, k6⟩
    exact rt_ret ⟨rfl, rfl, Fq.trans F1, _, _, k5, k6, G.fill u fun h => absurd h h0⟩
theorem bpush_T (k1 : B1 own h 31 bq (vk :: ws)) (k3 : S1 own h 33 vk (ints n key)) (k2 : B1 own h 32 bb [.pointer (some (bk bq)), vp, vl]) (k5 : S1 own h 35 vp (ints k (hpv hp))) (k6 : S1 own h 36 vl (ints n pl))
    (G : HpP k hp pl A key) (hx : x < n) (hxA : ¬ A x) (hA : ∀ v, A v → v < n) (hk : k < 1024) :
    T Try.prog F.heaps_binary_push [.pointer (some (bk bb)), .int .i64 x] h fun r h' => r = .ret (.tuple ⟨[]⟩) ∧ ∃ own' vp' hp' pl', Fm [32, 35, 36] own h own' h' ∧ B1 own' h' 32 bb [.pointer (some (bk bq)), vp', vl] ∧ S1 own' h' 35 vp' (ints (k + 1) (hpv hp')) ∧
      S1 own' h' 36 vl (ints n pl') ∧ HpP (k + 1) hp' pl' (fun v => A v ∨ v = x) key := by
  refine E_heaps_binary_push ?_
  unfold B_heaps_binary_push
  refine ptrP_mk (k2.rV rfl ?_)
  refine k5.push (l := 1) rfl (by simp [Value.oneCell']) (by simp) (by omega) (by rw [ints_length]; omega) ?_
  intro bx g1 vp' own' g2 hbx x1 F1 k5
  have k1 := k1.fm F1 (by simp <;> omega)
  have k2 := k2.fm F1 (by simp <;> omega)
  have k3 := k3.fm F1 (by simp <;> omega)
  have k6 := k6.fm F1 (by simp <;> omega)
  have k5 : S1 own' g2 35 vp' (ints (k + 1) (hpv (updN hp k x))) := by
    have e : ints (k + 1) (hpv (updN hp k x)) = ints k (hpv hp) ++ [.int .i64 (x : Nat)] := by
      rw [ints_push_]
      congr 1
      · refine ints_ext fun j hj => ?_
        show ((updN hp k x j : Nat) : Int) = _
        rw [updN_ne (by omega)]
      · show [Value.int .i64 ((updN hp k x k : Nat) : Int)] = _
        rw [updN_at]
    rw [e]; exact k5
  refine ptrP_mk (oneP_slc k5.isS (k2.st (j := 1) (by simp) fun g3 F2 k2 => ?_))
  simp only [List.set] at k2
  have k1 := k1.fm F2 (by simp <;> omega)
  have k3 := k3.fm F2 (by simp <;> omega)
  have k5 := k5.fm F2 (by simp <;> omega)
  have k6 := k6.fm F2 (by simp <;> omega)
  refine ptrP_mk (ptrP_mk (k2.rV rfl (k2.rV rfl (k5.len (ints_length _ _) fun _ _ => ?_))))
  have ew : IntKind.i64.wrap (((k + 1 : Nat) : Int) - 1) = (k : Int) := by rw [show ((k + 1 : Nat) : Int) - 1 = k by omega]; exact w64_in (by omega) (by omega)
  rw [ew]
  refine k6.setI hx fun g4 F3 k6 => ?_
  have k1 := k1.fm F3 (by simp <;> omega)
  have k2 := k2.fm F3 (by simp <;> omega)
  have k3 := k3.fm F3 (by simp <;> omega)
  have k5 := k5.fm F3 (by simp <;> omega)
  obtain ⟨G2, u2⟩ := G.more hxA
  -- the hole's own content does not matter
  have G3 : HoP (k + 1) (updN hp k x) (upd pl x k) (fun v => A v ∨ v = x) key k x := by
    have nk : ∀ j, j < k + 1 → j ≠ k → updN hp k x j = hp j := fun j _ h => updN_ne h
    refine ⟨G2.ik, G2.ax, fun j hj hne => ?_, fun v hv => ?_, fun j h0 hj n1 n2 => ?_, fun j h0 hj e1 h2 => by omega⟩
    · obtain ⟨b1, b2, b3⟩ := G2.in_ j hj hne
      rw [nk j hj hne, upd_ne b2]; exact ⟨b1, b2, b3⟩
    · rcases G2.on v hv with h | ⟨j, hj, hne, e⟩
      · exact .inl h
      · exact .inr ⟨j, hj, hne, by rw [nk j hj hne]; exact e⟩
    · rw [nk j hj n1, nk _ (by omega) n2]; exact G2.od j h0 hj n1 n2
  have u3 : UpP (k + 1) (updN hp k x) key k x := fun j h0 hj e1 => by omega
  refine (blower_T k1 k3 k2 k5 k6 G3 u3 upd_at (fun v hv => by
    rcases hv with hv | rfl
    · exact hA v hv
    · exact hx) (by omega)).mono ?_
  rintro _ g5 ⟨rfl, F4, hp', pl', k5, k6, G4⟩
  have k2 := k2.fm F4 (by simp <;> omega)
  exact rt_ret ⟨rfl, rfl, own', vp', hp', pl', (((F1.mono (by simp)).trans (F2.mono (by simp))).trans (F3.mono (by simp))).trans (F4.mono (by simp)), k2, k5, k6, G4⟩
theorem bpop_T (k1 : B1 own h 31 bq (vk :: ws)) (k3 : S1 own h 33 vk (ints n key)) (k2 : B1 own h 32 bb [.pointer (some (bk bq)), vp, vl]) (k5 : S1 own h 35 vp (ints (k + 1) (hpv hp))) (k6 : S1 own h 36 vl (ints n pl))
    (G : HpP (k + 1) hp pl A key) (hA : ∀ v, A v → v < n) (hk : k < 1024) :
    T Try.prog F.heaps_binary_pop [.pointer (some (bk bb))] h fun r h' => r = .ret (.tuple ⟨[]⟩) ∧ ∃ vp' hp' pl', Fm [32, 35, 36] own h own h' ∧ B1 own h' 32 bb [.pointer (some (bk bq)), vp', vl] ∧ S1 own h' 35 vp' (ints k (hpv hp')) ∧
      S1 own h' 36 vl (ints n pl') ∧ HpP k hp' pl' (fun v => A v ∧ v ≠ hp 0) key := by
  refine E_heaps_binary_pop ?_
  unfold B_heaps_binary_pop
  obtain ⟨b, c, rfl, hc⟩ := k5.form (by rw [ints_push_]; simp)
  rw [ints_length] at hc k5 k2
  have ew : IntKind.i64.wrap (((k + 1 : Nat) : Int) - 1) = (k : Int) := by rw [show ((k + 1 : Nat) : Int) - 1 = k by omega]; exact w64_in (by omega) (by omega)
  refine ptrP_mk (ptrP_mk (k2.rV rfl (k2.rV rfl (slcP_mk ?_))))
  rw [ew]
  refine k5.rdI (Nat.lt_succ_self k) (ptrP_mk (ptrP_mk (k2.rV rfl (k2.rV rfl (slcP_mk (slcP_mk ?_))))))
  rw [ew]
  refine ⟨by omega, by omega, by omega, by omega, ptrP_mk ?_⟩
  rw [sliceV1_n]
  refine oneP_mk (k2.st (j := 1) (by simp) fun g1 F1 k2 => ?_)
  simp only [List.set] at k2
  have k1 := k1.fm F1 (by simp <;> omega)
  have k3 := k3.fm F1 (by simp <;> omega)
  have k5 := k5.fm F1 (by simp <;> omega)
  have k6 := k6.fm F1 (by simp <;> omega)
  have hxk : hp k < n := hA _ (G.in_ k (by omega)).1
  have k5 := k5.takeN (show k ≤ k + 1 by omega)
  refine ptrP_mk (k2.rV rfl (slcP_mk (ifP_of (fun h1 => ?_) (fun h1 => ?_))))
  · have h1 : k = 0 := by have := of_decide_eq_true h1; omega
    subst h1
    exact ⟨rfl, _, hp, pl, F1.mono (by simp), k2, k5, k6, G.last⟩
  have h0 : 0 < k := by have := of_decide_eq_false h1; omega
  obtain ⟨G1, d1⟩ := G.take h0
  have hA' : ∀ v, (fun v => A v ∧ v ≠ hp 0) v → v < n := fun v hv => hA v hv.1
  rw [show hpv hp k = ((hp k : Nat) : Int) from rfl]
  generalize (fun v => A v ∧ v ≠ hp 0) = A' at *
  generalize hp k = x at *
  let I : (Int × Unit) → H → Nat → Prop := fun s g z => ∃ (i : Nat) (hp : Nat → Nat) (pl : Nat → Int), s.1 = i ∧ z = k - i ∧ Fm [35, 36] own g1 own g ∧ S1 own g 35 (.slice (some (bk b)) k c) (ints k (hpv hp)) ∧ S1 own g 36 vl (ints n pl) ∧ HoP k hp pl A' key i x ∧ DnP hp key i x
  refine ⟨fun p q => ∃ k, I p q k, rk I, rk_wf I, ⟨_, 0, hp, pl, rfl, rfl, Fm.refl, k5, k6, G1, d1⟩, ?_⟩
  clear k5 k6 G1 d1 G
  intro s g hI
  obtain ⟨i, hp, pl, e1, hz, Fq, k5, k6, G, d⟩ := mu_spec hI
  generalize hkk : mu I ((s, ()), g) = km at *
  change s = (i : Int) at e1
  subst e1
  have hlt : ∀ p, i < p → p < k → k - p < mu I (((i : Int), ()), g) := fun p h h2 => by rw [hkk, hz]; omega
  clear hI
  have ik := G.ik
  have k1 := k1.fm Fq (by simp <;> omega)
  have k2 := k2.fm Fq (by simp <;> omega)
  have k3 := k3.fm Fq (by simp <;> omega)
  have w1 : IntKind.i64.wrap ((IntKind.i64.wrap (2 * (i : Int))) + 1) = ((2 * i + 1 : Nat) : Int) := by
    rw [show IntKind.i64.wrap (2 * (i : Int)) = 2 * (i : Int) from w64_in (by omega) (by omega)]; exact w64_in (by omega) (by omega)
  have w2 : IntKind.i64.wrap (((2 * i + 1 : Nat) : Int) + 1) = ((2 * i + 2 : Nat) : Int) := w64_in (by omega) (by omega)
  rw [w1, w2]
  refine ⟨fun s g' => g' = g ∧ ∃ c : Nat, s.1 = c ∧ ((k ≤ c ∧ k ≤ 2 * i + 1) ∨ (c < k ∧ 0 < c ∧ (c - 1) / 2 = i ∧ ∀ j, 0 < j → j < k → (j - 1) / 2 = i → ¬ ahd key (hp j) (hp c))), ?_, ?_⟩
  · refine ifP_of (fun h2 => ?_) (fun h2 => ?_)
    · have h2 : 2 * i + 2 < k := by have := of_decide_eq_true h2; omega
      have a1 := (G.in_ (2 * i + 2) h2 (by omega)).1
      have a2 := (G.in_ (2 * i + 1) (by omega) (by omega)).1
      refine ptrP_mk (ptrP_mk (ptrP_mk (k2.rV rfl (k2.rV rfl (k5.rdI h2 (k2.rV rfl (k5.rdI (show 2 * i + 1 < k by omega) ((bahead_T k1 k3 (hA' _ a1) (hA' _ a2)).mono ?_))))))))
      rintro _ _ ⟨t, rfl, ht, rfl⟩
      refine rt_ret ⟨_, rfl, ifP_of (fun h3 => ?_) (fun h3 => ?_)⟩
      · refine ⟨rfl, 2 * i + 2, rfl, .inr ⟨h2, by omega, by omega, fun j j0 hj e => ?_⟩⟩
        have := ht.1 h3
        have : j = 2 * i + 1 ∨ j = 2 * i + 2 := by omega
        rcases this with rfl | rfl
        · exact ahd_as (ht.1 h3)
        · exact ahd_irr
      · have hn : ¬ ahd key (hp (2 * i + 2)) (hp (2 * i + 1)) := fun h => by rw [ht.2 h] at h3; cases h3
        refine ⟨rfl, 2 * i + 1, rfl, .inr ⟨by omega, by omega, by omega, fun j j0 hj e => ?_⟩⟩
        have : j = 2 * i + 1 ∨ j = 2 * i + 2 := by omega
        rcases this with rfl | rfl
        · exact ahd_irr
        · exact hn
    · have h2 : ¬ 2 * i + 2 < k := by have := of_decide_eq_false h2; omega
      refine ⟨rfl, 2 * i + 1, rfl, ?_⟩
      by_cases h3 : k ≤ 2 * i + 1
      · exact .inl ⟨h3, h3⟩
      · refine .inr ⟨by omega, by omega, by omega, fun j j0 hj e => ?_⟩
        have : j = 2 * i + 1 := by omega
        subst this; exact ahd_irr
  rintro c' g' ⟨hg, c', e1, hc'⟩
  change _ = (c' : Int) at e1
  subst hg e1
  refine ifP_of (fun h2 => ?_) (fun h2 => ?_)
  · have h2 : k ≤ c' := by have := of_decide_eq_true h2; omega
    refine (bput_T k2 k5 k6 ik (hA' _ G.ax)).mono ?_
    rintro _ g2 ⟨rfl, F2, k5, k6⟩
    have k2 := k2.fm F2 (by simp <;> omega)
    refine rt_ret ⟨rfl, rfl, _, _, _, (F1.mono (by simp)).trans ((Fq.trans F2).mono (by simp)), k2, k5, k6, G.fill (fun j j0 hj e => ?_) d⟩
    rcases hc' with h3 | h3 <;> omega
  · have h2 : c' < k := by have := of_decide_eq_false h2; omega
    rcases hc' with h3 | ⟨_, c0, ci, cm⟩
    · omega
    have a1 := (G.in_ c' h2 (by omega)).1
    refine ptrP_mk (ptrP_mk (k2.rV rfl (k2.rV rfl (k5.rdI h2 ((bahead_T k1 k3 (hA' _ a1) (hA' _ G.ax)).mono ?_)))))
    rintro _ _ ⟨t, rfl, ht, rfl⟩
    refine rt_ret ⟨_, rfl, ifP_of (fun h3 => ?_) (fun h3 => ?_)⟩
    · have hn : ¬ ahd key (hp c') x := fun h => by rw [ht.2 h] at h3; cases h3
      refine (bput_T k2 k5 k6 ik (hA' _ G.ax)).mono ?_
      rintro _ g2 ⟨rfl, F2, k5, k6⟩
      have k2 := k2.fm F2 (by simp <;> omega)
      exact rt_ret ⟨rfl, rfl, _, _, _, (F1.mono (by simp)).trans ((Fq.trans F2).mono (by simp)), k2, k5, k6, G.fill (fun j j0 hj e => ahd_nt (cm j j0 hj e) hn) d⟩
    · have ha : ahd key (hp c') x := ht.1 (by simpa using h3)
      refine ptrP_mk (k2.rV rfl (k5.rdI h2 ((bput_T k2 k5 k6 ik (hA' _ a1)).mono ?_)))
      rintro _ g2 ⟨rfl, F2, k5, k6⟩
      obtain ⟨G2, d2⟩ := G.down c' h2 ci c0 ha cm
      exact rt_ret ⟨rfl, mu_next (I := I) (k := k - c') ⟨c', _, _, rfl, rfl, Fq.trans F2, k5, k6, G2, d2⟩ (hlt c' (by omega) h2)⟩
end

end Go.Proofs.Ytdblngaacnpgmaa

namespace Go.Proofs.Ytdblngaacnpgmaa
open Go
open Classical
set_option linter.unusedVariables false
set_option linter.unusedSimpArgs false
set_option maxHeartbeats 1000000

theorem HpP.len {k n : Nat} {hp : Nat → Nat} {pl : Nat → Int} {A : Nat → Prop} {key : Nat → Int} (G : HpP k hp pl A key) (hA : ∀ v, A v → v < n) : k ≤ n := by
  have nd : ((List.range k).map hp).Nodup := List.pairwise_map.2 (List.Pairwise.imp_of_mem (fun {a b} ha hb hab e => by
    rw [List.mem_range] at ha hb
    have := G.inj ha hb e
    omega) List.pairwise_lt_range)
  have := short (n := n) nd fun x hx => by
    obtain ⟨j, hj, rfl⟩ := List.mem_map.1 hx
    exact hA _ (G.in_ j (List.mem_range.1 hj)).1
  simpa using this
theorem HpP.len1 {k n x : Nat} {hp : Nat → Nat} {pl : Nat → Int} {A : Nat → Prop} {key : Nat → Int} (G : HpP k hp pl A key) (hA : ∀ v, A v → v < n) (hx : x < n) (hxA : ¬ A x) : k < n := by
  have nd : (x :: (List.range k).map hp).Nodup := by
    rw [List.nodup_cons]
    refine ⟨fun h => ?_, List.pairwise_map.2 (List.Pairwise.imp_of_mem (fun {a b} ha hb hab e => by
      rw [List.mem_range] at ha hb
      have := G.inj ha hb e
      omega) List.pairwise_lt_range)⟩
    obtain ⟨j, hj, e⟩ := List.mem_map.1 h
    exact hxA (e ▸ (G.in_ j (List.mem_range.1 hj)).1)
  have := short (n := n) nd fun y hy => by
    rcases List.mem_cons.1 hy with rfl | hy
    · exact hx
    · obtain ⟨j, hj, rfl⟩ := List.mem_map.1 hy
      exact hA _ (G.in_ j (List.mem_range.1 hj)).1
  have h2 : k + 1 ≤ n := by simpa using this
  omega

/-- A queue of kind Binary. -/
structure BQ (own : Own) (h : H) (bq n : Nat) (key : Nat → Int) (held : Nat → Bool) : Prop where
  q : ∃ (bb k : Nat) (last : Int) (hp : Nat → Nat) (pl : Nat → Int) (vk vh vp vl : Value), B1 own h 31 bq [vk, vh, .iface 135 (.pointer (some (bk bb))), .int .i64 k, .int .i64 1, .int .i64 last] ∧ S1 own h 33 vk (ints n key) ∧ S1 own h 34 vh (bools n held) ∧
    B1 own h 32 bb [.pointer (some (bk bq)), vp, vl] ∧ S1 own h 35 vp (ints k (hpv hp)) ∧ S1 own h 36 vl (ints n pl) ∧ HpP k hp pl (heldP n held) key
section
variable {own own' : Own} {h h' : H} {n bq : Nat} {key : Nat → Int} {held : Nat → Bool}
theorem BQ.fm {M : List Nat} (Q : BQ own h bq n key held) (Fr : Fm M own h own' h') (hM : ∀ j, j ∈ M → j < 31 ∨ 36 < j) : BQ own' h' bq n key held := by
  obtain ⟨bb, k, last, hp, pl, vk, vh, vp, vl, k1, k3, k4, k2, k5, k6, G⟩ := Q.q
  have no : ∀ j, 31 ≤ j → j ≤ 36 → j ∉ M := fun j h1 h2 k => by have := hM j k; omega
  exact ⟨bb, k, last, hp, pl, vk, vh, vp, vl, k1.fm Fr (no _ (by omega) (by omega)), k3.fm Fr (no _ (by omega) (by omega)), k4.fm Fr (no _ (by omega) (by omega)), k2.fm Fr (no _ (by omega) (by omega)), k5.fm Fr (no _ (by omega) (by omega)), k6.fm Fr (no _ (by omega) (by omega)), G⟩
theorem lowB_T {vk vh ve : Value} {cnt last : Int} (k1 : B1 own h 31 bq [vk, vh, ve, .int .i64 cnt, .int .i64 1, .int .i64 last]) (k : Int) : T Try.prog F.heaps_Queue_low [.pointer (some (bk bq)), .int .i64 k] h fun r h' => r = .ret (.bool false) ∧ h = h' := by
  refine E_heaps_Queue_low ?_
  unfold B_heaps_Queue_low
  exact ptrP_mk (k1.rI rfl (ifP_of (fun h => by simp at h) (fun _ => ⟨rfl, rfl⟩)))
theorem qpushB_T (Q : BQ own h bq n key held) {v : Nat} {k : Int} (hv : v < n) (hh : held v = false) (hn : n ≤ 1024) :
    T Try.prog F.heaps_Queue_Push [.pointer (some (bk bq)), .int .i64 v, .int .i64 k] h fun r h' => ∃ own', r = .ret (.int .i64 0) ∧ Fm [31, 32, 33, 34, 35, 36] own h own' h' ∧ BQ own' h' bq n (upd key v k) (updB held v true) := by
  obtain ⟨bb, c, last, hp, pl, vk, vh, vp, vl, k1, k3, k4, k2, k5, k6, G⟩ := Q.q
  have nh : ¬ heldP n held v := fun e => by have := e.2; rw [hh] at this; cases this
  have cn := G.len1 (n := n) (fun v h => h.1) hv nh
  refine E_heaps_Queue_Push ?_
  unfold B_heaps_Queue_Push
  refine ifP_of (fun e => by have := of_decide_eq_true e; omega) (fun _ => ptrP_mk ⟨_, k1.ld0 rfl, k4.len (bools_length _ _) fun _ _ => ifP_of (fun e => by have := of_decide_eq_true e; omega) (fun _ => ptrP_mk ⟨_, k1.ld0 rfl, k4.rdB hv ?_⟩)⟩)
  rw [hh]
  refine ifP_of (fun e => by cases e) (fun _ => ?_)
  refine (lowB_T k1 k).mono ?_
  rintro _ _ ⟨rfl, rfl⟩
  refine rt_ret ⟨_, rfl, ifP_of (fun e => by cases e) (fun _ => ptrP_mk (ptrP_mk ⟨_, k1.ld0 rfl, _, k1.ld0 rfl, k3.setI hv fun g1 F1 k3 => ?_⟩))⟩
  have k1 := k1.fm F1 (by simp <;> omega)
  have k4 := k4.fm F1 (by simp <;> omega)
  have k2 := k2.fm F1 (by simp <;> omega)
  have k5 := k5.fm F1 (by simp <;> omega)
  have k6 := k6.fm F1 (by simp <;> omega)
  refine k4.setB hv fun g2 F2 k4 => ?_
  have k1 := k1.fm F2 (by simp <;> omega)
  have k3 := k3.fm F2 (by simp <;> omega)
  have k2 := k2.fm F2 (by simp <;> omega)
  have k5 := k5.fm F2 (by simp <;> omega)
  have k6 := k6.fm F2 (by simp <;> omega)
  have ew : IntKind.i64.wrap ((c : Int) + 1) = ((c + 1 : Nat) : Int) := w64_in (by omega) (by omega)
  refine ptrP_mk (k1.rI rfl (ptrP_mk (k1.st (j := 3) (by simp) fun g3 F3 k1 => ?_)))
  rw [ew] at k1
  simp only [List.set] at k1
  have k3 := k3.fm F3 (by simp <;> omega)
  have k4 := k4.fm F3 (by simp <;> omega)
  have k2 := k2.fm F3 (by simp <;> omega)
  have k5 := k5.fm F3 (by simp <;> omega)
  have k6 := k6.fm F3 (by simp <;> omega)
  have G := G.rekey (key' := upd key v k) fun x hx => upd_ne (by rintro rfl; exact nh hx)
  refine ptrP_mk ⟨_, k1.ld rfl, _, _, fun w _ => methPushB _ w, ?_⟩
  refine (bpush_T k1 k3 k2 k5 k6 G hv nh (fun v h => h.1) (by omega)).mono ?_
  rintro _ g4 ⟨rfl, own4, vp', hp', pl', F4, k2, k5, k6, G⟩
  have k1 := k1.fm F4 (by simp <;> omega)
  have k3 := k3.fm F4 (by simp <;> omega)
  have k4 := k4.fm F4 (by simp <;> omega)
  refine rt_ret ⟨rfl, own4, rfl, (((F1.mono (by simp)).trans (F2.mono (by simp))).trans (F3.mono (by simp))).trans (F4.mono (by simp)), ⟨bb, c + 1, last, hp', pl', vk, vh, vp', vl, k1, k3, k4, k2, k5, k6, G.uset fun x => ?_⟩⟩
  unfold updB heldP
  by_cases e : x = v
  · subst e; simp [hv]
  · simp [e]
theorem qlowerB_T (Q : BQ own h bq n key held) {v : Nat} {k : Int} (hv : v < n) (hh : held v = true) (hk : k < key v) (hn : n ≤ 1024) :
    T Try.prog F.heaps_Queue_Lower [.pointer (some (bk bq)), .int .i64 v, .int .i64 k] h fun r h' => r = .ret (.int .i64 0) ∧ Fm [31, 32, 33, 34, 35, 36] own h own h' ∧ BQ own h' bq n (upd key v k) held := by
  obtain ⟨bb, c, last, hp, pl, vk, vh, vp, vl, k1, k3, k4, k2, k5, k6, G⟩ := Q.q
  have cn := G.len (n := n) (fun v h => h.1)
  refine E_heaps_Queue_Lower ?_
  unfold B_heaps_Queue_Lower
  refine ifP_of (fun e => by have := of_decide_eq_true e; omega) (fun _ => ptrP_mk ⟨_, k1.ld0 rfl, k4.len (bools_length _ _) fun _ _ => ifP_of (fun e => by have := of_decide_eq_true e; omega) (fun _ => ptrP_mk ⟨_, k1.ld0 rfl, k4.rdB hv ?_⟩)⟩)
  rw [hh]
  refine ifP_of (fun e => by cases e) (fun _ => ptrP_mk ⟨_, k1.ld0 rfl, k3.rdI hv (ifP_of (fun e => by have := of_decide_eq_true e; omega) (fun _ => ?_))⟩)
  refine (lowB_T k1 k).mono ?_
  rintro _ _ ⟨rfl, rfl⟩
  refine rt_ret ⟨_, rfl, ifP_of (fun e => by cases e) (fun _ => ptrP_mk ⟨_, k1.ld0 rfl, k3.rdI hv (ifP_of (fun _ => ?_) (fun e => by have := of_decide_eq_false e; omega))⟩)⟩
  refine ptrP_mk ⟨_, k1.ld0 rfl, k3.setI hv fun g1 F1 k3 => ?_⟩
  have k1 := k1.fm F1 (by simp <;> omega)
  have k4 := k4.fm F1 (by simp <;> omega)
  have k2 := k2.fm F1 (by simp <;> omega)
  have k5 := k5.fm F1 (by simp <;> omega)
  have k6 := k6.fm F1 (by simp <;> omega)
  obtain ⟨i, hi, hiv⟩ := G.on v ⟨hv, hh⟩
  obtain ⟨G2, u2⟩ := G.low (key' := upd key v k) hi (by rw [hiv, upd_at]; omega) (fun w hw => upd_ne (by rw [hiv] at hw; exact hw))
  rw [hiv] at G2 u2
  have hpi : pl v = i := by have := (G.in_ i hi).2; rwa [hiv] at this
  refine ptrP_mk ⟨_, k1.ld rfl, _, _, fun w _ => methLowerB _ w, ?_⟩
  refine (blower_T k1 k3 k2 k5 k6 G2 u2 hpi (fun v h => h.1) (by omega)).mono ?_
  rintro _ g2 ⟨rfl, F2, hp', pl', k5, k6, G⟩
  have k1 := k1.fm F2 (by simp <;> omega)
  have k3 := k3.fm F2 (by simp <;> omega)
  have k4 := k4.fm F2 (by simp <;> omega)
  have k2 := k2.fm F2 (by simp <;> omega)
  exact rt_ret ⟨rfl, rfl, (F1.mono (by simp)).trans (F2.mono (by simp)), ⟨bb, c, last, hp', pl', vk, vh, vp, vl, k1, k3, k4, k2, k5, k6, G⟩⟩
theorem qpopB_T (Q : BQ own h bq n key held) (hn : n ≤ 1024) :
    T Try.prog F.heaps_Queue_Pop [.pointer (some (bk bq))] h fun r h' => (r = .ret (.tuple ⟨[.int .i64 0, .int .i64 0, .int .i64 4]⟩) ∧ (∀ x, x < n → held x = false) ∧ h = h') ∨
      ∃ v : Nat, r = .ret (.tuple ⟨[.int .i64 v, .int .i64 (key v), .int .i64 0]⟩) ∧ v < n ∧ held v = true ∧ (∀ x, x < n → held x = true → key v ≤ key x) ∧ Fm [31, 32, 33, 34, 35, 36] own h own h' ∧ BQ own h' bq n key (updB held v false) := by
  obtain ⟨bb, c, last, hp, pl, vk, vh, vp, vl, k1, k3, k4, k2, k5, k6, G⟩ := Q.q
  have cn := G.len (n := n) (fun v h => h.1)
  refine E_heaps_Queue_Pop ?_
  unfold B_heaps_Queue_Pop
  have top : T Try.prog F.heaps_Queue_Top [.pointer (some (bk bq))] h fun r h' => h = h' ∧ ((c = 0 ∧ r = .ret (.tuple ⟨[.int .i64 0, .int .i64 0, .int .i64 4]⟩)) ∨ (0 < c ∧ r = .ret (.tuple ⟨[.int .i64 (hp 0 : Nat), .int .i64 (key (hp 0)), .int .i64 0]⟩))) := by
    refine E_heaps_Queue_Top ?_
    unfold B_heaps_Queue_Top
    refine ptrP_mk (k1.rI rfl (ifP_of (fun h1 => ⟨rfl, .inl ⟨by have := of_decide_eq_true h1; omega, rfl⟩⟩) (fun h1 => ?_)))
    have c0 : 0 < c := by have := of_decide_eq_false h1; omega
    refine ptrP_mk ⟨_, k1.ld rfl, _, _, fun w _ => methTopB _ w, ?_⟩
    refine E_heaps_binary_top ?_
    unfold B_heaps_binary_top
    refine ptrP_mk (k2.rV rfl (k5.rdI c0 (rt_ret ⟨_, rfl, ptrP_mk ⟨_, k1.ld0 rfl, ?_⟩⟩)))
    exact k3.rdI (G.in_ 0 c0).1.1 ⟨rfl, .inr ⟨c0, rfl⟩⟩
  refine top.mono ?_
  rintro _ _ ⟨rfl, ⟨c0, rfl⟩ | ⟨c0, rfl⟩⟩
  · refine rt_ret ⟨_, _, _, rfl, ifP_of (fun h1 => by simp at h1) (fun _ => .inl ⟨rfl, fun x hx => ?_, rfl⟩)⟩
    cases e : held x with
    | false => rfl
    | true =>
      obtain ⟨j, hj, _⟩ := G.on x ⟨hx, e⟩
      omega
  have hv := (G.in_ 0 c0).1
  have hmin : ∀ x, x < n → held x = true → key (hp 0) ≤ key x := fun x hx hh => by
    obtain ⟨j, hj, e⟩ := G.on x ⟨hx, hh⟩
    rcases G.top j hj with h1 | h1
    · rw [h1, e]; omega
    · rw [e] at h1; unfold ahd at h1; omega
  obtain ⟨c', rfl⟩ : ∃ c', c = c' + 1 := ⟨c - 1, by omega⟩
  refine rt_ret ⟨_, _, _, rfl, ifP_of (fun _ => ?_) (fun h1 => by simp at h1)⟩
  refine ptrP_mk ⟨_, k1.ld rfl, _, _, fun w _ => methPopB _ w, ?_⟩
  refine (bpop_T k1 k3 k2 k5 k6 G (fun v h => h.1) (by omega)).mono ?_
  rintro _ g1 ⟨rfl, vp', hp', pl', F1, k2, k5, k6, G2⟩
  have k1 := k1.fm F1 (by simp <;> omega)
  have k3 := k3.fm F1 (by simp <;> omega)
  have k4 := k4.fm F1 (by simp <;> omega)
  refine rt_ret ⟨rfl, ptrP_mk ⟨_, k1.ld0 rfl, k4.setB hv.1 fun g2 F2 k4 => ?_⟩⟩
  have k1 := k1.fm F2 (by simp <;> omega)
  have k3 := k3.fm F2 (by simp <;> omega)
  have k2 := k2.fm F2 (by simp <;> omega)
  have k5 := k5.fm F2 (by simp <;> omega)
  have k6 := k6.fm F2 (by simp <;> omega)
  have ew : IntKind.i64.wrap (((c' + 1 : Nat) : Int) - 1) = (c' : Int) := by rw [show ((c' + 1 : Nat) : Int) - 1 = c' by omega]; exact w64_in (by omega) (by omega)
  refine ptrP_mk (k1.rI rfl (ptrP_mk (k1.st (j := 3) (by simp) fun g3 F3 k1 => ?_)))
  rw [ew] at k1
  simp only [List.set] at k1
  have k3 := k3.fm F3 (by simp <;> omega)
  have k4 := k4.fm F3 (by simp <;> omega)
  have k2 := k2.fm F3 (by simp <;> omega)
  have k5 := k5.fm F3 (by simp <;> omega)
  have k6 := k6.fm F3 (by simp <;> omega)
  refine ptrP_mk (k1.st (j := 5) (by simp) fun g4 F4 k1 => ?_)
  simp only [List.set] at k1
  have k3 := k3.fm F4 (by simp <;> omega)
  have k4 := k4.fm F4 (by simp <;> omega)
  have k2 := k2.fm F4 (by simp <;> omega)
  have k5 := k5.fm F4 (by simp <;> omega)
  have k6 := k6.fm F4 (by simp <;> omega)
  refine .inr ⟨hp 0, rfl, hv.1, hv.2, hmin, (((F1.mono (by simp)).trans (F2.mono (by simp))).trans (F3.mono (by simp))).trans (F4.mono (by simp)), ⟨bb, c', _, hp', pl', vk, vh, vp', vl, k1, k3, k4, k2, k5, k6, G2.uset fun x => ?_⟩⟩
  unfold updB heldP
  by_cases e : x = hp 0
  · subst e; simp
  · simp [e]
theorem qnewB_T (own : Own) (hn : n ≤ 1024) : T Try.prog F.heaps_New [.int .i64 1, .int .i64 n] h fun r h' => ∃ (bq : Nat) (own' : Own), r = .ret (.tuple ⟨[.pointer (some (bk bq)), .int .i64 0]⟩) ∧
    Fm [31] own h own' h' ∧ BQ own' h' bq n (fun _ => 0) (fun _ => false) := by
  refine E_heaps_New ?_
  unfold B_heaps_New
  refine ifP_of (fun e => by simp at e) (fun _ => ifP_of (fun e => by simp at e) (fun _ => ifP_of (fun e => by have := of_decide_eq_true e; omega) (fun _ => ifP_of (fun e => by have := of_decide_eq_true e; omega) (fun _ => ?_))))
  refine mk_ints 33 (by omega) (by omega) ?_
  intro b1 q1 hb1 x1 S1_
  have F1 : Fm [] own h (own1 own b1 33) q1 := Fm.new x1 hb1
  have k2 := S1_ own
  rw [Int.toNat_natCast]
  generalize own1 own b1 33 = own1_ at *
  refine mk_bools 34 (by omega) (by omega) ?_
  intro b3 q3 hb3 x3 S3_
  have F3 : Fm [] own1_ q1 (own1 own1_ b3 34) q3 := Fm.new x3 hb3
  have k3 := S3_ own1_
  have k2 := k2.fm F3 (by simp <;> omega)
  have F1 := F1.trans F3
  generalize own1 own1_ b3 34 = own3 at *
  refine ⟨rfl, new_bl ?_⟩
  intro b5 q5 hb5 x5 B5
  have F5 : Fm [] own3 q3 (own1 own3 b5 31) q5 := Fm.new x5 hb5
  have k1 : B1 (own1 own3 b5 31) q5 31 b5 _ := B1.new B5
  have k2 := k2.fm F5 (by simp <;> omega)
  have k3 := k3.fm F5 (by simp <;> omega)
  have F1 := F1.trans F5
  generalize own1 own3 b5 31 = own5 at *
  refine ifP_of (fun _ => ?_) (fun e => by simp at e)
  refine mk_ints 36 (by omega) (by omega) ?_
  intro b7 q7 hb7 x7 S7_
  have F7 : Fm [] own5 q5 (own1 own5 b7 36) q7 := Fm.new x7 hb7
  have k6 := S7_ own5
  have k1 := k1.fm F7 (by simp <;> omega)
  have k2 := k2.fm F7 (by simp <;> omega)
  have k3 := k3.fm F7 (by simp <;> omega)
  have F1 := F1.trans F7
  generalize own1 own5 b7 36 = own7 at *
  refine new_bl ?_
  intro b9 q9 hb9 x9 B9
  have F9 : Fm [] own7 q7 (own1 own7 b9 32) q9 := Fm.new x9 hb9
  have kf : B1 (own1 own7 b9 32) q9 32 b9 _ := B1.new B9
  have k1 := k1.fm F9 (by simp <;> omega)
  have k2 := k2.fm F9 (by simp <;> omega)
  have k3 := k3.fm F9 (by simp <;> omega)
  have k6 := k6.fm F9 (by simp <;> omega)
  have F1 := F1.trans F9
  generalize own1 own7 b9 32 = own9 at *
  rw [add_zero'] at kf
  refine k1.st (j := 2) (by simp) fun g F20 k1 => ?_
  have k2 := k2.fm F20 (by simp <;> omega)
  have k3 := k3.fm F20 (by simp <;> omega)
  have k6 := k6.fm F20 (by simp <;> omega)
  have kf := kf.fm F20 (by simp <;> omega)
  simp only [List.set] at k1
  exact ⟨b5, own9, rfl, (F1.mono (by simp)).trans F20, ⟨b9, 0, 0, fun _ => 0, fun _ => 0, _, _, _, _, k1, k2, k3, kf, S1.nil, k6, ⟨fun j hj => by omega, fun v hv => (by cases hv.2), fun j h0 hj => by omega⟩⟩⟩
end

end Go.Proofs.Ytdblngaacnpgmaa

namespace Go.Proofs.Ytdblngaacnpgmaa
open Go
open Classical
set_option linter.unusedVariables false
set_option linter.unusedSimpArgs false
set_option maxHeartbeats 1000000

/-- Nodes below k of the left side have been taken in; x: a node of the right side that is being given away (left + wd: none). -/
structure TrP (left wd k j x : Nat) (W : Nat → Nat → Int) (E : Nat → Nat → Prop) (pot by_ : Nat → Int) : Prop where
  po : ∀ v, v < left + wd → 0 ≤ pot v ∧ pot v ≤ ((j + 1 : Nat) : Int) * 1048576
  pl : ∀ v, v < left → pot v ≤ 1048576
  fe : ∀ v c, v < left → c < wd → W v c ≤ pot v + pot (left + c)
  lm : ∀ v, v < left → by_ v = -1 ∨ ∃ c, c < wd ∧ left + c ≠ x ∧ by_ v = ((left + c : Nat) : Int) ∧ by_ (left + c) = (v : Int) ∧ E v c ∧ pot v + pot (left + c) = W v c
  rm : ∀ c, c < wd → left + c ≠ x → by_ (left + c) = -1 ∨ ∃ v, v < left ∧ by_ (left + c) = (v : Int) ∧ by_ v = ((left + c : Nat) : Int)
  l0 : ∀ v, v < left → v < k → by_ v = -1 → pot v = 0
  un : ∀ v, v < left → j ≤ v → by_ v = -1
  r0 : ∀ c, c < wd → left + c ≠ x → by_ (left + c) = -1 → pot (left + c) = 0
section
variable {left wd k j x : Nat} {W : Nat → Nat → Int} {E : Nat → Nat → Prop} {pot by_ : Nat → Int}
theorem TrP.step (G : TrP left wd k j x W E pot by_) {u c x' : Nat} (hu : u < left) (huj : u < j) (hc : c < wd) (hx : x = left + c) (e : E u c) (t : pot u + pot (left + c) = W u c)
    (hx' : by_ u = -1 ∧ x' = left + wd ∨ by_ u = (x' : Int)) : TrP left wd k j x' W E pot (upd (upd by_ u x) x u) := by
  have bx : upd (upd by_ u x) x u x = u := upd_at
  have bu : upd (upd by_ u x) x u u = x := by rw [upd_ne (by omega), upd_at]
  have bo : ∀ y, y ≠ x → y ≠ u → upd (upd by_ u x) x u y = by_ y := fun y h1 h2 => by rw [upd_ne h1, upd_ne h2]
  generalize upd (upd by_ u x) x u = by' at *
  have xx : x ≠ x' ∧ ∀ v c', v < left → v ≠ u → by_ (left + c') = (v : Int) → c' < wd → left + c' ≠ x' := by
    rcases hx' with ⟨h1, h2⟩ | h1
    · exact ⟨by omega, fun v c' _ _ _ _ => by omega⟩
    · rcases G.lm u hu with h | ⟨c2, h2, h3, h4, h5, _⟩
      · omega
      · refine ⟨by omega, fun v c' hv hvu hb hc' hh => ?_⟩
        rw [show left + c' = left + c2 by omega, h5] at hb
        omega
  refine ⟨G.po, G.pl, G.fe, fun v hv => ?_, fun c1 h1 h2 => ?_, fun v hv hk h => ?_, fun v hv hj => ?_, fun c1 h1 h2 h3 => ?_⟩
  · by_cases h : v = u
    · subst h
      exact .inr ⟨c, hc, by rw [← hx]; exact xx.1, by rw [bu, hx], by rw [← hx, bx], e, t⟩
    · rcases G.lm v hv with h1 | ⟨c1, h1, h2, h3, h4, h5⟩
      · exact .inl (by rw [bo v (by omega) h]; exact h1)
      · exact .inr ⟨c1, h1, xx.2 v c1 hv h h4 h1, by rw [bo v (by omega) h]; exact h3, by rw [bo _ h2 (by omega)]; exact h4, h5⟩
  · by_cases h : left + c1 = x
    · exact .inr ⟨u, hu, by rw [h]; exact bx, by rw [h]; exact bu⟩
    · rw [bo _ h (by omega)]
      rcases G.rm c1 h1 h with h3 | ⟨v, h3, h4, h5⟩
      · exact .inl h3
      · refine .inr ⟨v, h3, h4, ?_⟩
        rw [bo v (by omega) (fun k => by
          subst k
          rcases hx' with ⟨a, _⟩ | a <;> omega)]
        exact h5
  · by_cases h1 : v = u
    · subst h1; rw [bu] at h; omega
    · rw [bo v (by omega) h1] at h; exact G.l0 v hv hk h
  · rw [bo v (by omega) (by omega)]; exact G.un v hv hj
  · by_cases h : left + c1 = x
    · rw [h, bx] at h3; omega
    · rw [bo _ h (by omega)] at h3; exact G.r0 c1 h1 h h3
theorem TrP.open_ (G : TrP left wd k j (left + wd) W E pot by_) {c : Nat} (hc : c < wd) (hb : by_ (left + c) = -1) : TrP left wd k j (left + c) W E pot by_ := by
  refine ⟨G.po, G.pl, G.fe, fun v hv => ?_, fun c1 h1 h2 => G.rm c1 h1 (by omega), G.l0, G.un, fun c1 h1 h2 => G.r0 c1 h1 (by omega)⟩
  rcases G.lm v hv with h | ⟨c1, h1, h2, h3, h4, h5⟩
  · exact .inl h
  · refine .inr ⟨c1, h1, fun e => ?_, h3, h4, h5⟩
    rw [e, hb] at h4; omega
theorem TrP.drop (G : TrP left wd k j (left + wd) W E pot by_) {v w : Nat} (hv : v < left) (hb : by_ v = (w : Int)) (h0 : pot v = 0) : TrP left wd k j w W E pot (upd by_ v (-1)) := by
  rcases G.lm v hv with h | ⟨c, hc, _, h2, h3, _⟩
  · omega
  have hw : w = left + c := by omega
  subst hw
  refine ⟨G.po, G.pl, G.fe, fun u hu => ?_, fun c1 h1 h2 => ?_, fun u hu hk h => ?_, fun u hu hj => ?_, fun c1 h1 h2 h4 => ?_⟩
  · by_cases e : u = v
    · subst e; exact .inl upd_at
    · rw [upd_ne e]
      rcases G.lm u hu with h | ⟨c1, h1, h2, h4, h5, h6⟩
      · exact .inl h
      · refine .inr ⟨c1, h1, fun k => ?_, h4, by rw [upd_ne (by omega)]; exact h5, h6⟩
        rw [k, h3] at h5; omega
  · rw [upd_ne (by omega)]
    rcases G.rm c1 h1 (by omega) with h | ⟨u, h4, h5, h6⟩
    · exact .inl h
    · exact .inr ⟨u, h4, h5, by rw [upd_ne (by rintro rfl; omega)]; exact h6⟩
  · by_cases e : u = v
    · subst e; exact h0
    · rw [upd_ne e] at h; exact G.l0 u hu hk h
  · by_cases e : u = v
    · subst e; exact upd_at
    · rw [upd_ne e]; exact G.un u hu hj
  · rw [upd_ne (by omega)] at h4; exact G.r0 c1 h1 (by omega) h4
theorem TrP.more (G : TrP left wd k (k + 1) (left + wd) W E pot by_) (h : by_ k = -1 → pot k = 0) : TrP left wd (k + 1) (k + 1) (left + wd) W E pot by_ :=
  ⟨G.po, G.pl, G.fe, G.lm, G.rm, fun v hv hk hb => by
    by_cases e : v = k
    · subst e; exact h hb
    · exact G.l0 v hv (by omega) hb, G.un, G.r0⟩

/-- The search from node k: sn the nodes that have been seen, a the one whose edges are looked at, jj of them have been. -/
structure DsP (left wd k : Nat) (W : Nat → Nat → Int) (E : Nat → Nat → Prop) (pot by_ dist via : Nat → Int) (rk_ : Nat → Nat) (sn : List Nat) (a jj t : Nat) : Prop where
  nd : sn.Nodup
  lt : ∀ x, x ∈ sn → x < left + wd
  sk : k ∈ sn
  ak : a ∈ sn ∧ a < left
  sl : ∀ v, v ∈ sn → v < left → v = k ∨ ∃ c, c < wd ∧ by_ v = ((left + c : Nat) : Int) ∧ left + c ∈ sn ∧ rk_ (left + c) ≤ rk_ v
  sr : ∀ c, left + c ∈ sn → ∃ v, v < left ∧ by_ (left + c) = (v : Int) ∧ v ∈ sn ∧ dist v = dist (left + c)
  vi : ∀ c, c < wd → dist (left + c) < farI → ∃ u, u < left ∧ via (left + c) = (u : Int) ∧ u ∈ sn ∧ E u c ∧ dist (left + c) = dist u + pot u + pot (left + c) - W u c ∧ (left + c ∈ sn → rk_ u < rk_ (left + c))
  rx : ∀ v c, v ∈ sn → v < left → c < wd → E v c → (v = a → c < jj) → dist (left + c) ≤ dist v + pot v + pot (left + c) - W v c
  mo : ∀ x, x ∈ sn → 0 ≤ dist x ∧ dist x ≤ dist a
  fr : ∀ c, c < wd → left + c ∉ sn → dist a ≤ dist (left + c) ∧ dist (left + c) ≤ farI
  rt : ∀ x, x ∈ sn → rk_ x ≤ t
  ba : dist a ≤ 1048576
/-- What the queue holds. -/
structure QsP (left wd : Nat) (dist key : Nat → Int) (held : Nat → Bool) (sn : List Nat) : Prop where
  lf : ∀ v, v < left → held v = false
  hd : ∀ c, c < wd → (held (left + c) = true ↔ dist (left + c) < farI ∧ left + c ∉ sn)
  ky : ∀ c, c < wd → held (left + c) = true → key (left + c) = dist (left + c)
variable {dist via key : Nat → Int} {rk_ : Nat → Nat} {sn : List Nat} {a jj t : Nat} {held : Nat → Bool}
theorem DsP.start (hk : k < left) : DsP left wd k W E pot by_ (fun v => if v = k then 0 else farI) via rk_ [k] k 0 (rk_ k) := by
  have e := farI_eq
  refine ⟨by simp, fun x hx => ?_, List.mem_singleton.2 rfl, ⟨List.mem_singleton.2 rfl, hk⟩, fun v hv _ => .inl (List.mem_singleton.1 hv), fun c hc => ?_, fun c hc h => ?_, fun v c hv _ _ _ h => ?_, fun x hx => ?_, fun c hc _ => ?_, fun x hx => ?_, ?_⟩
  · have := List.mem_singleton.1 hx; omega
  · have := List.mem_singleton.1 hc; omega
  · (try dsimp only at h); rw [if_neg (by omega)] at h; omega
  · have := h (List.mem_singleton.1 hv); omega
  · rw [List.mem_singleton] at hx; subst hx; simp
  · (try dsimp only); rw [if_pos rfl, if_neg (by omega)]; omega
  · rw [List.mem_singleton] at hx; subst hx; exact Nat.le_refl _
  · (try dsimp only); rw [if_pos rfl]; omega
theorem QsP.start (hk : k < left) : QsP left wd (fun v => if v = k then 0 else farI) key (fun _ => false) [k] :=
  ⟨fun _ _ => rfl, fun c hc => ⟨fun h => (by cases h), fun h => (by have h2 := h.1; (try dsimp only at h2); rw [if_neg (by omega)] at h2; omega)⟩, fun c hc h => (by cases h)⟩
theorem DsP.no (D : DsP left wd k W E pot by_ dist via rk_ sn a jj t) (h : ¬ E a jj ∨ dist (left + jj) ≤ dist a + pot a + pot (left + jj) - W a jj) : DsP left wd k W E pot by_ dist via rk_ sn a (jj + 1) t := by
  refine ⟨D.nd, D.lt, D.sk, D.ak, D.sl, D.sr, D.vi, fun v c hv hl hc he ha => ?_, D.mo, D.fr, D.rt, D.ba⟩
  by_cases e : v = a ∧ c = jj
  · obtain ⟨rfl, rfl⟩ := e
    rcases h with h | h
    · exact absurd he h
    · exact h
  · exact D.rx v c hv hl hc he fun e2 => by
      have := ha e2
      by_cases e3 : c = jj
      · exact absurd ⟨e2, e3⟩ e
      · omega
theorem DsP.fresh (D : DsP left wd k W E pot by_ dist via rk_ sn a jj t) (fe : W a jj ≤ pot a + pot (left + jj)) (h : dist a + pot a + pot (left + jj) - W a jj < dist (left + jj)) : left + jj ∉ sn := fun k => by
  have := D.mo _ k; omega
theorem DsP.yes (D : DsP left wd k W E pot by_ dist via rk_ sn a jj t) (hj : jj < wd) (fe : W a jj ≤ pot a + pot (left + jj)) (he : E a jj) (h : dist a + pot a + pot (left + jj) - W a jj < dist (left + jj)) :
    DsP left wd k W E pot by_ (upd dist (left + jj) (dist a + pot a + pot (left + jj) - W a jj)) (upd via (left + jj) a) rk_ sn a (jj + 1) t := by
  have ns := D.fresh fe h
  have fr := (D.fr jj hj ns).2
  have al := D.ak.2
  have dn : ∀ x, x ∈ sn → upd dist (left + jj) (dist a + pot a + pot (left + jj) - W a jj) x = dist x := fun x hx => upd_ne (by rintro rfl; exact ns hx)
  have dj : upd dist (left + jj) (dist a + pot a + pot (left + jj) - W a jj) (left + jj) = dist a + pot a + pot (left + jj) - W a jj := upd_at
  have dc : ∀ c, c ≠ jj → upd dist (left + jj) (dist a + pot a + pot (left + jj) - W a jj) (left + c) = dist (left + c) := fun c hc => upd_ne (by omega)
  generalize upd dist (left + jj) (dist a + pot a + pot (left + jj) - W a jj) = dist' at *
  have da := dn a D.ak.1
  refine ⟨D.nd, D.lt, D.sk, D.ak, D.sl, fun c hc => ?_, fun c hc hf => ?_, fun v c hv hl hc he2 ha => ?_, fun x hx => ?_, fun c hc hn => ?_, D.rt, by rw [da]; exact D.ba⟩
  · obtain ⟨v, h1, h2, h3, h4⟩ := D.sr c hc
    exact ⟨v, h1, h2, h3, by rw [dn v h3, dn _ hc, h4]⟩
  · by_cases e : c = jj
    · subst e
      refine ⟨a, al, upd_at, D.ak.1, he, by rw [da]; exact dj, fun k => absurd k ns⟩
    · rw [dc c e] at hf ⊢
      obtain ⟨u, h1, h2, h3, h4, h5, h6⟩ := D.vi c hc hf
      exact ⟨u, h1, by rw [upd_ne (by omega)]; exact h2, h3, h4, by rw [dn u h3]; exact h5, h6⟩
  · rw [dn v hv]
    by_cases e : c = jj
    · subst e
      rw [dj]
      by_cases e2 : v = a
      · subst e2; omega
      · have := D.rx v c hv hl hc he2 (fun k => absurd k e2); omega
    · rw [dc c e]
      exact D.rx v c hv hl hc he2 fun e2 => by have := ha e2; omega
  · rw [dn x hx, da]; exact D.mo x hx
  · rw [da]
    by_cases e : c = jj
    · subst e; rw [dj]; omega
    · rw [dc c e]; exact D.fr c hc hn
theorem QsP.yes (Q : QsP left wd dist key held sn) {d : Int} (hd : d < farI) (hn : left + jj ∉ sn) : QsP left wd (upd dist (left + jj) d) (upd key (left + jj) d) (updB held (left + jj) true) sn := by
  refine ⟨fun v hv => ?_, fun c hc => ?_, fun c hc h => ?_⟩
  · unfold updB; rw [if_neg (by omega)]; exact Q.lf v hv
  · unfold updB
    by_cases e : c = jj
    · subst e; rw [if_pos rfl, upd_at]; exact ⟨fun _ => ⟨hd, hn⟩, fun _ => rfl⟩
    · rw [if_neg (by omega), upd_ne (by omega)]; exact Q.hd c hc
  · by_cases e : c = jj
    · subst e; rw [upd_at, upd_at]
    · rw [upd_ne (by omega), upd_ne (by omega)]
      unfold updB at h; rw [if_neg (by omega)] at h
      exact Q.ky c hc h
theorem QsP.yes2 (Q : QsP left wd dist key held sn) {d : Int} (hd : d < farI) (hn : left + jj ∉ sn) (hh : held (left + jj) = true) : QsP left wd (upd dist (left + jj) d) (upd key (left + jj) d) held sn := by
  have e : updB held (left + jj) true = held := by
    funext x; unfold updB; split
    · rename_i h; rw [h, hh]
    · rfl
  have := Q.yes hd hn
  rwa [e] at this
theorem DsP.pop (D : DsP left wd k W E pot by_ dist via rk_ sn a wd t) (G : TrP left wd k k (left + wd) W E pot by_) {c v : Nat} (hc : c < wd) (hn : left + c ∉ sn) (hm : ∀ c', c' < wd → left + c' ∉ sn → dist (left + c) ≤ dist (left + c')) (hb : by_ (left + c) = (v : Int)) (hd : dist (left + c) ≤ 1048576) (hk : k < left) :
    v < left ∧ v ∉ sn ∧ DsP left wd k W E pot by_ (upd dist v (dist (left + c))) via (fun x => if x = left + c ∨ x = v then t + 1 else rk_ x) (sn ++ [left + c, v]) v 0 (t + 1) := by
  have ef := farI_eq
  obtain ⟨hv, hbv⟩ : v < left ∧ by_ v = ((left + c : Nat) : Int) := by
    rcases G.rm c hc (by omega) with h | ⟨v', h1, h2, h3⟩
    · omega
    · have : v' = v := by omega
      subst this; exact ⟨h1, h3⟩
  have vn : v ∉ sn := fun h => by
    rcases D.sl v h hv with h1 | ⟨c', h1, h2, h3, _⟩
    · subst h1
      have := G.un v hv (Nat.le_refl _)
      omega
    · rw [hbv] at h2
      exact hn (by rw [show left + c = left + c' by omega]; exact h3)
  refine ⟨hv, vn, ?_⟩
  have dn : ∀ x, x ∈ sn → upd dist v (dist (left + c)) x = dist x := fun x hx => upd_ne (by rintro rfl; exact vn hx)
  have dv : upd dist v (dist (left + c)) v = dist (left + c) := upd_at
  have dr : ∀ c', upd dist v (dist (left + c)) (left + c') = dist (left + c') := fun c' => upd_ne (by omega)
  generalize upd dist v (dist (left + c)) = dist' at *
  have rn : ∀ x, x ∈ sn → (if x = left + c ∨ x = v then t + 1 else rk_ x) = rk_ x := fun x hx => if_neg (by
    rintro (rfl | rfl)
    · exact hn hx
    · exact vn hx)
  have hda := (D.fr c hc hn).1
  have m3 : ∀ x, x ∈ sn ++ [left + c, v] ↔ x ∈ sn ∨ x = left + c ∨ x = v := fun x => by simp
  refine ⟨?_, fun x hx => ?_, (m3 _).2 (.inl D.sk), ⟨(m3 _).2 (.inr (.inr rfl)), hv⟩, fun u hu hl => ?_, fun c1 h1 => ?_, fun c1 h1 h2 => ?_, fun u c1 hu hl h1 he ha => ?_, fun x hx => ?_, fun c1 h1 h2 => ?_, fun x hx => ?_, by rw [dv]; exact hd⟩
  · rw [List.nodup_append]
    refine ⟨D.nd, ?_, fun x hx y hy => ?_⟩
    · simp; omega
    · have : y = left + c ∨ y = v := by simpa using hy
      rintro rfl
      rcases this with rfl | rfl
      · exact hn hx
      · exact vn hx
  · rcases (m3 x).1 hx with h | rfl | rfl
    · exact D.lt x h
    · omega
    · omega
  · rcases (m3 u).1 hu with h | h | rfl
    · rcases D.sl u h hl with h1 | ⟨c', h1, h2, h3, h4⟩
      · exact .inl h1
      · exact .inr ⟨c', h1, h2, (m3 _).2 (.inl h3), by (try dsimp only); rw [rn _ h3, rn _ h]; exact h4⟩
    · omega
    · exact .inr ⟨c, hc, hbv, (m3 _).2 (.inr (.inl rfl)), by (try dsimp only); rw [if_pos (.inl rfl), if_pos (.inr rfl)]; exact Nat.le_refl _⟩
  · rcases (m3 _).1 h1 with h | h | h
    · obtain ⟨v1, a1, a2, a3, a4⟩ := D.sr c1 h
      exact ⟨v1, a1, a2, (m3 _).2 (.inl a3), by rw [dn v1 a3, dr, a4]⟩
    · have : c1 = c := by omega
      subst this
      exact ⟨v, hv, hb, (m3 _).2 (.inr (.inr rfl)), by rw [dv, dr]⟩
    · omega
  · rw [dr] at h2 ⊢
    obtain ⟨u, a1, a2, a3, a4, a5, a6⟩ := D.vi c1 h1 h2
    refine ⟨u, a1, a2, (m3 _).2 (.inl a3), a4, by rw [dn u a3]; exact a5, fun h => ?_⟩
    try dsimp only
    rw [rn u a3]
    rcases (m3 _).1 h with h | h | h
    · rw [rn _ h]; exact a6 h
    · rw [if_pos (.inl h)]; have := D.rt u a3; omega
    · omega
  · rw [dr]
    rcases (m3 u).1 hu with h | h | h
    · rw [dn u h]
      exact D.rx u c1 h hl h1 he fun _ => h1
    · omega
    · have := ha h; omega
  · rw [dv]
    have m := D.mo a D.ak.1
    rcases (m3 x).1 hx with h | rfl | rfl
    · rw [dn x h]; have := D.mo x h; omega
    · rw [dr]; omega
    · rw [dv]; omega
  · rw [dv, dr]
    have hn1 : left + c1 ∉ sn := fun k => h2 ((m3 _).2 (.inl k))
    exact ⟨hm c1 h1 hn1, (D.fr c1 h1 hn1).2⟩
  · try dsimp only
    rcases (m3 x).1 hx with h | h | h
    · rw [rn x h]; have := D.rt x h; omega
    · rw [if_pos (.inl h)]; exact Nat.le_refl _
    · rw [if_pos (.inr h)]; exact Nat.le_refl _
theorem QsP.pop (Q : QsP left wd dist key held sn) {c v : Nat} {d : Int} (hc : c < wd) (hv : v < left) : QsP left wd (upd dist v d) key (updB held (left + c) false) (sn ++ [left + c, v]) := by
  have m3 : ∀ x, x ∈ sn ++ [left + c, v] ↔ x ∈ sn ∨ x = left + c ∨ x = v := fun x => by simp
  refine ⟨fun u hu => ?_, fun c1 h1 => ?_, fun c1 h1 h => ?_⟩
  · unfold updB; rw [if_neg (by omega)]; exact Q.lf u hu
  · rw [upd_ne (by omega)]
    unfold updB
    by_cases e : c1 = c
    · subst e; rw [if_pos rfl]; exact ⟨fun h => (by cases h), fun h => absurd ((m3 _).2 (.inr (.inl rfl))) h.2⟩
    · rw [if_neg (by omega), Q.hd c1 h1]
      refine ⟨fun h => ⟨h.1, fun k => ?_⟩, fun h => ⟨h.1, fun k => h.2 ((m3 _).2 (.inl k))⟩⟩
      rcases (m3 _).1 k with k | k | k
      · exact h.2 k
      · omega
      · omega
  · rw [upd_ne (by omega)]
    unfold updB at h
    by_cases e : c1 = c
    · subst e; rw [if_pos rfl] at h; cases h
    · rw [if_neg (by omega)] at h; exact Q.ky c1 h1 h
/-- The potentials behind a search. -/
noncomputable def npT (left : Nat) (pot dist : Nat → Int) (best : Int) (sn : List Nat) (v : Nat) : Int :=
  if v ∈ sn then (if v < left then pot v - (best - dist v) else pot v + (best - dist v)) else pot v
theorem npT_l {best : Int} {v : Nat} (h : v ∈ sn) (hv : v < left) : npT left pot dist best sn v = pot v - (best - dist v) := by unfold npT; rw [if_pos h, if_pos hv]
theorem npT_r {best : Int} {v : Nat} (h : v ∈ sn) (hv : ¬ v < left) : npT left pot dist best sn v = pot v + (best - dist v) := by unfold npT; rw [if_pos h, if_neg hv]
theorem npT_n {best : Int} {v : Nat} (h : v ∉ sn) : npT left pot dist best sn v = pot v := by unfold npT; rw [if_neg h]
theorem DsP.npot (D : DsP left wd k W E pot by_ dist via rk_ sn a wd t) (G : TrP left wd k k (left + wd) W E pot by_) (hE : ∀ v c, ¬ E v c → W v c = 0) {best : Int} (hb : ∀ v, v ∈ sn → v < left → best ≤ dist v + pot v) (ha : dist a ≤ best)
    (hx : ∀ c, c < wd → left + c ∉ sn → best ≤ dist (left + c)) (hbd : best ≤ 1048576) (hk : k < left) : TrP left wd k (k + 1) (left + wd) W E (npT left pot dist best sn) by_ := by
  have po' : ∀ v, v < left + wd → 0 ≤ npT left pot dist best sn v ∧ npT left pot dist best sn v ≤ ((k + 1 + 1 : Nat) : Int) * 1048576 := fun v hv => by
    have p := G.po v hv
    by_cases h : v ∈ sn
    · have m := D.mo v h
      by_cases hl : v < left
      · rw [npT_l h hl]; have := hb v h hl; omega
      · rw [npT_r h hl]; omega
    · rw [npT_n h]; omega
  have mt : ∀ v, v < left → ∀ c, c < wd → by_ v = ((left + c : Nat) : Int) → by_ (left + c) = (v : Int) → npT left pot dist best sn v + npT left pot dist best sn (left + c) = pot v + pot (left + c) := fun v hv c hc h1 h2 => by
    by_cases h : v ∈ sn
    · have hc2 : left + c ∈ sn := by
        rcases D.sl v h hv with e | ⟨c', h3, h4, h5, _⟩
        · subst e; have := G.un v hv (Nat.le_refl _); omega
        · rw [show left + c = left + c' by omega]; exact h5
      obtain ⟨v1, a1, a2, a3, a4⟩ := D.sr c hc2
      have : v1 = v := by omega
      subst this
      rw [npT_l h hv, npT_r hc2 (by omega)]; omega
    · have hc2 : left + c ∉ sn := fun k => by
        obtain ⟨v1, a1, a2, a3, a4⟩ := D.sr c k
        have : v1 = v := by omega
        subst this; exact h a3
      rw [npT_n h, npT_n hc2]
  refine ⟨po', fun v hv => ?_, fun v c hv hc => ?_, fun v hv => ?_, G.rm, fun v hv hvk h => ?_, fun v hv h => G.un v hv (by omega), fun c hc hne h => ?_⟩
  · have p := G.pl v hv
    by_cases h : v ∈ sn
    · rw [npT_l h hv]; have := D.mo v h; omega
    · rw [npT_n h]; exact p
  · have p1 := po' v (by omega)
    have p2 := po' (left + c) (by omega)
    by_cases e : E v c
    · have f := G.fe v c hv hc
      by_cases h : v ∈ sn
      · have r := D.rx v c h hv hc e fun _ => hc
        rw [npT_l h hv]
        by_cases h2 : left + c ∈ sn
        · rw [npT_r h2 (by omega)]; omega
        · rw [npT_n h2]; have := hx c hc h2; omega
      · rw [npT_n h]
        by_cases h2 : left + c ∈ sn
        · rw [npT_r h2 (by omega)]; have := D.mo _ h2; omega
        · rw [npT_n h2]; exact f
    · rw [hE v c e]; omega
  · rcases G.lm v hv with h | ⟨c, h1, h2, h3, h4, h5, h6⟩
    · exact .inl h
    · exact .inr ⟨c, h1, h2, h3, h4, h5, by rw [mt v hv c h1 h3 h4]; exact h6⟩
  · have : v ∉ sn := fun k => by
      rcases D.sl v k hv with e | ⟨c', h3, h4, h5, _⟩ <;> omega
    rw [npT_n this]; exact G.l0 v hv hvk h
  · have : left + c ∉ sn := fun k => by
      obtain ⟨v1, a1, a2, _⟩ := D.sr c k; omega
    rw [npT_n this]; exact G.r0 c hc hne h
/-- The way back. -/
structure WyP (left wd k : Nat) (W : Nat → Nat → Int) (E : Nat → Nat → Prop) (pot by0 via : Nat → Int) (rk_ : Nat → Nat) (Y : Nat → Prop) : Prop where
  wy : ∀ c, c < wd → Y (left + c) → ∃ u, u < left ∧ u ≤ k ∧ via (left + c) = (u : Int) ∧ E u c ∧ pot u + pot (left + c) = W u c ∧ rk_ u < rk_ (left + c) ∧
    (u = k ∧ by0 u = -1 ∨ u ≠ k ∧ ∃ c', c' < wd ∧ by0 u = ((left + c' : Nat) : Int) ∧ Y (left + c') ∧ rk_ (left + c') ≤ rk_ u)
theorem DsP.way (D : DsP left wd k W E pot by_ dist via rk_ sn a wd t) (G : TrP left wd k k (left + wd) W E pot by_) {w : Nat} {best : Int} (hk : k < left) (hbd : best ≤ 1048576) (ha : dist a ≤ best) (hw : w ∉ sn) (hw2 : w < left + wd → left ≤ w ∧ dist w = best) (hlw : left ≤ w) :
    WyP left wd k W E (npT left pot dist best sn) by_ via (fun x => if x = w then t + 1 else rk_ x) (fun y => y ∈ sn ∨ y = w) := by
  have ef := farI_eq
  refine ⟨fun c hc hY => ?_⟩
  have hf : dist (left + c) < farI := by
    rcases hY with h | h
    · have := D.mo _ h; omega
    · rw [h]; have := hw2 (by omega); omega
  obtain ⟨u, a1, a2, a3, a4, a5, a6⟩ := D.vi c hc hf
  have ru : (if u = w then t + 1 else rk_ u) = rk_ u := if_neg (by omega)
  refine ⟨u, a1, ?_, a2, a4, ?_, ?_, ?_⟩
  · rcases D.sl u a3 a1 with h | ⟨c', h1, h2, _⟩
    · omega
    · rcases Nat.lt_or_ge u k with h | h
      · omega
      · have := G.un u a1 h; omega
  · rw [npT_l a3 a1]
    rcases hY with h | h
    · rw [npT_r h (by omega)]; omega
    · have h2 := hw2 (by omega)
      rw [← h] at hw h2
      rw [npT_n hw]; omega
  · try dsimp only
    rw [ru]
    by_cases e : left + c = w
    · rw [if_pos e]; have := D.rt u a3; omega
    · rw [if_neg e]
      rcases hY with h | h
      · exact a6 h
      · exact absurd h e
  · rcases D.sl u a3 a1 with h | ⟨c', h1, h2, h3, h4⟩
    · exact .inl ⟨h, by rw [h]; exact G.un k hk (Nat.le_refl _)⟩
    · refine .inr ⟨fun e => ?_, c', h1, h2, .inl h3, ?_⟩
      · rw [e, G.un k hk (Nat.le_refl _)] at h2; omega
      · try dsimp only
        rw [ru, if_neg (show ¬ left + c' = w from fun e => hw (e ▸ h3))]; exact h4

variable {m : Nat} {es : Nat → Ed} {bs : Nat → Nat → Nat}
/-- The edges of the first j nodes. -/
def mlT (left : Nat) (bs : Nat → Nat → Nat) (by_ : Nat → Int) : Nat → List Nat
  | 0 => []
  | j + 1 => mlT left bs by_ j ++ if 0 ≤ by_ j then [bs j ((by_ j).toNat - left) - 1] else []
theorem mlT_mem {x : Nat} : ∀ {j : Nat}, x ∈ mlT left bs by_ j → ∃ v, v < j ∧ 0 ≤ by_ v ∧ x = bs v ((by_ v).toNat - left) - 1
  | 0, h => by cases h
  | j + 1, h => by
    have h : x ∈ mlT left bs by_ j ++ if 0 ≤ by_ j then [bs j ((by_ j).toNat - left) - 1] else [] := h
    rw [List.mem_append] at h
    rcases h with h | h
    · obtain ⟨c, hc, h1, h2⟩ := mlT_mem h
      exact ⟨c, by omega, h1, h2⟩
    · split at h
      · rename_i hh
        rw [List.mem_singleton] at h
        exact ⟨j, by omega, hh, h⟩
      · cases h
theorem mlT_len : ∀ {j : Nat}, (mlT left bs by_ j).length ≤ j
  | 0 => Nat.le_refl _
  | j + 1 => by
    have := mlT_len (j := j)
    show (mlT left bs by_ j ++ if 0 ≤ by_ j then [bs j ((by_ j).toNat - left) - 1] else []).length ≤ j + 1
    rw [List.length_append]
    split <;> simp <;> omega
/-- The column of a node. -/
theorem TrP.col (G : TrP left wd k j x W E pot by_) {v : Nat} (hv : v < left) (h : 0 ≤ by_ v) : ∃ c, c < wd ∧ by_ v = ((left + c : Nat) : Int) ∧ (by_ v).toNat - left = c ∧ by_ (left + c) = (v : Int) ∧ E v c ∧ pot v + pot (left + c) = W v c := by
  rcases G.lm v hv with h1 | ⟨c, h1, h2, h3, h4, h5, h6⟩
  · omega
  · exact ⟨c, h1, h3, by omega, h4, h5, h6⟩
theorem TrP.res (G : TrP left wd left left (left + wd) (wgE es bs) (fun v c => 0 < bs v c) pot by_) (hl : left + wd ≤ 1024) (B : BsP left wd m es bs) (hs : ∀ i, i < m → lfE es i < left ∧ left ≤ rtE es i ∧ rtE es i < left + wd) :
    MaR (left + wd) m left es (mlT left bs by_ left) pot := by
  have nd : ∀ j, j ≤ left → (mlT left bs by_ j).Pairwise fun i j => lfE es i ≠ lfE es j ∧ rtE es i ≠ rtE es j := by
    intro j
    induction j with
    | zero => exact fun _ => List.Pairwise.nil
    | succ j ih =>
      intro hj
      show (mlT left bs by_ j ++ if 0 ≤ by_ j then [bs j ((by_ j).toNat - left) - 1] else []).Pairwise _
      rw [List.pairwise_append]
      refine ⟨ih (by omega), ?_, fun x hx y hy => ?_⟩
      · split
        · exact List.pairwise_singleton _ _
        · exact List.Pairwise.nil
      · split at hy
        · rename_i hh
          rw [List.mem_singleton] at hy
          obtain ⟨v, hv, h1, h2⟩ := mlT_mem hx
          obtain ⟨c, c1, c2, c3, c4, c5, _⟩ := G.col (v := v) (by omega) h1
          obtain ⟨d, d1, d2, d3, d4, d5, _⟩ := G.col (v := j) (by omega) hh
          try dsimp only at c5 d5
          rw [c3] at h2
          rw [d3] at hy
          obtain ⟨a1, a2, _⟩ := B.bw v c x (by omega) c1 (by omega)
          obtain ⟨b1, b2, _⟩ := B.bw j d y (by omega) d1 (by omega)
          refine ⟨by omega, fun e => ?_⟩
          rw [show c = d by omega, d4] at c4
          omega
        · cases hy
  have sm : ∀ j, j ≤ left → lkE es (mlT left bs by_ j) = sumN j fun v => if 0 ≤ by_ v then wgE es bs v ((by_ v).toNat - left) else 0 := by
    intro j
    induction j with
    | zero => exact fun _ => rfl
    | succ j ih =>
      intro hj
      show lkE es (mlT left bs by_ j ++ if 0 ≤ by_ j then [bs j ((by_ j).toNat - left) - 1] else []) = sumN j _ + (if 0 ≤ by_ j then wgE es bs j ((by_ j).toNat - left) else 0)
      rw [lkE_app, ih (by omega)]
      congr 1
      by_cases h : 0 ≤ by_ j
      · obtain ⟨c, c1, c2, c3, c4, c5, _⟩ := G.col (v := j) (by omega) h
        try dsimp only at c5
        rw [if_pos h, if_pos h, c3]
        unfold wgE
        rw [if_pos c5]
        show (es _).k + 0 = _
        omega
      · rw [if_neg h, if_neg h]; rfl
  refine ⟨fun i hi => ?_, nd _ (Nat.le_refl _), fun v hv => ?_, fun i hi => ?_, ?_, ?_⟩
  · obtain ⟨v, hv, h1, h2⟩ := mlT_mem hi
    obtain ⟨c, c1, c2, c3, c4, c5, _⟩ := G.col hv h1
    try dsimp only at c5
    have := B.bm v c hv c1
    rw [c3] at h2
    omega
  · have := G.po v hv; omega
  · obtain ⟨a1, a2, a3⟩ := hs i hi
    obtain ⟨c, hc⟩ : ∃ c, rtE es i = left + c := ⟨rtE es i - left, by omega⟩
    have e : pot (frE es i) + pot (toE es i) = pot (lfE es i) + pot (rtE es i) := by
      unfold lfE rtE
      rcases Nat.le_total (frE es i) (toE es i) with h | h
      · rw [Nat.min_eq_left h, Nat.max_eq_right h]
      · rw [Nat.min_eq_right h, Nat.max_eq_left h]; omega
    rw [e, hc]
    have p1 := G.po (lfE es i) (by omega)
    have p2 := G.po (left + c) (by omega)
    by_cases h0 : 0 < (es i).k
    · obtain ⟨b1, b2⟩ := B.le i _ c hi a1 (by omega) rfl hc h0
      have f := G.fe _ c a1 (by omega)
      unfold wgE at f
      rw [if_pos b1] at f
      omega
    · omega
  · rw [sm _ (Nat.le_refl _), sumN_split]
    have e1 : (sumN wd fun c => pot (left + c)) = sumN wd fun c => sumN left fun v => if by_ v = ((left + c : Nat) : Int) then pot (left + c) else 0 := sumN_congr fun c hc => by
      rcases G.rm c hc (by omega) with h | ⟨v, h1, h2, h3⟩
      · rw [G.r0 c hc (by omega) h]
        exact (sumN_zero fun u hu => by split <;> rfl).symm
      · refine Eq.trans (show pot (left + c) = sumN left fun u => if v = u then pot (left + c) else 0 by rw [sumN_pt, if_pos h1]) (sumN_congr fun u hu => ?_)
        by_cases e : v = u
        · subst e; rw [if_pos rfl, if_pos h3]
        · rw [if_neg e, if_neg (fun h => ?_)]
          rcases G.lm u hu with k | ⟨c', k1, k2, k3, k4, _⟩
          · omega
          · rw [show left + c' = left + c by omega, h2] at k4
            omega
    have e2 : (sumN left fun v => sumN wd fun c => if by_ v = ((left + c : Nat) : Int) then pot (left + c) else 0) = sumN left fun v => if 0 ≤ by_ v then pot (left + ((by_ v).toNat - left)) else 0 := sumN_congr fun v hv => by
      by_cases h : 0 ≤ by_ v
      · obtain ⟨c, c1, c2, c3, c4, c5, _⟩ := G.col hv h
        rw [if_pos h, c3, ← sumN_ptf (f := fun c => pot (left + c)) c1]
        refine sumN_congr fun c' _ => ?_
        by_cases e : c = c'
        · subst e; rw [if_pos c2, if_pos rfl]
        · rw [if_neg e, if_neg (by omega)]
      · rw [if_neg h]
        exact sumN_zero fun c _ => if_neg (by omega)
    rw [e1, sumN_swap, e2, ← sumN_add]
    refine sumN_congr fun v hv => ?_
    by_cases h : 0 ≤ by_ v
    · obtain ⟨c, c1, c2, c3, c4, c5, c6⟩ := G.col hv h
      rw [if_pos h, if_pos h, c3]; exact c6
    · rw [if_neg h, if_neg h]
      have : by_ v = -1 := by
        rcases G.lm v hv with h1 | ⟨c, h1, h2, h3, _⟩ <;> omega
      rw [G.l0 v hv hv this]; rfl
  · have := mlT_len (left := left) (bs := bs) (by_ := by_) (j := left)
    omega
end

end Go.Proofs.Ytdblngaacnpgmaa

namespace Go.Proofs.Ytdblngaacnpgmaa
open Go
open Classical
set_option linter.unusedVariables false
set_option linter.unusedSimpArgs false
set_option maxHeartbeats 2000000

/-- What looks for a way from each node, in the heap. -/
structure Rtr (own : Own) (h : H) (bx bt left wd : Nat) (vp vy : Value) (pot by_ : Nat → Int) : Prop where
  k4 : B1 own h 4 bx [.pointer (some (bk bt)), vp, vy]
  k5 : S1 own h 5 vp (ints (left + wd) pot)
  k6 : S1 own h 6 vy (ints (left + wd) by_)
section
variable {own own' : Own} {h h' : H} {bt bx left wd m k : Nat} {es : Nat → Ed} {bs : Nat → Nat → Nat} {W : Nat → Nat → Int} {E : Nat → Nat → Prop} {pot by_ via : Nat → Int} {vp vy vv : Value} {rk_ : Nat → Nat} {Y : Nat → Prop}
theorem tturn_T (Tt : Tb own h bt left wd m es bs) (Rr : Rtr own h bx bt left wd vp vy pot by_) (k8 : S1 own h 8 vv (ints (left + wd) via)) (G : TrP left wd k (k + 1) (left + wd) W E pot by_) (Wy : WyP left wd k W E pot by_ via rk_ Y) (hk : k < left) (hbk : by_ k = -1) {en : Nat}
    (hen : (en < left ∧ pot en = 0 ∧ (en = k ∨ en ≠ k ∧ ∃ c, c < wd ∧ by_ en = ((left + c : Nat) : Int) ∧ Y (left + c) ∧ rk_ (left + c) ≤ rk_ en)) ∨ (∃ c, c < wd ∧ en = left + c ∧ by_ en = -1 ∧ Y en)) :
    T Try.prog F.assign_trees_turn [.pointer (some (bk bx)), .int .i64 k, .int .i64 en, vv] h fun r h' => r = .ret (.tuple ⟨[]⟩) ∧ ∃ by', Fm [6] own h own h' ∧ Rtr own h' bx bt left wd vp vy pot by' ∧ TrP left wd (k + 1) (k + 1) (left + wd) W E pot by' := by
  obtain ⟨k4, k5, k6⟩ := Rr
  obtain ⟨vb, vc, vals, k1, _⟩ := Tt.q
  refine E_assign_trees_turn ?_
  unfold B_assign_trees_turn
  let P : Int → H → Nat → Prop := fun s g z => ∃ (w c : Nat) (by1 : Nat → Int), s = (w : Int) ∧ z = rk_ w ∧ w = left + c ∧ c < wd ∧ Y w ∧ Fm [6] own h own g ∧ S1 own g 6 vy (ints (left + wd) by1) ∧ TrP left wd k (k + 1) w W E pot by1 ∧ ∀ u, u < left → rk_ u < rk_ w → by1 u = by_ u
  refine ⟨fun s g => ∃ z, P s.1 g z, ?_, ?_⟩
  · refine ptrP_mk (k4.rV rfl (ptrP_mk (k1.rI rfl (ifP_of (fun h1 => ?_) (fun h1 => ?_)))))
    · have h1 : en < left := by have := of_decide_eq_true h1; omega
      obtain ⟨_, h0, he⟩ := hen.resolve_right (by rintro ⟨c, hc, e, _⟩; omega)
      refine ifP_of (fun h2 => ?_) (fun h2 => ?_)
      · have h2 : en = k := by have := of_decide_eq_true h2; omega
        refine ⟨rfl, by_, Fm.refl, ⟨k4, k5, k6⟩, G.more fun _ => by rw [← h2]; exact h0⟩
      · have h2 : en ≠ k := by have := of_decide_eq_false h2; omega
        rcases he with he | ⟨_, c, hc, hb, hY, hr⟩
        · exact absurd he h2
        refine ptrP_mk (k4.rV rfl (k6.rdI (by omega) (ptrP_mk (k4.rV rfl (k6.setI (by omega) fun g F1 k6 => ?_)))))
        exact ⟨rk_ (left + c), left + c, c, _, hb, rfl, rfl, hc, hY, F1, k6, G.drop h1 hb h0, fun u hu hru => upd_ne (by rintro rfl; omega)⟩
    · have h1 : ¬ en < left := by have := of_decide_eq_false h1; omega
      rcases hen with ⟨e, _⟩ | ⟨c, hc, e, hb, hY⟩
      · exact absurd e h1
      subst e
      exact ⟨rk_ (left + c), left + c, c, _, rfl, rfl, rfl, hc, hY, Fm.refl, k6, G.open_ hc hb, fun _ _ _ => rfl⟩
  clear k6 hen
  intro w0 h2 hJ
  let I : (Int × Unit) → H → Nat → Prop := fun s g z => P s.1 g z
  refine ⟨fun p q => ∃ k, I p q k, rk I, rk_wf I, hJ, ?_⟩
  clear hJ
  intro w1 g hI
  have hI2 : I (w1, ()) g (mu I ((w1, ()), g)) := mu_spec hI
  obtain ⟨w, c, by1, e1, hz, hw, hc, hY, Fq, k6, G1, old⟩ := hI2
  generalize hkk : mu I ((w1, ()), g) = km at *
  change w1 = (w : Int) at e1
  subst e1
  clear hI
  obtain ⟨u, u1, u2, u3, u4, u5, u6, u7⟩ := Wy.wy c hc (hw ▸ hY)
  rw [← hw] at u3 u6
  have ou := old u u1 u6
  refine (k8.fm Fq (by simp <;> omega)).rdI (by omega) ?_
  rw [u3]
  have k4q := k4.fm Fq (by simp <;> omega)
  refine ptrP_mk (k4q.rV rfl (k6.rdI (by omega) (ptrP_mk (ptrP_mk (k4q.rV rfl (k4q.rV rfl (k6.setI (by omega) fun g1 F1 k6 => k6.setI (by omega) fun g2 F2 k6 => ?_)))))))
  have Fq := Fq.trans (F1.trans F2)
  refine ifP_of (fun h1 => ?_) (fun h1 => ?_)
  · have h1 : u = k := by have := of_decide_eq_true h1; omega
    subst h1
    have G2 := G1.step u1 (by omega) hc hw u4 u5 (.inl ⟨by rw [ou]; exact hbk, rfl⟩)
    refine ⟨rfl, _, Fq, ⟨k4.fm Fq (by simp <;> omega), k5.fm Fq (by simp <;> omega), k6⟩, G2.more fun e => ?_⟩
    rw [upd_ne (by omega), upd_at] at e
    omega
  · have h1 : u ≠ k := by have := of_decide_eq_false h1; omega
    rcases u7 with ⟨e, _⟩ | ⟨_, c', c1, c2, c3, c4⟩
    · exact absurd e h1
    have G2 := G1.step u1 (by omega) hc hw u4 u5 (.inr (ou.trans c2))
    have e5 : by1 u = ((left + c' : Nat) : Int) := ou.trans c2
    refine mu_next (I := I) (k := rk_ (left + c')) ⟨left + c', c', _, e5, rfl, rfl, c1, c3, Fq, k6, G2, fun v hv hr => ?_⟩ (by rw [hkk, hz]; omega)
    rw [upd_ne (by omega), upd_ne (by rintro rfl; omega)]
    exact old v hv (by omega)
theorem npT_take {left : Nat} {pot dist : Nat → Int} {best : Int} {sn : List Nat} (nd : sn.Nodup) {j : Nat} (hj : j < sn.length) (v : Nat) :
    npT left pot dist best (sn.take (j + 1)) v = upd (npT left pot dist best (sn.take j)) sn[j] (if sn[j] < left then pot sn[j] - (best - dist sn[j]) else pot sn[j] + (best - dist sn[j])) v := by
  have e : sn.take (j + 1) = sn.take j ++ [sn[j]] := by rw [List.take_add_one, List.getElem?_eq_getElem hj]; rfl
  rw [e]
  by_cases h : v = sn[j]
  · subst h
    rw [upd_at]
    unfold npT; rw [if_pos (List.mem_append.2 (.inr (List.mem_singleton.2 rfl)))]
  · rw [upd_ne h]
    unfold npT
    have : v ∈ sn.take j ++ [sn[j]] ↔ v ∈ sn.take j := by rw [List.mem_append, List.mem_singleton]; exact ⟨fun k => k.resolve_right h, .inl⟩
    by_cases h2 : v ∈ sn.take j
    · rw [if_pos (this.2 h2), if_pos h2]
    · rw [if_neg (fun k => h2 (this.1 k)), if_neg h2]
theorem npT_at {left : Nat} {pot dist : Nat → Int} {best : Int} {sn : List Nat} (nd : sn.Nodup) {j : Nat} (hj : j < sn.length) : npT left pot dist best (sn.take j) sn[j] = pot sn[j] := by
  refine npT_n fun h => ?_
  obtain ⟨i, hi, e⟩ := List.getElem_of_mem h
  rw [List.length_take] at hi
  rw [List.getElem_take] at e
  exact List.pairwise_iff_getElem.1 nd i j (by omega) hj (by omega) e
end

end Go.Proofs.Ytdblngaacnpgmaa

namespace Go.Proofs.Ytdblngaacnpgmaa
open Go
open Classical
set_option linter.unusedVariables false
set_option linter.unusedSimpArgs false
set_option maxHeartbeats 4000000

section
variable {own own' : Own} {h h' : H} {bt bx left wd m k : Nat} {es : Nat → Ed} {bs : Nat → Nat → Nat} {pot by_ : Nat → Int} {vp vy : Value}
theorem tgrow_T (Tt : Tb own h bt left wd m es bs) (B : BsP left wd m es bs) (Rr : Rtr own h bx bt left wd vp vy pot by_) (G : TrP left wd k k (left + wd) (wgE es bs) (fun v c => 0 < bs v c) pot by_) (hk : k < left)
    (hl : left + wd ≤ 1024) (hm : m ≤ 4096) (hw : ∀ v c, 0 ≤ wgE es bs v c ∧ wgE es bs v c ≤ 1048576) :
    T Try.prog F.assign_trees_grow [.pointer (some (bk bx)), .int .i64 k] h fun r h' => r = .ret (.tuple ⟨[]⟩) ∧ ∃ (own' : Own) (pot' by' : Nat → Int), Fm [5, 6, 7, 8, 9, 31, 32, 33, 34, 35, 36] own h own' h' ∧ Rtr own' h' bx bt left wd vp vy pot' by' ∧
      TrP left wd (k + 1) (k + 1) (left + wd) (wgE es bs) (fun v c => 0 < bs v c) pot' by' := by
  have hf := farI_eq
  have hbk : by_ k = -1 := G.un k hk (Nat.le_refl _)
  have hE : ∀ v c, ¬ 0 < bs v c → wgE es bs v c = 0 := fun v c e => by unfold wgE; rw [if_neg e]
  have plo : ∀ v, v < left + wd → 0 ≤ pot v ∧ pot v ≤ 1100000000 := fun v hv => by have := G.po v hv; omega
  have plk := G.pl k hk
  obtain ⟨k4, k5, k6⟩ := Rr
  refine E_assign_trees_grow ?_
  unfold B_assign_trees_grow
  obtain ⟨vb, vc, vals, k1, _⟩ := Tt.q
  refine ptrP_mk (ptrP_mk (k4.rV rfl (ptrP_mk (k1.rI rfl (k4.rV rfl (ptrP_mk (k1.rI rfl ?_)))))))
  clear k1
  refine mk_ints 7 (by omega) (by omega) ?_
  intro b9 h10 hb9 x9 k7
  have Ft : Fm [5, 6, 7, 8, 9, 31, 32, 33, 34, 35, 36] own h (own1 own b9 7) h10 := Fm.new x9 hb9
  have Tt := Tt.nw (j := 7) x9 hb9
  have k4 := k4.nw (j := 7) x9 hb9
  have k5 := k5.nw (j := 7) x9 hb9
  have k6 := k6.nw (j := 7) x9 hb9
  have k7 := k7 own
  generalize own1 own b9 7 = ow at *
  refine mk_ints 8 (by omega) (by omega) ?_
  intro b11 h12 hb11 x11 k8
  have Ft := Ft.trans (Fm.new (i := 8) x11 hb11)
  have Tt := Tt.nw (j := 8) x11 hb11
  have k4 := k4.nw (j := 8) x11 hb11
  have k5 := k5.nw (j := 8) x11 hb11
  have k6 := k6.nw (j := 8) x11 hb11
  have k7 := k7.nw (j := 8) x11 hb11
  have k8 := k8 ow
  generalize own1 ow b11 8 = ow at *
  clear hb9 x9 hb11 x11
  simp only [Int.toNat_natCast]
  -- none is reached
  let I0 : (Int × Unit) → H → Nat → Prop := fun s g z => ∃ j : Nat, s.1 = j ∧ j ≤ left + wd ∧ z = left + wd - j ∧ Fm [7, 8] ow h12 ow g ∧ S1 ow g 7 (.slice (some (bk b9)) (left + wd) (left + wd)) (ints (left + wd) fun c => if c < j then farI else 0) ∧
    S1 ow g 8 (.slice (some (bk b11)) (left + wd) (left + wd)) (ints (left + wd) fun c => if c < j then -1 else 0)
  refine ⟨fun p q => ∃ k, I0 p q k, rk I0, rk_wf I0, ⟨_, 0, rfl, by omega, rfl, Fm.refl, k7.cg fun c _ => (if_neg (by omega)).symm, k8.cg fun c _ => (if_neg (by omega)).symm⟩, ?_⟩
  clear k7 k8
  intro s g hI
  obtain ⟨j, e1, hj, hz, Fq, k7, k8⟩ := mu_spec hI
  generalize hkk : mu I0 ((s, ()), g) = km at *
  change s = (j : Int) at e1
  subst e1
  have hlt : j < left + wd → left + wd - (j + 1) < mu I0 (((j : Int), ()), g) := fun h => by rw [hkk, hz]; exact sub_dec h
  clear hI
  refine ifP_of (fun h1 => ?_) (fun h1 => ?_)
  · have hjN : j < left + wd := by have := of_decide_eq_true h1; omega
    refine k7.setI hjN fun g1 F1 k7 => ?_
    refine (k8.fm F1 (by simp <;> omega)).setI hjN fun g2 F2 k8 => ?_
    have k7 := k7.fm F2 (by simp <;> omega)
    rw [i64_inc (by omega)]
    refine mu_next (I := I0) (k := left + wd - (j + 1)) ⟨j + 1, rfl, hjN, rfl, Fq.trans ((F1.mono (by simp)).trans (F2.mono (by simp))), k7.cg fun c _ => upd_to (g := fun _ => farI) (f := fun _ => 0) rfl c, k8.cg fun c _ => upd_to (g := fun _ => -1) (f := fun _ => 0) rfl c⟩ (hlt hjN)
  have hjN : j = left + wd := by have := of_decide_eq_false h1; omega
  have k7 : S1 ow g 7 (.slice (some (bk b9)) (left + wd) (left + wd)) (ints (left + wd) fun _ => farI) := k7.cg fun c hc => if_pos (by omega)
  have k8 : S1 ow g 8 (.slice (some (bk b11)) (left + wd) (left + wd)) (ints (left + wd) fun _ => -1) := k8.cg fun c hc => if_pos (by omega)
  have Ft := Ft.trans (Fq.mono (by simp))
  have Tt := Tt.fm Fq (by simp <;> omega)
  have k4 := k4.fm Fq (by simp <;> omega)
  have k5 := k5.fm Fq (by simp <;> omega)
  have k6 := k6.fm Fq (by simp <;> omega)
  clear hlt hkk hz h1 hj Fq hjN
  obtain ⟨vb, vc, vals, k1, _⟩ := Tt.q
  refine ptrP_mk (k4.rV rfl (ptrP_mk (k1.rI rfl ?_)))
  clear k1
  refine (qnewB_T ow hl).mono ?_
  rintro _ g1 ⟨bq, ow1, rfl, F1, Q⟩
  have Ft := Ft.trans (F1.mono (by simp))
  have Tt := Tt.fm F1 (by simp <;> omega)
  have k4 := k4.fm F1 (by simp <;> omega)
  have k5 := k5.fm F1 (by simp <;> omega)
  have k6 := k6.fm F1 (by simp <;> omega)
  have k7 := k7.fm F1 (by simp <;> omega)
  have k8 := k8.fm F1 (by simp <;> omega)
  clear F1
  refine rt_ret ⟨_, _, rfl, k7.setI (by omega) fun g2 F2 k7 => ?_⟩
  have k7 : S1 ow1 g2 7 (.slice (some (bk b9)) (left + wd) (left + wd)) (ints (left + wd) fun v => if v = k then 0 else farI) := k7
  have Ft := Ft.trans (F2.mono (by simp))
  have Tt := Tt.fm F2 (by simp <;> omega)
  have k4 := k4.fm F2 (by simp <;> omega)
  have k5 := k5.fm F2 (by simp <;> omega)
  have k6 := k6.fm F2 (by simp <;> omega)
  have k8 := k8.fm F2 (by simp <;> omega)
  have Q := Q.fm F2 (by simp)
  clear F2
  refine ptrP_mk (k4.rV rfl (k5.rdI (by omega) ?_))
  let Eb : Nat → Nat → Prop := fun v c => 0 < bs v c
  -- what the search comes to
  refine ⟨fun s g => ∃ (ow : Own) (dist via : Nat → Int) (rk_ : Nat → Nat) (sn : List Nat) (a t en : Nat), s.1 = (en : Int) ∧ Fm [5, 6, 7, 8, 9, 31, 32, 33, 34, 35, 36] own h ow g ∧ Tb ow g bt left wd m es bs ∧
    B1 ow g 4 bx [.pointer (some (bk bt)), vp, vy] ∧ S1 ow g 5 vp (ints (left + wd) pot) ∧ S1 ow g 6 vy (ints (left + wd) by_) ∧ S1 ow g 7 (.slice (some (bk b9)) (left + wd) (left + wd)) (ints (left + wd) dist) ∧
    S1 ow g 8 (.slice (some (bk b11)) (left + wd) (left + wd)) (ints (left + wd) via) ∧ S1 ow g 9 s.2.2.1 (natV sn) ∧ DsP left wd k (wgE es bs) Eb pot by_ dist via rk_ sn a wd t ∧
    (∀ v, v ∈ sn → v < left → s.2.1 ≤ dist v + pot v) ∧ dist a ≤ s.2.1 ∧ s.2.1 ≤ 1048576 ∧ (∀ c, c < wd → left + c ∉ sn → s.2.1 ≤ dist (left + c)) ∧
    (en ∈ sn ∧ en < left ∧ s.2.1 = dist en + pot en ∨ ∃ c, c < wd ∧ en = left + c ∧ by_ en = -1 ∧ en ∉ sn ∧ dist en = s.2.1), ?_, ?_⟩
  · -- the search
    let I : (Int × Int × Int × Value × Unit) → H → Nat → Prop := fun s g z => ∃ (ow : Own) (dist via key : Nat → Int) (held : Nat → Bool) (rk_ : Nat → Nat) (sn : List Nat) (a t en : Nat), s.1 = (en : Int) ∧ s.2.2.1 = (a : Int) ∧ z = left + wd + 2 - (sn ++ [a]).length ∧
      Fm [5, 6, 7, 8, 9, 31, 32, 33, 34, 35, 36] own h ow g ∧ Tb ow g bt left wd m es bs ∧ B1 ow g 4 bx [.pointer (some (bk bt)), vp, vy] ∧ S1 ow g 5 vp (ints (left + wd) pot) ∧ S1 ow g 6 vy (ints (left + wd) by_) ∧
      S1 ow g 7 (.slice (some (bk b9)) (left + wd) (left + wd)) (ints (left + wd) dist) ∧ S1 ow g 8 (.slice (some (bk b11)) (left + wd) (left + wd)) (ints (left + wd) via) ∧ S1 ow g 9 s.2.2.2.1 (natV sn) ∧ BQ ow g bq (left + wd) key held ∧
      DsP left wd k (wgE es bs) Eb pot by_ dist via rk_ (sn ++ [a]) a 0 t ∧ QsP left wd dist key held (sn ++ [a]) ∧ (∀ v, v ∈ sn → v < left → s.2.1 ≤ dist v + pot v) ∧ dist a ≤ s.2.1 ∧ s.2.1 ≤ 1048576 ∧ en ∈ sn ++ [a] ∧ en < left ∧ s.2.1 = dist en + pot en
    refine ⟨fun p q => ∃ k, I p q k, rk I, rk_wf I, ⟨_, ow1, _, _, _, _, fun _ => 0, [], k, 0, k, rfl, rfl, rfl, Ft, Tt, k4, k5, k6, k7, k8, S1.nil, Q, DsP.start (rk_ := fun _ => 0) hk, QsP.start hk, fun v hv => (by cases hv), ?_, plk, by simp, hk, ?_⟩, ?_⟩
    · show (if k = k then (0 : Int) else farI) ≤ pot k
      rw [if_pos rfl]; exact (plo k (by omega)).1
    · show pot k = (if k = k then (0 : Int) else farI) + pot k
      rw [if_pos rfl]; omega
    clear Ft Tt k4 k5 k6 k7 k8 Q
    intro en0 best0 at0 seen0 g hI
    obtain ⟨ow, dist, via, key, held, rk_, sn, a, t, en, e1, e2, hz, Ft, Tt, k4, k5, k6, k7, k8, k9, Q, D, Qs, hb, ha, hbd, en1, en2, en3⟩ := mu_spec hI
    generalize hkk : mu I ((en0, best0, at0, seen0, ()), g) = km at *
    change en0 = (en : Int) at e1
    change at0 = (a : Int) at e2
    change S1 ow g 9 seen0 _ at k9
    change ∀ v, v ∈ sn → v < left → best0 ≤ dist v + pot v at hb
    change dist a ≤ best0 at ha
    change best0 ≤ 1048576 at hbd
    change best0 = dist en + pot en at en3
    subst e1 e2
    clear hI
    have slen : (sn ++ [a]).length ≤ left + wd := short D.nd D.lt
    have slen' : sn.length ≤ 1024 := by rw [List.length_append] at slen; omega
    have al := D.ak.2
    have pa := plo a (by omega)
    have da0 := D.mo a D.ak.1
    refine k9.push (l := 1) rfl (by simp [Value.oneCell']) (by simp) (by omega) (by rw [natV_length]; show _ + 1 < 1000000; omega) ?_
    intro bn1 gm seen1 ow1 g1 hbn1 xm1 F1 k9
    have k9 : S1 ow1 g1 9 seen1 (natV (sn ++ [a])) := by simpa [natV] using k9
    have Ft := Ft.trans (F1.mono (by simp))
    have Tt := Tt.fm F1 (by simp <;> omega)
    have k4 := k4.fm F1 (by simp <;> omega)
    have k5 := k5.fm F1 (by simp <;> omega)
    have k6 := k6.fm F1 (by simp <;> omega)
    have k7 := k7.fm F1 (by simp <;> omega)
    have k8 := k8.fm F1 (by simp <;> omega)
    have Q := Q.fm F1 (by simp)
    clear F1 hbn1 xm1
    refine ⟨fun s g2 => g2 = g1 ∧ ∃ en : Nat, s.1 = (en : Int) ∧ (∀ v, v ∈ sn ++ [a] → v < left → s.2.1 ≤ dist v + pot v) ∧ dist a ≤ s.2.1 ∧ s.2.1 ≤ 1048576 ∧ en ∈ sn ++ [a] ∧ en < left ∧ s.2.1 = dist en + pot en, ?_, ?_⟩
    · refine k7.at (ints_get (by omega)) fun a55 e55 => ptrP_mk ⟨_, e55, k4.rV rfl (k5.rdI (by omega) ?_)⟩
      have ew : IntKind.i64.wrap (dist a + pot a) = dist a + pot a := w64_in (by omega) (by omega)
      rw [ew]
      refine ifP_of (fun h1 => ?_) (fun h1 => ?_)
      · have h1 := of_decide_eq_true h1
        refine ⟨rfl, a, rfl, fun v hv hl => ?_, ?_, ?_, by simp, al, rfl⟩
        · rcases List.mem_append.1 hv with hv | hv
          · have := hb v hv hl
            show dist a + pot a ≤ _
            omega
          · rw [List.mem_singleton] at hv; subst hv; exact Int.le_refl _
        · show dist a ≤ dist a + pot a
          omega
        · show dist a + pot a ≤ _
          omega
      · have h1 := of_decide_eq_false h1
        refine ⟨rfl, en, rfl, fun v hv hl => ?_, ha, hbd, en1, en2, en3⟩
        rcases List.mem_append.1 hv with hv | hv
        · exact hb v hv hl
        · rw [List.mem_singleton] at hv; subst hv
          show best0 ≤ _
          omega
    clear hb ha hbd en1 en2 en3
    rintro enI best1 gA ⟨hgg, en, e1, hb, ha, hbd, en1, en2, en3⟩
    subst hgg
    change enI = (en : Int) at e1
    change ∀ v, v ∈ sn ++ [a] → v < left → best1 ≤ dist v + pot v at hb
    change dist a ≤ best1 at ha
    change best1 ≤ 1048576 at hbd
    change best1 = dist en + pot en at en3
    subst e1
    obtain ⟨vb, vc, vals, k1, k2, k3, kv⟩ := Tt.q
    refine ptrP_mk (k4.rV rfl (ptrP_mk (k1.rI rfl ?_)))
    generalize hsn1 : sn ++ [a] = sn1 at *
    -- the edges of a
    let I6 : (Int × Unit) → H → Nat → Prop := fun s g z => ∃ (jj : Nat) (ow : Own) (dist1 via key : Nat → Int) (held : Nat → Bool), s.1 = ((left + jj : Nat) : Int) ∧ jj ≤ wd ∧ z = wd - jj ∧ Fm [7, 8, 31, 32, 33, 34, 35, 36] ow1 gA ow g ∧
      S1 ow g 7 (.slice (some (bk b9)) (left + wd) (left + wd)) (ints (left + wd) dist1) ∧ S1 ow g 8 (.slice (some (bk b11)) (left + wd) (left + wd)) (ints (left + wd) via) ∧ BQ ow g bq (left + wd) key held ∧
      DsP left wd k (wgE es bs) Eb pot by_ dist1 via rk_ sn1 a jj t ∧ QsP left wd dist1 key held sn1 ∧ ∀ x, x ∈ sn1 → dist1 x = dist x
    refine ⟨fun p q => ∃ k, I6 p q k, rk I6, rk_wf I6, ⟨_, 0, ow1, dist, via, key, held, rfl, by omega, rfl, Fm.refl, k7, k8, Q, D, Qs, fun _ _ => rfl⟩, ?_⟩
    clear k7 k8 Q D Qs
    intro w0 g2 hI
    obtain ⟨jj, ow2, dist1, via1, key1, held1, e1, hj, hz6, Fq, k7, k8, Q, D, Qs, dsn⟩ := mu_spec hI
    generalize hkk6 : mu I6 ((w0, ()), g2) = km6 at *
    change w0 = ((left + jj : Nat) : Int) at e1
    subst e1
    have hlt : jj < wd → wd - (jj + 1) < mu I6 ((((left + jj : Nat) : Int), ()), g2) := fun h => by rw [hkk6, hz6]; exact sub_dec h
    clear hI
    have Tq := Tt.fm Fq (by simp)
    have k4q := k4.fm Fq (by simp <;> omega)
    have k5q := k5.fm Fq (by simp <;> omega)
    have k6q := k6.fm Fq (by simp <;> omega)
    have k1q := k1.fm Fq (by simp <;> omega)
    have k2q := k2.fm Fq (by simp <;> omega)
    refine ptrP_mk (k4q.rV rfl (ptrP_mk (k1q.rI rfl (ifP_of (fun h1 => ?_) (fun h1 => ?_)))))
    · have hjw : jj < wd := by have := of_decide_eq_true h1; omega
      have pw := plo (left + jj) (by omega)
      have wk := hw a jj
      have kva := (kv a al).fm Fq (by simp; omega)
      have da1 := dsn a D.ak.1
      refine k7.at (ints_get (by omega)) fun a73 e73 => ptrP_mk (ptrP_mk (ptrP_mk ⟨_, e73, k4q.rV rfl (k5q.at (ints_get (by omega)) fun a79 e79 => ⟨_, e79, k4q.rV rfl (k5q.at (ints_get (by omega)) fun a82 e82 => ⟨_, e82, k4q.rV rfl ?_⟩)⟩)⟩))
      refine (weight_T Tq B al hjw hl hm (by omega)).mono ?_
      rintro _ _ ⟨rfl, rfl⟩
      have ed : IntKind.i64.wrap ((IntKind.i64.wrap ((IntKind.i64.wrap (dist1 a + pot a)) + pot (left + jj))) - wgE es bs a jj) = dist1 a + pot a + pot (left + jj) - wgE es bs a jj := by
        rw [show IntKind.i64.wrap (dist1 a + pot a) = dist1 a + pot a from w64_in (by omega) (by omega), show IntKind.i64.wrap (dist1 a + pot a + pot (left + jj)) = dist1 a + pot a + pot (left + jj) from w64_in (by omega) (by omega)]
        exact w64_in (by omega) (by omega)
      refine rt_ret ⟨_, rfl, fun _ _ => rfl, fun _ _ => rfl, fun _ _ => rfl, fun _ _ => rfl, fun _ _ => rfl, ?_⟩
      simp only [ed]
      have ew : IntKind.i64.wrap (((left + jj : Nat) : Int) - left) = (jj : Int) := by rw [show ((left + jj : Nat) : Int) - left = jj by omega]; exact w64_in (by omega) (by omega)
      have ei : IntKind.i64.wrap (((left + jj : Nat) : Int) + 1) = ((left + (jj + 1) : Nat) : Int) := i64_inc (by omega)
      refine ptrP_mk (ptrP_mk (k4q.rV rfl (ptrP_mk (k1q.rV rfl (k2q.rdV al (k4q.rV rfl (ptrP_mk (k1q.rI rfl ?_))))))))
      rw [ew, ei]
      have fe := G.fe a jj al hjw
      have skip : (¬ Eb a jj ∨ dist1 (left + jj) ≤ dist1 a + pot a + pot (left + jj) - wgE es bs a jj) → (∃ k, I6 (((left + (jj + 1) : Nat) : Int), ()) g2 k) ∧ rk I6 ((((left + (jj + 1) : Nat) : Int), ()), g2) ((((left + jj : Nat) : Int), ()), g2) := fun hno =>
        mu_next (I := I6) (k := wd - (jj + 1)) ⟨jj + 1, ow2, dist1, via1, key1, held1, rfl, hjw, rfl, Fq, k7, k8, Q, D.no hno, Qs, dsn⟩ (hlt hjw)
      refine kva.rdI hjw (ifP_of (fun h2 => ?_) (fun h2 => ?_))
      · refine skip (.inl fun k => ?_)
        have h2 := of_decide_eq_true h2
        have k : 0 < bs a jj := k
        omega
      have hEa : Eb a jj := by
        have h2 := of_decide_eq_false h2
        show 0 < bs a jj
        omega
      refine k7.rdI (by omega) (ifP_of (fun h3 => skip (.inr (of_decide_eq_true h3))) (fun h3 => ?_))
      have h3 : dist1 a + pot a + pot (left + jj) - wgE es bs a jj < dist1 (left + jj) := by have := of_decide_eq_false h3; omega
      have D2 := D.yes hjw fe hEa h3
      have ns := D.fresh fe h3
      have hfr := (D.fr jj hjw ns).2
      have dsn2 : ∀ x, x ∈ sn1 → upd dist1 (left + jj) (dist1 a + pot a + pot (left + jj) - wgE es bs a jj) x = dist x := fun x hx => by rw [upd_ne (by rintro rfl; exact ns hx)]; exact dsn x hx
      generalize hd : dist1 a + pot a + pot (left + jj) - wgE es bs a jj = d at *
      refine ⟨fun _ g3 => ∃ (ow3 : Own) (key2 : Nat → Int) (held2 : Nat → Bool), Fm [31, 32, 33, 34, 35, 36] ow2 g2 ow3 g3 ∧ BQ ow3 g3 bq (left + wd) key2 held2 ∧ QsP left wd (upd dist1 (left + jj) d) key2 held2 sn1, ?_, ?_⟩
      · refine k7.rdI (by omega) (ifP_of (fun h4 => ?_) (fun h4 => ?_))
        · have h4 : dist1 (left + jj) = farI := by have := of_decide_eq_true h4; omega
          have hh : held1 (left + jj) = false := by
            cases e : held1 (left + jj) with
            | false => rfl
            | true => have := ((Qs.hd jj hjw).1 e).1; omega
          refine (qpushB_T Q (by omega) hh hl).mono ?_
          rintro _ g3 ⟨ow3, rfl, F3, Q3⟩
          exact rt_ret ⟨_, rfl, ow3, _, _, F3, Q3, Qs.yes (by omega) ns⟩
        · have h4 : dist1 (left + jj) ≠ farI := by have := of_decide_eq_false h4; omega
          have hh : held1 (left + jj) = true := (Qs.hd jj hjw).2 ⟨by omega, ns⟩
          refine (qlowerB_T Q (by omega) hh (by rw [Qs.ky jj hjw hh]; exact h3) hl).mono ?_
          rintro _ g3 ⟨rfl, F3, Q3⟩
          exact rt_ret ⟨_, rfl, ow2, _, _, F3, Q3, Qs.yes2 (by omega) ns hh⟩
      rintro g3 ⟨ow3, key2, held2, F3, Q3, Qs3⟩
      have k7 := k7.fm F3 (by simp <;> omega)
      have k8 := k8.fm F3 (by simp <;> omega)
      refine k7.setI (by omega) fun g4 F4 k7 => ?_
      have k8 := k8.fm F4 (by simp <;> omega)
      have Q3 := Q3.fm F4 (by simp)
      refine k8.setI (by omega) fun g5 F5 k8 => ?_
      have k7 := k7.fm F5 (by simp <;> omega)
      have Q3 := Q3.fm F5 (by simp)
      exact mu_next (I := I6) (k := wd - (jj + 1)) ⟨jj + 1, ow3, _, _, key2, held2, rfl, hjw, rfl, Fq.trans ((F3.mono (by simp)).trans ((F4.mono (by simp)).trans (F5.mono (by simp)))), k7, k8, Q3, D2, Qs3, dsn2⟩ (hlt hjw)
    have hjw : jj = wd := by have := of_decide_eq_false h1; omega
    subst hjw
    have Ft := Ft.trans (Fq.mono (by simp))
    have k9 := k9.fm Fq (by simp <;> omega)
    clear hlt hkk6 hz6 h1 hj k1 k2 k3 kv k1q k2q Tt k4 k5 k6 Fq
    have ha1 : dist1 a ≤ best1 := by rw [dsn a D.ak.1]; exact ha
    have hb1 : ∀ v, v ∈ sn1 → v < left → best1 ≤ dist1 v + pot v := fun v hv hl => by rw [dsn v hv]; exact hb v hv hl
    have en4 : best1 = dist1 en + pot en := by rw [dsn en en1]; exact en3
    refine (qpopB_T Q hl).mono ?_
    rintro _ g3 (⟨rfl, hno, rfl⟩ | ⟨w, rfl, hwN, hwh, hmin, F3, Q3⟩)
    · refine rt_ret ⟨_, _, _, rfl, ifP_of (fun _ => ?_) (fun h2 => by simp at h2)⟩
      refine ⟨ow2, dist1, via1, rk_, sn1, a, t, en, rfl, Ft, Tq, k4q, k5q, k6q, k7, k8, k9, D, hb1, ha1, hbd, fun c hc hn => ?_, .inl ⟨en1, en2, en4⟩⟩
      show best1 ≤ dist1 (left + c)
      rcases Int.lt_or_le (dist1 (left + c)) farI with h5 | h5
      · have := (Qs.hd c hc).2 ⟨h5, hn⟩
        rw [hno _ (by omega)] at this; cases this
      · omega
    have Ft := Ft.trans (F3.mono (by simp))
    have Tq := Tq.fm F3 (by simp <;> omega)
    have k4q := k4q.fm F3 (by simp <;> omega)
    have k5q := k5q.fm F3 (by simp <;> omega)
    have k6q := k6q.fm F3 (by simp <;> omega)
    have k7 := k7.fm F3 (by simp <;> omega)
    have k8 := k8.fm F3 (by simp <;> omega)
    have k9 := k9.fm F3 (by simp <;> omega)
    obtain ⟨c, rfl⟩ : ∃ c, w = left + c := ⟨w - left, by
      rcases Nat.lt_or_ge w left with h5 | h5
      · rw [Qs.lf w h5] at hwh; cases hwh
      · omega⟩
    have hc : c < jj := by omega
    obtain ⟨df, dns⟩ := (Qs.hd c hc).1 hwh
    have hkw := Qs.ky c hc hwh
    rw [hkw]
    have hm2 : ∀ c', c' < jj → left + c' ∉ sn1 → dist1 (left + c) ≤ dist1 (left + c') := fun c' hc' hn => by
      rcases Int.lt_or_le (dist1 (left + c')) farI with h5 | h5
      · have hh := (Qs.hd c' hc').2 ⟨h5, hn⟩
        have := hmin _ (by omega) hh
        rw [hkw, Qs.ky c' hc' hh] at this
        exact this
      · omega
    refine rt_ret ⟨_, _, _, rfl, ifP_of (fun h2 => by simp at h2) (fun _ => ifP_of (fun h2 => ?_) (fun h2 => ?_))⟩
    · have h2 := of_decide_eq_true h2
      refine ⟨ow2, dist1, via1, rk_, sn1, a, t, en, rfl, Ft, Tq, k4q, k5q, k6q, k7, k8, k9, D, hb1, ha1, hbd, fun c' hc' hn => ?_, .inl ⟨en1, en2, en4⟩⟩
      have := hm2 c' hc' hn
      show best1 ≤ dist1 (left + c')
      omega
    have h2 : dist1 (left + c) < best1 := by have := of_decide_eq_false h2; omega
    have fra := (D.fr c hc dns).1
    refine ptrP_mk (k4q.rV rfl (k6q.rdI (by omega) (ifP_of (fun h3 => ?_) (fun h3 => ?_))))
    · have h3 := of_decide_eq_true h3
      have hbm : by_ (left + c) = -1 := by
        rcases G.rm c hc (by omega) with e | ⟨v, _, e, _⟩ <;> omega
      refine ⟨ow2, dist1, via1, rk_, sn1, a, t, left + c, rfl, Ft, Tq, k4q, k5q, k6q, k7, k8, k9, D, fun v hv hl => ?_, fra, ?_, hm2, .inr ⟨c, hc, rfl, hbm, dns, rfl⟩⟩
      · have := hb1 v hv hl
        show dist1 (left + c) ≤ _
        omega
      · show dist1 (left + c) ≤ _
        omega
    have h3 := of_decide_eq_false h3
    obtain ⟨v, hv⟩ : ∃ v : Nat, by_ (left + c) = v := ⟨(by_ (left + c)).toNat, by omega⟩
    obtain ⟨hvl, hvn, D3⟩ := D.pop G hc dns hm2 hv (by omega) hk
    have len3 := short D3.nd D3.lt
    have l1 : sn1.length = sn.length + 1 := by rw [← hsn1]; simp
    refine k9.push (l := 1) rfl (by simp [Value.oneCell']) (by simp) (by omega) (by rw [natV_length]; show _ + 1 < 1000000; omega) ?_
    intro bn2 gm2 seen2 ow4 g4 hbn2 xm2 F4 k9
    have k9 : S1 ow4 g4 9 seen2 (natV (sn1 ++ [left + c])) := by simpa [natV] using k9
    have Ft := Ft.trans (F4.mono (by simp))
    have Tq := Tq.fm F4 (by simp <;> omega)
    have k4q := k4q.fm F4 (by simp <;> omega)
    have k5q := k5q.fm F4 (by simp <;> omega)
    have k6q := k6q.fm F4 (by simp <;> omega)
    have k7 := k7.fm F4 (by simp <;> omega)
    have k8 := k8.fm F4 (by simp <;> omega)
    have Q3 := Q3.fm F4 (by simp)
    refine ptrP_mk (k4q.rV rfl (k6q.rdI (by omega) ?_))
    rw [hv]
    refine k7.setI (by omega) fun g5 F5 k7 => ?_
    have Ft := Ft.trans (F5.mono (by simp))
    have Tq := Tq.fm F5 (by simp <;> omega)
    have k4q := k4q.fm F5 (by simp <;> omega)
    have k5q := k5q.fm F5 (by simp <;> omega)
    have k6q := k6q.fm F5 (by simp <;> omega)
    have k8 := k8.fm F5 (by simp <;> omega)
    have k9 := k9.fm F5 (by simp <;> omega)
    have Q3 := Q3.fm F5 (by simp)
    have es : sn1 ++ [left + c] ++ [v] = sn1 ++ [left + c, v] := by simp
    have dn : ∀ x, x ∈ sn1 → upd dist1 v (dist1 (left + c)) x = dist1 x := fun x hx => upd_ne (by rintro rfl; exact hvn hx)
    refine mu_next (I := I) (k := left + jj + 2 - (sn1 ++ [left + c] ++ [v]).length) ⟨ow4, _, via1, _, _, _, sn1 ++ [left + c], v, t + 1, en, rfl, rfl, rfl, Ft, Tq, k4q, k5q, k6q, k7, k8, k9, Q3, by rw [es]; exact D3, by rw [es]; exact Qs.pop hc hvl, fun x hx hl => ?_, ?_, hbd, ?_, en2, ?_⟩ ?_
    · show best1 ≤ _
      rcases List.mem_append.1 hx with hx | hx
      · rw [dn x hx]; exact hb1 x hx hl
      · rw [List.mem_singleton] at hx; omega
    · show upd dist1 v (dist1 (left + c)) v ≤ best1
      rw [upd_at]; omega
    · simp [en1]
    · show best1 = upd dist1 v (dist1 (left + c)) en + pot en
      rw [dn en en1]; exact en4
    · rw [hkk, hz, es]
      rw [List.length_append] at len3 ⊢
      have e3 : [left + c, v].length = 2 := rfl
      rw [e3] at len3 ⊢
      omega
  · -- the potentials
    clear Ft Tt k4 k5 k6 k7 k8 Q
    rintro en0 best seenV g3 ⟨ow, dist, via, rk_, sn, a, t, en, e1, Ft, Tt, k4, k5, k6, k7, k8, k9, D, hb, ha, hbd, hx, hen⟩
    change en0 = (en : Int) at e1
    change S1 ow g3 9 seenV _ at k9
    change ∀ v, v ∈ sn → v < left → best ≤ dist v + pot v at hb
    change dist a ≤ best at ha
    change best ≤ 1048576 at hbd
    change ∀ c, c < wd → left + c ∉ sn → best ≤ dist (left + c) at hx
    change en ∈ sn ∧ en < left ∧ best = dist en + pot en ∨ ∃ c, c < wd ∧ en = left + c ∧ by_ en = -1 ∧ en ∉ sn ∧ dist en = best at hen
    subst e1
    have da0 := D.mo a D.ak.1
    have slen := short D.nd D.lt
    refine k9.len (natV_length _) fun _ _ => ?_
    let I7 : (Int × Unit) → H → Nat → Prop := fun s g z => ∃ j : Nat, s.1 = j ∧ j ≤ sn.length ∧ z = sn.length - j ∧ Fm [5] ow g3 ow g ∧ S1 ow g 5 vp (ints (left + wd) (npT left pot dist best (sn.take j)))
    refine ⟨fun p q => ∃ k, I7 p q k, rk I7, rk_wf I7, ⟨_, 0, rfl, by omega, rfl, Fm.refl, k5.cg fun c _ => (npT_n (by simp)).symm⟩, ?_⟩
    clear k5
    intro s g hI
    obtain ⟨j, e1, hj, hz, Fq, k5⟩ := mu_spec hI
    generalize hkk : mu I7 ((s, ()), g) = km at *
    change s = (j : Int) at e1
    subst e1
    have hlt : j < sn.length → sn.length - (j + 1) < mu I7 (((j : Int), ()), g) := fun h => by rw [hkk, hz]; exact sub_dec h
    clear hI
    refine ifP_of (fun h1 => ?_) (fun h1 => ?_)
    · have hjn : j < sn.length := by have := of_decide_eq_true h1; omega
      have hxm : sn[j] ∈ sn := List.getElem_mem hjn
      have hxl := D.lt _ hxm
      have hmo := D.mo _ hxm
      have hpx := plo _ hxl
      have hst := fun v => npT_take (left := left) (pot := pot) (dist := dist) (best := best) D.nd hjn v
      have hat := npT_at (left := left) (pot := pot) (dist := dist) (best := best) D.nd hjn
      obtain ⟨vb, vc, vals, k1, _⟩ := Tt.q
      have k1q := k1.fm Fq (by simp <;> omega)
      have k4q := k4.fm Fq (by simp <;> omega)
      have k7q := k7.fm Fq (by simp <;> omega)
      generalize hxx : sn[j] = x at *
      refine (k9.fm Fq (by simp <;> omega)).rd (by rw [natV_get hjn, hxx]) ?_
      refine ptrP_mk (k4q.rV rfl (ptrP_mk (k1q.rI rfl (ifP_of (fun h2 => ?_) (fun h2 => ?_)))))
      · have h2 : x < left := by have := of_decide_eq_true h2; omega
        refine ptrP_mk (k7q.at (ints_get hxl) fun a157 e157 => k4q.rV rfl (k5.at (ints_get hxl) fun a159 e159 => ⟨_, e159, _, e157, k5.setI hxl fun g4 F4 k5 => ?_⟩))
        rw [i64_inc (by omega)]
        refine mu_next (I := I7) (k := sn.length - (j + 1)) ⟨j + 1, rfl, hjn, rfl, Fq.trans F4, k5.cg fun v _ => ?_⟩ (hlt hjn)
        rw [hst v, if_pos h2, hat]
        have e1 : IntKind.i64.wrap (best - dist x) = best - dist x := w64_in (by omega) (by omega)
        have e2 : IntKind.i64.wrap (pot x - (best - dist x)) = pot x - (best - dist x) := w64_in (by omega) (by omega)
        rw [e1, e2]
      · have h2 : ¬ x < left := by have := of_decide_eq_false h2; omega
        refine ptrP_mk (k7q.at (ints_get hxl) fun a157 e157 => k4q.rV rfl (k5.at (ints_get hxl) fun a159 e159 => ⟨_, e159, _, e157, k5.setI hxl fun g4 F4 k5 => ?_⟩))
        rw [i64_inc (by omega)]
        refine mu_next (I := I7) (k := sn.length - (j + 1)) ⟨j + 1, rfl, hjn, rfl, Fq.trans F4, k5.cg fun v _ => ?_⟩ (hlt hjn)
        rw [hst v, if_neg h2, hat]
        have e1 : IntKind.i64.wrap (best - dist x) = best - dist x := w64_in (by omega) (by omega)
        have e2 : IntKind.i64.wrap (pot x + (best - dist x)) = pot x + (best - dist x) := w64_in (by omega) (by omega)
        rw [e1, e2]
    have hjn : j = sn.length := by have := of_decide_eq_false h1; omega
    rw [hjn, List.take_length] at k5
    have Ft := Ft.trans (Fq.mono (by simp))
    have Tt := Tt.fm Fq (by simp <;> omega)
    have k4 := k4.fm Fq (by simp <;> omega)
    have k6 := k6.fm Fq (by simp <;> omega)
    have k7 := k7.fm Fq (by simp <;> omega)
    have k8 := k8.fm Fq (by simp <;> omega)
    clear hlt hkk hz h1 hj hjn
    have G2 := D.npot G hE hb ha hx hbd hk
    have Wy := D.way G (w := if en < left then left + wd else en) (best := best) hk hbd ha (by
      split
      · intro hh; have := D.lt _ hh; omega
      · rename_i hl
        rcases hen with ⟨_, e, _⟩ | ⟨c, _, _, _, e, _⟩
        · exact absurd e hl
        · exact e) (fun hlt => by
      split at hlt
      · omega
      · rename_i hl
        rw [if_neg hl]
        rcases hen with ⟨_, e, _⟩ | ⟨c, _, e1, _, _, e2⟩
        · exact absurd e hl
        · exact ⟨by omega, e2⟩) (by split <;> omega)
    refine (tturn_T Tt ⟨k4, k5, k6⟩ k8 G2 Wy hk hbk (en := en) ?_).mono ?_
    · rcases hen with ⟨e1, e2, e3⟩ | ⟨c, e1, e2, e3, e4, e5⟩
      · refine .inl ⟨e2, by rw [npT_l e1 e2]; omega, ?_⟩
        rcases D.sl en e1 e2 with e | ⟨c, c1, c2, c3, c4⟩
        · exact .inl e
        · refine .inr ⟨fun e => ?_, c, c1, c2, .inl c3, ?_⟩
          · rw [e, hbk] at c2; omega
          · try dsimp only
            rw [if_pos e2, if_neg (by omega), if_neg (by omega)]; exact c4
      · refine .inr ⟨c, e1, e2, e3, .inr ?_⟩
        rw [if_neg (by omega)]
    · rintro _ g4 ⟨rfl, by', F4, Rr, G3⟩
      exact rt_ret ⟨rfl, by first | rfl | trivial, ow, _, by', Ft.trans (F4.mono (by simp)), Rr, G3⟩
end

end Go.Proofs.Ytdblngaacnpgmaa

namespace Go.Proofs.Ytdblngaacnpgmaa
open Go
open Classical
set_option linter.unusedVariables false
set_option linter.unusedSimpArgs false
set_option maxHeartbeats 2000000

/-- The heaviest of the first weights of a node. -/
def mxW (W : Nat → Nat → Int) (v : Nat) : Nat → Int
  | 0 => 0
  | j + 1 => if mxW W v j < W v j then W v j else mxW W v j
theorem mxW_nn {W : Nat → Nat → Int} {v : Nat} : ∀ {j : Nat}, 0 ≤ mxW W v j
  | 0 => Int.le_refl _
  | j + 1 => by
    have := mxW_nn (W := W) (v := v) (j := j)
    show 0 ≤ if mxW W v j < W v j then W v j else mxW W v j
    split <;> omega
theorem mxW_le {W : Nat → Nat → Int} {v : Nat} {K : Int} (hK : ∀ c, W v c ≤ K) (h0 : 0 ≤ K) : ∀ {j : Nat}, mxW W v j ≤ K
  | 0 => h0
  | j + 1 => by
    have := mxW_le hK h0 (j := j)
    have := hK j
    show (if mxW W v j < W v j then W v j else mxW W v j) ≤ K
    split <;> omega
theorem mxW_ge {W : Nat → Nat → Int} {v c : Nat} : ∀ {j : Nat}, c < j → W v c ≤ mxW W v j
  | 0, h => by omega
  | j + 1, h => by
    show W v c ≤ if mxW W v j < W v j then W v j else mxW W v j
    by_cases e : c = j
    · subst e; split <;> omega
    · have := mxW_ge (W := W) (v := v) (j := j) (c := c) (by omega)
      split <;> omega
theorem TrP.start {left wd : Nat} {W : Nat → Nat → Int} {E : Nat → Nat → Prop} (hw : ∀ v c, 0 ≤ W v c ∧ W v c ≤ 1048576) :
    TrP left wd 0 0 (left + wd) W E (fun v => if v < left then mxW W v wd else 0) (fun _ => -1) := by
  have mle := fun v => mxW_le (W := W) (v := v) (K := 1048576) (fun c => (hw v c).2) (by omega) (j := wd)
  have mnn := fun v => mxW_nn (W := W) (v := v) (j := wd)
  refine ⟨fun v hv => ?_, fun v hv => ?_, fun v c hv hc => ?_, fun v hv => .inl rfl, fun c hc _ => .inl rfl, fun v hv h => by omega, fun v hv _ => rfl, fun c hc _ _ => ?_⟩
  · have := mle v
    have := mnn v
    (try dsimp only)
    split <;> omega
  · have := mle v
    (try dsimp only)
    split <;> omega
  · (try dsimp only)
    rw [if_pos hv, if_neg (by omega)]
    have := mxW_ge (W := W) (v := v) hc
    omega
  · (try dsimp only)
    rw [if_neg (by omega)]
section
variable {own own' : Own} {h h' : H} {bt left wd m : Nat} {es : Nat → Ed} {bs : Nat → Nat → Nat}
theorem byTrees_T (Tt : Tb own h bt left wd m es bs) (B : BsP left wd m es bs) (hs : ∀ i, i < m → lfE es i < left ∧ left ≤ rtE es i ∧ rtE es i < left + wd)
    (hl : left + wd ≤ 1024) (hm : m ≤ 4096) (hw : ∀ v c, 0 ≤ wgE es bs v c ∧ wgE es bs v c ≤ 1048576) :
    T Try.prog F.assign_table_byTrees [.pointer (some (bk bt))] h (ByA own h left wd m es) := by
  refine E_assign_table_byTrees ?_
  unfold B_assign_table_byTrees
  obtain ⟨vb, vc, vals, k1, _⟩ := Tt.q
  refine ptrP_mk (ptrP_mk (k1.rI rfl (k1.rI rfl ?_)))
  clear k1
  refine mk_ints 5 (by omega) (by omega) ?_
  intro b5 h6 hb5 x5 k5
  have Ft : Fm [4, 5, 6, 7, 8, 9, 10, 11, 12, 31, 32, 33, 34, 35, 36] own h (own1 own b5 5) h6 := Fm.new x5 hb5
  have Tt := Tt.nw (j := 5) x5 hb5
  have k5 := k5 own
  generalize own1 own b5 5 = ow at *
  refine mk_ints 6 (by omega) (by omega) ?_
  intro b7 h8 hb7 x7 k6
  have Ft := Ft.trans (Fm.new (i := 6) x7 hb7)
  have Tt := Tt.nw (j := 6) x7 hb7
  have k5 := k5.nw (j := 6) x7 hb7
  have k6 := k6 ow
  generalize own1 ow b7 6 = ow at *
  simp only [Int.toNat_natCast]
  refine oneP_ptr (new_bl ?_)
  intro b9 h10 hb9 x9 B9
  have Ft := Ft.trans (Fm.new (i := 4) x9 hb9)
  have k4 : B1 (own1 ow b9 4) h10 4 b9 _ := B1.new B9
  have Tt := Tt.nw (j := 4) x9 hb9
  have k5 := k5.nw (j := 4) x9 hb9
  have k6 := k6.nw (j := 4) x9 hb9
  generalize own1 ow b9 4 = ow at *
  clear hb5 x5 hb7 x7 hb9 x9 B9
  refine k4.rV rfl (slcP_mk ?_)
  let W := wgE es bs
  -- the potentials at first
  let I0 : (Int × Unit) → H → Nat → Prop := fun s g z => ∃ j : Nat, s.1 = j ∧ j ≤ left + wd ∧ z = left + wd - j ∧ Fm [5, 6] ow h10 ow g ∧ S1 ow g 5 (.slice (some (bk b5)) (left + wd) (left + wd)) (ints (left + wd) fun v => if v < j then (if v < left then mxW W v wd else 0) else 0) ∧
    S1 ow g 6 (.slice (some (bk b7)) (left + wd) (left + wd)) (ints (left + wd) fun c => if c < j then -1 else 0)
  refine ⟨fun p q => ∃ k, I0 p q k, rk I0, rk_wf I0, ⟨_, 0, rfl, by omega, rfl, Fm.refl, k5.cg fun c _ => (if_neg (by omega)).symm, k6.cg fun c _ => (if_neg (by omega)).symm⟩, ?_⟩
  clear k5 k6
  intro s g hI
  obtain ⟨j, e1, hj, hz, Fq, k5, k6⟩ := mu_spec hI
  generalize hkk : mu I0 ((s, ()), g) = km at *
  change s = (j : Int) at e1
  subst e1
  have hlt : j < left + wd → left + wd - (j + 1) < mu I0 (((j : Int), ()), g) := fun h => by rw [hkk, hz]; exact sub_dec h
  clear hI
  refine ifP_of (fun h1 => ?_) (fun h1 => ?_)
  · have hjN : j < left + wd := by have := of_decide_eq_true h1; omega
    refine (k4.fm Fq (by simp <;> omega)).rV rfl (k6.setI hjN fun g1 F1 k6 => ?_)
    have k5 := k5.fm F1 (by simp <;> omega)
    have Fq := Fq.trans (F1.mono (by simp))
    clear F1
    have k6 : S1 ow g1 6 (.slice (some (bk b7)) (left + wd) (left + wd)) (ints (left + wd) fun c => if c < j + 1 then -1 else 0) := k6.cg fun c _ => upd_to (g := fun _ => -1) (f := fun _ => 0) rfl c
    obtain ⟨vb, vc, vals, k1, _⟩ := Tt.q
    refine ptrP_mk ((k1.fm Fq (by simp <;> omega)).rI rfl ?_)
    let I2 : (Int × Unit) → H → Nat → Prop := fun s g2 z => ∃ jj : Nat, s.1 = ((left + jj : Nat) : Int) ∧ jj ≤ wd ∧ z = wd - jj ∧ (j < left ∨ jj = 0) ∧ Fm [5] ow g1 ow g2 ∧
      S1 ow g2 5 (.slice (some (bk b5)) (left + wd) (left + wd)) (ints (left + wd) (upd (fun v => if v < j then (if v < left then mxW W v wd else 0) else 0) j (mxW W j jj)))
    refine ⟨fun p q => ∃ k, I2 p q k, rk I2, rk_wf I2, ⟨_, 0, rfl, by omega, rfl, .inr rfl, Fm.refl, k5.cg fun v _ => ?_⟩, ?_⟩
    · by_cases e : v = j
      · subst e; rw [upd_at, if_neg (by omega)]; rfl
      · rw [upd_ne e]
    clear k5
    intro w0 g2 hI
    obtain ⟨jj, e1, hjj, hz2, hor, Fq2, k5⟩ := mu_spec hI
    generalize hkk2 : mu I2 ((w0, ()), g2) = km2 at *
    change w0 = ((left + jj : Nat) : Int) at e1
    subst e1
    have hlt2 : jj < wd → wd - (jj + 1) < mu I2 ((((left + jj : Nat) : Int), ()), g2) := fun h => by rw [hkk2, hz2]; exact sub_dec h
    clear hI
    have FF := Fq.trans (Fq2.mono (by simp))
    have k1q := k1.fm FF (by simp <;> omega)
    have k4q := k4.fm FF (by simp <;> omega)
    have Tq := Tt.fm FF (by simp)
    have out : ¬ (j < left ∧ jj < wd) → (∃ k, I0 (((j + 1 : Nat) : Int), ()) g2 k) ∧ rk I0 ((((j + 1 : Nat) : Int), ()), g2) (((j : Int), ()), g) := fun hno =>
      mu_next (I := I0) (k := left + wd - (j + 1)) ⟨j + 1, rfl, hjN, rfl, FF, k5.cg fun v _ => by
        by_cases e : v = j
        · subst e
          rw [upd_at, if_pos (by omega)]
          by_cases hvl : v < left
          · rw [if_pos hvl, show jj = wd by omega]
          · rw [if_neg hvl, show jj = 0 by omega]; rfl
        · rw [upd_ne e]
          by_cases hv : v < j
          · rw [if_pos hv, if_pos (show v < j + 1 by omega)]
          · rw [if_neg hv, if_neg (show ¬ v < j + 1 by omega)], k6.fm Fq2 (by simp <;> omega)⟩ (hlt hjN)
    have ej : IntKind.i64.wrap ((j : Int) + 1) = ((j + 1 : Nat) : Int) := i64_inc (by omega)
    rw [ej]
    refine ptrP_mk (k1q.rI rfl (ifP_of (fun h2 => ?_) (fun h2 => out fun k => by have := of_decide_eq_false h2; omega)))
    have hjl : j < left := by have := of_decide_eq_true h2; omega
    refine ptrP_mk (k1q.rI rfl (ifP_of (fun h3 => ?_) (fun h3 => out fun k => by have := of_decide_eq_false h3; omega)))
    have hjw : jj < wd := by have := of_decide_eq_true h3; omega
    refine k4q.rV rfl (k4q.rV rfl (k5.at (ints_get hjN) fun a34 e34 => ⟨_, e34, ?_⟩))
    refine (weight_T Tq B hjl hjw hl hm (by omega)).mono ?_
    rintro _ _ ⟨rfl, rfl⟩
    refine rt_ret ⟨_, rfl, fun _ _ => rfl, fun _ _ => rfl, fun _ _ => rfl, k5.setI hjN fun g3 F3 k5 => ?_⟩
    have ei : IntKind.i64.wrap (((left + jj : Nat) : Int) + 1) = ((left + (jj + 1) : Nat) : Int) := i64_inc (by omega)
    rw [ei]
    refine mu_next (I := I2) (k := wd - (jj + 1)) ⟨jj + 1, rfl, hjw, rfl, .inl hjl, Fq2.trans F3, k5.cg fun v _ => ?_⟩ (hlt2 hjw)
    rw [upd_upd, upd_at]
    rfl
  have hjN : j = left + wd := by have := of_decide_eq_false h1; omega
  have k5 : S1 ow g 5 (.slice (some (bk b5)) (left + wd) (left + wd)) (ints (left + wd) fun v => if v < left then mxW W v wd else 0) := k5.cg fun c hc => if_pos (by omega)
  have k6 : S1 ow g 6 (.slice (some (bk b7)) (left + wd) (left + wd)) (ints (left + wd) fun _ => -1) := k6.cg fun c hc => if_pos (by omega)
  have Ft := Ft.trans (Fq.mono (by simp))
  have Tt := Tt.fm Fq (by simp <;> omega)
  have k4 := k4.fm Fq (by simp <;> omega)
  clear hlt hkk hz h1 hj Fq hjN
  have G0 : TrP left wd 0 0 (left + wd) W (fun v c => 0 < bs v c) _ _ := TrP.start hw
  obtain ⟨vb, vc, vals, k1, _⟩ := Tt.q
  refine ptrP_mk (k1.rI rfl ?_)
  clear k1
  -- the nodes of the left side
  let I1 : (Int × Unit) → H → Nat → Prop := fun s g z => ∃ (j : Nat) (ow : Own) (pot by_ : Nat → Int), s.1 = j ∧ j ≤ left ∧ z = left - j ∧ Fm [4, 5, 6, 7, 8, 9, 10, 11, 12, 31, 32, 33, 34, 35, 36] own h ow g ∧ Tb ow g bt left wd m es bs ∧
    Rtr ow g b9 bt left wd (.slice (some (bk b5)) (left + wd) (left + wd)) (.slice (some (bk b7)) (left + wd) (left + wd)) pot by_ ∧ TrP left wd j j (left + wd) W (fun v c => 0 < bs v c) pot by_
  refine ⟨fun p q => ∃ k, I1 p q k, rk I1, rk_wf I1, ⟨_, 0, ow, _, _, rfl, by omega, rfl, Ft, Tt, ⟨k4, k5, k6⟩, G0⟩, ?_⟩
  clear Ft Tt k4 k5 k6 G0
  intro s g hI
  obtain ⟨j, ow, pot, by_, e1, hj, hz, Ft, Tt, Rr, G⟩ := mu_spec hI
  generalize hkk : mu I1 ((s, ()), g) = km at *
  change s = (j : Int) at e1
  subst e1
  have hlt : j < left → left - (j + 1) < mu I1 (((j : Int), ()), g) := fun h => by rw [hkk, hz]; exact sub_dec h
  clear hI
  refine ifP_of (fun h1 => ?_) (fun h1 => ?_)
  · have hjl : j < left := by have := of_decide_eq_true h1; omega
    refine (tgrow_T Tt B Rr G hjl hl hm hw).mono ?_
    rintro _ g1 ⟨rfl, ow', pot', by', F1, Rr, G⟩
    rw [i64_inc (by omega)]
    exact rt_ret ⟨rfl, mu_next (I := I1) (k := left - (j + 1)) ⟨j + 1, ow', pot', by', rfl, hjl, rfl, Ft.trans (F1.mono (by simp)), Tt.fm F1 (by simp), Rr, G⟩ (hlt hjl)⟩
  have hjl : j = left := by have := of_decide_eq_false h1; omega
  rw [hjl] at G
  clear hlt hkk hz h1 hj hjl
  obtain ⟨k4, k5, k6⟩ := Rr
  have res := G.res hl B hs
  obtain ⟨vb, vc, vals, k1, _⟩ := Tt.q
  refine ptrP_mk (k4.rV rfl (k1.rI rfl (slcP_mk ⟨by omega, by omega, by omega, by omega, ?_⟩)))
  clear k1
  rw [sliceV1_n]
  have kr := k6.takeN (show left ≤ left + wd by omega)
  refine kr.len (ints_length _ _) fun _ _ => ?_
  let I2 : (Value × Int × Unit) → H → Nat → Prop := fun s g2 z => ∃ (j : Nat) (ow2 : Own), s.2.1 = j ∧ j ≤ left ∧ z = left - j ∧ Fm [12] ow g ow2 g2 ∧ S1 ow2 g2 12 s.1 (natV (mlT left bs by_ j))
  refine ⟨fun p q => ∃ k, I2 p q k, rk I2, rk_wf I2, ⟨_, 0, ow, rfl, by omega, rfl, Fm.refl, S1.nil⟩, ?_⟩
  intro mv s g2 hI
  obtain ⟨j, ow2, e1, hj, hz, Fq, k12⟩ := mu_spec hI
  generalize hkk : mu I2 ((mv, s, ()), g2) = km at *
  change s = (j : Int) at e1
  change S1 ow2 g2 12 mv _ at k12
  subst e1
  have hlt : j < left → left - (j + 1) < mu I2 ((mv, (j : Int), ()), g2) := fun h => by rw [hkk, hz]; exact sub_dec h
  clear hI
  have Tq := Tt.fm Fq (by simp)
  have k4 := k4.fm Fq (by simp <;> omega)
  have k5 := k5.fm Fq (by simp <;> omega)
  have k6 := k6.fm Fq (by simp <;> omega)
  refine ifP_of (fun h1 => ?_) (fun h1 => ?_)
  · have hjl : j < left := by have := of_decide_eq_true h1; omega
    rw [i64_inc (by omega)]
    refine (kr.fm Fq (by simp <;> omega)).rdI hjl (ifP_of (fun h2 => ?_) (fun h2 => ?_))
    · have h2 := of_decide_eq_true h2
      obtain ⟨c, c1, c2, c3, c4, c5, _⟩ := G.col hjl h2
      try dsimp only at c5
      obtain ⟨vb, vc, vals, k1, k2, k3, kv⟩ := Tq.q
      have bm := B.bm j c hjl c1
      refine ptrP_mk (ptrP_mk (k1.rV rfl (k2.rdV hjl (k1.rI rfl ?_))))
      have e1 : IntKind.i64.wrap (by_ j - left) = (c : Int) := by rw [show by_ j - left = c by omega]; exact w64_in (by omega) (by omega)
      rw [e1]
      refine (kv j hjl).rdI c1 ?_
      have e2 : IntKind.i64.wrap ((bs j c : Int) - 1) = ((bs j c - 1 : Nat) : Int) := by rw [show ((bs j c : Int) - 1) = ((bs j c - 1 : Nat) : Int) by omega]; exact w64_in (by omega) (by omega)
      rw [e2]
      have ml := mlT_len (left := left) (bs := bs) (by_ := by_) (j := j)
      refine k12.push (l := 1) rfl (by simp [Value.oneCell']) (by simp) (by omega) (by rw [natV_length]; show _ + 1 < 1000000; omega) ?_
      intro bx g3 r' ow' g4 hbx x7 F1 k12
      refine mu_next (I := I2) (k := left - (j + 1)) ⟨j + 1, ow', rfl, hjl, rfl, Fq.trans F1, ?_⟩ (hlt hjl)
      show S1 ow' g4 12 r' (natV (mlT left bs by_ j ++ (if 0 ≤ by_ j then [bs j ((by_ j).toNat - left) - 1] else [])))
      rw [if_pos h2, c3]
      simpa [natV] using k12
    · have h2 := of_decide_eq_false h2
      refine mu_next (I := I2) (k := left - (j + 1)) ⟨j + 1, ow2, rfl, hjl, rfl, Fq, ?_⟩ (hlt hjl)
      show S1 ow2 g2 12 mv (natV (mlT left bs by_ j ++ (if 0 ≤ by_ j then [bs j ((by_ j).toNat - left) - 1] else [])))
      rw [if_neg h2, List.append_nil]; exact k12
  have hjl : j = left := by have := of_decide_eq_false h1; omega
  rw [hjl] at k12
  have Ft := Ft.trans (Fq.mono (by simp))
  exact k4.rV rfl ⟨ow2, mv, _, _, pot, rfl, Ft, k12, k5, res⟩
end

end Go.Proofs.Ytdblngaacnpgmaa

