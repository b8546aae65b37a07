import Derived.Recover
import Derived.Laws.StructEq
import Derived.Test.YtdcamadeblojdaaGreatWP3
namespace Go.Proofs.YtdcamadeblojdaaGreat
open Go
set_option linter.unusedVariables false
set_option linter.unusedSimpArgs false

theorem giveX_at {ex : Nat → Int} {v w : Nat} {x : Int} (u : Nat) : giveX ex v w x u = ex u - (if v = u then x else 0) + (if w = u then x else 0) := by
  unfold giveX upd
  by_cases e1 : u = w
  · subst e1
    rw [if_pos rfl, if_pos rfl]
    by_cases e2 : u = v
    · subst e2; rw [if_pos rfl, if_pos rfl]
    · rw [if_neg e2, if_neg (fun h => e2 h.symm)]; omega
  · rw [if_neg e1, if_neg (c := w = u) (fun h => e1 h.symm)]
    by_cases e2 : u = v
    · subst e2; rw [if_pos rfl, if_pos rfl]; omega
    · rw [if_neg e2, if_neg (fun h => e2 h.symm)]; omega
theorem giveQ_le {s t w : Nat} {ex : Nat → Int} {Q : List Nat} : (giveQ s t ex Q w).length ≤ Q.length + 1 := by
  unfold giveQ; split <;> simp
theorem r4_trans {a b c : N4} (h1 : r4 a b) (h2 : r4 b c) : r4 a c := by
  obtain ⟨a1, a2, a3, a4⟩ := a
  obtain ⟨b1, b2, b3, b4⟩ := b
  obtain ⟨c1, c2, c3, c4⟩ := c
  simp only [r4] at *
  omega

/-- The queue does not grow too long. -/
theorem zq {n s t v w : Nat} {ex : Nat → Int} {Q : List Nat} {x : Int} (hv : v < n) (hw : w < n) (hs : s < n) (ne : v ≠ w) (hvs : v ≠ s) (hx : 0 < x) (hxv : x ≤ ex v) (hew : w ≠ s → 0 ≤ ex w) :
    ((giveQ s t ex Q w).length : Int) + cntH n (upd (giveX ex v w x) s 1) 0 + (if 0 < giveX ex v w x v then 1 else 0) ≤ Q.length + cntH n (upd ex s 1) 0 + 1 := by
  have e1 : giveX ex v w x v = ex v - x := by rw [giveX_at, if_pos rfl, if_neg (fun h => ne h.symm)]; omega
  rw [e1]
  by_cases hws : w = s
  · have e2 : upd (giveX ex v w x) s 1 = upd (upd ex s 1) v (ex v - x) := by
      funext u
      unfold upd
      by_cases h1 : u = s
      · rw [if_pos h1, if_neg (fun h => hvs (h.symm.trans h1)), if_pos h1]
      · rw [if_neg h1, giveX_at]
        by_cases h2 : u = v
        · subst h2; rw [if_pos rfl, if_pos rfl, if_neg (fun h => ne h.symm)]; omega
        · rw [if_neg h2, if_neg h1, if_neg (fun h => h2 h.symm), if_neg (fun h => h1 (h.symm.trans hws))]; omega
    have e3 : upd ex s 1 v = ex v := if_neg hvs
    have e4 : giveQ s t ex Q w = Q := if_neg fun h => h.2.1 hws
    rw [e2, e4, cntH_upd hv, e3, if_neg (c := ex v = 0) (by omega)]
    split <;> split <;> omega
  · have hw0 := hew hws
    have e2 : upd (giveX ex v w x) s 1 = upd (upd (upd ex s 1) v (ex v - x)) w (ex w + x) := by
      funext u
      unfold upd
      by_cases h1 : u = s
      · rw [if_pos h1, if_neg (fun h => hws (h.symm.trans h1)), if_neg (fun h => hvs (h.symm.trans h1)), if_pos h1]
      · rw [if_neg h1, giveX_at]
        by_cases h2 : u = w
        · subst h2; rw [if_pos rfl, if_pos rfl, if_neg ne]; omega
        · rw [if_neg h2, if_neg (c := w = u) (fun h => h2 h.symm)]
          by_cases h3 : u = v
          · subst h3; rw [if_pos rfl, if_pos rfl]; omega
          · rw [if_neg h3, if_neg h1, if_neg (fun h => h3 h.symm)]; omega
    have e3 : upd ex s 1 v = ex v := if_neg hvs
    have e5 : upd (upd ex s 1) v (ex v - x) w = ex w := by
      unfold upd
      rw [if_neg (fun h => ne h.symm), if_neg hws]
    have gq : (giveQ s t ex Q w).length ≤ Q.length + (if ex w = 0 then 1 else 0) := by
      unfold giveQ
      by_cases e : ex w = 0
      · rw [if_pos e]; split <;> simp
      · rw [if_neg e, if_neg (fun h => e h.1)]; omega
    rw [e2, cntH_upd hw, cntH_upd hv, e3, e5, if_neg (c := ex v = 0) (by omega), if_neg (c := ex w + x = 0) (by omega)]
    by_cases h1 : ex w = 0
    · rw [if_pos h1] at gq ⊢
      split <;> split <;> omega
    · rw [if_neg h1] at gq ⊢
      split <;> split <;> omega

/-- While all is sent from the source. -/
structure PiI (n m : Nat) (fr to : Nat → Nat) (cap : Nat → Int) (s t : Nat) (K : Int) (j : Nat) (room ex : Nat → Int) (Q : List Nat) : Prop where
  rm : RmP m cap room
  ex0 : ∀ u, u < n → u ≠ s → ex u = - OutF m fr to (onR room) u ∧ 0 ≤ ex u
  exs : ex s = K - OutF m fr to (onR room) s
  exs0 : 0 ≤ ex s
  kb : 0 ≤ K ∧ K ≤ j * 1048576
  cov : ∀ u, u < n → u ≠ s → u ≠ t → 0 < ex u → u ∈ Q
  mem : ∀ u, u ∈ Q → u < n ∧ u ≠ s ∧ u ≠ t
  ql : Q.length ≤ j
  zero : ∀ a ∈ (arcsL fr to m s).take j, hdA fr to a ≠ s → room a = 0

section
variable {n m s t : Nat} {fr to : Nat → Nat} {cap room ht ex nxt : Nat → Int} {Q : List Nat} {cur : Option Nat} {K : Int}
theorem PiI.next {j : Nat} (P : PiI n m fr to cap s t K j room ex Q) (hn : ∀ i, i < m → fr i < n ∧ to i < n) (hc : ∀ i, i < m → cap i ≤ 1048576) (hj : j < (arcsL fr to m s).length) {a : Nat} (ha : (arcsL fr to m s)[j] = a) :
    PiI n m fr to cap s t (K + room a) (j + 1) (sndR room a (room a)) (giveX (upd ex s (ex s + room a)) s (hdA fr to a) (room a)) (giveQ s t (upd ex s (ex s + room a)) Q (hdA fr to a)) := by
  have hm := mem_arcsL.1 (List.getElem_mem hj)
  rw [ha] at hm
  have hr0 := P.rm.pos a hm.1
  have hrp := P.rm.pr hm.1
  have hrq := P.rm.pos _ (prA_lt hm.1)
  have hca := hc (a / 2) (by omega)
  have hw := hd_lt hn hm.1
  have os := out_snd (fr := fr) (to := to) (room := room) (x := room a) hm.1
  rw [hm.2] at os
  have uo : ∀ u, u ≠ s → upd ex s (ex s + room a) u = ex u := fun u h => if_neg h
  have us : upd ex s (ex s + room a) s = ex s + room a := if_pos rfl
  refine ⟨P.rm.snd hm.1 hr0 (Int.le_refl _), ?_, ?_, ?_, ?_, ?_, ?_, ?_, ?_⟩
  · intro u hu hus
    have := P.ex0 u hu hus
    rw [os, giveX_at, uo u hus, if_neg (c := s = u) (fun h => hus h.symm)]
    split <;> omega
  · rw [os, giveX_at, us, if_pos rfl]
    have := P.exs
    split <;> omega
  · rw [giveX_at, us, if_pos rfl]
    have := P.exs0
    split <;> omega
  · have := P.kb
    omega
  · intro u hu h1 h2 h3
    rw [giveX_at, uo u h1, if_neg (c := s = u) (fun h => h1 h.symm)] at h3
    unfold giveQ
    by_cases e1 : hdA fr to a = u
    · subst e1
      by_cases e2 : ex (hdA fr to a) = 0
      · rw [if_pos ⟨by rw [uo _ h1]; exact e2, h1, h2⟩]; simp
      · rw [if_neg (fun h => e2 (by rw [← uo _ h1]; exact h.1))]
        have := P.ex0 _ hu h1
        exact P.cov _ hu h1 h2 (by omega)
    · rw [if_neg e1] at h3
      have := P.cov u hu h1 h2 (by omega)
      split
      · exact List.mem_append_left _ this
      · exact this
  · intro u hu
    unfold giveQ at hu
    split at hu
    · rename_i h
      rcases List.mem_append.1 hu with h2 | h2
      · exact P.mem u h2
      · rw [List.mem_singleton] at h2
        subst h2
        exact ⟨hw, h.2.1, h.2.2⟩
    · exact P.mem u hu
  · have := giveQ_le (s := s) (t := t) (w := hdA fr to a) (ex := upd ex s (ex s + room a)) (Q := Q)
    have := P.ql
    omega
  · intro b hb hbs
    have z : b ≠ a → room b = 0 := by
      intro hne
      rw [List.take_succ_eq_append_getElem hj] at hb
      rcases List.mem_append.1 hb with h | h
      · exact P.zero b h hbs
      · rw [List.mem_singleton] at h; exact absurd (h.trans ha) hne
    have hbm := mem_arcsL.1 (List.mem_of_mem_take hb)
    by_cases e1 : b = a
    · subst e1; rw [sndR_a]; omega
    · by_cases e2 : b = prA a
      · exfalso
        rw [e2, hd_pr, hm.2] at hbs
        exact hbs rfl
      · rw [sndR_o e1 e2]; exact z e1

theorem PiI.start {j : Nat} (P : PiI n m fr to cap s t K j room ex Q) (hj : j = (arcsL fr to m s).length) (hst : s ≠ t) (hn : ∀ i, i < m → fr i < n ∧ to i < n) (hs : s < n) :
    PvI n m fr to cap s t K room (upd (fun _ => 0) s n) ex (fun _ => 0) Q none := by
  have u1 : upd (fun _ => (0 : Int)) s n s = n := if_pos rfl
  have u2 : ∀ u, u ≠ s → upd (fun _ => (0 : Int)) s n u = 0 := fun u h => if_neg h
  subst hj
  refine ⟨P.rm, u1, u2 _ fun h => hst h.symm, ?_, ?_, P.ex0, P.exs, fun u hu h1 h2 h3 => .inl (P.cov u hu h1 h2 h3), P.mem, fun u hu => ⟨Int.le_refl _, by omega⟩, fun u hu a ha => by simp at ha⟩
  · intro u hu
    by_cases e : u = s
    · subst e; rw [u1]; omega
    · rw [u2 u e]; omega
  · intro a ha hr
    by_cases e : tlA fr to a = s
    · by_cases e2 : hdA fr to a = s
      · rw [e, e2]; omega
      · have := P.zero a (by rw [List.take_length]; exact mem_arcsL.2 ⟨ha, e⟩) e2
        omega
    · rw [u2 _ e]
      by_cases e2 : hdA fr to a = s
      · rw [e2, u1]; omega
      · rw [u2 _ e2]; omega

def PhM (n m s : Nat) (fr to : Nat → Nat) (ht ex nxt : Nat → Int) (Q : List Nat) : N4 := ((Phi1 n ht).toNat, (Phi2 n s ex ht).toNat, (Phi3 n m fr to nxt).toNat, Q.length)
theorem PvI.nn (P : PvI n m fr to cap s t K room ht ex nxt Q cur) : 0 ≤ Phi1 n ht ∧ 0 ≤ Phi2 n s ex ht ∧ 0 ≤ Phi3 n m fr to nxt := by
  refine ⟨sumN_nonneg fun u hu => by have := P.hb u hu; omega, sumN_nonneg fun u hu => ?_, sumN_nonneg fun u hu => by have := P.nb u hu; omega⟩
  split
  · omega
  · rename_i h
    exact Int.mul_nonneg (P.ex0 u hu h).2 (P.hb u hu).1
theorem PvI.exb (P : PvI n m fr to cap s t K room ht ex nxt Q cur) (hc : ∀ i, i < m → cap i ≤ 1048576) (m1 : m ≤ 4096) (hk : 0 ≤ K ∧ K ≤ 8192 * 1048576) : ∀ u, u < n → -1000000000000 ≤ ex u ∧ ex u ≤ 1000000000000 := by
  intro u hu
  have b := out_bd (fr := fr) (to := to) (onR_bd P.rm hc) m1 u
  by_cases e : u = s
  · have := P.exs
    rw [← e] at this
    omega
  · have := P.ex0 u hu e
    omega
theorem rm_bd (R : RmP m cap room) (hc : ∀ i, i < m → cap i ≤ 1048576) : ∀ a, a < 2 * m → 0 ≤ room a ∧ room a ≤ 1048576 := by
  intro a ha
  have := R.pos a ha
  have := R.pos _ (prA_lt ha)
  have := R.pr ha
  have := hc (a / 2) (by omega)
  omega
theorem Phi3_upd {v : Nat} {y : Int} (hv : v < n) : Phi3 n m fr to (upd nxt v y) = Phi3 n m fr to nxt + nxt v - y := by
  unfold Phi3
  have e : (fun u => ((arcsL fr to m u).length : Int) - upd nxt v y u) = upd (fun u => ((arcsL fr to m u).length : Int) - nxt u) v ((arcsL fr to m v).length - y) := by
    funext u
    unfold upd
    by_cases e : u = v
    · subst e; rw [if_pos rfl, if_pos rfl]
    · rw [if_neg e, if_neg e]
  rw [e, sumN_upd hv]; omega
end

section
variable {own : Own} {h : H} {bp bn n m s t : Nat} {fr to : Nat → Nat} {cap room : Nat → Int}
theorem pfill_T (hc0 : ∀ i, i < m → 0 ≤ cap i) (hc : ∀ i, i < m → cap i ≤ 1048576) (hn : ∀ i, i < m → fr i < n ∧ to i < n) (m1 : m ≤ 4096) (n1 : n ≤ 1024) (hs : s < n) (ht : t < n) {x1 x2 x3 x5 : Value}
    (N : Net own h bn n m fr to s t room) (B : B1 own h 5 bp [.pointer (some (bk bn)), x1, x2, x3, .slice none 0 0, x5]) (R : RmP m cap room) (O : ∀ u, OutF m fr to (onR room) u = 0) (hst : s ≠ t) :
    T Tryz.prog F.maxflow_pushing_fill [.pointer (some (bk bp))] h fun r h' => ∃ own' room', r = .ret (.tuple ⟨[]⟩) ∧ Fm [2, 5, 6, 7, 8, 9, 10] own h own' h' ∧ Net own' h' bn n m fr to s t room' ∧
      FlS n m fr to cap s t room' ∧ ¬ Rch (ArS m fr to room') s t := by
  refine E_maxflow_pushing_fill ?_
  unfold B_maxflow_pushing_fill
  obtain ⟨vto, vroom, vout, outs, q4, q1, q2, q3, qa⟩ := N.ex
  refine ptrP_mk ⟨_, B.ld rfl, ptrP_mk ⟨_, q4.ld rfl, q3.len (va_length _ _) fun _ _ => ?_⟩⟩
  clear q4 q1 q2 q3 qa
  -- height
  refine mk_ints 6 (by omega) (by omega) ?_
  intro b8 g9 hb8 x9 S6
  rw [Int.toNat_natCast]
  have F : Fm [2, 5, 6, 7, 8, 9, 10] own h (own1 own b8 6) g9 := Fm.new x9 hb8
  have k6 := S6 own
  have B := B.nw (j := 6) x9 hb8
  have N := N.new (i := 6) x9 hb8
  generalize own1 own b8 6 = own2 at *
  clear S6
  refine ptrP_mk (B.st (by simp) ?_)
  intro g11 F2 B
  simp only [List.set] at B
  have N := N.fm F2 (by simp <;> omega)
  have k6 := k6.fm F2 (by simp <;> omega)
  have F := F.trans (F2.mono (by simp))
  clear F2
  -- count
  have ew : IntKind.i64.wrap (IntKind.i64.wrap (2 * (n : Int)) + 2) = ((2 * n + 2 : Nat) : Int) := by
    have e1 : IntKind.i64.wrap (2 * (n : Int)) = 2 * (n : Int) := w64_in (by omega) (by omega)
    have e2 : IntKind.i64.wrap (2 * (n : Int) + 2) = 2 * (n : Int) + 2 := w64_in (by omega) (by omega)
    rw [e1, e2]; omega
  rw [ew]
  refine mk_ints 7 (by omega) (by omega) ?_
  intro b12 g13 hb12 x13 S7
  rw [Int.toNat_natCast]
  have F := F.trans (Fm.new (i := 7) x13 hb12)
  have k7 := S7 own2
  have B := B.nw (j := 7) x13 hb12
  have k6 := k6.nw (j := 7) x13 hb12
  have N := N.new (i := 7) x13 hb12
  generalize own1 own2 b12 7 = own3 at *
  clear S7
  refine ptrP_mk (B.st (by simp) ?_)
  intro g15 F2 B
  simp only [List.set] at B
  have N := N.fm F2 (by simp <;> omega)
  have k6 := k6.fm F2 (by simp <;> omega)
  have k7 := k7.fm F2 (by simp <;> omega)
  have F := F.trans (F2.mono (by simp))
  clear F2
  -- excess
  refine mk_ints 8 (by omega) (by omega) ?_
  intro b16 g17 hb16 x17 S8
  have F := F.trans (Fm.new (i := 8) x17 hb16)
  have k8 := S8 own3
  have B := B.nw (j := 8) x17 hb16
  have k6 := k6.nw (j := 8) x17 hb16
  have k7 := k7.nw (j := 8) x17 hb16
  have N := N.new (i := 8) x17 hb16
  generalize own1 own3 b16 8 = own4 at *
  clear S8
  refine ptrP_mk (B.st (by simp) ?_)
  intro g19 F2 B
  simp only [List.set] at B
  have N := N.fm F2 (by simp <;> omega)
  have k6 := k6.fm F2 (by simp <;> omega)
  have k7 := k7.fm F2 (by simp <;> omega)
  have k8 := k8.fm F2 (by simp <;> omega)
  have F := F.trans (F2.mono (by simp))
  clear F2
  -- next
  refine mk_ints 10 (by omega) (by omega) ?_
  intro b20 g21 hb20 x21 S10
  have F := F.trans (Fm.new (i := 10) x21 hb20)
  have k10 := S10 own4
  have B := B.nw (j := 10) x21 hb20
  have k6 := k6.nw (j := 10) x21 hb20
  have k7 := k7.nw (j := 10) x21 hb20
  have k8 := k8.nw (j := 10) x21 hb20
  have N := N.new (i := 10) x21 hb20
  generalize own1 own4 b20 10 = own5 at *
  clear S10
  refine ptrP_mk (B.st (by simp) ?_)
  intro g23 F2 B
  simp only [List.set] at B
  have N := N.fm F2 (by simp <;> omega)
  have k6 := k6.fm F2 (by simp <;> omega)
  have k7 := k7.fm F2 (by simp <;> omega)
  have k8 := k8.fm F2 (by simp <;> omega)
  have k10 := k10.fm F2 (by simp <;> omega)
  have F := F.trans (F2.mono (by simp))
  clear F2
  refine ptrP_mk ⟨_, B.ld rfl, k7.setI (j := 0) (by omega) ?_⟩
  intro g27 F2 k7
  have N := N.fm F2 (by simp <;> omega)
  have B := B.fm F2 (by simp <;> omega)
  have k6 := k6.fm F2 (by simp <;> omega)
  have k8 := k8.fm F2 (by simp <;> omega)
  have k10 := k10.fm F2 (by simp <;> omega)
  have F := F.trans (F2.mono (by simp))
  clear F2
  have P : Ps own5 g27 bp bn n m fr to s t room (fun _ => 0) (fun _ => 0) (fun _ => 0) [] := by
    refine ⟨N, _, _, _, _, _, _, B, k6, k7, ?_, k8, Sq.nil, k10⟩
    intro k hk
    unfold cntH
    by_cases e : k = 0
    · subst e
      have : sumN n (fun u => if (0 : Int) = ((0 : Nat) : Int) then (1 : Int) else 0) = sumN n fun _ => 1 := rfl
      rw [this, sumN_const]; unfold upd; simp
    · rw [sumN_zero fun u _ => if_neg (show ¬ (0 : Int) = (k : Int) by omega)]
      unfold upd; rw [if_neg e]
  obtain ⟨vto, vroom, vout, outs, q4, q1, q2, q3, qa⟩ := N.ex
  refine ptrP_mk ⟨_, B.ld rfl, ptrP_mk ⟨_, q4.ld rfl, ?_⟩⟩
  clear q4 q1 q2 q3 qa N B k6 k7 k8 k10
  refine (set_T P n1 hs (x := 0) rfl (y := n) (by omega) (by omega)).mono ?_
  rintro _ g33 ⟨rfl, F2, P⟩
  refine rt_ret ⟨rfl, ?_⟩
  have F := F.trans (F2.mono (by simp))
  clear F2
  obtain ⟨vh, vc, vx, vq, vn, cnt, k5, k6, k7, C, k8, k9, k10⟩ := P.ex_
  obtain ⟨vto, vroom, vout, outs, q4, q1, q2, q3, qa⟩ := P.net.ex
  refine ptrP_mk (ptrP_mk ⟨_, k5.ld rfl, ptrP_mk ⟨_, q4.ld rfl, _, k5.ld rfl, ptrP_mk ⟨_, q4.ld rfl, q3.rdV hs ?_⟩⟩⟩)
  have hlen := arcsL_length (fr := fr) (to := to) (v := s) (i := m)
  have qs := qa s hs
  refine qs.len (natV_length _) fun _ _ => ?_
  clear k5 k6 k7 C k8 k9 k10 q4 q1 q2 q3 qa
  let I47 : (Int × Unit) → H → Nat → Prop := fun p q k => ∃ (j : Nat) (own' : Own) (room ex : Nat → Int) (Q : List Nat) (K : Int), p.1 = j ∧ j ≤ (arcsL fr to m s).length ∧ k = (arcsL fr to m s).length - j ∧
    Fm [2, 5, 6, 7, 8, 9, 10] own h own' q ∧ S1 own' q (20 + s) (outs s) (natV (arcsL fr to m s)) ∧ Ps own' q bp bn n m fr to s t room (upd (fun _ => 0) s n) ex (fun _ => 0) Q ∧ PiI n m fr to cap s t K j room ex Q
  refine ⟨fun p q => ∃ k, I47 p q k, rk I47, rk_wf I47, ⟨_, 0, own5, room, _, [], 0, rfl, by omega, rfl, F, qs, P, ?_⟩, ?_⟩
  · refine ⟨R, fun u hu _ => ⟨by rw [O]; rfl, Int.le_refl _⟩, by rw [O]; rfl, Int.le_refl _, ⟨Int.le_refl _, by omega⟩, fun u _ _ _ h => by omega, fun u hu => (by cases hu), Nat.le_refl _, fun a ha => by simp at ha⟩
  clear P F qs
  intro p q hI
  obtain ⟨j, own6, room, ex, Q, K, e1, hj, hk, F, qs, P, PI⟩ := mu_spec hI
  generalize hkk : mu I47 ((p, ()), q) = km at *
  change p = (j : Int) at e1
  subst e1
  refine ifP_of (fun h1 => ?_) (fun h1 => ?_)
  · have hja : j < (arcsL fr to m s).length := by have := of_decide_eq_true h1; omega
    have hlt : (arcsL fr to m s).length - (j + 1) < mu I47 (((j : Int), ()), q) := by rw [hkk, hk]; omega
    clear hI
    have ha := mem_arcsL.1 (List.getElem_mem hja)
    generalize haa : (arcsL fr to m s)[j] = a at ha
    have hw := hd_lt hn ha.1
    refine qs.rd (natV_get hja) ?_
    rw [haa]
    obtain ⟨vh, vc, vx, vq, vn, cnt, k5, k6, k7, C, k8, k9, k10⟩ := P.ex_
    obtain ⟨vto, vroom, vout, outs', q4, q1, q2, q3, qa⟩ := P.net.ex
    refine ptrP_mk (ptrP_mk (ptrP_mk ⟨_, k5.ld rfl, _, k5.ld rfl, ptrP_mk ⟨_, q4.ld rfl, k8.rdI hs ?_⟩⟩))
    refine ⟨_, k5.ld rfl, ptrP_mk ⟨_, q4.ld rfl, q2.rdI ha.1 ?_⟩⟩
    have rb := rm_bd PI.rm hc
    have hra := rb a ha.1
    have ob := out_bd (fr := fr) (to := to) (onR_bd PI.rm hc) m1
    have kb := PI.kb
    have exs := PI.exs
    have exs0 := PI.exs0
    have obs := ob s
    have ew : IntKind.i64.wrap (ex s + room a) = ex s + room a := w64_in (by omega) (by omega)
    rw [ew]
    refine k8.setI hs ?_
    intro g68 F2 k8
    have N := P.net
    have N := N.fm F2 (by simp <;> omega)
    have k5 := k5.fm F2 (by simp <;> omega)
    have k6 := k6.fm F2 (by simp <;> omega)
    have k7 := k7.fm F2 (by simp <;> omega)
    have k9 := k9.fm F2 (by simp <;> omega)
    have k10 := k10.fm F2 (by simp <;> omega)
    have qs := qs.fm F2 (by simp <;> omega)
    have F := F.trans (F2.mono (by simp))
    clear F2 q4 q1 q2 q3 qa
    have P2 : Ps own6 g68 bp bn n m fr to s t room (upd (fun _ => 0) s n) (upd ex s (ex s + room a)) (fun _ => 0) Q := ⟨N, _, _, _, _, _, _, k5, k6, k7, C, k8, k9, k10⟩
    obtain ⟨vto, vroom, vout, outs', q4, q1, q2, q3, qa⟩ := N.ex
    refine ptrP_mk ⟨_, k5.ld rfl, ptrP_mk ⟨_, q4.ld rfl, ?_⟩⟩
    have us : upd ex s (ex s + room a) s = ex s + room a := if_pos rfl
    refine (give_T P2 hn m1 hs ha.1 (x := room a) (by rw [us]; split <;> omega) ?_ rb hra.1 (by have := PI.ql; omega)).mono ?_
    · intro u hu
      unfold upd
      by_cases e : u = s
      · rw [if_pos e]; omega
      · rw [if_neg e]
        have := PI.ex0 u hu e
        have := ob u
        omega
    rintro _ g74 ⟨own7, rfl, F2, P3⟩
    refine rt_ret ⟨rfl, ?_⟩
    rw [i64_inc (by omega)]
    exact mu_next (I := I47) (k := (arcsL fr to m s).length - (j + 1)) ⟨j + 1, own7, _, _, _, _, rfl, hja, rfl, F.trans (F2.mono (by simp)), qs.fm F2 (by simp <;> omega), P3, PI.next hn hc hja haa⟩ hlt
  -- the main loop
  have hja : j = (arcsL fr to m s).length := by have := of_decide_eq_false h1; omega
  have V := PI.start hja hst hn hs
  have kb := PI.kb
  have kb2 : 0 ≤ K ∧ K ≤ 8192 * 1048576 := by omega
  have hql := PI.ql
  have czb := cntH_bd (n := n) (ht := upd ex s 1) (k := 0)
  clear PI hI hkk hk qs h1
  let I77 : Unit → H → N4 → Prop := fun _ q al => ∃ (own' : Own) (room ht ex nxt : Nat → Int) (Q : List Nat), al = PhM n m s fr to ht ex nxt Q ∧ Fm [2, 5, 6, 7, 8, 9, 10] own h own' q ∧
    Ps own' q bp bn n m fr to s t room ht ex nxt Q ∧ PvI n m fr to cap s t K room ht ex nxt Q none ∧ Q.length + cntH n (upd ex s 1) 0 ≤ 2 * m + n
  refine ⟨fun p q => ∃ k, I77 p q k, rkW W4 I77, rkW_wf W4 I77, ⟨_, own6, room, _, ex, _, Q, rfl, F, P, V, by omega⟩, ?_⟩
  clear P V F czb hql room ex Q hj own6
  intro q hI
  obtain ⟨al, ⟨own6, room, ht7, ex, nxt, Q, hal, F, P, V, hQZ⟩, hmin⟩ := muW (W := W4) hI
  clear hI
  have czb := cntH_bd (n := n) (ht := upd ex s 1) (k := 0)
  obtain ⟨vh, vc, vx, vq, vn, cnt, k5, k6, k7, C, k8, k9, k10⟩ := P.ex_
  have N := P.net
  refine ptrP_mk ⟨_, k5.ld rfl, k9.len (natV_length _) fun _ _ => ?_⟩
  refine ifP_of (fun h1 => ?_) (fun h1 => ?_)
  rotate_left
  · have : Q = [] := by
      have := of_decide_eq_false h1
      exact List.length_eq_zero_iff.1 (by omega)
    subst this
    obtain ⟨f1, f2⟩ := V.fin hn hs ht
    exact ⟨own6, room, rfl, F, N, f1, f2⟩
  cases Q with
  | nil => simp at h1
  | cons v Q =>
  obtain ⟨hv, hvs, hvt⟩ := V.mem v (List.mem_cons_self ..)
  refine ptrP_mk ⟨_, k5.ld rfl, k9.rd (j := 0) (x := (v : Nat)) rfl ?_⟩
  refine ptrP_mk ⟨_, k5.ld rfl, Sq.tl (x := .int .i64 (v : Nat)) (xs := natV Q) k9 ?_⟩
  intro qa ql qc hql1 hql2 hql3 k9'
  refine ⟨by omega, by omega, by omega, hql2, ptrP_mk (oneP_slc k9'.isS (k5.st (by simp) ?_))⟩
  clear k9
  have k9 := k9'
  clear k9'
  intro g95 F2 k5
  simp only [List.set] at k5
  have N := N.fm F2 (by simp <;> omega)
  have k6 := k6.fm F2 (by simp <;> omega)
  have k7 := k7.fm F2 (by simp <;> omega)
  have k8 := k8.fm F2 (by simp <;> omega)
  have k9 := k9.fm F2 (by simp <;> omega)
  have k10 := k10.fm F2 (by simp <;> omega)
  have F := F.trans (F2.mono (by simp))
  have P : Ps own6 g95 bp bn n m fr to s t room ht7 ex nxt Q := ⟨N, _, _, _, _, _, _, k5, k6, k7, C, k8, k9, k10⟩
  have V : PvI n m fr to cap s t K room ht7 ex nxt Q (some v) := by
    refine ⟨V.rm, V.hs, V.htt, V.hb, V.val, V.ex0, V.exs, fun u hu h1 h2 h3 => ?_, fun u hu => V.mem u (List.mem_cons_of_mem _ hu), V.nb, V.ca⟩
    rcases V.cov u hu h1 h2 h3 with h | h
    · rcases List.mem_cons.1 h with rfl | h
      · exact .inr rfl
      · exact .inl h
    · cases h
  have hr : r4 (PhM n m s fr to ht7 ex nxt Q) al := by
    rw [hal]
    unfold PhM r4
    simp
  have hQZ : (Q.length : Int) + cntH n (upd ex s 1) 0 + (if 0 < ex v then 1 else 0) ≤ 2 * m + n := by
    simp only [List.length_cons] at hQZ
    split <;> omega
  clear hql1 hql2 hql3 k5 k6 k7 C k8 k9 k10 N F2 h1 hal
  let I96 : Unit → H → N4 → Prop := fun _ q be => ∃ (own' : Own) (room ht ex nxt : Nat → Int) (Q : List Nat), be = PhM n m s fr to ht ex nxt Q ∧ Fm [2, 5, 6, 7, 8, 9, 10] own h own' q ∧
    Ps own' q bp bn n m fr to s t room ht ex nxt Q ∧ PvI n m fr to cap s t K room ht ex nxt Q (some v) ∧ (Q.length : Int) + cntH n (upd ex s 1) 0 + (if 0 < ex v then 1 else 0) ≤ 2 * m + n ∧ r4 be al
  refine ⟨fun p q => ∃ k, I96 p q k, rkW W4 I96, rkW_wf W4 I96, ⟨_, own6, room, ht7, ex, nxt, Q, rfl, F, P, V, hQZ, hr⟩, ?_⟩
  clear P V F czb hQZ hr
  intro q2 hI
  obtain ⟨be, ⟨own6, room, ht7, ex, nxt, Q, hbe, F, P, V, hQZ, hr⟩, hmin2⟩ := muW (W := W4) hI
  clear hI
  have czb := cntH_bd (n := n) (ht := upd ex s 1) (k := 0)
  obtain ⟨vh, vc, vx, vq, vn, cnt, k5, k6, k7, C, k8, k9, k10⟩ := P.ex_
  have N := P.net
  obtain ⟨vto, vroom, vout, outs', q4, q1, q2', q3, qa⟩ := N.ex
  have hlenv := arcsL_length (fr := fr) (to := to) (v := v) (i := m)
  have hnv := V.nb v hv
  obtain ⟨l, hl⟩ : ∃ l : Nat, nxt v = l := ⟨(nxt v).toNat, by omega⟩
  obtain ⟨n1_, n2_, n3_⟩ := V.nn
  refine ptrP_mk ⟨_, k5.ld rfl, k8.rdI hv ?_⟩
  refine ifP_of (fun h1 => ?_) (fun h1 => ?_)
  rotate_left
  · have hev := of_decide_eq_false h1
    rw [if_neg hev] at hQZ
    refine muW_next hmin (a := be) ⟨own6, room, ht7, ex, nxt, Q, hbe, F, P, ?_, by omega⟩ hr
    refine ⟨V.rm, V.hs, V.htt, V.hb, V.val, V.ex0, V.exs, fun u hu h1 h2 h3 => ?_, V.mem, V.nb, V.ca⟩
    rcases V.cov u hu h1 h2 h3 with h | h
    · exact .inl h
    · simp only [Option.some.injEq] at h
      subst h
      exact absurd h3 hev
  have hev := of_decide_eq_true h1
  refine ptrP_mk (ptrP_mk ⟨_, k5.ld rfl, k10.rdI hv ⟨_, k5.ld rfl, ptrP_mk ⟨_, q4.ld rfl, q3.rdV hv ?_⟩⟩⟩)
  refine (qa v hv).len (natV_length _) fun _ _ => ?_
  rw [hl]
  refine ifP_of (fun h2 => ?_) (fun h2 => ?_)
  · -- lift
    have h2 := of_decide_eq_true h2
    refine (lift_T P hn n1 m1 hv V.hb (V.low hn hs hv hvs hev) (fun a ha hta hra => ?_)).mono ?_
    · have := V.val a ha hra
      have := V.ca v hv a (by rw [hl, Int.toNat_natCast, show l = (arcsL fr to m v).length by omega, List.take_length]; exact mem_arcsL.2 ⟨ha, hta⟩)
      rw [hta] at *
      have : ¬ ht7 v = ht7 (hdA fr to a) + 1 := fun h => this ⟨hra, h⟩
      omega
    rintro _ g117 ⟨rfl, F2, ht8, nxt8, P2, L⟩
    refine rt_ret ⟨rfl, ?_⟩
    obtain ⟨V2, hph⟩ := V.lift hn hv hvs hvt hs L
    have hlt : r4 (PhM n m s fr to ht8 ex nxt8 Q) be := by
      rw [hbe]
      have := V2.nn
      unfold PhM r4
      simp only
      omega
    exact muW_next hmin2 (a := PhM n m s fr to ht8 ex nxt8 Q) ⟨own6, room, ht8, ex, nxt8, Q, rfl, F.trans (F2.mono (by simp)), P2, V2, hQZ, r4_trans hlt hr⟩ hlt
  have h2 := of_decide_eq_false h2
  have hla : l < (arcsL fr to m v).length := by omega
  have ha := mem_arcsL.1 (List.getElem_mem hla)
  have hskip := V.skip hv hl hla
  generalize haa : (arcsL fr to m v)[l] = a at ha hskip
  have hw := hd_lt hn ha.1
  refine ptrP_mk (ptrP_mk ⟨_, k5.ld rfl, ptrP_mk ⟨_, q4.ld rfl, q3.rdV hv ⟨_, k5.ld rfl, k10.rdI hv ?_⟩⟩⟩)
  rw [hl]
  refine (qa v hv).rd (natV_get hla) ?_
  rw [haa]
  refine ptrP_mk ⟨_, k5.ld rfl, ptrP_mk ⟨_, q4.ld rfl, q2'.rdI ha.1 ?_⟩⟩
  have step : ¬ (0 < room a ∧ ht7 v = ht7 (hdA fr to a) + 1) → ptrP (.pointer (some (bk bp))) fun a162 => ldV q2 (a162.add 5) fun x163 => ixS x163 (v : Int) 1 fun a164 => ldI q2 a164 .i64 fun x165 => ixS x163 (v : Int) 1 fun a166 =>
      stC q2 a166 (.int .i64 (IntKind.i64.wrap (x165 + 1))) fun h167 => (∃ k, I96 () h167 k) ∧ rkW W4 I96 ((), h167) ((), q2) := by
    intro hno
    refine ptrP_mk ⟨_, k5.ld rfl, k10.rdI hv ?_⟩
    rw [hl, i64_inc (by omega)]
    refine k10.setI hv ?_
    intro g161 F2 k10
    have N := N.fm F2 (by simp <;> omega)
    have k5 := k5.fm F2 (by simp <;> omega)
    have k6 := k6.fm F2 (by simp <;> omega)
    have k7 := k7.fm F2 (by simp <;> omega)
    have k8 := k8.fm F2 (by simp <;> omega)
    have k9 := k9.fm F2 (by simp <;> omega)
    have V2 := hskip hno
    have hlt : r4 (PhM n m s fr to ht7 ex (upd nxt v ((l + 1 : Nat) : Int)) Q) be := by
      rw [hbe]
      have n2 := V2.nn
      have e3 := Phi3_upd (n := n) (m := m) (fr := fr) (to := to) (nxt := nxt) (y := ((l + 1 : Nat) : Int)) hv
      rw [hl] at e3
      refine .inr ⟨rfl, .inr ⟨rfl, .inl ?_⟩⟩
      show (Phi3 n m fr to (upd nxt v ((l + 1 : Nat) : Int))).toNat < (Phi3 n m fr to nxt).toNat
      omega
    exact muW_next hmin2 (a := PhM n m s fr to ht7 ex (upd nxt v ((l + 1 : Nat) : Int)) Q) ⟨own6, room, ht7, ex, _, Q, rfl, F.trans (F2.mono (by simp)), ⟨N, _, _, _, _, _, _, k5, k6, k7, C, k8, k9, k10⟩, V2, hQZ, r4_trans hlt hr⟩ hlt
  refine ifP_of (fun h3 => ?_) (fun h3 => step fun h => of_decide_eq_false h3 h.1)
  have h3 := of_decide_eq_true h3
  refine ptrP_mk (ptrP_mk (ptrP_mk ⟨_, k5.ld rfl, k6.rdI hv ⟨_, k5.ld rfl, _, k5.ld rfl, ptrP_mk ⟨_, q4.ld rfl, q1.rdI ha.1 (k6.rdI hw ?_)⟩⟩⟩))
  dsimp only
  have hbw := V.hb _ hw
  have ew2 : IntKind.i64.wrap (ht7 (hdA fr to a) + 1) = ht7 (hdA fr to a) + 1 := w64_in (by omega) (by omega)
  rw [ew2]
  refine ifP_of (fun h4 => ?_) (fun h4 => step fun h => of_decide_eq_false h4 h.2)
  have h4 := of_decide_eq_true h4
  -- give
  have rb := rm_bd V.rm hc
  have hra := rb a ha.1
  obtain ⟨x, hx⟩ : ∃ x, x = if room a < ex v then room a else ex v := ⟨_, rfl⟩
  have hx1 : 0 < x ∧ x ≤ room a ∧ x ≤ ex v := by rw [hx]; split <;> omega
  rw [if_pos hev] at hQZ
  refine (give_T P hn m1 hv ha.1 hx (V.exb hc m1 kb2) rb (by omega) (by omega)).mono ?_
  rintro _ g153 ⟨own7, rfl, F2, P2⟩
  refine rt_ret ⟨rfl, ?_⟩
  have V2 := V.give hn ha.1 ha.2 rfl hvs hvt h4 hx1.1 hx1.2.1 hx1.2.2
  have ne : v ≠ hdA fr to a := by intro h; rw [← h] at h4; omega
  have hph := Phi2_give (n := n) (s := s) (ex := ex) (x := x) hv hw ne hvs h4 hbw.1 (by omega)
  have hlt : r4 (PhM n m s fr to ht7 (giveX ex v (hdA fr to a) x) nxt (giveQ s t ex Q (hdA fr to a))) be := by
    rw [hbe]
    have n2 := V2.nn
    refine .inr ⟨rfl, .inl ?_⟩
    show (Phi2 n s (giveX ex v (hdA fr to a) x) ht7).toNat < (Phi2 n s ex ht7).toNat
    omega
  refine muW_next hmin2 (a := PhM n m s fr to ht7 (giveX ex v (hdA fr to a) x) nxt (giveQ s t ex Q (hdA fr to a))) ⟨own7, _, ht7, _, nxt, _, rfl, F.trans (F2.mono (by simp)), P2, V2, ?_, r4_trans hlt hr⟩ hlt
  have hz := zq (Q := Q) (t := t) hv hw hs ne hvs hx1.1 hx1.2.2 (fun h => (V.ex0 _ hw h).2)
  omega
end

end Go.Proofs.YtdcamadeblojdaaGreat

namespace Go.Proofs.YtdcamadeblojdaaGreat
open Go
set_option linter.unusedVariables false
set_option linter.unusedSimpArgs false

theorem Forest.of {own own' : Own} {h h' : H} {bf bn n : Nat} {par tv : Nat → Int} {M : List Nat} (P : Forest h bf bn n par tv) (F : Fm M own h own' h') (h1 : own bf ∉ M) (h2 : own bn ∉ M) : Forest h' bf bn n par tv := by
  obtain ⟨sm, fst, e, st, L, pd, fz, I⟩ := P
  obtain ⟨ne, ef, hd⟩ := fz.hd
  exact ⟨sm, fst, e, st, L, pd, ⟨⟨ne, ef, F.keep _ _ hd h1⟩, F.keep _ _ fz.at_ h2⟩, I⟩
theorem Forest.some_ {h : H} {bf bn n : Nat} {par tv : Nat → Int} (P : Forest h bf bn n par tv) : ∃ o, h bn = some o := by
  obtain ⟨sm, fst, e, st, L, pd, fz, I⟩ := P
  exact ⟨_, fz.at_⟩
theorem Forest.some2 {h : H} {bf bn n : Nat} {par tv : Nat → Int} (P : Forest h bf bn n par tv) : (∃ o, h bf = some o) ∧ bf ≠ bn := by
  obtain ⟨sm, fst, e, st, L, pd, fz, I⟩ := P
  exact ⟨⟨_, fz.hd.2.choose_spec⟩, fz.hd.1⟩

/-- trees in the heap: owners 5 (the struct), 6 (via), 7 (level), 8 (next), 9 and 11 (the forest). -/
structure Tr (own : Own) (h : H) (bt bn bf bg n m : Nat) (fr to : Nat → Nat) (s t : Nat) (room lev nxt via par tv : Nat → Int) : Prop where
  net : Net own h bn n m fr to s t room
  ex : ∃ vv vl vn, B1 own h 5 bt [.pointer (some (bk bn)), fo bf, vv, vl, vn] ∧ S1 own h 6 vv (ints n via) ∧ S1 own h 7 vl (ints n lev) ∧ S1 own h 8 vn (ints n nxt)
  fo_ : Forest h bf bg n par tv
  o9 : own bf = 9
  o11 : own bg = 11
/-- v hangs by its arc a. -/
structure Hg (n m : Nat) (fr to : Nat → Nat) (lev0 lev E nxt via par tv : Nat → Int) (v a : Nat) : Prop where
  via_ : via v = a
  am : a < 2 * m
  tl : tlA fr to a = v
  nx : ∃ l : Nat, nxt v = l ∧ (arcsL fr to m v)[l]? = some a
  par_ : par v = (hdA fr to a : Nat)
  tv_ : tv v = E a
  l1 : lev v = lev0 v
  l2 : lev (hdA fr to a) = lev0 (hdA fr to a)
  l3 : lev0 (hdA fr to a) = lev0 v + 1
  l4 : 0 ≤ lev0 v
/-- E: the rooms if all hung off. -/
structure TrI (n m : Nat) (fr to : Nat → Nat) (cap : Nat → Int) (s t : Nat) (lev0 lev E room nxt via par tv : Nat → Int) : Prop where
  rmE : RmP m cap E
  rmR : RmP m cap room
  lk : ∀ v, v < n → (via v = -1 ∧ par v = -1) ∨ ∃ a, Hg n m fr to lev0 lev E nxt via par tv v a
  eq : ∀ b, b < 2 * m → (∀ v, v < n → via v ≠ b ∧ via v ≠ prA b) → room b = E b
  nb : ∀ u, u < n → 0 ≤ nxt u ∧ nxt u ≤ (arcsL fr to m u).length
  al : ∀ w, w < n → lev w = lev0 w ∨ (lev w = -1 ∧ nxt w = (arcsL fr to m w).length ∧ w ≠ t ∧ w ≠ s)

theorem RmP.snd' {m : Nat} {cap room : Nat → Int} (R : RmP m cap room) {a : Nat} {x : Int} (ha : a < 2 * m) (h0 : 0 ≤ room (prA a) + x) (h1 : 0 ≤ room a - x) : RmP m cap (sndR room a x) := by
  have hp := prA_lt ha
  refine ⟨fun b hb => ?_, fun i hi => ?_⟩
  · by_cases e1 : b = a
    · subst e1; rw [sndR_a]; omega
    · by_cases e2 : b = prA a
      · subst e2; rw [sndR_p]; omega
      · rw [sndR_o e1 e2]; exact R.pos b hb
  · have e0 := R.sum i hi
    by_cases e1 : 2 * i = a
    · subst e1
      have e2 : prA (2 * i) = 2 * i + 1 := by unfold prA; rw [if_pos (by omega)]
      have p := sndR_p (room := room) (a := 2 * i) (x := x)
      rw [e2] at p
      rw [sndR_a, p]; omega
    · by_cases e2 : 2 * i + 1 = a
      · subst e2
        have e3 : prA (2 * i + 1) = 2 * i := by unfold prA; rw [if_neg (by omega)]; omega
        have p := sndR_p (room := room) (a := 2 * i + 1) (x := x)
        rw [e3] at p
        rw [sndR_a, p]; omega
      · have : 2 * i ≠ prA a ∧ 2 * i + 1 ≠ prA a := by unfold prA; split <;> omega
        rw [sndR_o e1 this.1, sndR_o e2 this.2]; exact e0

section
variable {n m s t : Nat} {fr to : Nat → Nat} {cap lev0 lev E room nxt via par tv : Nat → Int}
theorem Hg.par_ne {v a : Nat} (g : Hg n m fr to lev0 lev E nxt via par tv v a) : par v ≠ -1 := by
  rw [g.par_]; omega
theorem TrI.hg (I : TrI n m fr to cap s t lev0 lev E room nxt via par tv) {v : Nat} (hv : v < n) (h : via v ≠ -1) : ∃ a, Hg n m fr to lev0 lev E nxt via par tv v a := by
  rcases I.lk v hv with h2 | h2
  · exact absurd h2.1 h
  · exact h2
theorem TrI.hgp (I : TrI n m fr to cap s t lev0 lev E room nxt via par tv) {v : Nat} (hv : v < n) (h : par v ≠ -1) : ∃ a, Hg n m fr to lev0 lev E nxt via par tv v a := by
  rcases I.lk v hv with h2 | h2
  · exact absurd h2.2 h
  · exact h2
/-- No two hang by the same edge. -/
theorem Hg.ne {v u a b : Nat} (g : Hg n m fr to lev0 lev E nxt via par tv v a) (k : Hg n m fr to lev0 lev E nxt via par tv u b) (h : v ≠ u) : b ≠ a ∧ b ≠ prA a := by
  constructor
  · rintro rfl; exact h (g.tl.symm.trans k.tl)
  · rintro rfl
    have h1 := k.l3
    have h2 := g.l3
    rw [hd_pr] at h1
    have h3 := k.tl
    rw [tl_pr] at h3
    rw [g.tl] at h1
    rw [h3] at h2
    omega
theorem TrI.drop (I : TrI n m fr to cap s t lev0 lev E room nxt via par tv) {v a : Nat} (hv : v < n) (g : Hg n m fr to lev0 lev E nxt via par tv v a) :
    TrI n m fr to cap s t lev0 lev E (sndR room a (room a - E a)) nxt (upd via v (-1)) (upd par v (-1)) (upd tv v 0) := by
  have p1 := I.rmE.pos a g.am
  have p2 := I.rmE.pos _ (prA_lt g.am)
  have q1 := I.rmE.pr g.am
  have q2 := I.rmR.pr g.am
  refine ⟨I.rmE, I.rmR.snd' g.am (by omega) (by omega), ?_, ?_, I.nb, I.al⟩
  · intro u hu
    by_cases e : u = v
    · subst e; exact .inl ⟨if_pos rfl, if_pos rfl⟩
    · have e1 : upd via v (-1) u = via u := if_neg e
      have e2 : upd par v (-1) u = par u := if_neg e
      have e3 : upd tv v 0 u = tv u := if_neg e
      rcases I.lk u hu with h | ⟨b, k⟩
      · exact .inl ⟨e1.trans h.1, e2.trans h.2⟩
      · exact .inr ⟨b, e1.trans k.via_, k.am, k.tl, k.nx, e2.trans k.par_, e3.trans k.tv_, k.l1, k.l2, k.l3, k.l4⟩
  · intro b hb hno
    by_cases e1 : b = a
    · subst e1; rw [sndR_a]; omega
    · by_cases e2 : b = prA a
      · subst e2; rw [sndR_p]; omega
      · rw [sndR_o e1 e2]
        refine I.eq b hb fun u hu => ?_
        by_cases e : u = v
        · subst e
          rw [g.via_]
          have : a ≠ prA b := by rintro rfl; exact e2 (prA_pr b).symm
          omega
        · have e3 : upd via v (-1) u = via u := if_neg e
          have := hno u hu
          rwa [e3] at this
end

section
variable {own : Own} {h : H} {bt bn bf bg n m s t : Nat} {fr to : Nat → Nat} {cap lev0 lev E room nxt via par tv : Nat → Int}
/-- Behind a change of the forest alone. -/
theorem Tr.kp {h' : H} {par' tv' : Nat → Int} (P : Tr own h bt bn bf bg n m fr to s t room lev nxt via par tv) (k : Kp bg h h') (Q : Forest h' bf bg n par' tv') :
    Fm [11] own h own h' ∧ Tr own h' bt bn bf bg n m fr to s t room lev nxt via par' tv' := by
  have F : Fm [11] own h own h' := Fm.kp k P.o11 Q.some_
  obtain ⟨vv, vl, vn, k5, k6, k7, k8⟩ := P.ex
  exact ⟨F, P.net.fm F (by simp), ⟨vv, vl, vn, k5.fm F (by simp <;> omega), k6.fm F (by simp <;> omega), k7.fm F (by simp <;> omega), k8.fm F (by simp <;> omega)⟩, Q, P.o9, P.o11⟩

theorem drop_T {lev1 : Nat → Int} (P : Tr own h bt bn bf bg n m fr to s t room lev1 nxt via par tv) (I : TrI n m fr to cap s t lev0 lev E room nxt via par tv) (hc : ∀ i, i < m → cap i ≤ 1048576) (m1 : m ≤ 4096) {v a : Nat} (hv : v < n)
    (g : Hg n m fr to lev0 lev E nxt via par tv v a) :
    T Tryz.prog F.maxflow_trees_drop [.pointer (some (bk bt)), .int .i64 v] h fun r h' => r = .ret (.tuple ⟨[]⟩) ∧ Fm [2, 6, 11] own h own h' ∧
      Tr own h' bt bn bf bg n m fr to s t (sndR room a (room a - E a)) lev1 nxt (upd via v (-1)) (upd par v (-1)) (upd tv v 0) := by
  refine E_maxflow_trees_drop ?_
  unfold B_maxflow_trees_drop
  obtain ⟨vv, vl, vn, k5, _, _, _⟩ := P.ex
  refine ptrP_mk ⟨_, k5.ld rfl, ?_⟩
  have cc : childC n par (v : Int) = 0 := by rw [childC_nat hv, if_neg g.par_ne]
  refine (Cut_T P.fo_ v).mono ?_
  rintro _ g4 ⟨kp, rfl, Q, _⟩
  have Q := Q cc
  rw [Int.toNat_natCast] at Q
  rw [cc, if_pos rfl, Int.toNat_natCast]
  refine rt_ret ⟨_, _, rfl, ?_⟩
  obtain ⟨F1, P1⟩ := P.kp kp Q
  obtain ⟨vv, vl, vn, k5, k6, k7, k8⟩ := P1.ex
  have N := P1.net
  obtain ⟨vto, vroom, vout, outs, q4, q1, q2, q3, qa⟩ := N.ex
  refine ptrP_mk ⟨_, k5.ld rfl, k6.rdI hv ?_⟩
  rw [g.via_]
  refine ptrP_mk (ptrP_mk ⟨_, k5.ld rfl, _, k5.ld rfl, ptrP_mk ⟨_, q4.ld rfl, q2.rdI g.am ?_⟩⟩)
  have b1 := rm_bd I.rmR hc a g.am
  have b2 := rm_bd I.rmE hc a g.am
  have b3 := I.rmE.pr g.am
  have b4 := I.rmR.pr g.am
  have b5 := rm_bd I.rmE hc _ (prA_lt g.am)
  have ew : IntKind.i64.wrap (room a - tv v) = room a - E a := by rw [g.tv_]; exact w64_in (by omega) (by omega)
  rw [ew]
  refine (send_T N m1 g.am (x := room a - E a) (by omega) (by omega)).mono ?_
  rintro _ g20 ⟨rfl, F2, N⟩
  refine rt_ret ⟨rfl, ?_⟩
  have k5 := k5.fm F2 (by simp <;> omega)
  have k6 := k6.fm F2 (by simp <;> omega)
  have k7 := k7.fm F2 (by simp <;> omega)
  have k8 := k8.fm F2 (by simp <;> omega)
  have Q := Q.of F2 (by rw [P.o9]; simp) (by rw [P.o11]; simp)
  refine ptrP_mk ⟨_, k5.ld rfl, k6.setI hv ?_⟩
  intro g24 F3 k6
  have k5 := k5.fm F3 (by simp <;> omega)
  have k7 := k7.fm F3 (by simp <;> omega)
  have k8 := k8.fm F3 (by simp <;> omega)
  have N := N.fm F3 (by simp <;> omega)
  have Q := Q.of F3 (by rw [P.o9]; simp) (by rw [P.o11]; simp)
  exact ⟨rfl, ((F1.mono (by simp)).trans (F2.mono (by simp))).trans (F3.mono (by simp)), N, ⟨vv, vl, vn, k5, k6, k7, k8⟩, Q, P.o9, P.o11⟩
end

end Go.Proofs.YtdcamadeblojdaaGreat

namespace Go.Proofs.YtdcamadeblojdaaGreat
open Go
set_option linter.unusedVariables false
set_option linter.unusedSimpArgs false

theorem upd_self {f : Nat → Int} {i : Nat} : upd f i (f i) = f := by
  funext j; unfold upd
  split
  · rename_i h; rw [h]
  · rfl
theorem upd_upd {f : Nat → Int} {i : Nat} {x y : Int} : upd (upd f i x) i y = upd f i y := by
  funext j; unfold upd
  split <;> rfl
theorem upd_at {f : Nat → Int} {i : Nat} {x : Int} : upd f i x i = x := if_pos rfl
theorem upd_ne {f : Nat → Int} {i j : Nat} {x : Int} (h : j ≠ i) : upd f i x j = f j := if_neg h

section
variable {n m s t : Nat} {fr to : Nat → Nat} {cap lev0 lev E room nxt via par tv : Nat → Int}
/-- Roots stand no lower than what hangs below them. -/
theorem TrI.rt_lev (I : TrI n m fr to cap s t lev0 lev E room nxt via par tv) (hn : ∀ i, i < m → fr i < n ∧ to i < n) {w r : Nat} (hw : w < n) (R : Rt par w r) : lev0 w ≤ lev0 r ∧ r < n := by
  obtain ⟨l, h1, h2⟩ := R
  induction h1 with
  | root h => cases h2; exact ⟨Int.le_refl _, hw⟩
  | @step v u l h a ih =>
    obtain ⟨b, g⟩ := I.hgp hw (by rw [h]; omega)
    have e : u = hdA fr to b := by have := g.par_; omega
    have hu : u < n := by rw [e]; exact hd_lt hn g.am
    rw [List.getLast?_cons] at h2
    have h2' : l.getLast? = some r := by
      obtain ⟨r', h3, _⟩ := a.last
      rw [h3] at h2 ⊢
      simpa using h2
    obtain ⟨k1, k2⟩ := ih hu h2'
    have := g.l3
    rw [← e] at this
    exact ⟨by omega, k2⟩
/-- An arc up from a root is no edge of the forest. -/
theorem TrI.room_eq (I : TrI n m fr to cap s t lev0 lev E room nxt via par tv) (hn : ∀ i, i < m → fr i < n ∧ to i < n) {v a : Nat} (hv : v < n) (hvia : via v = -1) (ha : a < 2 * m) (ht : tlA fr to a = v)
    (hl : lev0 (hdA fr to a) = lev0 v + 1) : room a = E a := by
  refine I.eq a ha fun u hu => ⟨fun h => ?_, fun h => ?_⟩
  · obtain ⟨b, g⟩ := I.hg hu (by rw [h]; omega)
    have e : b = a := by have := g.via_; omega
    subst e
    have := g.tl
    rw [ht] at this
    subst this
    omega
  · obtain ⟨b, g⟩ := I.hg hu (by rw [h]; omega)
    have e : b = prA a := by have := g.via_; omega
    subst e
    have h1 := g.tl
    have h2 := g.l3
    rw [tl_pr] at h1
    rw [hd_pr, ht] at h2
    rw [h1] at hl
    omega
theorem TrI.adv (I : TrI n m fr to cap s t lev0 lev E room nxt via par tv) {v : Nat} (hvia : via v = -1) (hlv : lev v = lev0 v) (hl0 : 0 ≤ lev0 v) {y : Int} (h0 : 0 ≤ y) (h1 : y ≤ (arcsL fr to m v).length) :
    TrI n m fr to cap s t lev0 lev E room (upd nxt v y) via par tv := by
  refine ⟨I.rmE, I.rmR, fun u hu => ?_, I.eq, fun u hu => ?_, fun w hw => ?_⟩
  · rcases I.lk u hu with h | ⟨a, g⟩
    · exact .inl h
    · have ne : u ≠ v := by
        rintro rfl
        have := g.via_
        omega
      exact .inr ⟨a, g.via_, g.am, g.tl, by rw [upd_ne ne]; exact g.nx, g.par_, g.tv_, g.l1, g.l2, g.l3, g.l4⟩
  · by_cases e : u = v
    · subst e; rw [upd_at]; exact ⟨h0, h1⟩
    · rw [upd_ne e]; exact I.nb u hu
  · rcases I.al w hw with h | ⟨h1, h2, h3⟩
    · exact .inl h
    · by_cases e : w = v
      · subst e; omega
      · rw [upd_ne e]; exact .inr ⟨h1, h2, h3⟩
end

section
variable {own : Own} {h : H} {bt bn bf bg n m s t : Nat} {fr to : Nat → Nat} {cap lev0 lev E room nxt via par tv : Nat → Int}
theorem grow_T (P : Tr own h bt bn bf bg n m fr to s t room lev nxt via par tv) (I : TrI n m fr to cap s t lev0 lev E room nxt via par tv) (hc : ∀ i, i < m → cap i ≤ 1048576)
    (hn : ∀ i, i < m → fr i < n ∧ to i < n) (m1 : m ≤ 4096) (n1 : n ≤ 1024) (hlb : ∀ u, u < n → -1 ≤ lev0 u ∧ lev0 u < n) {v : Nat} (hv : v < n) (hvia : via v = -1) (hpar : par v = -1) (hlv : lev v = lev0 v) (hl0 : 0 ≤ lev0 v) :
    T Tryz.prog F.maxflow_trees_grow [.pointer (some (bk bt)), .int .i64 v] h fun r h' => ∃ b y via' par' tv', r = .ret (.bool b) ∧ Fm [6, 8, 11] own h own h' ∧
      Tr own h' bt bn bf bg n m fr to s t room lev (upd nxt v y) via' par' tv' ∧ TrI n m fr to cap s t lev0 lev E room (upd nxt v y) via' par' tv' ∧ nxt v ≤ y ∧ y ≤ (arcsL fr to m v).length ∧
      (DdP n m fr to t lev0 E nxt → DdP n m fr to t lev0 E (upd nxt v y)) ∧
      ((b = false ∧ via' = via ∧ par' = par ∧ tv' = tv ∧ y = (arcsL fr to m v).length) ∨ (b = true ∧ ∃ a : Nat, 0 < E a ∧ via' = upd via v a ∧ par' = upd par v (hdA fr to a : Nat) ∧ tv' = upd tv v (E a))) := by
  refine E_maxflow_trees_grow ?_
  unfold B_maxflow_trees_grow
  have hb0 := I.nb v hv
  have hlen := arcsL_length (fr := fr) (to := to) (v := v) (i := m)
  let J : Unit → H → Nat → Prop := fun _ q k => ∃ l : Nat, nxt v ≤ l ∧ l ≤ (arcsL fr to m v).length ∧ k = (arcsL fr to m v).length - l ∧ Fm [6, 8, 11] own h own q ∧ Tr own q bt bn bf bg n m fr to s t room lev (upd nxt v l) via par tv ∧
    TrI n m fr to cap s t lev0 lev E room (upd nxt v l) via par tv ∧ (DdP n m fr to t lev0 E nxt → DdP n m fr to t lev0 E (upd nxt v l))
  refine ⟨fun p q => ∃ k, J p q k, rk J, rk_wf J, ⟨_, (nxt v).toNat, by omega, by omega, rfl, Fm.refl, ?_, ?_, ?_⟩, ?_⟩
  · rw [Int.toNat_of_nonneg hb0.1, upd_self]; exact P
  · rw [Int.toNat_of_nonneg hb0.1, upd_self]; exact I
  · rw [Int.toNat_of_nonneg hb0.1, upd_self]; exact id
  clear P
  intro q hJ
  obtain ⟨l, hl1, hl2, hk, F, P, I2, hd⟩ := mu_spec hJ
  generalize hkk : mu J ((), q) = km at *
  have hltf : l < (arcsL fr to m v).length → (arcsL fr to m v).length - (l + 1) < mu J ((), q) := fun h => by rw [hkk, hk]; omega
  clear hJ
  obtain ⟨vv, vl, vn, k5, k6, k7, k8⟩ := P.ex
  obtain ⟨vto, vroom, vout, outs, q4, q1, q2, q3, qa⟩ := P.net.ex
  refine ptrP_mk (ptrP_mk ⟨_, k5.ld rfl, k8.rdI hv ⟨_, k5.ld rfl, ptrP_mk ⟨_, q4.ld rfl, q3.rdV hv ?_⟩⟩⟩)
  refine (qa v hv).len (natV_length _) fun _ _ => ?_
  rw [upd_at]
  refine ifP_of (fun h1 => ?_) (fun h1 => ?_)
  rotate_left
  · have : l = (arcsL fr to m v).length := by have := of_decide_eq_false h1; omega
    exact ⟨false, l, via, par, tv, rfl, F, P, I2, hl1, by omega, hd, .inl ⟨rfl, rfl, rfl, rfl, by omega⟩⟩
  have hla : l < (arcsL fr to m v).length := by have := of_decide_eq_true h1; omega
  have ha := mem_arcsL.1 (List.getElem_mem hla)
  have hget : (arcsL fr to m v)[l]? = some (arcsL fr to m v)[l] := List.getElem?_eq_getElem hla
  have htk : (arcsL fr to m v).take (l + 1) = (arcsL fr to m v).take l ++ [(arcsL fr to m v)[l]] := List.take_succ_eq_append_getElem hla
  generalize haa : (arcsL fr to m v)[l] = a at ha hget htk
  have hw := hd_lt hn ha.1
  have hlvb := hlb v hv
  refine ptrP_mk (ptrP_mk ⟨_, k5.ld rfl, ptrP_mk ⟨_, q4.ld rfl, q3.rdV hv ⟨_, k5.ld rfl, k8.rdI hv ?_⟩⟩⟩)
  rw [upd_at]
  refine (qa v hv).rd (natV_get hla) ?_
  rw [haa]
  refine ptrP_mk ⟨_, k5.ld rfl, ptrP_mk ⟨_, q4.ld rfl, q1.rdI ha.1 ?_⟩⟩
  refine ptrP_mk ⟨_, k5.ld rfl, ptrP_mk ⟨_, q4.ld rfl, q2.rdI ha.1 ?_⟩⟩
  dsimp only
  have step : ¬ (0 < room a ∧ lev (hdA fr to a) = lev v + 1) → ptrP (.pointer (some (bk bt))) fun a162 => ldV q (a162.add 4) fun x163 => ixS x163 (v : Int) 1 fun a164 => ldI q a164 .i64 fun x165 => ixS x163 (v : Int) 1 fun a166 =>
      stC q a166 (.int .i64 (IntKind.i64.wrap (x165 + 1))) fun h167 => (∃ k, J () h167 k) ∧ rk J ((), h167) ((), q) := by
    intro hno
    refine ptrP_mk ⟨_, k5.ld rfl, k8.rdI hv ?_⟩
    rw [upd_at, i64_inc (by omega)]
    refine k8.setI hv ?_
    intro g77 F2 k8
    rw [upd_upd] at k8
    have N := P.net
    have Fo := P.fo_.of F2 (by rw [P.o9]; simp) (by rw [P.o11]; simp)
    have N := N.fm F2 (by simp <;> omega)
    have k5 := k5.fm F2 (by simp <;> omega)
    have k6 := k6.fm F2 (by simp <;> omega)
    have k7 := k7.fm F2 (by simp <;> omega)
    have I3 := I2.adv (v := v) hvia hlv hl0 (y := ((l + 1 : Nat) : Int)) (by omega) (by omega)
    rw [upd_upd] at I3
    refine mu_next (I := J) (k := (arcsL fr to m v).length - (l + 1)) ⟨l + 1, by omega, hla, rfl, F.trans (F2.mono (by simp)), ⟨N, ⟨vv, vl, vn, k5, k6, k7, k8⟩, Fo, P.o9, P.o11⟩, I3, fun d => ?_⟩ (hltf hla)
    have d2 := hd d
    have grow : ∀ w, w ≠ v → upd nxt v ((l + 1 : Nat) : Int) w = upd nxt v l w := fun w h => by rw [upd_ne h, upd_ne h]
    have len : ∀ w, w < n → upd nxt v l w = (arcsL fr to m w).length → upd nxt v ((l + 1 : Nat) : Int) w = (arcsL fr to m w).length := by
      intro w hw e
      by_cases e2 : w = v
      · subst e2; rw [upd_at] at e; omega
      · rw [grow w e2]; exact e
    intro u hu b hb hr hlb
    by_cases e : u = v
    · subst e
      rw [upd_at, Int.toNat_natCast, htk] at hb
      rcases List.mem_append.1 hb with hb | hb
      · have hbw := hd_lt hn (mem_arcsL.1 (List.mem_of_mem_take hb)).1
        obtain ⟨h1, h2⟩ := d2 u hu b (by rw [upd_at, Int.toNat_natCast]; exact hb) hr hlb
        exact ⟨h1, len _ hbw h2⟩
      · have : b = a := by rw [List.mem_singleton] at hb; exact hb
        subst this
        have er := I2.room_eq hn hv hvia ha.1 ha.2 hlb
        rcases I2.al _ hw with h | ⟨h1, h2, h3, h4⟩
        · exact absurd ⟨by omega, by omega⟩ hno
        · exact ⟨h3, len _ hw h2⟩
    · have e2 : upd nxt v ((l + 1 : Nat) : Int) u = upd nxt v l u := grow u e
      rw [e2] at hb
      have hbw := hd_lt hn (mem_arcsL.1 (List.mem_of_mem_take hb)).1
      obtain ⟨h1, h2⟩ := d2 u hu b hb hr hlb
      exact ⟨h1, len _ hbw h2⟩
  refine ifP_of (fun h2 => ?_) (fun h2 => step fun h => of_decide_eq_false h2 h.1)
  have h2 := of_decide_eq_true h2
  refine ptrP_mk (ptrP_mk ⟨_, k5.ld rfl, k7.rdI hw ⟨_, k5.ld rfl, k7.rdI hv ?_⟩⟩)
  have ew : IntKind.i64.wrap (lev v + 1) = lev v + 1 := w64_in (by omega) (by omega)
  rw [ew]
  refine ifP_of (fun h3 => ?_) (fun h3 => step fun h => of_decide_eq_false h3 h.2)
  have h3 := of_decide_eq_true h3
  have hl2' : lev (hdA fr to a) = lev0 (hdA fr to a) := by
    rcases I2.al _ hw with h | ⟨h1, _⟩
    · exact h
    · omega
  have er := I2.room_eq hn hv hvia ha.1 ha.2 (by omega)
  refine ptrP_mk ⟨_, k5.ld rfl, k6.setI hv ?_⟩
  intro g52 F2 k6
  have N := P.net
  have Fo := P.fo_.of F2 (by rw [P.o9]; simp) (by rw [P.o11]; simp)
  have N := N.fm F2 (by simp <;> omega)
  have k5 := k5.fm F2 (by simp <;> omega)
  have k7 := k7.fm F2 (by simp <;> omega)
  have k8 := k8.fm F2 (by simp <;> omega)
  obtain ⟨vto, vroom, vout, outs, q4, q1, q2, q3, qa⟩ := N.ex
  refine ptrP_mk (ptrP_mk ⟨_, k5.ld rfl, _, k5.ld rfl, ptrP_mk ⟨_, q4.ld rfl, q2.rdI ha.1 ?_⟩⟩)
  refine (Link_T Fo v (hdA fr to a : Nat) (room a)).mono ?_
  rintro _ g62 ⟨kp, c, par', tv', rfl, L, Fo2⟩
  refine rt_ret ⟨c, rfl, ?_⟩
  have b2 := rm_bd I.rmE hc a ha.1
  have hL : par' = upd par v (hdA fr to a : Nat) ∧ tv' = upd tv v (E a) := by
    have i1 := isN_of hv
    have i2 := isN_of hw
    have i3 : isL (room a) := by unfold isL; omega
    have i5 : ¬ Rt par (hdA fr to a) v := fun r => by
      have := (I2.rt_lev hn hw r).1
      omega
    cases L with
    | node h => exact absurd ⟨i1, i2⟩ h
    | label _ _ h => exact absurd i3 h
    | root _ _ _ h => rw [Int.toNat_natCast] at h; exact absurd hpar h
    | cycle _ _ _ _ h => rw [Int.toNat_natCast, Int.toNat_natCast] at h; exact absurd h i5
    | ok => rw [Int.toNat_natCast, er]; exact ⟨rfl, rfl⟩
  obtain ⟨rfl, rfl⟩ := hL
  have F3 : Fm [11] own g52 own g62 := Fm.kp kp P.o11 Fo2.some_
  have N := N.fm F3 (by simp <;> omega)
  have k5 := k5.fm F3 (by simp <;> omega)
  have k6 := k6.fm F3 (by simp <;> omega)
  have k7 := k7.fm F3 (by simp <;> omega)
  have k8 := k8.fm F3 (by simp <;> omega)
  refine ⟨true, l, _, _, _, rfl, (F.trans (F2.mono (by simp))).trans (F3.mono (by simp)), ⟨N, ⟨vv, vl, vn, k5, k6, k7, k8⟩, Fo2, P.o9, P.o11⟩, ?_, hl1, by omega, hd, .inr ⟨rfl, a, by omega, rfl, rfl, rfl⟩⟩
  refine ⟨I2.rmE, I2.rmR, fun u hu => ?_, fun b hb hno => ?_, I2.nb, I2.al⟩
  · by_cases e : u = v
    · subst e
      exact .inr ⟨a, upd_at, ha.1, ha.2, ⟨l, upd_at, hget⟩, upd_at, upd_at, hlv, hl2', by omega, hl0⟩
    · rcases I2.lk u hu with h | ⟨b, g⟩
      · exact .inl ⟨(upd_ne e).trans h.1, (upd_ne e).trans h.2⟩
      · exact .inr ⟨b, (upd_ne e).trans g.via_, g.am, g.tl, g.nx, (upd_ne e).trans g.par_, (upd_ne e).trans g.tv_, g.l1, g.l2, g.l3, g.l4⟩
  · refine I2.eq b hb fun u hu => ?_
    by_cases e : u = v
    · subst e; rw [hvia]; omega
    · have := hno u hu
      rwa [upd_ne e] at this
end

end Go.Proofs.YtdcamadeblojdaaGreat

namespace Go.Proofs.YtdcamadeblojdaaGreat
open Go
set_option linter.unusedVariables false
set_option linter.unusedSimpArgs false

/-- What goes along a way. -/
def sndL (E : Nat → Int) (via : Nat → Int) (x : Int) : List Nat → (Nat → Int)
  | [] => E
  | v :: l => if l = [] then E else sndR (sndL E via x l) (via v).toNat x

theorem UpW.nx_par {par : Nat → Int} {v : Nat} {l : List Nat} (h : UpW par v l) : ∀ {A B : List Nat} {a y : Nat}, l = A ++ a :: y :: B → par a = y := by
  induction h with
  | root h =>
    intro A B a y e
    have := congrArg List.length e
    simp at this; omega
  | @step v u l h k ih =>
    intro A B a y e
    cases A with
    | nil =>
      injection e with e1 e2
      subst e1
      obtain ⟨m, hm⟩ := k.head
      rw [hm] at e2
      injection e2 with e3 _
      subst e3; exact h
    | cons b A =>
      injection e with e1 e2
      exact ih e2
theorem UpW.cutA {par : Nat → Int} {v : Nat} {l : List Nat} (h : UpW par v l) : ∀ {A B : List Nat} {a : Nat}, l = A ++ a :: B → a ∉ A → UpW (upd par a (-1)) v (A ++ [a]) := by
  induction h with
  | @root v h =>
    intro A B a e hn
    cases A with
    | nil =>
      injection e with e1 e2
      subst e1
      exact .root upd_at
    | cons b A =>
      have := congrArg List.length e
      simp at this
  | @step v u l h k ih =>
    intro A B a e hn
    cases A with
    | nil =>
      injection e with e1 e2
      subst e1
      exact .root upd_at
    | cons b A =>
      injection e with e1 e2
      subst e1
      have ne : v ≠ a := fun h => hn (by simp [h])
      exact .step (by rw [upd_ne ne]; exact h) (ih e2 fun h => hn (List.mem_cons_of_mem _ h))

theorem UpW.pair {n : Nat} {par : Nat → Int} {d : Nat → Nat} (hd : ∀ v u : Nat, v < n → par v = u → d u < d v) {v : Nat} {l : List Nat} (a : UpW par v l) :
    (∀ x ∈ l, x < n) → l.Pairwise (fun a b => d b < d a) ∧ ∀ x ∈ l, d x ≤ d v := by
  induction a with
  | root h => intro hl; exact ⟨List.pairwise_singleton .., fun x hx => by rw [List.mem_singleton.1 hx]; exact Nat.le_refl _⟩
  | @step v u l h a ih =>
    intro hl
    obtain ⟨h1, h2⟩ := ih (fun x hx => hl x (List.mem_cons_of_mem _ hx))
    have := hd v u (hl v (by simp)) h
    refine ⟨List.Pairwise.cons (fun x hx => ?_) h1, fun x hx => ?_⟩
    · have := h2 x hx; omega
    · rcases List.mem_cons.1 hx with rfl | hx
      · exact Nat.le_refl _
      · have := h2 x hx; omega
theorem UpW.lt {n : Nat} {par tv : Nat → Int} (F : Fst n par tv) {v : Nat} {l : List Nat} (hv : v < n) (a : UpW par v l) : ∀ x ∈ l, x < n := by
  obtain ⟨l', h1, h2⟩ := UpW.exists F v hv
  rw [a.uniq h1]; exact h2
theorem UpW.nodup {n : Nat} {par tv : Nat → Int} (F : Fst n par tv) {v : Nat} {l : List Nat} (hv : v < n) (a : UpW par v l) : l.Nodup := by
  obtain ⟨d, hd⟩ := F.acy
  refine (a.pair hd (a.lt F hv)).1.imp ?_
  intro a b h e
  subst e
  omega
section
variable {n m s t : Nat} {fr to : Nat → Nat} {cap lev0 lev E room nxt via par tv : Nat → Int}
theorem TrI.up_lev (I : TrI n m fr to cap s t lev0 lev E room nxt via par tv) (hn : ∀ i, i < m → fr i < n ∧ to i < n) {w : Nat} {l : List Nat} (h : UpW par w l) : w < n → ∀ x ∈ l, lev0 w ≤ lev0 x ∧ x < n := by
  induction h with
  | @root w h => intro hw x hx; rw [List.mem_singleton] at hx; subst hx; exact ⟨Int.le_refl _, hw⟩
  | @step v u l h k ih =>
    intro hv x hx
    obtain ⟨a, g⟩ := I.hgp hv (by rw [h]; omega)
    have e : u = hdA fr to a := by have := g.par_; omega
    have hu : u < n := by rw [e]; exact hd_lt hn g.am
    have := g.l3
    rw [← e] at this
    rcases List.mem_cons.1 hx with rfl | hx
    · exact ⟨Int.le_refl _, hv⟩
    · have := ih hu x hx
      exact ⟨by omega, this.2⟩

structure SndR (n m : Nat) (fr to : Nat → Nat) (cap : Nat → Int) (E E' via par : Nat → Int) (x : Int) (v r : Nat) (l : List Nat) : Prop where
  rm : RmP m cap E'
  out : ∀ u, OutF m fr to (onR E') u = OutF m fr to (onR E) u + (if v = u then x else 0) - (if r = u then x else 0)
  off : ∀ b : Nat, (∀ w ∈ l, via w ≠ b ∧ via w ≠ prA b) → E' b = E b
  at_ : ∀ w ∈ l, par w ≠ -1 → ∀ a : Nat, via w = a → E' a = E a - x
theorem TrI.sndL (I : TrI n m fr to cap s t lev0 lev E room nxt via par tv) (hn : ∀ i, i < m → fr i < n ∧ to i < n) {x : Int} (hx : 0 ≤ x) {v : Nat} {l : List Nat} (h : UpW par v l) :
    v < n → (∀ w ∈ l, par w ≠ -1 → x ≤ tv w) → ∀ r, l.getLast? = some r → SndR n m fr to cap E (sndL E via x l) via par x v r l := by
  induction h with
  | @root v h =>
    intro hv hl r hr
    have hr : v = r := by simpa using hr
    subst hr
    have e : Go.Proofs.YtdcamadeblojdaaGreat.sndL E via x [v] = E := rfl
    rw [e]
    exact ⟨I.rmE, fun u => by omega, fun _ _ => rfl, fun w hw hp => by rw [List.mem_singleton] at hw; subst hw; exact absurd h hp⟩
  | @step v u l h k ih =>
    intro hv hl r hr
    obtain ⟨a, g⟩ := I.hgp hv (by rw [h]; omega)
    have e : u = hdA fr to a := by have := g.par_; omega
    have hu : u < n := by rw [e]; exact hd_lt hn g.am
    have hlast : l.getLast? = some r := by
      obtain ⟨r', h3, _⟩ := k.last
      rw [List.getLast?_cons, h3] at hr
      rw [h3]
      simpa using hr
    have S := ih hu (fun w hw => hl w (List.mem_cons_of_mem _ hw)) r hlast
    have hne : l ≠ [] := by intro h; rw [h] at hlast; cases hlast
    have e2 : Go.Proofs.YtdcamadeblojdaaGreat.sndL E via x (v :: l) = sndR (Go.Proofs.YtdcamadeblojdaaGreat.sndL E via x l) a x := by
      show (if l = [] then E else _) = _
      rw [if_neg hne, g.via_, Int.toNat_natCast]
    rw [e2]
    generalize Go.Proofs.YtdcamadeblojdaaGreat.sndL E via x l = E1 at S ⊢
    have up := I.up_lev hn k hu
    have hnv : ∀ w ∈ l, w ≠ v := by
      rintro w hw rfl
      have := (up w hw).1
      have := g.l3
      rw [e] at *
      omega
    have off : ∀ w ∈ l, via w ≠ (a : Int) ∧ via w ≠ (prA a : Nat) := by
      intro w hw
      rcases I.lk w (up w hw).2 with h2 | ⟨b, g2⟩
      · rw [h2.1]; omega
      · have := g.ne g2 (hnv w hw).symm
        rw [g2.via_]; omega
    have ea : E1 a = E a := S.off a off
    have eap : E1 (prA a) = E (prA a) := S.off (prA a) (by rw [prA_pr]; exact fun w hw => ⟨(off w hw).2, (off w hw).1⟩)
    have hxa := hl v (List.mem_cons_self ..) (by rw [h]; omega)
    rw [g.tv_] at hxa
    have hxv : ∀ u, u = hdA fr to a ↔ hdA fr to a = u := fun u => ⟨Eq.symm, Eq.symm⟩
    refine ⟨S.rm.snd g.am hx (by omega), fun w => ?_, fun b hb => ?_, fun w hw hp b hwb => ?_⟩
    · rw [out_snd g.am, S.out, g.tl, ← e]
      split <;> split <;> split <;> omega
    · have h1 := hb v (List.mem_cons_self ..)
      rw [g.via_] at h1
      have h2 : b ≠ a := by omega
      have h3 : b ≠ prA a := by
        rintro rfl
        rw [prA_pr] at h1; omega
      rw [sndR_o h2 h3]
      exact S.off b fun w hw => hb w (List.mem_cons_of_mem _ hw)
    · by_cases ew : w = v
      · subst ew
        have : b = a := by have := g.via_; omega
        subst this
        rw [sndR_a, ea]
      · have hwl : w ∈ l := by
          rcases List.mem_cons.1 hw with h | h
          · exact absurd h ew
          · exact h
        obtain ⟨c, g2⟩ := I.hgp (up w hwl).2 hp
        have : b = c := by have := g2.via_; omega
        subst this
        have := g.ne g2 (fun h => ew h.symm)
        rw [sndR_o this.1 this.2]
        exact S.at_ w hwl hp b hwb
end

section
variable {own : Own} {h : H} {bt bn bf bg n m s t : Nat} {fr to : Nat → Nat} {cap lev0 lev E room nxt via par tv : Nat → Int}
theorem push_T' (P : Tr own h bt bn bf bg n m fr to s t room lev nxt via par tv) (I : TrI n m fr to cap s t lev0 lev E room nxt via par tv) (hc : ∀ i, i < m → cap i ≤ 1048576)
    (hn : ∀ i, i < m → fr i < n ∧ to i < n) (m1 : m ≤ 4096) (n1 : n ≤ 1024) (hs : s < n) (hst : s ≠ t) (hpos : ∀ v, v < n → par v ≠ -1 → 0 < tv v) (hR : Rt par s t) :
    T Tryz.prog F.maxflow_trees_push [.pointer (some (bk bt))] h fun r h' => ∃ E' room' nxt' via' par' tv' x, r = .ret (.tuple ⟨[]⟩) ∧ Fm [2, 6, 8, 11] own h own h' ∧
      Tr own h' bt bn bf bg n m fr to s t room' lev nxt' via' par' tv' ∧ TrI n m fr to cap s t lev0 lev E' room' nxt' via' par' tv' ∧ (∀ v, v < n → par' v ≠ -1 → 0 < tv' v) ∧
      0 < x ∧ (∀ u, OutF m fr to (onR E') u = OutF m fr to (onR E) u + (if s = u then x else 0) - (if t = u then x else 0)) ∧ Phi3 n m fr to nxt' < Phi3 n m fr to nxt := by
  refine E_maxflow_trees_push ?_
  unfold B_maxflow_trees_push
  obtain ⟨vv, vl, vn, k5, _, _, _⟩ := P.ex
  obtain ⟨vto, vroom, vout, outs, q4, _, _, _, _⟩ := P.net.ex
  have hps : par s ≠ -1 := fun h => hst ((hR.self_iff).2 h).symm
  refine ptrP_mk (ptrP_mk ⟨_, k5.ld rfl, _, k5.ld rfl, ptrP_mk ⟨_, q4.ld rfl, ?_⟩⟩)
  refine (Least_T P.fo_ s).mono ?_
  rintro _ g8 ⟨kp, Q, a0, m0, c0, rfl, LS⟩
  refine rt_ret ⟨_, _, _, rfl, ?_⟩
  obtain ⟨F1, P1⟩ := P.kp kp Q
  clear kp Q k5 q4
  have hx : 0 < m0 ∧ ∃ l, UpW par s l ∧ l.getLast? = some t ∧ (∀ w ∈ l, par w ≠ -1 → m0 ≤ tv w) ∧ ∃ a, a ∈ l ∧ par a ≠ -1 ∧ tv a = m0 := by
    cases LS with
    | bad h => rw [childC_nat hs, if_neg hps] at h; exact absurd rfl h
    | @ok A B a0 r h1 h2 h3 h4 =>
      rw [Int.toNat_natCast] at h2
      have hlast : (A ++ a0 :: B ++ [r]).getLast? = some r := List.getLast?_concat
      have hr : r = t := (Rt.uniq ⟨_, h2, hlast⟩ hR)
      have hpr : par r = -1 := by
        obtain ⟨r', e1, e2⟩ := h2.last
        rw [hlast] at e1; cases e1; exact e2
      have hpa : par a0 ≠ -1 := by
        obtain ⟨y, ys, e⟩ : ∃ y ys, B ++ [r] = y :: ys := by cases B <;> exact ⟨_, _, rfl⟩
        have := h2.nx_par (A := A) (B := ys) (a := a0) (y := y) (by rw [List.append_assoc, List.cons_append, e])
        omega
      have han : a0 < n := (I.up_lev hn h2 hs a0 (by simp)).2
      refine ⟨hpos a0 han hpa, _, h2, by rw [hlast, hr], fun w hw hp => ?_, a0, by simp, hpa, rfl⟩
      simp only [List.mem_append, List.mem_cons, List.mem_nil_iff, or_false] at hw
      rcases hw with (hw | rfl | hw) | rfl
      · exact h3 w hw
      · exact Int.le_refl _
      · have := h4 w hw; omega
      · exact absurd hpr hp
  obtain ⟨hm0, l, hU, hlast, hmin, a1, ha1, hpa1, hta1⟩ := hx
  have han : ∀ w ∈ l, w < n := fun w hw => (I.up_lev hn hU hs w hw).2
  have hb0 : m0 ≤ 1048576 := by
    obtain ⟨b, g⟩ := I.hgp (han a1 ha1) hpa1
    have := rm_bd I.rmE hc b g.am
    rw [← g.tv_, hta1] at this; exact this.2
  obtain ⟨vv, vl, vn, k5, _, _, _⟩ := P1.ex
  obtain ⟨vto, vroom, vout, outs, q4, _, _, _, _⟩ := P1.net.ex
  refine ptrP_mk (ptrP_mk ⟨_, k5.ld rfl, _, k5.ld rfl, ptrP_mk ⟨_, q4.ld rfl, ?_⟩⟩)
  have ew : IntKind.i64.wrap (0 - m0) = - m0 := by
    have : IntKind.i64.wrap (0 - m0) = 0 - m0 := w64_in (by omega) (by omega)
    rw [this]; omega
  rw [ew]
  have tvb : ∀ w, w < n → 0 ≤ tv w ∧ tv w ≤ 1048576 := by
    intro w hw
    rcases I.lk w hw with h | ⟨b, g⟩
    · rw [P.fo_.fst.zero w hw h.2]; omega
    · have := rm_bd I.rmE hc b g.am
      rw [g.tv_]; exact this
  refine (Add_T P1.fo_ s (-m0) (fun _ w hw => by have := tvb w hw; omega)).mono ?_
  rintro _ g19 ⟨kp, c2, tv2, rfl, AS, Q⟩
  refine rt_ret ⟨c2, rfl, ?_⟩
  have htv2 : tv2 = addT tv (edges par l) (-m0) := by
    cases AS with
    | node h => exact absurd (isN_of hs) h
    | label _ h => exact absurd (by unfold isL; omega) h
    | ok _ _ h => rw [Int.toNat_natCast] at h; rw [hU.uniq h]
  subst htv2
  obtain ⟨F2, P2⟩ := P1.kp kp Q
  have F := (F1.mono (M' := [2, 6, 8, 11]) (by simp)).trans (F2.mono (by simp))
  clear F1 F2 kp Q k5 q4 P1 AS LS
  have S := I.sndL hn (by omega) hU hs hmin t hlast
  generalize sndL E via m0 l = E2 at S
  have mem_e : ∀ w, w ∈ edges par l ↔ w ∈ l ∧ par w ≠ -1 := by
    intro w; unfold edges; simp
  have I2 : TrI n m fr to cap s t lev0 lev E2 room nxt via par (addT tv (edges par l) (-m0)) := by
    refine ⟨S.rm, I.rmR, fun w hw => ?_, fun b hb hno => ?_, I.nb, I.al⟩
    · rcases I.lk w hw with h | ⟨b, g⟩
      · exact .inl h
      · refine .inr ⟨b, g.via_, g.am, g.tl, g.nx, g.par_, ?_, g.l1, g.l2, g.l3, g.l4⟩
        unfold addT
        by_cases hwl : w ∈ l
        · rw [if_pos ((mem_e w).2 ⟨hwl, g.par_ne⟩), S.at_ w hwl g.par_ne b g.via_, g.tv_]; omega
        · rw [if_neg (fun h => hwl ((mem_e w).1 h).1), g.tv_]
          refine (S.off b fun y hy => ?_).symm
          rcases I.lk y (han y hy) with h2 | ⟨c, g2⟩
          · rw [h2.1]; omega
          · have := g.ne g2 (by rintro rfl; exact hwl hy)
            rw [g2.via_]
            have h3 : c ≠ prA b := this.2
            omega
    · rw [I.eq b hb hno]
      exact (S.off b fun y hy => hno y (han y hy)).symm
  -- the loop
  let J : Unit → H → Nat → Prop := fun _ q k => ∃ room' nxt' via' par' tv', k = (Phi3 n m fr to nxt').toNat ∧ Fm [2, 6, 8, 11] own h own q ∧ Tr own q bt bn bf bg n m fr to s t room' lev nxt' via' par' tv' ∧
    TrI n m fr to cap s t lev0 lev E2 room' nxt' via' par' tv' ∧ (∀ w, w < n → par' w ≠ -1 → 0 ≤ tv' w ∧ (0 < tv' w ∨ ∃ l, UpW par' s l ∧ w ∈ l)) ∧
    (Phi3 n m fr to nxt' < Phi3 n m fr to nxt ∨ (nxt' = nxt ∧ par' s ≠ -1 ∧ ∃ l, UpW par' s l ∧ ∃ a, a ∈ l ∧ par' a ≠ -1 ∧ tv' a ≤ 0))
  refine ⟨fun p q => ∃ k, J p q k, rk J, rk_wf J, ⟨_, room, nxt, via, par, _, rfl, F, P2, I2, ?_, .inr ⟨rfl, hps, l, hU, a1, ha1, hpa1, ?_⟩⟩, ?_⟩
  · intro w hw hp
    have := hpos w hw hp
    unfold addT
    by_cases h : w ∈ edges par l
    · rw [if_pos h]
      have h := (mem_e w).1 h
      have := hmin w h.1 hp
      exact ⟨by omega, .inr ⟨l, hU, h.1⟩⟩
    · rw [if_neg h]; exact ⟨by omega, .inl this⟩
  · unfold addT
    rw [if_pos ((mem_e a1).2 ⟨ha1, hpa1⟩)]; omega
  clear P2 I2 F
  intro q hJ
  obtain ⟨room', nxt', via', par', tv', hk, F, P2, I2, hpt, hpr⟩ := mu_spec hJ
  generalize hkk : mu J ((), q) = km at *
  have hphi : 0 ≤ Phi3 n m fr to nxt' := sumN_nonneg fun u hu => by have := I2.nb u hu; omega
  have hltf : ∀ z : Nat, (z : Int) < Phi3 n m fr to nxt' → z < mu J ((), q) := fun z h => by rw [hkk, hk]; omega
  clear hJ
  obtain ⟨vv, vl, vn, k5, _, _, _⟩ := P2.ex
  obtain ⟨vto, vroom, vout, outs, q4, _, _, _, _⟩ := P2.net.ex
  refine ptrP_mk (ptrP_mk ⟨_, k5.ld rfl, _, k5.ld rfl, ptrP_mk ⟨_, q4.ld rfl, ?_⟩⟩)
  refine (Least_T P2.fo_ s).mono ?_
  rintro _ g31 ⟨kp, Q, a2, m2, c2, rfl, LS⟩
  refine rt_ret ⟨_, _, _, rfl, ?_⟩
  obtain ⟨F1, P3⟩ := P2.kp kp Q
  have F := F.trans (F1.mono (by simp))
  clear kp Q k5 q4
  cases LS with
  | bad hbad =>
    refine ifP_of (fun _ => ?_) (fun h => absurd (by simpa using h) hbad)
    have hroot : par' s = -1 := by
      rw [childC_nat hs] at hbad
      apply Classical.byContradiction
      intro h; rw [if_neg h] at hbad; exact hbad rfl
    refine ⟨E2, room', nxt', via', par', tv', m0, rfl, F, P3, I2, fun w hw hp => ?_, hm0, S.out, ?_⟩
    · rcases (hpt w hw hp).2 with h | ⟨l', h1, h2⟩
      · exact h
      · rw [h1.uniq (.root hroot), List.mem_singleton] at h2
        subst h2
        exact absurd hroot hp
    · rcases hpr with h | ⟨_, h, _⟩
      · exact h
      · exact absurd hroot h
  | @ok A B a2 r h1 h2 h3 h4 =>
    rw [Int.toNat_natCast] at h2
    refine ifP_of (fun h => by simp at h) (fun _ => ?_)
    have hlast2 : (A ++ a2 :: B ++ [r]).getLast? = some r := List.getLast?_concat
    have hprr : par' r = -1 := by
      obtain ⟨r', e1, e2⟩ := h2.last
      rw [hlast2] at e1; cases e1; exact e2
    have hpa : par' a2 ≠ -1 := by
      obtain ⟨y, ys, e⟩ : ∃ y ys, B ++ [r] = y :: ys := by cases B <;> exact ⟨_, _, rfl⟩
      have := h2.nx_par (A := A) (B := ys) (a := a2) (y := y) (by rw [List.append_assoc, List.cons_append, e])
      omega
    have ha2n : a2 < n := (I2.up_lev hn h2 hs a2 (by simp)).2
    have hmin2 : ∀ w, w ∈ A ++ a2 :: B ++ [r] → par' w ≠ -1 → tv' a2 ≤ tv' w := by
      intro w hw hp
      simp only [List.mem_append, List.mem_cons, List.mem_nil_iff, or_false] at hw
      rcases hw with (hw | rfl | hw) | rfl
      · exact h3 w hw
      · exact Int.le_refl _
      · have := h4 w hw; omega
      · exact absurd hprr hp
    refine ifP_of (fun hp0 => ?_) (fun hp0 => ?_)
    · have hp0 := of_decide_eq_true hp0
      refine ⟨E2, room', nxt', via', par', tv', m0, rfl, F, P3, I2, fun w hw hp => ?_, hm0, S.out, ?_⟩
      · rcases (hpt w hw hp).2 with h | ⟨l', e1, e2⟩
        · exact h
        · rw [e1.uniq h2] at e2
          have := hmin2 w e2 hp
          omega
      · rcases hpr with h | ⟨_, _, l', e1, a, e2, e3, e4⟩
        · exact h
        · rw [e1.uniq h2] at e2
          have := hmin2 a e2 e3
          omega
    · have hp0 := of_decide_eq_false hp0
      have hz : tv' a2 = 0 := by have := (hpt a2 ha2n hpa).1; omega
      obtain ⟨b, g⟩ := I2.hgp ha2n hpa
      refine (drop_T P3 I2 hc m1 ha2n g).mono ?_
      rintro _ g36 ⟨rfl, F2, P4⟩
      refine rt_ret ⟨rfl, ?_⟩
      have I4 := I2.drop ha2n g
      obtain ⟨ln, hln, hget⟩ := g.nx
      have hlt2 := (List.getElem?_eq_some_iff.1 hget).1
      have hlen := arcsL_length (fr := fr) (to := to) (v := a2) (i := m)
      obtain ⟨vv, vl, vn, k5, k6, k7, k8⟩ := P4.ex
      refine ptrP_mk ⟨_, k5.ld rfl, k8.rdI ha2n ?_⟩
      rw [hln, i64_inc (by omega)]
      refine k8.setI ha2n ?_
      intro g42 F3 k8
      have N := P4.net
      have Fo := P4.fo_.of F3 (by rw [P4.o9]; simp) (by rw [P4.o11]; simp)
      have N := N.fm F3 (by simp <;> omega)
      have k5 := k5.fm F3 (by simp <;> omega)
      have k6 := k6.fm F3 (by simp <;> omega)
      have k7 := k7.fm F3 (by simp <;> omega)
      have I5 := I4.adv (v := a2) upd_at g.l1 g.l4 (y := ((ln + 1 : Nat) : Int)) (by omega) (by omega)
      have e3 := Phi3_upd (n := n) (m := m) (fr := fr) (to := to) (nxt := nxt') (y := ((ln + 1 : Nat) : Int)) ha2n
      rw [hln] at e3
      have hphi2 : 0 ≤ Phi3 n m fr to (upd nxt' a2 ((ln + 1 : Nat) : Int)) := sumN_nonneg fun u hu => by have := I5.nb u hu; omega
      refine mu_next (I := J) (k := (Phi3 n m fr to (upd nxt' a2 ((ln + 1 : Nat) : Int))).toNat) ⟨_, _, _, _, _, rfl, (F.trans (F2.mono (by simp))).trans (F3.mono (by simp)), ⟨N, ⟨vv, vl, vn, k5, k6, k7, k8⟩, Fo, P4.o9, P4.o11⟩, I5, ?_, .inl ?_⟩ (hltf _ (by omega))
      · intro w hw hp
        have ne : w ≠ a2 := by
          rintro rfl
          rw [upd_at] at hp; exact hp rfl
        rw [upd_ne ne] at hp ⊢
        refine ⟨(hpt w hw hp).1, ?_⟩
        rcases (hpt w hw hp).2 with h | ⟨l', e1, e2⟩
        · exact .inl h
        · rw [e1.uniq h2] at e2
          simp only [List.mem_append, List.mem_cons, List.mem_nil_iff, or_false] at e2
          rcases e2 with (e2 | e2 | e2) | e2
          · refine .inr ⟨A ++ [a2], h2.cutA (B := B ++ [r]) (by simp) ?_, List.mem_append_left _ e2⟩
            intro hm
            have hnd := h2.nodup P2.fo_.fst hs
            rw [List.append_assoc, List.nodup_append] at hnd
            exact hnd.2.2 a2 hm a2 (by simp) rfl
          · exact absurd e2 ne
          · have := h4 w e2
            exact .inl (by omega)
          · subst e2; exact absurd hprr hp
      · rcases hpr with h | ⟨h, _⟩
        · omega
        · subst h; omega
end

end Go.Proofs.YtdcamadeblojdaaGreat

namespace Go.Proofs.YtdcamadeblojdaaGreat
open Go
set_option linter.unusedVariables false
set_option linter.unusedSimpArgs false

theorem Fm.new2 {M : List Nat} {own : Own} {h h' : H} {b c i j : Nat} (x : Ext h h') (hb : h b = none) (hc : h c = none) : Fm M own h (own1 (own1 own b i) c j) h' :=
  ⟨fun k o e _ => x k o e, fun k o e => ⟨⟨o, x k o e⟩, by
    rw [own1_ne (by rintro rfl; rw [hc] at e; cases e), own1_ne (by rintro rfl; rw [hb] at e; cases e)]⟩⟩
theorem cntN_neg {n w : Nat} {lev : Nat → Int} {x : Int} (hw : w < n) (h : 0 ≤ lev w) (hx : x < 0) : cntN n (upd lev w x) = cntN n lev + 1 := by
  unfold cntN
  have e : (fun v => if upd lev w x v < 0 then (1 : Int) else 0) = upd (fun v => if lev v < 0 then 1 else 0) w 1 := by
    funext v
    unfold upd
    by_cases h1 : v = w
    · rw [if_pos h1, if_pos h1, if_pos hx]
    · rw [if_neg h1, if_neg h1]
  rw [e, sumN_upd hw, if_neg (by omega)]; omega
theorem cntN_le {n : Nat} {lev : Nat → Int} : cntN n lev ≤ n := by
  have := sumN_bd (k := n) (c := 1) (f := fun v => if lev v < 0 then (1 : Int) else 0) fun u _ => by split <;> omega
  unfold cntN; omega

section
variable {n m s t : Nat} {fr to : Nat → Nat} {cap lev0 lev E room nxt via par tv : Nat → Int}
theorem TrI.rt_alive (I : TrI n m fr to cap s t lev0 lev E room nxt via par tv) (hn : ∀ i, i < m → fr i < n ∧ to i < n) {w : Nat} {l : List Nat} (h : UpW par w l) : w < n → ∀ r, l.getLast? = some r →
    r = w ∨ ∃ u a, Hg n m fr to lev0 lev E nxt via par tv u a ∧ hdA fr to a = r := by
  induction h with
  | @root w h => intro hw r hr; exact .inl (by simpa using hr.symm)
  | @step v u l h k ih =>
    intro hv r hr
    obtain ⟨a, g⟩ := I.hgp hv (by rw [h]; omega)
    have e : u = hdA fr to a := by have := g.par_; omega
    have hu : u < n := by rw [e]; exact hd_lt hn g.am
    have hlast : l.getLast? = some r := by
      obtain ⟨r', h3, _⟩ := k.last
      rw [List.getLast?_cons, h3] at hr
      rw [h3]
      simpa using hr
    rcases ih hu r hlast with h | h
    · subst h
      exact .inr ⟨v, a, g, e.symm⟩
    · exact .inr h
theorem TrI.out_eq (I : TrI n m fr to cap s t lev0 lev E room nxt via par tv) (h : ∀ v, v < n → via v = -1) (u : Nat) : OutF m fr to (onR room) u = OutF m fr to (onR E) u := by
  refine sumN_congr fun i hi => ?_
  have : onR room i = onR E i := by
    unfold onR
    exact I.eq _ (by omega) fun v hv => by rw [h v hv]; omega
  rw [this]
/-- One step on, where what was there is done with. -/
theorem DdP.adv (d : DdP n m fr to t lev0 E nxt) (hn : ∀ i, i < m → fr i < n ∧ to i < n) {v l a : Nat} (hv : v < n) (hl : nxt v = l) (hget : (arcsL fr to m v)[l]? = some a) (hne : hdA fr to a ≠ v)
    (hd : hdA fr to a ≠ t ∧ nxt (hdA fr to a) = (arcsL fr to m (hdA fr to a)).length) : DdP n m fr to t lev0 E (upd nxt v ((l + 1 : Nat) : Int)) := by
  have hla := (List.getElem?_eq_some_iff.1 hget).1
  have hgl := (List.getElem?_eq_some_iff.1 hget).2
  have len : ∀ w, nxt w = (arcsL fr to m w).length → upd nxt v ((l + 1 : Nat) : Int) w = (arcsL fr to m w).length := by
    intro w e
    by_cases e2 : w = v
    · subst e2; omega
    · rw [upd_ne e2]; exact e
  intro u hu b hb hr hlb
  by_cases e : u = v
  · subst e
    rw [upd_at, Int.toNat_natCast, List.take_succ_eq_append_getElem hla, hgl] at hb
    rcases List.mem_append.1 hb with hb | hb
    · obtain ⟨h1, h2⟩ := d u hu b (by rw [hl, Int.toNat_natCast]; exact hb) hr hlb
      exact ⟨h1, len _ h2⟩
    · have : b = a := by rw [List.mem_singleton] at hb; exact hb
      subst this
      exact ⟨hd.1, len _ hd.2⟩
  · rw [upd_ne e] at hb
    obtain ⟨h1, h2⟩ := d u hu b hb hr hlb
    exact ⟨h1, len _ h2⟩
end

/-- How far a phase has come. -/
def PhT (n m : Nat) (fr to : Nat → Nat) (lev nxt via : Nat → Int) : N4 := ((n - cntN n lev).toNat, (Phi3 n m fr to nxt).toNat, (cntN n via).toNat, 0)

section
variable {own : Own} {h : H} {bt bn n m s t : Nat} {fr to : Nat → Nat} {cap lev0 room0 : Nat → Int}
theorem phase_T (hc : ∀ i, i < m → cap i ≤ 1048576) (hn : ∀ i, i < m → fr i < n ∧ to i < n) (m1 : m ≤ 4096) (n1 : n ≤ 1024) (hs : s < n) (ht : t < n) (hst : s ≠ t) {x1 x2 x4 vl : Value}
    (N : Net own h bn n m fr to s t room0) (B : B1 own h 5 bt [.pointer (some (bk bn)), x1, x2, vl, x4]) (k7 : S1 own h 7 vl (ints n lev0)) (F0 : FlS n m fr to cap s t room0) (L : LevP n m fr to room0 s lev0) (hlt : 0 ≤ lev0 t) :
    T Tryz.prog F.maxflow_trees_phase [.pointer (some (bk bt))] h fun r h' => ∃ own' room' x1 x2 x3 x4, r = .ret (.tuple ⟨[]⟩) ∧ Fm [2, 5, 6, 7, 8, 9, 11] own h own' h' ∧ Net own' h' bn n m fr to s t room' ∧
      B1 own' h' 5 bt [.pointer (some (bk bn)), x1, x2, x3, x4] ∧ FlS n m fr to cap s t room' ∧ OutF m fr to (onR room0) s < OutF m fr to (onR room') s := by
  refine E_maxflow_trees_phase ?_
  unfold B_maxflow_trees_phase
  obtain ⟨vto, vroom, vout, outs, q4, q1, q2, q3, qa⟩ := N.ex
  refine ptrP_mk ⟨_, B.ld rfl, ptrP_mk ⟨_, q4.ld rfl, q3.len (va_length _ _) fun _ _ => ?_⟩⟩
  clear q4 q1 q2 q3 qa
  refine (New_T h n).mono ?_
  rintro _ g9 ⟨x9, hN⟩
  rcases hN with ⟨hbad, _⟩ | ⟨_, _, bf, bg, rfl, hbf, hbg, Fo⟩
  · omega
  rw [Int.toNat_natCast] at Fo
  refine rt_ret ⟨_, _, rfl, ?_⟩
  have nfg := Fo.some2.2
  have F1 : Fm [] own h (own1 (own1 own bf 9) bg 11) g9 := Fm.new2 x9 hbf hbg
  have o9 : own1 (own1 own bf 9) bg 11 bf = 9 := by rw [own1_ne nfg, own1_at]
  have o11 : own1 (own1 own bf 9) bg 11 bg = 11 := own1_at
  have N := N.fm F1 (by simp <;> omega)
  have B := B.fm F1 (by simp <;> omega)
  have k7 := k7.fm F1 (by simp <;> omega)
  have F := F1.mono (M' := [2, 5, 6, 7, 8, 9, 11]) (by simp)
  generalize own1 (own1 own bf 9) bg 11 = own2 at *
  clear F1 hbf hbg x9
  refine ptrP_mk (oneP_ptr (B.st (by simp) ?_))
  intro g13 F1 B
  simp only [List.set] at B
  have Fo := Fo.of F1 (by rw [o9]; simp) (by rw [o11]; simp)
  have N := N.fm F1 (by simp <;> omega)
  have k7 := k7.fm F1 (by simp <;> omega)
  have F := F.trans (F1.mono (by simp))
  clear F1
  refine mk_ints 6 (by omega) (by omega) ?_
  intro b14 g15 hb14 x15 S6
  rw [Int.toNat_natCast]
  have k6 := S6 own2
  have F1 : Fm [] own2 g13 (own1 own2 b14 6) g15 := Fm.new x15 hb14
  have Fo' := Fo.of F1 (by simp) (by simp)
  have o9 := (F1.stay _ _ Fo.some2.1.choose_spec).2.trans o9
  have o11 := (F1.stay _ _ Fo.some_.choose_spec).2.trans o11
  clear Fo
  have Fo := Fo'
  clear Fo'
  have N := N.fm F1 (by simp <;> omega)
  have k7 := k7.fm F1 (by simp <;> omega)
  have B := B.fm F1 (by simp <;> omega)
  have F := F.trans (F1.mono (by simp))
  clear F1 S6
  generalize own1 own2 b14 6 = own3 at *
  refine ptrP_mk (B.st (by simp) ?_)
  intro g17 F1 B
  simp only [List.set] at B
  have Fo := Fo.of F1 (by rw [o9]; simp) (by rw [o11]; simp)
  have N := N.fm F1 (by simp <;> omega)
  have k7 := k7.fm F1 (by simp <;> omega)
  have k6 := k6.fm F1 (by simp <;> omega)
  have F := F.trans (F1.mono (by simp))
  clear F1
  refine mk_ints 8 (by omega) (by omega) ?_
  intro b18 g19 hb18 x19 S8
  have k8 := S8 own3
  have F1 : Fm [] own3 g17 (own1 own3 b18 8) g19 := Fm.new x19 hb18
  have Fo' := Fo.of F1 (by simp) (by simp)
  have o9 := (F1.stay _ _ Fo.some2.1.choose_spec).2.trans o9
  have o11 := (F1.stay _ _ Fo.some_.choose_spec).2.trans o11
  clear Fo
  have Fo := Fo'
  clear Fo'
  have N := N.fm F1 (by simp <;> omega)
  have k7 := k7.fm F1 (by simp <;> omega)
  have B := B.fm F1 (by simp <;> omega)
  have k6 := k6.fm F1 (by simp <;> omega)
  have F := F.trans (F1.mono (by simp))
  clear F1 S8
  generalize own1 own3 b18 8 = own4 at *
  refine ptrP_mk (B.st (by simp) ?_)
  intro g21 F1 B
  simp only [List.set] at B
  have Fo := Fo.of F1 (by rw [o9]; simp) (by rw [o11]; simp)
  have N := N.fm F1 (by simp <;> omega)
  have k7 := k7.fm F1 (by simp <;> omega)
  have k6 := k6.fm F1 (by simp <;> omega)
  have k8 := k8.fm F1 (by simp <;> omega)
  have F := F.trans (F1.mono (by simp))
  clear F1
  refine ptrP_mk ⟨_, B.ld rfl, k6.len (ints_length _ _) fun _ _ => ?_⟩
  -- via is -1
  let I27 : (Int × Unit) → H → Nat → Prop := fun p q k => ∃ i : Nat, p.1 = i ∧ i ≤ n ∧ k = n - i ∧ Fm [2, 5, 6, 7, 8, 9, 11] own h own4 q ∧ Net own4 q bn n m fr to s t room0 ∧
    B1 own4 q 5 bt [.pointer (some (bk bn)), fo bf, .slice (some (bk b14)) n n, vl, .slice (some (bk b18)) n n] ∧ S1 own4 q 6 (.slice (some (bk b14)) n n) (ints n fun v => if v < i then -1 else 0) ∧ S1 own4 q 7 vl (ints n lev0) ∧
    S1 own4 q 8 (.slice (some (bk b18)) n n) (ints n fun _ => 0) ∧ Forest q bf bg n (fun _ => -1) (fun _ => 0)
  refine ⟨fun p q => ∃ k, I27 p q k, rk I27, rk_wf I27, ⟨_, 0, rfl, by omega, rfl, F, N, B, by simpa using k6, k7, k8, Fo⟩, ?_⟩
  clear F N B k6 k7 k8 Fo
  intro p q hI
  obtain ⟨i, e1, hi, hk, F, N, B, k6, k7, k8, Fo⟩ := mu_spec hI
  generalize hkk : mu I27 ((p, ()), q) = km at *
  change p = (i : Int) at e1
  subst e1
  refine ifP_of (fun h1 => ?_) (fun h1 => ?_)
  · have him : i < n := by have := of_decide_eq_true h1; omega
    have hlt : n - (i + 1) < mu I27 (((i : Int), ()), q) := by rw [hkk, hk]; omega
    clear hI
    refine ptrP_mk ⟨_, B.ld rfl, k6.setI him ?_⟩
    intro g F1 k6
    have Fo := Fo.of F1 (by rw [o9]; simp) (by rw [o11]; simp)
    have N := N.fm F1 (by simp <;> omega)
    have B := B.fm F1 (by simp <;> omega)
    have k7 := k7.fm F1 (by simp <;> omega)
    have k8 := k8.fm F1 (by simp <;> omega)
    rw [i64_inc (by omega)]
    exact mu_next (I := I27) (k := n - (i + 1)) ⟨i + 1, rfl, him, rfl, F.trans (F1.mono (by simp)), N, B, by rw [upd_lt]; exact k6, k7, k8, Fo⟩ hlt
  have : i = n := by have := of_decide_eq_false h1; omega
  subst this
  clear hI hkk hk h1 hi
  have hvia : ints i (fun v => if v < i then (-1 : Int) else 0) = ints i fun _ => -1 := ints_ext fun v hv => if_pos hv
  rw [hvia] at k6
  have P : Tr own4 q bt bn bf bg i m fr to s t room0 lev0 (fun _ => 0) (fun _ => -1) (fun _ => -1) (fun _ => 0) := ⟨N, ⟨_, _, _, B, k6, k7, k8⟩, Fo, o9, o11⟩
  have I0 : TrI i m fr to cap s t lev0 lev0 room0 room0 (fun _ => 0) (fun _ => -1) (fun _ => -1) (fun _ => 0) :=
    ⟨F0.rm, F0.rm, fun _ _ => .inl ⟨rfl, rfl⟩, fun _ _ _ => rfl, fun u _ => ⟨Int.le_refl _, by omega⟩, fun _ _ => .inl rfl⟩
  have toB : ∀ {q : H} {room lev nxt via par tv : Nat → Int}, Tr own4 q bt bn bf bg i m fr to s t room lev nxt via par tv → ∃ x1 x2 x3 x4, B1 own4 q 5 bt [.pointer (some (bk bn)), x1, x2, x3, x4] := by
    intro q room lev nxt via par tv P
    obtain ⟨vv, vl, vn, k5, _⟩ := P.ex
    exact ⟨_, _, _, _, k5⟩
  let J : Unit → H → N4 → Prop := fun _ q al => ∃ lev E room nxt via par tv, al = PhT i m fr to lev nxt via ∧ Fm [2, 5, 6, 7, 8, 9, 11] own h own4 q ∧ Tr own4 q bt bn bf bg i m fr to s t room lev nxt via par tv ∧
    TrI i m fr to cap s t lev0 lev E room nxt via par tv ∧ (∀ v, v < i → par v ≠ -1 → 0 < tv v) ∧ (∀ u, u < i → u ≠ s → u ≠ t → OutF m fr to (onR E) u = 0) ∧
    (OutF m fr to (onR room0) s < OutF m fr to (onR E) s ∨ (E = room0 ∧ DdP i m fr to t lev0 room0 nxt))
  refine ⟨fun p q => ∃ k, J p q k, rkW W4 J, rkW_wf W4 J, ⟨_, lev0, room0, room0, _, _, _, _, rfl, F, P, I0, fun v _ h => absurd rfl h, F0.cons, .inr ⟨rfl, fun u _ a ha => by simp at ha⟩⟩, ?_⟩
  clear F N B k6 k7 k8 Fo P I0 hvia
  intro q hJ
  obtain ⟨al, ⟨lev, E, room, nxt, via, par, tv, hal, F, P, I, hpos, hcons, hpg⟩, hmin⟩ := muW (W := W4) hJ
  clear hJ
  obtain ⟨vv, vl, vn, k5, _, _, _⟩ := P.ex
  obtain ⟨vto, vroom, vout, outs, q4, _, _, _, _⟩ := P.net.ex
  refine ptrP_mk (ptrP_mk ⟨_, k5.ld rfl, _, k5.ld rfl, ptrP_mk ⟨_, q4.ld rfl, ?_⟩⟩)
  refine (Root_T P.fo_ s).mono ?_
  rintro _ g45 ⟨kp, Q, hR⟩
  rcases hR with ⟨hno, _⟩ | ⟨s', r, hs', _, hR, hr, rfl⟩
  · exact absurd (isN_of hs) hno
  have : s' = s := by omega
  subst this
  refine rt_ret ⟨_, _, rfl, ?_⟩
  obtain ⟨F1, P⟩ := P.kp kp Q
  have F := F.trans (F1.mono (by simp))
  clear F1 kp Q k5 q4
  obtain ⟨vv, vl, vn, k5, _, _, _⟩ := P.ex
  obtain ⟨vto, vroom, vout, outs, q4, _, _, _, _⟩ := P.net.ex
  have hphi : ∀ {nxt : Nat → Int}, (∀ u, u < i → 0 ≤ nxt u ∧ nxt u ≤ (arcsL fr to m u).length) → 0 ≤ Phi3 i m fr to nxt := fun h => sumN_nonneg fun u hu => by have := h u hu; omega
  refine ptrP_mk ⟨_, k5.ld rfl, ptrP_mk ⟨_, q4.ld rfl, ?_⟩⟩
  refine ifP_of (fun h1 => ?_) (fun h1 => ?_)
  · -- push
    have h1 : r = t := by have := of_decide_eq_true h1; omega
    subst h1
    refine (push_T' P I hc hn m1 n1 hs hst hpos hR).mono ?_
    rintro _ g53 ⟨E', room', nxt', via', par', tv', x, rfl, F1, P2, I2, hpos2, hx, hout, hph⟩
    refine rt_ret ⟨rfl, ?_⟩
    have hlt : r4 (PhT i m fr to lev nxt' via') al := by
      rw [hal]
      have := hphi I2.nb
      refine .inr ⟨rfl, .inl ?_⟩
      show (Phi3 i m fr to nxt').toNat < (Phi3 i m fr to nxt).toNat
      omega
    have hos := hout s'
    rw [if_pos rfl, if_neg (fun h => hst h.symm)] at hos
    refine muW_next hmin (a := PhT i m fr to lev nxt' via') ⟨lev, E', room', nxt', via', par', tv', rfl, F.trans (F1.mono (by simp)), P2, I2, hpos2, fun u hu h1 h2 => ?_, .inl ?_⟩ hlt
    · rw [hout, hcons u hu h1 h2, if_neg (fun h => h1 h.symm), if_neg (fun h => h2 h.symm)]; rfl
    · rcases hpg with h | ⟨h, _⟩
      · omega
      · rw [← h]; omega
  have hrt : r ≠ t := by have := of_decide_eq_false h1; omega
  have hpr : par r = -1 := hR.root
  have hvr : via r = -1 := by
    rcases I.lk r hr with h | ⟨a, g⟩
    · exact h.1
    · exact absurd hpr g.par_ne
  have hal_r : lev r = lev0 r ∧ 0 ≤ lev0 r := by
    obtain ⟨l, hl1, hl2⟩ := hR
    rcases I.rt_alive hn hl1 hs r hl2 with h | ⟨u, a, g, h⟩
    · subst h
      rcases I.al r hs with h | h
      · exact ⟨h, by rw [L.src]; exact Int.le_refl _⟩
      · exact absurd rfl h.2.2.2
    · subst h
      have h2 := g.l3
      have h3 := g.l4
      exact ⟨g.l2, by omega⟩
  refine (grow_T P I hc hn m1 n1 L.bd hr hvr hpr hal_r.1 hal_r.2).mono ?_
  rintro _ g57 ⟨b, y, via', par', tv', rfl, F1, P2, I2, hy1, hy2, hdd, hcase⟩
  have F := F.trans (F1.mono (by simp))
  refine rt_ret ⟨b, rfl, ?_⟩
  have hp3 := Phi3_upd (n := i) (m := m) (fr := fr) (to := to) (nxt := nxt) (y := y) hr
  have hp3n := hphi I2.nb
  have hpg2 : OutF m fr to (onR room0) s' < OutF m fr to (onR E) s' ∨ (E = room0 ∧ DdP i m fr to t lev0 room0 (upd nxt r y)) := by
    rcases hpg with h | ⟨h, d⟩
    · exact .inl h
    · subst h; exact .inr ⟨rfl, hdd d⟩
  rcases hcase with ⟨rfl, rfl, rfl, rfl, hylen⟩ | ⟨rfl, a, hEa, rfl, rfl, rfl⟩
  rotate_left
  · -- grown
    have hcv : cntN i (upd via r (a : Int)) = cntN i via - 1 := cntN_upd hr (by omega) (by omega)
    have hcn := cntN_nn (n := i) (lev := upd via r (a : Int))
    have hlt : r4 (PhT i m fr to lev (upd nxt r y) (upd via r (a : Int))) al := by
      rw [hal]
      by_cases e : y = nxt r
      · rw [e, upd_self]
        refine .inr ⟨rfl, .inr ⟨rfl, .inl ?_⟩⟩
        show (cntN i (upd via r (a : Int))).toNat < (cntN i via).toNat
        omega
      · refine .inr ⟨rfl, .inl ?_⟩
        show (Phi3 i m fr to (upd nxt r y)).toNat < (Phi3 i m fr to nxt).toNat
        omega
    refine muW_next hmin (a := PhT i m fr to lev (upd nxt r y) (upd via r (a : Int))) ⟨lev, E, room, _, _, _, _, rfl, F, P2, I2, fun v hv hp => ?_, hcons, hpg2⟩ hlt
    by_cases e : v = r
    · subst e; rw [upd_at]; exact hEa
    · rw [upd_ne e] at hp ⊢; exact hpos v hv hp
  -- not grown
  clear k5 q4
  obtain ⟨vv, vl, vn, k5, k6, k7, k8⟩ := P2.ex
  obtain ⟨vto, vroom, vout, outs, q4, _, _, _, _⟩ := P2.net.ex
  refine ifP_of (fun h => by cases h) (fun _ => ?_)
  refine ptrP_mk ⟨_, k5.ld rfl, ptrP_mk ⟨_, q4.ld rfl, ?_⟩⟩
  refine ifP_of (fun h2 => ?_) (fun h2 => ?_)
  · -- the source: all is dropped
    have h2 : r = s' := by have := of_decide_eq_true h2; omega
    subst h2
    refine ptrP_mk ⟨_, k5.ld rfl, k6.len (ints_length _ _) fun _ _ => ?_⟩
    have hval : OutF m fr to (onR room0) r < OutF m fr to (onR E) r := by
      rcases hpg2 with h | ⟨h, d⟩
      · exact h
      · exact (dead_no L hn ht hlt d ⟨hst, by rw [upd_at]; exact hylen⟩).elim
    clear k5 k6 k7 k8 q4
    let I68 : (Int × Unit) → H → Nat → Prop := fun p q k => ∃ (j : Nat) (room via par tv : Nat → Int), p.1 = j ∧ j ≤ i ∧ k = i - j ∧ Fm [2, 5, 6, 7, 8, 9, 11] own h own4 q ∧
      Tr own4 q bt bn bf bg i m fr to r t room lev (upd nxt r y) via par tv ∧ TrI i m fr to cap r t lev0 lev E room (upd nxt r y) via par tv ∧ ∀ u, u < j → via u = -1
    refine ⟨fun p q => ∃ k, I68 p q k, rk I68, rk_wf I68, ⟨_, 0, room, _, _, _, rfl, by omega, rfl, F, P2, I2, fun u hu => by omega⟩, ?_⟩
    clear F P2 I2 P I hmin
    intro p q hI
    obtain ⟨j, room, via, par, tv, e1, hj, hk, F, P, I, hno⟩ := mu_spec hI
    generalize hkk : mu I68 ((p, ()), q) = km at *
    change p = (j : Int) at e1
    subst e1
    have hltf : j < i → i - (j + 1) < mu I68 (((j : Int), ()), q) := fun h => by rw [hkk, hk]; omega
    clear hI
    refine ifP_of (fun h3 => ?_) (fun h3 => ?_)
    · have hji : j < i := by have := of_decide_eq_true h3; omega
      obtain ⟨vv, vl, vn, k5, k6, k7, k8⟩ := P.ex
      rw [i64_inc (by omega)]
      refine ptrP_mk ⟨_, k5.ld rfl, k6.rdI hji ?_⟩
      refine ifP_of (fun h4 => ?_) (fun h4 => ?_)
      · have h4 := of_decide_eq_true h4
        obtain ⟨a, g⟩ := I.hg hji (by omega)
        refine (drop_T P I hc m1 hji g).mono ?_
        rintro _ g77 ⟨rfl, F2, P2⟩
        refine rt_ret ⟨rfl, ?_⟩
        refine mu_next (I := I68) (k := i - (j + 1)) ⟨j + 1, _, _, _, _, rfl, hji, rfl, F.trans (F2.mono (by simp)), P2, I.drop hji g, fun u hu => ?_⟩ (hltf hji)
        by_cases e : u = j
        · subst e; exact upd_at
        · rw [upd_ne e]; exact hno u (by omega)
      · have h4 := of_decide_eq_false h4
        refine mu_next (I := I68) (k := i - (j + 1)) ⟨j + 1, _, _, _, _, rfl, hji, rfl, F, P, I, fun u hu => ?_⟩ (hltf hji)
        by_cases e : u = j
        · subst e
          rcases I.lk u hji with h | ⟨a, g⟩
          · exact h.1
          · have := g.via_; omega
        · exact hno u (by omega)
    · have : j = i := by have := of_decide_eq_false h3; omega
      subst this
      obtain ⟨x1, x2, x3, x4, k5⟩ := toB P
      have oe := I.out_eq hno
      exact ⟨own4, room, x1, x2, x3, x4, rfl, F, P.net, k5, ⟨I.rmR, fun v hv h1 h2 => by rw [oe]; exact hcons v hv h1 h2⟩, by rw [oe]; exact hval⟩
  · -- a dead end
    have h2 : r ≠ s' := by have := of_decide_eq_false h2; omega
    refine ptrP_mk ⟨_, k5.ld rfl, k7.setI hr ?_⟩
    intro g83 F2 k7
    have N := P2.net
    have Fo := P2.fo_.of F2 (by rw [P2.o9]; simp) (by rw [P2.o11]; simp)
    have N := N.fm F2 (by simp <;> omega)
    have k5 := k5.fm F2 (by simp <;> omega)
    have k6 := k6.fm F2 (by simp <;> omega)
    have k8 := k8.fm F2 (by simp <;> omega)
    have F := F.trans (F2.mono (by simp))
    refine ptrP_mk ⟨_, k5.ld rfl, k6.len (ints_length _ _) fun _ _ => ?_⟩
    have P3 : Tr own4 g83 bt bn bf bg i m fr to s' t room (upd lev r (-1)) (upd nxt r y) via' par' tv' := ⟨N, ⟨_, _, _, k5, k6, k7, k8⟩, Fo, P2.o9, P2.o11⟩
    let I89 : (Int × Unit) → H → Nat → Prop := fun p q k => ∃ (j : Nat) (room nxt via par tv : Nat → Int), p.1 = j ∧ j ≤ i ∧ k = i - j ∧ Fm [2, 5, 6, 7, 8, 9, 11] own h own4 q ∧ B1 own4 q 5 bt [.pointer (some (bk bn)), fo bf, vv, vl, vn] ∧
      Tr own4 q bt bn bf bg i m fr to s' t room (upd lev r (-1)) nxt via par tv ∧ TrI i m fr to cap s' t lev0 lev E room nxt via par tv ∧ (∀ u, u < j → par u ≠ r) ∧ par r = -1 ∧ via r = -1 ∧ nxt r = (arcsL fr to m r).length ∧
      (∀ v, v < i → par v ≠ -1 → 0 < tv v) ∧ (OutF m fr to (onR room0) s' < OutF m fr to (onR E) s' ∨ (E = room0 ∧ DdP i m fr to t lev0 room0 nxt))
    refine ⟨fun p q => ∃ k, I89 p q k, rk I89, rk_wf I89, ⟨_, 0, room, _, _, _, _, rfl, by omega, rfl, F, k5, P3, I2, fun u hu => by omega, hpr, hvr, by rw [upd_at]; exact hylen, hpos, hpg2⟩, ?_⟩
    clear F P2 I2 P I P3 k6 k7 k8 Fo N q4 hpos hpg2 hpg k5
    intro p q hI
    obtain ⟨j, room, nxt, via, par, tv, e1, hj, hk, F, k5, P, I, hno, hpr, hvr, hnr, hpos, hpg⟩ := mu_spec hI
    generalize hkk : mu I89 ((p, ()), q) = km at *
    change p = (j : Int) at e1
    subst e1
    have hltf : j < i → i - (j + 1) < mu I89 (((j : Int), ()), q) := fun h => by rw [hkk, hk]; omega
    clear hI
    obtain ⟨zv, zl, zn, z5, z6, z7, z8⟩ := P.ex
    have := z5.uniq k5
    injection this with _ this
    injection this with _ this
    injection this with e1 this
    subst e1
    clear this
    obtain ⟨vto, vroom, vout, outs, q4, q1, _, _, _⟩ := P.net.ex
    refine ifP_of (fun h3 => ?_) (fun h3 => ?_)
    · have hji : j < i := by have := of_decide_eq_true h3; omega
      rw [i64_inc (by omega)]
      refine z6.rdI hji ?_
      have skip : par j ≠ r → (∃ k, I89 (((j + 1 : Nat) : Int), ()) q k) ∧ rk I89 ((((j + 1 : Nat) : Int), ()), q) (((j : Int), ()), q) := by
        intro hne
        refine mu_next (I := I89) (k := i - (j + 1)) ⟨j + 1, room, nxt, via, par, tv, rfl, hji, rfl, F, k5, P, I, fun u hu => ?_, hpr, hvr, hnr, hpos, hpg⟩ (hltf hji)
        by_cases e : u = j
        · subst e; exact hne
        · exact hno u (by omega)
      refine ifP_of (fun h4 => ?_) (fun h4 => ?_)
      rotate_left
      · have h4 := of_decide_eq_false h4
        refine skip ?_
        rcases I.lk j hji with h | ⟨a, g⟩
        · rw [h.2]; omega
        · have := g.via_; omega
      have h4 := of_decide_eq_true h4
      obtain ⟨a, g⟩ := I.hg hji (by omega)
      rw [g.via_]
      refine ptrP_mk ⟨_, k5.ld rfl, ptrP_mk ⟨_, q4.ld rfl, q1.rdI g.am ?_⟩⟩
      refine ifP_of (fun h5 => ?_) (fun h5 => skip (by rw [g.par_]; exact of_decide_eq_false h5))
      have h5 : hdA fr to a = r := by have := of_decide_eq_true h5; omega
      have hjr : j ≠ r := by rintro rfl; exact g.par_ne hpr
      refine (drop_T P I hc m1 hji g).mono ?_
      rintro _ g102 ⟨rfl, F2, P2⟩
      refine rt_ret ⟨rfl, ?_⟩
      have I2 := I.drop hji g
      obtain ⟨ln, hln, hget⟩ := g.nx
      have hlt2 := (List.getElem?_eq_some_iff.1 hget).1
      have hlen := arcsL_length (fr := fr) (to := to) (v := j) (i := m)
      have k5 := k5.fm F2 (by simp <;> omega)
      obtain ⟨zv, zl, zn, z5, z6, z7, z8⟩ := P2.ex
      refine ptrP_mk ⟨_, z5.ld rfl, z8.rdI hji ?_⟩
      rw [hln, i64_inc (by omega)]
      refine z8.setI hji ?_
      intro g108 F3 z8
      have N := P2.net
      have Fo := P2.fo_.of F3 (by rw [P2.o9]; simp) (by rw [P2.o11]; simp)
      have N := N.fm F3 (by simp <;> omega)
      have z5 := z5.fm F3 (by simp <;> omega)
      have z6 := z6.fm F3 (by simp <;> omega)
      have z7 := z7.fm F3 (by simp <;> omega)
      have k5 := k5.fm F3 (by simp <;> omega)
      have I3 := I2.adv (v := j) upd_at g.l1 g.l4 (y := ((ln + 1 : Nat) : Int)) (by omega) (by omega)
      refine mu_next (I := I89) (k := i - (j + 1)) ⟨j + 1, _, _, _, _, _, rfl, hji, rfl, (F.trans (F2.mono (by simp))).trans (F3.mono (by simp)), k5, ⟨N, ⟨_, _, _, z5, z6, z7, z8⟩, Fo, P2.o9, P2.o11⟩, I3, fun u hu => ?_,
        by rw [upd_ne hjr.symm]; exact hpr, by rw [upd_ne hjr.symm]; exact hvr, by rw [upd_ne hjr.symm]; exact hnr, fun v hv hp => ?_, ?_⟩ (hltf hji)
      · by_cases e : u = j
        · subst e; rw [upd_at]; omega
        · rw [upd_ne e]; exact hno u (by omega)
      · by_cases e : v = j
        · subst e; rw [upd_at] at hp; exact absurd rfl hp
        · rw [upd_ne e] at hp ⊢; exact hpos v hv hp
      · rcases hpg with h | ⟨h, d⟩
        · exact .inl h
        · exact .inr ⟨h, d.adv hn hji hln hget (by rw [h5]; exact hjr.symm) (by rw [h5]; exact ⟨hrt, hnr⟩)⟩
    · have : j = i := by have := of_decide_eq_false h3; omega
      subst this
      have hc1 := cntN_neg (n := j) (lev := lev) (x := -1) hr (by omega) (by omega)
      have hc2 := cntN_le (n := j) (lev := upd lev r (-1))
      have I2 : TrI j m fr to cap s' t lev0 (upd lev r (-1)) E room nxt via par tv := by
        refine ⟨I.rmE, I.rmR, fun v hv => ?_, I.eq, I.nb, fun w hw => ?_⟩
        · rcases I.lk v hv with h | ⟨a, g⟩
          · exact .inl h
          · have n1 : v ≠ r := by rintro rfl; exact g.par_ne hpr
            have n2 : hdA fr to a ≠ r := by
              intro e
              have := hno v hv
              rw [g.par_] at this
              omega
            exact .inr ⟨a, g.via_, g.am, g.tl, g.nx, g.par_, g.tv_, by rw [upd_ne n1]; exact g.l1, by rw [upd_ne n2]; exact g.l2, g.l3, g.l4⟩
        · by_cases e : w = r
          · subst e; exact .inr ⟨upd_at, hnr, hrt, h2⟩
          · rw [upd_ne e]; exact I.al w hw
      have hlt : r4 (PhT j m fr to (upd lev r (-1)) nxt via) al := by
        rw [hal]
        refine .inl ?_
        show ((j : Int) - cntN j (upd lev r (-1))).toNat < ((j : Int) - cntN j lev).toNat
        omega
      exact muW_next hmin (a := PhT j m fr to (upd lev r (-1)) nxt via) ⟨_, E, room, nxt, via, par, tv, rfl, F, P, I2, hpos, hcons, hpg⟩ hlt

theorem tfill_T (hc : ∀ i, i < m → cap i ≤ 1048576) (hn : ∀ i, i < m → fr i < n ∧ to i < n) (m1 : m ≤ 4096) (n1 : n ≤ 1024) (hs : s < n) (ht : t < n) {room : Nat → Int} {x1 x2 x3 x4 : Value}
    (N : Net own h bn n m fr to s t room) (B : B1 own h 5 bt [.pointer (some (bk bn)), x1, x2, x3, x4]) (F0 : FlS n m fr to cap s t room) (hst : s ≠ t) :
    T Tryz.prog F.maxflow_trees_fill [.pointer (some (bk bt))] h fun r h' => ∃ own' room', r = .ret (.tuple ⟨[]⟩) ∧ Fm [2, 5, 6, 7, 8, 9, 11] own h own' h' ∧ Net own' h' bn n m fr to s t room' ∧
      FlS n m fr to cap s t room' ∧ ¬ Rch (ArS m fr to room') s t := by
  refine E_maxflow_trees_fill ?_
  unfold B_maxflow_trees_fill
  let I : Unit → H → Nat → Prop := fun _ q k => ∃ own' room' x1 x2 x3 x4, Fm [2, 5, 6, 7, 8, 9, 11] own h own' q ∧ Net own' q bn n m fr to s t room' ∧ B1 own' q 5 bt [.pointer (some (bk bn)), x1, x2, x3, x4] ∧ FlS n m fr to cap s t room' ∧
    (k : Int) = 4294967296 - OutF m fr to (onR room') s
  have bdk : ∀ {room' : Nat → Int}, FlS n m fr to cap s t room' → ∃ k : Nat, (k : Int) = 4294967296 - OutF m fr to (onR room') s := by
    intro room' F
    have := out_bd (fr := fr) (to := to) (onR_bd F.rm hc) m1 s
    exact ⟨(4294967296 - OutF m fr to (onR room') s).toNat, by omega⟩
  obtain ⟨k0, hk0⟩ := bdk F0
  refine ⟨fun p q => ∃ k, I p q k, rk I, rk_wf I, ⟨k0, own, room, x1, x2, x3, x4, Fm.refl, N, B, F0, hk0⟩, ?_⟩
  clear F0 N B hk0
  intro q hI
  obtain ⟨own1_, room1, x1, x2, x3, x4, F, N, B, F0, hkm⟩ := mu_spec hI
  generalize hkk : mu I ((), q) = km at *
  obtain ⟨vto, vroom, vout, outs, k4, k1, k2, k3, ka⟩ := N.ex
  refine ptrP_mk (ptrP_mk ⟨_, B.ld rfl, _, B.ld rfl, ptrP_mk ⟨_, k4.ld rfl, ?_⟩⟩)
  refine (levels_T N hn n1 m1 hs).mono ?_
  rintro _ q2 ⟨x2_, bl, lev, rfl, hbl, Sl6, L⟩
  refine rt_ret ?_
  have k6 := S1.of (i := 7) Sl6 own1_
  have F2 : Fm [] own1_ q (own1 own1_ bl 7) q2 := Fm.new x2_ hbl
  have F := F.trans (F2.mono (by simp))
  have B := B.fm F2 (by simp <;> omega)
  have N := N.new (i := 7) x2_ hbl
  generalize own1 own1_ bl 7 = own2 at *
  clear F2 k4 k1 k2 k3 ka hbl x2_
  refine ptrP_mk (oneP_mk ?_)
  refine B.st (by simp) ?_
  intro q3 F2 B
  simp only [List.set] at B
  have N := N.fm F2 (by simp <;> omega)
  have k6 := k6.fm F2 (by simp <;> omega)
  have F := F.trans (F2.mono (by simp))
  clear F2
  obtain ⟨vto, vroom, vout, outs, k4, k1, k2, k3, ka⟩ := N.ex
  refine ptrP_mk (ptrP_mk ⟨_, B.ld rfl, _, B.ld rfl, ptrP_mk ⟨_, k4.ld rfl, ?_⟩⟩)
  refine k6.rdI ht ?_
  refine ifP_of (fun h1 => ?_) (fun h1 => ?_)
  · have h1 := of_decide_eq_true h1
    refine ⟨own2, room1, rfl, F, N, F0, fun r => ?_⟩
    have := (L.iff hn ht).2 r
    omega
  · have h1 := of_decide_eq_false h1
    refine (phase_T hc hn m1 n1 hs ht hst N B k6 F0 L (by omega)).mono ?_
    rintro _ q4 ⟨own3, room2, y1, y2, y3, y4, rfl, F2, N, B, F1, hlt⟩
    refine rt_ret ⟨rfl, ?_⟩
    obtain ⟨k2, hk2⟩ := bdk F1
    exact mu_next (I := I) (k := k2) ⟨own3, room2, _, _, _, _, F.trans (F2.mono (by simp)), N, B, F1, hk2⟩ (by rw [hkk]; omega)
end

end Go.Proofs.YtdcamadeblojdaaGreat

namespace Go.Proofs.YtdcamadeblojdaaGreat
open Go
set_option linter.unusedVariables false
set_option linter.unusedSimpArgs false

theorem meth57 (a : Addr) (w : World) : (method (Tryz.prog.types.size + Made.depth) 93 (.pointer (some a)) "compass/maxflow.fill").run Tryz.prog w = .ok (F.maxflow_dinic_fill, .pointer (some a)) w := by
  kernel_rfl
theorem meth61 (a : Addr) (w : World) : (method (Tryz.prog.types.size + Made.depth) 96 (.pointer (some a)) "compass/maxflow.fill").run Tryz.prog w = .ok (F.maxflow_trees_fill, .pointer (some a)) w := by
  kernel_rfl
theorem meth65 (a : Addr) (w : World) : (method (Tryz.prog.types.size + Made.depth) 100 (.pointer (some a)) "compass/maxflow.fill").run Tryz.prog w = .ok (F.maxflow_pushing_fill, .pointer (some a)) w := by
  kernel_rfl

/-- A flow as Go holds it. -/
abbrev flV (s t : Int) (on side : Value) : List Value := [.int .i64 s, .int .i64 t, on, side]
abbrev flZ : List Value := flV 0 0 (.slice none 0 0) (.slice none 0 0)
abbrev slV (b n : Nat) : Value := .slice (some (bk b)) n n
/-- What Solve answers where nothing is wrong. -/
structure SolR (h h' : H) (n m : Nat) (es : Nat → Ed) (s t : Nat) (b1 b2 : Nat) (f : Nat → Int) (side : Nat → Bool) : Prop where
  n1 : h b1 = none
  n2 : h b2 = none
  ne : b1 ≠ b2
  s1 : Sl h' b1 (slV b1 m) (ints m f)
  s2 : Sl h' b2 (slV b2 n) (bools n side)
  mx : MaxP n m (frE es) (toE es) (cpE es) s t f
  sd : ∀ v, v < n → (side v = true ↔ Rch (RsS m (frE es) (toE es) (cpE es) f) s v)
def SolA (h : H) (n : Int) (m : Nat) (es : Nat → Ed) (s t k : Int) (r : Res) (h' : H) : Prop :=
  Ext h h' ∧ ((wrong13 n m es s t k ≠ 0 ∧ r = .ret (.tuple ⟨[.agg ⟨flZ⟩, .int .i64 0, .int .i64 (wrong13 n m es s t k)]⟩)) ∨
    (wrong13 n m es s t k = 0 ∧ ∃ (n' s' t' b1 b2 : Nat) (f : Nat → Int) (side : Nat → Bool), n = n' ∧ s = s' ∧ t = t' ∧ s' < n' ∧ t' < n' ∧ s' ≠ t' ∧ Gd n' m es ∧
      r = .ret (.tuple ⟨[.agg ⟨flV s t (slV b1 m) (slV b2 n')⟩, .int .i64 (OutF m (frE es) (toE es) f s'), .int .i64 0]⟩) ∧ SolR h h' n' m es s' t' b1 b2 f side))

section
variable {h : H} {w : List Value} {n : Int} {m : Nat} {es : Nat → Ed}
theorem Solve_T (G : GrA h w n m es) (s t k : Int) : T Tryz.prog F.maxflow_Solve [.agg ⟨w⟩, .int .i64 s, .int .i64 t, .int .i64 k] h (SolA h n m es s t k) := by
  refine E_maxflow_Solve ?_
  unfold B_maxflow_Solve
  refine new_bl ?_
  intro b1 g2 hb1 x1 B1_
  refine new_bl ?_
  intro b3 g4 hb3 x3 B3
  have B1_ := B1_.ext x3
  have x13 := x1.trans' x3
  have hb3h := x1.new hb3
  refine B1_.ldN G.one.1 ?_
  refine (Check_T (G.ext x13)).mono ?_
  rintro _ g7 ⟨rfl, x7⟩
  refine rt_ret ⟨_, rfl, rfl, ?_⟩
  have B1_ := B1_.ext x7
  have B3 := B3.ext x7
  refine new_bl_st rfl rfl (by simp [Value.oneCell']) ?_
  intro b9 g11 hb9 x9 B9
  have B1_ := B1_.ext x9
  have B3 := B3.ext x9
  have xh : Ext h g11 := (x13.trans' x7).trans' x9
  have hne : b9 ≠ b3 := by
    rintro rfl
    obtain ⟨e, h1⟩ := B3
    have := x7
    obtain ⟨e2, h2⟩ := B9
    rw [h1] at h2
    simp at h2
  -- an error
  have err : ∀ {q : H} {c : Int}, Ext h q → Bl q b3 flZ → c ≠ 0 → wrong13 n m es s t k = c → stN q (bk b3) flZ 4 fun h14 => ldN h14 (bk b3) 4 fun x15 =>
      SolA h n m es s t k (.ret (.tuple ⟨[.agg ⟨x15⟩, .int .i64 0, .int .i64 c]⟩)) h14 := by
    rintro q c xq Bq hc rfl
    refine Bq.stN rfl rfl (by simp [Value.oneCell']) ?_
    intro q2 kp B2
    exact B2.ldN rfl ⟨xq.of_kp kp hb3h, .inl ⟨hc, rfl⟩⟩
  refine ⟨_, B9.ld rfl, ifP_of (fun h0 => ?_) (fun h0 => ?_)⟩
  · have h0 : (faultG n m es).1 ≠ 0 := by simpa using h0
    refine ⟨_, B9.ld rfl, ?_⟩
    refine B3.stN rfl rfl (by simp [Value.oneCell']) ?_
    intro q2 kp B2
    refine ⟨sameAt_bl B9 (B9.kp kp hne), B2.ldN rfl ⟨xh.of_kp kp hb3h, .inl ⟨?_, ?_⟩⟩⟩
    · unfold wrong13 endsC wrongC
      rw [if_neg h0, if_neg h0, if_neg h0]; exact h0
    · have : wrong13 n m es s t k = (faultG n m es).1 := by
        unfold wrong13 endsC wrongC
        rw [if_neg h0, if_neg h0, if_neg h0]
      rw [this]
  have h0 : (faultG n m es).1 = 0 := by simpa using h0
  obtain ⟨N, rfl, g⟩ := Gd.of h0
  have n1 := g.n1
  have m1 := g.m1
  have wC : ∀ x, wrongC N m es x = if 0 ≤ x ∧ x < N then 0 else 30 := fun x => if_pos h0
  have w30 : ¬ (0 ≤ s ∧ s < N) ∨ ¬ (0 ≤ t ∧ t < N) → wrong13 N m es s t k = 30 := by
    intro h
    have : endsC N m es s t = 30 := by
      unfold endsC
      rw [wC, wC]
      by_cases h1 : 0 ≤ s ∧ s < N
      · rw [if_pos h1]
        rcases h with h | h
        · exact absurd h1 h
        · rw [if_neg h]; rfl
      · rw [if_neg h1]; rfl
    unfold wrong13
    rw [this]; rfl
  obtain ⟨a, c, rfl, hcE⟩ := G
  have G : GrA h [.int .i64 N, .slice a m c] N m es := ⟨a, c, rfl, hcE⟩
  refine ⟨fun _ q => g11 = q ∧ (0 ≤ s ∧ s < N) ∧ (0 ≤ t ∧ t < N), ?_, ?_⟩
  · refine ifP_of (fun h1 => err xh B3 (by omega) (w30 (.inl (by have := of_decide_eq_true h1; omega)))) (fun h1 => ?_)
    have h1 := of_decide_eq_false h1
    refine ⟨_, B1_.ld rfl, ifP_of (fun h2 => err xh B3 (by omega) (w30 (.inl (by have := of_decide_eq_true h2; omega)))) (fun h2 => ?_)⟩
    have h2 := of_decide_eq_false h2
    refine ifP_of (fun h3 => err xh B3 (by omega) (w30 (.inr (by have := of_decide_eq_true h3; omega)))) (fun h3 => ?_)
    have h3 := of_decide_eq_false h3
    refine ⟨_, B1_.ld rfl, ifP_of (fun h4 => err xh B3 (by omega) (w30 (.inr (by have := of_decide_eq_true h4; omega)))) (fun h4 => ?_)⟩
    have h4 := of_decide_eq_false h4
    exact ⟨rfl, by omega, by omega⟩
  rintro _ ⟨rfl, hsr, htr⟩
  obtain ⟨s', rfl⟩ : ∃ s' : Nat, s = s' := ⟨s.toNat, by omega⟩
  obtain ⟨t', rfl⟩ : ∃ t' : Nat, t = t' := ⟨t.toNat, by omega⟩
  have hsn : s' < N := by omega
  have htn : t' < N := by omega
  have wE : endsC N m es s' t' = if (s' : Int) = t' then 120 else 0 := by
    unfold endsC
    rw [wC, wC, if_pos hsr, if_pos htr]; rfl
  refine ifP_of (fun h5 => err xh B3 (by omega) ?_) (fun h5 => ?_)
  · unfold wrong13
    rw [wE, if_pos (of_decide_eq_true h5)]; rfl
  have h5 := of_decide_eq_false h5
  have hst : s' ≠ t' := by omega
  rw [if_neg h5] at wE
  refine B1_.ldN rfl ?_
  refine (newNet_T (s := s') (t := t') (G.ext xh) g).mono ?_
  rintro _ g32 ⟨bn, own, rfl, bs, Nt⟩
  refine rt_ret ?_
  have O0 : ∀ u, OutF m (frE es) (toE es) (onR (room0 (cpE es))) u = 0 := room0_out
  have hc0 : ∀ i, i < m → 0 ≤ cpE es i := fun i hi => (g.c i hi).1
  have hc1 : ∀ i, i < m → cpE es i ≤ 1048576 := fun i hi => (g.c i hi).2
  have R0 := room0_ok hc0
  have F0 : FlS N m (frE es) (toE es) (cpE es) s' t' (room0 (cpE es)) := ⟨R0, fun v _ _ _ => O0 v⟩
  refine ⟨fun p q => (1 ≤ k ∧ k ≤ 3) ∧ ∃ ty f bo, p.1 = .iface ty (.pointer (some (bk bo))) ∧
    (∀ w, (method (Tryz.prog.types.size + Made.depth) ty (.pointer (some (bk bo))) "compass/maxflow.fill").run Tryz.prog w = .ok (f, .pointer (some (bk bo))) w) ∧
    T Tryz.prog f [.pointer (some (bk bo))] q fun r h' => r = .ret (.tuple ⟨[]⟩) ∧ ∃ own' room', Bs g11 own' h' ∧ Net own' h' bn N m (frE es) (toE es) s' t' room' ∧ FlS N m (frE es) (toE es) (cpE es) s' t' room' ∧ ¬ Rch (ArS m (frE es) (toE es) room') s' t', ?_, ?_⟩
  · refine ifP_of (fun h6 => ?_) (fun h6 => ?_)
    · have h6 := of_decide_eq_true h6
      refine oneP_ptr (new_bl ?_)
      intro bo q hbo xo Bo
      refine ⟨by omega, 93, F.maxflow_dinic_fill, bo, rfl, meth57 _, ?_⟩
      refine (dfill_T hc1 g.ends m1 n1 hsn htn (Nt.new (i := 5) xo hbo) (B1.new Bo) F0 hst).mono ?_
      rintro _ q2 ⟨own', room', rfl, F, N2, f1, f2⟩
      exact ⟨rfl, own', room', (bs.new xo hbo).fm F (by simp), N2, f1, f2⟩
    have h6 := of_decide_eq_false h6
    refine ifP_of (fun h7 => ?_) (fun h7 => ?_)
    · have h7 := of_decide_eq_true h7
      refine oneP_ptr (new_bl ?_)
      intro bo q hbo xo Bo
      refine ⟨by omega, 96, F.maxflow_trees_fill, bo, rfl, meth61 _, ?_⟩
      refine (tfill_T hc1 g.ends m1 n1 hsn htn (Nt.new (i := 5) xo hbo) (B1.new Bo) F0 hst).mono ?_
      rintro _ q2 ⟨own', room', rfl, F, N2, f1, f2⟩
      exact ⟨rfl, own', room', (bs.new xo hbo).fm F (by simp), N2, f1, f2⟩
    have h7 := of_decide_eq_false h7
    refine ifP_of (fun h8 => ?_) (fun h8 => ?_)
    · have h8 := of_decide_eq_true h8
      refine oneP_ptr (new_bl ?_)
      intro bo q hbo xo Bo
      refine ⟨by omega, 100, F.maxflow_pushing_fill, bo, rfl, meth65 _, ?_⟩
      refine (pfill_T hc0 hc1 g.ends m1 n1 hsn htn (Nt.new (i := 5) xo hbo) (B1.new Bo) R0 O0 hst).mono ?_
      rintro _ q2 ⟨own', room', rfl, F, N2, f1, f2⟩
      exact ⟨rfl, own', room', (bs.new xo hbo).fm F (by simp), N2, f1, f2⟩
    have h8 := of_decide_eq_false h8
    refine err (xh.trans' bs.ext) (B3.ext bs.ext) (by omega) ?_
    unfold wrong13
    rw [wE, if_pos rfl, if_neg (by omega)]
  rintro v35 q ⟨hk, ty, f, bo, hv, hm, hT⟩
  change v35 = _ at hv
  subst hv
  refine ⟨f, _, fun w _ => hm w, ?_⟩
  refine hT.mono ?_
  rintro _ g47 ⟨rfl, own, room, bs, Nt, Fl, nr⟩
  refine rt_ret ⟨rfl, ?_⟩
  clear hT hm
  have B1g := B1_
  have w0 : wrong13 N m es s' t' k = 0 := by
    unfold wrong13
    rw [wE, if_pos rfl, if_pos hk]
  have B1_ := B1_.ext bs.ext
  have xq := xh.trans' bs.ext
  refine ⟨_, B1_.ld rfl, slcP_mk ⟨_, B1_.ld rfl, ?_⟩⟩
  refine mk_ints 12 (by omega) (by omega) ?_
  intro b53 g54 hb53 x54 S12
  have bs := bs.new (i := 12) x54 hb53
  have Nt := Nt.new (i := 12) x54 hb53
  have k12 := S12 own
  generalize own1 own b53 12 = own at *
  clear S12
  refine mk_bools 13 (by omega) (by omega) ?_
  intro b55 g56 hb55 x56 S13
  have bs := bs.new (i := 13) x56 hb55
  have Nt := Nt.new (i := 13) x56 hb55
  have k13 := S13 own
  have k12 := k12.nw (j := 13) x56 hb55
  generalize own1 own b55 13 = own at *
  clear S13
  refine new_bl_st rfl rfl (by simp [Value.oneCell']) ?_
  intro b57 g59 hb57 x59 B57
  have bs := bs.new (i := 14) x59 hb57
  have Nt := Nt.new (i := 14) x59 hb57
  have k12 := k12.nw (j := 14) x59 hb57
  have k13 := k13.nw (j := 14) x59 hb57
  have k14 : B1 (own1 own b57 14) g59 14 b57 _ := B1.new B57
  generalize own1 own b57 14 = own at *
  rw [Int.toNat_natCast, Int.toNat_natCast] at k14
  have B1_ := ((B1_.ext x54).ext x56).ext x59
  have hb53h : h b53 = none := xq.new hb53
  have hb55h : h b55 = none := (xq.trans' x54).new hb55
  have hne2 : b53 ≠ b55 := by
    rintro rfl
    have h1 := k12.sl.2
    have h2 := k13.sl.2
    omega
  clear B57 x54 x56 x59 hb57 hb55 hb53
  refine ⟨_, B1_.ld rfl, slcP_mk ?_⟩
  let I64 : (Int × Unit) → H → Nat → Prop := fun p q k => ∃ (i : Nat) (f : Nat → Int), p.1 = i ∧ i ≤ m ∧ k = m - i ∧ Bs g11 own q ∧ Net own q bn N m (frE es) (toE es) s' t' room ∧
    S1 own q 12 (slV b53 m) (ints m f) ∧ S1 own q 13 (slV b55 N) (bools N fun _ => false) ∧ B1 own q 14 b57 (flV s' t' (slV b53 m) (slV b55 N)) ∧ ∀ j, j < i → f j = onR room j
  refine ⟨fun p q => ∃ k, I64 p q k, rk I64, rk_wf I64, ⟨_, 0, _, rfl, by omega, rfl, bs, Nt, k12, k13, k14, fun j hj => by omega⟩, ?_⟩
  clear bs Nt k12 k13 k14
  intro p q hI
  obtain ⟨i, f, e1, hi, hk2, bs, Nt, k12, k13, k14, hf⟩ := mu_spec hI
  generalize hkk : mu I64 ((p, ()), q) = km at *
  change p = (i : Int) at e1
  subst e1
  have hltf : m - (i + 1) < mu I64 (((i : Int), ()), q) ∨ ¬ i < m := by rw [hkk, hk2]; omega
  clear hI
  obtain ⟨vto, vroom, vout, outs, q4, q1, q2, q3, qa⟩ := Nt.ex
  refine ifP_of (fun h1 => ?_) (fun h1 => ?_)
  · have him : i < m := by have := of_decide_eq_true h1; omega
    refine ptrP_mk ⟨_, k14.ld rfl, _, q4.ld rfl, ?_⟩
    have ew : IntKind.i64.wrap (IntKind.i64.wrap (2 * (i : Int)) + 1) = ((2 * i + 1 : Nat) : Int) := by
      have e1 : IntKind.i64.wrap (2 * (i : Int)) = 2 * (i : Int) := w64_in (by omega) (by omega)
      have e2 : IntKind.i64.wrap (2 * (i : Int) + 1) = 2 * (i : Int) + 1 := w64_in (by omega) (by omega)
      rw [e1, e2]; omega
    rw [ew]
    refine q2.rdI (by omega) (k12.setI him ?_)
    intro g74 F k12
    have bs := bs.fm F (by simp <;> omega)
    have k13 := k13.fm F (by simp <;> omega)
    have k14 := k14.fm F (by simp <;> omega)
    have Nt : Net own g74 bn N m (frE es) (toE es) s' t' room := Nt.fm F (by simp)
    rw [i64_inc (by omega)]
    refine mu_next (I := I64) (k := m - (i + 1)) ⟨i + 1, _, rfl, him, rfl, bs, Nt, k12, k13, k14, fun j hj => ?_⟩ (by omega)
    by_cases e : j = i
    · subst e; rw [upd_at]; rfl
    · rw [upd_ne e]; exact hf j (by omega)
  have : i = m := by have := of_decide_eq_false h1; omega
  subst this
  clear hkk hk2 hltf h1 hi
  have ef : ints i f = ints i (onR room) := ints_ext hf
  rw [ef] at k12
  clear ef hf
  refine (levels_T Nt g.ends n1 m1 hsn).mono ?_
  rintro _ g76 ⟨x76, bl, lev, rfl, hbl, Sl6, L⟩
  refine rt_ret (slcP_mk ?_)
  have bs := bs.new (i := 15) x76 hbl
  have Nt := Nt.new (i := 15) x76 hbl
  have k12 := k12.nw (j := 15) x76 hbl
  have k13 := k13.nw (j := 15) x76 hbl
  have k14 := k14.nw (j := 15) x76 hbl
  have k15 : S1 (own1 own bl 15) g76 15 (slV bl N) (ints N lev) := S1.of Sl6 own
  generalize own1 own bl 15 = own at *
  clear Sl6 hbl x76 q4 q1 q2 q3 qa
  let I80 : (Int × Unit) → H → Nat → Prop := fun p q k => ∃ (v : Nat) (sd : Nat → Bool), p.1 = v ∧ v ≤ N ∧ k = N - v ∧ Bs g11 own q ∧
    S1 own q 12 (slV b53 i) (ints i (onR room)) ∧ S1 own q 13 (slV b55 N) (bools N sd) ∧ B1 own q 14 b57 (flV s' t' (slV b53 i) (slV b55 N)) ∧ S1 own q 15 (slV bl N) (ints N lev) ∧ ∀ j, j < v → sd j = decide (0 ≤ lev j)
  refine ⟨fun p q => ∃ k, I80 p q k, rk I80, rk_wf I80, ⟨_, 0, _, rfl, by omega, rfl, bs, k12, k13, k14, k15, fun j hj => by omega⟩, ?_⟩
  clear bs k12 k13 k14 k15
  intro p q hI
  obtain ⟨v, sd, e1, hv, hk2, bs, k12, k13, k14, k15, hsd⟩ := mu_spec hI
  generalize hkk : mu I80 ((p, ()), q) = km at *
  change p = (v : Int) at e1
  subst e1
  have hltf : N - (v + 1) < mu I80 (((v : Int), ()), q) ∨ ¬ v < N := by rw [hkk, hk2]; omega
  clear hI
  refine ifP_of (fun h1 => ?_) (fun h1 => ?_)
  · have hvn : v < N := by have := of_decide_eq_true h1; omega
    refine k15.rdI hvn ⟨_, k14.ld rfl, k13.setB hvn ?_⟩
    intro g88 F k13
    have bs := bs.fm F (by simp <;> omega)
    have k12 := k12.fm F (by simp <;> omega)
    have k14 := k14.fm F (by simp <;> omega)
    have k15 := k15.fm F (by simp <;> omega)
    rw [i64_inc (by omega)]
    refine mu_next (I := I80) (k := N - (v + 1)) ⟨v + 1, _, rfl, hvn, rfl, bs, k12, k13, k14, k15, fun j hj => ?_⟩ (by omega)
    unfold updB
    by_cases e : j = v
    · subst e; rw [if_pos rfl]
    · rw [if_neg e]; exact hsd j (by omega)
  have : v = N := by have := of_decide_eq_false h1; omega
  subst this
  clear hkk hk2 hltf h1 hv
  have Mx : MaxP v i (frE es) (toE es) (cpE es) s' t' (onR room) := ⟨Fl.flow, fun r => nr ((rch_iff Fl.rm).2 r)⟩
  have hsd2 : ∀ u, u < v → (sd u = true ↔ Rch (RsS i (frE es) (toE es) (cpE es) (onR room)) s' u) := by
    intro u hu
    rw [hsd u hu, ← rch_iff Fl.rm, ← L.iff g.ends hu]
    simp
  -- the value
  have crossE : ∀ j, j < i → Rch (RsS i (frE es) (toE es) (cpE es) (onR room)) s' (frE es j) → ¬ Rch (RsS i (frE es) (toE es) (cpE es) (onR room)) s' (toE es j) → onR room j = cpE es j := fun j hj h1 h2 =>
    (Fl.flow.tight g.ends hsn .refl Mx.nr (by rw [Mx.cut g.ends hsn]; exact Int.le_refl _) j hj).1 h1 h2
  have b1q : Bl q b1 [.int .i64 v, .slice a i c] := B1g.ext bs.ext
  refine ⟨_, b1q.ld rfl, slcP_mk ?_⟩
  let cr : Nat → Int := fun j => if sd (frE es j) = true ∧ sd (toE es j) = false then onR room j else 0
  have crb : ∀ j, j < i → 0 ≤ cr j ∧ cr j ≤ 1048576 := by
    intro j hj
    have := onR_bd Fl.rm hc1 j hj
    show 0 ≤ (if sd (frE es j) = true ∧ sd (toE es j) = false then onR room j else 0) ∧ (if sd (frE es j) = true ∧ sd (toE es j) = false then onR room j else 0) ≤ 1048576
    split <;> omega
  have crs : ∀ j, j ≤ i → 0 ≤ sumN j cr ∧ sumN j cr ≤ 4294967296 := by
    intro j hj
    have h1 := sumN_nonneg (f := cr) (k := j) fun l hl => (crb l (by omega)).1
    have h2 := sumN_bd (f := cr) (k := j) (c := 1048576) fun l hl => (crb l (by omega)).2
    omega
  let I93 : (Int × Int × Unit) → H → Nat → Prop := fun p q2 k => ∃ (j : Nat), p.2.1 = j ∧ j ≤ i ∧ k = i - j ∧ p.1 = sumN j cr ∧ Ext q q2
  refine ⟨fun p q => ∃ k, I93 p q k, rk I93, rk_wf I93, ⟨_, 0, rfl, by omega, rfl, rfl, Ext.refl q⟩, ?_⟩
  intro val p q2 hI
  obtain ⟨j, e1, hj, hk2, hval, xq2⟩ := mu_spec hI
  generalize hkk : mu I93 ((val, p, ()), q2) = km at *
  change p = (j : Int) at e1
  subst e1
  change val = sumN j cr at hval
  subst hval
  have hltf : i - (j + 1) < mu I93 ((sumN j cr, (j : Int), ()), q2) ∨ ¬ j < i := by rw [hkk, hk2]; omega
  clear hI
  have cj := crs j hj
  have FX : Fm [] own q own q2 := Fm.of_ext xq2
  have k12 := k12.fm FX (by simp <;> omega)
  have k13 := k13.fm FX (by simp <;> omega)
  have k14 := k14.fm FX (by simp <;> omega)
  refine ifP_of (fun h1 => ?_) (fun h1 => ?_)
  · have hji : j < i := by have := of_decide_eq_true h1; omega
    obtain ⟨ad, rfl, hcc⟩ := hcE j hji
    have ef := g.fr hji
    have et := g.to hji
    refine ⟨by omega, by omega, ?_⟩
    rw [Int.toNat_natCast]
    refine ⟨(es j).vs, rfl, fun l v hl => (xh.trans' (bs.ext.trans' xq2)).cell (hcc l v hl), ?_⟩
    refine new_bl_st rfl rfl (ed_one _) ?_
    intro b100 g102 hb100 x102 B100
    have xn := xq2.trans' x102
    have FY : Fm [] own q2 own g102 := Fm.of_ext x102
    have k12 := k12.fm FY (by simp <;> omega)
    have k13 := k13.fm FY (by simp <;> omega)
    have k14 := k14.fm FY (by simp <;> omega)
    have nxt : ∀ x : Int, x = cr j → (∃ k, I93 (IntKind.i64.wrap (sumN j cr + x), IntKind.i64.wrap ((j : Int) + 1), ()) g102 k) ∧ rk I93 ((IntKind.i64.wrap (sumN j cr + x), IntKind.i64.wrap ((j : Int) + 1), ()), g102) ((sumN j cr, (j : Int), ()), q2) := by
      rintro x rfl
      have c2 := crs (j + 1) hji
      have e : sumN (j + 1) cr = sumN j cr + cr j := rfl
      have ew : IntKind.i64.wrap (sumN j cr + cr j) = sumN (j + 1) cr := by rw [e]; exact w64_in (by omega) (by omega)
      rw [ew, i64_inc (by omega)]
      exact mu_next (I := I93) (k := i - (j + 1)) ⟨j + 1, rfl, hji, rfl, rfl, xn⟩ (by omega)
    have nxt0 : cr j = 0 → (∃ k, I93 (sumN j cr, IntKind.i64.wrap ((j : Int) + 1), ()) g102 k) ∧ rk I93 ((sumN j cr, IntKind.i64.wrap ((j : Int) + 1), ()), g102) ((sumN j cr, (j : Int), ()), q2) := by
      intro h
      have := nxt 0 h.symm
      have ew : IntKind.i64.wrap (sumN j cr + 0) = sumN j cr := by
        have : IntKind.i64.wrap (sumN j cr + 0) = sumN j cr + 0 := w64_in (by omega) (by omega)
        rw [this]; omega
      rwa [ew] at this
    refine ⟨_, k14.ld rfl, _, B100.ed.1, ?_⟩
    rw [ef.1]
    refine k13.rdB ef.2 ?_
    refine ifP_of (fun h2 => ?_) (fun h2 => nxt0 (if_neg fun h => by rw [h2] at h; cases h.1))
    refine ⟨_, k14.ld rfl, _, B100.ed.2.1, ?_⟩
    rw [et.1]
    refine k13.rdB et.2 ?_
    refine ifP_of (fun h3 => ?_) (fun h3 => nxt0 (if_neg fun h => by rw [h.2] at h3; cases h3))
    have h3 : sd (toE es j) = false := by simpa using h3
    exact ⟨_, k14.ld rfl, k12.rdI hji (nxt _ (if_pos ⟨h2, h3⟩).symm)⟩
  have : j = i := by have := of_decide_eq_false h1; omega
  subst this
  have hv : sumN j cr = OutF j (frE es) (toE es) (onR room) s' := by
    rw [Mx.cut g.ends hsn]
    refine sumN_congr fun l hl => ?_
    have e1 := hsd2 _ (g.fr hl).2
    have e2 := hsd2 _ (g.to hl).2
    show (if sd (frE es l) = true ∧ sd (toE es l) = false then onR room l else 0) = _
    by_cases c1 : sd (frE es l) = true ∧ sd (toE es l) = false
    · have r1 := e1.1 c1.1
      have r2 : ¬ Rch (RsS j (frE es) (toE es) (cpE es) (onR room)) s' (toE es l) := fun h => by
        have := e2.2 h
        rw [c1.2] at this; cases this
      rw [if_pos c1, if_pos ⟨r1, r2⟩]
      exact crossE l hl r1 r2
    · rw [if_neg c1, if_neg]
      rintro ⟨r1, r2⟩
      refine c1 ⟨e1.2 r1, ?_⟩
      cases e : sd (toE es l)
      · rfl
      · exact absurd (e2.1 e) r2
  rw [hv]
  refine k14.ldN rfl ?_
  have B3q : Bl q2 b3 flZ := (B3.ext bs.ext).ext xq2
  refine B3q.stN rfl rfl (by simp [Value.oneCell']) ?_
  intro q3 kp B3q
  refine B3q.ldN rfl ⟨((xh.trans' bs.ext).trans' xq2).of_kp kp hb3h, .inr ⟨w0, v, s', t', b53, b55, onR room, sd, rfl, rfl, rfl, hsn, htn, hst, g, rfl, ?_⟩⟩
  have o53 := k12.sl
  have o55 := k13.sl
  have ne1 : b53 ≠ b3 := by
    rintro rfl
    obtain ⟨e, h1⟩ := B3
    have := bs.old _ _ h1
    omega
  have ne2 : b55 ≠ b3 := by
    rintro rfl
    obtain ⟨e, h1⟩ := B3
    have := bs.old _ _ h1
    omega
  exact ⟨hb53h, hb55h, hne2, o53.1.kp kp ne1, o55.1.kp kp ne2, Mx, hsd2⟩
end

end Go.Proofs.YtdcamadeblojdaaGreat

namespace Go.Proofs.YtdcamadeblojdaaGreat
open Go
set_option linter.unusedVariables false
set_option linter.unusedSimpArgs false

/-- The slice v shows vs. -/
def RS (h : H) (v : Value) (vs : List Value) : Prop := ∃ a c, v = .slice a vs.length c ∧ ∀ j x, vs[j]? = some x → ∃ ad, a = some ad ∧ hcell h (ad.add (j * 1)) = some x
section
variable {h h' : H} {v : Value} {vs : List Value}
theorem RS.ext (s : RS h v vs) (x : Ext h h') : RS h' v vs := by
  obtain ⟨a, c, e, k⟩ := s
  refine ⟨a, c, e, fun j y hj => ?_⟩
  obtain ⟨ad, e2, hc⟩ := k j y hj
  exact ⟨ad, e2, x.cell hc⟩
theorem RS.len {l : Nat} {K : Option Addr → Nat → Nat → Prop} (s : RS h v vs) (hl : vs.length = l) (k : ∀ a c, K a l c) : slcP v K := by
  obtain ⟨a, c, rfl, _⟩ := s
  rw [hl]; exact k _ _
theorem RS.at {j : Nat} {x : Value} {K : Addr → Prop} (s : RS h v vs) (hj : vs[j]? = some x) (k : ∀ a : Addr, hcell h a = some x → K a) : ixS v (j : Int) 1 K := by
  obtain ⟨a, c, rfl, g⟩ := s
  obtain ⟨ad, rfl, hc⟩ := g j x hj
  have hl := (List.getElem?_eq_some_iff.1 hj).1
  refine ⟨by omega, by omega, ?_⟩
  rw [Int.toNat_natCast]
  exact k _ hc
theorem RS.rd {j : Nat} {x : Int} {K : Int → Prop} (s : RS h v vs) (hj : vs[j]? = some (.int .i64 x)) (k : K x) : ixS v (j : Int) 1 fun a => ldI h a .i64 K := s.at hj fun a e => ⟨x, e, k⟩
theorem RS.rdI {j n : Nat} {f : Nat → Int} {K : Int → Prop} (s : RS h v (ints n f)) (hj : j < n) (k : K (f j)) : ixS v (j : Int) 1 fun a => ldI h a .i64 K := s.rd (ints_get hj) k
theorem RS.src (s : RS h v vs) : ∃ a c, v = .slice a vs.length c ∧ srcP h a (vs.length * 1) vs := by
  obtain ⟨a, c, rfl, g⟩ := s
  refine ⟨a, c, rfl, by rw [Nat.mul_one], ?_⟩
  cases a with
  | none =>
    cases vs with
    | nil => rfl
    | cons x xs =>
      obtain ⟨ad, e, _⟩ := g 0 x rfl
      cases e
  | some ad =>
    intro j x hj
    obtain ⟨ad', e, hc⟩ := g j x hj
    cases e
    rwa [Nat.mul_one] at hc
end

/-- The edges in a slice. -/
def Gs (h : H) (v : Value) (m : Nat) (es : Nat → Ed) : Prop := ∃ a c, v = .slice a m c ∧ ∀ i, i < m → ∃ ad, a = some ad ∧ hcells h (ad.add (i * 4)) (es i).vs
section
variable {h h' : H} {v : Value} {w : List Value} {n : Int} {m : Nat} {es : Nat → Ed}
theorem GrA.gs (G : GrA h w n m es) : ∃ v, w = [.int .i64 n, v] ∧ Gs h v m es := by
  obtain ⟨a, c, e, k⟩ := G
  exact ⟨_, e, a, c, rfl, k⟩
theorem Gs.gr (s : Gs h v m es) (n : Int) : GrA h [.int .i64 n, v] n m es := by
  obtain ⟨a, c, rfl, k⟩ := s
  exact ⟨a, c, rfl, k⟩
theorem Gs.ext (s : Gs h v m es) (x : Ext h h') : Gs h' v m es := by
  obtain ⟨a, c, e, k⟩ := s
  refine ⟨a, c, e, fun i hi => ?_⟩
  obtain ⟨ad, e2, hc⟩ := k i hi
  exact ⟨ad, e2, fun j v hj => x.cell (hc j v hj)⟩
theorem Gs.len {K : Option Addr → Nat → Nat → Prop} (s : Gs h v m es) (k : ∀ a c, K a m c) : slcP v K := by
  obtain ⟨a, c, rfl, _⟩ := s
  exact k _ _
theorem Gs.at {i : Nat} {K : Addr → Prop} (s : Gs h v m es) (hi : i < m) (k : ∀ a : Addr, hcells h a (es i).vs → K a) : ixS v (i : Int) 4 K := by
  obtain ⟨a, c, rfl, g⟩ := s
  obtain ⟨ad, rfl, hc⟩ := g i hi
  refine ⟨by omega, by omega, ?_⟩
  rw [Int.toNat_natCast]
  exact k _ hc
theorem Gs.e4 {i : Nat} {K : List Value → Prop} (s : Gs h v m es) (hi : i < m) (k : K (es i).vs) : ixS v (i : Int) 4 fun a => ldN h a 4 K := s.at hi fun a hc => ⟨_, rfl, hc, k⟩
end

def edF (es : Nat → Ed) (i j : Nat) : Int := match j with
  | 0 => (es i).f
  | 1 => (es i).t
  | 2 => (es i).c
  | _ => (es i).k
theorem edF_vs (es : Nat → Ed) (i : Nat) : ints 4 (edF es i) = (es i).vs := rfl
theorem ints_add {a b : Nat} {f : Nat → Int} : ints (a + b) f = ints a f ++ ints b fun i => f (a + i) := by
  unfold ints
  rw [List.range_add, List.map_append, List.map_map]
  rfl
theorem recs_snoc {m k : Nat} {st : Nat → Nat → Int} : recs (m + 1) k st = recs m k st ++ ints k (st m) := by
  unfold recs
  rw [Nat.add_mul, Nat.one_mul, ints_add]
  congr 1
  refine ints_ext fun i hi => ?_
  rw [at_div hi, at_mod hi]
theorem recs_ext {m k : Nat} {st st' : Nat → Nat → Int} (h : ∀ i, i < m → ∀ j, st i j = st' i j) : recs m k st = recs m k st' := by
  unfold recs
  refine ints_ext fun i hi => ?_
  rcases Nat.eq_zero_or_pos k with e | e
  · subst e; omega
  · exact h _ (Nat.div_lt_of_lt_mul (by rw [Nat.mul_comm]; exact hi)) _
/-- The slice v holds the first m edges of es; its block is the i-th owner's. -/
def S4 (own : Own) (h : H) (i : Nat) (v : Value) (m : Nat) (es : Nat → Ed) : Prop :=
  (m = 0 ∧ v = .slice none 0 0) ∨ ∃ b c e zs, own b = i ∧ v = .slice (some (bk b)) m c ∧ h b = some (.cells ⟨recs m 4 (edF es) ++ zs⟩ e (0, 0)) ∧ m * 4 + zs.length = c * 4
section
variable {own own' : Own} {h h' : H} {i m : Nat} {v : Value} {es : Nat → Ed}
theorem S4.nil : S4 own h i (.slice none 0 0) 0 es := .inl ⟨rfl, rfl⟩
theorem S4.fm {M : List Nat} (s : S4 own h i v m es) (F : Fm M own h own' h') (hM : i ∉ M) : S4 own' h' i v m es := by
  rcases s with s | ⟨b, c, e, zs, hb, h1, h2, h3⟩
  · exact .inl s
  · exact .inr ⟨b, c, e, zs, (F.stay b _ h2).2.trans hb, h1, F.keep b _ h2 (by rw [hb]; exact hM), h3⟩
theorem S4.nw {b j : Nat} (s : S4 own h i v m es) (x : Ext h h') (hb : h b = none) : S4 (own1 own b j) h' i v m es := s.fm (M := []) (Fm.new x hb) (by simp)
theorem S4.isS (s : S4 own h i v m es) : ∃ a l c, v = .slice a l c := by
  rcases s with ⟨_, rfl⟩ | ⟨b, c, e, zs, hb, rfl, _⟩ <;> exact ⟨_, _, _, rfl⟩
theorem S4.congr {es' : Nat → Ed} (s : S4 own h i v m es) (he : ∀ j, j < m → es' j = es j) : S4 own h i v m es' := by
  rcases s with s | ⟨b, c, e, zs, hb, h1, h2, h3⟩
  · exact .inl s
  · refine .inr ⟨b, c, e, zs, hb, h1, ?_, h3⟩
    rw [recs_ext (st := edF es') (st' := edF es) fun j hj k => by unfold edF; rw [he j hj]]
    exact h2
theorem S4.gs (s : S4 own h i v m es) : Gs h v m es := by
  rcases s with ⟨rfl, rfl⟩ | ⟨b, c, e, zs, hb, rfl, h2, h3⟩
  · exact ⟨none, 0, rfl, fun i hi => by omega⟩
  · refine ⟨_, c, rfl, fun j hj => ⟨_, rfl, fun l x hl => ?_⟩⟩
    have hl4 : l < 4 := by have := (List.getElem?_eq_some_iff.1 hl).1; simpa using this
    rw [bk_add, bk_add2, hcell_at h2, List.getElem?_toArray, List.getElem?_append_left (by rw [recs_length]; exact at_lt hj hl4), recs_get hj hl4]
    rw [← edF_vs, ints_get hl4] at hl
    exact hl
theorem nextcap1_le {sc : Nat} : Builtin.nextslicecap (sc + 1) sc ≤ sc + sc / 4 + 600 := by
  unfold Builtin.nextslicecap
  split
  · omega
  · split
    · omega
    · simp only [Builtin.growBy]
      repeat' split
      all_goals omega
theorem S4.push {ed : Ed} {ex : Nat} {K : Nat → H → Value → H → Prop} {e : Nat} {z0 z1 z2 z3 : Value} (s : S4 own h i v m es) (hm : m ≤ 4398046511104)
    (k : ∀ bx hm p' own' h', h bx = none → Ext h hm → Fm [i] own h own' h' → S4 own' h' i p' (m + 1) (fun j => if j = m then ed else es j) → K bx hm p' h') :
    newP h (.cells ⟨ed.vs⟩ ex (0, 0)) fun bx hm => apP v (.slice (some (bk bx)) 1 1) hm 4 e 32 [z0, z1, z2, z3] (K bx hm) := by
  refine new_put ?_
  intro bx hm' hbx xm hx
  have hsrc : srcP hm' (some (bk bx)) (1 * 4) ed.vs := by
    refine ⟨rfl, fun j v hj => ?_⟩
    rw [bk_add, hcell_at hx, List.getElem?_toArray]
    exact hj
  have hzl : ∀ q, (zrep [z0, z1, z2, z3] q).length = q * 4 := by
    intro q
    unfold zrep
    rw [List.length_flatten]
    simp
  have hvs : recs (m + 1) 4 (edF fun j => if j = m then ed else es j) = recs m 4 (edF es) ++ ed.vs := by
    rw [recs_snoc]
    congr 1
    · refine recs_ext fun j hj l => ?_
      have e : (fun j => if j = m then ed else es j) j = es j := if_neg (by omega)
      unfold edF; rw [e]
    · rw [edF_vs, if_pos rfl]
  rcases s with ⟨rfl, rfl⟩ | ⟨b, c, eb, zs, hob, rfl, h2, h3⟩
  · refine ⟨ed.vs, hsrc, fun hle => by omega, fun hlt => ⟨?_, [], ⟨rfl, rfl⟩, fun cap hcap => ?_⟩⟩
    · have := nextcap_le hlt
      calc _ ≤ (2 * (0 + 1) + 192) * 32 := Nat.mul_le_mul_right _ this
        _ ≤ _ := by omega
    · refine new_put ?_
      intro b g hbn x1 e1
      rw [Nat.zero_add] at e1 hcap ⊢
      refine k bx hm' _ (own1 own b i) g hbx xm (Fm.new (xm.trans' x1) (xm.new hbn)) (.inr ⟨b, cap, e, zrep [z0, z1, z2, z3] (cap - 1), own1_at, rfl, by rw [e1, hvs]; rfl, ?_⟩)
      rw [hzl]; omega
  · have h2m := xm _ _ h2
    have hlen : (recs m 4 (edF es)).length = m * 4 := recs_length _ _ _
    refine ⟨ed.vs, hsrc, fun hle => ⟨fun _ => ?_, ed_one ed, ?_⟩, fun hlt => ⟨?_, recs m 4 (edF es), ⟨hlen, ?_⟩, fun cap hcap => ?_⟩⟩
    · rw [bk_add]
      refine ⟨_, _, h2m, rfl, ?_⟩
      simp only [List.size_toArray, List.length_append, hlen, List.length_cons, List.length_nil]
      omega
    · rw [bk_add]
      have e2 : hset hm' ⟨b, m * 4, none⟩ ed.vs b = some (.cells ⟨recs (m + 1) 4 (edF fun j => if j = m then ed else es j) ++ zs.drop 4⟩ eb (0, 0)) := by
        unfold hset
        rw [if_pos rfl, h2m]
        simp only [Option.map_some]
        rw [setR_list _ _ _ (by simp only [List.length_append, hlen, List.length_cons, List.length_nil]; omega), hvs]
        congr 3
        rw [List.take_append_of_le_length (by omega), List.take_of_length_le (by omega), List.drop_append, List.drop_of_length_le (by simp only [List.length_cons, List.length_nil]; omega)]
        simp [hlen]
      refine k bx hm' _ own _ hbx xm ((Fm.of_ext xm).trans (Fm.kp (b := b) ?_ hob ⟨_, e2⟩)) (.inr ⟨b, c, eb, zs.drop 4, hob, rfl, e2, by rw [List.length_drop]; omega⟩)
      intro j o hj hh
      unfold hset
      rw [if_neg hj]; exact hh
    · have hcm : c = m := by omega
      subst hcm
      calc _ ≤ (c + c / 4 + 600) * 32 := Nat.mul_le_mul_right _ nextcap1_le
        _ ≤ _ := by omega
    · intro j x hj
      rw [bk_add, hcell_at h2m, List.getElem?_toArray]
      have := (List.getElem?_eq_some_iff.1 hj).1
      rw [List.getElem?_append_left this]
      exact hj
    · refine new_put ?_
      intro b' g hbn x1 e1
      refine k bx hm' _ (own1 own b' i) g hbx xm (Fm.new (xm.trans' x1) (xm.new hbn)) (.inr ⟨b', cap, e, zrep [z0, z1, z2, z3] (cap - (m + 1)), own1_at, rfl, by rw [e1, hvs], ?_⟩)
      rw [hzl]; omega
end

end Go.Proofs.YtdcamadeblojdaaGreat

namespace Go.Proofs.YtdcamadeblojdaaGreat
open Go
set_option linter.unusedVariables false
set_option linter.unusedSimpArgs false

/-- append(p, q...): q is only read. -/
theorem S1.catR {own : Own} {h : H} {i : Nat} {p q z : Value} {vs ws : List Value} {K : Value → H → Prop} {e bytes : Nat} (s : S1 own h i p vs) (s2 : RS h q ws)
    (one : ∀ v ∈ ws, v.oneCell' = true) (hb : bytes ≤ 8) (hl : vs.length + ws.length < 1000000)
    (k : ∀ p' own' h', Fm [i] own h own' h' → S1 own' h' i p' (vs ++ ws) → K p' h') :
    apP p q h 1 e bytes [z] K := by
  have hzl : ∀ m, (zrep [z] m).length = m := by intro m; simp [zrep]
  obtain ⟨qa, qc, rfl, hsrc⟩ := s2.src
  rcases s with ⟨rfl, rfl⟩ | ⟨b, hob, c, eb, zs, rfl, h2, h3⟩
  · refine ⟨ws, hsrc, fun hle => ?_, fun hlt => ⟨?_, [], ⟨rfl, rfl⟩, fun cap hcap => ?_⟩⟩
    · have : ws = [] := List.length_eq_zero_iff.1 (by omega)
      subst this
      exact ⟨rfl, k _ own h Fm.refl (.inl ⟨rfl, rfl⟩)⟩
    · have := nextcap_le hlt
      calc _ ≤ (2 * (0 + ws.length) + 192) * bytes := Nat.mul_le_mul_right _ this
        _ ≤ (2 * (0 + ws.length) + 192) * 8 := Nat.mul_le_mul_left _ hb
        _ ≤ _ := by simp at hl; omega
    · refine new_put ?_
      intro b g hbn x e1
      rw [Nat.zero_add] at e1 hcap ⊢
      refine k _ (own1 own b i) g (Fm.new x hbn) (.inr ⟨b, own1_at, cap, e, zrep [z] (cap - ws.length), rfl, by rw [e1], ?_⟩)
      rw [hzl]; simp; omega
  · refine ⟨ws, hsrc, fun hle => ⟨fun _ => ?_, one, ?_⟩, fun hlt => ⟨?_, vs, ⟨by rw [Nat.mul_one], ?_⟩, fun cap hcap => ?_⟩⟩
    · rw [bk_add]
      refine ⟨_, _, h2, rfl, ?_⟩
      simp only [List.size_toArray, List.length_append]
      omega
    · rw [bk_add]
      have e2 : hset h ⟨b, vs.length * 1, none⟩ ws b = some (.cells ⟨vs ++ ws ++ zs.drop ws.length⟩ eb (0, 0)) := by
        unfold hset
        rw [if_pos rfl, h2]
        simp only [Option.map_some, Nat.mul_one]
        rw [setR_list _ _ _ (by simp; omega)]
        simp [List.take_append, List.drop_append]
      refine k _ own _ (Fm.kp (b := b) ?_ hob ⟨_, e2⟩) (.inr ⟨b, hob, c, eb, zs.drop ws.length, by simp, e2, by simp; omega⟩)
      intro j o hj hh
      unfold hset
      rw [if_neg hj]; exact hh
    · have := nextcap_le hlt
      calc _ ≤ (2 * (vs.length + ws.length) + 192) * bytes := Nat.mul_le_mul_right _ this
        _ ≤ (2 * (vs.length + ws.length) + 192) * 8 := Nat.mul_le_mul_left _ hb
        _ ≤ _ := by omega
    · intro j v hj
      rw [bk_add, hcell_at h2, List.getElem?_toArray]
      have := (List.getElem?_eq_some_iff.1 hj).1
      rw [List.getElem?_append_left this]
      exact hj
    · refine new_put ?_
      intro b' g hbn x e1
      refine k _ (own1 own b' i) g (Fm.new x hbn) (.inr ⟨b', own1_at, cap, e, zrep [z] (cap - (vs.length + ws.length)), by simp, by rw [e1], ?_⟩)
      rw [hzl]; simp; omega

end Go.Proofs.YtdcamadeblojdaaGreat

namespace Go.Proofs.YtdcamadeblojdaaGreat
open Go
set_option linter.unusedVariables false
set_option linter.unusedSimpArgs false

theorem end0 {h : H} {b : Nat} {s t : Int} {K : Int → Prop} (B : Bl h b [.int .i64 s, .int .i64 t]) (k : K s) : ixA (bk b) 2 0 1 fun a => ldI h a .i64 K := ⟨by omega, by omega, _, B.ld (i := 0) rfl, k⟩
theorem end1 {h : H} {b : Nat} {s t : Int} {K : Int → Prop} (B : Bl h b [.int .i64 s, .int .i64 t]) (k : K t) : ixA (bk b) 2 1 1 fun a => ldI h a .i64 K := ⟨by omega, by omega, _, B.ld (i := 1) rfl, k⟩

end Go.Proofs.YtdcamadeblojdaaGreat

namespace Go.Proofs.YtdcamadeblojdaaGreat
open Go
open Classical
set_option linter.unusedVariables false
set_option linter.unusedSimpArgs false

theorem Gd.iff {n : Nat} {m : Nat} {es : Nat → Ed} : (faultG n m es).1 = 0 ↔ Gd n m es := by
  constructor
  · intro h
    obtain ⟨n', e, g⟩ := Gd.of h
    have : n' = n := by omega
    subst this; exact g
  · intro g; rw [g.no]
end Go.Proofs.YtdcamadeblojdaaGreat

namespace Go.Proofs.YtdcamadeblojdaaGreat
open Go
set_option linter.unusedVariables false
set_option linter.unusedSimpArgs false

section
variable {h : H} {w : List Value} {n : Int} {m : Nat} {es : Nat → Ed}
theorem Solve1_T (G : GrA h w n m es) (s t k : Int) (hk1 : k = 1) : T Tryz.prog F.maxflow_Solve [.agg ⟨w⟩, .int .i64 s, .int .i64 t, .int .i64 k] h (SolA h n m es s t k) := by
  refine E_maxflow_Solve ?_
  unfold B_maxflow_Solve
  refine new_bl ?_
  intro b1 g2 hb1 x1 B1_
  refine new_bl ?_
  intro b3 g4 hb3 x3 B3
  have B1_ := B1_.ext x3
  have x13 := x1.trans' x3
  have hb3h := x1.new hb3
  refine B1_.ldN G.one.1 ?_
  refine (Check_T (G.ext x13)).mono ?_
  rintro _ g7 ⟨rfl, x7⟩
  refine rt_ret ⟨_, rfl, rfl, ?_⟩
  have B1_ := B1_.ext x7
  have B3 := B3.ext x7
  refine new_bl_st rfl rfl (by simp [Value.oneCell']) ?_
  intro b9 g11 hb9 x9 B9
  have B1_ := B1_.ext x9
  have B3 := B3.ext x9
  have xh : Ext h g11 := (x13.trans' x7).trans' x9
  have hne : b9 ≠ b3 := by
    rintro rfl
    obtain ⟨e, h1⟩ := B3
    have := x7
    obtain ⟨e2, h2⟩ := B9
    rw [h1] at h2
    simp at h2
  -- an error
  have err : ∀ {q : H} {c : Int}, Ext h q → Bl q b3 flZ → c ≠ 0 → wrong13 n m es s t k = c → stN q (bk b3) flZ 4 fun h14 => ldN h14 (bk b3) 4 fun x15 =>
      SolA h n m es s t k (.ret (.tuple ⟨[.agg ⟨x15⟩, .int .i64 0, .int .i64 c]⟩)) h14 := by
    rintro q c xq Bq hc rfl
    refine Bq.stN rfl rfl (by simp [Value.oneCell']) ?_
    intro q2 kp B2
    exact B2.ldN rfl ⟨xq.of_kp kp hb3h, .inl ⟨hc, rfl⟩⟩
  refine ⟨_, B9.ld rfl, ifP_of (fun h0 => ?_) (fun h0 => ?_)⟩
  · have h0 : (faultG n m es).1 ≠ 0 := by simpa using h0
    refine ⟨_, B9.ld rfl, ?_⟩
    refine B3.stN rfl rfl (by simp [Value.oneCell']) ?_
    intro q2 kp B2
    refine ⟨sameAt_bl B9 (B9.kp kp hne), B2.ldN rfl ⟨xh.of_kp kp hb3h, .inl ⟨?_, ?_⟩⟩⟩
    · unfold wrong13 endsC wrongC
      rw [if_neg h0, if_neg h0, if_neg h0]; exact h0
    · have : wrong13 n m es s t k = (faultG n m es).1 := by
        unfold wrong13 endsC wrongC
        rw [if_neg h0, if_neg h0, if_neg h0]
      rw [this]
  have h0 : (faultG n m es).1 = 0 := by simpa using h0
  obtain ⟨N, rfl, g⟩ := Gd.of h0
  have n1 := g.n1
  have m1 := g.m1
  have wC : ∀ x, wrongC N m es x = if 0 ≤ x ∧ x < N then 0 else 30 := fun x => if_pos h0
  have w30 : ¬ (0 ≤ s ∧ s < N) ∨ ¬ (0 ≤ t ∧ t < N) → wrong13 N m es s t k = 30 := by
    intro h
    have : endsC N m es s t = 30 := by
      unfold endsC
      rw [wC, wC]
      by_cases h1 : 0 ≤ s ∧ s < N
      · rw [if_pos h1]
        rcases h with h | h
        · exact absurd h1 h
        · rw [if_neg h]; rfl
      · rw [if_neg h1]; rfl
    unfold wrong13
    rw [this]; rfl
  obtain ⟨a, c, rfl, hcE⟩ := G
  have G : GrA h [.int .i64 N, .slice a m c] N m es := ⟨a, c, rfl, hcE⟩
  refine ⟨fun _ q => g11 = q ∧ (0 ≤ s ∧ s < N) ∧ (0 ≤ t ∧ t < N), ?_, ?_⟩
  · refine ifP_of (fun h1 => err xh B3 (by omega) (w30 (.inl (by have := of_decide_eq_true h1; omega)))) (fun h1 => ?_)
    have h1 := of_decide_eq_false h1
    refine ⟨_, B1_.ld rfl, ifP_of (fun h2 => err xh B3 (by omega) (w30 (.inl (by have := of_decide_eq_true h2; omega)))) (fun h2 => ?_)⟩
    have h2 := of_decide_eq_false h2
    refine ifP_of (fun h3 => err xh B3 (by omega) (w30 (.inr (by have := of_decide_eq_true h3; omega)))) (fun h3 => ?_)
    have h3 := of_decide_eq_false h3
    refine ⟨_, B1_.ld rfl, ifP_of (fun h4 => err xh B3 (by omega) (w30 (.inr (by have := of_decide_eq_true h4; omega)))) (fun h4 => ?_)⟩
    have h4 := of_decide_eq_false h4
    exact ⟨rfl, by omega, by omega⟩
  rintro _ ⟨rfl, hsr, htr⟩
  obtain ⟨s', rfl⟩ : ∃ s' : Nat, s = s' := ⟨s.toNat, by omega⟩
  obtain ⟨t', rfl⟩ : ∃ t' : Nat, t = t' := ⟨t.toNat, by omega⟩
  have hsn : s' < N := by omega
  have htn : t' < N := by omega
  have wE : endsC N m es s' t' = if (s' : Int) = t' then 120 else 0 := by
    unfold endsC
    rw [wC, wC, if_pos hsr, if_pos htr]; rfl
  refine ifP_of (fun h5 => err xh B3 (by omega) ?_) (fun h5 => ?_)
  · unfold wrong13
    rw [wE, if_pos (of_decide_eq_true h5)]; rfl
  have h5 := of_decide_eq_false h5
  have hst : s' ≠ t' := by omega
  rw [if_neg h5] at wE
  refine B1_.ldN rfl ?_
  refine (newNet_T (s := s') (t := t') (G.ext xh) g).mono ?_
  rintro _ g32 ⟨bn, own, rfl, bs, Nt⟩
  refine rt_ret ?_
  have O0 : ∀ u, OutF m (frE es) (toE es) (onR (room0 (cpE es))) u = 0 := room0_out
  have hc0 : ∀ i, i < m → 0 ≤ cpE es i := fun i hi => (g.c i hi).1
  have hc1 : ∀ i, i < m → cpE es i ≤ 1048576 := fun i hi => (g.c i hi).2
  have R0 := room0_ok hc0
  have F0 : FlS N m (frE es) (toE es) (cpE es) s' t' (room0 (cpE es)) := ⟨R0, fun v _ _ _ => O0 v⟩
  refine ⟨fun p q => (1 ≤ k ∧ k ≤ 3) ∧ ∃ ty f bo, p.1 = .iface ty (.pointer (some (bk bo))) ∧
    (∀ w, (method (Tryz.prog.types.size + Made.depth) ty (.pointer (some (bk bo))) "compass/maxflow.fill").run Tryz.prog w = .ok (f, .pointer (some (bk bo))) w) ∧
    T Tryz.prog f [.pointer (some (bk bo))] q fun r h' => r = .ret (.tuple ⟨[]⟩) ∧ ∃ own' room', Bs g11 own' h' ∧ Net own' h' bn N m (frE es) (toE es) s' t' room' ∧ FlS N m (frE es) (toE es) (cpE es) s' t' room' ∧ ¬ Rch (ArS m (frE es) (toE es) room') s' t', ?_, ?_⟩
  · refine ifP_of (fun h6 => ?_) (fun h6 => ?_)
    · have h6 := of_decide_eq_true h6
      refine oneP_ptr (new_bl ?_)
      intro bo q hbo xo Bo
      refine ⟨by omega, 93, F.maxflow_dinic_fill, bo, rfl, meth57 _, ?_⟩
      refine (dfill_T hc1 g.ends m1 n1 hsn htn (Nt.new (i := 5) xo hbo) (B1.new Bo) F0 hst).mono ?_
      rintro _ q2 ⟨own', room', rfl, F, N2, f1, f2⟩
      exact ⟨rfl, own', room', (bs.new xo hbo).fm F (by simp), N2, f1, f2⟩
    exact absurd hk1 (of_decide_eq_false h6)
  rintro v35 q ⟨hk, ty, f, bo, hv, hm, hT⟩
  change v35 = _ at hv
  subst hv
  refine ⟨f, _, fun w _ => hm w, ?_⟩
  refine hT.mono ?_
  rintro _ g47 ⟨rfl, own, room, bs, Nt, Fl, nr⟩
  refine rt_ret ⟨rfl, ?_⟩
  clear hT hm
  have B1g := B1_
  have w0 : wrong13 N m es s' t' k = 0 := by
    unfold wrong13
    rw [wE, if_pos rfl, if_pos hk]
  have B1_ := B1_.ext bs.ext
  have xq := xh.trans' bs.ext
  refine ⟨_, B1_.ld rfl, slcP_mk ⟨_, B1_.ld rfl, ?_⟩⟩
  refine mk_ints 12 (by omega) (by omega) ?_
  intro b53 g54 hb53 x54 S12
  have bs := bs.new (i := 12) x54 hb53
  have Nt := Nt.new (i := 12) x54 hb53
  have k12 := S12 own
  generalize own1 own b53 12 = own at *
  clear S12
  refine mk_bools 13 (by omega) (by omega) ?_
  intro b55 g56 hb55 x56 S13
  have bs := bs.new (i := 13) x56 hb55
  have Nt := Nt.new (i := 13) x56 hb55
  have k13 := S13 own
  have k12 := k12.nw (j := 13) x56 hb55
  generalize own1 own b55 13 = own at *
  clear S13
  refine new_bl_st rfl rfl (by simp [Value.oneCell']) ?_
  intro b57 g59 hb57 x59 B57
  have bs := bs.new (i := 14) x59 hb57
  have Nt := Nt.new (i := 14) x59 hb57
  have k12 := k12.nw (j := 14) x59 hb57
  have k13 := k13.nw (j := 14) x59 hb57
  have k14 : B1 (own1 own b57 14) g59 14 b57 _ := B1.new B57
  generalize own1 own b57 14 = own at *
  rw [Int.toNat_natCast, Int.toNat_natCast] at k14
  have B1_ := ((B1_.ext x54).ext x56).ext x59
  have hb53h : h b53 = none := xq.new hb53
  have hb55h : h b55 = none := (xq.trans' x54).new hb55
  have hne2 : b53 ≠ b55 := by
    rintro rfl
    have h1 := k12.sl.2
    have h2 := k13.sl.2
    omega
  clear B57 x54 x56 x59 hb57 hb55 hb53
  refine ⟨_, B1_.ld rfl, slcP_mk ?_⟩
  let I64 : (Int × Unit) → H → Nat → Prop := fun p q k => ∃ (i : Nat) (f : Nat → Int), p.1 = i ∧ i ≤ m ∧ k = m - i ∧ Bs g11 own q ∧ Net own q bn N m (frE es) (toE es) s' t' room ∧
    S1 own q 12 (slV b53 m) (ints m f) ∧ S1 own q 13 (slV b55 N) (bools N fun _ => false) ∧ B1 own q 14 b57 (flV s' t' (slV b53 m) (slV b55 N)) ∧ ∀ j, j < i → f j = onR room j
  refine ⟨fun p q => ∃ k, I64 p q k, rk I64, rk_wf I64, ⟨_, 0, _, rfl, by omega, rfl, bs, Nt, k12, k13, k14, fun j hj => by omega⟩, ?_⟩
  clear bs Nt k12 k13 k14
  intro p q hI
  obtain ⟨i, f, e1, hi, hk2, bs, Nt, k12, k13, k14, hf⟩ := mu_spec hI
  generalize hkk : mu I64 ((p, ()), q) = km at *
  change p = (i : Int) at e1
  subst e1
  have hltf : m - (i + 1) < mu I64 (((i : Int), ()), q) ∨ ¬ i < m := by rw [hkk, hk2]; omega
  clear hI
  obtain ⟨vto, vroom, vout, outs, q4, q1, q2, q3, qa⟩ := Nt.ex
  refine ifP_of (fun h1 => ?_) (fun h1 => ?_)
  · have him : i < m := by have := of_decide_eq_true h1; omega
    refine ptrP_mk ⟨_, k14.ld rfl, _, q4.ld rfl, ?_⟩
    have ew : IntKind.i64.wrap (IntKind.i64.wrap (2 * (i : Int)) + 1) = ((2 * i + 1 : Nat) : Int) := by
      have e1 : IntKind.i64.wrap (2 * (i : Int)) = 2 * (i : Int) := w64_in (by omega) (by omega)
      have e2 : IntKind.i64.wrap (2 * (i : Int) + 1) = 2 * (i : Int) + 1 := w64_in (by omega) (by omega)
      rw [e1, e2]; omega
    rw [ew]
    refine q2.rdI (by omega) (k12.setI him ?_)
    intro g74 F k12
    have bs := bs.fm F (by simp <;> omega)
    have k13 := k13.fm F (by simp <;> omega)
    have k14 := k14.fm F (by simp <;> omega)
    have Nt : Net own g74 bn N m (frE es) (toE es) s' t' room := Nt.fm F (by simp)
    rw [i64_inc (by omega)]
    refine mu_next (I := I64) (k := m - (i + 1)) ⟨i + 1, _, rfl, him, rfl, bs, Nt, k12, k13, k14, fun j hj => ?_⟩ (by omega)
    by_cases e : j = i
    · subst e; rw [upd_at]; rfl
    · rw [upd_ne e]; exact hf j (by omega)
  have : i = m := by have := of_decide_eq_false h1; omega
  subst this
  clear hkk hk2 hltf h1 hi
  have ef : ints i f = ints i (onR room) := ints_ext hf
  rw [ef] at k12
  clear ef hf
  refine (levels_T Nt g.ends n1 m1 hsn).mono ?_
  rintro _ g76 ⟨x76, bl, lev, rfl, hbl, Sl6, L⟩
  refine rt_ret (slcP_mk ?_)
  have bs := bs.new (i := 15) x76 hbl
  have Nt := Nt.new (i := 15) x76 hbl
  have k12 := k12.nw (j := 15) x76 hbl
  have k13 := k13.nw (j := 15) x76 hbl
  have k14 := k14.nw (j := 15) x76 hbl
  have k15 : S1 (own1 own bl 15) g76 15 (slV bl N) (ints N lev) := S1.of Sl6 own
  generalize own1 own bl 15 = own at *
  clear Sl6 hbl x76 q4 q1 q2 q3 qa
  let I80 : (Int × Unit) → H → Nat → Prop := fun p q k => ∃ (v : Nat) (sd : Nat → Bool), p.1 = v ∧ v ≤ N ∧ k = N - v ∧ Bs g11 own q ∧
    S1 own q 12 (slV b53 i) (ints i (onR room)) ∧ S1 own q 13 (slV b55 N) (bools N sd) ∧ B1 own q 14 b57 (flV s' t' (slV b53 i) (slV b55 N)) ∧ S1 own q 15 (slV bl N) (ints N lev) ∧ ∀ j, j < v → sd j = decide (0 ≤ lev j)
  refine ⟨fun p q => ∃ k, I80 p q k, rk I80, rk_wf I80, ⟨_, 0, _, rfl, by omega, rfl, bs, k12, k13, k14, k15, fun j hj => by omega⟩, ?_⟩
  clear bs k12 k13 k14 k15
  intro p q hI
  obtain ⟨v, sd, e1, hv, hk2, bs, k12, k13, k14, k15, hsd⟩ := mu_spec hI
  generalize hkk : mu I80 ((p, ()), q) = km at *
  change p = (v : Int) at e1
  subst e1
  have hltf : N - (v + 1) < mu I80 (((v : Int), ()), q) ∨ ¬ v < N := by rw [hkk, hk2]; omega
  clear hI
  refine ifP_of (fun h1 => ?_) (fun h1 => ?_)
  · have hvn : v < N := by have := of_decide_eq_true h1; omega
    refine k15.rdI hvn ⟨_, k14.ld rfl, k13.setB hvn ?_⟩
    intro g88 F k13
    have bs := bs.fm F (by simp <;> omega)
    have k12 := k12.fm F (by simp <;> omega)
    have k14 := k14.fm F (by simp <;> omega)
    have k15 := k15.fm F (by simp <;> omega)
    rw [i64_inc (by omega)]
    refine mu_next (I := I80) (k := N - (v + 1)) ⟨v + 1, _, rfl, hvn, rfl, bs, k12, k13, k14, k15, fun j hj => ?_⟩ (by omega)
    unfold updB
    by_cases e : j = v
    · subst e; rw [if_pos rfl]
    · rw [if_neg e]; exact hsd j (by omega)
  have : v = N := by have := of_decide_eq_false h1; omega
  subst this
  clear hkk hk2 hltf h1 hv
  have Mx : MaxP v i (frE es) (toE es) (cpE es) s' t' (onR room) := ⟨Fl.flow, fun r => nr ((rch_iff Fl.rm).2 r)⟩
  have hsd2 : ∀ u, u < v → (sd u = true ↔ Rch (RsS i (frE es) (toE es) (cpE es) (onR room)) s' u) := by
    intro u hu
    rw [hsd u hu, ← rch_iff Fl.rm, ← L.iff g.ends hu]
    simp
  -- the value
  have crossE : ∀ j, j < i → Rch (RsS i (frE es) (toE es) (cpE es) (onR room)) s' (frE es j) → ¬ Rch (RsS i (frE es) (toE es) (cpE es) (onR room)) s' (toE es j) → onR room j = cpE es j := fun j hj h1 h2 =>
    (Fl.flow.tight g.ends hsn .refl Mx.nr (by rw [Mx.cut g.ends hsn]; exact Int.le_refl _) j hj).1 h1 h2
  have b1q : Bl q b1 [.int .i64 v, .slice a i c] := B1g.ext bs.ext
  refine ⟨_, b1q.ld rfl, slcP_mk ?_⟩
  let cr : Nat → Int := fun j => if sd (frE es j) = true ∧ sd (toE es j) = false then onR room j else 0
  have crb : ∀ j, j < i → 0 ≤ cr j ∧ cr j ≤ 1048576 := by
    intro j hj
    have := onR_bd Fl.rm hc1 j hj
    show 0 ≤ (if sd (frE es j) = true ∧ sd (toE es j) = false then onR room j else 0) ∧ (if sd (frE es j) = true ∧ sd (toE es j) = false then onR room j else 0) ≤ 1048576
    split <;> omega
  have crs : ∀ j, j ≤ i → 0 ≤ sumN j cr ∧ sumN j cr ≤ 4294967296 := by
    intro j hj
    have h1 := sumN_nonneg (f := cr) (k := j) fun l hl => (crb l (by omega)).1
    have h2 := sumN_bd (f := cr) (k := j) (c := 1048576) fun l hl => (crb l (by omega)).2
    omega
  let I93 : (Int × Int × Unit) → H → Nat → Prop := fun p q2 k => ∃ (j : Nat), p.2.1 = j ∧ j ≤ i ∧ k = i - j ∧ p.1 = sumN j cr ∧ Ext q q2
  refine ⟨fun p q => ∃ k, I93 p q k, rk I93, rk_wf I93, ⟨_, 0, rfl, by omega, rfl, rfl, Ext.refl q⟩, ?_⟩
  intro val p q2 hI
  obtain ⟨j, e1, hj, hk2, hval, xq2⟩ := mu_spec hI
  generalize hkk : mu I93 ((val, p, ()), q2) = km at *
  change p = (j : Int) at e1
  subst e1
  change val = sumN j cr at hval
  subst hval
  have hltf : i - (j + 1) < mu I93 ((sumN j cr, (j : Int), ()), q2) ∨ ¬ j < i := by rw [hkk, hk2]; omega
  clear hI
  have cj := crs j hj
  have FX : Fm [] own q own q2 := Fm.of_ext xq2
  have k12 := k12.fm FX (by simp <;> omega)
  have k13 := k13.fm FX (by simp <;> omega)
  have k14 := k14.fm FX (by simp <;> omega)
  refine ifP_of (fun h1 => ?_) (fun h1 => ?_)
  · have hji : j < i := by have := of_decide_eq_true h1; omega
    obtain ⟨ad, rfl, hcc⟩ := hcE j hji
    have ef := g.fr hji
    have et := g.to hji
    refine ⟨by omega, by omega, ?_⟩
    rw [Int.toNat_natCast]
    refine ⟨(es j).vs, rfl, fun l v hl => (xh.trans' (bs.ext.trans' xq2)).cell (hcc l v hl), ?_⟩
    refine new_bl_st rfl rfl (ed_one _) ?_
    intro b100 g102 hb100 x102 B100
    have xn := xq2.trans' x102
    have FY : Fm [] own q2 own g102 := Fm.of_ext x102
    have k12 := k12.fm FY (by simp <;> omega)
    have k13 := k13.fm FY (by simp <;> omega)
    have k14 := k14.fm FY (by simp <;> omega)
    have nxt : ∀ x : Int, x = cr j → (∃ k, I93 (IntKind.i64.wrap (sumN j cr + x), IntKind.i64.wrap ((j : Int) + 1), ()) g102 k) ∧ rk I93 ((IntKind.i64.wrap (sumN j cr + x), IntKind.i64.wrap ((j : Int) + 1), ()), g102) ((sumN j cr, (j : Int), ()), q2) := by
      rintro x rfl
      have c2 := crs (j + 1) hji
      have e : sumN (j + 1) cr = sumN j cr + cr j := rfl
      have ew : IntKind.i64.wrap (sumN j cr + cr j) = sumN (j + 1) cr := by rw [e]; exact w64_in (by omega) (by omega)
      rw [ew, i64_inc (by omega)]
      exact mu_next (I := I93) (k := i - (j + 1)) ⟨j + 1, rfl, hji, rfl, rfl, xn⟩ (by omega)
    have nxt0 : cr j = 0 → (∃ k, I93 (sumN j cr, IntKind.i64.wrap ((j : Int) + 1), ()) g102 k) ∧ rk I93 ((sumN j cr, IntKind.i64.wrap ((j : Int) + 1), ()), g102) ((sumN j cr, (j : Int), ()), q2) := by
      intro h
      have := nxt 0 h.symm
      have ew : IntKind.i64.wrap (sumN j cr + 0) = sumN j cr := by
        have : IntKind.i64.wrap (sumN j cr + 0) = sumN j cr + 0 := w64_in (by omega) (by omega)
        rw [this]; omega
      rwa [ew] at this
    refine ⟨_, k14.ld rfl, _, B100.ed.1, ?_⟩
    rw [ef.1]
    refine k13.rdB ef.2 ?_
    refine ifP_of (fun h2 => ?_) (fun h2 => nxt0 (if_neg fun h => by rw [h2] at h; cases h.1))
    refine ⟨_, k14.ld rfl, _, B100.ed.2.1, ?_⟩
    rw [et.1]
    refine k13.rdB et.2 ?_
    refine ifP_of (fun h3 => ?_) (fun h3 => nxt0 (if_neg fun h => by rw [h.2] at h3; cases h3))
    have h3 : sd (toE es j) = false := by simpa using h3
    exact ⟨_, k14.ld rfl, k12.rdI hji (nxt _ (if_pos ⟨h2, h3⟩).symm)⟩
  have : j = i := by have := of_decide_eq_false h1; omega
  subst this
  have hv : sumN j cr = OutF j (frE es) (toE es) (onR room) s' := by
    rw [Mx.cut g.ends hsn]
    refine sumN_congr fun l hl => ?_
    have e1 := hsd2 _ (g.fr hl).2
    have e2 := hsd2 _ (g.to hl).2
    show (if sd (frE es l) = true ∧ sd (toE es l) = false then onR room l else 0) = _
    by_cases c1 : sd (frE es l) = true ∧ sd (toE es l) = false
    · have r1 := e1.1 c1.1
      have r2 : ¬ Rch (RsS j (frE es) (toE es) (cpE es) (onR room)) s' (toE es l) := fun h => by
        have := e2.2 h
        rw [c1.2] at this; cases this
      rw [if_pos c1, if_pos ⟨r1, r2⟩]
      exact crossE l hl r1 r2
    · rw [if_neg c1, if_neg]
      rintro ⟨r1, r2⟩
      refine c1 ⟨e1.2 r1, ?_⟩
      cases e : sd (toE es l)
      · rfl
      · exact absurd (e2.1 e) r2
  rw [hv]
  refine k14.ldN rfl ?_
  have B3q : Bl q2 b3 flZ := (B3.ext bs.ext).ext xq2
  refine B3q.stN rfl rfl (by simp [Value.oneCell']) ?_
  intro q3 kp B3q
  refine B3q.ldN rfl ⟨((xh.trans' bs.ext).trans' xq2).of_kp kp hb3h, .inr ⟨w0, v, s', t', b53, b55, onR room, sd, rfl, rfl, rfl, hsn, htn, hst, g, rfl, ?_⟩⟩
  have o53 := k12.sl
  have o55 := k13.sl
  have ne1 : b53 ≠ b3 := by
    rintro rfl
    obtain ⟨e, h1⟩ := B3
    have := bs.old _ _ h1
    omega
  have ne2 : b55 ≠ b3 := by
    rintro rfl
    obtain ⟨e, h1⟩ := B3
    have := bs.old _ _ h1
    omega
  exact ⟨hb53h, hb55h, hne2, o53.1.kp kp ne1, o55.1.kp kp ne2, Mx, hsd2⟩
end

end Go.Proofs.YtdcamadeblojdaaGreat

namespace Go.Proofs.YtdcamadeblojdaaGreat
open Go
set_option linter.unusedVariables false
set_option linter.unusedSimpArgs false

/-- A region whose first operation is recover; the rest is walked as any region. -/
theorem wpS_region_recover {P : Program} {id : Nat} {ops : Array Oper} {Q : Exit → Act → List Frame → World → Prop} {a : Act} {cs cs' : List Frame} {w : World} {o : Oper} {rest : List Nat} {v : Value}
    (ho : ops[0]? = some o) (hl : List.range ops.size = 0 :: rest) (hw : Region.wanted o (yielded ops a.tmps) = true) (hrun : (execOp a.eval o).run P w = .ok .recover w)
    (hrec : recoverD cs = some (v, cs') ∨ (recoverD cs = none ∧ v = .nilIface ∧ cs' = cs)) (h : wpOps P ops (fun e a' w' => Q e a' cs' w') rest (a.put o.dst v) w) :
    (Code.region id ops false).wpS P Q a cs w := by
  intro b k hb hro
  obtain ⟨e, a', w', hq, harr⟩ := wp_ops rest _ w h b k cs'
  have hg := stepG_op (P := P) (b := b) (k := k) (cs := cs) (w := w) (rest := rest) ho hw
  have hfin : ∀ v, (b.at a (.inRegion ops (0 :: rest) :: k)).finish v = b.at (a.put o.dst v) (.inRegion ops rest :: k) := by
    intro v; rw [Frame.finish_at, ho]; rfl
  have hk : (b.at a (.inRegion ops (0 :: rest) :: k)).kind = .deferred := hb
  have htr := tryRecover_deferred hk cs
  have st : step P (lone (b.at a (.inRegion ops (0 :: rest) :: k)) cs w) = .next (lone (b.at (a.put o.dst v) (.inRegion ops rest :: k)) cs' w) := by
    refine step_lone_go ?_
    rw [hg, ← hfin]
    simp only [Frame.at] at htr ⊢
    rcases hrec with hrec | ⟨hrec, rfl, rfl⟩
    · simp [stepG.apply, hrun, htr, hrec]
    · simp [stepG.apply, hrun, htr, hrec]
  refine ⟨e, a', cs', w', hq, .of_steps (.head step_region ?_) harr⟩
  rw [hl]
  exact .one st

end Go.Proofs.YtdcamadeblojdaaGreat

namespace Go.Proofs.YtdcamadeblojdaaGreat
open Go
set_option linter.unusedVariables false
set_option linter.unusedSimpArgs false
set_option maxRecDepth 100000

def firstOps : Code → Array Oper
  | .seq (.region _ ops _) _ => ops
  | _ => #[]
def restOf : Code → Code
  | .seq _ y => y
  | _ => .skip
def opAt (ops : Array Oper) (i : Nat) : Oper := match ops[i]? with
  | some o => o
  | none => default
theorem wp_first {P : Program} {ops : Array Oper} {Q : Exit → Act → World → Prop} {a : Act} {w : World} {i : Nat} {rest : List Nat} {o : Oper} (ho : ops[i]? = some o) (hw : Region.wanted o (yielded ops a.tmps) = true)
    (h : o.wp P a w (wpOps P ops Q rest) Q) : wpOps P ops Q (i :: rest) a w := by
  show (match ops[i]? with
    | none => wpOps P ops Q rest a w
    | some o => if Region.wanted o (yielded ops a.tmps) then o.wp P a w (wpOps P ops Q rest) Q ∨ (o.asks P a w ∧ LetsOut Q) else wpOps P ops Q rest (a.put o.dst undef) w)
  rw [ho]
  dsimp only
  rw [if_pos hw]
  exact .inl h

end Go.Proofs.YtdcamadeblojdaaGreat

namespace Go.Proofs.YtdcamadeblojdaaGreat
open Go
set_option linter.unusedVariables false
set_option linter.unusedSimpArgs false
set_option maxRecDepth 100000

noncomputable def fld (i : Nat) : Field := (Tryz.prog.fieldsOf 44).toList[i]!
end Go.Proofs.YtdcamadeblojdaaGreat

namespace Go.Proofs.YtdcamadeblojdaaGreat
open Go
open Classical
set_option linter.unusedVariables false

def updN (f : Nat → Nat) (i x : Nat) : Nat → Nat := fun j => if j = i then x else f j
theorem updN_at {f : Nat → Nat} {i x : Nat} : updN f i x i = x := if_pos rfl
theorem updN_ne {f : Nat → Nat} {i x j : Nat} (h : j ≠ i) : updN f i x j = f j := if_neg h
end Go.Proofs.YtdcamadeblojdaaGreat

namespace Go.Proofs.YtdcamadeblojdaaGreat
open Go
open Classical
set_option linter.unusedVariables false

abbrev ckE (es : Nat → Ed) (i : Nat) : Int := (es i).k
/-- An arc's cost. -/
def cA (k : Nat → Int) (a : Nat) : Int := if a % 2 = 0 then k (a / 2) else - k (a / 2)
theorem cA_pr {k : Nat → Int} (a : Nat) : cA k (prA a) = - cA k a := by
  unfold cA prA
  by_cases h : a % 2 = 0
  · rw [if_pos h, if_pos h, if_neg (by omega), show (a + 1) / 2 = a / 2 by omega]
  · rw [if_neg h, if_neg h, if_pos (by omega), show (a - 1) / 2 = a / 2 by omega]; omega
theorem cA_0 {k : Nat → Int} (i : Nat) : cA k (2 * i) = k i := by unfold cA; rw [if_pos (by omega), show 2 * i / 2 = i by omega]
theorem cA_1 {k : Nat → Int} (i : Nat) : cA k (2 * i + 1) = - k i := by unfold cA; rw [if_neg (by omega), show (2 * i + 1) / 2 = i by omega]
theorem tlA_0 {fr to : Nat → Nat} (i : Nat) : tlA fr to (2 * i) = fr i := by unfold tlA; rw [if_pos (by omega), show 2 * i / 2 = i by omega]
theorem tlA_1 {fr to : Nat → Nat} (i : Nat) : tlA fr to (2 * i + 1) = to i := by unfold tlA; rw [if_neg (by omega), show (2 * i + 1) / 2 = i by omega]
theorem hdA_0 {fr to : Nat → Nat} (i : Nat) : hdA fr to (2 * i) = to i := by unfold hdA; rw [if_pos (by omega), show 2 * i / 2 = i by omega]
theorem hdA_1 {fr to : Nat → Nat} (i : Nat) : hdA fr to (2 * i + 1) = fr i := by unfold hdA; rw [if_neg (by omega), show (2 * i + 1) / 2 = i by omega]
theorem cA_bd {k : Nat → Int} {m : Nat} {C : Int} (h : ∀ i, i < m → -C ≤ k i ∧ k i ≤ C) {a : Nat} (ha : a < 2 * m) : -C ≤ cA k a ∧ cA k a ≤ C := by
  have := h (a / 2) (by omega)
  unfold cA; split <;> omega

/-- What amounts cost. -/
def totC (m : Nat) (k f : Nat → Int) : Int := sumN m fun i => k i * f i
/-- Amounts that meet supplies. -/
structure PlanP (n m : Nat) (fr to : Nat → Nat) (cap b f : Nat → Int) : Prop where
  cp : ∀ i, i < m → 0 ≤ f i ∧ f i ≤ cap i
  out : ∀ v, v < n → OutF m fr to f v = b v
/-- The potentials prove it. -/
def PotP (m : Nat) (fr to : Nat → Nat) (cap k f p : Nat → Int) : Prop :=
  ∀ i, i < m → (0 < k i + p (fr i) - p (to i) → f i = 0) ∧ (k i + p (fr i) - p (to i) < 0 → f i = cap i)
/-- No arc with room costs less than nothing, by potentials. -/
def RedP (m : Nat) (fr to : Nat → Nat) (k room p : Nat → Int) : Prop := ∀ a, a < 2 * m → 0 < room a → 0 ≤ cA k a + p (tlA fr to a) - p (hdA fr to a)

section
variable {n m : Nat} {fr to : Nat → Nat} {cap k b f g p room : Nat → Int}
theorem RedP.pot (R : RmP m cap room) (P : RedP m fr to k room p) : PotP m fr to cap k (onR room) p := by
  intro i hi
  have e := R.sum i hi
  have h1 := R.pos (2 * i) (by omega)
  have h2 := R.pos (2 * i + 1) (by omega)
  have a := P (2 * i) (by omega)
  have c := P (2 * i + 1) (by omega)
  rw [cA_0, tlA_0, hdA_0] at a
  rw [cA_1, tlA_1, hdA_1] at c
  unfold onR
  constructor
  · intro h
    apply Classical.byContradiction
    intro h3
    have := c (by omega); omega
  · intro h
    apply Classical.byContradiction
    intro h3
    have := a (by omega); omega
theorem RmP.plan (R : RmP m cap room) (ho : ∀ v, v < n → OutF m fr to (onR room) v = b v) : PlanP n m fr to cap b (onR room) :=
  ⟨fun i hi => by
    have e := R.sum i hi
    have h1 := R.pos (2 * i) (by omega)
    have h2 := R.pos (2 * i + 1) (by omega)
    unfold onR; omega, ho⟩
theorem pot_out (hn : ∀ i, i < m → fr i < n ∧ to i < n) (p h : Nat → Int) :
    sumN m (fun i => (p (fr i) - p (to i)) * h i) = sumN n fun v => p v * OutF m fr to h v := by
  have e1 : sumN n (fun v => p v * OutF m fr to h v) = sumN n fun v => sumN m fun i => (if fr i = v then p (fr i) * h i else 0) - (if to i = v then p (to i) * h i else 0) := by
    refine sumN_congr fun v _ => ?_
    unfold OutF
    rw [← sumN_mul]
    refine sumN_congr fun i _ => ?_
    rw [Int.mul_sub]
    congr 1
    · by_cases e : fr i = v
      · rw [if_pos e, if_pos e, e]
      · rw [if_neg e, if_neg e, Int.mul_zero]
    · by_cases e : to i = v
      · rw [if_pos e, if_pos e, e]
      · rw [if_neg e, if_neg e, Int.mul_zero]
  rw [e1, sumN_swap]
  refine sumN_congr fun i hi => ?_
  have := hn i hi
  rw [sumN_sub, sumN_pt, sumN_pt, if_pos this.1, if_pos this.2, Int.sub_mul]
/-- More is supplied on a side than can leave it. -/
theorem PlanP.side (F : PlanP n m fr to cap b f) (hn : ∀ i, i < m → fr i < n ∧ to i < n) (C : Nat → Prop) : sumN n (fun v => if C v then b v else 0) ≤ cutC m fr to cap C := by
  have e := out_side (f := f) hn C
  have e2 : sumN n (fun v => if C v then b v else 0) = sumN n (fun v => if C v then OutF m fr to f v else 0) := sumN_congr fun v hv => by rw [F.out v hv]
  rw [e2, e]
  refine sumN_le fun i hi => ?_
  have := F.cp i hi
  by_cases h1 : C (fr i) <;> by_cases h2 : C (to i) <;> simp [h1, h2] <;> omega
/-- Those with too much reach none that lacks: the side proves that there is none. -/
theorem RmP.lack (R : RmP m cap room) (hn : ∀ i, i < m → fr i < n ∧ to i < n) {C : Nat → Prop} (hc : ∀ a, a < 2 * m → 0 < room a → C (tlA fr to a) → C (hdA fr to a))
    (hx : ∀ v, v < n → C v → 0 ≤ b v - OutF m fr to (onR room) v) {v : Nat} (hv : v < n) (hCv : C v) (hp : 0 < b v - OutF m fr to (onR room) v) :
    cutC m fr to cap C < sumN n (fun v => if C v then b v else 0) := by
  have e := out_side (f := onR room) hn C
  have e2 : sumN m (fun i => (if C (fr i) then onR room i else 0) - (if C (to i) then onR room i else 0)) = cutC m fr to cap C := by
    refine sumN_congr fun i hi => ?_
    have e := R.sum i hi
    have h1 := R.pos (2 * i) (by omega)
    have h2 := R.pos (2 * i + 1) (by omega)
    have a := hc (2 * i) (by omega)
    have c := hc (2 * i + 1) (by omega)
    rw [tlA_0, hdA_0] at a
    rw [tlA_1, hdA_1] at c
    unfold onR
    by_cases c1 : C (fr i) <;> by_cases c2 : C (to i) <;> simp [c1, c2]
    · have : ¬ 0 < room (2 * i) := fun h => c2 (a h c1)
      omega
    · have : ¬ 0 < room (2 * i + 1) := fun h => c1 (c h c2)
      omega
  have e3 : sumN n (fun w => if C w then b w else 0) - sumN n (fun w => if C w then OutF m fr to (onR room) w else 0) = sumN n fun w => if C w then b w - OutF m fr to (onR room) w else 0 := by
    rw [← sumN_sub]
    refine sumN_congr fun w _ => ?_
    split <;> omega
  have e4 : b v - OutF m fr to (onR room) v ≤ sumN n fun w => if C w then b w - OutF m fr to (onR room) w else 0 := by
    have := sumN_mem (f := fun w => if C w then b w - OutF m fr to (onR room) w else 0) (k := n) (i := v) (fun w hw => by
      by_cases h : C w
      · rw [if_pos h]; exact hx w hw h
      · rw [if_neg h]; omega) hv
    rw [if_pos hCv] at this
    exact this
  omega
theorem totC_bd {C X : Int} (hX : 0 ≤ X) (hC : 0 ≤ C) (hk : ∀ i, i < m → -C ≤ k i ∧ k i ≤ C) (hf : ∀ i, i < m → 0 ≤ f i ∧ f i ≤ X) : -(m * (C * X)) ≤ totC m k f ∧ totC m k f ≤ m * (C * X) := by
  have key : ∀ i, i < m → -(C * X) ≤ k i * f i ∧ k i * f i ≤ C * X := fun i hi => by
    have a := hk i hi
    have c := hf i hi
    have h1 : k i * f i ≤ C * f i := Int.mul_le_mul_of_nonneg_right a.2 c.1
    have h2 : C * f i ≤ C * X := Int.mul_le_mul_of_nonneg_left c.2 hC
    have h3 : -C * f i ≤ k i * f i := Int.mul_le_mul_of_nonneg_right a.1 c.1
    rw [Int.neg_mul] at h3
    omega
  refine ⟨?_, sumN_bd fun i hi => (key i hi).2⟩
  have := sumN_bd (f := fun i => -(k i * f i)) (k := m) (c := C * X) fun i hi => by have := (key i hi).1; omega
  have e : sumN m (fun i => -(k i * f i)) = - totC m k f := by
    have := sumN_sub (f := fun _ => 0) (g := fun i => k i * f i) (k := m)
    rw [sumN_zero fun _ _ => rfl] at this
    unfold totC
    rw [show (fun i => -(k i * f i)) = fun i => 0 - k i * f i by funext i; omega, this]; omega
  omega
end

end Go.Proofs.YtdcamadeblojdaaGreat

namespace Go.Proofs.YtdcamadeblojdaaGreat
open Go
set_option linter.unusedVariables false

theorem upd2_at {st : Nat → Nat → Int} {v j : Nat} {x : Int} : upd2 st v j x v j = x := if_pos ⟨rfl, rfl⟩
theorem upd2_v {st : Nat → Nat → Int} {v j w i : Nat} {x : Int} (h : w ≠ v) : upd2 st v j x w i = st w i := if_neg (fun k => h k.1)
theorem upd2_j {st : Nat → Nat → Int} {v j w i : Nat} {x : Int} (h : i ≠ j) : upd2 st v j x w i = st w i := if_neg (fun k => h k.2)

/-- Each is followed by the next: field 3 goes on, field 2 back. -/
def Lk (st : Nat → Nat → Int) : List Nat → Prop
  | a :: b :: t => st a 3 = (b : Nat) ∧ st b 2 = (a : Nat) ∧ Lk st (b :: t)
  | _ => True
def Cyc (st : Nat → Nat → Int) : List Nat → Prop
  | [] => True
  | a :: t => Lk st (a :: t ++ [a])
section
variable {st st' : Nat → Nat → Int}
theorem Lk.app {a : Nat} {l2 : List Nat} : ∀ {l1 : List Nat}, Lk st (l1 ++ a :: l2) ↔ Lk st (l1 ++ [a]) ∧ Lk st (a :: l2)
  | [] => by simp [Lk]
  | [x] => by simp [Lk, and_assoc]
  | x :: y :: t => by
    have := Lk.app (a := a) (l2 := l2) (l1 := y :: t)
    simp only [List.cons_append, Lk] at this ⊢
    rw [this]; simp [and_assoc]
theorem Lk.snoc {a b : Nat} {l : List Nat} : Lk st (l ++ [a, b]) ↔ Lk st (l ++ [a]) ∧ st a 3 = b ∧ st b 2 = a := by
  rw [show l ++ [a, b] = l ++ a :: [b] from rfl, Lk.app]
  simp [Lk]
theorem Lk.congr : ∀ {l : List Nat}, (∀ x ∈ l.dropLast, st' x 3 = st x 3) → (∀ x ∈ l.tail, st' x 2 = st x 2) → Lk st l → Lk st' l
  | [], _, _, _ => trivial
  | [x], _, _, _ => trivial
  | a :: b :: t, h3, h2, h => by
    refine ⟨?_, ?_, Lk.congr (l := b :: t) (fun x hx => h3 x ?_) (fun x hx => h2 x ?_) h.2.2⟩
    · rw [h3 a (by simp)]; exact h.1
    · rw [h2 b (by simp)]; exact h.2.1
    · rw [List.dropLast_cons_of_ne_nil (by simp)]; exact List.mem_cons_of_mem _ hx
    · exact List.mem_cons_of_mem _ hx
theorem Cyc.rot {l1 l2 : List Nat} (h : Cyc st (l1 ++ l2)) : Cyc st (l2 ++ l1) := by
  cases l1 with
  | nil => simpa using h
  | cons a t =>
    cases l2 with
    | nil => simpa using h
    | cons b u =>
      have h : Lk st (a :: (t ++ b :: u) ++ [a]) := h
      show Lk st (b :: (u ++ a :: t) ++ [b])
      have e1 : a :: (t ++ b :: u) ++ [a] = (a :: t) ++ b :: (u ++ [a]) := by simp
      have e2 : b :: (u ++ a :: t) ++ [b] = (b :: u) ++ a :: (t ++ [b]) := by simp
      rw [e1, Lk.app] at h
      rw [e2, Lk.app]
      exact ⟨h.2, h.1⟩
theorem Cyc.congr {l : List Nat} (h3 : ∀ x ∈ l, st' x 3 = st x 3) (h2 : ∀ x ∈ l, st' x 2 = st x 2) (h : Cyc st l) : Cyc st' l := by
  cases l with
  | nil => trivial
  | cons a t =>
    refine Lk.congr (fun x hx => h3 x ?_) (fun x hx => h2 x ?_) h
    · rw [show a :: t ++ [a] = (a :: t) ++ [a] from rfl, List.dropLast_concat] at hx; exact hx
    · have hx : x ∈ t ++ [a] := hx
      simp only [List.mem_append, List.mem_singleton] at hx
      rcases hx with h | rfl
      · exact List.mem_cons_of_mem _ h
      · exact List.mem_cons_self
/-- From any of its nodes on. -/
theorem Cyc.from {l : List Nat} {x : Nat} (h : Cyc st l) (hx : x ∈ l) (nd : l.Nodup) : ∃ t, Cyc st (x :: t) ∧ (x :: t).Nodup ∧ (∀ y, y ∈ x :: t ↔ y ∈ l) ∧ (x :: t).length = l.length := by
  obtain ⟨l1, l2, rfl⟩ := List.append_of_mem hx
  have p : ((x :: l2) ++ l1).Perm (l1 ++ x :: l2) := List.perm_append_comm
  exact ⟨l2 ++ l1, h.rot, p.nodup_iff.2 nd, fun y => p.mem_iff, p.length_eq⟩
/-- A node is put in behind at. -/
def jn (st : Nat → Nat → Int) (h at_ : Nat) : Nat → Nat → Int :=
  upd2 (upd2 (upd2 (upd2 st h 2 (at_ : Nat)) h 3 (st at_ 3)) at_ 3 (h : Nat)) (st at_ 3).toNat 2 (h : Nat)
theorem jn_f {h a x j : Nat} (hj : j ≠ 2 ∧ j ≠ 3) : jn st h a x j = st x j := by
  unfold jn; rw [upd2_j hj.1, upd2_j hj.2, upd2_j hj.2, upd2_j hj.1]
theorem Cyc.next {a : Nat} {t : List Nat} (h : Cyc st (a :: t)) : ∃ r s, t ++ [a] = r :: s ∧ st a 3 = (r : Nat) ∧ st r 2 = (a : Nat) ∧ Lk st (r :: s) := by
  cases t with
  | nil => exact ⟨a, [], rfl, h.1, h.2.1, trivial⟩
  | cons b u => exact ⟨b, u ++ [a], rfl, h.1, h.2.1, h.2.2⟩
theorem Cyc.join {a h : Nat} {t : List Nat} (C : Cyc st (a :: t)) (nd : (a :: t).Nodup) (hh : h ∉ a :: t) : Cyc (jn st h a) (a :: h :: t) := by
  obtain ⟨r, s, e, h1, h2, h3⟩ := C.next
  have er : (st a 3).toNat = r := by rw [h1]; omega
  have nd2 : (t ++ [a]).Nodup := (List.perm_append_comm (l₁ := t) (l₂ := [a])).nodup_iff.2 nd
  have hmem : ∀ x, x ∈ t ++ [a] ↔ x ∈ a :: t := fun x => (List.perm_append_comm (l₁ := t) (l₂ := [a])).mem_iff
  have hra : h ≠ r := by
    rintro rfl
    exact hh ((hmem h).1 (by rw [e]; simp))
  have hha : h ≠ a := by rintro rfl; simp at hh
  show Lk (jn st h a) (a :: h :: (t ++ [a]))
  rw [e]
  rw [e] at nd2
  refine ⟨?_, ?_, ?_, ?_, ?_⟩
  · unfold jn; rw [er, upd2_j (by omega), upd2_at]
  · unfold jn; rw [er, upd2_v hra, upd2_j (by omega), upd2_j (by omega), upd2_at]
  · unfold jn; rw [er, upd2_j (by omega), upd2_v hha, upd2_at, h1]
  · unfold jn; rw [er, upd2_at]
  · refine Lk.congr (fun x hx => ?_) (fun x hx => ?_) h3
    · have hx2 : x ∈ t := by rw [← e, List.dropLast_concat] at hx; exact hx
      have n1 : x ≠ a := by rintro rfl; exact (List.nodup_cons.1 nd).1 hx2
      have n2 : x ≠ h := by rintro rfl; exact hh (List.mem_cons_of_mem _ hx2)
      unfold jn; rw [upd2_j (by omega), upd2_v n1, upd2_v n2, upd2_v n2]
    · have hx : x ∈ s := hx
      have n1 : x ≠ r := by rintro rfl; exact (List.nodup_cons.1 nd2).1 hx
      have n2 : x ≠ h := by
        rintro rfl
        exact hh ((hmem _).1 (by rw [e]; exact List.mem_cons_of_mem _ hx))
      unfold jn; rw [er, upd2_v n1, upd2_j (by omega), upd2_j (by omega), upd2_v n2]
/-- A node alone. -/
theorem Cyc.one {a : Nat} (h3 : st a 3 = (a : Nat)) (h2 : st a 2 = (a : Nat)) : Cyc st [a] := ⟨h3, h2, trivial⟩
/-- A node is taken out of its ring. -/
def lv (st : Nat → Nat → Int) (h : Nat) : Nat → Nat → Int :=
  upd2 (upd2 (upd2 (upd2 st (st h 2).toNat 3 (st h 3)) (st h 3).toNat 2 (st h 2)) h 2 (h : Nat)) h 3 (h : Nat)
theorem lv_f {h x j : Nat} (hj : j ≠ 2 ∧ j ≠ 3) : lv st h x j = st x j := by
  unfold lv; rw [upd2_j hj.2, upd2_j hj.1, upd2_j hj.1, upd2_j hj.2]
theorem Cyc.sides {h : Nat} {t : List Nat} (C : Cyc st (h :: t)) : ∃ l r : Nat, st h 2 = l ∧ st h 3 = r ∧ l ∈ h :: t ∧ r ∈ h :: t := by
  obtain ⟨r, s, e, h1, h2, h3⟩ := C.next
  have hr : r ∈ h :: t := (List.perm_append_comm (l₁ := t) (l₂ := [h])).mem_iff.1 (by rw [e]; simp)
  have : ∃ l, l ∈ h :: t ∧ st h 2 = (l : Nat) := by
    rcases List.eq_nil_or_concat t with rfl | ⟨u, z, rfl⟩
    · exact ⟨h, by simp, C.2.1⟩
    · have C : Lk st (h :: (u ++ [z]) ++ [h]) := by simpa [Cyc] using C
      have e : h :: (u ++ [z]) ++ [h] = (h :: u) ++ [z, h] := by simp
      rw [e, Lk.snoc] at C
      exact ⟨z, by simp, C.2.2⟩
  obtain ⟨l, hl, e2⟩ := this
  exact ⟨l, r, e2, h1, hl, hr⟩
theorem Cyc.leave {h : Nat} {t : List Nat} (C : Cyc st (h :: t)) (nd : (h :: t).Nodup) : Cyc (lv st h) t := by
  cases t with
  | nil => trivial
  | cons y t' =>
    have hy : st h 3 = (y : Nat) := C.1
    have hyt : h ∉ y :: t' := (List.nodup_cons.1 nd).1
    have ndt := (List.nodup_cons.1 nd).2
    show Lk (lv st h) (y :: t' ++ [y])
    rcases List.eq_nil_or_concat (y :: t') with e | ⟨u, z, e⟩
    · cases e
    · have e : y :: t' = u ++ [z] := by simpa using e
      have C : Lk st (h :: (y :: t') ++ [h]) := C
      rw [e] at C
      have e3 : h :: (u ++ [z]) ++ [h] = (h :: u) ++ [z, h] := by simp
      rw [e3, Lk.snoc] at C
      obtain ⟨C1, hz3, hz2⟩ := C
      have C1 : Lk st (u ++ [z]) := by
        have : Lk st (h :: (u ++ [z])) := C1
        rw [← e] at this ⊢
        exact this.2.2
      have ez : (st h 2).toNat = z := by rw [hz2]; omega
      have ey : (st h 3).toNat = y := by rw [hy]; omega
      have hzm : z ∈ y :: t' := by rw [e]; simp
      have nz : z ≠ h := by rintro rfl; exact hyt hzm
      have ny : y ≠ h := by rintro rfl; exact hyt (by simp)
      rw [e]
      have e4 : u ++ [z] ++ [y] = u ++ [z, y] := by simp
      rw [e4, Lk.snoc]
      refine ⟨Lk.congr (fun x hx => ?_) (fun x hx => ?_) C1, ?_, ?_⟩
      · rw [List.dropLast_concat] at hx
        have n1 : x ≠ z := by
          rintro rfl
          rw [e] at ndt
          have := List.nodup_append.1 ndt
          exact absurd rfl (this.2.2 x hx x (by simp))
        have n2 : x ≠ h := by rintro rfl; exact hyt (by rw [e]; simp [hx])
        unfold lv; rw [ez, ey, upd2_v n2, upd2_v n2, upd2_j (by omega), upd2_v n1]
      · have hx' : x ∈ t' := by rw [← e] at hx; exact hx
        have n1 : x ≠ y := by rintro rfl; exact (List.nodup_cons.1 ndt).1 hx'
        have n2 : x ≠ h := by rintro rfl; exact hyt (List.mem_cons_of_mem _ hx')
        unfold lv; rw [ez, ey, upd2_v n2, upd2_v n2, upd2_v n1, upd2_j (by omega)]
      · unfold lv; rw [ez, ey, upd2_v nz, upd2_v nz, upd2_j (by omega), upd2_at, hy]
      · unfold lv; rw [ez, ey, upd2_v ny, upd2_v ny, upd2_at, hz2]
/-- Off the ring nothing changes. -/
theorem jn_out {h a x j : Nat} {t : List Nat} (C : Cyc st (a :: t)) (hx : x ∉ a :: t) (hh : x ≠ h) : jn st h a x j = st x j := by
  obtain ⟨r, s, e, h1, h2, h3⟩ := C.next
  have er : (st a 3).toNat = r := by rw [h1]; omega
  have hr : r ∈ a :: t := (List.perm_append_comm (l₁ := t) (l₂ := [a])).mem_iff.1 (by rw [e]; simp)
  unfold jn
  rw [er, upd2_v (by rintro rfl; exact hx hr), upd2_v (by rintro rfl; simp at hx), upd2_v hh, upd2_v hh]
theorem lv_out {h x j : Nat} {t : List Nat} (C : Cyc st (h :: t)) (hx : x ∉ h :: t) : lv st h x j = st x j := by
  obtain ⟨l, r, e1, e2, hl, hr⟩ := C.sides
  have hh : x ≠ h := by rintro rfl; simp at hx
  unfold lv
  rw [e1, e2, Int.toNat_natCast, Int.toNat_natCast, upd2_v hh, upd2_v hh, upd2_v (by rintro rfl; exact hx hr), upd2_v (by rintro rfl; exact hx hl)]
end

end Go.Proofs.YtdcamadeblojdaaGreat

namespace Go.Proofs.YtdcamadeblojdaaGreat
open Go
open Classical
set_option linter.unusedVariables false

/-- Who comes out ahead of whom. -/
def ahd (key : Nat → Int) (a b : Nat) : Prop := key a < key b ∨ (key a = key b ∧ a < b)
theorem ahd_tr {key : Nat → Int} {a b c : Nat} (h : ahd key a b) (k : ahd key b c) : ahd key a c := by unfold ahd at *; omega
theorem ahd_irr {key : Nat → Int} {a : Nat} : ¬ ahd key a a := by unfold ahd; omega
theorem ahd_or {key : Nat → Int} {a b : Nat} : a = b ∨ ahd key a b ∨ ahd key b a := by unfold ahd; omega

/-- How many are so. -/
noncomputable def cntP (n : Nat) (P : Nat → Prop) : Int := sumN n fun x => if P x then 1 else 0
theorem cntP_congr {n : Nat} {P Q : Nat → Prop} (h : ∀ x, x < n → (P x ↔ Q x)) : cntP n P = cntP n Q := sumN_congr fun x hx => by
  by_cases e : P x
  · rw [if_pos e, if_pos ((h x hx).1 e)]
  · rw [if_neg e, if_neg (fun k => e ((h x hx).2 k))]
theorem cntP_le {n : Nat} {P Q : Nat → Prop} (h : ∀ x, x < n → P x → Q x) : cntP n P ≤ cntP n Q := sumN_le fun x hx => by
  by_cases e : P x
  · rw [if_pos e, if_pos (h x hx e)]; omega
  · rw [if_neg e]; split <;> omega
theorem cntP_0 {n : Nat} {P : Nat → Prop} (h : ∀ x, x < n → ¬ P x) : cntP n P = 0 := sumN_zero fun x hx => if_neg (h x hx)
theorem cntP_nn {n : Nat} {P : Nat → Prop} : 0 ≤ cntP n P := sumN_nonneg fun x _ => by split <;> omega
theorem cntP_all {n : Nat} {P : Nat → Prop} : cntP n P ≤ n := by
  have := sumN_bd (f := fun x => if P x then 1 else 0) (k := n) (c := 1) fun x _ => by split <;> omega
  unfold cntP; omega
theorem cntP_add {n a : Nat} {P : Nat → Prop} (ha : a < n) (h : ¬ P a) : cntP n (fun x => x = a ∨ P x) = cntP n P + 1 := by
  have : cntP n (fun x => x = a ∨ P x) = sumN n fun x => (if P x then 1 else 0) + (if a = x then 1 else 0) := sumN_congr fun x _ => by
    by_cases e : x = a
    · subst e; rw [if_pos (.inl rfl), if_neg h, if_pos rfl]; rfl
    · by_cases k : P x
      · rw [if_pos (.inr k), if_pos k, if_neg (fun h => e h.symm)]; rfl
      · rw [if_neg (by rintro (h | h); exact e h; exact k h), if_neg k, if_neg (fun h => e h.symm)]; rfl
  rw [this, sumN_add, sumN_pt, if_pos ha]; rfl
theorem cntP_one {n a : Nat} {P : Nat → Prop} (ha : a < n) (h : P a) : 1 ≤ cntP n P := by
  have := cntP_le (n := n) (P := fun x => x = a ∨ False) (Q := P) (fun x _ hx => by rcases hx with rfl | h; exact h; exact h.elim)
  rw [cntP_add ha (fun h => h)] at this
  rw [cntP_0 (P := fun _ => False) fun _ _ h => h] at this
  omega
/-- At most one more. -/
theorem cntP_le1 {n a : Nat} {P Q : Nat → Prop} (h : ∀ x, x < n → P x → x = a ∨ Q x) : cntP n P ≤ cntP n Q + 1 := by
  by_cases ha : a < n
  · by_cases q : Q a
    · have := cntP_le (n := n) (P := P) (Q := Q) fun x hx hp => by
        rcases h x hx hp with rfl | h
        · exact q
        · exact h
      omega
    · have := cntP_le (n := n) (P := P) (Q := fun x => x = a ∨ Q x) h
      rw [cntP_add ha q] at this; omega
  · have := cntP_le (n := n) (P := P) (Q := Q) fun x hx hp => by
      rcases h x hx hp with rfl | h
      · exact absurd hx ha
      · exact h
    omega
theorem cntP_list {n : Nat} : ∀ {l : List Nat}, l.Nodup → (∀ x ∈ l, x < n) → cntP n (fun x => x ∈ l) = l.length
  | [], _, _ => cntP_0 fun x _ h => by simp at h
  | a :: t, nd, h => by
    have ih := cntP_list (l := t) (List.nodup_cons.1 nd).2 fun x hx => h x (List.mem_cons_of_mem _ hx)
    have : cntP n (fun x => x ∈ a :: t) = cntP n fun x => x = a ∨ x ∈ t := cntP_congr fun x _ => List.mem_cons
    rw [this, cntP_add (h a (by simp)) (List.nodup_cons.1 nd).1, ih]; simp

/-- A forest: A the nodes, R the tops, C p the ring of p's children; z may be out of order, y have one child less than its mark tells. -/
structure FT (n : Nat) (key : Nat → Int) (A R : Nat → Prop) (z y : Int) (st : Nat → Nat → Int) (C : Nat → List Nat) : Prop where
  lt : ∀ x, A x → x < n
  ra : ∀ x, R x → A x
  mem : ∀ p x, A p → (x ∈ C p ↔ A x ∧ ¬ R x ∧ st x 0 = (p : Nat))
  nd : ∀ p, A p → (C p).Nodup
  cyc : ∀ p, A p → Cyc st (C p)
  par : ∀ x, A x → ¬ R x → ∃ p : Nat, st x 0 = p ∧ A p
  ch : ∀ p, A p → (C p = [] ∧ st p 1 = -1) ∨ ∃ c : Nat, st p 1 = c ∧ c ∈ C p
  ord : ∀ x p : Nat, A x → ¬ R x → st x 0 = p → (x : Int) ≠ z → ahd key p x
  dg : ∀ p, A p → st p 4 = (C p).length
  cn : ∀ p, A p → ∀ d : Nat, cntP n (fun x => A x ∧ ¬ R x ∧ st x 0 = (p : Nat) ∧ st x 4 + st x 5 + (if (x : Int) = y then 1 else 0) ≤ d) ≤ d + 1
  mrk : ∀ x, A x → st x 5 = 0 ∨ st x 5 = 1

section
variable {n : Nat} {key : Nat → Int} {A R : Nat → Prop} {z y : Int} {st st' : Nat → Nat → Int} {C : Nat → List Nat}
theorem FT.len (F : FT n key A R z y st C) {p : Nat} (hp : A p) : cntP n (fun x => A x ∧ ¬ R x ∧ st x 0 = (p : Nat)) = (C p).length := by
  rw [← cntP_list (F.nd p hp) fun x hx => F.lt x ((F.mem p x hp).1 hx).1]
  exact cntP_congr fun x _ => (F.mem p x hp).symm
/-- No node has many children. -/
theorem FT.few (F : FT n key A R z y st C) (hn : n ≤ 1024) {p : Nat} (hp : A p) (hz : (y < 0 ∨ ∃ w : Nat, y = w ∧ (R w ∨ ¬ A w))) : 0 ≤ st p 4 ∧ st p 4 < 64 := by
  have hd : ∀ q, A q → 0 ≤ st q 4 := fun q hq => by rw [F.dg q hq]; omega
  refine ⟨hd p hp, ?_⟩
  apply Classical.byContradiction
  intro hge
  let c : Nat → Prop := fun x => A x ∧ ¬ R x ∧ st x 0 = (p : Nat)
  have hnz : ∀ x : Nat, c x → (x : Int) ≠ y := by
    rintro x ⟨h1, h2, _⟩ e
    rcases hz with h | ⟨w, h, k⟩
    · omega
    · have : x = w := by omega
      subst this
      rcases k with k | k
      · exact h2 k
      · exact k h1
  have K : cntP n c = st p 4 := by rw [F.dg p hp]; exact F.len hp
  -- grandchildren
  have g1 : sumN n (fun x => if c x then st x 4 else 0) ≤ n := by
    have e1 : sumN n (fun x => if c x then st x 4 else 0) = sumN n fun x => sumN n fun v => if c x ∧ A v ∧ ¬ R v ∧ st v 0 = (x : Nat) then 1 else 0 := sumN_congr fun x _ => by
      by_cases hc : c x
      · rw [if_pos hc, F.dg x hc.1, ← F.len hc.1]
        refine sumN_congr fun v _ => ?_
        by_cases k : A v ∧ ¬ R v ∧ st v 0 = (x : Nat)
        · rw [if_pos k, if_pos ⟨hc, k⟩]
        · rw [if_neg k, if_neg (fun h => k h.2)]
      · rw [if_neg hc]
        exact (sumN_zero fun v _ => if_neg (fun h => hc h.1)).symm
    rw [e1, sumN_swap]
    have : sumN n (fun v => sumN n fun x => if c x ∧ A v ∧ ¬ R v ∧ st v 0 = (x : Nat) then 1 else 0) ≤ sumN n fun _ => 1 := sumN_le fun v _ => by
      have e2 : sumN n (fun x => if c x ∧ A v ∧ ¬ R v ∧ st v 0 = (x : Nat) then (1 : Int) else 0) ≤ sumN n fun x => if (st v 0).toNat = x then 1 else 0 := sumN_le fun x _ => by
        by_cases h : c x ∧ A v ∧ ¬ R v ∧ st v 0 = (x : Nat)
        · rw [if_pos h, if_pos (by have := h.2.2.2; omega)]; omega
        · rw [if_neg h]; split <;> omega
      rw [sumN_pt] at e2
      refine Int.le_trans e2 ?_
      split <;> omega
    rw [sumN_const] at this
    omega
  have g2 : sumN n (fun x => if c x then st x 4 + st x 5 else 0) ≤ sumN n (fun x => if c x then st x 4 else 0) + cntP n c := by
    unfold cntP
    rw [← sumN_add]
    refine sumN_le fun x _ => ?_
    by_cases h : c x
    · rw [if_pos h, if_pos h, if_pos h]; have := F.mrk x h.1; omega
    · rw [if_neg h, if_neg h, if_neg h]; omega
  have g3 : sumN n (fun x => if c x then sumN 63 (fun d => if (d : Int) < st x 4 + st x 5 then 1 else 0) else 0) ≤ sumN n (fun x => if c x then st x 4 + st x 5 else 0) := sumN_le fun x _ => by
    by_cases h : c x
    · rw [if_pos h, if_pos h]
      have hv : 0 ≤ st x 4 + st x 5 := by have := hd x h.1; have := F.mrk x h.1; omega
      have key : ∀ k, sumN k (fun d => if (d : Int) < st x 4 + st x 5 then 1 else 0) ≤ st x 4 + st x 5 ∧ sumN k (fun d => if (d : Int) < st x 4 + st x 5 then 1 else 0) ≤ k := by
        intro k
        induction k with
        | zero => exact ⟨hv, by simp [sumN]⟩
        | succ k ih =>
          have e : sumN (k + 1) (fun d => if (d : Int) < st x 4 + st x 5 then (1 : Int) else 0) = sumN k (fun d => if (d : Int) < st x 4 + st x 5 then (1 : Int) else 0) + (if (k : Int) < st x 4 + st x 5 then 1 else 0) := rfl
          rw [e]
          split <;> omega
      exact (key 63).1
    · rw [if_neg h, if_neg h]; omega
  have g4 : sumN n (fun x => if c x then sumN 63 (fun d => if (d : Int) < st x 4 + st x 5 then 1 else 0) else 0) = sumN 63 fun d => sumN n fun x => if c x ∧ (d : Int) < st x 4 + st x 5 then 1 else 0 := by
    rw [← sumN_swap]
    refine sumN_congr fun x _ => ?_
    by_cases h : c x
    · rw [if_pos h]
      refine sumN_congr fun d _ => ?_
      by_cases k : (d : Int) < st x 4 + st x 5
      · rw [if_pos k, if_pos ⟨h, k⟩]
      · rw [if_neg k, if_neg (fun q => k q.2)]
    · rw [if_neg h]; exact (sumN_zero fun d _ => if_neg (fun q => h q.1)).symm
  have g5 : sumN 63 (fun d => st p 4 - ((d : Int) + 1)) ≤ sumN 63 fun d => sumN n fun x => if c x ∧ (d : Int) < st x 4 + st x 5 then 1 else 0 := sumN_le fun d _ => by
    have := F.cn p hp d
    have e : cntP n c ≤ cntP n (fun x => A x ∧ ¬ R x ∧ st x 0 = (p : Nat) ∧ st x 4 + st x 5 + (if (x : Int) = y then 1 else 0) ≤ d) + sumN n fun x => if c x ∧ (d : Int) < st x 4 + st x 5 then 1 else 0 := by
      unfold cntP
      rw [← sumN_add]
      refine sumN_le fun x _ => ?_
      by_cases h : c x
      · rw [if_pos h]
        by_cases k : (d : Int) < st x 4 + st x 5
        · rw [if_pos (show c x ∧ _ from ⟨h, k⟩)]; split <;> omega
        · have hz := hnz x h
          rw [if_pos (show A x ∧ _ from ⟨h.1, h.2.1, h.2.2, by rw [if_neg hz]; omega⟩)]; split <;> omega
      · rw [if_neg h]; split <;> split <;> omega
    rw [K] at e
    omega
  have g6 : sumN 63 (fun d => st p 4 - ((d : Int) + 1)) = 63 * st p 4 - 2016 := by
    rw [sumN_sub, sumN_const]
    have : sumN 63 (fun d => (d : Int) + 1) = 2016 := by decide
    rw [this]; rfl
  rw [K] at g2
  omega
theorem FT.congr (F : FT n key A R z y st C) (h0 : ∀ x, A x → ¬ R x → ∀ j, st' x j = st x j) (h1 : ∀ x, A x → st' x 1 = st x 1 ∧ st' x 4 = st x 4) (h5 : ∀ x, A x → st' x 5 = 0 ∨ st' x 5 = 1) : FT n key A R z y st' C := by
  have hm : ∀ p x, A p → x ∈ C p → A x ∧ ¬ R x := fun p x hp hx => let h := (F.mem p x hp).1 hx; ⟨h.1, h.2.1⟩
  refine ⟨F.lt, F.ra, fun p x hp => ?_, F.nd, fun p hp => ?_, fun x hx hr => ?_, fun p hp => ?_, fun x p hx hr hp => ?_, fun p hp => ?_, fun p hp d => ?_, h5⟩
  · rw [F.mem p x hp]
    constructor
    · rintro ⟨a, b, c⟩; exact ⟨a, b, by rw [h0 x a b]; exact c⟩
    · rintro ⟨a, b, c⟩; exact ⟨a, b, by rw [h0 x a b] at c; exact c⟩
  · exact (F.cyc p hp).congr (fun x hx => h0 x (hm p x hp hx).1 (hm p x hp hx).2 3) (fun x hx => h0 x (hm p x hp hx).1 (hm p x hp hx).2 2)
  · rw [h0 x hx hr]; exact F.par x hx hr
  · rw [(h1 p hp).1]; exact F.ch p hp
  · rw [h0 x hx hr] at hp; exact F.ord x p hx hr hp
  · rw [(h1 p hp).2]; exact F.dg p hp
  · rw [cntP_congr (Q := fun x => A x ∧ ¬ R x ∧ st x 0 = (p : Nat) ∧ st x 4 + st x 5 + (if (x : Int) = y then 1 else 0) ≤ d) fun x _ => ?_]
    · exact F.cn p hp d
    · constructor
      · rintro ⟨a, b, c, e⟩; rw [h0 x a b, h0 x a b] at e; rw [h0 x a b] at c; exact ⟨a, b, c, e⟩
      · rintro ⟨a, b, c, e⟩; refine ⟨a, b, ?_, ?_⟩
        · rw [h0 x a b]; exact c
        · rw [h0 x a b, h0 x a b]; exact e
/-- Nobody is out of order. -/
theorem FT.clean (F : FT n key A R z y st C) (hz : z < 0 ∨ ∃ w : Nat, z = w ∧ (R w ∨ ¬ A w)) (hy : y < 0 ∨ ∃ w : Nat, y = w ∧ (R w ∨ ¬ A w)) : FT n key A R (-1) (-1) st C := by
  have out : ∀ {z : Int}, (z < 0 ∨ ∃ w : Nat, z = w ∧ (R w ∨ ¬ A w)) → ∀ x : Nat, A x → ¬ R x → (x : Int) ≠ z := by
    intro z hz x h1 h2 e
    rcases hz with h | ⟨w, h, k⟩
    · omega
    · have : x = w := by omega
      subst this
      rcases k with k | k
      · exact h2 k
      · exact k h1
  refine ⟨F.lt, F.ra, F.mem, F.nd, F.cyc, F.par, F.ch, fun x p hx hr hp _ => F.ord x p hx hr hp (out hz x hx hr), F.dg, fun p hp d => ?_, F.mrk⟩
  rw [cntP_congr (Q := fun x => A x ∧ ¬ R x ∧ st x 0 = (p : Nat) ∧ st x 4 + st x 5 + (if (x : Int) = y then 1 else 0) ≤ d) fun x _ => ?_]
  · exact F.cn p hp d
  · constructor
    · rintro ⟨a, b, c, e⟩; exact ⟨a, b, c, by rw [if_neg (out hy x a b)]; rwa [if_neg (by omega)] at e⟩
    · rintro ⟨a, b, c, e⟩; exact ⟨a, b, c, by rw [if_neg (by omega)]; rwa [if_neg (out hy x a b)] at e⟩
/-- The best of the tops is the best of all. -/
theorem FT.min (F : FT n key A R (-1) (-1) st C) {b : Nat} (hb : ∀ v, R v → v = b ∨ ahd key b v) : ∀ x, A x → x = b ∨ ahd key b x := by
  have key2 : ∀ k : Nat, ∀ x, A x → cntP n (fun y => ahd key y x) ≤ k → x = b ∨ ahd key b x := by
    intro k
    induction k with
    | zero =>
      intro x hx hk
      by_cases hr : R x
      · exact hb x hr
      · obtain ⟨p, hp, hap⟩ := F.par x hx hr
        have := F.ord x p hx hr hp (by omega)
        have := cntP_one (n := n) (P := fun y => ahd key y x) (F.lt p hap) this
        omega
    | succ k ih =>
      intro x hx hk
      by_cases hr : R x
      · exact hb x hr
      · obtain ⟨p, hp, hap⟩ := F.par x hx hr
        have ho := F.ord x p hx hr hp (by omega)
        have h1 : cntP n (fun y => y = p ∨ ahd key y p) ≤ cntP n (fun y => ahd key y x) := cntP_le fun y _ hy => by
          rcases hy with rfl | hy
          · exact ho
          · exact ahd_tr hy ho
        rw [cntP_add (P := fun y => ahd key y p) (F.lt p hap) ahd_irr] at h1
        right
        rcases ih p hap (by omega) with rfl | h
        · exact ho
        · exact ahd_tr h ho
  intro x hx
  exact key2 n x hx cntP_all
end

end Go.Proofs.YtdcamadeblojdaaGreat

namespace Go.Proofs.YtdcamadeblojdaaGreat
open Go
open Classical
set_option linter.unusedVariables false

section
variable {n : Nat} {key : Nat → Int} {A R : Nat → Prop} {z y : Int} {st st' : Nat → Nat → Int} {C : Nat → List Nat}
theorem FT.init : FT n key (fun _ => False) (fun _ => False) (-1) (-1) st C :=
  ⟨fun _ h => h.elim, fun _ h => h, fun _ _ h => h.elim, fun _ h => h.elim, fun _ h => h.elim, fun _ h => h.elim, fun _ h => h.elim, fun _ _ h => h.elim, fun _ h => h.elim, fun _ h => h.elim, fun _ h => h.elim⟩
theorem FT.rekey {key' : Nat → Int} (F : FT n key A R z y st C) (h : ∀ x, A x → ¬ R x → ∀ p : Nat, st x 0 = p → (x : Int) ≠ z → ahd key p x → ahd key' p x) : FT n key' A R z y st C :=
  ⟨F.lt, F.ra, F.mem, F.nd, F.cyc, F.par, F.ch, fun x p hx hr hp hz => h x hx hr p hp hz (F.ord x p hx hr hp hz), F.dg, F.cn, F.mrk⟩
/-- A new top. -/
theorem FT.put (F : FT n key A R (-1) (-1) st C) {h : Nat} (hn : h < n) (hA : ¬ A h) (hs : ∀ x, x ≠ h → ∀ j, st' x j = st x j) (h1 : st' h 1 = -1) (h4 : st' h 4 = 0) (h5 : st' h 5 = 0) :
    FT n key (fun x => x = h ∨ A x) (fun x => x = h ∨ R x) (-1) (-1) st' (fun p => if p = h then [] else C p) := by
  have ne : ∀ x, A x → x ≠ h := fun x hx e => hA (e ▸ hx)
  have hp : ∀ x : Nat, A x → ¬ R x → st x 0 ≠ (h : Nat) := fun x hx hr e => by
    obtain ⟨p, e2, hp⟩ := F.par x hx hr
    have : p = h := by omega
    exact hA (this ▸ hp)
  have out : ∀ x, (x = h ∨ A x) ∧ ¬ (x = h ∨ R x) ↔ A x ∧ ¬ R x := fun x => by
    constructor
    · rintro ⟨h1 | h1, h2⟩
      · exact absurd (.inl h1) h2
      · exact ⟨h1, fun k => h2 (.inr k)⟩
    · rintro ⟨h1, h2⟩
      exact ⟨.inr h1, by rintro (k | k); exact ne x h1 k; exact h2 k⟩
  refine ⟨?_, ?_, ?_, ?_, ?_, ?_, ?_, ?_, ?_, ?_, ?_⟩
  · rintro x (rfl | hx)
    · exact hn
    · exact F.lt x hx
  · rintro x (rfl | hx)
    · exact .inl rfl
    · exact .inr (F.ra x hx)
  · intro p x hpA
    rw [← and_assoc, out x]
    by_cases e : p = h
    · subst e
      rw [if_pos rfl]
      constructor
      · intro k; simp at k
      · rintro ⟨⟨k1, k2⟩, k3⟩
        rw [hs x (ne x k1)] at k3
        exact absurd k3 (hp x k1 k2)
    · rw [if_neg e, F.mem p x (hpA.resolve_left e)]
      constructor
      · rintro ⟨a, b, c⟩; exact ⟨⟨a, b⟩, by rw [hs x (ne x a)]; exact c⟩
      · rintro ⟨⟨a, b⟩, c⟩; exact ⟨a, b, by rw [hs x (ne x a)] at c; exact c⟩
  · intro p hpA
    show (if p = h then [] else C p).Nodup
    by_cases e : p = h
    · rw [if_pos e]; exact List.nodup_nil
    · rw [if_neg e]; exact F.nd p (hpA.resolve_left e)
  · intro p hpA
    show Cyc st' (if p = h then [] else C p)
    by_cases e : p = h
    · rw [if_pos e]; trivial
    · rw [if_neg e]
      have hpA := hpA.resolve_left e
      exact (F.cyc p hpA).congr (fun x hx => hs x (ne x ((F.mem p x hpA).1 hx).1) 3) (fun x hx => hs x (ne x ((F.mem p x hpA).1 hx).1) 2)
  · intro x hx hr
    obtain ⟨a, b⟩ := (out x).1 ⟨hx, hr⟩
    obtain ⟨p, e, hpA⟩ := F.par x a b
    exact ⟨p, by rw [hs x (ne x a)]; exact e, .inr hpA⟩
  · intro p hpA
    show ((if p = h then [] else C p) = [] ∧ _) ∨ ∃ c : Nat, _ ∧ c ∈ (if p = h then [] else C p)
    by_cases e : p = h
    · subst e; rw [if_pos rfl]; exact .inl ⟨rfl, h1⟩
    · rw [if_neg e, hs p e]; exact F.ch p (hpA.resolve_left e)
  · intro x p hx hr hp' hz
    obtain ⟨a, b⟩ := (out x).1 ⟨hx, hr⟩
    rw [hs x (ne x a)] at hp'
    exact F.ord x p a b hp' hz
  · intro p hpA
    show _ = (((if p = h then [] else C p).length : Nat) : Int)
    by_cases e : p = h
    · subst e; rw [if_pos rfl, h4]; rfl
    · rw [if_neg e, hs p e]; exact F.dg p (hpA.resolve_left e)
  · intro p hpA d
    by_cases e : p = h
    · subst e
      rw [cntP_0]
      · omega
      · rintro x _ ⟨k1, k2, k3, _⟩
        obtain ⟨a, b⟩ := (out x).1 ⟨k1, k2⟩
        rw [hs x (ne x a)] at k3
        exact hp x a b k3
    · refine Int.le_trans (cntP_le fun x _ => ?_) (F.cn p (hpA.resolve_left e) d)
      rintro ⟨k1, k2, k3, k4⟩
      obtain ⟨a, b⟩ := (out x).1 ⟨k1, k2⟩
      rw [hs x (ne x a)] at k3
      rw [hs x (ne x a), hs x (ne x a)] at k4
      exact ⟨a, b, k3, k4⟩
  · rintro x (rfl | hx)
    · exact .inl h5
    · rw [hs x (ne x hx)]; exact F.mrk x hx

/-- A node is cut off its parent. -/
theorem FT.drop (F : FT n key A R z y st C) {h p : Nat} (hA : A h) (hR : ¬ R h) (hp : st h 0 = (p : Nat)) (hz : ∀ x : Nat, x ≠ h → (x : Int) ≠ z) (hy : ∀ x : Nat, x ≠ h → (x : Int) ≠ y)
    (s0 : ∀ x, x ≠ p → ∀ j, j ≠ 2 ∧ j ≠ 3 → st' x j = st x j) (s4 : st' p 4 = st p 4 - 1) (s1 : st' p 1 = if st p 4 - 1 = 0 then -1 else if st p 1 = (h : Nat) then st h 3 else st p 1)
    (sp : st' p 0 = st p 0 ∧ st' p 5 = st p 5) (sl : ∀ x, st' x 2 = lv st h x 2 ∧ st' x 3 = lv st h x 3) :
    ∃ C', FT n key A (fun x => x = h ∨ R x) (-1) (p : Nat) st' C' := by
  obtain ⟨p', hp', hpA⟩ := F.par h hA hR
  have : p' = p := by omega
  subst this
  have hmem : h ∈ C p' := (F.mem p' h hpA).2 ⟨hA, hR, hp⟩
  obtain ⟨t, hc, hnd, hm, hl⟩ := (F.cyc p' hpA).from hmem (F.nd p' hpA)
  have ht : ∀ x, x ∈ t ↔ x ∈ C p' ∧ x ≠ h := fun x => by
    rw [← hm x]
    constructor
    · intro k; exact ⟨List.mem_cons_of_mem _ k, by rintro rfl; exact (List.nodup_cons.1 hnd).1 k⟩
    · rintro ⟨k, k2⟩
      rcases List.mem_cons.1 k with e | e
      · exact absurd e k2
      · exact e
  have e0 : ∀ x, st' x 0 = st x 0 := fun x => by
    by_cases e : x = p'
    · subst e; exact sp.1
    · exact s0 x e 0 (by omega)
  have e5 : ∀ x, st' x 5 = st x 5 := fun x => by
    by_cases e : x = p'
    · subst e; exact sp.2
    · exact s0 x e 5 (by omega)
  have eC : ∀ q, (if q = p' then t else C q) = if q = p' then t else C q := fun _ => rfl
  refine ⟨fun q => if q = p' then t else C q, F.lt, ?_, ?_, ?_, ?_, ?_, ?_, ?_, ?_, ?_, ?_⟩
  · rintro x (rfl | hx)
    · exact hA
    · exact F.ra x hx
  · intro q x hq
    show x ∈ (if q = p' then t else C q) ↔ _
    rw [e0]
    by_cases e : q = p'
    · subst e
      rw [if_pos rfl, ht, F.mem q x hq]
      constructor
      · rintro ⟨⟨a, b, c⟩, d⟩; exact ⟨a, by rintro (k | k); exact d k; exact b k, c⟩
      · rintro ⟨a, b, c⟩; exact ⟨⟨a, fun k => b (.inr k), c⟩, fun k => b (.inl k)⟩
    · rw [if_neg e, F.mem q x hq]
      constructor
      · rintro ⟨a, b, c⟩
        refine ⟨a, ?_, c⟩
        rintro (k | k)
        · subst k; omega
        · exact b k
      · rintro ⟨a, b, c⟩; exact ⟨a, fun k => b (.inr k), c⟩
  · intro q hq
    show (if q = p' then t else C q).Nodup
    by_cases e : q = p'
    · rw [if_pos e]; exact (List.nodup_cons.1 hnd).2
    · rw [if_neg e]; exact F.nd q hq
  · intro q hq
    show Cyc st' (if q = p' then t else C q)
    by_cases e : q = p'
    · rw [if_pos e]
      exact (hc.leave hnd).congr (fun x _ => (sl x).2) (fun x _ => (sl x).1)
    · rw [if_neg e]
      have hout : ∀ x ∈ C q, x ∉ h :: t := fun x hx k => by
        have a := (F.mem q x hq).1 hx
        have b := (F.mem p' x hpA).1 ((hm x).1 k)
        omega
      refine (F.cyc q hq).congr (fun x hx => ?_) (fun x hx => ?_)
      · rw [(sl x).2, lv_out hc (hout x hx)]
      · rw [(sl x).1, lv_out hc (hout x hx)]
  · intro x hx hr
    rw [e0]; exact F.par x hx fun k => hr (.inr k)
  · intro q hq
    show ((if q = p' then t else C q) = [] ∧ _) ∨ ∃ c : Nat, _ ∧ c ∈ (if q = p' then t else C q)
    by_cases e : q = p'
    · subst e
      rw [if_pos rfl, s1]
      have hd := F.dg q hpA
      rw [← hl] at hd
      by_cases k : st q 4 - 1 = 0
      · rw [if_pos k]
        left
        refine ⟨?_, rfl⟩
        have : t.length = 0 := by simp at hd; omega
        exact List.length_eq_zero_iff.1 this
      · rw [if_neg k]
        right
        have htne : t ≠ [] := by
          rintro rfl
          simp at hd; omega
        by_cases k2 : st q 1 = (h : Nat)
        · rw [if_pos k2]
          cases t with
          | nil => exact absurd rfl htne
          | cons a u => exact ⟨a, hc.1, by simp⟩
        · rw [if_neg k2]
          rcases F.ch q hpA with ⟨k3, _⟩ | ⟨c, k3, k4⟩
          · rw [k3] at hmem; simp at hmem
          · exact ⟨c, k3, (ht c).2 ⟨k4, by rintro rfl; exact k2 k3⟩⟩
    · rw [if_neg e, s0 q e 1 (by omega)]; exact F.ch q hq
  · intro x q hx hr hq _
    rw [e0] at hq
    exact F.ord x q hx (fun k => hr (.inr k)) hq (hz x fun k => hr (.inl k))
  · intro q hq
    show _ = (((if q = p' then t else C q).length : Nat) : Int)
    by_cases e : q = p'
    · subst e; rw [if_pos rfl, s4, F.dg q hq, ← hl]; simp
    · rw [if_neg e, s0 q e 4 (by omega)]; exact F.dg q hq
  · intro q hq d
    refine Int.le_trans (cntP_le fun x _ => ?_) (F.cn q hq d)
    rintro ⟨a, b, c, e⟩
    have hxh : x ≠ h := fun k => b (.inl k)
    refine ⟨a, fun k => b (.inr k), by rw [e0] at c; exact c, ?_⟩
    rw [if_neg (hy x hxh)]
    rw [e5] at e
    by_cases k : x = p'
    · subst k; rw [s4, if_pos rfl] at e; omega
    · rw [s0 x k 4 (by omega), if_neg (by omega)] at e; exact e
  · intro x hx; rw [e5]; exact F.mrk x hx
/-- The parent is marked. -/
theorem FT.mark (F : FT n key A R (-1) y st C) {p : Nat} (hy : y = (p : Nat)) (hp : A p) (h5 : st p 5 = 0) (hs : ∀ x j, (x ≠ p ∨ j ≠ 5) → st' x j = st x j) (h5' : st' p 5 = 1) : FT n key A R (-1) (-1) st' C := by
  refine ⟨F.lt, F.ra, fun q x hq => ?_, F.nd, fun q hq => ?_, fun x hx hr => ?_, fun q hq => ?_, fun x q hx hr hq => ?_, fun q hq => ?_, fun q hq d => ?_, fun x hx => ?_⟩
  · rw [hs x 0 (.inr (by omega))]; exact F.mem q x hq
  · exact (F.cyc q hq).congr (fun x _ => hs x 3 (.inr (by omega))) (fun x _ => hs x 2 (.inr (by omega)))
  · rw [hs x 0 (.inr (by omega))]; exact F.par x hx hr
  · rw [hs q 1 (.inr (by omega))]; exact F.ch q hq
  · rw [hs x 0 (.inr (by omega))] at hq; exact F.ord x q hx hr hq
  · rw [hs q 4 (.inr (by omega))]; exact F.dg q hq
  · refine Int.le_trans (cntP_le fun x _ => ?_) (F.cn q hq d)
    rintro ⟨a, b, c, e⟩
    rw [hs x 0 (.inr (by omega))] at c
    rw [hs x 4 (.inr (by omega)), if_neg (by omega)] at e
    refine ⟨a, b, c, ?_⟩
    by_cases k : x = p
    · subst k; rw [if_pos (by omega)]; omega
    · rw [if_neg (by omega)]; rw [hs x 5 (.inl k)] at e; exact e
  · by_cases k : x = p
    · subst k; exact .inr h5'
    · rw [hs x 5 (.inl k)]; exact F.mrk x hx
end

end Go.Proofs.YtdcamadeblojdaaGreat

namespace Go.Proofs.YtdcamadeblojdaaGreat
open Go
open Classical
set_option linter.unusedVariables false

section
variable {n : Nat} {key : Nat → Int} {A R : Nat → Prop} {z y : Int} {st st' : Nat → Nat → Int} {C : Nat → List Nat}
/-- A top leaves; its children are tops. -/
theorem FT.lose (F : FT n key A R (-1) (-1) st C) {b : Nat} (hb : R b) :
    FT n key (fun x => A x ∧ x ≠ b) (fun x => (R x ∧ x ≠ b) ∨ (A x ∧ ¬ R x ∧ st x 0 = (b : Nat))) (-1) (-1) st C := by
  have out : ∀ x, (A x ∧ x ≠ b) → ¬ ((R x ∧ x ≠ b) ∨ (A x ∧ ¬ R x ∧ st x 0 = (b : Nat))) → A x ∧ ¬ R x ∧ st x 0 ≠ (b : Nat) := by
    rintro x ⟨h1, h2⟩ h3
    have hr : ¬ R x := fun k => h3 (.inl ⟨k, h2⟩)
    exact ⟨h1, hr, fun k => h3 (.inr ⟨h1, hr, k⟩)⟩
  refine ⟨fun x hx => F.lt x hx.1, ?_, ?_, fun p hp => F.nd p hp.1, fun p hp => F.cyc p hp.1, ?_, fun p hp => F.ch p hp.1, ?_, fun p hp => F.dg p hp.1, ?_, fun x hx => F.mrk x hx.1⟩
  · rintro x (⟨h1, h2⟩ | ⟨h1, h2, _⟩)
    · exact ⟨F.ra x h1, h2⟩
    · exact ⟨h1, by rintro rfl; exact h2 hb⟩
  · rintro p x ⟨hp, hpb⟩
    rw [F.mem p x hp]
    constructor
    · rintro ⟨h1, h2, h3⟩
      refine ⟨⟨h1, by rintro rfl; exact h2 hb⟩, ?_, h3⟩
      rintro (⟨k, _⟩ | ⟨_, _, k⟩)
      · exact h2 k
      · omega
    · rintro ⟨h1, h2, h3⟩
      obtain ⟨a, c, d⟩ := out x h1 h2
      exact ⟨a, c, h3⟩
  · intro x h1 h2
    obtain ⟨a, c, d⟩ := out x h1 h2
    obtain ⟨p, e, hp⟩ := F.par x a c
    exact ⟨p, e, hp, by rintro rfl; exact d e⟩
  · intro x p h1 h2 h3 h4
    obtain ⟨a, c, d⟩ := out x h1 h2
    exact F.ord x p a c h3 h4
  · rintro p ⟨hp, _⟩ d
    refine Int.le_trans (cntP_le fun x _ => ?_) (F.cn p hp d)
    rintro ⟨h1, h2, h3, h4⟩
    obtain ⟨a, c, _⟩ := out x h1 h2
    exact ⟨a, c, h3, h4⟩

/-- A top becomes the child of another of the same degree. -/
theorem FT.hang (F : FT n key A R (-1) (-1) st C) {a b : Nat} (ha : R a) (hb : R b) (hab : ahd key a b) (hd : st b 4 = st a 4)
    (s0 : ∀ x, x ≠ a → x ≠ b → ∀ j, j ≠ 2 ∧ j ≠ 3 → st' x j = st x j) (sa : st' a 0 = st a 0 ∧ st' a 5 = st a 5) (sa4 : st' a 4 = st a 4 + 1)
    (sb : st' b 0 = (a : Nat) ∧ st' b 1 = st b 1 ∧ st' b 4 = st b 4 ∧ st' b 5 = st b 5)
    (sc : (st a 1 = -1 ∧ st' a 1 = (b : Nat) ∧ st b 2 = (b : Nat) ∧ st b 3 = (b : Nat) ∧ (∀ x, st' x 2 = st x 2 ∧ st' x 3 = st x 3)) ∨
      (∃ c : Nat, st a 1 = c ∧ st' a 1 = c ∧ ∀ x, st' x 2 = jn st b c x 2 ∧ st' x 3 = jn st b c x 3)) :
    ∃ C', FT n key A (fun x => R x ∧ x ≠ b) (-1) (-1) st' C' := by
  have hA := F.ra a ha
  have hB := F.ra b hb
  have hne : a ≠ b := by rintro rfl; exact ahd_irr hab
  have hbC : ∀ p, A p → b ∉ C p := fun p hp k => ((F.mem p b hp).1 k).2.1 hb
  have haC : ∀ p, A p → a ∉ C p := fun p hp k => ((F.mem p a hp).1 k).2.1 ha
  -- the ring of a's children
  obtain ⟨L, hL1, hL2, hL3, hL4, hL5, hL6⟩ : ∃ L : List Nat, Cyc st' L ∧ L.Nodup ∧ (∀ x, x ∈ L ↔ x = b ∨ x ∈ C a) ∧ L.length = (C a).length + 1 ∧ (∃ c : Nat, st' a 1 = c ∧ c ∈ L) ∧
      ∀ p, A p → p ≠ a → ∀ x ∈ C p, st' x 2 = st x 2 ∧ st' x 3 = st x 3 := by
    rcases sc with ⟨h1, h2, h3, h4, h5⟩ | ⟨c, h1, h2, h3⟩
    · have hnil : C a = [] := by
        rcases F.ch a hA with ⟨k, _⟩ | ⟨c, k, _⟩
        · exact k
        · omega
      refine ⟨[b], Cyc.one (by rw [(h5 b).2]; exact h4) (by rw [(h5 b).1]; exact h3), by simp, fun x => by rw [hnil]; simp, by rw [hnil]; rfl, ⟨b, h2, by simp⟩, fun _ _ _ x _ => h5 x⟩
    · have hc : c ∈ C a := by
        rcases F.ch a hA with ⟨_, k⟩ | ⟨c', k, k2⟩
        · omega
        · have : c' = c := by omega
          exact this ▸ k2
      obtain ⟨t, k1, k2, k3, k4⟩ := (F.cyc a hA).from hc (F.nd a hA)
      have hbt : b ∉ c :: t := fun k => hbC a hA ((k3 b).1 k)
      refine ⟨c :: b :: t, (k1.join k2 hbt).congr (fun x _ => (h3 x).2) (fun x _ => (h3 x).1), ?_, fun x => ?_, ?_, ⟨c, h2, by simp⟩, ?_⟩
      · simp only [List.nodup_cons, List.mem_cons] at k2 hbt ⊢
        refine ⟨?_, fun k => hbt (.inr k), k2.2⟩
        rintro (k | k)
        · exact hbt (.inl k.symm)
        · exact k2.1 k
      · rw [← k3 x]; simp only [List.mem_cons]
        constructor
        · rintro (k | k | k)
          · exact .inr (.inl k)
          · exact .inl k
          · exact .inr (.inr k)
        · rintro (k | k | k)
          · exact .inr (.inl k)
          · exact .inl k
          · exact .inr (.inr k)
      · rw [← k4]; simp
      · intro p hp hpa x hx
        have hout : x ∉ c :: t := fun k => by
          have a1 := (F.mem p x hp).1 hx
          have a2 := (F.mem a x hA).1 ((k3 x).1 k)
          omega
        have hxb : x ≠ b := by rintro rfl; exact hbC p hp hx
        rw [(h3 x).1, (h3 x).2, jn_out k1 hout hxb, jn_out k1 hout hxb]
        exact ⟨rfl, rfl⟩
  have out : ∀ x, A x → ¬ (R x ∧ x ≠ b) → x = b ∨ (x ≠ b ∧ ¬ R x) := fun x _ h => by
    by_cases e : x = b
    · exact .inl e
    · exact .inr ⟨e, fun k => h ⟨k, e⟩⟩
  have e0 : ∀ x, x ≠ b → st' x 0 = st x 0 := fun x hx => by
    by_cases e : x = a
    · subst e; exact sa.1
    · exact s0 x e hx 0 (by omega)
  have e5 : ∀ x, st' x 5 = st x 5 := fun x => by
    by_cases e : x = a
    · subst e; exact sa.2
    · by_cases e2 : x = b
      · subst e2; exact sb.2.2.2
      · exact s0 x e e2 5 (by omega)
  have e4 : ∀ x, x ≠ a → st' x 4 = st x 4 := fun x hx => by
    by_cases e2 : x = b
    · subst e2; exact sb.2.2.1
    · exact s0 x hx e2 4 (by omega)
  refine ⟨fun q => if q = a then L else C q, F.lt, fun x hx => F.ra x hx.1, ?_, ?_, ?_, ?_, ?_, ?_, ?_, ?_, ?_⟩
  · intro p x hp
    show x ∈ (if p = a then L else C p) ↔ _
    by_cases e : p = a
    · subst e
      rw [if_pos rfl, hL3, F.mem p x hp]
      constructor
      · rintro (rfl | ⟨h1, h2, h3⟩)
        · exact ⟨hB, fun k => k.2 rfl, sb.1⟩
        · exact ⟨h1, fun k => h2 k.1, by rw [e0 x (by rintro rfl; exact h2 hb)]; exact h3⟩
      · rintro ⟨h1, h2, h3⟩
        rcases out x h1 h2 with k | ⟨k, k2⟩
        · exact .inl k
        · rw [e0 x k] at h3; exact .inr ⟨h1, k2, h3⟩
    · rw [if_neg e, F.mem p x hp]
      constructor
      · rintro ⟨h1, h2, h3⟩
        exact ⟨h1, fun k => h2 k.1, by rw [e0 x (by rintro rfl; exact h2 hb)]; exact h3⟩
      · rintro ⟨h1, h2, h3⟩
        rcases out x h1 h2 with k | ⟨k, k2⟩
        · subst k; exact absurd (Int.ofNat.inj (h3.symm.trans sb.1)) e
        · rw [e0 x k] at h3; exact ⟨h1, k2, h3⟩
  · intro p hp
    show (if p = a then L else C p).Nodup
    by_cases e : p = a
    · rw [if_pos e]; exact hL2
    · rw [if_neg e]; exact F.nd p hp
  · intro p hp
    show Cyc st' (if p = a then L else C p)
    by_cases e : p = a
    · rw [if_pos e]; exact hL1
    · rw [if_neg e]
      exact (F.cyc p hp).congr (fun x hx => (hL6 p hp e x hx).2) (fun x hx => (hL6 p hp e x hx).1)
  · intro x h1 h2
    rcases out x h1 h2 with k | ⟨k, k2⟩
    · subst k; exact ⟨a, sb.1, hA⟩
    · rw [e0 x k]; exact F.par x h1 k2
  · intro p hp
    show ((if p = a then L else C p) = [] ∧ _) ∨ ∃ c : Nat, _ ∧ c ∈ (if p = a then L else C p)
    by_cases e : p = a
    · subst e; rw [if_pos rfl]; exact .inr hL5
    · rw [if_neg e]
      have : st' p 1 = st p 1 := by
        by_cases e2 : p = b
        · subst e2; exact sb.2.1
        · exact s0 p e e2 1 (by omega)
      rw [this]; exact F.ch p hp
  · intro x p h1 h2 h3 _
    rcases out x h1 h2 with k | ⟨k, k2⟩
    · subst k
      have : p = a := by have := sb.1; omega
      subst this; exact hab
    · rw [e0 x k] at h3; exact F.ord x p h1 k2 h3 (by omega)
  · intro p hp
    show _ = (((if p = a then L else C p).length : Nat) : Int)
    by_cases e : p = a
    · subst e; rw [if_pos rfl, sa4, F.dg p hp, hL4]; omega
    · rw [if_neg e, e4 p e]; exact F.dg p hp
  · intro p hp d
    have val : ∀ x, A x → ¬ R x → st' x 4 + st' x 5 = st x 4 + st x 5 := fun x hx hr => by
      rw [e4 x (by rintro rfl; exact hr ha), e5]
    by_cases e : p = a
    · subst e
      by_cases hdl : ((C p).length : Int) ≤ d
      · have : cntP n (fun x => A x ∧ ¬ (R x ∧ x ≠ b) ∧ st' x 0 = (p : Nat) ∧ st' x 4 + st' x 5 + (if (x : Int) = -1 then 1 else 0) ≤ d) ≤ cntP n (fun x => A x ∧ ¬ R x ∧ st x 0 = (p : Nat)) + 1 :=
          cntP_le1 (a := b) fun x _ => by
            rintro ⟨h1, h2, h3, _⟩
            rcases out x h1 h2 with k | ⟨k, k2⟩
            · exact .inl k
            · rw [e0 x k] at h3; exact .inr ⟨h1, k2, h3⟩
        rw [F.len hp] at this
        omega
      · refine Int.le_trans (cntP_le fun x _ => ?_) (F.cn p hp d)
        rintro ⟨h1, h2, h3, h4⟩
        rcases out x h1 h2 with k | ⟨k, k2⟩
        · subst k
          exfalso
          rw [sb.2.2.1, sb.2.2.2, hd, F.dg p hp, if_neg (by omega)] at h4
          have := F.mrk x hB
          omega
        · rw [e0 x k] at h3
          rw [val x h1 k2] at h4
          exact ⟨h1, k2, h3, h4⟩
    · refine Int.le_trans (cntP_le fun x _ => ?_) (F.cn p hp d)
      rintro ⟨h1, h2, h3, h4⟩
      rcases out x h1 h2 with k | ⟨k, k2⟩
      · subst k; exact absurd (Int.ofNat.inj (h3.symm.trans sb.1)) e
      · rw [e0 x k] at h3
        rw [val x h1 k2] at h4
        exact ⟨h1, k2, h3, h4⟩
  · intro x hx; rw [e5]; exact F.mrk x hx
end

/-- The ring of the tops, and the best of them. -/
structure RI (key : Nat → Int) (st : Nat → Nat → Int) (L : List Nat) (best : Int) : Prop where
  nd : L.Nodup
  cyc : Cyc st L
  r0 : ∀ x ∈ L, st x 0 = -1
  bst : (L = [] ∧ best = -1) ∨ ∃ b : Nat, best = b ∧ b ∈ L ∧ ∀ v ∈ L, v = b ∨ ahd key b v

end Go.Proofs.YtdcamadeblojdaaGreat

namespace Go.Proofs.YtdcamadeblojdaaGreat
open Go
set_option linter.unusedVariables false
set_option linter.unusedSimpArgs false

/-- A cell of the links. -/
def fcl (st : Nat → Nat → Int) (p : Nat) : Value := if p % 6 = 5 then .bool (decide (st (p / 6) 5 = 1)) else .int .i64 (st (p / 6) (p % 6))
theorem add_2 (b i j : Nat) : ((bk b).add i).add j = (bk b).add (i + j) := by rw [bk_add, bk_add2, bk_add]
theorem fcl_i {st : Nat → Nat → Int} {x k : Nat} (hk : k < 5) : fcl st (x * 6 + k) = .int .i64 (st x k) := by
  unfold fcl
  rw [show (x * 6 + k) % 6 = k by omega, show (x * 6 + k) / 6 = x by omega, if_neg (by omega)]
theorem fcl_b {st : Nat → Nat → Int} {x : Nat} : fcl st (x * 6 + 5) = .bool (decide (st x 5 = 1)) := by
  unfold fcl
  rw [show (x * 6 + 5) % 6 = 5 by omega, show (x * 6 + 5) / 6 = x by omega, if_pos rfl]
theorem fcl_setI {st : Nat → Nat → Int} {x k : Nat} {v : Int} (hk : k < 5) : updV (fcl st) (x * 6 + k) (.int .i64 v) = fcl (upd2 st x k v) := by
  funext p
  unfold updV
  by_cases e : p = x * 6 + k
  · subst e; rw [if_pos rfl, fcl_i hk, upd2_at]
  · rw [if_neg e]
    unfold fcl
    by_cases h5 : p % 6 = 5
    · rw [if_pos h5, if_pos h5, upd2_j (by omega)]
    · rw [if_neg h5, if_neg h5]
      unfold upd2
      rw [if_neg (by omega)]
theorem fcl_setB {st : Nat → Nat → Int} {x : Nat} {t : Bool} : updV (fcl st) (x * 6 + 5) (.bool t) = fcl (upd2 st x 5 (if t then 1 else 0)) := by
  funext p
  unfold updV
  by_cases e : p = x * 6 + 5
  · subst e; rw [if_pos rfl, fcl_b, upd2_at]; cases t <;> rfl
  · rw [if_neg e]
    unfold fcl
    by_cases h5 : p % 6 = 5
    · rw [if_pos h5, if_pos h5, upd2_v (by omega)]
    · rw [if_neg h5, if_neg h5, upd2_j (by omega)]

section
variable {own own' : Own} {h h' : H} {i b n : Nat} {st : Nat → Nat → Int}
abbrev HL (own : Own) (h : H) (i b n : Nat) (st : Nat → Nat → Int) : Prop := B1 own h i b (va (n * 6) (fcl st))
theorem HL.ix {x c : Nat} {K : Addr → Prop} (hx : x < n) (k : K ((bk b).add (x * 6))) : ixS (.slice (some (bk b)) n c) (x : Int) 6 K := nx hx k
theorem HL.rd {x k : Nat} (L : HL own h i b n st) (hx : x < n) (hk : k < 5) : hcell h (((bk b).add (x * 6)).add k) = some (.int .i64 (st x k)) := by
  rw [add_2]
  refine L.ld ?_
  rw [va_get (by omega), fcl_i hk]
theorem HL.rd5 {x : Nat} (L : HL own h i b n st) (hx : x < n) : hcell h (((bk b).add (x * 6)).add 5) = some (.bool (decide (st x 5 = 1))) := by
  rw [add_2]
  refine L.ld ?_
  rw [va_get (by omega), fcl_b]
theorem HL.ldI {x k : Nat} {K : Int → Prop} (L : HL own h i b n st) (hx : x < n) (hk : k < 5) (q : K (st x k)) : ldI h (((bk b).add (x * 6)).add k) .i64 K := ⟨_, L.rd hx hk, q⟩
theorem HL.ldB {x : Nat} {K : Bool → Prop} (L : HL own h i b n st) (hx : x < n) (q : K (decide (st x 5 = 1))) : ldB h (((bk b).add (x * 6)).add 5) K := ⟨_, L.rd5 hx, q⟩
theorem HL.stI {x k : Nat} {v : Int} {K : H → Prop} (L : HL own h i b n st) (hx : x < n) (hk : k < 5)
    (q : ∀ g, Fm [i] own h own g → HL own g i b n (upd2 st x k v) → K g) : stC h (((bk b).add (x * 6)).add k) (.int .i64 v) K := by
  rw [add_2]
  refine L.st (by rw [va_length]; omega) fun g F L' => q g F ?_
  rw [va_set, fcl_setI hk] at L'
  exact L'
theorem HL.stB {x : Nat} {t : Bool} {K : H → Prop} (L : HL own h i b n st) (hx : x < n)
    (q : ∀ g, Fm [i] own h own g → HL own g i b n (upd2 st x 5 (if t then 1 else 0)) → K g) : stC h (((bk b).add (x * 6)).add 5) (.bool t) K := by
  rw [add_2]
  refine L.st (by rw [va_length]; omega) fun g F L' => q g F ?_
  rw [va_set, fcl_setB] at L'
  exact L'

/-- A queue of kind Fibonacci: owners 31 (the queue), 32 (its engine), 33 (keys), 34 (held), 35 (links). -/
structure HQ (own : Own) (h : H) (bq bf bl n : Nat) (key : Nat → Int) (held : Nat → Bool) (cnt last best : Int) (st : Nat → Nat → Int) : Prop where
  q : ∃ vk vh, B1 own h 31 bq [vk, vh, .iface 153 (.pointer (some (bk bf))), .int .i64 cnt, .int .i64 3, .int .i64 last] ∧ S1 own h 33 vk (ints n key) ∧ S1 own h 34 vh (bools n held)
  f : B1 own h 32 bf [.pointer (some (bk bq)), .int .i64 best, slV bl n]
  l : HL own h 35 bl n st
variable {bq bf bl : Nat} {key : Nat → Int} {held : Nat → Bool} {cnt last best : Int}
theorem HQ.fm {M : List Nat} (Q : HQ own h bq bf bl n key held cnt last best st) (F : Fm M own h own' h') (hM : ∀ j, j ∈ M → j < 31 ∨ 35 < j) : HQ own' h' bq bf bl n key held cnt last best st := by
  obtain ⟨vk, vh, k1, k2, k3⟩ := Q.q
  have no : ∀ j, 31 ≤ j → j ≤ 35 → j ∉ M := fun j h1 h2 k => by have := hM j k; omega
  exact ⟨⟨vk, vh, k1.fm F (no _ (by omega) (by omega)), k2.fm F (no _ (by omega) (by omega)), k3.fm F (no _ (by omega) (by omega))⟩, Q.f.fm F (no _ (by omega) (by omega)), Q.l.fm F (no _ (by omega) (by omega))⟩
/-- The links changed. -/
theorem HQ.ln {st' : Nat → Nat → Int} {g : H} (Q : HQ own h bq bf bl n key held cnt last best st) (F : Fm [35] own h own g) (L : HL own g 35 bl n st') : HQ own g bq bf bl n key held cnt last best st' := by
  obtain ⟨vk, vh, k1, k2, k3⟩ := Q.q
  exact ⟨⟨vk, vh, k1.fm F (by simp), k2.fm F (by simp), k3.fm F (by simp)⟩, Q.f.fm F (by simp), L⟩
theorem HQ.sI {x k : Nat} {v : Int} {K : H → Prop} (Q : HQ own h bq bf bl n key held cnt last best st) (hx : x < n) (hk : k < 5)
    (q : ∀ g, Fm [35] own h own g → HQ own g bq bf bl n key held cnt last best (upd2 st x k v) → K g) : stC h (((bk bl).add (x * 6)).add k) (.int .i64 v) K :=
  Q.l.stI hx hk fun g F L => q g F (Q.ln F L)
theorem HQ.s5 {x : Nat} {t : Bool} {K : H → Prop} (Q : HQ own h bq bf bl n key held cnt last best st) (hx : x < n)
    (q : ∀ g, Fm [35] own h own g → HQ own g bq bf bl n key held cnt last best (upd2 st x 5 (if t then 1 else 0)) → K g) : stC h (((bk bl).add (x * 6)).add 5) (.bool t) K :=
  Q.l.stB hx fun g F L => q g F (Q.ln F L)
/-- The engine's best. -/
theorem HQ.sb {x : Int} {K : H → Prop} (Q : HQ own h bq bf bl n key held cnt last best st)
    (q : ∀ g, Fm [32] own h own g → HQ own g bq bf bl n key held cnt last x st → K g) : stC h ((bk bf).add 1) (.int .i64 x) K :=
  Q.f.st (j := 1) (by simp) fun g F B => q g F (by
    obtain ⟨vk, vh, k1, k2, k3⟩ := Q.q
    exact ⟨⟨vk, vh, k1.fm F (by simp), k2.fm F (by simp), k3.fm F (by simp)⟩, B, Q.l.fm F (by simp)⟩)

theorem ahead_T (Q : HQ own h bq bf bl n key held cnt last best st) {a b : Nat} (ha : a < n) (hb : b < n) :
    T Tryz.prog F.heaps_keyed_ahead [.pointer (some (bk bq)), .int .i64 a, .int .i64 b] h fun r h' => ∃ t : Bool, r = .ret (.bool t) ∧ (t = true ↔ ahd key a b) ∧ h = h' := by
  obtain ⟨vk, vh, k1, k2, k3⟩ := Q.q
  refine E_heaps_keyed_ahead ?_
  unfold B_heaps_keyed_ahead
  refine ptrP_mk (ptrP_mk ⟨_, k1.ld rfl, k2.rdI ha ⟨_, k1.ld rfl, k2.rdI hb (ifP_of (fun h1 => ?_) (fun h1 => ?_))⟩⟩)
  · exact ⟨true, rfl, ⟨fun _ => .inl (of_decide_eq_true h1), fun _ => rfl⟩, rfl⟩
  have h1 := of_decide_eq_false h1
  refine ptrP_mk (ptrP_mk ⟨_, k1.ld rfl, k2.rdI ha ⟨_, k1.ld rfl, k2.rdI hb (ifP_of (fun h2 => ?_) (fun h2 => ?_))⟩⟩)
  · have h2 := of_decide_eq_true h2
    refine ⟨_, rfl, ?_, rfl⟩
    rw [decide_eq_true_iff]
    unfold ahd; omega
  · have h2 := of_decide_eq_false h2
    refine ⟨false, rfl, ?_, rfl⟩
    unfold ahd
    constructor
    · intro h; cases h
    · intro h; omega

theorem join_T (Q : HQ own h bq bf bl n key held cnt last best st) {x a r : Nat} (hx : x < n) (ha : a < n) (hr : r < n) (hs : st a 3 = (r : Nat)) :
    T Tryz.prog F.heaps_fibonacci_join [.pointer (some (bk bf)), .int .i64 x, .int .i64 a] h fun r h' => r = .ret (.tuple ⟨[]⟩) ∧ Fm [35] own h own h' ∧ HQ own h' bq bf bl n key held cnt last best (jn st x a) := by
  refine E_heaps_fibonacci_join ?_
  unfold B_heaps_fibonacci_join
  refine ptrP_mk ⟨_, Q.f.ld rfl, HL.ix ha (Q.l.ldI ha (by omega) ?_)⟩
  rw [hs]
  refine ptrP_mk (ptrP_mk ⟨_, Q.f.ld rfl, _, Q.f.ld rfl, HL.ix hx (Q.sI hx (by omega) fun g1 F1 Q => ?_)⟩)
  refine HL.ix hx (Q.sI hx (by omega) fun g2 F2 Q => ?_)
  refine ptrP_mk (ptrP_mk ⟨_, Q.f.ld rfl, _, Q.f.ld rfl, HL.ix ha (Q.sI ha (by omega) fun g3 F3 Q => ?_)⟩)
  refine HL.ix hr (Q.sI hr (by omega) fun g4 F4 Q => ?_)
  refine ⟨rfl, ((F1.trans F2).trans F3).trans F4, ?_⟩
  unfold jn
  rw [hs, Int.toNat_natCast]
  exact Q
theorem leave_T (Q : HQ own h bq bf bl n key held cnt last best st) {x l r : Nat} (hx : x < n) (hl : l < n) (hr : r < n) (h2 : st x 2 = (l : Nat)) (h3 : st x 3 = (r : Nat)) :
    T Tryz.prog F.heaps_fibonacci_leave [.pointer (some (bk bf)), .int .i64 x] h fun r h' => r = .ret (.tuple ⟨[]⟩) ∧ Fm [35] own h own h' ∧ HQ own h' bq bf bl n key held cnt last best (lv st x) := by
  refine E_heaps_fibonacci_leave ?_
  unfold B_heaps_fibonacci_leave
  refine ptrP_mk (ptrP_mk ⟨_, Q.f.ld rfl, HL.ix hx (Q.l.ldI hx (by omega) ⟨_, Q.f.ld rfl, HL.ix hx (Q.l.ldI hx (by omega) ?_)⟩)⟩)
  rw [h2, h3]
  refine ptrP_mk (ptrP_mk ⟨_, Q.f.ld rfl, _, Q.f.ld rfl, HL.ix hl (Q.sI hl (by omega) fun g1 F1 Q => ?_)⟩)
  refine HL.ix hr (Q.sI hr (by omega) fun g2 F2 Q => ?_)
  refine ptrP_mk (ptrP_mk ⟨_, Q.f.ld rfl, _, Q.f.ld rfl, HL.ix hx (Q.sI hx (by omega) fun g3 F3 Q => ?_)⟩)
  refine HL.ix hx (Q.sI hx (by omega) fun g4 F4 Q => ?_)
  refine ⟨rfl, ((F1.trans F2).trans F3).trans F4, ?_⟩
  unfold lv
  rw [h2, h3, Int.toNat_natCast, Int.toNat_natCast]
  exact Q
end

end Go.Proofs.YtdcamadeblojdaaGreat

namespace Go.Proofs.YtdcamadeblojdaaGreat
open Go
set_option linter.unusedVariables false
set_option linter.unusedSimpArgs false

section
variable {own own' : Own} {h h' : H} {n : Nat} {st : Nat → Nat → Int}
variable {bq bf bl : Nat} {key : Nat → Int} {held : Nat → Bool} {cnt last best : Int}
/-- What root leaves. -/
structure RootS (n : Nat) (key : Nat → Int) (st st' : Nat → Nat → Int) (x : Nat) (L L' : List Nat) (best' : Int) : Prop where
  ri : RI key st' L' best'
  mem : ∀ y, y ∈ L' ↔ y = x ∨ y ∈ L
  out : ∀ y, y ≠ x → y ∉ L → ∀ j, st' y j = st y j
  fld : ∀ y, y ≠ x → ∀ j, j ≠ 2 ∧ j ≠ 3 → st' y j = st y j
  me : st' x 0 = -1 ∧ st' x 5 = 0 ∧ st' x 1 = st x 1 ∧ st' x 4 = st x 4
theorem froot_T {L : List Nat} (Q : HQ own h bq bf bl n key held cnt last best st) {x : Nat} (hx : x < n) (I : RI key st L best) (hL : ∀ y ∈ L, y < n) (hxL : x ∉ L) (h2 : st x 2 = (x : Nat)) (h3 : st x 3 = (x : Nat)) :
    T Tryz.prog F.heaps_fibonacci_root [.pointer (some (bk bf)), .int .i64 x] h fun r h' => r = .ret (.tuple ⟨[]⟩) ∧ Fm [32, 35] own h own h' ∧
      ∃ st' best' L', HQ own h' bq bf bl n key held cnt last best' st' ∧ RootS n key st st' x L L' best' := by
  refine E_heaps_fibonacci_root ?_
  unfold B_heaps_fibonacci_root
  refine ptrP_mk (ptrP_mk ⟨_, Q.f.ld rfl, _, Q.f.ld rfl, HL.ix hx (Q.sI hx (by omega) fun g1 F1 Q => HL.ix hx (Q.s5 hx fun g2 F2 Q => ?_))⟩)
  rw [if_neg (by simp)] at Q
  obtain ⟨s1, es1⟩ : ∃ s1, s1 = upd2 (upd2 st x 0 (-1)) x 5 0 := ⟨_, rfl⟩
  rw [← es1] at Q
  have F12 : Fm [32, 35] own h own g2 := (F1.trans F2).mono (by simp)
  have o1 : ∀ y, y ≠ x → ∀ j, s1 y j = st y j := fun y hy j => by rw [es1, upd2_v hy, upd2_v hy]
  have r1 : ∀ y j, j ≠ 0 → j ≠ 5 → s1 y j = st y j := fun y j a b => by rw [es1, upd2_j b, upd2_j a]
  have m0 : s1 x 0 = -1 := by rw [es1, upd2_j (by omega), upd2_at]
  have m5 : s1 x 5 = 0 := by rw [es1, upd2_at]
  refine ptrP_mk ⟨_, Q.f.ld rfl, ?_⟩
  rcases I.bst with ⟨rfl, rfl⟩ | ⟨b, rfl, hb, hmin⟩
  · refine ifP_of (fun _ => ?_) (fun h => by simp at h)
    refine ptrP_mk (Q.sb fun g3 F3 Q => ⟨rfl, F12.trans (F3.mono (by simp)), s1, x, [x], Q, ⟨⟨by simp, Cyc.one (by rw [r1 _ _ (by omega) (by omega)]; exact h3) (by rw [r1 _ _ (by omega) (by omega)]; exact h2), ?_, .inr ⟨x, rfl, by simp, by simp⟩⟩, by simp, fun y hy _ j => o1 y hy j, fun y hy j _ => o1 y hy j, m0, m5, r1 _ _ (by omega) (by omega), r1 _ _ (by omega) (by omega)⟩⟩)
    intro y hy
    simp at hy; subst hy; exact m0
  refine ifP_of (fun h => by have := of_decide_eq_true h; omega) (fun _ => ?_)
  obtain ⟨t, c1, c2, c3, c4⟩ := I.cyc.from hb I.nd
  have c1' : Cyc s1 (b :: t) := c1.congr (fun y _ => r1 y 3 (by omega) (by omega)) (fun y _ => r1 y 2 (by omega) (by omega))
  obtain ⟨l, r, e2, e3, hl, hr⟩ := c1'.sides
  have hbn := hL b hb
  have hrn : r < n := hL r ((c3 r).1 hr)
  have hxt : x ∉ b :: t := fun k => hxL ((c3 x).1 k)
  refine ptrP_mk ⟨_, Q.f.ld rfl, ?_⟩
  refine (join_T Q hx hbn hrn e3).mono ?_
  rintro _ g3 ⟨rfl, F3, Q⟩
  refine rt_ret ⟨rfl, ptrP_mk (ptrP_mk ⟨_, Q.f.ld rfl, _, Q.f.ld rfl, ?_⟩)⟩
  refine (ahead_T Q hx hbn).mono ?_
  rintro _ _ ⟨tt, rfl, htt, rfl⟩
  have F13 := F12.trans (F3.mono (M' := [32, 35]) (by simp))
  have ri : ∀ bb : Nat, (∀ v ∈ b :: x :: t, v = bb ∨ ahd key bb v) → bb ∈ b :: x :: t → RootS n key st (jn s1 x b) x L (b :: x :: t) bb := fun bb hbb hm => by
    refine ⟨⟨?_, c1'.join c2 hxt, ?_, .inr ⟨bb, rfl, hm, hbb⟩⟩, fun y => ?_, fun y hy hyL j => ?_, fun y hy j hj => ?_, ?_⟩
    · simp only [List.nodup_cons, List.mem_cons] at c2 hxt ⊢
      refine ⟨?_, fun k => hxt (.inr k), c2.2⟩
      rintro (k | k)
      · exact hxt (.inl k.symm)
      · exact c2.1 k
    · intro y hy
      rw [jn_f (by omega)]
      by_cases e : y = x
      · subst e; exact m0
      · rw [o1 y e]
        refine I.r0 y ((c3 y).1 ?_)
        simp only [List.mem_cons] at hy ⊢
        rcases hy with k | k | k
        · exact .inl k
        · exact absurd k e
        · exact .inr k
    · rw [← c3 y]; simp only [List.mem_cons]
      constructor
      · rintro (k | k | k)
        · exact .inr (.inl k)
        · exact .inl k
        · exact .inr (.inr k)
      · rintro (k | k | k)
        · exact .inr (.inl k)
        · exact .inl k
        · exact .inr (.inr k)
    · rw [jn_out c1' (fun k => hyL ((c3 y).1 k)) hy, o1 y hy]
    · rw [jn_f hj, o1 y hy]
    · refine ⟨?_, ?_, ?_, ?_⟩ <;> rw [jn_f (by omega)]
      · exact m0
      · exact m5
      · exact r1 _ _ (by omega) (by omega)
      · exact r1 _ _ (by omega) (by omega)
  have hmin' : ∀ v, v ∈ b :: t → v = b ∨ ahd key b v := fun v hv => hmin v ((c3 v).1 hv)
  refine rt_ret ⟨_, rfl, ifP_of (fun k => ?_) (fun k => ?_)⟩
  · have hab := htt.1 k
    refine ptrP_mk (Q.sb fun g4 F4 Q => ⟨rfl, F13.trans (F4.mono (by simp)), _, x, b :: x :: t, Q, ri x (fun v hv => ?_) (by simp)⟩)
    simp only [List.mem_cons] at hv
    rcases hv with e | e | e
    · subst e; exact .inr hab
    · exact .inl e
    · rcases hmin' v (by simp [e]) with e2 | e2
      · subst e2; exact .inr hab
      · exact .inr (ahd_tr hab e2)
  · have hnb : ¬ ahd key x b := fun e => by have := htt.2 e; rw [k] at this; cases this
    refine ⟨rfl, F13, _, b, b :: x :: t, Q, ri b (fun v hv => ?_) (by simp)⟩
    simp only [List.mem_cons] at hv
    rcases hv with e | e | e
    · exact .inl e
    · subst e
      rcases ahd_or (key := key) (a := v) (b := b) with e2 | e2 | e2
      · exact .inl e2
      · exact absurd e2 hnb
      · exact .inr e2
    · exact hmin' v (by simp [e])

theorem HL.put {i b x : Nat} {a0 a1 a2 a3 a4 : Int} {t : Bool} {K : H → Prop} (L : HL own h i b n st) (hx : x < n)
    (q : ∀ g, Fm [i] own h own g → HL own g i b n (upd2 (upd2 (upd2 (upd2 (upd2 (upd2 st x 0 a0) x 1 a1) x 2 a2) x 3 a3) x 4 a4) x 5 (if t then 1 else 0)) → K g) :
    stN h ((bk b).add (x * 6)) [.int .i64 a0, .int .i64 a1, .int .i64 a2, .int .i64 a3, .int .i64 a4, .bool t] 6 K := by
  obtain ⟨e, o, k⟩ := L
  have hlen : (va (n * 6) (fcl st)).length = n * 6 := va_length _ _
  rw [bk_add]
  refine ⟨rfl, by simp [Value.oneCell'], ⟨_, _, k, rfl, by simp only [List.size_toArray, hlen]; omega⟩, q _ ?_ ⟨e, o, ?_⟩⟩
  · refine Fm.kp (b := b) ?_ e ⟨.cells (setR ⟨va (n * 6) (fcl st)⟩ (x * 6) _) o (0, 0), by unfold hset; rw [if_pos rfl, k]; rfl⟩
    intro j ob hj hh
    unfold hset
    rw [if_neg hj]; exact hh
  · unfold hset
    rw [if_pos rfl, k]
    simp only [Option.map_some, setR, List.setIfInBounds_toArray, va_set, Nat.add_assoc]
    have e0 : updV (fcl st) (x * 6) (.int .i64 a0) = fcl (upd2 st x 0 a0) := fcl_setI (k := 0) (by omega)
    have e1 := fcl_setI (st := upd2 st x 0 a0) (x := x) (k := 1) (v := a1) (by omega)
    have e2 := fcl_setI (st := upd2 (upd2 st x 0 a0) x 1 a1) (x := x) (k := 2) (v := a2) (by omega)
    have e3 := fcl_setI (st := upd2 (upd2 (upd2 st x 0 a0) x 1 a1) x 2 a2) (x := x) (k := 3) (v := a3) (by omega)
    have e4 := fcl_setI (st := upd2 (upd2 (upd2 (upd2 st x 0 a0) x 1 a1) x 2 a2) x 3 a3) (x := x) (k := 4) (v := a4) (by omega)
    have e5 := fcl_setB (st := upd2 (upd2 (upd2 (upd2 (upd2 st x 0 a0) x 1 a1) x 2 a2) x 3 a3) x 4 a4) (x := x) (t := t)
    rw [e0, e1, e2, e3, e4, e5]

/-- A ring, read out. -/
theorem ring_T (Q : HQ own h bq bf bl n key held cnt last best st) {x : Nat} {t : List Nat} (hC : Cyc st (x :: t)) (hnd : (x :: t).Nodup) (hn : ∀ y ∈ x :: t, y < n) (hn2 : n ≤ 1024) {j : Nat} (hj : 35 < j) :
    T Tryz.prog F.heaps_fibonacci_ring [.pointer (some (bk bf)), .int .i64 x] h fun r h' => ∃ v own', r = .ret v ∧ Fm [j] own h own' h' ∧ S1 own' h' j v (natV (x :: t)) := by
  refine E_heaps_fibonacci_ring ?_
  unfold B_heaps_fibonacci_ring
  refine ifP_of (fun k => by have := of_decide_eq_true k; omega) (fun _ => ?_)
  refine new_bl ?_
  intro b1 q2 hb1 x2 B1_
  have F0 : Fm [j] own h (own1 own b1 j) q2 := Fm.new x2 hb1
  have k1 : S1 (own1 own b1 j) q2 j (slV b1 1) (natV [x]) := by
    obtain ⟨e, k⟩ := B1_
    exact .inr ⟨b1, own1_at, 1, e, [], rfl, by simpa [natV] using k, rfl⟩
  have Q := Q.fm F0 (by simp; omega)
  generalize own1 own b1 j = own1_ at *
  have hxn := hn x (by simp)
  refine ptrP_mk ⟨_, Q.f.ld rfl, HL.ix hxn (Q.l.ldI hxn (by omega) ?_)⟩
  -- the whole chain
  have hLk : Lk st (x :: t ++ [x]) := hC
  have llen : (x :: t).length ≤ 1024 := by
    have a := cntP_list hnd hn
    have b := cntP_all (n := n) (P := fun y => y ∈ x :: t)
    omega
  let I : (Value × Int × Unit) → H → Nat → Prop := fun p q z => ∃ (l1 l2 : List Nat) (y : Nat) (u : List Nat) (own2 : Own), x :: t = l1 ++ l2 ∧ l1 ≠ [] ∧ l2 ++ [x] = y :: u ∧ p.2.1 = (y : Nat) ∧ z = l2.length ∧ Fm [j] own h own2 q ∧ HQ own2 q bq bf bl n key held cnt last best st ∧ S1 own2 q j p.1 (natV l1)
  refine ⟨fun p q => ∃ k, I p q k, rk I, rk_wf I, ?_, ?_⟩
  · cases t with
    | nil => exact ⟨_, [x], [], x, [], own1_, rfl, by simp, rfl, hLk.1, rfl, F0, Q, k1⟩
    | cons y u => exact ⟨_, [x], y :: u, y, u ++ [x], own1_, rfl, by simp, rfl, hLk.1, rfl, F0, Q, k1⟩
  intro out nn q hI
  obtain ⟨l1, l2, y, u, own2, e1, hne, e2, e3, hk2, F2, Q, k2⟩ := mu_spec hI
  generalize hkk : mu I ((out, nn, ()), q) = km at *
  change nn = (y : Int) at e3
  subst e3
  have hlt : l2 ≠ [] → ∀ l3 : List Nat, l2 = y :: l3 → l3.length < mu I ((out, (y : Int), ()), q) := fun _ l3 e => by rw [hkk, hk2, e]; simp
  clear hI
  refine ifP_of (fun k => ?_) (fun k => ?_)
  · have hyx : y ≠ x := by
      rintro rfl
      simp at k
    cases l2 with
    | nil =>
      exfalso
      have : x = y := by simpa using (List.cons.inj e2).1
      exact hyx this.symm
    | cons y' l3 =>
      have : y' = y := (List.cons.inj e2).1
      subst this
      have hu : u = l3 ++ [x] := (List.cons.inj e2).2.symm
      subst hu
      have hyn : y' < n := hn y' (by rw [e1]; simp)
      have hl1 : l1.length ≤ 1024 := by
        have := congrArg List.length e1
        rw [List.length_append] at this; omega
      refine k2.push (l := 1) rfl (by simp [Value.oneCell']) (by simp) (by omega) (by rw [natV_length]; omega) ?_
      intro bx hm p' own3 q15 hbx xm F3 k3
      have Q := Q.fm F3 (by simp; omega)
      refine ptrP_mk ⟨_, Q.f.ld rfl, HL.ix hyn (Q.l.ldI hyn (by omega) ?_)⟩
      have hst : ∃ y2 u2, l3 ++ [x] = y2 :: u2 ∧ st y' 3 = (y2 : Nat) := by
        rw [e1, show l1 ++ y' :: l3 ++ [x] = l1 ++ y' :: (l3 ++ [x]) by simp, Lk.app] at hLk
        cases l3 with
        | nil => exact ⟨x, [], rfl, hLk.2.1⟩
        | cons a b => exact ⟨a, b ++ [x], rfl, hLk.2.1⟩
      obtain ⟨y2, u2, e4, e5⟩ := hst
      rw [e5]
      refine mu_next (I := I) (k := l3.length) ⟨l1 ++ [y'], l3, y2, u2, own3, by rw [e1]; simp, by simp, e4, rfl, rfl, F2.trans F3, Q, ?_⟩ (hlt (by simp) l3 rfl)
      have : natV (l1 ++ [y']) = natV l1 ++ [.int .i64 (y' : Nat)] := by simp [natV]
      rw [this]; exact k3
  · have hyx : y = x := by have : (y : Int) = x := by simpa using k
                           omega
    subst hyx
    have : l2 = [] := by
      cases l2 with
      | nil => rfl
      | cons y' l3 =>
        exfalso
        have : y' = y := (List.cons.inj e2).1
        subst this
        have : l1 = [] ∨ ∃ l4, l1 = y' :: l4 := by
          cases l1 with
          | nil => exact .inl rfl
          | cons a l4 => exact .inr ⟨l4, by rw [(List.cons.inj e1).1]⟩
        rcases this with h | ⟨l4, rfl⟩
        · exact hne h
        · rw [e1] at hnd; simp at hnd
    subst this
    rw [List.append_nil] at e1
    subst e1
    exact ⟨_, own2, rfl, F2, k2⟩
end

end Go.Proofs.YtdcamadeblojdaaGreat

namespace Go.Proofs.YtdcamadeblojdaaGreat
open Go
set_option linter.unusedVariables false
set_option linter.unusedSimpArgs false

section
variable {own own' : Own} {h h' : H} {n : Nat} {st : Nat → Nat → Int}
variable {bq bf bl : Nat} {key : Nat → Int} {held : Nat → Bool} {cnt last best : Int}
variable {A R : Nat → Prop} {C : Nat → List Nat}
theorem lv_eq {s s' : Nat → Nat → Int} {x : Nat} (hs : ∀ y, s' y 2 = s y 2 ∧ s' y 3 = s y 3) (y : Nat) : lv s' x y 2 = lv s x y 2 ∧ lv s' x y 3 = lv s x y 3 := by
  unfold lv
  rw [(hs x).1, (hs x).2]
  constructor
  · unfold upd2
    split
    · rfl
    · split
      · rfl
      · split
        · rfl
        · split
          · rfl
          · exact (hs y).1
  · unfold upd2
    split
    · rfl
    · split
      · rfl
      · split
        · rfl
        · split
          · rfl
          · exact (hs y).2
theorem jn_eq {s s' : Nat → Nat → Int} {x a : Nat} (hs : ∀ y, s' y 2 = s y 2 ∧ s' y 3 = s y 3) (y : Nat) : jn s' x a y 2 = jn s x a y 2 ∧ jn s' x a y 3 = jn s x a y 3 := by
  unfold jn
  rw [(hs a).2]
  constructor
  · unfold upd2
    split
    · rfl
    · split
      · rfl
      · split
        · rfl
        · split
          · rfl
          · exact (hs y).1
  · unfold upd2
    split
    · rfl
    · split
      · rfl
      · split
        · rfl
        · split
          · rfl
          · exact (hs y).2

/-- Of two tops one becomes a child of the other. -/
theorem under_T (Q : HQ own h bq bf bl n key held cnt last best st) (Ft : FT n key A R (-1) (-1) st C) {a b : Nat} (ha : R a) (hb : R b) (hab : a ≠ b) (hd : st a 4 = st b 4)
    (hsa : st a 2 = (a : Nat) ∧ st a 3 = (a : Nat)) (hsb : st b 2 = (b : Nat) ∧ st b 3 = (b : Nat)) (hd2 : 0 ≤ st a 4 ∧ st a 4 < 64) :
    T Tryz.prog F.heaps_fibonacci_under [.pointer (some (bk bf)), .int .i64 a, .int .i64 b] h fun r h' => ∃ (w l : Nat) (st' : Nat → Nat → Int) (C' : Nat → List Nat), r = .ret (.int .i64 w) ∧ ((w = a ∧ l = b) ∨ (w = b ∧ l = a)) ∧
      Fm [35] own h own h' ∧ HQ own h' bq bf bl n key held cnt last best st' ∧ FT n key A (fun x => R x ∧ x ≠ l) (-1) (-1) st' C' ∧ st' w 4 = st w 4 + 1 ∧ (∀ x, R x → x ≠ l → x ≠ w → ∀ j, st' x j = st x j) ∧
      (∀ j, j ≠ 1 → j ≠ 4 → st' w j = st w j) := by
  refine E_heaps_fibonacci_under ?_
  unfold B_heaps_fibonacci_under
  have han := Ft.lt a (Ft.ra a ha)
  have hbn := Ft.lt b (Ft.ra b hb)
  refine ⟨fun p q => h = q ∧ ∃ w l : Nat, p.1 = w ∧ p.2.1 = l ∧ ((w = a ∧ l = b) ∨ (w = b ∧ l = a)) ∧ ahd key w l, ?_, ?_⟩
  · refine ptrP_mk ⟨_, Q.f.ld rfl, ?_⟩
    refine (ahead_T Q hbn han).mono ?_
    rintro _ _ ⟨t, rfl, ht, rfl⟩
    refine rt_ret ⟨_, rfl, ifP_of (fun k => ?_) (fun k => ?_)⟩
    · exact ⟨rfl, b, a, rfl, rfl, .inr ⟨rfl, rfl⟩, ht.1 k⟩
    · refine ⟨rfl, a, b, rfl, rfl, .inl ⟨rfl, rfl⟩, ?_⟩
      rcases ahd_or (key := key) (a := a) (b := b) with e | e | e
      · exact absurd e hab
      · exact e
      · have := ht.2 e; rw [k] at this; cases this
  rintro w' l' _ ⟨rfl, w, l, e1, e2, hwl, hah⟩
  change w' = (w : Int) at e1
  change l' = (l : Int) at e2
  subst e1 e2
  have hw : R w ∧ w < n ∧ st w 4 = st a 4 := by
    rcases hwl with ⟨rfl, _⟩ | ⟨rfl, _⟩
    · exact ⟨ha, han, rfl⟩
    · exact ⟨hb, hbn, hd.symm⟩
  have hl : R l ∧ l < n ∧ st l 4 = st a 4 ∧ st l 2 = (l : Nat) ∧ st l 3 = (l : Nat) := by
    rcases hwl with ⟨_, rfl⟩ | ⟨_, rfl⟩
    · exact ⟨hb, hbn, hd.symm, hsb⟩
    · exact ⟨ha, han, rfl, hsa⟩
  have hne : w ≠ l := by rintro rfl; exact ahd_irr hah
  obtain ⟨hRw, hwn, hdw⟩ := hw
  obtain ⟨hRl, hln, hdl, hl2, hl3⟩ := hl
  have hAw := Ft.ra w hRw
  refine ptrP_mk ⟨_, Q.f.ld rfl, HL.ix hln (Q.sI hln (by omega) fun g1 F1 Q => ?_)⟩
  obtain ⟨s1, es1⟩ : ∃ s1, s1 = upd2 st l 0 (w : Nat) := ⟨_, rfl⟩
  rw [← es1] at Q
  have o1 : ∀ y j, y ≠ l ∨ j ≠ 0 → s1 y j = st y j := fun y j hy => by
    rw [es1]
    rcases hy with h | h
    · exact upd2_v h
    · exact upd2_j h
  have m1 : s1 l 0 = (w : Nat) := by rw [es1, upd2_at]
  refine ⟨fun _ q => ∃ s2, Fm [35] own h own q ∧ HQ own q bq bf bl n key held cnt last best s2 ∧ (∀ y j, j ≠ 2 → j ≠ 3 → (y ≠ w ∨ j ≠ 1) → s2 y j = s1 y j) ∧
    (∀ x, R x → x ≠ l → x ≠ w → ∀ j, s2 x j = st x j) ∧ (s2 w 2 = st w 2 ∧ s2 w 3 = st w 3) ∧
    ((st w 1 = -1 ∧ s2 w 1 = (l : Nat) ∧ (∀ x, s2 x 2 = st x 2 ∧ s2 x 3 = st x 3)) ∨ (∃ c : Nat, st w 1 = c ∧ s2 w 1 = c ∧ ∀ x, s2 x 2 = jn st l c x 2 ∧ s2 x 3 = jn st l c x 3)), ?_, ?_⟩
  · refine ptrP_mk ⟨_, Q.f.ld rfl, HL.ix hwn (Q.l.ldI hwn (by omega) ?_)⟩
    rw [o1 w 1 (.inr (by omega))]
    rcases Ft.ch w hAw with ⟨hn, hc⟩ | ⟨c, hc, hcm⟩
    · rw [hc]
      refine ifP_of (fun k => by simp at k) (fun _ => ?_)
      refine ptrP_mk ⟨_, Q.f.ld rfl, HL.ix hwn (Q.sI hwn (by omega) fun g2 F2 Q => ?_)⟩
      refine ⟨_, F1.trans F2, Q, fun y j _ _ hy => ?_, fun x hx hxl hxw j => ?_, ⟨?_, ?_⟩, .inl ⟨rfl, upd2_at, fun x => ⟨?_, ?_⟩⟩⟩
      · rcases hy with k | k
        · exact upd2_v k
        · exact upd2_j k
      · rw [upd2_v hxw]; exact o1 x j (.inl hxl)
      · rw [upd2_j (by omega)]; exact o1 _ _ (.inr (by omega))
      · rw [upd2_j (by omega)]; exact o1 _ _ (.inr (by omega))
      · rw [upd2_j (by omega)]; exact o1 _ _ (.inr (by omega))
      · rw [upd2_j (by omega)]; exact o1 _ _ (.inr (by omega))
    · rw [hc]
      refine ifP_of (fun _ => ?_) (fun k => by have := of_decide_eq_false k; omega)
      obtain ⟨t, c1, c2, c3, c4⟩ := (Ft.cyc w hAw).from hcm (Ft.nd w hAw)
      obtain ⟨_, r, _, e3, _, hr⟩ := c1.sides
      have hcA := (Ft.mem w c hAw).1 hcm
      have hcn := Ft.lt c hcA.1
      have hrn := Ft.lt r ((Ft.mem w r hAw).1 ((c3 r).1 hr)).1
      have hlt : ∀ x, R x → x ∉ c :: t := fun x hx k => ((Ft.mem w x hAw).1 ((c3 x).1 k)).2.1 hx
      refine (join_T Q hln hcn hrn (by rw [o1 c 3 (.inr (by omega))]; exact e3)).mono ?_
      rintro _ g2 ⟨rfl, F2, Q⟩
      have je := jn_eq (s := st) (s' := s1) (x := l) (a := c) fun y => ⟨o1 y 2 (.inr (by omega)), o1 y 3 (.inr (by omega))⟩
      have out : ∀ x, R x → x ≠ l → jn s1 l c x 2 = st x 2 ∧ jn s1 l c x 3 = st x 3 := fun x hx hxl => by
        rw [(je x).1, (je x).2, jn_out c1 (hlt x hx) hxl, jn_out c1 (hlt x hx) hxl]; exact ⟨rfl, rfl⟩
      refine rt_ret ⟨rfl, _, F1.trans F2, Q, fun y j h2 h3 _ => jn_f ⟨h2, h3⟩, fun x hx hxl hxw j => ?_, out w hRw hne, .inr ⟨c, rfl, ?_, je⟩⟩
      · by_cases j2 : j = 2
        · subst j2; exact (out x hx hxl).1
        · by_cases j3 : j = 3
          · subst j3; exact (out x hx hxl).2
          · rw [jn_f ⟨j2, j3⟩]; exact o1 x j (.inl hxl)
      · rw [jn_f (by omega), o1 _ _ (.inr (by omega))]; exact hc
  rintro q ⟨s2, Fq, Q, hs, hsR, hsw, hcase⟩
  refine ptrP_mk ⟨_, Q.f.ld rfl, HL.ix hwn (Q.l.ldI hwn (by omega) (HL.ix hwn (Q.sI hwn (by omega) fun g3 F3 Q => ?_)))⟩
  have e4 : s2 w 4 = st w 4 := by rw [hs w 4 (by omega) (by omega) (.inr (by omega)), o1 _ _ (.inr (by omega))]
  have ew : IntKind.i64.wrap (s2 w 4 + 1) = st w 4 + 1 := by rw [e4]; exact w64_in (by omega) (by omega)
  rw [ew] at Q
  obtain ⟨s3, es3⟩ : ∃ s3, s3 = upd2 s2 w 4 (st w 4 + 1) := ⟨_, rfl⟩
  rw [← es3] at Q
  have q3 : ∀ y j, y ≠ w ∨ j ≠ 4 → s3 y j = s2 y j := fun y j hy => by
    rw [es3]
    rcases hy with k | k
    · exact upd2_v k
    · exact upd2_j k
  have g3_ : ∀ y j, j ≠ 2 → j ≠ 3 → (y ≠ w ∨ (j ≠ 1 ∧ j ≠ 4)) → s3 y j = s1 y j := fun y j h2 h3 hy => by
    rw [q3 y j (by rcases hy with k | k; exact .inl k; exact .inr k.2), hs y j h2 h3 (by rcases hy with k | k; exact .inl k; exact .inr k.1)]
  obtain ⟨C', F'⟩ := Ft.hang (st' := s3) hRw hRl hah (by rw [hdl, hdw]) (fun x hxw hxl j hj => by rw [g3_ x j hj.1 hj.2 (.inl hxw)]; exact o1 x j (.inl hxl))
    ⟨by rw [g3_ w 0 (by omega) (by omega) (.inr ⟨by omega, by omega⟩)]; exact o1 w 0 (.inl hne), by rw [g3_ w 5 (by omega) (by omega) (.inr ⟨by omega, by omega⟩)]; exact o1 w 5 (.inl hne)⟩
    (by rw [es3, upd2_at])
    ⟨by rw [g3_ l 0 (by omega) (by omega) (.inl hne.symm)]; exact m1, by rw [g3_ l 1 (by omega) (by omega) (.inl hne.symm)]; exact o1 l 1 (.inr (by omega)),
      by rw [g3_ l 4 (by omega) (by omega) (.inl hne.symm)]; exact o1 l 4 (.inr (by omega)), by rw [g3_ l 5 (by omega) (by omega) (.inl hne.symm)]; exact o1 l 5 (.inr (by omega))⟩
    (by
      rcases hcase with ⟨k1, k2, k3⟩ | ⟨c, k1, k2, k3⟩
      · exact .inl ⟨k1, by rw [q3 _ _ (.inr (by omega))]; exact k2, hl2, hl3, fun x => by rw [q3 _ _ (.inr (by omega)), q3 _ _ (.inr (by omega))]; exact k3 x⟩
      · exact .inr ⟨c, k1, by rw [q3 _ _ (.inr (by omega))]; exact k2, fun x => by rw [q3 _ _ (.inr (by omega)), q3 _ _ (.inr (by omega))]; exact k3 x⟩)
  refine ⟨w, l, s3, C', rfl, hwl, Fq.trans F3, Q, F', by rw [es3, upd2_at], fun x hx hxl hxw j => ?_, fun j h1 h4 => ?_⟩
  · rw [q3 x j (.inl hxw)]; exact hsR x hx hxl hxw j
  · rw [q3 w j (.inr h4)]
    by_cases j2 : j = 2
    · subst j2; exact hsw.1
    · by_cases j3 : j = 3
      · subst j3; exact hsw.2
      · rw [hs w j j2 j3 (.inr h1)]; exact o1 w j (.inl hne)
end

end Go.Proofs.YtdcamadeblojdaaGreat

namespace Go.Proofs.YtdcamadeblojdaaGreat
open Go
set_option linter.unusedVariables false
set_option linter.unusedSimpArgs false

theorem RI.congr {key : Nat → Int} {st st' : Nat → Nat → Int} {L : List Nat} {best : Int} (I : RI key st L best) (h : ∀ x ∈ L, st' x 0 = st x 0 ∧ st' x 2 = st x 2 ∧ st' x 3 = st x 3) : RI key st' L best :=
  ⟨I.nd, I.cyc.congr (fun x hx => (h x hx).2.2) (fun x hx => (h x hx).2.1), fun x hx => by rw [(h x hx).1]; exact I.r0 x hx, I.bst⟩

/-- The heap, whole. -/
structure FH (n : Nat) (key : Nat → Int) (A : Nat → Prop) (st : Nat → Nat → Int) (best : Int) (L : List Nat) (C : Nat → List Nat) : Prop where
  ft : FT n key A (fun x => x ∈ L) (-1) (-1) st C
  ri : RI key st L best

section
variable {own own' : Own} {h h' : H} {n : Nat} {st : Nat → Nat → Int}
variable {bq bf bl : Nat} {key : Nat → Int} {held : Nat → Bool} {cnt last best : Int}
variable {A : Nat → Prop} {C : Nat → List Nat}
theorem cut_T {L : List Nat} {z y : Int} (Q : HQ own h bq bf bl n key held cnt last best st) (Ft : FT n key A (fun x => x ∈ L) z y st C) {hh : Nat} (hA : A hh) (hz : ∀ x : Nat, x ≠ hh → (x : Int) ≠ z) (hy : ∀ x : Nat, x ≠ hh → (x : Int) ≠ y)
    (I0 : RI key st L best) (hp0 : st hh 0 ≠ (hh : Nat)) (hn1 : n ≤ 1024) :
    T Tryz.prog F.heaps_fibonacci_cut [.pointer (some (bk bf)), .int .i64 hh] h fun r h' => r = .ret (.tuple ⟨[]⟩) ∧ Fm [32, 35] own h own h' ∧
      ∃ st' best' L' C', HQ own h' bq bf bl n key held cnt last best' st' ∧ FH n key A st' best' L' C' ∧ hh ∈ L' := by
  refine E_heaps_fibonacci_cut ?_
  unfold B_heaps_fibonacci_cut
  have hhn := Ft.lt hh hA
  refine ptrP_mk ⟨_, Q.f.ld rfl, HL.ix hhn (Q.l.ldI hhn (by omega) ?_)⟩
  let I : (Int × Int × Unit) → H → Nat → Prop := fun p q k => ∃ (hc : Nat) (st : Nat → Nat → Int) (best : Int) (L : List Nat) (C : Nat → List Nat) (z y : Int), p.1 = (hc : Nat) ∧ p.2.1 = st hc 0 ∧ k = (cntP n (fun x => A x ∧ ¬ x ∈ L)).toNat ∧
    Fm [32, 35] own h own q ∧ HQ own q bq bf bl n key held cnt last best st ∧ FT n key A (fun x => x ∈ L) z y st C ∧ (∀ x : Nat, x ≠ hc → (x : Int) ≠ z) ∧ (∀ x : Nat, x ≠ hc → (x : Int) ≠ y) ∧ A hc ∧ RI key st L best ∧ st hc 0 ≠ (hc : Nat) ∧ (hh ∈ L ∨ hc = hh)
  refine ⟨fun p q => ∃ k, I p q k, rk I, rk_wf I, ⟨_, hh, st, best, L, C, z, y, rfl, rfl, rfl, Fm.refl, Q, Ft, hz, hy, hA, I0, hp0, .inr rfl⟩, ?_⟩
  clear Q Ft hz hy I0 hp0 hA
  intro h_8 p_9 q hI
  obtain ⟨hc, st, best, L, C, z, y, e1, e2, hk2, F0, Q, Ft, hz, hy, hA, I0, hp0, hor⟩ := mu_spec hI
  generalize hkk : mu I ((h_8, p_9, ()), q) = km at *
  change h_8 = (hc : Int) at e1
  change p_9 = st hc 0 at e2
  subst e1 e2
  have hcn := Ft.lt hc hA
  clear hI
  refine ifP_of (fun k => ?_) (fun k => ?_)
  rotate_left
  · -- a top already
    have hneg : ¬ (0 ≤ st hc 0) := of_decide_eq_false k
    have hcL : hc ∈ L := by
      apply Classical.byContradiction
      intro hn
      obtain ⟨p, e, _⟩ := Ft.par hc hA hn
      omega
    have ex : ∀ z : Int, (∀ x : Nat, x ≠ hc → (x : Int) ≠ z) → z < 0 ∨ ∃ w : Nat, z = w ∧ (w ∈ L ∨ ¬ A w) := fun z hz => by
      by_cases e : z < 0
      · exact .inl e
      · refine .inr ⟨z.toNat, by omega, .inl ?_⟩
        have : z.toNat = hc := Classical.byContradiction fun k => hz _ k (by omega)
        rw [this]; exact hcL
    refine ⟨rfl, F0, st, best, L, C, Q, ⟨Ft.clean (ex z hz) (ex y hy), I0⟩, ?_⟩
    rcases hor with h | h
    · exact h
    · rw [← h]; exact hcL
  have hpos : 0 ≤ st hc 0 := of_decide_eq_true k
  have hcL : hc ∉ L := fun hl => by have := I0.r0 hc hl; omega
  obtain ⟨p, hp, hpA⟩ := Ft.par hc hA hcL
  have hpn := Ft.lt p hpA
  have hpc : p ≠ hc := by rintro rfl; exact hp0 hp
  have hmem : hc ∈ C p := (Ft.mem p hc hpA).2 ⟨hA, hcL, hp⟩
  obtain ⟨t, c1, c2, c3, c4⟩ := (Ft.cyc p hpA).from hmem (Ft.nd p hpA)
  obtain ⟨l, r, el, er, hl, hr⟩ := c1.sides
  have hin : ∀ x, x ∈ hc :: t → A x ∧ ¬ x ∈ L ∧ st x 0 = (p : Nat) := fun x hx => (Ft.mem p x hpA).1 ((c3 x).1 hx)
  have hln := Ft.lt l (hin l hl).1
  have hrn := Ft.lt r (hin r hr).1
  have hdeg : st p 4 = (C p).length := Ft.dg p hpA
  have hdl : (C p).length ≤ 1024 * 1024 ∨ True := .inr trivial
  have hdn : st p 4 ≤ n := by
    rw [hdeg, ← Ft.len hpA]; exact cntP_all
  have hlen : 1 ≤ st p 4 := by rw [hdeg, ← c4]; simp; omega
  have hn63 : (n : Int) < 4611686018427387904 ∨ True := .inr trivial
  rw [hp] at hkk ⊢
  refine ⟨fun s q2 => s.1 = (p : Nat) ∧ ∃ st3 best3 L3 C3, Fm [32, 35] own h own q2 ∧ HQ own q2 bq bf bl n key held cnt last best3 st3 ∧ FT n key A (fun x => x ∈ L3) (-1) (p : Nat) st3 C3 ∧ RI key st3 L3 best3 ∧ (∀ x, x ∈ L3 ↔ x = hc ∨ x ∈ L), ?_, ?_⟩
  · refine ptrP_mk ⟨_, Q.f.ld rfl, HL.ix hpn (Q.l.ldI hpn (by omega) ?_)⟩
    have ew : IntKind.i64.wrap (st p 4 - 1) = st p 4 - 1 := w64_in (by omega) (by omega)
    rw [ew]
    refine Q.sI hpn (by omega) fun g1 F1 Q => ?_
    obtain ⟨s0, es0⟩ : ∃ s0, s0 = upd2 st p 4 (st p 4 - 1) := ⟨_, rfl⟩
    rw [← es0] at Q
    have z4 : s0 p 4 = st p 4 - 1 := by rw [es0, upd2_at]
    have zo : ∀ x j, x ≠ p ∨ j ≠ 4 → s0 x j = st x j := fun x j hx => by
      rw [es0]
      rcases hx with k | k
      · exact upd2_v k
      · exact upd2_j k
    refine ⟨fun _ q => ∃ s1, Fm [32, 35] own h own q ∧ HQ own q bq bf bl n key held cnt last best s1 ∧ (∀ x j, x ≠ p ∨ (j ≠ 1 ∧ j ≠ 4) → s1 x j = st x j) ∧ s1 p 4 = st p 4 - 1 ∧
      s1 p 1 = if st p 4 - 1 = 0 then -1 else if st p 1 = (hc : Nat) then st hc 3 else st p 1, ?_, ?_⟩
    · have F01 : Fm [32, 35] own h own g1 := F0.trans (F1.mono (by simp))
      refine Q.l.ldI hpn (by omega) ?_
      rw [z4]
      refine ifP_of (fun k => ?_) (fun k => ?_)
      · have k := of_decide_eq_true k
        refine Q.sI hpn (by omega) fun g2 F2 Q => ⟨_, F01.trans (F2.mono (by simp)), Q, fun x j hx => ?_, ?_, ?_⟩
        · have : upd2 s0 p 1 (-1) x j = s0 x j := by
            rcases hx with k | k
            · exact upd2_v k
            · exact upd2_j k.1
          rw [this]
          exact zo x j (by rcases hx with k | k; exact .inl k; exact .inr k.2)
        · rw [upd2_j (by omega)]; exact z4
        · rw [if_pos k, upd2_at]
      have k := of_decide_eq_false k
      rw [if_neg k]
      refine Q.l.ldI hpn (by omega) ?_
      rw [zo p 1 (.inr (by omega))]
      refine ifP_of (fun k2 => ?_) (fun k2 => ?_)
      · have k2 := of_decide_eq_true k2
        refine ptrP_mk ⟨_, Q.f.ld rfl, HL.ix hcn (Q.l.ldI hcn (by omega) ?_)⟩
        rw [zo hc 3 (.inr (by omega))]
        refine Q.sI hpn (by omega) fun g2 F2 Q => ⟨_, F01.trans (F2.mono (by simp)), Q, fun x j hx => ?_, ?_, ?_⟩
        · have : upd2 s0 p 1 (st hc 3) x j = s0 x j := by
            rcases hx with k | k
            · exact upd2_v k
            · exact upd2_j k.1
          rw [this]
          exact zo x j (by rcases hx with k | k; exact .inl k; exact .inr k.2)
        · rw [upd2_j (by omega)]; exact z4
        · rw [if_pos k2, upd2_at]
      · have k2 := of_decide_eq_false k2
        refine ⟨s0, F01, Q, fun x j hx => zo x j (by rcases hx with k | k; exact .inl k; exact .inr k.2), z4, ?_⟩
        rw [if_neg k2]; exact zo p 1 (.inr (by omega))
    rintro q1 ⟨s1, F1', Q, hs, hs4, hs1⟩
    have hs23 : ∀ x, s1 x 2 = st x 2 ∧ s1 x 3 = st x 3 := fun x => ⟨hs x 2 (.inr ⟨by omega, by omega⟩), hs x 3 (.inr ⟨by omega, by omega⟩)⟩
    refine (leave_T Q hcn hln hrn (by rw [(hs23 hc).1]; exact el) (by rw [(hs23 hc).2]; exact er)).mono ?_
    rintro _ g2 ⟨rfl, F2, Q⟩
    have F02 : Fm [32, 35] own h own g2 := F1'.trans (F2.mono (by simp))
    obtain ⟨C1, Ft1⟩ := Ft.drop (st' := lv s1 hc) hA hcL hp hz hy (fun x hx j hj => by rw [lv_f hj]; exact hs x j (.inl hx)) (by rw [lv_f (by omega)]; exact hs4) (by rw [lv_f (by omega)]; exact hs1)
      ⟨by rw [lv_f (by omega)]; exact hs p 0 (.inr ⟨by omega, by omega⟩), by rw [lv_f (by omega)]; exact hs p 5 (.inr ⟨by omega, by omega⟩)⟩ (lv_eq hs23)
    have hLout : ∀ x ∈ L, x ∉ hc :: t := fun x hx k => (hin x k).2.1 hx
    have I1 : RI key (lv s1 hc) L best := I0.congr fun x hx => by
      refine ⟨?_, ?_, ?_⟩
      · rw [lv_f (by omega)]; exact hs x 0 (.inr ⟨by omega, by omega⟩)
      · rw [(lv_eq hs23 x).1, lv_out c1 (hLout x hx)]
      · rw [(lv_eq hs23 x).2, lv_out c1 (hLout x hx)]
    refine rt_ret ⟨rfl, ?_⟩
    refine (froot_T Q hcn I1 (fun x hx => Ft.lt x (Ft.ra x hx)) hcL (by unfold lv; rw [upd2_j (by omega), upd2_at]) (by unfold lv; rw [upd2_at])).mono ?_
    rintro _ g3 ⟨rfl, F3, st3, best3, L3, Q, S⟩
    have F03 : Fm [32, 35] own h own g3 := F02.trans F3
    have Ft3 : FT n key A (fun x => x ∈ L3) (-1) (p : Nat) st3 C1 := by
      have e : (fun x => x ∈ L3) = fun x => x = hc ∨ x ∈ L := by funext x; exact propext (S.mem x)
      rw [e]
      refine Ft1.congr (fun x _ hx j => S.out x (fun k => hx (.inl k)) (fun k => hx (.inr k)) j) (fun x _ => ?_) (fun x hx => ?_)
      · by_cases e : x = hc
        · subst e; exact ⟨S.me.2.2.1, S.me.2.2.2⟩
        · exact ⟨S.fld x e 1 (by omega), S.fld x e 4 (by omega)⟩
      · by_cases e : x = hc
        · subst e; exact .inl S.me.2.1
        · rw [S.fld x e 5 (by omega)]; exact Ft1.mrk x hx
    have hhL : hh ∈ L3 := by
      rcases hor with k | k
      · exact (S.mem hh).2 (.inr k)
      · subst k; exact (S.mem hc).2 (.inl rfl)
    refine rt_ret ⟨rfl, Q.l.ldB hpn ?_⟩
    refine ifP_of (fun k => ?_) (fun k => ⟨rfl, st3, best3, L3, C1, F03, Q, Ft3, S.ri, S.mem⟩)
    have h5 : st3 p 5 = 0 := by
      rcases Ft3.mrk p hpA with e | e
      · exact e
      · rw [e] at k; simp at k
    refine Q.l.ldI hpn (by omega) (Q.s5 hpn fun g4 F4 Q => ?_)
    have F04 : Fm [32, 35] own h own g4 := F03.trans (F4.mono (by simp))
    by_cases hpL : p ∈ L3
    · have e0 : st3 p 0 = -1 := S.ri.r0 p hpL
      rw [e0, if_neg (by simp)] at Q
      refine ⟨rfl, F04, _, best3, L3, C1, Q, ⟨?_, S.ri.congr fun x _ => ⟨upd2_j (by omega), upd2_j (by omega), upd2_j (by omega)⟩⟩, hhL⟩
      have e : upd2 st3 p 5 0 = st3 := by
        funext x j
        unfold upd2
        split
        · rename_i k; rw [k.1, k.2, h5]
        · rfl
      rw [e]
      exact Ft3.clean (.inl (by omega)) (.inr ⟨p, rfl, .inl hpL⟩)
    · obtain ⟨q', e0, _⟩ := Ft3.par p hpA hpL
      rw [e0, if_pos (by simp)] at Q
      exact ⟨rfl, F04, _, best3, L3, C1, Q, ⟨Ft3.mark rfl hpA h5 (fun x j hx => by
        rcases hx with k | k
        · exact upd2_v k
        · exact upd2_j k) upd2_at, S.ri.congr fun x _ => ⟨upd2_j (by omega), upd2_j (by omega), upd2_j (by omega)⟩⟩, hhL⟩
  · rintro hn2 q2 ⟨e, st3, best3, L3, C3, F3, Q, Ft3, I3, hL3⟩
    change hn2 = (p : Int) at e
    subst e
    refine ptrP_mk ⟨_, Q.f.ld rfl, HL.ix hpn (Q.l.ldI hpn (by omega) ?_)⟩
    refine mu_next (I := I) (k := (cntP n (fun x => A x ∧ ¬ x ∈ L3)).toNat) ⟨p, st3, best3, L3, C3, -1, (p : Nat), rfl, rfl, rfl, F3, Q, Ft3, fun x _ => by omega, fun x hx => by omega, hpA, I3, ?_, ?_⟩ ?_
    · intro e
      by_cases hpL : p ∈ L3
      · have := I3.r0 p hpL; omega
      · have := Ft3.ord p p hpA hpL e (by omega)
        exact ahd_irr this
    · rcases hor with k | k
      · exact .inl ((hL3 hh).2 (.inr k))
      · subst k; exact .inl ((hL3 hc).2 (.inl rfl))
    · rw [hkk, hk2]
      have : cntP n (fun x => x = hc ∨ (A x ∧ ¬ x ∈ L3)) ≤ cntP n (fun x => A x ∧ ¬ x ∈ L) := cntP_le fun x _ hx => by
        rcases hx with rfl | ⟨a, b⟩
        · exact ⟨hA, hcL⟩
        · exact ⟨a, fun k => b ((hL3 x).2 (.inr k))⟩
      rw [cntP_add hcn (fun k => k.2 ((hL3 hc).2 (.inl rfl)))] at this
      have := cntP_nn (n := n) (P := fun x => A x ∧ ¬ x ∈ L3)
      omega
end

end Go.Proofs.YtdcamadeblojdaaGreat

namespace Go.Proofs.YtdcamadeblojdaaGreat
open Go
open Classical
set_option linter.unusedVariables false
set_option linter.unusedSimpArgs false

theorem methPush (a : Addr) (w : World) : (method (Tryz.prog.types.size + Made.depth) 153 (.pointer (some a)) "compass/heaps.push").run Tryz.prog w = .ok (F.heaps_fibonacci_push, .pointer (some a)) w := by kernel_rfl
theorem methLower (a : Addr) (w : World) : (method (Tryz.prog.types.size + Made.depth) 153 (.pointer (some a)) "compass/heaps.lower").run Tryz.prog w = .ok (F.heaps_fibonacci_lower, .pointer (some a)) w := by kernel_rfl
theorem methTop (a : Addr) (w : World) : (method (Tryz.prog.types.size + Made.depth) 153 (.pointer (some a)) "compass/heaps.top").run Tryz.prog w = .ok (F.heaps_fibonacci_top, .pointer (some a)) w := by kernel_rfl
theorem methPop (a : Addr) (w : World) : (method (Tryz.prog.types.size + Made.depth) 153 (.pointer (some a)) "compass/heaps.pop").run Tryz.prog w = .ok (F.heaps_fibonacci_pop, .pointer (some a)) w := by kernel_rfl

theorem FT.uset {n : Nat} {key : Nat → Int} {A A' R R' : Nat → Prop} {z y : Int} {st : Nat → Nat → Int} {C : Nat → List Nat} (Ft : FT n key A R z y st C) (hA : ∀ x, A' x ↔ A x) (hR : ∀ x, R' x ↔ R x) : FT n key A' R' z y st C := by
  have e1 : A' = A := by funext x; exact propext (hA x)
  have e2 : R' = R := by funext x; exact propext (hR x)
  rw [e1, e2]; exact Ft

section
variable {own own' : Own} {h h' : H} {n : Nat} {st : Nat → Nat → Int}
variable {bq bf bl : Nat} {key : Nat → Int} {held : Nat → Bool} {cnt last best : Int}
variable {A : Nat → Prop} {C : Nat → List Nat} {L : List Nat}
theorem fpush_T (Q : HQ own h bq bf bl n key held cnt last best st) (G : FH n key A st best L C) {x : Nat} (hx : x < n) (hA : ¬ A x) :
    T Tryz.prog F.heaps_fibonacci_push [.pointer (some (bk bf)), .int .i64 x] h fun r h' => r = .ret (.tuple ⟨[]⟩) ∧ Fm [32, 35] own h own h' ∧
      ∃ st' best' L' C', HQ own h' bq bf bl n key held cnt last best' st' ∧ FH n key (fun v => v = x ∨ A v) st' best' L' C' := by
  refine E_heaps_fibonacci_push ?_
  unfold B_heaps_fibonacci_push
  refine ptrP_mk ⟨_, Q.f.ld rfl, HL.ix hx (Q.l.put hx fun g1 F1 L1 => ?_)⟩
  have Q := Q.ln F1 L1
  rw [if_neg (by simp)] at Q
  obtain ⟨s1, es1⟩ : ∃ s1, s1 = upd2 (upd2 (upd2 (upd2 (upd2 (upd2 st x 0 (-1)) x 1 (-1)) x 2 (x : Nat)) x 3 (x : Nat)) x 4 0) x 5 0 := ⟨_, rfl⟩
  rw [← es1] at Q
  have o1 : ∀ y, y ≠ x → ∀ j, s1 y j = st y j := fun y hy j => by rw [es1, upd2_v hy, upd2_v hy, upd2_v hy, upd2_v hy, upd2_v hy, upd2_v hy]
  have m5 : s1 x 5 = 0 := by rw [es1, upd2_at]
  have m4 : s1 x 4 = 0 := by rw [es1, upd2_j (by omega), upd2_at]
  have m3 : s1 x 3 = (x : Nat) := by rw [es1, upd2_j (by omega), upd2_j (by omega), upd2_at]
  have m2 : s1 x 2 = (x : Nat) := by rw [es1, upd2_j (by omega), upd2_j (by omega), upd2_j (by omega), upd2_at]
  have m1 : s1 x 1 = -1 := by rw [es1, upd2_j (by omega), upd2_j (by omega), upd2_j (by omega), upd2_j (by omega), upd2_at]
  have hxL : x ∉ L := fun k => hA (G.ft.ra x k)
  have Ft1 := G.ft.put hx hA o1 m1 m4 m5
  have I1 : RI key s1 L best := G.ri.congr fun y hy => by
    have : y ≠ x := by rintro rfl; exact hxL hy
    exact ⟨o1 y this 0, o1 y this 2, o1 y this 3⟩
  refine (froot_T Q hx I1 (fun y hy => G.ft.lt y (G.ft.ra y hy)) hxL m2 m3).mono ?_
  rintro _ g2 ⟨rfl, F2, st2, best2, L2, Q, S⟩
  have Ft2 := Ft1.congr (st' := st2) (fun y _ hy j => S.out y (fun k => hy (.inl k)) (fun k => hy (.inr k)) j) (fun y _ => by
    by_cases e : y = x
    · subst e; exact ⟨S.me.2.2.1, S.me.2.2.2⟩
    · exact ⟨S.fld y e 1 (by omega), S.fld y e 4 (by omega)⟩) (fun y hy => by
    by_cases e : y = x
    · subst e; exact .inl S.me.2.1
    · rw [S.fld y e 5 (by omega)]; exact Ft1.mrk y hy)
  exact rt_ret ⟨rfl, rfl, (F1.mono (by simp)).trans F2, st2, best2, L2, _, Q, ⟨Ft2.uset (fun _ => Iff.rfl) S.mem, S.ri⟩⟩

/-- A key has been lowered: the engine is told. -/
theorem flower_T {key0 : Nat → Int} (Q : HQ own h bq bf bl n key held cnt last best st) (G : FH n key0 A st best L C) (hn1 : n ≤ 1024) {x : Nat} (hA : A x) (hlow : key x < key0 x) (hk : ∀ v, v ≠ x → key v = key0 v) :
    T Tryz.prog F.heaps_fibonacci_lower [.pointer (some (bk bf)), .int .i64 x] h fun r h' => r = .ret (.tuple ⟨[]⟩) ∧ Fm [32, 35] own h own h' ∧
      ∃ st' best' L' C', HQ own h' bq bf bl n key held cnt last best' st' ∧ FH n key A st' best' L' C' := by
  refine E_heaps_fibonacci_lower ?_
  unfold B_heaps_fibonacci_lower
  have hx := G.ft.lt x hA
  -- out of order at most at x
  have FtX : FT n key A (fun v => v ∈ L) (x : Nat) (-1) st C := ⟨G.ft.lt, G.ft.ra, G.ft.mem, G.ft.nd, G.ft.cyc, G.ft.par, G.ft.ch, fun v p hv hr hp hz => by
    have := G.ft.ord v p hv hr hp (by omega)
    have hvx : v ≠ x := fun e => hz (by rw [e])
    unfold ahd at *
    rw [hk v hvx]
    by_cases e : p = x
    · subst e; omega
    · rw [hk p e]; exact this, G.ft.dg, G.ft.cn, G.ft.mrk⟩
  -- the state behind the cut
  let W : H → Prop := fun q => ∃ st' best' L' C', Fm [32, 35] own h own q ∧ HQ own q bq bf bl n key held cnt last best' st' ∧ FT n key A (fun v => v ∈ L') (-1) (-1) st' C' ∧ L'.Nodup ∧ Cyc st' L' ∧ (∀ v ∈ L', st' v 0 = -1) ∧
    ∃ b : Nat, best' = b ∧ b ∈ L' ∧ (∀ v ∈ L', v ≠ x → v = b ∨ ahd key b v) ∧ (x ∈ L' ∨ ∀ v ∈ L', v = b ∨ ahd key b v)
  refine ⟨fun _ q => W q, ?_, ?_⟩
  · refine ptrP_mk ⟨_, Q.f.ld rfl, HL.ix hx (Q.l.ldI hx (by omega) (ifP_of (fun k => ?_) (fun k => ?_)))⟩
    · have k := of_decide_eq_true k
      have hxL : x ∉ L := fun hl => by have := G.ri.r0 x hl; omega
      obtain ⟨p, hp, hpA⟩ := G.ft.par x hA hxL
      have hpn := G.ft.lt p hpA
      have hpx : p ≠ x := by
        rintro rfl
        exact ahd_irr (G.ft.ord p p hA hxL hp (by omega))
      have hmin0 : ∀ b, b ∈ L → ∀ v ∈ L, (v = b ∨ ahd key0 b v) → (v = b ∨ ahd key b v) := fun b hb v hv hh => by
        rcases hh with e | e
        · exact .inl e
        · right
          have h1 : b ≠ x := by rintro rfl; exact hxL hb
          have h2 : v ≠ x := by rintro rfl; exact hxL hv
          unfold ahd at *; rw [hk b h1, hk v h2]; exact e
      have RIn : RI key st L best := ⟨G.ri.nd, G.ri.cyc, G.ri.r0, by
        rcases G.ri.bst with e | ⟨b, e1, e2, e3⟩
        · exact .inl e
        · exact .inr ⟨b, e1, e2, fun v hv => hmin0 b e2 v hv (e3 v hv)⟩⟩
      rw [hp]
      refine ptrP_mk ⟨_, Q.f.ld rfl, ?_⟩
      refine (ahead_T Q hx hpn).mono ?_
      rintro _ _ ⟨t, rfl, ht, rfl⟩
      have done : ∀ {q : H} {st' best' L' C'}, Fm [32, 35] own h own q → HQ own q bq bf bl n key held cnt last best' st' → FH n key A st' best' L' C' → W q := fun {q st' best' L' C'} F1 Q1 G1 => by
        rcases G1.ri.bst with ⟨e, _⟩ | ⟨b, e1, e2, e3⟩
        · exfalso
          subst e
          -- a top above x
          have : ∀ k : Nat, ∀ v, A v → cntP n (fun y => ahd key y v) ≤ k → False := by
            intro k
            induction k with
            | zero =>
              intro v hv hc
              obtain ⟨q, e, hq⟩ := G1.ft.par v hv (by simp)
              have o := G1.ft.ord v q hv (by simp) e (by omega)
              have := cntP_one (n := n) (P := fun y => ahd key y v) (G1.ft.lt q hq) o
              omega
            | succ k ih =>
              intro v hv hc
              obtain ⟨q, e, hq⟩ := G1.ft.par v hv (by simp)
              have o := G1.ft.ord v q hv (by simp) e (by omega)
              refine ih q hq ?_
              have h1 : cntP n (fun y => y = q ∨ ahd key y q) ≤ cntP n (fun y => ahd key y v) := cntP_le fun y _ hy => by
                rcases hy with rfl | hy
                · exact o
                · exact ahd_tr hy o
              rw [cntP_add (P := fun y => ahd key y q) (G1.ft.lt q hq) ahd_irr] at h1
              omega
          exact this n x hA cntP_all
        · exact ⟨st', best', L', C', F1, Q1, G1.ft, G1.ri.nd, G1.ri.cyc, G1.ri.r0, b, e1, e2, fun v hv _ => e3 v hv, .inr e3⟩
      refine rt_ret ⟨_, rfl, ifP_of (fun kt => ?_) (fun kt => ?_)⟩
      · refine (cut_T Q FtX hA (fun v hv => by omega) (fun v hv => by omega) RIn (by rw [hp]; omega) hn1).mono ?_
        rintro _ g ⟨rfl, F1, st', best', L', C', Q1, G1, _⟩
        exact rt_ret ⟨rfl, done F1 Q1 G1⟩
      · have hpa : ahd key p x := by
          rcases ahd_or (key := key) (a := p) (b := x) with e | e | e
          · exact absurd e hpx
          · exact e
          · have := ht.2 e; rw [kt] at this; cases this
        refine done Fm.refl Q ⟨⟨FtX.lt, FtX.ra, FtX.mem, FtX.nd, FtX.cyc, FtX.par, FtX.ch, fun v q hv hr hq _ => ?_, FtX.dg, FtX.cn, FtX.mrk⟩, RIn⟩
        by_cases e : v = x
        · subst e
          have : q = p := by omega
          subst this; exact hpa
        · exact FtX.ord v q hv hr hq (by omega)
    · -- a top
      have k := of_decide_eq_false k
      have hxL : x ∈ L := by
        apply Classical.byContradiction
        intro hn
        obtain ⟨p, e, _⟩ := G.ft.par x hA hn
        omega
      refine ⟨st, best, L, C, Fm.refl, Q, FtX.clean (.inr ⟨x, rfl, .inl hxL⟩) (.inl (by omega)), G.ri.nd, G.ri.cyc, G.ri.r0, ?_⟩
      rcases G.ri.bst with ⟨e, _⟩ | ⟨b, e1, e2, e3⟩
      · rw [e] at hxL; simp at hxL
      · refine ⟨b, e1, e2, fun v hv hvx => ?_, .inl hxL⟩
        rcases e3 v hv with e | e
        · exact .inl e
        · right
          unfold ahd at *
          rw [hk v hvx]
          by_cases e4 : b = x
          · subst e4; omega
          · rw [hk b e4]; exact e
  rintro q ⟨st', best', L', C', F1, Q, Ft1, nd, cy, r0, b, rfl, hb, hmin, hor⟩
  have hbn := Ft1.lt b (Ft1.ra b hb)
  refine ptrP_mk (ptrP_mk ⟨_, Q.f.ld rfl, _, Q.f.ld rfl, ?_⟩)
  refine (ahead_T Q hx hbn).mono ?_
  rintro _ _ ⟨t, rfl, ht, rfl⟩
  refine rt_ret ⟨_, rfl, ifP_of (fun kt => ?_) (fun kt => ?_)⟩
  · have hxb := ht.1 kt
    have hxL : x ∈ L' := by
      rcases hor with e | e
      · exact e
      · exfalso
        rcases Ft1.min e x hA with e2 | e2
        · subst e2; exact ahd_irr hxb
        · exact ahd_irr (ahd_tr hxb e2)
    refine ptrP_mk (Q.sb fun g F2 Q => ⟨rfl, F1.trans (F2.mono (by simp)), st', x, L', C', Q, ⟨Ft1, nd, cy, r0, .inr ⟨x, rfl, hxL, fun v hv => ?_⟩⟩⟩)
    by_cases e : v = x
    · exact .inl e
    · right
      rcases hmin v hv e with e2 | e2
      · subst e2; exact hxb
      · exact ahd_tr hxb e2
  · refine ⟨rfl, F1, st', b, L', C', Q, ⟨Ft1, nd, cy, r0, .inr ⟨b, rfl, hb, fun v hv => ?_⟩⟩⟩
    by_cases e : v = x
    · subst e
      rcases ahd_or (key := key) (a := v) (b := b) with e2 | e2 | e2
      · exact .inl e2
      · have := ht.2 e2; rw [kt] at this; cases this
      · exact .inr e2
    · exact hmin v hv e
end

end Go.Proofs.YtdcamadeblojdaaGreat

namespace Go.Proofs.YtdcamadeblojdaaGreat
open Go
open Classical
set_option linter.unusedVariables false
set_option linter.unusedSimpArgs false

/-- The rest behind the first. -/
theorem S1.tail {own : Own} {h : H} {i : Nat} {v x : Value} {vs : List Value} {K : Option Addr → Nat → Nat → Prop} (s : S1 own h i v (x :: vs))
    (k : ∀ (a : Option Addr) (c : Nat), vs.length + 1 ≤ c → RS h (sliceV a c 1 ((vs.length + 1 : Nat) : Int) 1) vs → K a (vs.length + 1) c) : slcP v K := by
  rcases s with ⟨e, _⟩ | ⟨b, hb, c, e, zs, rfl, h2, h3⟩
  · cases e
  have hcc : vs.length + 1 ≤ c := by simp at h3; omega
  refine k (some (bk b)) c hcc ?_
  unfold sliceV
  refine ⟨_, _, by rw [show ((vs.length + 1 : Nat) : Int).toNat - (1 : Int).toNat = vs.length by omega], fun j y hj => ?_⟩
  have hj2 := (List.getElem?_eq_some_iff.1 hj).1
  rw [if_neg (show ¬ c = (1 : Int).toNat by simp; omega)]
  refine ⟨_, rfl, ?_⟩
  rw [show (1 : Int).toNat * 1 = 1 from rfl, Nat.mul_one, add_2, bk_add, hcell_at h2, List.getElem?_toArray, List.getElem?_append_left (by simp; omega), Nat.add_comm]
  simpa using hj

section
variable {own own' : Own} {h h' : H} {n : Nat} {st : Nat → Nat → Int}
variable {bq bf bl : Nat} {key : Nat → Int} {held : Nat → Bool} {cnt last best : Int}
variable {A : Nat → Prop} {C : Nat → List Nat} {L : List Nat}
/-- The table of tops by their degree. -/
structure TbP (n : Nat) (key : Nat → Int) (A : Nat → Prop) (st : Nat → Nat → Int) (C : Nat → List Nat) (tb : Nat → Int) (W : Nat → Prop) : Prop where
  ft : FT n key A (fun v => W v ∨ ∃ d, d < 64 ∧ tb d = ((v + 1 : Nat) : Int)) (-1) (-1) st C
  en : ∀ d, d < 64 → tb d = 0 ∨ ∃ v : Nat, tb d = ((v + 1 : Nat) : Int) ∧ st v 4 = (d : Nat) ∧ st v 2 = (v : Nat) ∧ st v 3 = (v : Nat) ∧ ¬ W v
theorem tbl_rd {b d : Nat} {tb : Nat → Int} {K : Int → Prop} (k : B1 own h 38 b (ints 64 tb)) (hd : d < 64) (q : K (tb d)) : ixA (bk b) 64 (d : Int) 1 fun a => ldI h a .i64 K :=
  ⟨by omega, by omega, _, by rw [Int.toNat_natCast, Nat.mul_one]; exact k.ld (ints_get hd), q⟩
theorem tbl_st {b d : Nat} {tb : Nat → Int} {x : Int} {K : H → Prop} (k : B1 own h 38 b (ints 64 tb)) (hd : d < 64) (q : ∀ g, Fm [38] own h own g → B1 own g 38 b (ints 64 (upd tb d x)) → K g) : ixA (bk b) 64 (d : Int) 1 fun a => stC h a (.int .i64 x) K := by
  refine ⟨by omega, by omega, ?_⟩
  rw [Int.toNat_natCast, Nat.mul_one]
  exact k.st (by rw [ints_length]; exact hd) fun g F B => q g F (by rw [← ints_set]; exact B)
theorem ring0_T : T Tryz.prog F.heaps_fibonacci_ring [.pointer (some (bk bf)), .int .i64 (-1)] h fun r h' => r = .ret (.slice none 0 0) ∧ h = h' := by
  refine E_heaps_fibonacci_ring ?_
  unfold B_heaps_fibonacci_ring
  exact ifP_of (fun _ => ⟨rfl, rfl⟩) (fun k => by simp at k)

theorem fpop_T (Q : HQ own h bq bf bl n key held cnt last best st) (G : FH n key A st best L C) (hn1 : n ≤ 1024) {b : Nat} (hb : best = (b : Nat)) (hbL : b ∈ L) :
    T Tryz.prog F.heaps_fibonacci_pop [.pointer (some (bk bf))] h fun r h' => r = .ret (.tuple ⟨[]⟩) ∧
      ∃ own' st' best' L' C', Fm [32, 35, 36, 37, 38] own h own' h' ∧ HQ own' h' bq bf bl n key held cnt last best' st' ∧ FH n key (fun v => A v ∧ v ≠ b) st' best' L' C' := by
  refine E_heaps_fibonacci_pop ?_
  unfold B_heaps_fibonacci_pop
  subst hb
  have hbA := G.ft.ra b hbL
  have hbn := G.ft.lt b hbA
  have Q0 := Q.f
  refine ptrP_mk (ptrP_mk (ptrP_mk ⟨_, Q.f.ld rfl, _, Q.f.ld rfl, HL.ix hbn (Q.l.ldI hbn (by omega) ⟨_, Q.f.ld rfl, ?_⟩)⟩))
  -- the children
  have hch : T Tryz.prog F.heaps_fibonacci_ring [.pointer (some (bk bf)), .int .i64 (st b 1)] h fun r h' => ∃ v own' cs, r = .ret v ∧ Fm [36] own h own' h' ∧ S1 own' h' 36 v (natV cs) ∧ cs.Nodup ∧ ∀ x, x ∈ cs ↔ x ∈ C b := by
    rcases G.ft.ch b hbA with ⟨e1, e2⟩ | ⟨c, e1, e2⟩
    · rw [e2]
      refine ring0_T.mono ?_
      rintro _ _ ⟨rfl, rfl⟩
      exact ⟨_, own, [], rfl, Fm.refl, S1.nil, by simp, by simp [e1]⟩
    · rw [e1]
      obtain ⟨t, c1, c2, c3, c4⟩ := (G.ft.cyc b hbA).from e2 (G.ft.nd b hbA)
      refine (ring_T Q c1 c2 (fun y hy => G.ft.lt y ((G.ft.mem b y hbA).1 ((c3 y).1 hy)).1) hn1 (j := 36) (by omega)).mono ?_
      rintro _ g ⟨v, own', rfl, F1, S⟩
      exact ⟨v, own', c :: t, rfl, F1, S, c2, c3⟩
  refine hch.mono ?_
  rintro _ g1 ⟨v9, own1_, cs, rfl, F1, S9, hcn, hcm⟩
  have Q := Q.fm F1 (by simp)
  refine rt_ret ⟨sameAt_b1 Q0 Q.f, ?_⟩
  obtain ⟨t, c1, c2, c3, c4⟩ := G.ri.cyc.from hbL G.ri.nd
  refine (ring_T Q c1 c2 (fun y hy => G.ft.lt y (G.ft.ra y ((c3 y).1 hy))) hn1 (j := 37) (by omega)).mono ?_
  rintro _ g2 ⟨v11, own2, rfl, F2, S11⟩
  have Q := Q.fm F2 (by simp)
  have S9 := S9.fm F2 (by simp)
  refine rt_ret ?_
  have S11' : S1 own2 g2 37 v11 (.int .i64 (b : Nat) :: natV t) := S11
  refine S11'.tail fun a c hc S12 => ⟨by omega, by omega, by omega, by omega, ?_⟩
  have hlb : ∀ {l : List Nat}, l.Nodup → (∀ x ∈ l, x < n) → l.length ≤ 1024 := fun {l} h1 h2 => by
    have a := cntP_list h1 h2
    have b := cntP_all (n := n) (P := fun y => y ∈ l)
    omega
  have hcs : ∀ x ∈ cs, A x ∧ ¬ x ∈ L ∧ st x 0 = (b : Nat) := fun x hx => (G.ft.mem b x hbA).1 ((hcm x).1 hx)
  have hts : ∀ x ∈ t, x ∈ L ∧ x ≠ b := fun x hx => ⟨(c3 x).1 (List.mem_cons_of_mem _ hx), by rintro rfl; exact (List.nodup_cons.1 c2).1 hx⟩
  have hcl := hlb hcn fun x hx => G.ft.lt x (hcs x hx).1
  have htl := hlb (List.nodup_cons.1 c2).2 fun x hx => G.ft.lt x (G.ft.ra x (hts x hx).1)
  refine S9.catR S12 (by intro v hv; simp only [natV, List.mem_map] at hv; obtain ⟨_, _, rfl⟩ := hv; rfl) (by omega) (by rw [natV_length, natV_length]; omega) ?_
  intro s16 own3 g3 F3 S16
  have Q := Q.fm F3 (by simp)
  obtain ⟨tr, htr⟩ : ∃ tr, tr = cs ++ t := ⟨_, rfl⟩
  have e16 : natV cs ++ natV t = natV tr := by rw [htr]; simp [natV]
  rw [e16] at S16
  have hnd : tr.Nodup := by
    rw [htr]
    refine List.nodup_append.2 ⟨hcn, (List.nodup_cons.1 c2).2, fun x hx y hy => ?_⟩
    rintro rfl
    exact (hcs x hx).2.1 (hts x hy).1
  refine new_bl ?_
  intro b18 q19 hb18 x18 B18
  have F4 : Fm [] own3 g3 (own1 own3 b18 38) q19 := Fm.new x18 hb18
  have k18 : B1 (own1 own3 b18 38) q19 38 b18 (ints 64 fun _ => 0) := B1.new B18
  have Q := Q.fm F4 (by simp)
  have S16 := S16.fm F4 (by simp)
  have F04 : Fm [32, 35, 36, 37, 38] own h (own1 own3 b18 38) q19 := (((F1.mono (by simp)).trans (F2.mono (by simp))).trans (F3.mono (by simp))).trans (F4.mono (by simp))
  generalize own1 own3 b18 38 = own4 at *
  refine S16.len (natV_length tr) fun _ _ => ?_
  have Ft0 := G.ft.lose hbL
  have htm : ∀ x, x ∈ tr ↔ (x ∈ L ∧ x ≠ b) ∨ (A x ∧ ¬ x ∈ L ∧ st x 0 = (b : Nat)) := fun x => by
    rw [htr, List.mem_append]
    constructor
    · rintro (k | k)
      · exact .inr (hcs x k)
      · exact .inl (hts x k)
    · rintro (⟨k, k2⟩ | k)
      · refine .inr ?_
        have := (c3 x).2 k
        simp only [List.mem_cons] at this
        exact this.resolve_left k2
      · exact .inl ((hcm x).2 ((G.ft.mem b x hbA).2 k))
  have Tb0 : TbP n key (fun v => A v ∧ v ≠ b) st C (fun _ => 0) (fun v => v ∈ tr) := by
    refine ⟨Ft0.uset (fun _ => Iff.rfl) fun x => ?_, fun d _ => .inl rfl⟩
    rw [← htm x]
    constructor
    · rintro (k | ⟨d, _, k⟩)
      · exact k
      · omega
    · exact .inl
  have trl : tr.length ≤ 2048 := by rw [htr, List.length_append]; omega
  generalize hA' : (fun v => A v ∧ v ≠ b) = A' at *
  clear Ft0 htm hts hcs hlb S9 S11 S11' S12 G Q0 c1 c2 c3 c4 hcm hcn
  let I : (Int × Unit) → H → Nat → Prop := fun p q z => ∃ (j : Nat) (st : Nat → Nat → Int) (C : Nat → List Nat) (tb : Nat → Int), p.1 = j ∧ j ≤ tr.length ∧ z = tr.length - j ∧ Fm [32, 35, 36, 37, 38] own h own4 q ∧
    HQ own4 q bq bf bl n key held cnt last (b : Nat) st ∧ B1 own4 q 38 b18 (ints 64 tb) ∧ S1 own4 q 36 s16 (natV tr) ∧ TbP n key A' st C tb (fun v => v ∈ tr.drop j)
  refine ⟨fun p q => ∃ k, I p q k, rk I, rk_wf I, ⟨_, 0, st, C, _, rfl, by omega, rfl, F04, Q, k18, S16, by rw [List.drop_zero]; exact Tb0⟩, ?_⟩
  clear Q k18 S16 Tb0 F04
  intro p q hI
  obtain ⟨j, st, C, tb, e1, hj, hk2, F0, Q, k18, S16, Tb⟩ := mu_spec hI
  generalize hkk : mu I ((p, ()), q) = km at *
  change p = (j : Int) at e1
  subst e1
  have hlt : j < tr.length → tr.length - (j + 1) < mu I (((j : Int), ()), q) := fun h => by rw [hkk, hk2]; omega
  clear hI
  refine ifP_of (fun h1 => ?_) (fun h1 => ?_)
  · have hjl : j < tr.length := by have := of_decide_eq_true h1; omega
    have hdr : tr.drop j = tr[j] :: tr.drop (j + 1) := List.drop_eq_getElem_cons hjl
    obtain ⟨x, hxe⟩ : ∃ x, x = tr[j] := ⟨_, rfl⟩
    rw [hdr, ← hxe] at Tb
    have hxd : x ∉ tr.drop (j + 1) := by
      have : (tr.drop j).Nodup := hnd.sublist (List.drop_sublist _ _)
      rw [hdr, ← hxe] at this
      exact (List.nodup_cons.1 this).1
    have hxA : A' x := Tb.ft.ra x (.inl (by simp))
    have hxn := Tb.ft.lt x hxA
    refine S16.rd (natV_get hjl) ?_
    rw [← hxe]
    refine ptrP_mk (ptrP_mk (ptrP_mk (ptrP_mk ⟨_, Q.f.ld rfl, _, Q.f.ld rfl, _, Q.f.ld rfl, _, Q.f.ld rfl, HL.ix hxn (Q.sI hxn (by omega) fun g1 G1 Q => ?_)⟩)))
    refine HL.ix hxn (Q.sI hxn (by omega) fun g2 G2 Q => HL.ix hxn (Q.sI hxn (by omega) fun g3 G3 Q => HL.ix hxn (Q.s5 hxn fun g4 G4 Q => ?_)))
    rw [if_neg (by simp)] at Q
    obtain ⟨s1, es1⟩ : ∃ s1, s1 = upd2 (upd2 (upd2 (upd2 st x 2 (x : Nat)) x 3 (x : Nat)) x 0 (-1)) x 5 0 := ⟨_, rfl⟩
    rw [← es1] at Q
    have o1 : ∀ y, y ≠ x → ∀ j, s1 y j = st y j := fun y hy j => by rw [es1, upd2_v hy, upd2_v hy, upd2_v hy, upd2_v hy]
    have m5 : s1 x 5 = 0 := by rw [es1, upd2_at]
    have m3 : s1 x 3 = (x : Nat) := by rw [es1, upd2_j (by omega), upd2_j (by omega), upd2_at]
    have m2 : s1 x 2 = (x : Nat) := by rw [es1, upd2_j (by omega), upd2_j (by omega), upd2_j (by omega), upd2_at]
    have m1 : s1 x 1 = st x 1 := by rw [es1, upd2_j (by omega), upd2_j (by omega), upd2_j (by omega), upd2_j (by omega)]
    have m4 : s1 x 4 = st x 4 := by rw [es1, upd2_j (by omega), upd2_j (by omega), upd2_j (by omega), upd2_j (by omega)]
    have G14 := ((G1.trans G2).trans G3).trans G4
    have k18 := k18.fm G14 (by simp)
    have S16 := S16.fm G14 (by simp)
    have F1 : Fm [32, 35, 36, 37, 38] own h own4 g4 := F0.trans (G14.mono (by simp))
    have Tb1 : TbP n key A' s1 C tb (fun v => v = x ∨ v ∈ tr.drop (j + 1)) := by
      refine ⟨(Tb.ft.congr (st' := s1) (fun y hy hr k => o1 y (by rintro rfl; exact hr (.inl (by simp))) k) (fun y _ => ?_) (fun y hy => ?_)).uset (fun _ => Iff.rfl) fun v => by rw [List.mem_cons], fun d hd => ?_⟩
      · by_cases e : y = x
        · subst e; exact ⟨m1, m4⟩
        · exact ⟨o1 y e 1, o1 y e 4⟩
      · by_cases e : y = x
        · subst e; exact .inl m5
        · rw [o1 y e]; exact Tb.ft.mrk y hy
      · rcases Tb.en d hd with e | ⟨v, e1, e2, e3, e4, e5⟩
        · exact .inl e
        · have hv : v ≠ x := by rintro rfl; exact e5 (by simp)
          exact .inr ⟨v, e1, by rw [o1 v hv]; exact e2, by rw [o1 v hv]; exact e3, by rw [o1 v hv]; exact e4, fun k => e5 (List.mem_cons.2 k)⟩
    let I2 : (Int × Unit) → H → Nat → Prop := fun p q z => ∃ (hc : Nat) (st : Nat → Nat → Int) (C : Nat → List Nat) (tb : Nat → Int), p.1 = hc ∧ z = (64 - st hc 4).toNat ∧ Fm [32, 35, 36, 37, 38] own h own4 q ∧
      HQ own4 q bq bf bl n key held cnt last (b : Nat) st ∧ B1 own4 q 38 b18 (ints 64 tb) ∧ S1 own4 q 36 s16 (natV tr) ∧ TbP n key A' st C tb (fun v => v = hc ∨ v ∈ tr.drop (j + 1)) ∧ st hc 2 = (hc : Nat) ∧ st hc 3 = (hc : Nat) ∧ hc ∉ tr.drop (j + 1)
    refine ⟨fun p q => ∃ k, I2 p q k, rk I2, rk_wf I2, ⟨_, x, s1, C, tb, rfl, rfl, F1, Q, k18, S16, Tb1, m2, m3, hxd⟩, ?_⟩
    clear Q k18 S16 Tb1 Tb F1 F0 hxd hxA hxn o1 m1 m2 m3 m4 m5 es1 G14 G1 G2 G3 G4 hxe
    intro p2 q2 hI
    obtain ⟨hc, st, C, tb, e1, hz2, F0, Q, k18, S16, Tb, m2, m3, hcd⟩ := mu_spec hI
    generalize hkk2 : mu I2 ((p2, ()), q2) = km2 at *
    change p2 = (hc : Int) at e1
    subst e1
    have hcA : A' hc := Tb.ft.ra hc (.inl (.inl rfl))
    have hcn := Tb.ft.lt hc hcA
    have few := Tb.ft.few hn1 hcA (.inl (by omega))
    obtain ⟨d, hd⟩ : ∃ d : Nat, st hc 4 = d := ⟨(st hc 4).toNat, by omega⟩
    have hd64 : d < 64 := by omega
    clear hI
    refine ptrP_mk ⟨_, Q.f.ld rfl, HL.ix hcn (Q.l.ldI hcn (by omega) ?_)⟩
    rw [hd]
    refine tbl_rd k18 hd64 ?_
    rcases Tb.en d hd64 with e | ⟨y, ey, y4, y2, y3, yW⟩
    · rw [e]
      refine ifP_of (fun _ => ?_) (fun k => absurd (of_decide_eq_false k) (by decide))
      refine tbl_st k18 hd64 fun g5 G5 k18 => ?_
      rw [i64_inc (by omega)] at k18 ⊢
      have Q := Q.fm G5 (by simp)
      refine mu_next (I := I) (k := tr.length - (j + 1)) ⟨j + 1, st, C, _, rfl, hjl, rfl, F0.trans (G5.mono (by simp)), Q, k18, S16.fm G5 (by simp), ?_⟩ (hlt hjl)
      refine ⟨Tb.ft.uset (fun _ => Iff.rfl) fun v => ?_, fun d' hd' => ?_⟩
      · constructor
        · rintro (k | ⟨d', h1, h2⟩)
          · exact .inl (.inr k)
          · by_cases e2 : d' = d
            · subst e2; rw [upd_at] at h2; exact .inl (.inl (by omega))
            · rw [upd_ne e2] at h2; exact .inr ⟨d', h1, h2⟩
        · rintro ((k | k) | ⟨d', h1, h2⟩)
          · exact .inr ⟨d, hd64, by rw [upd_at, k]⟩
          · exact .inl k
          · refine .inr ⟨d', h1, ?_⟩
            rw [upd_ne (by rintro rfl; rw [e] at h2; omega)]; exact h2
      · by_cases e2 : d' = d
        · subst e2; exact .inr ⟨hc, upd_at, hd, m2, m3, hcd⟩
        · rw [upd_ne e2]
          rcases Tb.en d' hd' with k | ⟨v, k1, k2, k3, k4, k5⟩
          · exact .inl k
          · exact .inr ⟨v, k1, k2, k3, k4, fun k => k5 (.inr k)⟩
    · have hyR : (fun v => (v = hc ∨ v ∈ tr.drop (j + 1)) ∨ ∃ d, d < 64 ∧ tb d = ((v + 1 : Nat) : Int)) y := .inr ⟨d, hd64, ey⟩
      have hyn := Tb.ft.lt y (Tb.ft.ra y hyR)
      have hne : hc ≠ y := fun e => yW (.inl e.symm)
      have hyd : y ∉ tr.drop (j + 1) := fun k => yW (.inr k)
      have ew : IntKind.i64.wrap (((y + 1 : Nat) : Int) - 1) = y := by
        rw [show ((y + 1 : Nat) : Int) - 1 = y by omega]; exact w64_in (by omega) (by omega)
      rw [ey, ew]
      refine ifP_of (fun k => by have := of_decide_eq_true k; omega) (fun _ => ?_)
      refine tbl_st k18 hd64 fun g5 G5 k18 => ?_
      have Q := Q.fm G5 (by simp)
      have S16 := S16.fm G5 (by simp)
      refine (under_T Q Tb.ft (a := hc) (b := y) (.inl (.inl rfl)) hyR hne (by rw [hd, y4]) ⟨m2, m3⟩ ⟨y2, y3⟩ (by omega)).mono ?_
      rintro _ g6 ⟨w, l, st', C', rfl, hwl, G6, Q, Ft', w4, oth, wf⟩
      have hw4 : st w 4 = d := by rcases hwl with ⟨rfl, _⟩ | ⟨rfl, _⟩; exact hd; exact y4
      have hwd : w ∉ tr.drop (j + 1) := by rcases hwl with ⟨rfl, _⟩ | ⟨rfl, _⟩; exact hcd; exact hyd
      have hld : l ∉ tr.drop (j + 1) := by rcases hwl with ⟨_, rfl⟩ | ⟨_, rfl⟩; exact hyd; exact hcd
      have hwl2 : w ≠ l := by rcases hwl with ⟨rfl, rfl⟩ | ⟨rfl, rfl⟩; exact hne; exact hne.symm
      have hw23 : st w 2 = (w : Nat) ∧ st w 3 = (w : Nat) := by rcases hwl with ⟨rfl, _⟩ | ⟨rfl, _⟩; exact ⟨m2, m3⟩; exact ⟨y2, y3⟩
      have hent : ∀ d', d' < 64 → d' ≠ d → ∀ v : Nat, tb d' = ((v + 1 : Nat) : Int) → v ≠ hc ∧ v ≠ y ∧ v ∉ tr.drop (j + 1) ∧ st v 4 = d' ∧ st v 2 = (v : Nat) ∧ st v 3 = (v : Nat) := fun d' h1 h2 v h3 => by
        rcases Tb.en d' h1 with k | ⟨v', k1, k2, k3, k4, k5⟩
        · omega
        · have : v' = v := by omega
          subst this
          refine ⟨fun e => k5 (.inl e), ?_, fun e => k5 (.inr e), k2, k3, k4⟩
          rintro rfl
          exact h2 (Int.ofNat.inj (k2.symm.trans y4))
      refine rt_ret ⟨_, rfl, ?_⟩
      refine mu_next (I := I2) (k := (64 - st' w 4).toNat) ⟨w, st', C', upd tb d 0, rfl, rfl, (F0.trans (G5.mono (by simp))).trans (G6.mono (by simp)), Q, k18.fm G6 (by simp), S16.fm G6 (by simp), ⟨Ft'.uset (fun _ => Iff.rfl) fun v => ?_, fun d' hd' => ?_⟩, ?_, ?_, hwd⟩ ?_
      · constructor
        · rintro ((k | k) | ⟨d', h1, h2⟩)
          · subst k
            refine ⟨?_, hwl2⟩
            rcases hwl with ⟨rfl, _⟩ | ⟨rfl, _⟩
            · exact .inl (.inl rfl)
            · exact hyR
          · exact ⟨.inl (.inr k), by rintro rfl; exact hld k⟩
          · by_cases e2 : d' = d
            · subst e2; rw [upd_at] at h2; omega
            · rw [upd_ne e2] at h2
              obtain ⟨a1, a2, _⟩ := hent d' h1 e2 v h2
              refine ⟨.inr ⟨d', h1, h2⟩, ?_⟩
              rcases hwl with ⟨_, rfl⟩ | ⟨_, rfl⟩
              · exact a2
              · exact a1
        · rintro ⟨(k | k) | ⟨d', h1, h2⟩, h3⟩
          · refine .inl (.inl ?_)
            rcases hwl with ⟨rfl, rfl⟩ | ⟨rfl, rfl⟩
            · exact k
            · exact absurd k h3
          · exact .inl (.inr k)
          · by_cases e2 : d' = d
            · subst e2
              have : v = y := by omega
              refine .inl (.inl ?_)
              rcases hwl with ⟨rfl, rfl⟩ | ⟨rfl, rfl⟩
              · exact absurd this h3
              · exact this
            · exact .inr ⟨d', h1, by rw [upd_ne e2]; exact h2⟩
      · by_cases e2 : d' = d
        · subst e2; exact .inl upd_at
        · rw [upd_ne e2]
          rcases Tb.en d' hd' with k | ⟨v, k1, _⟩
          · exact .inl k
          · obtain ⟨a1, a2, a3, a4, a5, a6⟩ := hent d' hd' e2 v k1
            have vw : v ≠ w := by rcases hwl with ⟨rfl, _⟩ | ⟨rfl, _⟩; exact a1; exact a2
            have vl : v ≠ l := by rcases hwl with ⟨_, rfl⟩ | ⟨_, rfl⟩; exact a2; exact a1
            have o := oth v (.inr ⟨d', hd', k1⟩) vl vw
            exact .inr ⟨v, k1, by rw [o]; exact a4, by rw [o]; exact a5, by rw [o]; exact a6, by rintro (k | k); exact vw k; exact a3 k⟩
      · rw [wf 2 (by omega) (by omega)]; exact hw23.1
      · rw [wf 3 (by omega) (by omega)]; exact hw23.2
      · rw [hkk2, hz2, hd, w4, hw4]; omega
  · have : j = tr.length := by have := of_decide_eq_false h1; omega
    subst this
    rw [List.drop_length] at Tb
    refine ptrP_mk (Q.sb fun g1 G1 Q => ?_)
    have k18 := k18.fm G1 (by simp)
    have F1 : Fm [32, 35, 36, 37, 38] own h own4 g1 := F0.trans (G1.mono (by simp))
    refine k18.ldN (ints_length _ _) ?_
    have inj : ∀ d d' : Nat, d < 64 → d' < 64 → ∀ v : Nat, tb d = ((v + 1 : Nat) : Int) → tb d' = ((v + 1 : Nat) : Int) → d = d' := fun d d' h1 h2 v h3 h4 => by
      rcases Tb.en d h1 with k | ⟨v1, k1, k2, _⟩
      · omega
      · rcases Tb.en d' h2 with k | ⟨v2, k3, k4, _⟩
        · omega
        · have e1 : v1 = v := by omega
          have e2 : v2 = v := by omega
          subst e1; subst e2; omega
    let I3 : (Int × Unit) → H → Nat → Prop := fun p q z => ∃ (j : Nat) (st : Nat → Nat → Int) (best : Int) (L : List Nat), p.1 = j ∧ j ≤ 64 ∧ z = 64 - j ∧ Fm [32, 35, 36, 37, 38] own h own4 q ∧
      HQ own4 q bq bf bl n key held cnt last best st ∧ FT n key A' (fun v => ∃ d, d < 64 ∧ tb d = ((v + 1 : Nat) : Int)) (-1) (-1) st C ∧ RI key st L best ∧ (∀ v, v ∈ L ↔ ∃ d, d < j ∧ tb d = ((v + 1 : Nat) : Int)) ∧
      (∀ d, j ≤ d → d < 64 → ∀ v : Nat, tb d = ((v + 1 : Nat) : Int) → st v 2 = (v : Nat) ∧ st v 3 = (v : Nat))
    have Ft3 := Tb.ft.uset (R' := fun v => ∃ d, d < 64 ∧ tb d = ((v + 1 : Nat) : Int)) (fun _ => Iff.rfl) fun v => ⟨fun k => .inr k, fun k => k.resolve_left (by simp)⟩
    refine ⟨fun p q => ∃ k, I3 p q k, rk I3, rk_wf I3, ⟨_, 0, st, -1, [], rfl, by omega, rfl, F1, Q, Ft3, ⟨by simp, trivial, by simp, .inl ⟨rfl, rfl⟩⟩, fun v => by simp, fun d _ hd v hv => ?_⟩, ?_⟩
    · rcases Tb.en d hd with k | ⟨v1, k1, _, k3, k4, _⟩
      · omega
      · have e1 : v1 = v := by omega
        subst e1; exact ⟨k3, k4⟩
    clear Q k18 Tb F1 F0 hlt hkk hk2 h1 hj Ft3
    intro p q hI
    obtain ⟨j, st, best, L, e1, hj, hz, F0, Q, Ft, I0, hL, hsg⟩ := mu_spec hI
    generalize hkk : mu I3 ((p, ()), q) = km at *
    change p = (j : Int) at e1
    subst e1
    clear hI
    refine ifP_of (fun h1 => ?_) (fun h1 => ?_)
    · have hj64 : j < 64 := by have := of_decide_eq_true h1; omega
      refine ⟨by omega, by omega, tb j, by rw [Int.toNat_natCast, Nat.mul_one]; exact ints_get hj64, ?_⟩
      have hlt : 64 - (j + 1) < mu I3 (((j : Int), ()), q) := by rw [hkk, hz]; omega
      refine ifP_of (fun h2 => ?_) (fun h2 => ?_)
      · have h2 := of_decide_eq_true h2
        obtain ⟨v, hv⟩ : ∃ v : Nat, tb j = ((v + 1 : Nat) : Int) := ⟨(tb j - 1).toNat, by omega⟩
        have hvA := Ft.ra v ⟨j, hj64, hv⟩
        have hvn := Ft.lt v hvA
        have ew : IntKind.i64.wrap (tb j - 1) = v := by
          rw [show tb j - 1 = v by omega]; exact w64_in (by omega) (by omega)
        rw [ew]
        have hvL : v ∉ L := fun k => by
          obtain ⟨d, h3, h4⟩ := (hL v).1 k
          have := inj d j (by omega) hj64 v h4 hv
          omega
        obtain ⟨v2, v3⟩ := hsg j (Nat.le_refl _) hj64 v hv
        refine (froot_T Q hvn I0 (fun y hy => by obtain ⟨d, h3, h4⟩ := (hL y).1 hy; exact Ft.lt y (Ft.ra y ⟨d, by omega, h4⟩)) hvL v2 v3).mono ?_
        rintro _ g2 ⟨rfl, G2, st', best', L', Q, S⟩
        refine rt_ret ⟨rfl, ?_⟩
        rw [i64_inc (by omega)]
        refine mu_next (I := I3) (k := 64 - (j + 1)) ⟨j + 1, st', best', L', rfl, hj64, rfl, F0.trans (G2.mono (by simp)), Q, ?_, S.ri, fun y => ?_, fun d h3 h4 y hy => ?_⟩ hlt
        · refine Ft.congr (fun y _ hy k => S.out y (by rintro rfl; exact hy ⟨j, hj64, hv⟩) (fun k2 => ?_) k) (fun y _ => ?_) (fun y hy => ?_)
          · obtain ⟨d, h3, h4⟩ := (hL y).1 k2
            exact hy ⟨d, by omega, h4⟩
          · by_cases e : y = v
            · subst e; exact ⟨S.me.2.2.1, S.me.2.2.2⟩
            · exact ⟨S.fld y e 1 (by omega), S.fld y e 4 (by omega)⟩
          · by_cases e : y = v
            · subst e; exact .inl S.me.2.1
            · rw [S.fld y e 5 (by omega)]; exact Ft.mrk y hy
        · rw [S.mem y, hL y]
          constructor
          · rintro (rfl | ⟨d, h3, h4⟩)
            · exact ⟨j, by omega, hv⟩
            · exact ⟨d, by omega, h4⟩
          · rintro ⟨d, h3, h4⟩
            by_cases e : d = j
            · subst e; exact .inl (by omega)
            · exact .inr ⟨d, by omega, h4⟩
        · have yv : y ≠ v := by
            rintro rfl
            have := inj d j h4 hj64 y hy hv
            omega
          have yL : y ∉ L := fun k => by
            obtain ⟨d', h5, h6⟩ := (hL y).1 k
            have := inj d d' h4 (by omega) y hy h6
            omega
          rw [S.out y yv yL, S.out y yv yL]
          exact hsg d (by omega) h4 y hy
      · have h2 := of_decide_eq_false h2
        rw [i64_inc (by omega)]
        refine mu_next (I := I3) (k := 64 - (j + 1)) ⟨j + 1, st, best, L, rfl, hj64, rfl, F0, Q, Ft, I0, fun y => ?_, fun d h3 h4 y hy => hsg d (by omega) h4 y hy⟩ hlt
        rw [hL y]
        constructor
        · rintro ⟨d, h3, h4⟩; exact ⟨d, by omega, h4⟩
        · rintro ⟨d, h3, h4⟩
          by_cases e : d = j
          · subst e; omega
          · exact ⟨d, by omega, h4⟩
    · have : j = 64 := by have := of_decide_eq_false h1; omega
      subst this
      exact ⟨rfl, own4, st, best, L, C, F0, Q, ⟨Ft.uset (fun _ => Iff.rfl) hL, I0⟩⟩
end

end Go.Proofs.YtdcamadeblojdaaGreat

