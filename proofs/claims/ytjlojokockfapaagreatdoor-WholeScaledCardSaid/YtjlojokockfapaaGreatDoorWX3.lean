import Derived.Recover
import Derived.Laws.StructEq
import Derived.Test.YtjlojokockfapaaGreatDoorWX2
namespace Go.Proofs.YtjlojokockfapaaGreatDoor
open Go
set_option linter.unusedVariables false
set_option linter.unusedSimpArgs false

/-- A flow in the net's rooms. -/
structure FlS (n m : Nat) (fr to : Nat → Nat) (cap : Nat → Int) (s t : Nat) (room : Nat → Int) : Prop where
  rm : RmP m cap room
  cons : ∀ v, v < n → v ≠ s → v ≠ t → OutF m fr to (onR room) v = 0
section
variable {own : Own} {h : H} {bd bn n m s t : Nat} {fr to : Nat → Nat} {cap room lev nxt : Nat → Int}
theorem onR_bd (R : RmP m cap room) (hc : ∀ i, i < m → cap i ≤ 1048576) : ∀ i, i < m → 0 ≤ onR room i ∧ onR room i ≤ 1048576 := by
  intro i hi
  have := R.sum i hi
  have h1 := R.pos (2 * i) (by omega)
  have h2 := R.pos (2 * i + 1) (by omega)
  have := hc i hi
  unfold onR; omega
theorem out_bd {f : Nat → Int} (h : ∀ i, i < m → 0 ≤ f i ∧ f i ≤ 1048576) (m1 : m ≤ 4096) (v : Nat) : -4294967296 ≤ OutF m fr to f v ∧ OutF m fr to f v ≤ 4294967296 := by
  have a : OutF m fr to f v ≤ m * 1048576 := sumN_bd fun i hi => by have := h i hi; split <;> split <;> omega
  have b : sumN m (fun i => -1 * ((if fr i = v then f i else 0) - (if to i = v then f i else 0))) ≤ m * 1048576 := sumN_bd fun i hi => by have := h i hi; split <;> split <;> omega
  rw [sumN_mul] at b
  have b : -1 * OutF m fr to f v ≤ m * 1048576 := b
  omega
theorem FlS.flow (F : FlS n m fr to cap s t room) : FlowP n m fr to cap s t (onR room) :=
  ⟨fun i hi => by
    have := F.rm.sum i hi
    have h1 := F.rm.pos (2 * i) (by omega)
    have h2 := F.rm.pos (2 * i + 1) (by omega)
    unfold onR; omega, F.cons⟩
theorem rch_iff (R : RmP m cap room) {u v : Nat} : Rch (ArS m fr to room) u v ↔ Rch (RsS m fr to cap (onR room)) u v :=
  ⟨Rch.mono fun _ _ h => (rs_arc R).2 h, Rch.mono fun _ _ h => (rs_arc R).1 h⟩

/-- If nothing went, the sink has no level. -/
theorem dead_no (L : LevP n m fr to room s lev) (hn : ∀ i, i < m → fr i < n ∧ to i < n) (ht : t < n) (hlt : 0 ≤ lev t) (d : DdP n m fr to t lev room nxt) (hs : s ≠ t ∧ nxt s = (arcsL fr to m s).length) : False := by
  have key : ∀ k : Nat, ∀ w, w < n → lev w = k → w ≠ t ∧ nxt w = (arcsL fr to m w).length := by
    intro k
    induction k with
    | zero => intro w hw e; rw [L.one w hw e]; exact hs
    | succ k ih =>
      intro w hw e
      obtain ⟨a, ha, h1, h2, h3⟩ := L.pred w hw (by omega)
      have hu := tl_lt hn ha
      obtain ⟨_, h4⟩ := ih _ hu (by omega)
      have := d _ hu a (by rw [h4, Int.toNat_natCast, List.take_length]; exact mem_arcsL.2 ⟨ha, rfl⟩) h2 (by rw [h1]; omega)
      rwa [h1] at this
  exact (key (lev t).toNat t ht (by omega)).1 rfl

theorem dfill_T (hc : ∀ i, i < m → cap i ≤ 1048576) (hn : ∀ i, i < m → fr i < n ∧ to i < n) (m1 : m ≤ 4096) (n1 : n ≤ 1024) (hs : s < n) (ht : t < n) {x1 x2 : Value}
    (N : Net own h bn n m fr to s t room) (B : B1 own h 5 bd [.pointer (some (bk bn)), x1, x2]) (F0 : FlS n m fr to cap s t room) (hst : s ≠ t) :
    T Tryz.prog F.maxflow_dinic_fill [.pointer (some (bk bd))] h fun r h' => ∃ own' room', r = .ret (.tuple ⟨[]⟩) ∧ Fm [2, 5, 6, 7] own h own' h' ∧ Net own' h' bn n m fr to s t room' ∧
      FlS n m fr to cap s t room' ∧ ¬ Rch (ArS m fr to room') s t := by
  refine E_maxflow_dinic_fill ?_
  unfold B_maxflow_dinic_fill
  let I : Unit → H → Nat → Prop := fun _ q k => ∃ own' room' x1 x2, Fm [2, 5, 6, 7] own h own' q ∧ Net own' q bn n m fr to s t room' ∧ B1 own' q 5 bd [.pointer (some (bk bn)), x1, x2] ∧ FlS n m fr to cap s t room' ∧
    (k : Int) = 4294967296 - OutF m fr to (onR room') s
  have bdk : ∀ {room' : Nat → Int}, FlS n m fr to cap s t room' → ∃ k : Nat, (k : Int) = 4294967296 - OutF m fr to (onR room') s := by
    intro room' F
    have := out_bd (fr := fr) (to := to) (onR_bd F.rm hc) m1 s
    exact ⟨(4294967296 - OutF m fr to (onR room') s).toNat, by omega⟩
  obtain ⟨k0, hk0⟩ := bdk F0
  refine ⟨fun p q => ∃ k, I p q k, rk I, rk_wf I, ⟨k0, own, room, x1, x2, Fm.refl, N, B, F0, hk0⟩, ?_⟩
  clear F0 N B hk0
  intro q hI
  obtain ⟨own1_, room1, x1, x2, F, N, B, F0, hkm⟩ := mu_spec hI
  generalize hkk : mu I ((), q) = km at *
  obtain ⟨vto, vroom, vout, outs, k4, k1, k2, k3, ka⟩ := N.ex
  refine ptrP_mk (ptrP_mk ⟨_, B.ld rfl, _, B.ld rfl, ptrP_mk ⟨_, k4.ld rfl, ?_⟩⟩)
  refine (levels_T N hn n1 m1 hs).mono ?_
  rintro _ q2 ⟨x2_, bl, lev, rfl, hbl, Sl6, L⟩
  refine rt_ret ?_
  have k6 := S1.of (i := 6) Sl6 own1_
  have F2 : Fm [] own1_ q (own1 own1_ bl 6) q2 := Fm.new x2_ hbl
  have F := F.trans (F2.mono (by simp))
  have B := B.fm F2 (by simp <;> omega)
  have N := N.new (i := 6) x2_ hbl
  generalize own1 own1_ bl 6 = own2 at *
  clear F2 k4 k1 k2 k3 ka hbl x2_
  refine ptrP_mk (oneP_mk ?_)
  refine B.st (by simp) ?_
  intro q3 F2 B
  simp only [List.set] at B
  have N := N.fm F2 (by simp <;> omega)
  have k6 := k6.fm F2 (by simp <;> omega)
  have F := F.trans (F2.mono (by simp))
  clear F2
  obtain ⟨vto, vroom, vout, outs, k4, k1, k2, k3, ka⟩ := N.ex
  refine ptrP_mk (ptrP_mk ⟨_, B.ld rfl, _, B.ld rfl, ptrP_mk ⟨_, k4.ld rfl, ?_⟩⟩)
  refine k6.rdI ht ?_
  refine ifP_of (fun h1 => ?_) (fun h1 => ?_)
  · have h1 := of_decide_eq_true h1
    refine ⟨own2, room1, rfl, F, N, F0, fun r => ?_⟩
    have := (L.iff hn ht).2 r
    omega
  · have h1 := of_decide_eq_false h1
    refine ptrP_mk ⟨_, B.ld rfl, ptrP_mk ⟨_, k4.ld rfl, k3.len (va_length _ _) fun _ _ => ?_⟩⟩
    refine mk_ints 7 (by omega) (by omega) ?_
    intro b29 q4 hb29 x4 S7
    have k7 := S7 own2
    have F := F.trans (Fm.new (i := 7) x4 hb29)
    have B := B.nw (j := 7) x4 hb29
    have k6 := k6.nw (j := 7) x4 hb29
    have N := N.new (i := 7) x4 hb29
    generalize own1 own2 b29 7 = own3 at *
    refine ptrP_mk ?_
    rw [Int.toNat_natCast]
    refine B.st (by simp) ?_
    intro q5 F2 B
    simp only [List.set] at B
    have N := N.fm F2 (by simp <;> omega)
    have k6 := k6.fm F2 (by simp <;> omega)
    have k7 := k7.fm F2 (by simp <;> omega)
    have F := F.trans (F2.mono (by simp))
    clear F2 k4 k1 k2 k3 ka
    obtain ⟨vto, vroom, vout, outs, k4, k1, k2, k3, ka⟩ := N.ex
    refine ptrP_mk ⟨_, B.ld rfl, ptrP_mk ⟨_, k4.ld rfl, ?_⟩⟩
    have D : Dn own3 q5 bd bn n m fr to s t room1 lev fun _ => 0 := ⟨N, _, _, B, k6, k7⟩
    refine (along_T hc hn m1 (fun u hu => L.bd u hu) n1 (n - lev s).toNat own3 q5 room1 _ s 4611686018427387904 hs (by have := L.bd s hs; omega) D F0.rm (fun u hu => ⟨Int.le_refl _, by omega⟩) (by omega) (Int.le_refl _)).mono ?_
    rintro _ q6 ⟨x, room2, nxt2, rfl, F6, D6, A, hx0, hx1, hx2⟩
    refine ⟨x, rfl, ?_⟩
    have F := F.trans (F6.mono (by simp))
    obtain ⟨vl, vn, B, _, _⟩ := D6.ex
    have F2 : FlS n m fr to cap s t room2 := ⟨A.rm, fun v hv h1 h2 => by
      rw [A.out, F0.cons v hv h1 h2, if_neg (fun h => h1 h.symm), if_neg (fun h => h2 h.symm)]; rfl⟩
    have hpos : x ≠ 0 := by
      intro e
      obtain ⟨e1, d⟩ := A.z e
      exact dead_no L hn ht (by omega) (d (fun u _ a ha => by simp at ha)) (hx2 e (by omega))
    have ev := A.out s
    rw [if_pos rfl, if_neg (fun h => hst h.symm)] at ev
    obtain ⟨k2, hk2⟩ := bdk F2
    exact mu_next (I := I) (k := k2) ⟨own3, room2, _, _, F, D6.net, B, F2, hk2⟩ (by rw [hkk]; omega)
end

end Go.Proofs.YtjlojokockfapaaGreatDoor

namespace Go.Proofs.YtjlojokockfapaaGreatDoor
open Go
set_option linter.unusedVariables false
set_option linter.unusedSimpArgs false

/-- The slice v holds vs, somewhere in a block of the i-th owner. -/
def Sq (own : Own) (h : H) (i : Nat) (v : Value) (vs : List Value) : Prop :=
  (vs = [] ∧ v = .slice none 0 0) ∨ ∃ b pre zs post c e, own b = i ∧ v = .slice (some ⟨b, pre.length, none⟩) vs.length c ∧ h b = some (.cells ⟨pre ++ (vs ++ (zs ++ post))⟩ e (0, 0)) ∧ vs.length + zs.length = c
section
variable {own own' : Own} {h h' : H} {i : Nat} {v : Value} {vs : List Value}
theorem Sq.nil : Sq own h i (.slice none 0 0) [] := .inl ⟨rfl, rfl⟩
theorem Sq.fm {M : List Nat} (s : Sq own h i v vs) (F : Fm M own h own' h') (hM : i ∉ M) : Sq own' h' i v vs := by
  rcases s with s | ⟨b, pre, zs, post, c, e, hb, h1, h2, h3⟩
  · exact .inl s
  · exact .inr ⟨b, pre, zs, post, c, e, (F.stay b _ h2).2.trans hb, h1, F.keep b _ h2 (by rw [hb]; exact hM), h3⟩
theorem Sq.shape (s : Sq own h i v vs) : ∃ a c, v = .slice a vs.length c := by
  rcases s with ⟨rfl, rfl⟩ | ⟨b, pre, zs, post, c, e, hb, h1, h2, h3⟩
  · exact ⟨_, _, rfl⟩
  · exact ⟨_, _, h1⟩
theorem Sq.len {l : Nat} {K : Option Addr → Nat → Nat → Prop} (s : Sq own h i v vs) (hl : vs.length = l) (k : ∀ a c, K a l c) : slcP v K := by
  obtain ⟨a, c, rfl⟩ := s.shape
  rw [hl]; exact k _ _
theorem Sq.at {j : Nat} {x : Value} {K : Addr → Prop} (s : Sq own h i v vs) (hj : vs[j]? = some x) (k : ∀ a : Addr, hcell h a = some x → K a) : ixS v (j : Int) 1 K := by
  have hl := (List.getElem?_eq_some_iff.1 hj).1
  rcases s with ⟨rfl, rfl⟩ | ⟨b, pre, zs, post, c, e, hb, rfl, h2, h3⟩
  · simp at hl
  · refine ⟨by omega, by omega, k _ ?_⟩
    rw [Int.toNat_natCast, bk_add2, hcell_at h2, List.getElem?_toArray, Nat.mul_one, List.getElem?_append_right (by omega),
      show pre.length + j - pre.length = j by omega, List.getElem?_append_left hl]
    exact hj
theorem Sq.rd {j : Nat} {x : Int} {K : Int → Prop} (s : Sq own h i v vs) (hj : vs[j]? = some (.int .i64 x)) (k : K x) : ixS v (j : Int) 1 fun a => ldI h a .i64 K :=
  s.at hj fun a e => ⟨x, e, k⟩
/-- The first one gone: v[1:]. -/
theorem Sq.tl {x : Value} {xs : List Value} {K : Option Addr → Nat → Nat → Prop} (s : Sq own h i v (x :: xs))
    (k : ∀ (a : Option Addr) (l c : Nat), (l : Int) = xs.length + 1 → 1 ≤ (l : Int) → (l : Int) ≤ (c : Int) → Sq own h i (sliceV a c 1 (l : Int) 1) xs → K a l c) : slcP v K := by
  rcases s with ⟨h1, _⟩ | ⟨b, pre, zs, post, c, e, hb, rfl, h2, h3⟩
  · cases h1
  · refine k _ _ _ (by simp) (by simp; omega) (by simp at h3 ⊢; omega) ?_
    unfold sliceV
    simp only [List.length_cons] at h3 ⊢
    have e1 : ((1 : Int)).toNat = 1 := rfl
    have e2 : (((xs.length + 1 : Nat) : Int)).toNat = xs.length + 1 := Int.toNat_natCast _
    rw [e1, e2]
    by_cases hc : c = 1
    · subst hc
      have : xs = [] := List.length_eq_zero_iff.1 (by omega)
      subst this
      rw [if_pos rfl]
      exact .inr ⟨b, pre, [], x :: (zs ++ post), 0, e, hb, rfl, by simpa using h2, rfl⟩
    · rw [if_neg hc]
      refine .inr ⟨b, pre ++ [x], zs, post, c - 1, e, hb, ?_, by simpa using h2, by omega⟩
      simp [Addr.add]
/-- One more at the end. -/
theorem Sq.push {x z : Value} {ex : Nat} {K : Nat → H → Value → H → Prop} {e bytes : Nat} (s : Sq own h i v vs)
    (one : x.oneCell' = true) (hb : bytes ≤ 8) (hl : vs.length < 1000000)
    (k : ∀ bx hm p' own' h', h bx = none → Ext h hm → Fm [i] own h own' h' → Sq own' h' i p' (vs ++ [x]) → K bx hm p' h') :
    newP h (.cells ⟨[x]⟩ ex (0, 0)) fun bx hm => apP v (.slice (some (bk bx)) 1 1) hm 1 e bytes [z] (K bx hm) := by
  refine new_put ?_
  intro bx hm hbx xm hx
  have hsrc : srcP hm (some (bk bx)) (1 * 1) [x] := by
    refine ⟨rfl, fun j v hj => ?_⟩
    rw [bk_add, hcell_at hx, List.getElem?_toArray]
    exact hj
  have hzl : ∀ m, (zrep [z] m).length = m := by intro m; simp [zrep]
  rcases s with ⟨rfl, rfl⟩ | ⟨b, pre, zs, post, c, eb, hob, rfl, h2, h3⟩
  · refine ⟨[x], hsrc, fun hle => by omega, fun hlt => ⟨?_, [], ⟨rfl, rfl⟩, fun cap hcap => ?_⟩⟩
    · have := nextcap_le hlt
      calc _ ≤ (2 * (0 + 1) + 192) * bytes := Nat.mul_le_mul_right _ this
        _ ≤ (2 * (0 + 1) + 192) * 8 := Nat.mul_le_mul_left _ hb
        _ ≤ _ := by omega
    · refine new_put ?_
      intro b g hbn x1 e1
      rw [Nat.zero_add] at e1 hcap ⊢
      refine k bx hm _ (own1 own b i) g hbx xm (Fm.new (xm.trans' x1) (xm.new hbn)) (.inr ⟨b, [], zrep [z] (cap - 1), [], cap, e, own1_at, rfl, by rw [e1]; simp, ?_⟩)
      rw [hzl]; simp; omega
  · have h2m := xm _ _ h2
    refine ⟨[x], hsrc, fun hle => ⟨fun _ => ?_, by simpa using one, ?_⟩, fun hlt => ⟨?_, vs, ⟨by rw [Nat.mul_one], ?_⟩, fun cap hcap => ?_⟩⟩
    · rw [bk_add2]
      refine ⟨_, _, h2m, rfl, ?_⟩
      simp only [List.size_toArray, List.length_append, List.length_singleton]
      omega
    · rw [bk_add2]
      cases zs with
      | nil => simp at h3; omega
      | cons z0 zs =>
        have e2 : hset hm ⟨b, pre.length + vs.length * 1, none⟩ [x] b = some (.cells ⟨pre ++ ((vs ++ [x]) ++ (zs ++ post))⟩ eb (0, 0)) := by
          unfold hset
          rw [if_pos rfl, h2m]
          simp only [Option.map_some, setR, Nat.mul_one]
          rw [List.setIfInBounds_toArray]
          congr 3
          rw [List.set_append_right _ _ (by omega), show pre.length + vs.length - pre.length = vs.length by omega, List.set_append_right _ _ (by omega), Nat.sub_self]
          simp
        refine k bx hm _ own _ hbx xm ((Fm.of_ext xm).trans (Fm.kp (b := b) ?_ hob ⟨_, e2⟩)) (.inr ⟨b, pre, zs, post, c, eb, hob, by simp, e2, by simp at h3 ⊢; omega⟩)
        intro j o hj hh
        unfold hset
        rw [if_neg hj]; exact hh
    · have := nextcap_le hlt
      calc _ ≤ (2 * (vs.length + 1) + 192) * bytes := Nat.mul_le_mul_right _ this
        _ ≤ (2 * (vs.length + 1) + 192) * 8 := Nat.mul_le_mul_left _ hb
        _ ≤ _ := by omega
    · intro j v hj
      rw [bk_add2, hcell_at h2m, List.getElem?_toArray, List.getElem?_append_right (by omega), show pre.length + j - pre.length = j by omega]
      have := (List.getElem?_eq_some_iff.1 hj).1
      rw [List.getElem?_append_left this]
      exact hj
    · refine new_put ?_
      intro b' g hbn x1 e1
      refine k bx hm _ (own1 own b' i) g hbx xm (Fm.new (xm.trans' x1) (xm.new hbn)) (.inr ⟨b', [], zrep [z] (cap - (vs.length + 1)), [], cap, e, own1_at, by simp, by rw [e1]; simp, ?_⟩)
      rw [hzl]; simp; omega
end

/-- Four numbers, the first counts most. -/
abbrev N4 := Nat × Nat × Nat × Nat
def r4 (a b : N4) : Prop := a.1 < b.1 ∨ a.1 = b.1 ∧ (a.2.1 < b.2.1 ∨ a.2.1 = b.2.1 ∧ (a.2.2.1 < b.2.2.1 ∨ a.2.2.1 = b.2.2.1 ∧ a.2.2.2 < b.2.2.2))
end Go.Proofs.YtjlojokockfapaaGreatDoor

namespace Go.Proofs.YtjlojokockfapaaGreatDoor
open Go
set_option linter.unusedVariables false
set_option linter.unusedSimpArgs false

theorem B1.uniq {own : Own} {h : H} {i j b : Nat} {vs ws : List Value} (a : B1 own h i b vs) (c : B1 own h j b ws) : vs = ws := by
  obtain ⟨_, e, k⟩ := a
  obtain ⟨_, e', k'⟩ := c
  rw [k] at k'
  simp only [Option.some.injEq, Obj.cells.injEq, Array.mk.injEq] at k'
  exact k'.1
end Go.Proofs.YtjlojokockfapaaGreatDoor

namespace Go.Proofs.YtjlojokockfapaaGreatDoor
open Go
set_option linter.unusedVariables false
set_option linter.unusedSimpArgs false

theorem upd_at {f : Nat → Int} {i : Nat} {x : Int} : upd f i x i = x := if_pos rfl
theorem upd_ne {f : Nat → Int} {i j : Nat} {x : Int} (h : j ≠ i) : upd f i x j = f j := if_neg h

end Go.Proofs.YtjlojokockfapaaGreatDoor

namespace Go.Proofs.YtjlojokockfapaaGreatDoor
open Go
set_option linter.unusedVariables false
set_option linter.unusedSimpArgs false

theorem meth57 (a : Addr) (w : World) : (method (Tryz.prog.types.size + Made.depth) 83 (.pointer (some a)) "compass/maxflow.fill").run Tryz.prog w = .ok (F.maxflow_dinic_fill, .pointer (some a)) w := by
  kernel_rfl
/-- A flow as Go holds it. -/
abbrev flV (s t : Int) (on side : Value) : List Value := [.int .i64 s, .int .i64 t, on, side]
abbrev flZ : List Value := flV 0 0 (.slice none 0 0) (.slice none 0 0)
abbrev slV (b n : Nat) : Value := .slice (some (bk b)) n n
/-- What Solve answers where nothing is wrong. -/
structure SolR (h h' : H) (n m : Nat) (es : Nat → Ed) (s t : Nat) (b1 b2 : Nat) (f : Nat → Int) (side : Nat → Bool) : Prop where
  n1 : h b1 = none
  n2 : h b2 = none
  ne : b1 ≠ b2
  s1 : Sl h' b1 (slV b1 m) (ints m f)
  s2 : Sl h' b2 (slV b2 n) (bools n side)
  mx : MaxP n m (frE es) (toE es) (cpE es) s t f
  sd : ∀ v, v < n → (side v = true ↔ Rch (RsS m (frE es) (toE es) (cpE es) f) s v)
def SolA (h : H) (n : Int) (m : Nat) (es : Nat → Ed) (s t k : Int) (r : Res) (h' : H) : Prop :=
  Ext h h' ∧ ((wrong13 n m es s t k ≠ 0 ∧ r = .ret (.tuple ⟨[.agg ⟨flZ⟩, .int .i64 0, .int .i64 (wrong13 n m es s t k)]⟩)) ∨
    (wrong13 n m es s t k = 0 ∧ ∃ (n' s' t' b1 b2 : Nat) (f : Nat → Int) (side : Nat → Bool), n = n' ∧ s = s' ∧ t = t' ∧ s' < n' ∧ t' < n' ∧ s' ≠ t' ∧ Gd n' m es ∧
      r = .ret (.tuple ⟨[.agg ⟨flV s t (slV b1 m) (slV b2 n')⟩, .int .i64 (OutF m (frE es) (toE es) f s'), .int .i64 0]⟩) ∧ SolR h h' n' m es s' t' b1 b2 f side))

end Go.Proofs.YtjlojokockfapaaGreatDoor

namespace Go.Proofs.YtjlojokockfapaaGreatDoor
open Go
set_option linter.unusedVariables false
set_option linter.unusedSimpArgs false

/-- The slice v shows vs. -/
def RS (h : H) (v : Value) (vs : List Value) : Prop := ∃ a c, v = .slice a vs.length c ∧ ∀ j x, vs[j]? = some x → ∃ ad, a = some ad ∧ hcell h (ad.add (j * 1)) = some x
section
variable {h h' : H} {v : Value} {vs : List Value}
theorem RS.ext (s : RS h v vs) (x : Ext h h') : RS h' v vs := by
  obtain ⟨a, c, e, k⟩ := s
  refine ⟨a, c, e, fun j y hj => ?_⟩
  obtain ⟨ad, e2, hc⟩ := k j y hj
  exact ⟨ad, e2, x.cell hc⟩
theorem RS.of_sl {b : Nat} (s : Sl h b v vs) : RS h v vs := by
  have g := fun j x (hj : vs[j]? = some x) => s.get hj
  obtain ⟨c, e, zs, h1, h2, h3⟩ := s
  exact ⟨_, c, h1, fun j x hj => ⟨_, rfl, g j x hj⟩⟩
theorem RS.of_S1 {own : Own} {i : Nat} (s : S1 own h i v vs) : RS h v vs := by
  rcases s with ⟨rfl, rfl⟩ | ⟨b, hb, s⟩
  · exact ⟨none, 0, rfl, fun j x hj => by simp at hj⟩
  · exact RS.of_sl s
theorem RS.len {l : Nat} {K : Option Addr → Nat → Nat → Prop} (s : RS h v vs) (hl : vs.length = l) (k : ∀ a c, K a l c) : slcP v K := by
  obtain ⟨a, c, rfl, _⟩ := s
  rw [hl]; exact k _ _
theorem RS.at {j : Nat} {x : Value} {K : Addr → Prop} (s : RS h v vs) (hj : vs[j]? = some x) (k : ∀ a : Addr, hcell h a = some x → K a) : ixS v (j : Int) 1 K := by
  obtain ⟨a, c, rfl, g⟩ := s
  obtain ⟨ad, rfl, hc⟩ := g j x hj
  have hl := (List.getElem?_eq_some_iff.1 hj).1
  refine ⟨by omega, by omega, ?_⟩
  rw [Int.toNat_natCast]
  exact k _ hc
theorem RS.rd {j : Nat} {x : Int} {K : Int → Prop} (s : RS h v vs) (hj : vs[j]? = some (.int .i64 x)) (k : K x) : ixS v (j : Int) 1 fun a => ldI h a .i64 K := s.at hj fun a e => ⟨x, e, k⟩
theorem RS.rdI {j n : Nat} {f : Nat → Int} {K : Int → Prop} (s : RS h v (ints n f)) (hj : j < n) (k : K (f j)) : ixS v (j : Int) 1 fun a => ldI h a .i64 K := s.rd (ints_get hj) k
theorem RS.src (s : RS h v vs) : ∃ a c, v = .slice a vs.length c ∧ srcP h a (vs.length * 1) vs := by
  obtain ⟨a, c, rfl, g⟩ := s
  refine ⟨a, c, rfl, by rw [Nat.mul_one], ?_⟩
  cases a with
  | none =>
    cases vs with
    | nil => rfl
    | cons x xs =>
      obtain ⟨ad, e, _⟩ := g 0 x rfl
      cases e
  | some ad =>
    intro j x hj
    obtain ⟨ad', e, hc⟩ := g j x hj
    cases e
    rwa [Nat.mul_one] at hc
end

/-- The edges in a slice. -/
def Gs (h : H) (v : Value) (m : Nat) (es : Nat → Ed) : Prop := ∃ a c, v = .slice a m c ∧ ∀ i, i < m → ∃ ad, a = some ad ∧ hcells h (ad.add (i * 4)) (es i).vs
section
variable {h h' : H} {v : Value} {w : List Value} {n : Int} {m : Nat} {es : Nat → Ed}
theorem GrA.gs (G : GrA h w n m es) : ∃ v, w = [.int .i64 n, v] ∧ Gs h v m es := by
  obtain ⟨a, c, e, k⟩ := G
  exact ⟨_, e, a, c, rfl, k⟩
theorem Gs.gr (s : Gs h v m es) (n : Int) : GrA h [.int .i64 n, v] n m es := by
  obtain ⟨a, c, rfl, k⟩ := s
  exact ⟨a, c, rfl, k⟩
theorem Gs.ext (s : Gs h v m es) (x : Ext h h') : Gs h' v m es := by
  obtain ⟨a, c, e, k⟩ := s
  refine ⟨a, c, e, fun i hi => ?_⟩
  obtain ⟨ad, e2, hc⟩ := k i hi
  exact ⟨ad, e2, fun j v hj => x.cell (hc j v hj)⟩
theorem Gs.len {K : Option Addr → Nat → Nat → Prop} (s : Gs h v m es) (k : ∀ a c, K a m c) : slcP v K := by
  obtain ⟨a, c, rfl, _⟩ := s
  exact k _ _
theorem Gs.at {i : Nat} {K : Addr → Prop} (s : Gs h v m es) (hi : i < m) (k : ∀ a : Addr, hcells h a (es i).vs → K a) : ixS v (i : Int) 4 K := by
  obtain ⟨a, c, rfl, g⟩ := s
  obtain ⟨ad, rfl, hc⟩ := g i hi
  refine ⟨by omega, by omega, ?_⟩
  rw [Int.toNat_natCast]
  exact k _ hc
theorem Gs.e4 {i : Nat} {K : List Value → Prop} (s : Gs h v m es) (hi : i < m) (k : K (es i).vs) : ixS v (i : Int) 4 fun a => ldN h a 4 K := s.at hi fun a hc => ⟨_, rfl, hc, k⟩
end

def edF (es : Nat → Ed) (i j : Nat) : Int := match j with
  | 0 => (es i).f
  | 1 => (es i).t
  | 2 => (es i).c
  | _ => (es i).k
theorem edF_vs (es : Nat → Ed) (i : Nat) : ints 4 (edF es i) = (es i).vs := rfl
theorem ints_add {a b : Nat} {f : Nat → Int} : ints (a + b) f = ints a f ++ ints b fun i => f (a + i) := by
  unfold ints
  rw [List.range_add, List.map_append, List.map_map]
  rfl
theorem recs_snoc {m k : Nat} {st : Nat → Nat → Int} : recs (m + 1) k st = recs m k st ++ ints k (st m) := by
  unfold recs
  rw [Nat.add_mul, Nat.one_mul, ints_add]
  congr 1
  refine ints_ext fun i hi => ?_
  rw [at_div hi, at_mod hi]
theorem recs_ext {m k : Nat} {st st' : Nat → Nat → Int} (h : ∀ i, i < m → ∀ j, st i j = st' i j) : recs m k st = recs m k st' := by
  unfold recs
  refine ints_ext fun i hi => ?_
  rcases Nat.eq_zero_or_pos k with e | e
  · subst e; omega
  · exact h _ (Nat.div_lt_of_lt_mul (by rw [Nat.mul_comm]; exact hi)) _
/-- The slice v holds the first m edges of es; its block is the i-th owner's. -/
def S4 (own : Own) (h : H) (i : Nat) (v : Value) (m : Nat) (es : Nat → Ed) : Prop :=
  (m = 0 ∧ v = .slice none 0 0) ∨ ∃ b c e zs, own b = i ∧ v = .slice (some (bk b)) m c ∧ h b = some (.cells ⟨recs m 4 (edF es) ++ zs⟩ e (0, 0)) ∧ m * 4 + zs.length = c * 4
section
variable {own own' : Own} {h h' : H} {i m : Nat} {v : Value} {es : Nat → Ed}
theorem S4.nil : S4 own h i (.slice none 0 0) 0 es := .inl ⟨rfl, rfl⟩
theorem S4.fm {M : List Nat} (s : S4 own h i v m es) (F : Fm M own h own' h') (hM : i ∉ M) : S4 own' h' i v m es := by
  rcases s with s | ⟨b, c, e, zs, hb, h1, h2, h3⟩
  · exact .inl s
  · exact .inr ⟨b, c, e, zs, (F.stay b _ h2).2.trans hb, h1, F.keep b _ h2 (by rw [hb]; exact hM), h3⟩
theorem S4.nw {b j : Nat} (s : S4 own h i v m es) (x : Ext h h') (hb : h b = none) : S4 (own1 own b j) h' i v m es := s.fm (M := []) (Fm.new x hb) (by simp)
theorem S4.isS (s : S4 own h i v m es) : ∃ a l c, v = .slice a l c := by
  rcases s with ⟨_, rfl⟩ | ⟨b, c, e, zs, hb, rfl, _⟩ <;> exact ⟨_, _, _, rfl⟩
theorem S4.congr {es' : Nat → Ed} (s : S4 own h i v m es) (he : ∀ j, j < m → es' j = es j) : S4 own h i v m es' := by
  rcases s with s | ⟨b, c, e, zs, hb, h1, h2, h3⟩
  · exact .inl s
  · refine .inr ⟨b, c, e, zs, hb, h1, ?_, h3⟩
    rw [recs_ext (st := edF es') (st' := edF es) fun j hj k => by unfold edF; rw [he j hj]]
    exact h2
theorem S4.gs (s : S4 own h i v m es) : Gs h v m es := by
  rcases s with ⟨rfl, rfl⟩ | ⟨b, c, e, zs, hb, rfl, h2, h3⟩
  · exact ⟨none, 0, rfl, fun i hi => by omega⟩
  · refine ⟨_, c, rfl, fun j hj => ⟨_, rfl, fun l x hl => ?_⟩⟩
    have hl4 : l < 4 := by have := (List.getElem?_eq_some_iff.1 hl).1; simpa using this
    rw [bk_add, bk_add2, hcell_at h2, List.getElem?_toArray, List.getElem?_append_left (by rw [recs_length]; exact at_lt hj hl4), recs_get hj hl4]
    rw [← edF_vs, ints_get hl4] at hl
    exact hl
theorem nextcap1_le {sc : Nat} : Builtin.nextslicecap (sc + 1) sc ≤ sc + sc / 4 + 600 := by
  unfold Builtin.nextslicecap
  split
  · omega
  · split
    · omega
    · simp only [Builtin.growBy]
      repeat' split
      all_goals omega
theorem S4.push {ed : Ed} {ex : Nat} {K : Nat → H → Value → H → Prop} {e : Nat} {z0 z1 z2 z3 : Value} (s : S4 own h i v m es) (hm : m ≤ 4398046511104)
    (k : ∀ bx hm p' own' h', h bx = none → Ext h hm → Fm [i] own h own' h' → S4 own' h' i p' (m + 1) (fun j => if j = m then ed else es j) → K bx hm p' h') :
    newP h (.cells ⟨ed.vs⟩ ex (0, 0)) fun bx hm => apP v (.slice (some (bk bx)) 1 1) hm 4 e 32 [z0, z1, z2, z3] (K bx hm) := by
  refine new_put ?_
  intro bx hm' hbx xm hx
  have hsrc : srcP hm' (some (bk bx)) (1 * 4) ed.vs := by
    refine ⟨rfl, fun j v hj => ?_⟩
    rw [bk_add, hcell_at hx, List.getElem?_toArray]
    exact hj
  have hzl : ∀ q, (zrep [z0, z1, z2, z3] q).length = q * 4 := by
    intro q
    unfold zrep
    rw [List.length_flatten]
    simp
  have hvs : recs (m + 1) 4 (edF fun j => if j = m then ed else es j) = recs m 4 (edF es) ++ ed.vs := by
    rw [recs_snoc]
    congr 1
    · refine recs_ext fun j hj l => ?_
      have e : (fun j => if j = m then ed else es j) j = es j := if_neg (by omega)
      unfold edF; rw [e]
    · rw [edF_vs, if_pos rfl]
  rcases s with ⟨rfl, rfl⟩ | ⟨b, c, eb, zs, hob, rfl, h2, h3⟩
  · refine ⟨ed.vs, hsrc, fun hle => by omega, fun hlt => ⟨?_, [], ⟨rfl, rfl⟩, fun cap hcap => ?_⟩⟩
    · have := nextcap_le hlt
      calc _ ≤ (2 * (0 + 1) + 192) * 32 := Nat.mul_le_mul_right _ this
        _ ≤ _ := by omega
    · refine new_put ?_
      intro b g hbn x1 e1
      rw [Nat.zero_add] at e1 hcap ⊢
      refine k bx hm' _ (own1 own b i) g hbx xm (Fm.new (xm.trans' x1) (xm.new hbn)) (.inr ⟨b, cap, e, zrep [z0, z1, z2, z3] (cap - 1), own1_at, rfl, by rw [e1, hvs]; rfl, ?_⟩)
      rw [hzl]; omega
  · have h2m := xm _ _ h2
    have hlen : (recs m 4 (edF es)).length = m * 4 := recs_length _ _ _
    refine ⟨ed.vs, hsrc, fun hle => ⟨fun _ => ?_, ed_one ed, ?_⟩, fun hlt => ⟨?_, recs m 4 (edF es), ⟨hlen, ?_⟩, fun cap hcap => ?_⟩⟩
    · rw [bk_add]
      refine ⟨_, _, h2m, rfl, ?_⟩
      simp only [List.size_toArray, List.length_append, hlen, List.length_cons, List.length_nil]
      omega
    · rw [bk_add]
      have e2 : hset hm' ⟨b, m * 4, none⟩ ed.vs b = some (.cells ⟨recs (m + 1) 4 (edF fun j => if j = m then ed else es j) ++ zs.drop 4⟩ eb (0, 0)) := by
        unfold hset
        rw [if_pos rfl, h2m]
        simp only [Option.map_some]
        rw [setR_list _ _ _ (by simp only [List.length_append, hlen, List.length_cons, List.length_nil]; omega), hvs]
        congr 3
        rw [List.take_append_of_le_length (by omega), List.take_of_length_le (by omega), List.drop_append, List.drop_of_length_le (by simp only [List.length_cons, List.length_nil]; omega)]
        simp [hlen]
      refine k bx hm' _ own _ hbx xm ((Fm.of_ext xm).trans (Fm.kp (b := b) ?_ hob ⟨_, e2⟩)) (.inr ⟨b, c, eb, zs.drop 4, hob, rfl, e2, by rw [List.length_drop]; omega⟩)
      intro j o hj hh
      unfold hset
      rw [if_neg hj]; exact hh
    · have hcm : c = m := by omega
      subst hcm
      calc _ ≤ (c + c / 4 + 600) * 32 := Nat.mul_le_mul_right _ nextcap1_le
        _ ≤ _ := by omega
    · intro j x hj
      rw [bk_add, hcell_at h2m, List.getElem?_toArray]
      have := (List.getElem?_eq_some_iff.1 hj).1
      rw [List.getElem?_append_left this]
      exact hj
    · refine new_put ?_
      intro b' g hbn x1 e1
      refine k bx hm' _ (own1 own b' i) g hbx xm (Fm.new (xm.trans' x1) (xm.new hbn)) (.inr ⟨b', cap, e, zrep [z0, z1, z2, z3] (cap - (m + 1)), own1_at, rfl, by rw [e1, hvs], ?_⟩)
      rw [hzl]; omega
end

end Go.Proofs.YtjlojokockfapaaGreatDoor

namespace Go.Proofs.YtjlojokockfapaaGreatDoor
open Go
set_option linter.unusedVariables false
set_option linter.unusedSimpArgs false

/-- append(p, q...): q is only read. -/
theorem S1.catR {own : Own} {h : H} {i : Nat} {p q z : Value} {vs ws : List Value} {K : Value → H → Prop} {e bytes : Nat} (s : S1 own h i p vs) (s2 : RS h q ws)
    (one : ∀ v ∈ ws, v.oneCell' = true) (hb : bytes ≤ 8) (hl : vs.length + ws.length < 1000000)
    (k : ∀ p' own' h', Fm [i] own h own' h' → S1 own' h' i p' (vs ++ ws) → K p' h') :
    apP p q h 1 e bytes [z] K := by
  have hzl : ∀ m, (zrep [z] m).length = m := by intro m; simp [zrep]
  obtain ⟨qa, qc, rfl, hsrc⟩ := s2.src
  rcases s with ⟨rfl, rfl⟩ | ⟨b, hob, c, eb, zs, rfl, h2, h3⟩
  · refine ⟨ws, hsrc, fun hle => ?_, fun hlt => ⟨?_, [], ⟨rfl, rfl⟩, fun cap hcap => ?_⟩⟩
    · have : ws = [] := List.length_eq_zero_iff.1 (by omega)
      subst this
      exact ⟨rfl, k _ own h Fm.refl (.inl ⟨rfl, rfl⟩)⟩
    · have := nextcap_le hlt
      calc _ ≤ (2 * (0 + ws.length) + 192) * bytes := Nat.mul_le_mul_right _ this
        _ ≤ (2 * (0 + ws.length) + 192) * 8 := Nat.mul_le_mul_left _ hb
        _ ≤ _ := by simp at hl; omega
    · refine new_put ?_
      intro b g hbn x e1
      rw [Nat.zero_add] at e1 hcap ⊢
      refine k _ (own1 own b i) g (Fm.new x hbn) (.inr ⟨b, own1_at, cap, e, zrep [z] (cap - ws.length), rfl, by rw [e1], ?_⟩)
      rw [hzl]; simp; omega
  · refine ⟨ws, hsrc, fun hle => ⟨fun _ => ?_, one, ?_⟩, fun hlt => ⟨?_, vs, ⟨by rw [Nat.mul_one], ?_⟩, fun cap hcap => ?_⟩⟩
    · rw [bk_add]
      refine ⟨_, _, h2, rfl, ?_⟩
      simp only [List.size_toArray, List.length_append]
      omega
    · rw [bk_add]
      have e2 : hset h ⟨b, vs.length * 1, none⟩ ws b = some (.cells ⟨vs ++ ws ++ zs.drop ws.length⟩ eb (0, 0)) := by
        unfold hset
        rw [if_pos rfl, h2]
        simp only [Option.map_some, Nat.mul_one]
        rw [setR_list _ _ _ (by simp; omega)]
        simp [List.take_append, List.drop_append]
      refine k _ own _ (Fm.kp (b := b) ?_ hob ⟨_, e2⟩) (.inr ⟨b, hob, c, eb, zs.drop ws.length, by simp, e2, by simp; omega⟩)
      intro j o hj hh
      unfold hset
      rw [if_neg hj]; exact hh
    · have := nextcap_le hlt
      calc _ ≤ (2 * (vs.length + ws.length) + 192) * bytes := Nat.mul_le_mul_right _ this
        _ ≤ (2 * (vs.length + ws.length) + 192) * 8 := Nat.mul_le_mul_left _ hb
        _ ≤ _ := by omega
    · intro j v hj
      rw [bk_add, hcell_at h2, List.getElem?_toArray]
      have := (List.getElem?_eq_some_iff.1 hj).1
      rw [List.getElem?_append_left this]
      exact hj
    · refine new_put ?_
      intro b' g hbn x e1
      refine k _ (own1 own b' i) g (Fm.new x hbn) (.inr ⟨b', own1_at, cap, e, zrep [z] (cap - (vs.length + ws.length)), by simp, by rw [e1], ?_⟩)
      rw [hzl]; simp; omega

end Go.Proofs.YtjlojokockfapaaGreatDoor

namespace Go.Proofs.YtjlojokockfapaaGreatDoor
open Go
set_option linter.unusedVariables false
set_option linter.unusedSimpArgs false

section
variable {h : H} {w : List Value} {n : Int} {m : Nat} {es : Nat → Ed}

theorem Copy_R (G : GrA h w n m es) (hm : m ≤ 4398046511104) : T Tryz.prog F.compassref03_Copy [.agg ⟨w⟩] h fun r h' => ∃ v own, r = .ret (.agg ⟨[.int .i64 n, v]⟩) ∧ Bs h own h' ∧ S4 own h' 1 v m es := by
  refine E_compassref03_Copy ?_
  unfold B_compassref03_Copy
  obtain ⟨gv, rfl, Gv⟩ := G.gs
  refine new_bl ?_
  intro b1 q1 hb1 x1 B
  have bs : Bs h (own1 (fun _ => 0) b1 9) q1 := Bs.start.new x1 hb1
  have k9 : B1 (own1 (fun _ => 0) b1 9) q1 9 b1 _ := B1.new B
  generalize own1 (fun _ => 0) b1 9 = own at *
  refine new_bl ?_
  intro b3 q3 hb3 x3 B3
  have bs := bs.nw (j := 8) x3 hb3
  have k9 := k9.nw (j := 8) x3 hb3
  have k8 : B1 (own1 own b3 8) q3 8 b3 _ := B1.new B3
  generalize own1 own b3 8 = own at *
  refine ⟨_, k9.ld rfl, ?_⟩
  refine new_bl_st rfl rfl (by simp [Value.oneCell']) ?_
  intro b6 q8 hb6 x8 B6
  have bs := bs.nw (j := 4) x8 hb6
  have k9 := k9.nw (j := 4) x8 hb6
  have k8 := k8.nw (j := 4) x8 hb6
  have k4 : B1 (own1 own b6 4) q8 4 b6 [.int .i64 n, .slice none 0 0] := B1.new B6
  generalize own1 own b6 4 = own at *
  let I : (Int × Unit) → H → Nat → Prop := fun p q k => ∃ (j : Nat) (own : Own) (v : Value), p.1 = j ∧ j ≤ m ∧ k = m - j ∧ Bs h own q ∧ B1 own q 4 b6 [.int .i64 n, v] ∧ S4 own q 1 v j es ∧ B1 own q 9 b1 [.int .i64 n, gv] ∧ B1 own q 8 b3 [.int .i64 0, .slice none 0 0]
  refine ⟨fun p q => ∃ k, I p q k, rk I, rk_wf I, ⟨_, 0, _, _, rfl, by omega, rfl, bs, k4, S4.nil, k9, k8⟩, ?_⟩
  clear bs k4 k9 k8 B B3 B6
  intro p q hI
  obtain ⟨j, own, v, e1, hj, hk, bs, k4, k1, k9, k8⟩ := mu_spec hI
  generalize hkk : mu I ((p, ()), q) = km at *
  change p = (j : Int) at e1
  subst e1
  have hlt : j < m → m - (j + 1) < mu I (((j : Int), ()), q) := fun h => by rw [hkk, hk]; omega
  clear hI
  have Gz := Gv.ext bs.ext
  refine ⟨_, k9.ld rfl, Gz.len fun _ _ => ?_⟩
  refine ifP_of (fun h1 => ?_) (fun h1 => ?_)
  · have hjm : j < m := by have := of_decide_eq_true h1; omega
    refine ⟨_, k4.ld rfl, _, k9.ld rfl, Gz.e4 hjm ⟨rfl, ?_⟩⟩
    refine S4.push (ed := es j) k1 (by omega) ?_
    intro _ _ v2 own2 q24 _ _ F k1
    have bs := bs.fm F (by simp <;> omega)
    have k4 := k4.fm F (by simp <;> omega)
    have k9 := k9.fm F (by simp <;> omega)
    have k8 := k8.fm F (by simp <;> omega)
    refine oneP_slc k1.isS (k4.st (by simp) ?_)
    intro q25 F2 k4
    simp only [List.set] at k4
    have bs := bs.fm F2 (by simp <;> omega)
    have k1 := k1.fm F2 (by simp <;> omega)
    have k9 := k9.fm F2 (by simp <;> omega)
    have k8 := k8.fm F2 (by simp <;> omega)
    rw [i64_inc (by omega)]
    refine mu_next (I := I) (k := m - (j + 1)) ⟨j + 1, own2, v2, rfl, hjm, rfl, bs, k4, S4.congr k1 fun l hl => ?_, k9, k8⟩ (hlt hjm)
    by_cases e : l = j
    · subst e; rw [if_pos rfl]
    · rw [if_neg e]
  · have : j = m := by have := of_decide_eq_false h1; omega
    subst this
    refine k4.ldN rfl (k8.stN rfl rfl (by simp [Value.oneCell']; exact slc_one k1.isS) ?_)
    intro q27 F k8
    have bs := bs.fm F (by simp <;> omega)
    have k1 := k1.fm F (by simp <;> omega)
    exact k8.ldN rfl ⟨v, own, rfl, bs, k1⟩

end

end Go.Proofs.YtjlojokockfapaaGreatDoor

namespace Go.Proofs.YtjlojokockfapaaGreatDoor
open Go
set_option linter.unusedVariables false
set_option linter.unusedSimpArgs false

section
variable {h : H} {w : List Value} {n : Int} {m : Nat} {es : Nat → Ed}
theorem Solve1_T (G : GrA h w n m es) (s t k : Int) (hk1 : k = 1) : T Tryz.prog F.maxflow_Solve [.agg ⟨w⟩, .int .i64 s, .int .i64 t, .int .i64 k] h (SolA h n m es s t k) := by
  refine E_maxflow_Solve ?_
  unfold B_maxflow_Solve
  refine new_bl ?_
  intro b1 g2 hb1 x1 B1_
  refine new_bl ?_
  intro b3 g4 hb3 x3 B3
  have B1_ := B1_.ext x3
  have x13 := x1.trans' x3
  have hb3h := x1.new hb3
  refine B1_.ldN G.one.1 ?_
  refine (Check_T (G.ext x13)).mono ?_
  rintro _ g7 ⟨rfl, x7⟩
  refine rt_ret ⟨_, rfl, rfl, ?_⟩
  have B1_ := B1_.ext x7
  have B3 := B3.ext x7
  refine new_bl_st rfl rfl (by simp [Value.oneCell']) ?_
  intro b9 g11 hb9 x9 B9
  have B1_ := B1_.ext x9
  have B3 := B3.ext x9
  have xh : Ext h g11 := (x13.trans' x7).trans' x9
  have hne : b9 ≠ b3 := by
    rintro rfl
    obtain ⟨e, h1⟩ := B3
    have := x7
    obtain ⟨e2, h2⟩ := B9
    rw [h1] at h2
    simp at h2
  -- an error
  have err : ∀ {q : H} {c : Int}, Ext h q → Bl q b3 flZ → c ≠ 0 → wrong13 n m es s t k = c → stN q (bk b3) flZ 4 fun h14 => ldN h14 (bk b3) 4 fun x15 =>
      SolA h n m es s t k (.ret (.tuple ⟨[.agg ⟨x15⟩, .int .i64 0, .int .i64 c]⟩)) h14 := by
    rintro q c xq Bq hc rfl
    refine Bq.stN rfl rfl (by simp [Value.oneCell']) ?_
    intro q2 kp B2
    exact B2.ldN rfl ⟨xq.of_kp kp hb3h, .inl ⟨hc, rfl⟩⟩
  refine ⟨_, B9.ld rfl, ifP_of (fun h0 => ?_) (fun h0 => ?_)⟩
  · have h0 : (faultG n m es).1 ≠ 0 := by simpa using h0
    refine ⟨_, B9.ld rfl, ?_⟩
    refine B3.stN rfl rfl (by simp [Value.oneCell']) ?_
    intro q2 kp B2
    refine ⟨sameAt_bl B9 (B9.kp kp hne), B2.ldN rfl ⟨xh.of_kp kp hb3h, .inl ⟨?_, ?_⟩⟩⟩
    · unfold wrong13 endsC wrongC
      rw [if_neg h0, if_neg h0, if_neg h0]; exact h0
    · have : wrong13 n m es s t k = (faultG n m es).1 := by
        unfold wrong13 endsC wrongC
        rw [if_neg h0, if_neg h0, if_neg h0]
      rw [this]
  have h0 : (faultG n m es).1 = 0 := by simpa using h0
  obtain ⟨N, rfl, g⟩ := Gd.of h0
  have n1 := g.n1
  have m1 := g.m1
  have wC : ∀ x, wrongC N m es x = if 0 ≤ x ∧ x < N then 0 else 30 := fun x => if_pos h0
  have w30 : ¬ (0 ≤ s ∧ s < N) ∨ ¬ (0 ≤ t ∧ t < N) → wrong13 N m es s t k = 30 := by
    intro h
    have : endsC N m es s t = 30 := by
      unfold endsC
      rw [wC, wC]
      by_cases h1 : 0 ≤ s ∧ s < N
      · rw [if_pos h1]
        rcases h with h | h
        · exact absurd h1 h
        · rw [if_neg h]; rfl
      · rw [if_neg h1]; rfl
    unfold wrong13
    rw [this]; rfl
  obtain ⟨a, c, rfl, hcE⟩ := G
  have G : GrA h [.int .i64 N, .slice a m c] N m es := ⟨a, c, rfl, hcE⟩
  refine ⟨fun _ q => g11 = q ∧ (0 ≤ s ∧ s < N) ∧ (0 ≤ t ∧ t < N), ?_, ?_⟩
  · refine ifP_of (fun h1 => err xh B3 (by omega) (w30 (.inl (by have := of_decide_eq_true h1; omega)))) (fun h1 => ?_)
    have h1 := of_decide_eq_false h1
    refine ⟨_, B1_.ld rfl, ifP_of (fun h2 => err xh B3 (by omega) (w30 (.inl (by have := of_decide_eq_true h2; omega)))) (fun h2 => ?_)⟩
    have h2 := of_decide_eq_false h2
    refine ifP_of (fun h3 => err xh B3 (by omega) (w30 (.inr (by have := of_decide_eq_true h3; omega)))) (fun h3 => ?_)
    have h3 := of_decide_eq_false h3
    refine ⟨_, B1_.ld rfl, ifP_of (fun h4 => err xh B3 (by omega) (w30 (.inr (by have := of_decide_eq_true h4; omega)))) (fun h4 => ?_)⟩
    have h4 := of_decide_eq_false h4
    exact ⟨rfl, by omega, by omega⟩
  rintro _ ⟨rfl, hsr, htr⟩
  obtain ⟨s', rfl⟩ : ∃ s' : Nat, s = s' := ⟨s.toNat, by omega⟩
  obtain ⟨t', rfl⟩ : ∃ t' : Nat, t = t' := ⟨t.toNat, by omega⟩
  have hsn : s' < N := by omega
  have htn : t' < N := by omega
  have wE : endsC N m es s' t' = if (s' : Int) = t' then 120 else 0 := by
    unfold endsC
    rw [wC, wC, if_pos hsr, if_pos htr]; rfl
  refine ifP_of (fun h5 => err xh B3 (by omega) ?_) (fun h5 => ?_)
  · unfold wrong13
    rw [wE, if_pos (of_decide_eq_true h5)]; rfl
  have h5 := of_decide_eq_false h5
  have hst : s' ≠ t' := by omega
  rw [if_neg h5] at wE
  refine B1_.ldN rfl ?_
  refine (newNet_T (s := s') (t := t') (G.ext xh) g).mono ?_
  rintro _ g32 ⟨bn, own, rfl, bs, Nt⟩
  refine rt_ret ?_
  have O0 : ∀ u, OutF m (frE es) (toE es) (onR (room0 (cpE es))) u = 0 := room0_out
  have hc0 : ∀ i, i < m → 0 ≤ cpE es i := fun i hi => (g.c i hi).1
  have hc1 : ∀ i, i < m → cpE es i ≤ 1048576 := fun i hi => (g.c i hi).2
  have R0 := room0_ok hc0
  have F0 : FlS N m (frE es) (toE es) (cpE es) s' t' (room0 (cpE es)) := ⟨R0, fun v _ _ _ => O0 v⟩
  refine ⟨fun p q => (1 ≤ k ∧ k ≤ 3) ∧ ∃ ty f bo, p.1 = .iface ty (.pointer (some (bk bo))) ∧
    (∀ w, (method (Tryz.prog.types.size + Made.depth) ty (.pointer (some (bk bo))) "compass/maxflow.fill").run Tryz.prog w = .ok (f, .pointer (some (bk bo))) w) ∧
    T Tryz.prog f [.pointer (some (bk bo))] q fun r h' => r = .ret (.tuple ⟨[]⟩) ∧ ∃ own' room', Bs g11 own' h' ∧ Net own' h' bn N m (frE es) (toE es) s' t' room' ∧ FlS N m (frE es) (toE es) (cpE es) s' t' room' ∧ ¬ Rch (ArS m (frE es) (toE es) room') s' t', ?_, ?_⟩
  · refine ifP_of (fun h6 => ?_) (fun h6 => ?_)
    · have h6 := of_decide_eq_true h6
      refine oneP_ptr (new_bl ?_)
      intro bo q hbo xo Bo
      refine ⟨by omega, 83, F.maxflow_dinic_fill, bo, rfl, meth57 _, ?_⟩
      refine (dfill_T hc1 g.ends m1 n1 hsn htn (Nt.new (i := 5) xo hbo) (B1.new Bo) F0 hst).mono ?_
      rintro _ q2 ⟨own', room', rfl, F, N2, f1, f2⟩
      exact ⟨rfl, own', room', (bs.new xo hbo).fm F (by simp), N2, f1, f2⟩
    exact absurd hk1 (of_decide_eq_false h6)
  rintro v35 q ⟨hk, ty, f, bo, hv, hm, hT⟩
  change v35 = _ at hv
  subst hv
  refine ⟨f, _, fun w _ => hm w, ?_⟩
  refine hT.mono ?_
  rintro _ g47 ⟨rfl, own, room, bs, Nt, Fl, nr⟩
  refine rt_ret ⟨rfl, ?_⟩
  clear hT hm
  have B1g := B1_
  have w0 : wrong13 N m es s' t' k = 0 := by
    unfold wrong13
    rw [wE, if_pos rfl, if_pos hk]
  have B1_ := B1_.ext bs.ext
  have xq := xh.trans' bs.ext
  refine ⟨_, B1_.ld rfl, slcP_mk ⟨_, B1_.ld rfl, ?_⟩⟩
  refine mk_ints 12 (by omega) (by omega) ?_
  intro b53 g54 hb53 x54 S12
  have bs := bs.new (i := 12) x54 hb53
  have Nt := Nt.new (i := 12) x54 hb53
  have k12 := S12 own
  generalize own1 own b53 12 = own at *
  clear S12
  refine mk_bools 13 (by omega) (by omega) ?_
  intro b55 g56 hb55 x56 S13
  have bs := bs.new (i := 13) x56 hb55
  have Nt := Nt.new (i := 13) x56 hb55
  have k13 := S13 own
  have k12 := k12.nw (j := 13) x56 hb55
  generalize own1 own b55 13 = own at *
  clear S13
  refine new_bl_st rfl rfl (by simp [Value.oneCell']) ?_
  intro b57 g59 hb57 x59 B57
  have bs := bs.new (i := 14) x59 hb57
  have Nt := Nt.new (i := 14) x59 hb57
  have k12 := k12.nw (j := 14) x59 hb57
  have k13 := k13.nw (j := 14) x59 hb57
  have k14 : B1 (own1 own b57 14) g59 14 b57 _ := B1.new B57
  generalize own1 own b57 14 = own at *
  rw [Int.toNat_natCast, Int.toNat_natCast] at k14
  have B1_ := ((B1_.ext x54).ext x56).ext x59
  have hb53h : h b53 = none := xq.new hb53
  have hb55h : h b55 = none := (xq.trans' x54).new hb55
  have hne2 : b53 ≠ b55 := by
    rintro rfl
    have h1 := k12.sl.2
    have h2 := k13.sl.2
    omega
  clear B57 x54 x56 x59 hb57 hb55 hb53
  refine ⟨_, B1_.ld rfl, slcP_mk ?_⟩
  let I64 : (Int × Unit) → H → Nat → Prop := fun p q k => ∃ (i : Nat) (f : Nat → Int), p.1 = i ∧ i ≤ m ∧ k = m - i ∧ Bs g11 own q ∧ Net own q bn N m (frE es) (toE es) s' t' room ∧
    S1 own q 12 (slV b53 m) (ints m f) ∧ S1 own q 13 (slV b55 N) (bools N fun _ => false) ∧ B1 own q 14 b57 (flV s' t' (slV b53 m) (slV b55 N)) ∧ ∀ j, j < i → f j = onR room j
  refine ⟨fun p q => ∃ k, I64 p q k, rk I64, rk_wf I64, ⟨_, 0, _, rfl, by omega, rfl, bs, Nt, k12, k13, k14, fun j hj => by omega⟩, ?_⟩
  clear bs Nt k12 k13 k14
  intro p q hI
  obtain ⟨i, f, e1, hi, hk2, bs, Nt, k12, k13, k14, hf⟩ := mu_spec hI
  generalize hkk : mu I64 ((p, ()), q) = km at *
  change p = (i : Int) at e1
  subst e1
  have hltf : m - (i + 1) < mu I64 (((i : Int), ()), q) ∨ ¬ i < m := by rw [hkk, hk2]; omega
  clear hI
  obtain ⟨vto, vroom, vout, outs, q4, q1, q2, q3, qa⟩ := Nt.ex
  refine ifP_of (fun h1 => ?_) (fun h1 => ?_)
  · have him : i < m := by have := of_decide_eq_true h1; omega
    refine ptrP_mk ⟨_, k14.ld rfl, _, q4.ld rfl, ?_⟩
    have ew : IntKind.i64.wrap (IntKind.i64.wrap (2 * (i : Int)) + 1) = ((2 * i + 1 : Nat) : Int) := by
      have e1 : IntKind.i64.wrap (2 * (i : Int)) = 2 * (i : Int) := w64_in (by omega) (by omega)
      have e2 : IntKind.i64.wrap (2 * (i : Int) + 1) = 2 * (i : Int) + 1 := w64_in (by omega) (by omega)
      rw [e1, e2]; omega
    rw [ew]
    refine q2.rdI (by omega) (k12.setI him ?_)
    intro g74 F k12
    have bs := bs.fm F (by simp <;> omega)
    have k13 := k13.fm F (by simp <;> omega)
    have k14 := k14.fm F (by simp <;> omega)
    have Nt : Net own g74 bn N m (frE es) (toE es) s' t' room := Nt.fm F (by simp)
    rw [i64_inc (by omega)]
    refine mu_next (I := I64) (k := m - (i + 1)) ⟨i + 1, _, rfl, him, rfl, bs, Nt, k12, k13, k14, fun j hj => ?_⟩ (by omega)
    by_cases e : j = i
    · subst e; rw [upd_at]; rfl
    · rw [upd_ne e]; exact hf j (by omega)
  have : i = m := by have := of_decide_eq_false h1; omega
  subst this
  clear hkk hk2 hltf h1 hi
  have ef : ints i f = ints i (onR room) := ints_ext hf
  rw [ef] at k12
  clear ef hf
  refine (levels_T Nt g.ends n1 m1 hsn).mono ?_
  rintro _ g76 ⟨x76, bl, lev, rfl, hbl, Sl6, L⟩
  refine rt_ret (slcP_mk ?_)
  have bs := bs.new (i := 15) x76 hbl
  have Nt := Nt.new (i := 15) x76 hbl
  have k12 := k12.nw (j := 15) x76 hbl
  have k13 := k13.nw (j := 15) x76 hbl
  have k14 := k14.nw (j := 15) x76 hbl
  have k15 : S1 (own1 own bl 15) g76 15 (slV bl N) (ints N lev) := S1.of Sl6 own
  generalize own1 own bl 15 = own at *
  clear Sl6 hbl x76 q4 q1 q2 q3 qa
  let I80 : (Int × Unit) → H → Nat → Prop := fun p q k => ∃ (v : Nat) (sd : Nat → Bool), p.1 = v ∧ v ≤ N ∧ k = N - v ∧ Bs g11 own q ∧
    S1 own q 12 (slV b53 i) (ints i (onR room)) ∧ S1 own q 13 (slV b55 N) (bools N sd) ∧ B1 own q 14 b57 (flV s' t' (slV b53 i) (slV b55 N)) ∧ S1 own q 15 (slV bl N) (ints N lev) ∧ ∀ j, j < v → sd j = decide (0 ≤ lev j)
  refine ⟨fun p q => ∃ k, I80 p q k, rk I80, rk_wf I80, ⟨_, 0, _, rfl, by omega, rfl, bs, k12, k13, k14, k15, fun j hj => by omega⟩, ?_⟩
  clear bs k12 k13 k14 k15
  intro p q hI
  obtain ⟨v, sd, e1, hv, hk2, bs, k12, k13, k14, k15, hsd⟩ := mu_spec hI
  generalize hkk : mu I80 ((p, ()), q) = km at *
  change p = (v : Int) at e1
  subst e1
  have hltf : N - (v + 1) < mu I80 (((v : Int), ()), q) ∨ ¬ v < N := by rw [hkk, hk2]; omega
  clear hI
  refine ifP_of (fun h1 => ?_) (fun h1 => ?_)
  · have hvn : v < N := by have := of_decide_eq_true h1; omega
    refine k15.rdI hvn ⟨_, k14.ld rfl, k13.setB hvn ?_⟩
    intro g88 F k13
    have bs := bs.fm F (by simp <;> omega)
    have k12 := k12.fm F (by simp <;> omega)
    have k14 := k14.fm F (by simp <;> omega)
    have k15 := k15.fm F (by simp <;> omega)
    rw [i64_inc (by omega)]
    refine mu_next (I := I80) (k := N - (v + 1)) ⟨v + 1, _, rfl, hvn, rfl, bs, k12, k13, k14, k15, fun j hj => ?_⟩ (by omega)
    unfold updB
    by_cases e : j = v
    · subst e; rw [if_pos rfl]
    · rw [if_neg e]; exact hsd j (by omega)
  have : v = N := by have := of_decide_eq_false h1; omega
  subst this
  clear hkk hk2 hltf h1 hv
  have Mx : MaxP v i (frE es) (toE es) (cpE es) s' t' (onR room) := ⟨Fl.flow, fun r => nr ((rch_iff Fl.rm).2 r)⟩
  have hsd2 : ∀ u, u < v → (sd u = true ↔ Rch (RsS i (frE es) (toE es) (cpE es) (onR room)) s' u) := by
    intro u hu
    rw [hsd u hu, ← rch_iff Fl.rm, ← L.iff g.ends hu]
    simp
  -- the value
  have crossE : ∀ j, j < i → Rch (RsS i (frE es) (toE es) (cpE es) (onR room)) s' (frE es j) → ¬ Rch (RsS i (frE es) (toE es) (cpE es) (onR room)) s' (toE es j) → onR room j = cpE es j := fun j hj h1 h2 =>
    (Fl.flow.tight g.ends hsn .refl Mx.nr (by rw [Mx.cut g.ends hsn]; exact Int.le_refl _) j hj).1 h1 h2
  have b1q : Bl q b1 [.int .i64 v, .slice a i c] := B1g.ext bs.ext
  refine ⟨_, b1q.ld rfl, slcP_mk ?_⟩
  let cr : Nat → Int := fun j => if sd (frE es j) = true ∧ sd (toE es j) = false then onR room j else 0
  have crb : ∀ j, j < i → 0 ≤ cr j ∧ cr j ≤ 1048576 := by
    intro j hj
    have := onR_bd Fl.rm hc1 j hj
    show 0 ≤ (if sd (frE es j) = true ∧ sd (toE es j) = false then onR room j else 0) ∧ (if sd (frE es j) = true ∧ sd (toE es j) = false then onR room j else 0) ≤ 1048576
    split <;> omega
  have crs : ∀ j, j ≤ i → 0 ≤ sumN j cr ∧ sumN j cr ≤ 4294967296 := by
    intro j hj
    have h1 := sumN_nonneg (f := cr) (k := j) fun l hl => (crb l (by omega)).1
    have h2 := sumN_bd (f := cr) (k := j) (c := 1048576) fun l hl => (crb l (by omega)).2
    omega
  let I93 : (Int × Int × Unit) → H → Nat → Prop := fun p q2 k => ∃ (j : Nat), p.2.1 = j ∧ j ≤ i ∧ k = i - j ∧ p.1 = sumN j cr ∧ Ext q q2
  refine ⟨fun p q => ∃ k, I93 p q k, rk I93, rk_wf I93, ⟨_, 0, rfl, by omega, rfl, rfl, Ext.refl q⟩, ?_⟩
  intro val p q2 hI
  obtain ⟨j, e1, hj, hk2, hval, xq2⟩ := mu_spec hI
  generalize hkk : mu I93 ((val, p, ()), q2) = km at *
  change p = (j : Int) at e1
  subst e1
  change val = sumN j cr at hval
  subst hval
  have hltf : i - (j + 1) < mu I93 ((sumN j cr, (j : Int), ()), q2) ∨ ¬ j < i := by rw [hkk, hk2]; omega
  clear hI
  have cj := crs j hj
  have FX : Fm [] own q own q2 := Fm.of_ext xq2
  have k12 := k12.fm FX (by simp <;> omega)
  have k13 := k13.fm FX (by simp <;> omega)
  have k14 := k14.fm FX (by simp <;> omega)
  refine ifP_of (fun h1 => ?_) (fun h1 => ?_)
  · have hji : j < i := by have := of_decide_eq_true h1; omega
    obtain ⟨ad, rfl, hcc⟩ := hcE j hji
    have ef := g.fr hji
    have et := g.to hji
    refine ⟨by omega, by omega, ?_⟩
    rw [Int.toNat_natCast]
    refine ⟨(es j).vs, rfl, fun l v hl => (xh.trans' (bs.ext.trans' xq2)).cell (hcc l v hl), ?_⟩
    refine new_bl_st rfl rfl (ed_one _) ?_
    intro b100 g102 hb100 x102 B100
    have xn := xq2.trans' x102
    have FY : Fm [] own q2 own g102 := Fm.of_ext x102
    have k12 := k12.fm FY (by simp <;> omega)
    have k13 := k13.fm FY (by simp <;> omega)
    have k14 := k14.fm FY (by simp <;> omega)
    have nxt : ∀ x : Int, x = cr j → (∃ k, I93 (IntKind.i64.wrap (sumN j cr + x), IntKind.i64.wrap ((j : Int) + 1), ()) g102 k) ∧ rk I93 ((IntKind.i64.wrap (sumN j cr + x), IntKind.i64.wrap ((j : Int) + 1), ()), g102) ((sumN j cr, (j : Int), ()), q2) := by
      rintro x rfl
      have c2 := crs (j + 1) hji
      have e : sumN (j + 1) cr = sumN j cr + cr j := rfl
      have ew : IntKind.i64.wrap (sumN j cr + cr j) = sumN (j + 1) cr := by rw [e]; exact w64_in (by omega) (by omega)
      rw [ew, i64_inc (by omega)]
      exact mu_next (I := I93) (k := i - (j + 1)) ⟨j + 1, rfl, hji, rfl, rfl, xn⟩ (by omega)
    have nxt0 : cr j = 0 → (∃ k, I93 (sumN j cr, IntKind.i64.wrap ((j : Int) + 1), ()) g102 k) ∧ rk I93 ((sumN j cr, IntKind.i64.wrap ((j : Int) + 1), ()), g102) ((sumN j cr, (j : Int), ()), q2) := by
      intro h
      have := nxt 0 h.symm
      have ew : IntKind.i64.wrap (sumN j cr + 0) = sumN j cr := by
        have : IntKind.i64.wrap (sumN j cr + 0) = sumN j cr + 0 := w64_in (by omega) (by omega)
        rw [this]; omega
      rwa [ew] at this
    refine ⟨_, k14.ld rfl, _, B100.ed.1, ?_⟩
    rw [ef.1]
    refine k13.rdB ef.2 ?_
    refine ifP_of (fun h2 => ?_) (fun h2 => nxt0 (if_neg fun h => by rw [h2] at h; cases h.1))
    refine ⟨_, k14.ld rfl, _, B100.ed.2.1, ?_⟩
    rw [et.1]
    refine k13.rdB et.2 ?_
    refine ifP_of (fun h3 => ?_) (fun h3 => nxt0 (if_neg fun h => by rw [h.2] at h3; cases h3))
    have h3 : sd (toE es j) = false := by simpa using h3
    exact ⟨_, k14.ld rfl, k12.rdI hji (nxt _ (if_pos ⟨h2, h3⟩).symm)⟩
  have : j = i := by have := of_decide_eq_false h1; omega
  subst this
  have hv : sumN j cr = OutF j (frE es) (toE es) (onR room) s' := by
    rw [Mx.cut g.ends hsn]
    refine sumN_congr fun l hl => ?_
    have e1 := hsd2 _ (g.fr hl).2
    have e2 := hsd2 _ (g.to hl).2
    show (if sd (frE es l) = true ∧ sd (toE es l) = false then onR room l else 0) = _
    by_cases c1 : sd (frE es l) = true ∧ sd (toE es l) = false
    · have r1 := e1.1 c1.1
      have r2 : ¬ Rch (RsS j (frE es) (toE es) (cpE es) (onR room)) s' (toE es l) := fun h => by
        have := e2.2 h
        rw [c1.2] at this; cases this
      rw [if_pos c1, if_pos ⟨r1, r2⟩]
      exact crossE l hl r1 r2
    · rw [if_neg c1, if_neg]
      rintro ⟨r1, r2⟩
      refine c1 ⟨e1.2 r1, ?_⟩
      cases e : sd (toE es l)
      · rfl
      · exact absurd (e2.1 e) r2
  rw [hv]
  refine k14.ldN rfl ?_
  have B3q : Bl q2 b3 flZ := (B3.ext bs.ext).ext xq2
  refine B3q.stN rfl rfl (by simp [Value.oneCell']) ?_
  intro q3 kp B3q
  refine B3q.ldN rfl ⟨((xh.trans' bs.ext).trans' xq2).of_kp kp hb3h, .inr ⟨w0, v, s', t', b53, b55, onR room, sd, rfl, rfl, rfl, hsn, htn, hst, g, rfl, ?_⟩⟩
  have o53 := k12.sl
  have o55 := k13.sl
  have ne1 : b53 ≠ b3 := by
    rintro rfl
    obtain ⟨e, h1⟩ := B3
    have := bs.old _ _ h1
    omega
  have ne2 : b55 ≠ b3 := by
    rintro rfl
    obtain ⟨e, h1⟩ := B3
    have := bs.old _ _ h1
    omega
  exact ⟨hb53h, hb55h, hne2, o53.1.kp kp ne1, o55.1.kp kp ne2, Mx, hsd2⟩
end

end Go.Proofs.YtjlojokockfapaaGreatDoor

namespace Go.Proofs.YtjlojokockfapaaGreatDoor
open Go
set_option linter.unusedVariables false
set_option linter.unusedSimpArgs false

/-- A region whose first operation is recover; the rest is walked as any region. -/
theorem wpS_region_recover {P : Program} {id : Nat} {ops : Array Oper} {Q : Exit → Act → List Frame → World → Prop} {a : Act} {cs cs' : List Frame} {w : World} {o : Oper} {rest : List Nat} {v : Value}
    (ho : ops[0]? = some o) (hl : List.range ops.size = 0 :: rest) (hw : Region.wanted o (yielded ops a.tmps) = true) (hrun : (execOp a.eval o).run P w = .ok .recover w)
    (hrec : recoverD cs = some (v, cs') ∨ (recoverD cs = none ∧ v = .nilIface ∧ cs' = cs)) (h : wpOps P ops (fun e a' w' => Q e a' cs' w') rest (a.put o.dst v) w) :
    (Code.region id ops false).wpS P Q a cs w := by
  intro b k hb hro
  obtain ⟨e, a', w', hq, harr⟩ := wp_ops rest _ w h b k cs'
  have hg := stepG_op (P := P) (b := b) (k := k) (cs := cs) (w := w) (rest := rest) ho hw
  have hfin : ∀ v, (b.at a (.inRegion ops (0 :: rest) :: k)).finish v = b.at (a.put o.dst v) (.inRegion ops rest :: k) := by
    intro v; rw [Frame.finish_at, ho]; rfl
  have hk : (b.at a (.inRegion ops (0 :: rest) :: k)).kind = .deferred := hb
  have htr := tryRecover_deferred hk cs
  have st : step P (lone (b.at a (.inRegion ops (0 :: rest) :: k)) cs w) = .next (lone (b.at (a.put o.dst v) (.inRegion ops rest :: k)) cs' w) := by
    refine step_lone_go ?_
    rw [hg, ← hfin]
    simp only [Frame.at] at htr ⊢
    rcases hrec with hrec | ⟨hrec, rfl, rfl⟩
    · simp [stepG.apply, hrun, htr, hrec]
    · simp [stepG.apply, hrun, htr, hrec]
  refine ⟨e, a', cs', w', hq, .of_steps (.head step_region ?_) harr⟩
  rw [hl]
  exact .one st

end Go.Proofs.YtjlojokockfapaaGreatDoor

namespace Go.Proofs.YtjlojokockfapaaGreatDoor
open Go
set_option linter.unusedVariables false
set_option linter.unusedSimpArgs false
set_option maxRecDepth 100000

def firstOps : Code → Array Oper
  | .seq (.region _ ops _) _ => ops
  | _ => #[]
def restOf : Code → Code
  | .seq _ y => y
  | _ => .skip
def opAt (ops : Array Oper) (i : Nat) : Oper := match ops[i]? with
  | some o => o
  | none => default
theorem wp_first {P : Program} {ops : Array Oper} {Q : Exit → Act → World → Prop} {a : Act} {w : World} {i : Nat} {rest : List Nat} {o : Oper} (ho : ops[i]? = some o) (hw : Region.wanted o (yielded ops a.tmps) = true)
    (h : o.wp P a w (wpOps P ops Q rest) Q) : wpOps P ops Q (i :: rest) a w := by
  show (match ops[i]? with
    | none => wpOps P ops Q rest a w
    | some o => if Region.wanted o (yielded ops a.tmps) then o.wp P a w (wpOps P ops Q rest) Q ∨ (o.asks P a w ∧ LetsOut Q) else wpOps P ops Q rest (a.put o.dst undef) w)
  rw [ho]
  dsimp only
  rw [if_pos hw]
  exact .inl h

end Go.Proofs.YtjlojokockfapaaGreatDoor

namespace Go.Proofs.YtjlojokockfapaaGreatDoor
open Go
set_option linter.unusedVariables false
set_option linter.unusedSimpArgs false
set_option maxRecDepth 100000

noncomputable def fld (i : Nat) : Field := (Tryz.prog.fieldsOf 43).toList[i]!
end Go.Proofs.YtjlojokockfapaaGreatDoor

namespace Go.Proofs.YtjlojokockfapaaGreatDoor
open Go
open Classical
set_option linter.unusedVariables false

/-- Of more things than places two have the same. -/
theorem pigeon : ∀ {n : Nat} {x : Nat → Nat}, (∀ i, i ≤ n → x i < n) → ∃ i j, i < j ∧ j ≤ n ∧ x i = x j
  | 0, x, h => absurd (h 0 (Nat.le_refl 0)) (Nat.not_lt_zero _)
  | n + 1, x, h => by
    by_cases c : ∃ i, i ≤ n ∧ x i = x (n + 1)
    · obtain ⟨i, hi, e⟩ := c
      exact ⟨i, n + 1, by omega, Nat.le_refl _, e⟩
    have hc : ∀ i, i ≤ n → x i ≠ x (n + 1) := fun i hi e => c ⟨i, hi, e⟩
    have hl := h (n + 1) (Nat.le_refl _)
    obtain ⟨i, j, h1, h2, h3⟩ := pigeon (n := n) (x := fun i => if x i < x (n + 1) then x i else x i - 1) (fun i hi => by
      have := hc i hi
      have := h i (by omega)
      split <;> omega)
    refine ⟨i, j, h1, by omega, ?_⟩
    have a := hc i (by omega)
    have b := hc j h2
    split at h3 <;> split at h3 <;> omega

def updN (f : Nat → Nat) (i x : Nat) : Nat → Nat := fun j => if j = i then x else f j
theorem updN_at {f : Nat → Nat} {i x : Nat} : updN f i x i = x := if_pos rfl
theorem updN_ne {f : Nat → Nat} {i x j : Nat} (h : j ≠ i) : updN f i x j = f j := if_neg h
/-- Distances are made less along edges: in round k, at edge j. r: the round of the last change, τ: its time. -/
structure BF (M : Nat) (fr to : Nat → Nat) (c : Nat → Int) (U : Nat → Prop) (C : Int) (k j : Nat) (d : Nat → Int) (via τ r : Nat → Nat) (tm : Nat) : Prop where
  set : ∀ v, 0 < r v → via v < M ∧ U (via v) ∧ to (via v) = v ∧ d (fr (via v)) + c (via v) ≤ d v ∧ (τ v ≤ τ (fr (via v)) → d (fr (via v)) + c (via v) < d v)
  rnd : ∀ v, 0 < r v → r v ≤ r (fr (via v)) + 1
  rk : ∀ v, r v ≤ k
  tmx : ∀ v, τ v < tm
  un0 : ∀ v, r v = 0 → d v = 0
  neg : ∀ v, d v ≤ 0
  lb : ∀ v, -(tm * C) ≤ d v
  tri1 : ∀ i, i < j → i < M → U i → r (fr i) < k → d (to i) ≤ d (fr i) + c i
  tri2 : ∀ i, j ≤ i → i < M → U i → r (fr i) + 1 < k → d (to i) ≤ d (fr i) + c i

section
variable {M : Nat} {fr to : Nat → Nat} {c : Nat → Int} {U : Nat → Prop} {C : Int} {k j : Nat} {d : Nat → Int} {via τ r : Nat → Nat} {tm : Nat}
theorem BF.start (hC : 0 ≤ C) : BF M fr to c U C 1 0 (fun _ => 0) via (fun _ => 0) (fun _ => 0) 1 := by
  refine ⟨fun v h => by omega, fun v h => by omega, fun v => by omega, fun v => by omega, fun v _ => rfl, fun v => Int.le_refl _, fun v => by simp; omega, fun i h => by omega, fun i _ _ _ h => by omega⟩
theorem BF.skip (B : BF M fr to c U C k j d via τ r tm) (h : ¬ U j ∨ d (to j) ≤ d (fr j) + c j) : BF M fr to c U C k (j + 1) d via τ r tm := by
  refine ⟨B.set, B.rnd, B.rk, B.tmx, B.un0, B.neg, B.lb, fun i h1 h2 h3 h4 => ?_, fun i h1 => B.tri2 i (by omega)⟩
  by_cases e : i = j
  · subst e
    rcases h with h | h
    · exact absurd h3 h
    · exact h
  · exact B.tri1 i (by omega) h2 h3 h4
theorem BF.relax (B : BF M fr to c U C k j d via τ r tm) (hk : 1 ≤ k) (hj : j < M) (hU : U j) (hC : ∀ i, i < M → -C ≤ c i) (C0 : 0 ≤ C) (h : d (fr j) + c j < d (to j)) :
    BF M fr to c U C k (j + 1) (upd d (to j) (d (fr j) + c j)) (updN via (to j) j) (updN τ (to j) tm) (updN r (to j) k) (tm + 1) := by
  have hcj := hC j hj
  have rj : k ≤ r (fr j) + 1 := by
    apply Classical.byContradiction
    intro h2
    have := B.tri2 j (Nat.le_refl _) hj hU (by omega)
    omega
  have dle : ∀ v, upd d (to j) (d (fr j) + c j) v ≤ d v := fun v => by
    by_cases e : v = to j
    · subst e; rw [upd_at]; omega
    · rw [upd_ne e]; omega
  have rle : ∀ v, r v ≤ updN r (to j) k v := fun v => by
    by_cases e : v = to j
    · subst e; rw [updN_at]; exact B.rk _
    · rw [updN_ne e]; omega
  have tmC : ((tm + 1 : Nat) : Int) * C = tm * C + C := by rw [Int.natCast_add, Int.add_mul]; simp
  refine ⟨fun v hv => ?_, fun v hv => ?_, fun v => ?_, fun v => ?_, fun v hv => ?_, fun v => Int.le_trans (dle v) (B.neg v), fun v => ?_, fun i h1 h2 h3 h4 => ?_, fun i h1 h2 h3 h4 => ?_⟩
  · by_cases e : v = to j
    · subst e
      rw [updN_at, upd_at, updN_at]
      refine ⟨hj, hU, rfl, ?_, fun ht => ?_⟩
      · have := dle (fr j); omega
      · by_cases e2 : fr j = to j
        · rw [e2] at h ⊢; rw [upd_at]; omega
        · rw [updN_ne e2] at ht
          have := B.tmx (fr j); omega
    · rw [updN_ne e] at hv ⊢
      rw [upd_ne e, updN_ne e]
      obtain ⟨h1, h2, h3, h4, h5⟩ := B.set v hv
      refine ⟨h1, h2, h3, ?_, fun ht => ?_⟩
      · have := dle (fr (via v)); omega
      · by_cases e2 : fr (via v) = to j
        · rw [e2, upd_at]; rw [e2] at h4; omega
        · rw [updN_ne e2] at ht
          rw [upd_ne e2]; exact h5 ht
  · by_cases e : v = to j
    · subst e
      rw [updN_at, updN_at]
      have := rle (fr j); omega
    · rw [updN_ne e] at hv ⊢
      rw [updN_ne e]
      have := B.rnd v hv
      have := rle (fr (via v)); omega
  · by_cases e : v = to j
    · subst e; rw [updN_at]; exact Nat.le_refl _
    · rw [updN_ne e]; exact B.rk v
  · by_cases e : v = to j
    · subst e; rw [updN_at]; omega
    · rw [updN_ne e]; have := B.tmx v; omega
  · by_cases e : v = to j
    · subst e; rw [updN_at] at hv; omega
    · rw [updN_ne e] at hv; rw [upd_ne e]; exact B.un0 v hv
  · rw [tmC]
    have p0 := B.lb (fr j)
    have pv := B.lb v
    generalize (tm : Int) * C = P at *
    by_cases e : v = to j
    · subst e; rw [upd_at]; omega
    · rw [upd_ne e]; omega
  · have hv : fr i ≠ to j := by
      intro e; rw [e, updN_at] at h4; omega
    rw [updN_ne hv] at h4
    rw [upd_ne hv]
    by_cases e : i = j
    · subst e; rw [upd_at]; omega
    · have := B.tri1 i (by omega) h2 h3 h4
      have := dle (to i); omega
  · have hv : fr i ≠ to j := by
      intro e; rw [e, updN_at] at h4; omega
    rw [updN_ne hv] at h4
    rw [upd_ne hv]
    have := B.tri2 i (by omega) h2 h3 h4
    have := dle (to i); omega
theorem BF.next (B : BF M fr to c U C k M d via τ r tm) : BF M fr to c U C (k + 1) 0 d via τ r tm :=
  ⟨B.set, B.rnd, fun v => by have := B.rk v; omega, B.tmx, B.un0, B.neg, B.lb, fun i h => by omega, fun i _ h2 h3 h4 => B.tri1 i h2 h2 h3 (by omega)⟩
/-- A round without a change: nothing can be made less. -/
theorem BF.done (B : BF M fr to c U C k M d via τ r tm) (h : ∀ v, r v < k) : ∀ i, i < M → U i → d (to i) ≤ d (fr i) + c i := fun i hi hu => B.tri1 i hi hi hu (h _)

/-- The way back. -/
def bck (fr via : Nat → Nat) (v : Nat) : Nat → Nat
  | 0 => v
  | i + 1 => fr (via (bck fr via v i))
theorem bck_add {v i : Nat} : ∀ {l : Nat}, bck fr via v (i + l) = bck fr via (bck fr via v i) l
  | 0 => rfl
  | l + 1 => by
    show fr (via (bck fr via v (i + l))) = fr (via (bck fr via (bck fr via v i) l))
    rw [bck_add]
/-- Round about: less than nothing. -/
theorem BF.circ (B : BF M fr to c U C k j d via τ r tm) {y p : Nat} (hp : 1 ≤ p) (hy : bck fr via y p = y) (hr : ∀ i, i < p → 0 < r (bck fr via y i)) :
    sumN p (fun s => c (via (bck fr via y s))) < 0 := by
  have key : ∀ q, q ≤ p → sumN q (fun s => c (via (bck fr via y s))) < d y - d (bck fr via y q) ∨
      (sumN q (fun s => c (via (bck fr via y s))) ≤ d y - d (bck fr via y q) ∧ τ (bck fr via y q) + q ≤ τ y) := by
    intro q
    induction q with
    | zero => intro _; right; exact ⟨by show (0 : Int) ≤ d y - d y; omega, Nat.le_refl _⟩
    | succ q ih =>
      intro hq
      obtain ⟨_, _, _, h4, h5⟩ := B.set _ (hr q (by omega))
      have e : sumN (q + 1) (fun s => c (via (bck fr via y s))) = sumN q (fun s => c (via (bck fr via y s))) + c (via (bck fr via y q)) := rfl
      have e2 : bck fr via y (q + 1) = fr (via (bck fr via y q)) := rfl
      rw [e, e2]
      by_cases ht : τ (bck fr via y q) ≤ τ (fr (via (bck fr via y q)))
      · have := h5 ht
        rcases ih (by omega) with h | ⟨h, _⟩ <;> (left; omega)
      · rcases ih (by omega) with h | ⟨h, h'⟩
        · left; omega
        · right; exact ⟨by omega, by omega⟩
  rcases key p (Nat.le_refl _) with h | ⟨_, h⟩
  · rw [hy] at h; omega
  · rw [hy] at h; omega
/-- Who was changed in round n + 1 hangs on a circle. -/
theorem BF.found {n : Nat} (B : BF M fr to c U C (n + 1) j d via τ r tm) (hn : ∀ i, i < M → fr i < n ∧ to i < n) {v : Nat} (hv : r v = n + 1) :
    (∀ i, 0 < r (bck fr via v i)) ∧ ∃ p, 1 ≤ p ∧ p ≤ n ∧ bck fr via (bck fr via v n) p = bck fr via v n := by
  have h1 : ∀ i, i ≤ n → n + 1 ≤ r (bck fr via v i) + i := by
    intro i
    induction i with
    | zero => intro _; show n + 1 ≤ r v + 0; omega
    | succ i ih =>
      intro hi
      have a := ih (by omega)
      have := B.rnd (bck fr via v i) (by omega)
      show n + 1 ≤ r (fr (via (bck fr via v i))) + (i + 1)
      omega
  have hlt : ∀ i, 0 < r (bck fr via v i) → bck fr via v i < n := fun i hi => by
    obtain ⟨a, _, b, _⟩ := B.set _ hi
    have := (hn _ a).2
    omega
  obtain ⟨i, l, h2, h3, h4⟩ := pigeon (n := n) (x := bck fr via v) fun i hi => hlt i (by have := h1 i hi; omega)
  have hs : ∀ s, bck fr via v (i + s) = bck fr via v (l + s) := fun s => by rw [bck_add, bck_add, h4]
  have hall : ∀ b t, t ≤ b → 0 < r (bck fr via v t) := by
    intro b
    induction b with
    | zero => intro t ht; have := h1 t (by omega); omega
    | succ b ih =>
      intro t ht
      by_cases e : t ≤ n
      · have := h1 t e; omega
      · have := hs (t - l)
        rw [show l + (t - l) = t by omega] at this
        rw [← this]
        exact ih _ (by omega)
  refine ⟨fun i => hall i i (Nat.le_refl _), l - i, by omega, by omega, ?_⟩
  rw [← bck_add]
  have := hs (n - i)
  rw [show i + (n - i) = n by omega, show l + (n - i) = n + (l - i) by omega] at this
  exact this.symm
/-- Without a circle less than nothing the distances are not far below 0. -/
theorem BF.low {n : Nat} (B : BF M fr to c U C k j d via τ r tm) (hn : ∀ i, i < M → fr i < n ∧ to i < n) (hC : ∀ i, i < M → -C ≤ c i) (hC0 : 0 ≤ C)
    (tri : ∀ i, i < M → U i → d (to i) ≤ d (fr i) + c i) (v : Nat) : -(n * C) ≤ d v := by
  have some0 : ∃ i, i ≤ n ∧ r (bck fr via v i) = 0 := by
    apply Classical.byContradiction
    intro h
    have hr : ∀ i, i ≤ n → 0 < r (bck fr via v i) := fun i hi => by
      apply Classical.byContradiction
      intro h2; exact h ⟨i, hi, by omega⟩
    obtain ⟨i, l, h2, h3, h4⟩ := pigeon (n := n) (x := bck fr via v) fun i hi => by
      obtain ⟨a, _, b, _⟩ := B.set _ (hr i hi)
      have := (hn _ a).2
      omega
    have hy : bck fr via (bck fr via v i) (l - i) = bck fr via v i := by
      rw [← bck_add, show i + (l - i) = l by omega, h4]
    have hc := B.circ (y := bck fr via v i) (p := l - i) (by omega) hy fun s hs => by
      rw [← bck_add]; exact hr _ (by omega)
    have : ∀ q, q ≤ l - i → d (bck fr via v i) - d (bck fr via (bck fr via v i) q) ≤ sumN q fun s => c (via (bck fr via (bck fr via v i) s)) := by
      intro q
      induction q with
      | zero => intro _; show d (bck fr via v i) - d (bck fr via v i) ≤ 0; omega
      | succ q ih =>
        intro hq
        have a := ih (by omega)
        obtain ⟨b1, b2, b3, _⟩ := B.set (bck fr via (bck fr via v i) q) (by rw [← bck_add]; exact hr _ (by omega))
        have b4 := tri _ b1 b2
        rw [b3] at b4
        show d (bck fr via v i) - d (fr (via (bck fr via (bck fr via v i) q))) ≤ sumN q (fun s => c (via (bck fr via (bck fr via v i) s))) + c (via (bck fr via (bck fr via v i) q))
        omega
    have := this (l - i) (Nat.le_refl _)
    rw [hy] at this
    omega
  have key : ∀ i, i ≤ n → (∀ l, l < i → 0 < r (bck fr via v l)) → d (bck fr via v i) - (i * C) ≤ d v := by
    intro i
    induction i with
    | zero => intro _ _; show d v - ((0 : Nat) : Int) * C ≤ d v; simp
    | succ i ih =>
      intro hi hl
      have a := ih (by omega) fun l h => hl l (by omega)
      obtain ⟨b1, b2, b3, b4, _⟩ := B.set _ (hl i (by omega))
      have b5 := hC _ b1
      have e : ((i + 1 : Nat) : Int) * C = i * C + C := by rw [Int.natCast_add, Int.add_mul]; simp
      rw [e]
      show d (fr (via (bck fr via v i))) - _ ≤ d v
      generalize (i : Int) * C = P at *
      omega
  have least : ∃ i, i ≤ n ∧ r (bck fr via v i) = 0 ∧ ∀ l, l < i → 0 < r (bck fr via v l) := by
    obtain ⟨i, hi, hr⟩ := some0
    have : ∀ b i, i ≤ b → i ≤ n → r (bck fr via v i) = 0 → ∃ i, i ≤ n ∧ r (bck fr via v i) = 0 ∧ ∀ l, l < i → 0 < r (bck fr via v l) := by
      intro b
      induction b with
      | zero => intro i h1 h2 h3; exact ⟨i, h2, h3, fun l hl => by omega⟩
      | succ b ih =>
        intro i h1 h2 h3
        by_cases e : ∃ l, l < i ∧ r (bck fr via v l) = 0
        · obtain ⟨l, hl, e⟩ := e
          exact ih l (by omega) (by omega) e
        · exact ⟨i, h2, h3, fun l hl => by
            apply Classical.byContradiction
            intro h; exact e ⟨l, hl, by omega⟩⟩
    exact this i i (Nat.le_refl _) hi hr
  obtain ⟨i, hi, hr, hl⟩ := least
  have a := key i hi hl
  rw [B.un0 _ hr] at a
  have : (i : Int) * C ≤ n * C := Int.mul_le_mul_of_nonneg_right (by omega) hC0
  omega
end

end Go.Proofs.YtjlojokockfapaaGreatDoor

namespace Go.Proofs.YtjlojokockfapaaGreatDoor
open Go
open Classical
set_option linter.unusedVariables false

abbrev ckE (es : Nat → Ed) (i : Nat) : Int := (es i).k
/-- An arc's cost. -/
def cA (k : Nat → Int) (a : Nat) : Int := if a % 2 = 0 then k (a / 2) else - k (a / 2)
theorem cA_pr {k : Nat → Int} (a : Nat) : cA k (prA a) = - cA k a := by
  unfold cA prA
  by_cases h : a % 2 = 0
  · rw [if_pos h, if_pos h, if_neg (by omega), show (a + 1) / 2 = a / 2 by omega]
  · rw [if_neg h, if_neg h, if_pos (by omega), show (a - 1) / 2 = a / 2 by omega]; omega
theorem cA_0 {k : Nat → Int} (i : Nat) : cA k (2 * i) = k i := by unfold cA; rw [if_pos (by omega), show 2 * i / 2 = i by omega]
theorem cA_1 {k : Nat → Int} (i : Nat) : cA k (2 * i + 1) = - k i := by unfold cA; rw [if_neg (by omega), show (2 * i + 1) / 2 = i by omega]
theorem tlA_0 {fr to : Nat → Nat} (i : Nat) : tlA fr to (2 * i) = fr i := by unfold tlA; rw [if_pos (by omega), show 2 * i / 2 = i by omega]
theorem tlA_1 {fr to : Nat → Nat} (i : Nat) : tlA fr to (2 * i + 1) = to i := by unfold tlA; rw [if_neg (by omega), show (2 * i + 1) / 2 = i by omega]
theorem hdA_0 {fr to : Nat → Nat} (i : Nat) : hdA fr to (2 * i) = to i := by unfold hdA; rw [if_pos (by omega), show 2 * i / 2 = i by omega]
theorem hdA_1 {fr to : Nat → Nat} (i : Nat) : hdA fr to (2 * i + 1) = fr i := by unfold hdA; rw [if_neg (by omega), show (2 * i + 1) / 2 = i by omega]
theorem cA_bd {k : Nat → Int} {m : Nat} {C : Int} (h : ∀ i, i < m → -C ≤ k i ∧ k i ≤ C) {a : Nat} (ha : a < 2 * m) : -C ≤ cA k a ∧ cA k a ≤ C := by
  have := h (a / 2) (by omega)
  unfold cA; split <;> omega

/-- What amounts cost. -/
def totC (m : Nat) (k f : Nat → Int) : Int := sumN m fun i => k i * f i
/-- Amounts that meet supplies. -/
structure PlanP (n m : Nat) (fr to : Nat → Nat) (cap b f : Nat → Int) : Prop where
  cp : ∀ i, i < m → 0 ≤ f i ∧ f i ≤ cap i
  out : ∀ v, v < n → OutF m fr to f v = b v
/-- The potentials prove it. -/
def PotP (m : Nat) (fr to : Nat → Nat) (cap k f p : Nat → Int) : Prop :=
  ∀ i, i < m → (0 < k i + p (fr i) - p (to i) → f i = 0) ∧ (k i + p (fr i) - p (to i) < 0 → f i = cap i)
/-- No arc with room costs less than nothing, by potentials. -/
def RedP (m : Nat) (fr to : Nat → Nat) (k room p : Nat → Int) : Prop := ∀ a, a < 2 * m → 0 < room a → 0 ≤ cA k a + p (tlA fr to a) - p (hdA fr to a)

section
variable {n m : Nat} {fr to : Nat → Nat} {cap k b f g p room : Nat → Int}
theorem RedP.pot (R : RmP m cap room) (P : RedP m fr to k room p) : PotP m fr to cap k (onR room) p := by
  intro i hi
  have e := R.sum i hi
  have h1 := R.pos (2 * i) (by omega)
  have h2 := R.pos (2 * i + 1) (by omega)
  have a := P (2 * i) (by omega)
  have c := P (2 * i + 1) (by omega)
  rw [cA_0, tlA_0, hdA_0] at a
  rw [cA_1, tlA_1, hdA_1] at c
  unfold onR
  constructor
  · intro h
    apply Classical.byContradiction
    intro h3
    have := c (by omega); omega
  · intro h
    apply Classical.byContradiction
    intro h3
    have := a (by omega); omega
theorem RmP.plan (R : RmP m cap room) (ho : ∀ v, v < n → OutF m fr to (onR room) v = b v) : PlanP n m fr to cap b (onR room) :=
  ⟨fun i hi => by
    have e := R.sum i hi
    have h1 := R.pos (2 * i) (by omega)
    have h2 := R.pos (2 * i + 1) (by omega)
    unfold onR; omega, ho⟩
/-- More is supplied on a side than can leave it. -/
theorem PlanP.side (F : PlanP n m fr to cap b f) (hn : ∀ i, i < m → fr i < n ∧ to i < n) (C : Nat → Prop) : sumN n (fun v => if C v then b v else 0) ≤ cutC m fr to cap C := by
  have e := out_side (f := f) hn C
  have e2 : sumN n (fun v => if C v then b v else 0) = sumN n (fun v => if C v then OutF m fr to f v else 0) := sumN_congr fun v hv => by rw [F.out v hv]
  rw [e2, e]
  refine sumN_le fun i hi => ?_
  have := F.cp i hi
  by_cases h1 : C (fr i) <;> by_cases h2 : C (to i) <;> simp [h1, h2] <;> omega
/-- Those with too much reach none that lacks: the side proves that there is none. -/
theorem RmP.lack (R : RmP m cap room) (hn : ∀ i, i < m → fr i < n ∧ to i < n) {C : Nat → Prop} (hc : ∀ a, a < 2 * m → 0 < room a → C (tlA fr to a) → C (hdA fr to a))
    (hx : ∀ v, v < n → C v → 0 ≤ b v - OutF m fr to (onR room) v) {v : Nat} (hv : v < n) (hCv : C v) (hp : 0 < b v - OutF m fr to (onR room) v) :
    cutC m fr to cap C < sumN n (fun v => if C v then b v else 0) := by
  have e := out_side (f := onR room) hn C
  have e2 : sumN m (fun i => (if C (fr i) then onR room i else 0) - (if C (to i) then onR room i else 0)) = cutC m fr to cap C := by
    refine sumN_congr fun i hi => ?_
    have e := R.sum i hi
    have h1 := R.pos (2 * i) (by omega)
    have h2 := R.pos (2 * i + 1) (by omega)
    have a := hc (2 * i) (by omega)
    have c := hc (2 * i + 1) (by omega)
    rw [tlA_0, hdA_0] at a
    rw [tlA_1, hdA_1] at c
    unfold onR
    by_cases c1 : C (fr i) <;> by_cases c2 : C (to i) <;> simp [c1, c2]
    · have : ¬ 0 < room (2 * i) := fun h => c2 (a h c1)
      omega
    · have : ¬ 0 < room (2 * i + 1) := fun h => c1 (c h c2)
      omega
  have e3 : sumN n (fun w => if C w then b w else 0) - sumN n (fun w => if C w then OutF m fr to (onR room) w else 0) = sumN n fun w => if C w then b w - OutF m fr to (onR room) w else 0 := by
    rw [← sumN_sub]
    refine sumN_congr fun w _ => ?_
    split <;> omega
  have e4 : b v - OutF m fr to (onR room) v ≤ sumN n fun w => if C w then b w - OutF m fr to (onR room) w else 0 := by
    have := sumN_mem (f := fun w => if C w then b w - OutF m fr to (onR room) w else 0) (k := n) (i := v) (fun w hw => by
      by_cases h : C w
      · rw [if_pos h]; exact hx w hw h
      · rw [if_neg h]; omega) hv
    rw [if_pos hCv] at this
    exact this
  omega
/-- Sending along an arc changes the cost. -/
theorem tot_snd {a : Nat} {x : Int} (ha : a < 2 * m) : totC m k (onR (sndR room a x)) = totC m k (onR room) + cA k a * x := by
  have e : ∀ i, i < m → k i * onR (sndR room a x) i = k i * onR room i + (if a / 2 = i then cA k a * x else 0) := by
    intro i hi
    unfold onR
    by_cases e1 : a / 2 = i
    · rw [if_pos e1]
      by_cases h2 : a % 2 = 0
      · have ea : a = 2 * i := by omega
        have q := sndR_p (room := room) (a := a) (x := x)
        have ep : prA a = 2 * i + 1 := by unfold prA; rw [if_pos h2, ea]
        rw [ep] at q
        rw [q, ea, cA_0, Int.mul_add]
      · have ea : a = 2 * i + 1 := by omega
        have q := sndR_a (room := room) (a := a) (x := x)
        rw [← ea, q, ea, cA_1, Int.mul_sub, Int.neg_mul]; omega
    · rw [if_neg e1, sndR_o (by omega) (by unfold prA; split <;> omega)]; omega
  unfold totC
  rw [sumN_congr e, sumN_add, sumN_pt, if_pos (by omega)]
theorem totC_bd {C X : Int} (hX : 0 ≤ X) (hC : 0 ≤ C) (hk : ∀ i, i < m → -C ≤ k i ∧ k i ≤ C) (hf : ∀ i, i < m → 0 ≤ f i ∧ f i ≤ X) : -(m * (C * X)) ≤ totC m k f ∧ totC m k f ≤ m * (C * X) := by
  have key : ∀ i, i < m → -(C * X) ≤ k i * f i ∧ k i * f i ≤ C * X := fun i hi => by
    have a := hk i hi
    have c := hf i hi
    have h1 : k i * f i ≤ C * f i := Int.mul_le_mul_of_nonneg_right a.2 c.1
    have h2 : C * f i ≤ C * X := Int.mul_le_mul_of_nonneg_left c.2 hC
    have h3 : -C * f i ≤ k i * f i := Int.mul_le_mul_of_nonneg_right a.1 c.1
    rw [Int.neg_mul] at h3
    omega
  refine ⟨?_, sumN_bd fun i hi => (key i hi).2⟩
  have := sumN_bd (f := fun i => -(k i * f i)) (k := m) (c := C * X) fun i hi => by have := (key i hi).1; omega
  have e : sumN m (fun i => -(k i * f i)) = - totC m k f := by
    have := sumN_sub (f := fun _ => 0) (g := fun i => k i * f i) (k := m)
    rw [sumN_zero fun _ _ => rfl] at this
    unfold totC
    rw [show (fun i => -(k i * f i)) = fun i => 0 - k i * f i by funext i; omega, this]; omega
  omega
end

end Go.Proofs.YtjlojokockfapaaGreatDoor

namespace Go.Proofs.YtjlojokockfapaaGreatDoor
open Go
set_option linter.unusedVariables false

theorem upd2_at {st : Nat → Nat → Int} {v j : Nat} {x : Int} : upd2 st v j x v j = x := if_pos ⟨rfl, rfl⟩
theorem upd2_v {st : Nat → Nat → Int} {v j w i : Nat} {x : Int} (h : w ≠ v) : upd2 st v j x w i = st w i := if_neg (fun k => h k.1)
theorem upd2_j {st : Nat → Nat → Int} {v j w i : Nat} {x : Int} (h : i ≠ j) : upd2 st v j x w i = st w i := if_neg (fun k => h k.2)

/-- Each is followed by the next: field 3 goes on, field 2 back. -/
def Lk (st : Nat → Nat → Int) : List Nat → Prop
  | a :: b :: t => st a 3 = (b : Nat) ∧ st b 2 = (a : Nat) ∧ Lk st (b :: t)
  | _ => True
def Cyc (st : Nat → Nat → Int) : List Nat → Prop
  | [] => True
  | a :: t => Lk st (a :: t ++ [a])
section
variable {st st' : Nat → Nat → Int}
theorem Lk.app {a : Nat} {l2 : List Nat} : ∀ {l1 : List Nat}, Lk st (l1 ++ a :: l2) ↔ Lk st (l1 ++ [a]) ∧ Lk st (a :: l2)
  | [] => by simp [Lk]
  | [x] => by simp [Lk, and_assoc]
  | x :: y :: t => by
    have := Lk.app (a := a) (l2 := l2) (l1 := y :: t)
    simp only [List.cons_append, Lk] at this ⊢
    rw [this]; simp [and_assoc]
theorem Lk.snoc {a b : Nat} {l : List Nat} : Lk st (l ++ [a, b]) ↔ Lk st (l ++ [a]) ∧ st a 3 = b ∧ st b 2 = a := by
  rw [show l ++ [a, b] = l ++ a :: [b] from rfl, Lk.app]
  simp [Lk]
theorem Lk.congr : ∀ {l : List Nat}, (∀ x ∈ l.dropLast, st' x 3 = st x 3) → (∀ x ∈ l.tail, st' x 2 = st x 2) → Lk st l → Lk st' l
  | [], _, _, _ => trivial
  | [x], _, _, _ => trivial
  | a :: b :: t, h3, h2, h => by
    refine ⟨?_, ?_, Lk.congr (l := b :: t) (fun x hx => h3 x ?_) (fun x hx => h2 x ?_) h.2.2⟩
    · rw [h3 a (by simp)]; exact h.1
    · rw [h2 b (by simp)]; exact h.2.1
    · rw [List.dropLast_cons_of_ne_nil (by simp)]; exact List.mem_cons_of_mem _ hx
    · exact List.mem_cons_of_mem _ hx
theorem Cyc.rot {l1 l2 : List Nat} (h : Cyc st (l1 ++ l2)) : Cyc st (l2 ++ l1) := by
  cases l1 with
  | nil => simpa using h
  | cons a t =>
    cases l2 with
    | nil => simpa using h
    | cons b u =>
      have h : Lk st (a :: (t ++ b :: u) ++ [a]) := h
      show Lk st (b :: (u ++ a :: t) ++ [b])
      have e1 : a :: (t ++ b :: u) ++ [a] = (a :: t) ++ b :: (u ++ [a]) := by simp
      have e2 : b :: (u ++ a :: t) ++ [b] = (b :: u) ++ a :: (t ++ [b]) := by simp
      rw [e1, Lk.app] at h
      rw [e2, Lk.app]
      exact ⟨h.2, h.1⟩
theorem Cyc.congr {l : List Nat} (h3 : ∀ x ∈ l, st' x 3 = st x 3) (h2 : ∀ x ∈ l, st' x 2 = st x 2) (h : Cyc st l) : Cyc st' l := by
  cases l with
  | nil => trivial
  | cons a t =>
    refine Lk.congr (fun x hx => h3 x ?_) (fun x hx => h2 x ?_) h
    · rw [show a :: t ++ [a] = (a :: t) ++ [a] from rfl, List.dropLast_concat] at hx; exact hx
    · have hx : x ∈ t ++ [a] := hx
      simp only [List.mem_append, List.mem_singleton] at hx
      rcases hx with h | rfl
      · exact List.mem_cons_of_mem _ h
      · exact List.mem_cons_self
/-- From any of its nodes on. -/
theorem Cyc.from {l : List Nat} {x : Nat} (h : Cyc st l) (hx : x ∈ l) (nd : l.Nodup) : ∃ t, Cyc st (x :: t) ∧ (x :: t).Nodup ∧ (∀ y, y ∈ x :: t ↔ y ∈ l) ∧ (x :: t).length = l.length := by
  obtain ⟨l1, l2, rfl⟩ := List.append_of_mem hx
  have p : ((x :: l2) ++ l1).Perm (l1 ++ x :: l2) := List.perm_append_comm
  exact ⟨l2 ++ l1, h.rot, p.nodup_iff.2 nd, fun y => p.mem_iff, p.length_eq⟩
/-- A node is put in behind at. -/
def jn (st : Nat → Nat → Int) (h at_ : Nat) : Nat → Nat → Int :=
  upd2 (upd2 (upd2 (upd2 st h 2 (at_ : Nat)) h 3 (st at_ 3)) at_ 3 (h : Nat)) (st at_ 3).toNat 2 (h : Nat)
theorem jn_f {h a x j : Nat} (hj : j ≠ 2 ∧ j ≠ 3) : jn st h a x j = st x j := by
  unfold jn; rw [upd2_j hj.1, upd2_j hj.2, upd2_j hj.2, upd2_j hj.1]
theorem Cyc.next {a : Nat} {t : List Nat} (h : Cyc st (a :: t)) : ∃ r s, t ++ [a] = r :: s ∧ st a 3 = (r : Nat) ∧ st r 2 = (a : Nat) ∧ Lk st (r :: s) := by
  cases t with
  | nil => exact ⟨a, [], rfl, h.1, h.2.1, trivial⟩
  | cons b u => exact ⟨b, u ++ [a], rfl, h.1, h.2.1, h.2.2⟩
theorem Cyc.join {a h : Nat} {t : List Nat} (C : Cyc st (a :: t)) (nd : (a :: t).Nodup) (hh : h ∉ a :: t) : Cyc (jn st h a) (a :: h :: t) := by
  obtain ⟨r, s, e, h1, h2, h3⟩ := C.next
  have er : (st a 3).toNat = r := by rw [h1]; omega
  have nd2 : (t ++ [a]).Nodup := (List.perm_append_comm (l₁ := t) (l₂ := [a])).nodup_iff.2 nd
  have hmem : ∀ x, x ∈ t ++ [a] ↔ x ∈ a :: t := fun x => (List.perm_append_comm (l₁ := t) (l₂ := [a])).mem_iff
  have hra : h ≠ r := by
    rintro rfl
    exact hh ((hmem h).1 (by rw [e]; simp))
  have hha : h ≠ a := by rintro rfl; simp at hh
  show Lk (jn st h a) (a :: h :: (t ++ [a]))
  rw [e]
  rw [e] at nd2
  refine ⟨?_, ?_, ?_, ?_, ?_⟩
  · unfold jn; rw [er, upd2_j (by omega), upd2_at]
  · unfold jn; rw [er, upd2_v hra, upd2_j (by omega), upd2_j (by omega), upd2_at]
  · unfold jn; rw [er, upd2_j (by omega), upd2_v hha, upd2_at, h1]
  · unfold jn; rw [er, upd2_at]
  · refine Lk.congr (fun x hx => ?_) (fun x hx => ?_) h3
    · have hx2 : x ∈ t := by rw [← e, List.dropLast_concat] at hx; exact hx
      have n1 : x ≠ a := by rintro rfl; exact (List.nodup_cons.1 nd).1 hx2
      have n2 : x ≠ h := by rintro rfl; exact hh (List.mem_cons_of_mem _ hx2)
      unfold jn; rw [upd2_j (by omega), upd2_v n1, upd2_v n2, upd2_v n2]
    · have hx : x ∈ s := hx
      have n1 : x ≠ r := by rintro rfl; exact (List.nodup_cons.1 nd2).1 hx
      have n2 : x ≠ h := by
        rintro rfl
        exact hh ((hmem _).1 (by rw [e]; exact List.mem_cons_of_mem _ hx))
      unfold jn; rw [er, upd2_v n1, upd2_j (by omega), upd2_j (by omega), upd2_v n2]
/-- A node alone. -/
theorem Cyc.one {a : Nat} (h3 : st a 3 = (a : Nat)) (h2 : st a 2 = (a : Nat)) : Cyc st [a] := ⟨h3, h2, trivial⟩
/-- A node is taken out of its ring. -/
def lv (st : Nat → Nat → Int) (h : Nat) : Nat → Nat → Int :=
  upd2 (upd2 (upd2 (upd2 st (st h 2).toNat 3 (st h 3)) (st h 3).toNat 2 (st h 2)) h 2 (h : Nat)) h 3 (h : Nat)
theorem lv_f {h x j : Nat} (hj : j ≠ 2 ∧ j ≠ 3) : lv st h x j = st x j := by
  unfold lv; rw [upd2_j hj.2, upd2_j hj.1, upd2_j hj.1, upd2_j hj.2]
theorem Cyc.sides {h : Nat} {t : List Nat} (C : Cyc st (h :: t)) : ∃ l r : Nat, st h 2 = l ∧ st h 3 = r ∧ l ∈ h :: t ∧ r ∈ h :: t := by
  obtain ⟨r, s, e, h1, h2, h3⟩ := C.next
  have hr : r ∈ h :: t := (List.perm_append_comm (l₁ := t) (l₂ := [h])).mem_iff.1 (by rw [e]; simp)
  have : ∃ l, l ∈ h :: t ∧ st h 2 = (l : Nat) := by
    rcases List.eq_nil_or_concat t with rfl | ⟨u, z, rfl⟩
    · exact ⟨h, by simp, C.2.1⟩
    · have C : Lk st (h :: (u ++ [z]) ++ [h]) := by simpa [Cyc] using C
      have e : h :: (u ++ [z]) ++ [h] = (h :: u) ++ [z, h] := by simp
      rw [e, Lk.snoc] at C
      exact ⟨z, by simp, C.2.2⟩
  obtain ⟨l, hl, e2⟩ := this
  exact ⟨l, r, e2, h1, hl, hr⟩
theorem Cyc.leave {h : Nat} {t : List Nat} (C : Cyc st (h :: t)) (nd : (h :: t).Nodup) : Cyc (lv st h) t := by
  cases t with
  | nil => trivial
  | cons y t' =>
    have hy : st h 3 = (y : Nat) := C.1
    have hyt : h ∉ y :: t' := (List.nodup_cons.1 nd).1
    have ndt := (List.nodup_cons.1 nd).2
    show Lk (lv st h) (y :: t' ++ [y])
    rcases List.eq_nil_or_concat (y :: t') with e | ⟨u, z, e⟩
    · cases e
    · have e : y :: t' = u ++ [z] := by simpa using e
      have C : Lk st (h :: (y :: t') ++ [h]) := C
      rw [e] at C
      have e3 : h :: (u ++ [z]) ++ [h] = (h :: u) ++ [z, h] := by simp
      rw [e3, Lk.snoc] at C
      obtain ⟨C1, hz3, hz2⟩ := C
      have C1 : Lk st (u ++ [z]) := by
        have : Lk st (h :: (u ++ [z])) := C1
        rw [← e] at this ⊢
        exact this.2.2
      have ez : (st h 2).toNat = z := by rw [hz2]; omega
      have ey : (st h 3).toNat = y := by rw [hy]; omega
      have hzm : z ∈ y :: t' := by rw [e]; simp
      have nz : z ≠ h := by rintro rfl; exact hyt hzm
      have ny : y ≠ h := by rintro rfl; exact hyt (by simp)
      rw [e]
      have e4 : u ++ [z] ++ [y] = u ++ [z, y] := by simp
      rw [e4, Lk.snoc]
      refine ⟨Lk.congr (fun x hx => ?_) (fun x hx => ?_) C1, ?_, ?_⟩
      · rw [List.dropLast_concat] at hx
        have n1 : x ≠ z := by
          rintro rfl
          rw [e] at ndt
          have := List.nodup_append.1 ndt
          exact absurd rfl (this.2.2 x hx x (by simp))
        have n2 : x ≠ h := by rintro rfl; exact hyt (by rw [e]; simp [hx])
        unfold lv; rw [ez, ey, upd2_v n2, upd2_v n2, upd2_j (by omega), upd2_v n1]
      · have hx' : x ∈ t' := by rw [← e] at hx; exact hx
        have n1 : x ≠ y := by rintro rfl; exact (List.nodup_cons.1 ndt).1 hx'
        have n2 : x ≠ h := by rintro rfl; exact hyt (List.mem_cons_of_mem _ hx')
        unfold lv; rw [ez, ey, upd2_v n2, upd2_v n2, upd2_v n1, upd2_j (by omega)]
      · unfold lv; rw [ez, ey, upd2_v nz, upd2_v nz, upd2_j (by omega), upd2_at, hy]
      · unfold lv; rw [ez, ey, upd2_v ny, upd2_v ny, upd2_at, hz2]
/-- Off the ring nothing changes. -/
theorem jn_out {h a x j : Nat} {t : List Nat} (C : Cyc st (a :: t)) (hx : x ∉ a :: t) (hh : x ≠ h) : jn st h a x j = st x j := by
  obtain ⟨r, s, e, h1, h2, h3⟩ := C.next
  have er : (st a 3).toNat = r := by rw [h1]; omega
  have hr : r ∈ a :: t := (List.perm_append_comm (l₁ := t) (l₂ := [a])).mem_iff.1 (by rw [e]; simp)
  unfold jn
  rw [er, upd2_v (by rintro rfl; exact hx hr), upd2_v (by rintro rfl; simp at hx), upd2_v hh, upd2_v hh]
theorem lv_out {h x j : Nat} {t : List Nat} (C : Cyc st (h :: t)) (hx : x ∉ h :: t) : lv st h x j = st x j := by
  obtain ⟨l, r, e1, e2, hl, hr⟩ := C.sides
  have hh : x ≠ h := by rintro rfl; simp at hx
  unfold lv
  rw [e1, e2, Int.toNat_natCast, Int.toNat_natCast, upd2_v hh, upd2_v hh, upd2_v (by rintro rfl; exact hx hr), upd2_v (by rintro rfl; exact hx hl)]
end

end Go.Proofs.YtjlojokockfapaaGreatDoor

namespace Go.Proofs.YtjlojokockfapaaGreatDoor
open Go
open Classical
set_option linter.unusedVariables false

/-- Who comes out ahead of whom. -/
def ahd (key : Nat → Int) (a b : Nat) : Prop := key a < key b ∨ (key a = key b ∧ a < b)
theorem ahd_tr {key : Nat → Int} {a b c : Nat} (h : ahd key a b) (k : ahd key b c) : ahd key a c := by unfold ahd at *; omega
theorem ahd_irr {key : Nat → Int} {a : Nat} : ¬ ahd key a a := by unfold ahd; omega
theorem ahd_or {key : Nat → Int} {a b : Nat} : a = b ∨ ahd key a b ∨ ahd key b a := by unfold ahd; omega

/-- How many are so. -/
noncomputable def cntP (n : Nat) (P : Nat → Prop) : Int := sumN n fun x => if P x then 1 else 0
theorem cntP_congr {n : Nat} {P Q : Nat → Prop} (h : ∀ x, x < n → (P x ↔ Q x)) : cntP n P = cntP n Q := sumN_congr fun x hx => by
  by_cases e : P x
  · rw [if_pos e, if_pos ((h x hx).1 e)]
  · rw [if_neg e, if_neg (fun k => e ((h x hx).2 k))]
theorem cntP_le {n : Nat} {P Q : Nat → Prop} (h : ∀ x, x < n → P x → Q x) : cntP n P ≤ cntP n Q := sumN_le fun x hx => by
  by_cases e : P x
  · rw [if_pos e, if_pos (h x hx e)]; omega
  · rw [if_neg e]; split <;> omega
theorem cntP_0 {n : Nat} {P : Nat → Prop} (h : ∀ x, x < n → ¬ P x) : cntP n P = 0 := sumN_zero fun x hx => if_neg (h x hx)
theorem cntP_nn {n : Nat} {P : Nat → Prop} : 0 ≤ cntP n P := sumN_nonneg fun x _ => by split <;> omega
theorem cntP_all {n : Nat} {P : Nat → Prop} : cntP n P ≤ n := by
  have := sumN_bd (f := fun x => if P x then 1 else 0) (k := n) (c := 1) fun x _ => by split <;> omega
  unfold cntP; omega
theorem cntP_add {n a : Nat} {P : Nat → Prop} (ha : a < n) (h : ¬ P a) : cntP n (fun x => x = a ∨ P x) = cntP n P + 1 := by
  have : cntP n (fun x => x = a ∨ P x) = sumN n fun x => (if P x then 1 else 0) + (if a = x then 1 else 0) := sumN_congr fun x _ => by
    by_cases e : x = a
    · subst e; rw [if_pos (.inl rfl), if_neg h, if_pos rfl]; rfl
    · by_cases k : P x
      · rw [if_pos (.inr k), if_pos k, if_neg (fun h => e h.symm)]; rfl
      · rw [if_neg (by rintro (h | h); exact e h; exact k h), if_neg k, if_neg (fun h => e h.symm)]; rfl
  rw [this, sumN_add, sumN_pt, if_pos ha]; rfl
theorem cntP_one {n a : Nat} {P : Nat → Prop} (ha : a < n) (h : P a) : 1 ≤ cntP n P := by
  have := cntP_le (n := n) (P := fun x => x = a ∨ False) (Q := P) (fun x _ hx => by rcases hx with rfl | h; exact h; exact h.elim)
  rw [cntP_add ha (fun h => h)] at this
  rw [cntP_0 (P := fun _ => False) fun _ _ h => h] at this
  omega
/-- At most one more. -/
theorem cntP_le1 {n a : Nat} {P Q : Nat → Prop} (h : ∀ x, x < n → P x → x = a ∨ Q x) : cntP n P ≤ cntP n Q + 1 := by
  by_cases ha : a < n
  · by_cases q : Q a
    · have := cntP_le (n := n) (P := P) (Q := Q) fun x hx hp => by
        rcases h x hx hp with rfl | h
        · exact q
        · exact h
      omega
    · have := cntP_le (n := n) (P := P) (Q := fun x => x = a ∨ Q x) h
      rw [cntP_add ha q] at this; omega
  · have := cntP_le (n := n) (P := P) (Q := Q) fun x hx hp => by
      rcases h x hx hp with rfl | h
      · exact absurd hx ha
      · exact h
    omega
theorem cntP_list {n : Nat} : ∀ {l : List Nat}, l.Nodup → (∀ x ∈ l, x < n) → cntP n (fun x => x ∈ l) = l.length
  | [], _, _ => cntP_0 fun x _ h => by simp at h
  | a :: t, nd, h => by
    have ih := cntP_list (l := t) (List.nodup_cons.1 nd).2 fun x hx => h x (List.mem_cons_of_mem _ hx)
    have : cntP n (fun x => x ∈ a :: t) = cntP n fun x => x = a ∨ x ∈ t := cntP_congr fun x _ => List.mem_cons
    rw [this, cntP_add (h a (by simp)) (List.nodup_cons.1 nd).1, ih]; simp

/-- A forest: A the nodes, R the tops, C p the ring of p's children; z may be out of order, y have one child less than its mark tells. -/
structure FT (n : Nat) (key : Nat → Int) (A R : Nat → Prop) (z y : Int) (st : Nat → Nat → Int) (C : Nat → List Nat) : Prop where
  lt : ∀ x, A x → x < n
  ra : ∀ x, R x → A x
  mem : ∀ p x, A p → (x ∈ C p ↔ A x ∧ ¬ R x ∧ st x 0 = (p : Nat))
  nd : ∀ p, A p → (C p).Nodup
  cyc : ∀ p, A p → Cyc st (C p)
  par : ∀ x, A x → ¬ R x → ∃ p : Nat, st x 0 = p ∧ A p
  ch : ∀ p, A p → (C p = [] ∧ st p 1 = -1) ∨ ∃ c : Nat, st p 1 = c ∧ c ∈ C p
  ord : ∀ x p : Nat, A x → ¬ R x → st x 0 = p → (x : Int) ≠ z → ahd key p x
  dg : ∀ p, A p → st p 4 = (C p).length
  cn : ∀ p, A p → ∀ d : Nat, cntP n (fun x => A x ∧ ¬ R x ∧ st x 0 = (p : Nat) ∧ st x 4 + st x 5 + (if (x : Int) = y then 1 else 0) ≤ d) ≤ d + 1
  mrk : ∀ x, A x → st x 5 = 0 ∨ st x 5 = 1

section
variable {n : Nat} {key : Nat → Int} {A R : Nat → Prop} {z y : Int} {st st' : Nat → Nat → Int} {C : Nat → List Nat}
theorem FT.len (F : FT n key A R z y st C) {p : Nat} (hp : A p) : cntP n (fun x => A x ∧ ¬ R x ∧ st x 0 = (p : Nat)) = (C p).length := by
  rw [← cntP_list (F.nd p hp) fun x hx => F.lt x ((F.mem p x hp).1 hx).1]
  exact cntP_congr fun x _ => (F.mem p x hp).symm
/-- No node has many children. -/
theorem FT.few (F : FT n key A R z y st C) (hn : n ≤ 1024) {p : Nat} (hp : A p) (hz : (y < 0 ∨ ∃ w : Nat, y = w ∧ (R w ∨ ¬ A w))) : 0 ≤ st p 4 ∧ st p 4 < 64 := by
  have hd : ∀ q, A q → 0 ≤ st q 4 := fun q hq => by rw [F.dg q hq]; omega
  refine ⟨hd p hp, ?_⟩
  apply Classical.byContradiction
  intro hge
  let c : Nat → Prop := fun x => A x ∧ ¬ R x ∧ st x 0 = (p : Nat)
  have hnz : ∀ x : Nat, c x → (x : Int) ≠ y := by
    rintro x ⟨h1, h2, _⟩ e
    rcases hz with h | ⟨w, h, k⟩
    · omega
    · have : x = w := by omega
      subst this
      rcases k with k | k
      · exact h2 k
      · exact k h1
  have K : cntP n c = st p 4 := by rw [F.dg p hp]; exact F.len hp
  -- grandchildren
  have g1 : sumN n (fun x => if c x then st x 4 else 0) ≤ n := by
    have e1 : sumN n (fun x => if c x then st x 4 else 0) = sumN n fun x => sumN n fun v => if c x ∧ A v ∧ ¬ R v ∧ st v 0 = (x : Nat) then 1 else 0 := sumN_congr fun x _ => by
      by_cases hc : c x
      · rw [if_pos hc, F.dg x hc.1, ← F.len hc.1]
        refine sumN_congr fun v _ => ?_
        by_cases k : A v ∧ ¬ R v ∧ st v 0 = (x : Nat)
        · rw [if_pos k, if_pos ⟨hc, k⟩]
        · rw [if_neg k, if_neg (fun h => k h.2)]
      · rw [if_neg hc]
        exact (sumN_zero fun v _ => if_neg (fun h => hc h.1)).symm
    rw [e1, sumN_swap]
    have : sumN n (fun v => sumN n fun x => if c x ∧ A v ∧ ¬ R v ∧ st v 0 = (x : Nat) then 1 else 0) ≤ sumN n fun _ => 1 := sumN_le fun v _ => by
      have e2 : sumN n (fun x => if c x ∧ A v ∧ ¬ R v ∧ st v 0 = (x : Nat) then (1 : Int) else 0) ≤ sumN n fun x => if (st v 0).toNat = x then 1 else 0 := sumN_le fun x _ => by
        by_cases h : c x ∧ A v ∧ ¬ R v ∧ st v 0 = (x : Nat)
        · rw [if_pos h, if_pos (by have := h.2.2.2; omega)]; omega
        · rw [if_neg h]; split <;> omega
      rw [sumN_pt] at e2
      refine Int.le_trans e2 ?_
      split <;> omega
    rw [sumN_const] at this
    omega
  have g2 : sumN n (fun x => if c x then st x 4 + st x 5 else 0) ≤ sumN n (fun x => if c x then st x 4 else 0) + cntP n c := by
    unfold cntP
    rw [← sumN_add]
    refine sumN_le fun x _ => ?_
    by_cases h : c x
    · rw [if_pos h, if_pos h, if_pos h]; have := F.mrk x h.1; omega
    · rw [if_neg h, if_neg h, if_neg h]; omega
  have g3 : sumN n (fun x => if c x then sumN 63 (fun d => if (d : Int) < st x 4 + st x 5 then 1 else 0) else 0) ≤ sumN n (fun x => if c x then st x 4 + st x 5 else 0) := sumN_le fun x _ => by
    by_cases h : c x
    · rw [if_pos h, if_pos h]
      have hv : 0 ≤ st x 4 + st x 5 := by have := hd x h.1; have := F.mrk x h.1; omega
      have key : ∀ k, sumN k (fun d => if (d : Int) < st x 4 + st x 5 then 1 else 0) ≤ st x 4 + st x 5 ∧ sumN k (fun d => if (d : Int) < st x 4 + st x 5 then 1 else 0) ≤ k := by
        intro k
        induction k with
        | zero => exact ⟨hv, by simp [sumN]⟩
        | succ k ih =>
          have e : sumN (k + 1) (fun d => if (d : Int) < st x 4 + st x 5 then (1 : Int) else 0) = sumN k (fun d => if (d : Int) < st x 4 + st x 5 then (1 : Int) else 0) + (if (k : Int) < st x 4 + st x 5 then 1 else 0) := rfl
          rw [e]
          split <;> omega
      exact (key 63).1
    · rw [if_neg h, if_neg h]; omega
  have g4 : sumN n (fun x => if c x then sumN 63 (fun d => if (d : Int) < st x 4 + st x 5 then 1 else 0) else 0) = sumN 63 fun d => sumN n fun x => if c x ∧ (d : Int) < st x 4 + st x 5 then 1 else 0 := by
    rw [← sumN_swap]
    refine sumN_congr fun x _ => ?_
    by_cases h : c x
    · rw [if_pos h]
      refine sumN_congr fun d _ => ?_
      by_cases k : (d : Int) < st x 4 + st x 5
      · rw [if_pos k, if_pos ⟨h, k⟩]
      · rw [if_neg k, if_neg (fun q => k q.2)]
    · rw [if_neg h]; exact (sumN_zero fun d _ => if_neg (fun q => h q.1)).symm
  have g5 : sumN 63 (fun d => st p 4 - ((d : Int) + 1)) ≤ sumN 63 fun d => sumN n fun x => if c x ∧ (d : Int) < st x 4 + st x 5 then 1 else 0 := sumN_le fun d _ => by
    have := F.cn p hp d
    have e : cntP n c ≤ cntP n (fun x => A x ∧ ¬ R x ∧ st x 0 = (p : Nat) ∧ st x 4 + st x 5 + (if (x : Int) = y then 1 else 0) ≤ d) + sumN n fun x => if c x ∧ (d : Int) < st x 4 + st x 5 then 1 else 0 := by
      unfold cntP
      rw [← sumN_add]
      refine sumN_le fun x _ => ?_
      by_cases h : c x
      · rw [if_pos h]
        by_cases k : (d : Int) < st x 4 + st x 5
        · rw [if_pos (show c x ∧ _ from ⟨h, k⟩)]; split <;> omega
        · have hz := hnz x h
          rw [if_pos (show A x ∧ _ from ⟨h.1, h.2.1, h.2.2, by rw [if_neg hz]; omega⟩)]; split <;> omega
      · rw [if_neg h]; split <;> split <;> omega
    rw [K] at e
    omega
  have g6 : sumN 63 (fun d => st p 4 - ((d : Int) + 1)) = 63 * st p 4 - 2016 := by
    rw [sumN_sub, sumN_const]
    have : sumN 63 (fun d => (d : Int) + 1) = 2016 := by decide
    rw [this]; rfl
  rw [K] at g2
  omega
theorem FT.congr (F : FT n key A R z y st C) (h0 : ∀ x, A x → ¬ R x → ∀ j, st' x j = st x j) (h1 : ∀ x, A x → st' x 1 = st x 1 ∧ st' x 4 = st x 4) (h5 : ∀ x, A x → st' x 5 = 0 ∨ st' x 5 = 1) : FT n key A R z y st' C := by
  have hm : ∀ p x, A p → x ∈ C p → A x ∧ ¬ R x := fun p x hp hx => let h := (F.mem p x hp).1 hx; ⟨h.1, h.2.1⟩
  refine ⟨F.lt, F.ra, fun p x hp => ?_, F.nd, fun p hp => ?_, fun x hx hr => ?_, fun p hp => ?_, fun x p hx hr hp => ?_, fun p hp => ?_, fun p hp d => ?_, h5⟩
  · rw [F.mem p x hp]
    constructor
    · rintro ⟨a, b, c⟩; exact ⟨a, b, by rw [h0 x a b]; exact c⟩
    · rintro ⟨a, b, c⟩; exact ⟨a, b, by rw [h0 x a b] at c; exact c⟩
  · exact (F.cyc p hp).congr (fun x hx => h0 x (hm p x hp hx).1 (hm p x hp hx).2 3) (fun x hx => h0 x (hm p x hp hx).1 (hm p x hp hx).2 2)
  · rw [h0 x hx hr]; exact F.par x hx hr
  · rw [(h1 p hp).1]; exact F.ch p hp
  · rw [h0 x hx hr] at hp; exact F.ord x p hx hr hp
  · rw [(h1 p hp).2]; exact F.dg p hp
  · rw [cntP_congr (Q := fun x => A x ∧ ¬ R x ∧ st x 0 = (p : Nat) ∧ st x 4 + st x 5 + (if (x : Int) = y then 1 else 0) ≤ d) fun x _ => ?_]
    · exact F.cn p hp d
    · constructor
      · rintro ⟨a, b, c, e⟩; rw [h0 x a b, h0 x a b] at e; rw [h0 x a b] at c; exact ⟨a, b, c, e⟩
      · rintro ⟨a, b, c, e⟩; refine ⟨a, b, ?_, ?_⟩
        · rw [h0 x a b]; exact c
        · rw [h0 x a b, h0 x a b]; exact e
/-- Nobody is out of order. -/
theorem FT.clean (F : FT n key A R z y st C) (hz : z < 0 ∨ ∃ w : Nat, z = w ∧ (R w ∨ ¬ A w)) (hy : y < 0 ∨ ∃ w : Nat, y = w ∧ (R w ∨ ¬ A w)) : FT n key A R (-1) (-1) st C := by
  have out : ∀ {z : Int}, (z < 0 ∨ ∃ w : Nat, z = w ∧ (R w ∨ ¬ A w)) → ∀ x : Nat, A x → ¬ R x → (x : Int) ≠ z := by
    intro z hz x h1 h2 e
    rcases hz with h | ⟨w, h, k⟩
    · omega
    · have : x = w := by omega
      subst this
      rcases k with k | k
      · exact h2 k
      · exact k h1
  refine ⟨F.lt, F.ra, F.mem, F.nd, F.cyc, F.par, F.ch, fun x p hx hr hp _ => F.ord x p hx hr hp (out hz x hx hr), F.dg, fun p hp d => ?_, F.mrk⟩
  rw [cntP_congr (Q := fun x => A x ∧ ¬ R x ∧ st x 0 = (p : Nat) ∧ st x 4 + st x 5 + (if (x : Int) = y then 1 else 0) ≤ d) fun x _ => ?_]
  · exact F.cn p hp d
  · constructor
    · rintro ⟨a, b, c, e⟩; exact ⟨a, b, c, by rw [if_neg (out hy x a b)]; rwa [if_neg (by omega)] at e⟩
    · rintro ⟨a, b, c, e⟩; exact ⟨a, b, c, by rw [if_neg (by omega)]; rwa [if_neg (out hy x a b)] at e⟩
/-- The best of the tops is the best of all. -/
theorem FT.min (F : FT n key A R (-1) (-1) st C) {b : Nat} (hb : ∀ v, R v → v = b ∨ ahd key b v) : ∀ x, A x → x = b ∨ ahd key b x := by
  have key2 : ∀ k : Nat, ∀ x, A x → cntP n (fun y => ahd key y x) ≤ k → x = b ∨ ahd key b x := by
    intro k
    induction k with
    | zero =>
      intro x hx hk
      by_cases hr : R x
      · exact hb x hr
      · obtain ⟨p, hp, hap⟩ := F.par x hx hr
        have := F.ord x p hx hr hp (by omega)
        have := cntP_one (n := n) (P := fun y => ahd key y x) (F.lt p hap) this
        omega
    | succ k ih =>
      intro x hx hk
      by_cases hr : R x
      · exact hb x hr
      · obtain ⟨p, hp, hap⟩ := F.par x hx hr
        have ho := F.ord x p hx hr hp (by omega)
        have h1 : cntP n (fun y => y = p ∨ ahd key y p) ≤ cntP n (fun y => ahd key y x) := cntP_le fun y _ hy => by
          rcases hy with rfl | hy
          · exact ho
          · exact ahd_tr hy ho
        rw [cntP_add (P := fun y => ahd key y p) (F.lt p hap) ahd_irr] at h1
        right
        rcases ih p hap (by omega) with rfl | h
        · exact ho
        · exact ahd_tr h ho
  intro x hx
  exact key2 n x hx cntP_all
end

end Go.Proofs.YtjlojokockfapaaGreatDoor

namespace Go.Proofs.YtjlojokockfapaaGreatDoor
open Go
open Classical
set_option linter.unusedVariables false

section
variable {n : Nat} {key : Nat → Int} {A R : Nat → Prop} {z y : Int} {st st' : Nat → Nat → Int} {C : Nat → List Nat}
theorem FT.init : FT n key (fun _ => False) (fun _ => False) (-1) (-1) st C :=
  ⟨fun _ h => h.elim, fun _ h => h, fun _ _ h => h.elim, fun _ h => h.elim, fun _ h => h.elim, fun _ h => h.elim, fun _ h => h.elim, fun _ _ h => h.elim, fun _ h => h.elim, fun _ h => h.elim, fun _ h => h.elim⟩
theorem FT.rekey {key' : Nat → Int} (F : FT n key A R z y st C) (h : ∀ x, A x → ¬ R x → ∀ p : Nat, st x 0 = p → (x : Int) ≠ z → ahd key p x → ahd key' p x) : FT n key' A R z y st C :=
  ⟨F.lt, F.ra, F.mem, F.nd, F.cyc, F.par, F.ch, fun x p hx hr hp hz => h x hx hr p hp hz (F.ord x p hx hr hp hz), F.dg, F.cn, F.mrk⟩
/-- A new top. -/
theorem FT.put (F : FT n key A R (-1) (-1) st C) {h : Nat} (hn : h < n) (hA : ¬ A h) (hs : ∀ x, x ≠ h → ∀ j, st' x j = st x j) (h1 : st' h 1 = -1) (h4 : st' h 4 = 0) (h5 : st' h 5 = 0) :
    FT n key (fun x => x = h ∨ A x) (fun x => x = h ∨ R x) (-1) (-1) st' (fun p => if p = h then [] else C p) := by
  have ne : ∀ x, A x → x ≠ h := fun x hx e => hA (e ▸ hx)
  have hp : ∀ x : Nat, A x → ¬ R x → st x 0 ≠ (h : Nat) := fun x hx hr e => by
    obtain ⟨p, e2, hp⟩ := F.par x hx hr
    have : p = h := by omega
    exact hA (this ▸ hp)
  have out : ∀ x, (x = h ∨ A x) ∧ ¬ (x = h ∨ R x) ↔ A x ∧ ¬ R x := fun x => by
    constructor
    · rintro ⟨h1 | h1, h2⟩
      · exact absurd (.inl h1) h2
      · exact ⟨h1, fun k => h2 (.inr k)⟩
    · rintro ⟨h1, h2⟩
      exact ⟨.inr h1, by rintro (k | k); exact ne x h1 k; exact h2 k⟩
  refine ⟨?_, ?_, ?_, ?_, ?_, ?_, ?_, ?_, ?_, ?_, ?_⟩
  · rintro x (rfl | hx)
    · exact hn
    · exact F.lt x hx
  · rintro x (rfl | hx)
    · exact .inl rfl
    · exact .inr (F.ra x hx)
  · intro p x hpA
    rw [← and_assoc, out x]
    by_cases e : p = h
    · subst e
      rw [if_pos rfl]
      constructor
      · intro k; simp at k
      · rintro ⟨⟨k1, k2⟩, k3⟩
        rw [hs x (ne x k1)] at k3
        exact absurd k3 (hp x k1 k2)
    · rw [if_neg e, F.mem p x (hpA.resolve_left e)]
      constructor
      · rintro ⟨a, b, c⟩; exact ⟨⟨a, b⟩, by rw [hs x (ne x a)]; exact c⟩
      · rintro ⟨⟨a, b⟩, c⟩; exact ⟨a, b, by rw [hs x (ne x a)] at c; exact c⟩
  · intro p hpA
    show (if p = h then [] else C p).Nodup
    by_cases e : p = h
    · rw [if_pos e]; exact List.nodup_nil
    · rw [if_neg e]; exact F.nd p (hpA.resolve_left e)
  · intro p hpA
    show Cyc st' (if p = h then [] else C p)
    by_cases e : p = h
    · rw [if_pos e]; trivial
    · rw [if_neg e]
      have hpA := hpA.resolve_left e
      exact (F.cyc p hpA).congr (fun x hx => hs x (ne x ((F.mem p x hpA).1 hx).1) 3) (fun x hx => hs x (ne x ((F.mem p x hpA).1 hx).1) 2)
  · intro x hx hr
    obtain ⟨a, b⟩ := (out x).1 ⟨hx, hr⟩
    obtain ⟨p, e, hpA⟩ := F.par x a b
    exact ⟨p, by rw [hs x (ne x a)]; exact e, .inr hpA⟩
  · intro p hpA
    show ((if p = h then [] else C p) = [] ∧ _) ∨ ∃ c : Nat, _ ∧ c ∈ (if p = h then [] else C p)
    by_cases e : p = h
    · subst e; rw [if_pos rfl]; exact .inl ⟨rfl, h1⟩
    · rw [if_neg e, hs p e]; exact F.ch p (hpA.resolve_left e)
  · intro x p hx hr hp' hz
    obtain ⟨a, b⟩ := (out x).1 ⟨hx, hr⟩
    rw [hs x (ne x a)] at hp'
    exact F.ord x p a b hp' hz
  · intro p hpA
    show _ = (((if p = h then [] else C p).length : Nat) : Int)
    by_cases e : p = h
    · subst e; rw [if_pos rfl, h4]; rfl
    · rw [if_neg e, hs p e]; exact F.dg p (hpA.resolve_left e)
  · intro p hpA d
    by_cases e : p = h
    · subst e
      rw [cntP_0]
      · omega
      · rintro x _ ⟨k1, k2, k3, _⟩
        obtain ⟨a, b⟩ := (out x).1 ⟨k1, k2⟩
        rw [hs x (ne x a)] at k3
        exact hp x a b k3
    · refine Int.le_trans (cntP_le fun x _ => ?_) (F.cn p (hpA.resolve_left e) d)
      rintro ⟨k1, k2, k3, k4⟩
      obtain ⟨a, b⟩ := (out x).1 ⟨k1, k2⟩
      rw [hs x (ne x a)] at k3
      rw [hs x (ne x a), hs x (ne x a)] at k4
      exact ⟨a, b, k3, k4⟩
  · rintro x (rfl | hx)
    · exact .inl h5
    · rw [hs x (ne x hx)]; exact F.mrk x hx

/-- A node is cut off its parent. -/
theorem FT.drop (F : FT n key A R z y st C) {h p : Nat} (hA : A h) (hR : ¬ R h) (hp : st h 0 = (p : Nat)) (hz : ∀ x : Nat, x ≠ h → (x : Int) ≠ z) (hy : ∀ x : Nat, x ≠ h → (x : Int) ≠ y)
    (s0 : ∀ x, x ≠ p → ∀ j, j ≠ 2 ∧ j ≠ 3 → st' x j = st x j) (s4 : st' p 4 = st p 4 - 1) (s1 : st' p 1 = if st p 4 - 1 = 0 then -1 else if st p 1 = (h : Nat) then st h 3 else st p 1)
    (sp : st' p 0 = st p 0 ∧ st' p 5 = st p 5) (sl : ∀ x, st' x 2 = lv st h x 2 ∧ st' x 3 = lv st h x 3) :
    ∃ C', FT n key A (fun x => x = h ∨ R x) (-1) (p : Nat) st' C' := by
  obtain ⟨p', hp', hpA⟩ := F.par h hA hR
  have : p' = p := by omega
  subst this
  have hmem : h ∈ C p' := (F.mem p' h hpA).2 ⟨hA, hR, hp⟩
  obtain ⟨t, hc, hnd, hm, hl⟩ := (F.cyc p' hpA).from hmem (F.nd p' hpA)
  have ht : ∀ x, x ∈ t ↔ x ∈ C p' ∧ x ≠ h := fun x => by
    rw [← hm x]
    constructor
    · intro k; exact ⟨List.mem_cons_of_mem _ k, by rintro rfl; exact (List.nodup_cons.1 hnd).1 k⟩
    · rintro ⟨k, k2⟩
      rcases List.mem_cons.1 k with e | e
      · exact absurd e k2
      · exact e
  have e0 : ∀ x, st' x 0 = st x 0 := fun x => by
    by_cases e : x = p'
    · subst e; exact sp.1
    · exact s0 x e 0 (by omega)
  have e5 : ∀ x, st' x 5 = st x 5 := fun x => by
    by_cases e : x = p'
    · subst e; exact sp.2
    · exact s0 x e 5 (by omega)
  have eC : ∀ q, (if q = p' then t else C q) = if q = p' then t else C q := fun _ => rfl
  refine ⟨fun q => if q = p' then t else C q, F.lt, ?_, ?_, ?_, ?_, ?_, ?_, ?_, ?_, ?_, ?_⟩
  · rintro x (rfl | hx)
    · exact hA
    · exact F.ra x hx
  · intro q x hq
    show x ∈ (if q = p' then t else C q) ↔ _
    rw [e0]
    by_cases e : q = p'
    · subst e
      rw [if_pos rfl, ht, F.mem q x hq]
      constructor
      · rintro ⟨⟨a, b, c⟩, d⟩; exact ⟨a, by rintro (k | k); exact d k; exact b k, c⟩
      · rintro ⟨a, b, c⟩; exact ⟨⟨a, fun k => b (.inr k), c⟩, fun k => b (.inl k)⟩
    · rw [if_neg e, F.mem q x hq]
      constructor
      · rintro ⟨a, b, c⟩
        refine ⟨a, ?_, c⟩
        rintro (k | k)
        · subst k; omega
        · exact b k
      · rintro ⟨a, b, c⟩; exact ⟨a, fun k => b (.inr k), c⟩
  · intro q hq
    show (if q = p' then t else C q).Nodup
    by_cases e : q = p'
    · rw [if_pos e]; exact (List.nodup_cons.1 hnd).2
    · rw [if_neg e]; exact F.nd q hq
  · intro q hq
    show Cyc st' (if q = p' then t else C q)
    by_cases e : q = p'
    · rw [if_pos e]
      exact (hc.leave hnd).congr (fun x _ => (sl x).2) (fun x _ => (sl x).1)
    · rw [if_neg e]
      have hout : ∀ x ∈ C q, x ∉ h :: t := fun x hx k => by
        have a := (F.mem q x hq).1 hx
        have b := (F.mem p' x hpA).1 ((hm x).1 k)
        omega
      refine (F.cyc q hq).congr (fun x hx => ?_) (fun x hx => ?_)
      · rw [(sl x).2, lv_out hc (hout x hx)]
      · rw [(sl x).1, lv_out hc (hout x hx)]
  · intro x hx hr
    rw [e0]; exact F.par x hx fun k => hr (.inr k)
  · intro q hq
    show ((if q = p' then t else C q) = [] ∧ _) ∨ ∃ c : Nat, _ ∧ c ∈ (if q = p' then t else C q)
    by_cases e : q = p'
    · subst e
      rw [if_pos rfl, s1]
      have hd := F.dg q hpA
      rw [← hl] at hd
      by_cases k : st q 4 - 1 = 0
      · rw [if_pos k]
        left
        refine ⟨?_, rfl⟩
        have : t.length = 0 := by simp at hd; omega
        exact List.length_eq_zero_iff.1 this
      · rw [if_neg k]
        right
        have htne : t ≠ [] := by
          rintro rfl
          simp at hd; omega
        by_cases k2 : st q 1 = (h : Nat)
        · rw [if_pos k2]
          cases t with
          | nil => exact absurd rfl htne
          | cons a u => exact ⟨a, hc.1, by simp⟩
        · rw [if_neg k2]
          rcases F.ch q hpA with ⟨k3, _⟩ | ⟨c, k3, k4⟩
          · rw [k3] at hmem; simp at hmem
          · exact ⟨c, k3, (ht c).2 ⟨k4, by rintro rfl; exact k2 k3⟩⟩
    · rw [if_neg e, s0 q e 1 (by omega)]; exact F.ch q hq
  · intro x q hx hr hq _
    rw [e0] at hq
    exact F.ord x q hx (fun k => hr (.inr k)) hq (hz x fun k => hr (.inl k))
  · intro q hq
    show _ = (((if q = p' then t else C q).length : Nat) : Int)
    by_cases e : q = p'
    · subst e; rw [if_pos rfl, s4, F.dg q hq, ← hl]; simp
    · rw [if_neg e, s0 q e 4 (by omega)]; exact F.dg q hq
  · intro q hq d
    refine Int.le_trans (cntP_le fun x _ => ?_) (F.cn q hq d)
    rintro ⟨a, b, c, e⟩
    have hxh : x ≠ h := fun k => b (.inl k)
    refine ⟨a, fun k => b (.inr k), by rw [e0] at c; exact c, ?_⟩
    rw [if_neg (hy x hxh)]
    rw [e5] at e
    by_cases k : x = p'
    · subst k; rw [s4, if_pos rfl] at e; omega
    · rw [s0 x k 4 (by omega), if_neg (by omega)] at e; exact e
  · intro x hx; rw [e5]; exact F.mrk x hx
/-- The parent is marked. -/
theorem FT.mark (F : FT n key A R (-1) y st C) {p : Nat} (hy : y = (p : Nat)) (hp : A p) (h5 : st p 5 = 0) (hs : ∀ x j, (x ≠ p ∨ j ≠ 5) → st' x j = st x j) (h5' : st' p 5 = 1) : FT n key A R (-1) (-1) st' C := by
  refine ⟨F.lt, F.ra, fun q x hq => ?_, F.nd, fun q hq => ?_, fun x hx hr => ?_, fun q hq => ?_, fun x q hx hr hq => ?_, fun q hq => ?_, fun q hq d => ?_, fun x hx => ?_⟩
  · rw [hs x 0 (.inr (by omega))]; exact F.mem q x hq
  · exact (F.cyc q hq).congr (fun x _ => hs x 3 (.inr (by omega))) (fun x _ => hs x 2 (.inr (by omega)))
  · rw [hs x 0 (.inr (by omega))]; exact F.par x hx hr
  · rw [hs q 1 (.inr (by omega))]; exact F.ch q hq
  · rw [hs x 0 (.inr (by omega))] at hq; exact F.ord x q hx hr hq
  · rw [hs q 4 (.inr (by omega))]; exact F.dg q hq
  · refine Int.le_trans (cntP_le fun x _ => ?_) (F.cn q hq d)
    rintro ⟨a, b, c, e⟩
    rw [hs x 0 (.inr (by omega))] at c
    rw [hs x 4 (.inr (by omega)), if_neg (by omega)] at e
    refine ⟨a, b, c, ?_⟩
    by_cases k : x = p
    · subst k; rw [if_pos (by omega)]; omega
    · rw [if_neg (by omega)]; rw [hs x 5 (.inl k)] at e; exact e
  · by_cases k : x = p
    · subst k; exact .inr h5'
    · rw [hs x 5 (.inl k)]; exact F.mrk x hx
end

end Go.Proofs.YtjlojokockfapaaGreatDoor

namespace Go.Proofs.YtjlojokockfapaaGreatDoor
open Go
open Classical
set_option linter.unusedVariables false

section
variable {n : Nat} {key : Nat → Int} {A R : Nat → Prop} {z y : Int} {st st' : Nat → Nat → Int} {C : Nat → List Nat}
/-- A top leaves; its children are tops. -/
theorem FT.lose (F : FT n key A R (-1) (-1) st C) {b : Nat} (hb : R b) :
    FT n key (fun x => A x ∧ x ≠ b) (fun x => (R x ∧ x ≠ b) ∨ (A x ∧ ¬ R x ∧ st x 0 = (b : Nat))) (-1) (-1) st C := by
  have out : ∀ x, (A x ∧ x ≠ b) → ¬ ((R x ∧ x ≠ b) ∨ (A x ∧ ¬ R x ∧ st x 0 = (b : Nat))) → A x ∧ ¬ R x ∧ st x 0 ≠ (b : Nat) := by
    rintro x ⟨h1, h2⟩ h3
    have hr : ¬ R x := fun k => h3 (.inl ⟨k, h2⟩)
    exact ⟨h1, hr, fun k => h3 (.inr ⟨h1, hr, k⟩)⟩
  refine ⟨fun x hx => F.lt x hx.1, ?_, ?_, fun p hp => F.nd p hp.1, fun p hp => F.cyc p hp.1, ?_, fun p hp => F.ch p hp.1, ?_, fun p hp => F.dg p hp.1, ?_, fun x hx => F.mrk x hx.1⟩
  · rintro x (⟨h1, h2⟩ | ⟨h1, h2, _⟩)
    · exact ⟨F.ra x h1, h2⟩
    · exact ⟨h1, by rintro rfl; exact h2 hb⟩
  · rintro p x ⟨hp, hpb⟩
    rw [F.mem p x hp]
    constructor
    · rintro ⟨h1, h2, h3⟩
      refine ⟨⟨h1, by rintro rfl; exact h2 hb⟩, ?_, h3⟩
      rintro (⟨k, _⟩ | ⟨_, _, k⟩)
      · exact h2 k
      · omega
    · rintro ⟨h1, h2, h3⟩
      obtain ⟨a, c, d⟩ := out x h1 h2
      exact ⟨a, c, h3⟩
  · intro x h1 h2
    obtain ⟨a, c, d⟩ := out x h1 h2
    obtain ⟨p, e, hp⟩ := F.par x a c
    exact ⟨p, e, hp, by rintro rfl; exact d e⟩
  · intro x p h1 h2 h3 h4
    obtain ⟨a, c, d⟩ := out x h1 h2
    exact F.ord x p a c h3 h4
  · rintro p ⟨hp, _⟩ d
    refine Int.le_trans (cntP_le fun x _ => ?_) (F.cn p hp d)
    rintro ⟨h1, h2, h3, h4⟩
    obtain ⟨a, c, _⟩ := out x h1 h2
    exact ⟨a, c, h3, h4⟩

/-- A top becomes the child of another of the same degree. -/
theorem FT.hang (F : FT n key A R (-1) (-1) st C) {a b : Nat} (ha : R a) (hb : R b) (hab : ahd key a b) (hd : st b 4 = st a 4)
    (s0 : ∀ x, x ≠ a → x ≠ b → ∀ j, j ≠ 2 ∧ j ≠ 3 → st' x j = st x j) (sa : st' a 0 = st a 0 ∧ st' a 5 = st a 5) (sa4 : st' a 4 = st a 4 + 1)
    (sb : st' b 0 = (a : Nat) ∧ st' b 1 = st b 1 ∧ st' b 4 = st b 4 ∧ st' b 5 = st b 5)
    (sc : (st a 1 = -1 ∧ st' a 1 = (b : Nat) ∧ st b 2 = (b : Nat) ∧ st b 3 = (b : Nat) ∧ (∀ x, st' x 2 = st x 2 ∧ st' x 3 = st x 3)) ∨
      (∃ c : Nat, st a 1 = c ∧ st' a 1 = c ∧ ∀ x, st' x 2 = jn st b c x 2 ∧ st' x 3 = jn st b c x 3)) :
    ∃ C', FT n key A (fun x => R x ∧ x ≠ b) (-1) (-1) st' C' := by
  have hA := F.ra a ha
  have hB := F.ra b hb
  have hne : a ≠ b := by rintro rfl; exact ahd_irr hab
  have hbC : ∀ p, A p → b ∉ C p := fun p hp k => ((F.mem p b hp).1 k).2.1 hb
  have haC : ∀ p, A p → a ∉ C p := fun p hp k => ((F.mem p a hp).1 k).2.1 ha
  -- the ring of a's children
  obtain ⟨L, hL1, hL2, hL3, hL4, hL5, hL6⟩ : ∃ L : List Nat, Cyc st' L ∧ L.Nodup ∧ (∀ x, x ∈ L ↔ x = b ∨ x ∈ C a) ∧ L.length = (C a).length + 1 ∧ (∃ c : Nat, st' a 1 = c ∧ c ∈ L) ∧
      ∀ p, A p → p ≠ a → ∀ x ∈ C p, st' x 2 = st x 2 ∧ st' x 3 = st x 3 := by
    rcases sc with ⟨h1, h2, h3, h4, h5⟩ | ⟨c, h1, h2, h3⟩
    · have hnil : C a = [] := by
        rcases F.ch a hA with ⟨k, _⟩ | ⟨c, k, _⟩
        · exact k
        · omega
      refine ⟨[b], Cyc.one (by rw [(h5 b).2]; exact h4) (by rw [(h5 b).1]; exact h3), by simp, fun x => by rw [hnil]; simp, by rw [hnil]; rfl, ⟨b, h2, by simp⟩, fun _ _ _ x _ => h5 x⟩
    · have hc : c ∈ C a := by
        rcases F.ch a hA with ⟨_, k⟩ | ⟨c', k, k2⟩
        · omega
        · have : c' = c := by omega
          exact this ▸ k2
      obtain ⟨t, k1, k2, k3, k4⟩ := (F.cyc a hA).from hc (F.nd a hA)
      have hbt : b ∉ c :: t := fun k => hbC a hA ((k3 b).1 k)
      refine ⟨c :: b :: t, (k1.join k2 hbt).congr (fun x _ => (h3 x).2) (fun x _ => (h3 x).1), ?_, fun x => ?_, ?_, ⟨c, h2, by simp⟩, ?_⟩
      · simp only [List.nodup_cons, List.mem_cons] at k2 hbt ⊢
        refine ⟨?_, fun k => hbt (.inr k), k2.2⟩
        rintro (k | k)
        · exact hbt (.inl k.symm)
        · exact k2.1 k
      · rw [← k3 x]; simp only [List.mem_cons]
        constructor
        · rintro (k | k | k)
          · exact .inr (.inl k)
          · exact .inl k
          · exact .inr (.inr k)
        · rintro (k | k | k)
          · exact .inr (.inl k)
          · exact .inl k
          · exact .inr (.inr k)
      · rw [← k4]; simp
      · intro p hp hpa x hx
        have hout : x ∉ c :: t := fun k => by
          have a1 := (F.mem p x hp).1 hx
          have a2 := (F.mem a x hA).1 ((k3 x).1 k)
          omega
        have hxb : x ≠ b := by rintro rfl; exact hbC p hp hx
        rw [(h3 x).1, (h3 x).2, jn_out k1 hout hxb, jn_out k1 hout hxb]
        exact ⟨rfl, rfl⟩
  have out : ∀ x, A x → ¬ (R x ∧ x ≠ b) → x = b ∨ (x ≠ b ∧ ¬ R x) := fun x _ h => by
    by_cases e : x = b
    · exact .inl e
    · exact .inr ⟨e, fun k => h ⟨k, e⟩⟩
  have e0 : ∀ x, x ≠ b → st' x 0 = st x 0 := fun x hx => by
    by_cases e : x = a
    · subst e; exact sa.1
    · exact s0 x e hx 0 (by omega)
  have e5 : ∀ x, st' x 5 = st x 5 := fun x => by
    by_cases e : x = a
    · subst e; exact sa.2
    · by_cases e2 : x = b
      · subst e2; exact sb.2.2.2
      · exact s0 x e e2 5 (by omega)
  have e4 : ∀ x, x ≠ a → st' x 4 = st x 4 := fun x hx => by
    by_cases e2 : x = b
    · subst e2; exact sb.2.2.1
    · exact s0 x hx e2 4 (by omega)
  refine ⟨fun q => if q = a then L else C q, F.lt, fun x hx => F.ra x hx.1, ?_, ?_, ?_, ?_, ?_, ?_, ?_, ?_, ?_⟩
  · intro p x hp
    show x ∈ (if p = a then L else C p) ↔ _
    by_cases e : p = a
    · subst e
      rw [if_pos rfl, hL3, F.mem p x hp]
      constructor
      · rintro (rfl | ⟨h1, h2, h3⟩)
        · exact ⟨hB, fun k => k.2 rfl, sb.1⟩
        · exact ⟨h1, fun k => h2 k.1, by rw [e0 x (by rintro rfl; exact h2 hb)]; exact h3⟩
      · rintro ⟨h1, h2, h3⟩
        rcases out x h1 h2 with k | ⟨k, k2⟩
        · exact .inl k
        · rw [e0 x k] at h3; exact .inr ⟨h1, k2, h3⟩
    · rw [if_neg e, F.mem p x hp]
      constructor
      · rintro ⟨h1, h2, h3⟩
        exact ⟨h1, fun k => h2 k.1, by rw [e0 x (by rintro rfl; exact h2 hb)]; exact h3⟩
      · rintro ⟨h1, h2, h3⟩
        rcases out x h1 h2 with k | ⟨k, k2⟩
        · subst k; exact absurd (Int.ofNat.inj (h3.symm.trans sb.1)) e
        · rw [e0 x k] at h3; exact ⟨h1, k2, h3⟩
  · intro p hp
    show (if p = a then L else C p).Nodup
    by_cases e : p = a
    · rw [if_pos e]; exact hL2
    · rw [if_neg e]; exact F.nd p hp
  · intro p hp
    show Cyc st' (if p = a then L else C p)
    by_cases e : p = a
    · rw [if_pos e]; exact hL1
    · rw [if_neg e]
      exact (F.cyc p hp).congr (fun x hx => (hL6 p hp e x hx).2) (fun x hx => (hL6 p hp e x hx).1)
  · intro x h1 h2
    rcases out x h1 h2 with k | ⟨k, k2⟩
    · subst k; exact ⟨a, sb.1, hA⟩
    · rw [e0 x k]; exact F.par x h1 k2
  · intro p hp
    show ((if p = a then L else C p) = [] ∧ _) ∨ ∃ c : Nat, _ ∧ c ∈ (if p = a then L else C p)
    by_cases e : p = a
    · subst e; rw [if_pos rfl]; exact .inr hL5
    · rw [if_neg e]
      have : st' p 1 = st p 1 := by
        by_cases e2 : p = b
        · subst e2; exact sb.2.1
        · exact s0 p e e2 1 (by omega)
      rw [this]; exact F.ch p hp
  · intro x p h1 h2 h3 _
    rcases out x h1 h2 with k | ⟨k, k2⟩
    · subst k
      have : p = a := by have := sb.1; omega
      subst this; exact hab
    · rw [e0 x k] at h3; exact F.ord x p h1 k2 h3 (by omega)
  · intro p hp
    show _ = (((if p = a then L else C p).length : Nat) : Int)
    by_cases e : p = a
    · subst e; rw [if_pos rfl, sa4, F.dg p hp, hL4]; omega
    · rw [if_neg e, e4 p e]; exact F.dg p hp
  · intro p hp d
    have val : ∀ x, A x → ¬ R x → st' x 4 + st' x 5 = st x 4 + st x 5 := fun x hx hr => by
      rw [e4 x (by rintro rfl; exact hr ha), e5]
    by_cases e : p = a
    · subst e
      by_cases hdl : ((C p).length : Int) ≤ d
      · have : cntP n (fun x => A x ∧ ¬ (R x ∧ x ≠ b) ∧ st' x 0 = (p : Nat) ∧ st' x 4 + st' x 5 + (if (x : Int) = -1 then 1 else 0) ≤ d) ≤ cntP n (fun x => A x ∧ ¬ R x ∧ st x 0 = (p : Nat)) + 1 :=
          cntP_le1 (a := b) fun x _ => by
            rintro ⟨h1, h2, h3, _⟩
            rcases out x h1 h2 with k | ⟨k, k2⟩
            · exact .inl k
            · rw [e0 x k] at h3; exact .inr ⟨h1, k2, h3⟩
        rw [F.len hp] at this
        omega
      · refine Int.le_trans (cntP_le fun x _ => ?_) (F.cn p hp d)
        rintro ⟨h1, h2, h3, h4⟩
        rcases out x h1 h2 with k | ⟨k, k2⟩
        · subst k
          exfalso
          rw [sb.2.2.1, sb.2.2.2, hd, F.dg p hp, if_neg (by omega)] at h4
          have := F.mrk x hB
          omega
        · rw [e0 x k] at h3
          rw [val x h1 k2] at h4
          exact ⟨h1, k2, h3, h4⟩
    · refine Int.le_trans (cntP_le fun x _ => ?_) (F.cn p hp d)
      rintro ⟨h1, h2, h3, h4⟩
      rcases out x h1 h2 with k | ⟨k, k2⟩
      · subst k; exact absurd (Int.ofNat.inj (h3.symm.trans sb.1)) e
      · rw [e0 x k] at h3
        rw [val x h1 k2] at h4
        exact ⟨h1, k2, h3, h4⟩
  · intro x hx; rw [e5]; exact F.mrk x hx
end

/-- The ring of the tops, and the best of them. -/
structure RI (key : Nat → Int) (st : Nat → Nat → Int) (L : List Nat) (best : Int) : Prop where
  nd : L.Nodup
  cyc : Cyc st L
  r0 : ∀ x ∈ L, st x 0 = -1
  bst : (L = [] ∧ best = -1) ∨ ∃ b : Nat, best = b ∧ b ∈ L ∧ ∀ v ∈ L, v = b ∨ ahd key b v

end Go.Proofs.YtjlojokockfapaaGreatDoor

namespace Go.Proofs.YtjlojokockfapaaGreatDoor
open Go
set_option linter.unusedVariables false
set_option linter.unusedSimpArgs false

/-- A cell of the links. -/
def fcl (st : Nat → Nat → Int) (p : Nat) : Value := if p % 6 = 5 then .bool (decide (st (p / 6) 5 = 1)) else .int .i64 (st (p / 6) (p % 6))
theorem add_2 (b i j : Nat) : ((bk b).add i).add j = (bk b).add (i + j) := by rw [bk_add, bk_add2, bk_add]
theorem fcl_i {st : Nat → Nat → Int} {x k : Nat} (hk : k < 5) : fcl st (x * 6 + k) = .int .i64 (st x k) := by
  unfold fcl
  rw [show (x * 6 + k) % 6 = k by omega, show (x * 6 + k) / 6 = x by omega, if_neg (by omega)]
theorem fcl_b {st : Nat → Nat → Int} {x : Nat} : fcl st (x * 6 + 5) = .bool (decide (st x 5 = 1)) := by
  unfold fcl
  rw [show (x * 6 + 5) % 6 = 5 by omega, show (x * 6 + 5) / 6 = x by omega, if_pos rfl]
theorem fcl_setI {st : Nat → Nat → Int} {x k : Nat} {v : Int} (hk : k < 5) : updV (fcl st) (x * 6 + k) (.int .i64 v) = fcl (upd2 st x k v) := by
  funext p
  unfold updV
  by_cases e : p = x * 6 + k
  · subst e; rw [if_pos rfl, fcl_i hk, upd2_at]
  · rw [if_neg e]
    unfold fcl
    by_cases h5 : p % 6 = 5
    · rw [if_pos h5, if_pos h5, upd2_j (by omega)]
    · rw [if_neg h5, if_neg h5]
      unfold upd2
      rw [if_neg (by omega)]
theorem fcl_setB {st : Nat → Nat → Int} {x : Nat} {t : Bool} : updV (fcl st) (x * 6 + 5) (.bool t) = fcl (upd2 st x 5 (if t then 1 else 0)) := by
  funext p
  unfold updV
  by_cases e : p = x * 6 + 5
  · subst e; rw [if_pos rfl, fcl_b, upd2_at]; cases t <;> rfl
  · rw [if_neg e]
    unfold fcl
    by_cases h5 : p % 6 = 5
    · rw [if_pos h5, if_pos h5, upd2_v (by omega)]
    · rw [if_neg h5, if_neg h5, upd2_j (by omega)]

section
variable {own own' : Own} {h h' : H} {i b n : Nat} {st : Nat → Nat → Int}
abbrev HL (own : Own) (h : H) (i b n : Nat) (st : Nat → Nat → Int) : Prop := B1 own h i b (va (n * 6) (fcl st))
theorem HL.ix {x c : Nat} {K : Addr → Prop} (hx : x < n) (k : K ((bk b).add (x * 6))) : ixS (.slice (some (bk b)) n c) (x : Int) 6 K := nx hx k
theorem HL.rd {x k : Nat} (L : HL own h i b n st) (hx : x < n) (hk : k < 5) : hcell h (((bk b).add (x * 6)).add k) = some (.int .i64 (st x k)) := by
  rw [add_2]
  refine L.ld ?_
  rw [va_get (by omega), fcl_i hk]
theorem HL.rd5 {x : Nat} (L : HL own h i b n st) (hx : x < n) : hcell h (((bk b).add (x * 6)).add 5) = some (.bool (decide (st x 5 = 1))) := by
  rw [add_2]
  refine L.ld ?_
  rw [va_get (by omega), fcl_b]
theorem HL.ldI {x k : Nat} {K : Int → Prop} (L : HL own h i b n st) (hx : x < n) (hk : k < 5) (q : K (st x k)) : ldI h (((bk b).add (x * 6)).add k) .i64 K := ⟨_, L.rd hx hk, q⟩
theorem HL.ldB {x : Nat} {K : Bool → Prop} (L : HL own h i b n st) (hx : x < n) (q : K (decide (st x 5 = 1))) : ldB h (((bk b).add (x * 6)).add 5) K := ⟨_, L.rd5 hx, q⟩
theorem HL.stI {x k : Nat} {v : Int} {K : H → Prop} (L : HL own h i b n st) (hx : x < n) (hk : k < 5)
    (q : ∀ g, Fm [i] own h own g → HL own g i b n (upd2 st x k v) → K g) : stC h (((bk b).add (x * 6)).add k) (.int .i64 v) K := by
  rw [add_2]
  refine L.st (by rw [va_length]; omega) fun g F L' => q g F ?_
  rw [va_set, fcl_setI hk] at L'
  exact L'
theorem HL.stB {x : Nat} {t : Bool} {K : H → Prop} (L : HL own h i b n st) (hx : x < n)
    (q : ∀ g, Fm [i] own h own g → HL own g i b n (upd2 st x 5 (if t then 1 else 0)) → K g) : stC h (((bk b).add (x * 6)).add 5) (.bool t) K := by
  rw [add_2]
  refine L.st (by rw [va_length]; omega) fun g F L' => q g F ?_
  rw [va_set, fcl_setB] at L'
  exact L'

/-- A queue of kind Fibonacci: owners 31 (the queue), 32 (its engine), 33 (keys), 34 (held), 35 (links). -/
structure HQ (own : Own) (h : H) (bq bf bl n : Nat) (key : Nat → Int) (held : Nat → Bool) (cnt last best : Int) (st : Nat → Nat → Int) : Prop where
  q : ∃ vk vh, B1 own h 31 bq [vk, vh, .iface 148 (.pointer (some (bk bf))), .int .i64 cnt, .int .i64 3, .int .i64 last] ∧ S1 own h 33 vk (ints n key) ∧ S1 own h 34 vh (bools n held)
  f : B1 own h 32 bf [.pointer (some (bk bq)), .int .i64 best, slV bl n]
  l : HL own h 35 bl n st
variable {bq bf bl : Nat} {key : Nat → Int} {held : Nat → Bool} {cnt last best : Int}
theorem HQ.fm {M : List Nat} (Q : HQ own h bq bf bl n key held cnt last best st) (F : Fm M own h own' h') (hM : ∀ j, j ∈ M → j < 31 ∨ 35 < j) : HQ own' h' bq bf bl n key held cnt last best st := by
  obtain ⟨vk, vh, k1, k2, k3⟩ := Q.q
  have no : ∀ j, 31 ≤ j → j ≤ 35 → j ∉ M := fun j h1 h2 k => by have := hM j k; omega
  exact ⟨⟨vk, vh, k1.fm F (no _ (by omega) (by omega)), k2.fm F (no _ (by omega) (by omega)), k3.fm F (no _ (by omega) (by omega))⟩, Q.f.fm F (no _ (by omega) (by omega)), Q.l.fm F (no _ (by omega) (by omega))⟩
/-- The links changed. -/
theorem HQ.ln {st' : Nat → Nat → Int} {g : H} (Q : HQ own h bq bf bl n key held cnt last best st) (F : Fm [35] own h own g) (L : HL own g 35 bl n st') : HQ own g bq bf bl n key held cnt last best st' := by
  obtain ⟨vk, vh, k1, k2, k3⟩ := Q.q
  exact ⟨⟨vk, vh, k1.fm F (by simp), k2.fm F (by simp), k3.fm F (by simp)⟩, Q.f.fm F (by simp), L⟩
theorem HQ.sI {x k : Nat} {v : Int} {K : H → Prop} (Q : HQ own h bq bf bl n key held cnt last best st) (hx : x < n) (hk : k < 5)
    (q : ∀ g, Fm [35] own h own g → HQ own g bq bf bl n key held cnt last best (upd2 st x k v) → K g) : stC h (((bk bl).add (x * 6)).add k) (.int .i64 v) K :=
  Q.l.stI hx hk fun g F L => q g F (Q.ln F L)
theorem HQ.s5 {x : Nat} {t : Bool} {K : H → Prop} (Q : HQ own h bq bf bl n key held cnt last best st) (hx : x < n)
    (q : ∀ g, Fm [35] own h own g → HQ own g bq bf bl n key held cnt last best (upd2 st x 5 (if t then 1 else 0)) → K g) : stC h (((bk bl).add (x * 6)).add 5) (.bool t) K :=
  Q.l.stB hx fun g F L => q g F (Q.ln F L)
/-- The engine's best. -/
theorem HQ.sb {x : Int} {K : H → Prop} (Q : HQ own h bq bf bl n key held cnt last best st)
    (q : ∀ g, Fm [32] own h own g → HQ own g bq bf bl n key held cnt last x st → K g) : stC h ((bk bf).add 1) (.int .i64 x) K :=
  Q.f.st (j := 1) (by simp) fun g F B => q g F (by
    obtain ⟨vk, vh, k1, k2, k3⟩ := Q.q
    exact ⟨⟨vk, vh, k1.fm F (by simp), k2.fm F (by simp), k3.fm F (by simp)⟩, B, Q.l.fm F (by simp)⟩)

theorem ahead_T (Q : HQ own h bq bf bl n key held cnt last best st) {a b : Nat} (ha : a < n) (hb : b < n) :
    T Tryz.prog F.heaps_keyed_ahead [.pointer (some (bk bq)), .int .i64 a, .int .i64 b] h fun r h' => ∃ t : Bool, r = .ret (.bool t) ∧ (t = true ↔ ahd key a b) ∧ h = h' := by
  obtain ⟨vk, vh, k1, k2, k3⟩ := Q.q
  refine E_heaps_keyed_ahead ?_
  unfold B_heaps_keyed_ahead
  refine ptrP_mk (ptrP_mk ⟨_, k1.ld rfl, k2.rdI ha ⟨_, k1.ld rfl, k2.rdI hb (ifP_of (fun h1 => ?_) (fun h1 => ?_))⟩⟩)
  · exact ⟨true, rfl, ⟨fun _ => .inl (of_decide_eq_true h1), fun _ => rfl⟩, rfl⟩
  have h1 := of_decide_eq_false h1
  refine ptrP_mk (ptrP_mk ⟨_, k1.ld rfl, k2.rdI ha ⟨_, k1.ld rfl, k2.rdI hb (ifP_of (fun h2 => ?_) (fun h2 => ?_))⟩⟩)
  · have h2 := of_decide_eq_true h2
    refine ⟨_, rfl, ?_, rfl⟩
    rw [decide_eq_true_iff]
    unfold ahd; omega
  · have h2 := of_decide_eq_false h2
    refine ⟨false, rfl, ?_, rfl⟩
    unfold ahd
    constructor
    · intro h; cases h
    · intro h; omega

theorem join_T (Q : HQ own h bq bf bl n key held cnt last best st) {x a r : Nat} (hx : x < n) (ha : a < n) (hr : r < n) (hs : st a 3 = (r : Nat)) :
    T Tryz.prog F.heaps_fibonacci_join [.pointer (some (bk bf)), .int .i64 x, .int .i64 a] h fun r h' => r = .ret (.tuple ⟨[]⟩) ∧ Fm [35] own h own h' ∧ HQ own h' bq bf bl n key held cnt last best (jn st x a) := by
  refine E_heaps_fibonacci_join ?_
  unfold B_heaps_fibonacci_join
  refine ptrP_mk ⟨_, Q.f.ld rfl, HL.ix ha (Q.l.ldI ha (by omega) ?_)⟩
  rw [hs]
  refine ptrP_mk (ptrP_mk ⟨_, Q.f.ld rfl, _, Q.f.ld rfl, HL.ix hx (Q.sI hx (by omega) fun g1 F1 Q => ?_)⟩)
  refine HL.ix hx (Q.sI hx (by omega) fun g2 F2 Q => ?_)
  refine ptrP_mk (ptrP_mk ⟨_, Q.f.ld rfl, _, Q.f.ld rfl, HL.ix ha (Q.sI ha (by omega) fun g3 F3 Q => ?_)⟩)
  refine HL.ix hr (Q.sI hr (by omega) fun g4 F4 Q => ?_)
  refine ⟨rfl, ((F1.trans F2).trans F3).trans F4, ?_⟩
  unfold jn
  rw [hs, Int.toNat_natCast]
  exact Q
theorem leave_T (Q : HQ own h bq bf bl n key held cnt last best st) {x l r : Nat} (hx : x < n) (hl : l < n) (hr : r < n) (h2 : st x 2 = (l : Nat)) (h3 : st x 3 = (r : Nat)) :
    T Tryz.prog F.heaps_fibonacci_leave [.pointer (some (bk bf)), .int .i64 x] h fun r h' => r = .ret (.tuple ⟨[]⟩) ∧ Fm [35] own h own h' ∧ HQ own h' bq bf bl n key held cnt last best (lv st x) := by
  refine E_heaps_fibonacci_leave ?_
  unfold B_heaps_fibonacci_leave
  refine ptrP_mk (ptrP_mk ⟨_, Q.f.ld rfl, HL.ix hx (Q.l.ldI hx (by omega) ⟨_, Q.f.ld rfl, HL.ix hx (Q.l.ldI hx (by omega) ?_)⟩)⟩)
  rw [h2, h3]
  refine ptrP_mk (ptrP_mk ⟨_, Q.f.ld rfl, _, Q.f.ld rfl, HL.ix hl (Q.sI hl (by omega) fun g1 F1 Q => ?_)⟩)
  refine HL.ix hr (Q.sI hr (by omega) fun g2 F2 Q => ?_)
  refine ptrP_mk (ptrP_mk ⟨_, Q.f.ld rfl, _, Q.f.ld rfl, HL.ix hx (Q.sI hx (by omega) fun g3 F3 Q => ?_)⟩)
  refine HL.ix hx (Q.sI hx (by omega) fun g4 F4 Q => ?_)
  refine ⟨rfl, ((F1.trans F2).trans F3).trans F4, ?_⟩
  unfold lv
  rw [h2, h3, Int.toNat_natCast, Int.toNat_natCast]
  exact Q
end

end Go.Proofs.YtjlojokockfapaaGreatDoor

namespace Go.Proofs.YtjlojokockfapaaGreatDoor
open Go
set_option linter.unusedVariables false
set_option linter.unusedSimpArgs false

section
variable {own own' : Own} {h h' : H} {n : Nat} {st : Nat → Nat → Int}
variable {bq bf bl : Nat} {key : Nat → Int} {held : Nat → Bool} {cnt last best : Int}
/-- What root leaves. -/
structure RootS (n : Nat) (key : Nat → Int) (st st' : Nat → Nat → Int) (x : Nat) (L L' : List Nat) (best' : Int) : Prop where
  ri : RI key st' L' best'
  mem : ∀ y, y ∈ L' ↔ y = x ∨ y ∈ L
  out : ∀ y, y ≠ x → y ∉ L → ∀ j, st' y j = st y j
  fld : ∀ y, y ≠ x → ∀ j, j ≠ 2 ∧ j ≠ 3 → st' y j = st y j
  me : st' x 0 = -1 ∧ st' x 5 = 0 ∧ st' x 1 = st x 1 ∧ st' x 4 = st x 4
theorem froot_T {L : List Nat} (Q : HQ own h bq bf bl n key held cnt last best st) {x : Nat} (hx : x < n) (I : RI key st L best) (hL : ∀ y ∈ L, y < n) (hxL : x ∉ L) (h2 : st x 2 = (x : Nat)) (h3 : st x 3 = (x : Nat)) :
    T Tryz.prog F.heaps_fibonacci_root [.pointer (some (bk bf)), .int .i64 x] h fun r h' => r = .ret (.tuple ⟨[]⟩) ∧ Fm [32, 35] own h own h' ∧
      ∃ st' best' L', HQ own h' bq bf bl n key held cnt last best' st' ∧ RootS n key st st' x L L' best' := by
  refine E_heaps_fibonacci_root ?_
  unfold B_heaps_fibonacci_root
  refine ptrP_mk (ptrP_mk ⟨_, Q.f.ld rfl, _, Q.f.ld rfl, HL.ix hx (Q.sI hx (by omega) fun g1 F1 Q => HL.ix hx (Q.s5 hx fun g2 F2 Q => ?_))⟩)
  rw [if_neg (by simp)] at Q
  obtain ⟨s1, es1⟩ : ∃ s1, s1 = upd2 (upd2 st x 0 (-1)) x 5 0 := ⟨_, rfl⟩
  rw [← es1] at Q
  have F12 : Fm [32, 35] own h own g2 := (F1.trans F2).mono (by simp)
  have o1 : ∀ y, y ≠ x → ∀ j, s1 y j = st y j := fun y hy j => by rw [es1, upd2_v hy, upd2_v hy]
  have r1 : ∀ y j, j ≠ 0 → j ≠ 5 → s1 y j = st y j := fun y j a b => by rw [es1, upd2_j b, upd2_j a]
  have m0 : s1 x 0 = -1 := by rw [es1, upd2_j (by omega), upd2_at]
  have m5 : s1 x 5 = 0 := by rw [es1, upd2_at]
  refine ptrP_mk ⟨_, Q.f.ld rfl, ?_⟩
  rcases I.bst with ⟨rfl, rfl⟩ | ⟨b, rfl, hb, hmin⟩
  · refine ifP_of (fun _ => ?_) (fun h => by simp at h)
    refine ptrP_mk (Q.sb fun g3 F3 Q => ⟨rfl, F12.trans (F3.mono (by simp)), s1, x, [x], Q, ⟨⟨by simp, Cyc.one (by rw [r1 _ _ (by omega) (by omega)]; exact h3) (by rw [r1 _ _ (by omega) (by omega)]; exact h2), ?_, .inr ⟨x, rfl, by simp, by simp⟩⟩, by simp, fun y hy _ j => o1 y hy j, fun y hy j _ => o1 y hy j, m0, m5, r1 _ _ (by omega) (by omega), r1 _ _ (by omega) (by omega)⟩⟩)
    intro y hy
    simp at hy; subst hy; exact m0
  refine ifP_of (fun h => by have := of_decide_eq_true h; omega) (fun _ => ?_)
  obtain ⟨t, c1, c2, c3, c4⟩ := I.cyc.from hb I.nd
  have c1' : Cyc s1 (b :: t) := c1.congr (fun y _ => r1 y 3 (by omega) (by omega)) (fun y _ => r1 y 2 (by omega) (by omega))
  obtain ⟨l, r, e2, e3, hl, hr⟩ := c1'.sides
  have hbn := hL b hb
  have hrn : r < n := hL r ((c3 r).1 hr)
  have hxt : x ∉ b :: t := fun k => hxL ((c3 x).1 k)
  refine ptrP_mk ⟨_, Q.f.ld rfl, ?_⟩
  refine (join_T Q hx hbn hrn e3).mono ?_
  rintro _ g3 ⟨rfl, F3, Q⟩
  refine rt_ret ⟨rfl, ptrP_mk (ptrP_mk ⟨_, Q.f.ld rfl, _, Q.f.ld rfl, ?_⟩)⟩
  refine (ahead_T Q hx hbn).mono ?_
  rintro _ _ ⟨tt, rfl, htt, rfl⟩
  have F13 := F12.trans (F3.mono (M' := [32, 35]) (by simp))
  have ri : ∀ bb : Nat, (∀ v ∈ b :: x :: t, v = bb ∨ ahd key bb v) → bb ∈ b :: x :: t → RootS n key st (jn s1 x b) x L (b :: x :: t) bb := fun bb hbb hm => by
    refine ⟨⟨?_, c1'.join c2 hxt, ?_, .inr ⟨bb, rfl, hm, hbb⟩⟩, fun y => ?_, fun y hy hyL j => ?_, fun y hy j hj => ?_, ?_⟩
    · simp only [List.nodup_cons, List.mem_cons] at c2 hxt ⊢
      refine ⟨?_, fun k => hxt (.inr k), c2.2⟩
      rintro (k | k)
      · exact hxt (.inl k.symm)
      · exact c2.1 k
    · intro y hy
      rw [jn_f (by omega)]
      by_cases e : y = x
      · subst e; exact m0
      · rw [o1 y e]
        refine I.r0 y ((c3 y).1 ?_)
        simp only [List.mem_cons] at hy ⊢
        rcases hy with k | k | k
        · exact .inl k
        · exact absurd k e
        · exact .inr k
    · rw [← c3 y]; simp only [List.mem_cons]
      constructor
      · rintro (k | k | k)
        · exact .inr (.inl k)
        · exact .inl k
        · exact .inr (.inr k)
      · rintro (k | k | k)
        · exact .inr (.inl k)
        · exact .inl k
        · exact .inr (.inr k)
    · rw [jn_out c1' (fun k => hyL ((c3 y).1 k)) hy, o1 y hy]
    · rw [jn_f hj, o1 y hy]
    · refine ⟨?_, ?_, ?_, ?_⟩ <;> rw [jn_f (by omega)]
      · exact m0
      · exact m5
      · exact r1 _ _ (by omega) (by omega)
      · exact r1 _ _ (by omega) (by omega)
  have hmin' : ∀ v, v ∈ b :: t → v = b ∨ ahd key b v := fun v hv => hmin v ((c3 v).1 hv)
  refine rt_ret ⟨_, rfl, ifP_of (fun k => ?_) (fun k => ?_)⟩
  · have hab := htt.1 k
    refine ptrP_mk (Q.sb fun g4 F4 Q => ⟨rfl, F13.trans (F4.mono (by simp)), _, x, b :: x :: t, Q, ri x (fun v hv => ?_) (by simp)⟩)
    simp only [List.mem_cons] at hv
    rcases hv with e | e | e
    · subst e; exact .inr hab
    · exact .inl e
    · rcases hmin' v (by simp [e]) with e2 | e2
      · subst e2; exact .inr hab
      · exact .inr (ahd_tr hab e2)
  · have hnb : ¬ ahd key x b := fun e => by have := htt.2 e; rw [k] at this; cases this
    refine ⟨rfl, F13, _, b, b :: x :: t, Q, ri b (fun v hv => ?_) (by simp)⟩
    simp only [List.mem_cons] at hv
    rcases hv with e | e | e
    · exact .inl e
    · subst e
      rcases ahd_or (key := key) (a := v) (b := b) with e2 | e2 | e2
      · exact .inl e2
      · exact absurd e2 hnb
      · exact .inr e2
    · exact hmin' v (by simp [e])

theorem HL.put {i b x : Nat} {a0 a1 a2 a3 a4 : Int} {t : Bool} {K : H → Prop} (L : HL own h i b n st) (hx : x < n)
    (q : ∀ g, Fm [i] own h own g → HL own g i b n (upd2 (upd2 (upd2 (upd2 (upd2 (upd2 st x 0 a0) x 1 a1) x 2 a2) x 3 a3) x 4 a4) x 5 (if t then 1 else 0)) → K g) :
    stN h ((bk b).add (x * 6)) [.int .i64 a0, .int .i64 a1, .int .i64 a2, .int .i64 a3, .int .i64 a4, .bool t] 6 K := by
  obtain ⟨e, o, k⟩ := L
  have hlen : (va (n * 6) (fcl st)).length = n * 6 := va_length _ _
  rw [bk_add]
  refine ⟨rfl, by simp [Value.oneCell'], ⟨_, _, k, rfl, by simp only [List.size_toArray, hlen]; omega⟩, q _ ?_ ⟨e, o, ?_⟩⟩
  · refine Fm.kp (b := b) ?_ e ⟨.cells (setR ⟨va (n * 6) (fcl st)⟩ (x * 6) _) o (0, 0), by unfold hset; rw [if_pos rfl, k]; rfl⟩
    intro j ob hj hh
    unfold hset
    rw [if_neg hj]; exact hh
  · unfold hset
    rw [if_pos rfl, k]
    simp only [Option.map_some, setR, List.setIfInBounds_toArray, va_set, Nat.add_assoc]
    have e0 : updV (fcl st) (x * 6) (.int .i64 a0) = fcl (upd2 st x 0 a0) := fcl_setI (k := 0) (by omega)
    have e1 := fcl_setI (st := upd2 st x 0 a0) (x := x) (k := 1) (v := a1) (by omega)
    have e2 := fcl_setI (st := upd2 (upd2 st x 0 a0) x 1 a1) (x := x) (k := 2) (v := a2) (by omega)
    have e3 := fcl_setI (st := upd2 (upd2 (upd2 st x 0 a0) x 1 a1) x 2 a2) (x := x) (k := 3) (v := a3) (by omega)
    have e4 := fcl_setI (st := upd2 (upd2 (upd2 (upd2 st x 0 a0) x 1 a1) x 2 a2) x 3 a3) (x := x) (k := 4) (v := a4) (by omega)
    have e5 := fcl_setB (st := upd2 (upd2 (upd2 (upd2 (upd2 st x 0 a0) x 1 a1) x 2 a2) x 3 a3) x 4 a4) (x := x) (t := t)
    rw [e0, e1, e2, e3, e4, e5]

/-- A ring, read out. -/
theorem ring_T (Q : HQ own h bq bf bl n key held cnt last best st) {x : Nat} {t : List Nat} (hC : Cyc st (x :: t)) (hnd : (x :: t).Nodup) (hn : ∀ y ∈ x :: t, y < n) (hn2 : n ≤ 1024) {j : Nat} (hj : 35 < j) :
    T Tryz.prog F.heaps_fibonacci_ring [.pointer (some (bk bf)), .int .i64 x] h fun r h' => ∃ v own', r = .ret v ∧ Fm [j] own h own' h' ∧ S1 own' h' j v (natV (x :: t)) := by
  refine E_heaps_fibonacci_ring ?_
  unfold B_heaps_fibonacci_ring
  refine ifP_of (fun k => by have := of_decide_eq_true k; omega) (fun _ => ?_)
  refine new_bl ?_
  intro b1 q2 hb1 x2 B1_
  have F0 : Fm [j] own h (own1 own b1 j) q2 := Fm.new x2 hb1
  have k1 : S1 (own1 own b1 j) q2 j (slV b1 1) (natV [x]) := by
    obtain ⟨e, k⟩ := B1_
    exact .inr ⟨b1, own1_at, 1, e, [], rfl, by simpa [natV] using k, rfl⟩
  have Q := Q.fm F0 (by simp; omega)
  generalize own1 own b1 j = own1_ at *
  have hxn := hn x (by simp)
  refine ptrP_mk ⟨_, Q.f.ld rfl, HL.ix hxn (Q.l.ldI hxn (by omega) ?_)⟩
  -- the whole chain
  have hLk : Lk st (x :: t ++ [x]) := hC
  have llen : (x :: t).length ≤ 1024 := by
    have a := cntP_list hnd hn
    have b := cntP_all (n := n) (P := fun y => y ∈ x :: t)
    omega
  let I : (Value × Int × Unit) → H → Nat → Prop := fun p q z => ∃ (l1 l2 : List Nat) (y : Nat) (u : List Nat) (own2 : Own), x :: t = l1 ++ l2 ∧ l1 ≠ [] ∧ l2 ++ [x] = y :: u ∧ p.2.1 = (y : Nat) ∧ z = l2.length ∧ Fm [j] own h own2 q ∧ HQ own2 q bq bf bl n key held cnt last best st ∧ S1 own2 q j p.1 (natV l1)
  refine ⟨fun p q => ∃ k, I p q k, rk I, rk_wf I, ?_, ?_⟩
  · cases t with
    | nil => exact ⟨_, [x], [], x, [], own1_, rfl, by simp, rfl, hLk.1, rfl, F0, Q, k1⟩
    | cons y u => exact ⟨_, [x], y :: u, y, u ++ [x], own1_, rfl, by simp, rfl, hLk.1, rfl, F0, Q, k1⟩
  intro out nn q hI
  obtain ⟨l1, l2, y, u, own2, e1, hne, e2, e3, hk2, F2, Q, k2⟩ := mu_spec hI
  generalize hkk : mu I ((out, nn, ()), q) = km at *
  change nn = (y : Int) at e3
  subst e3
  have hlt : l2 ≠ [] → ∀ l3 : List Nat, l2 = y :: l3 → l3.length < mu I ((out, (y : Int), ()), q) := fun _ l3 e => by rw [hkk, hk2, e]; simp
  clear hI
  refine ifP_of (fun k => ?_) (fun k => ?_)
  · have hyx : y ≠ x := by
      rintro rfl
      simp at k
    cases l2 with
    | nil =>
      exfalso
      have : x = y := by simpa using (List.cons.inj e2).1
      exact hyx this.symm
    | cons y' l3 =>
      have : y' = y := (List.cons.inj e2).1
      subst this
      have hu : u = l3 ++ [x] := (List.cons.inj e2).2.symm
      subst hu
      have hyn : y' < n := hn y' (by rw [e1]; simp)
      have hl1 : l1.length ≤ 1024 := by
        have := congrArg List.length e1
        rw [List.length_append] at this; omega
      refine k2.push (l := 1) rfl (by simp [Value.oneCell']) (by simp) (by omega) (by rw [natV_length]; omega) ?_
      intro bx hm p' own3 q15 hbx xm F3 k3
      have Q := Q.fm F3 (by simp; omega)
      refine ptrP_mk ⟨_, Q.f.ld rfl, HL.ix hyn (Q.l.ldI hyn (by omega) ?_)⟩
      have hst : ∃ y2 u2, l3 ++ [x] = y2 :: u2 ∧ st y' 3 = (y2 : Nat) := by
        rw [e1, show l1 ++ y' :: l3 ++ [x] = l1 ++ y' :: (l3 ++ [x]) by simp, Lk.app] at hLk
        cases l3 with
        | nil => exact ⟨x, [], rfl, hLk.2.1⟩
        | cons a b => exact ⟨a, b ++ [x], rfl, hLk.2.1⟩
      obtain ⟨y2, u2, e4, e5⟩ := hst
      rw [e5]
      refine mu_next (I := I) (k := l3.length) ⟨l1 ++ [y'], l3, y2, u2, own3, by rw [e1]; simp, by simp, e4, rfl, rfl, F2.trans F3, Q, ?_⟩ (hlt (by simp) l3 rfl)
      have : natV (l1 ++ [y']) = natV l1 ++ [.int .i64 (y' : Nat)] := by simp [natV]
      rw [this]; exact k3
  · have hyx : y = x := by have : (y : Int) = x := by simpa using k
                           omega
    subst hyx
    have : l2 = [] := by
      cases l2 with
      | nil => rfl
      | cons y' l3 =>
        exfalso
        have : y' = y := (List.cons.inj e2).1
        subst this
        have : l1 = [] ∨ ∃ l4, l1 = y' :: l4 := by
          cases l1 with
          | nil => exact .inl rfl
          | cons a l4 => exact .inr ⟨l4, by rw [(List.cons.inj e1).1]⟩
        rcases this with h | ⟨l4, rfl⟩
        · exact hne h
        · rw [e1] at hnd; simp at hnd
    subst this
    rw [List.append_nil] at e1
    subst e1
    exact ⟨_, own2, rfl, F2, k2⟩
end

end Go.Proofs.YtjlojokockfapaaGreatDoor

namespace Go.Proofs.YtjlojokockfapaaGreatDoor
open Go
set_option linter.unusedVariables false
set_option linter.unusedSimpArgs false

section
variable {own own' : Own} {h h' : H} {n : Nat} {st : Nat → Nat → Int}
variable {bq bf bl : Nat} {key : Nat → Int} {held : Nat → Bool} {cnt last best : Int}
variable {A R : Nat → Prop} {C : Nat → List Nat}
theorem lv_eq {s s' : Nat → Nat → Int} {x : Nat} (hs : ∀ y, s' y 2 = s y 2 ∧ s' y 3 = s y 3) (y : Nat) : lv s' x y 2 = lv s x y 2 ∧ lv s' x y 3 = lv s x y 3 := by
  unfold lv
  rw [(hs x).1, (hs x).2]
  constructor
  · unfold upd2
    split
    · rfl
    · split
      · rfl
      · split
        · rfl
        · split
          · rfl
          · exact (hs y).1
  · unfold upd2
    split
    · rfl
    · split
      · rfl
      · split
        · rfl
        · split
          · rfl
          · exact (hs y).2
theorem jn_eq {s s' : Nat → Nat → Int} {x a : Nat} (hs : ∀ y, s' y 2 = s y 2 ∧ s' y 3 = s y 3) (y : Nat) : jn s' x a y 2 = jn s x a y 2 ∧ jn s' x a y 3 = jn s x a y 3 := by
  unfold jn
  rw [(hs a).2]
  constructor
  · unfold upd2
    split
    · rfl
    · split
      · rfl
      · split
        · rfl
        · split
          · rfl
          · exact (hs y).1
  · unfold upd2
    split
    · rfl
    · split
      · rfl
      · split
        · rfl
        · split
          · rfl
          · exact (hs y).2

/-- Of two tops one becomes a child of the other. -/
theorem under_T (Q : HQ own h bq bf bl n key held cnt last best st) (Ft : FT n key A R (-1) (-1) st C) {a b : Nat} (ha : R a) (hb : R b) (hab : a ≠ b) (hd : st a 4 = st b 4)
    (hsa : st a 2 = (a : Nat) ∧ st a 3 = (a : Nat)) (hsb : st b 2 = (b : Nat) ∧ st b 3 = (b : Nat)) (hd2 : 0 ≤ st a 4 ∧ st a 4 < 64) :
    T Tryz.prog F.heaps_fibonacci_under [.pointer (some (bk bf)), .int .i64 a, .int .i64 b] h fun r h' => ∃ (w l : Nat) (st' : Nat → Nat → Int) (C' : Nat → List Nat), r = .ret (.int .i64 w) ∧ ((w = a ∧ l = b) ∨ (w = b ∧ l = a)) ∧
      Fm [35] own h own h' ∧ HQ own h' bq bf bl n key held cnt last best st' ∧ FT n key A (fun x => R x ∧ x ≠ l) (-1) (-1) st' C' ∧ st' w 4 = st w 4 + 1 ∧ (∀ x, R x → x ≠ l → x ≠ w → ∀ j, st' x j = st x j) ∧
      (∀ j, j ≠ 1 → j ≠ 4 → st' w j = st w j) := by
  refine E_heaps_fibonacci_under ?_
  unfold B_heaps_fibonacci_under
  have han := Ft.lt a (Ft.ra a ha)
  have hbn := Ft.lt b (Ft.ra b hb)
  refine ⟨fun p q => h = q ∧ ∃ w l : Nat, p.1 = w ∧ p.2.1 = l ∧ ((w = a ∧ l = b) ∨ (w = b ∧ l = a)) ∧ ahd key w l, ?_, ?_⟩
  · refine ptrP_mk ⟨_, Q.f.ld rfl, ?_⟩
    refine (ahead_T Q hbn han).mono ?_
    rintro _ _ ⟨t, rfl, ht, rfl⟩
    refine rt_ret ⟨_, rfl, ifP_of (fun k => ?_) (fun k => ?_)⟩
    · exact ⟨rfl, b, a, rfl, rfl, .inr ⟨rfl, rfl⟩, ht.1 k⟩
    · refine ⟨rfl, a, b, rfl, rfl, .inl ⟨rfl, rfl⟩, ?_⟩
      rcases ahd_or (key := key) (a := a) (b := b) with e | e | e
      · exact absurd e hab
      · exact e
      · have := ht.2 e; rw [k] at this; cases this
  rintro w' l' _ ⟨rfl, w, l, e1, e2, hwl, hah⟩
  change w' = (w : Int) at e1
  change l' = (l : Int) at e2
  subst e1 e2
  have hw : R w ∧ w < n ∧ st w 4 = st a 4 := by
    rcases hwl with ⟨rfl, _⟩ | ⟨rfl, _⟩
    · exact ⟨ha, han, rfl⟩
    · exact ⟨hb, hbn, hd.symm⟩
  have hl : R l ∧ l < n ∧ st l 4 = st a 4 ∧ st l 2 = (l : Nat) ∧ st l 3 = (l : Nat) := by
    rcases hwl with ⟨_, rfl⟩ | ⟨_, rfl⟩
    · exact ⟨hb, hbn, hd.symm, hsb⟩
    · exact ⟨ha, han, rfl, hsa⟩
  have hne : w ≠ l := by rintro rfl; exact ahd_irr hah
  obtain ⟨hRw, hwn, hdw⟩ := hw
  obtain ⟨hRl, hln, hdl, hl2, hl3⟩ := hl
  have hAw := Ft.ra w hRw
  refine ptrP_mk ⟨_, Q.f.ld rfl, HL.ix hln (Q.sI hln (by omega) fun g1 F1 Q => ?_)⟩
  obtain ⟨s1, es1⟩ : ∃ s1, s1 = upd2 st l 0 (w : Nat) := ⟨_, rfl⟩
  rw [← es1] at Q
  have o1 : ∀ y j, y ≠ l ∨ j ≠ 0 → s1 y j = st y j := fun y j hy => by
    rw [es1]
    rcases hy with h | h
    · exact upd2_v h
    · exact upd2_j h
  have m1 : s1 l 0 = (w : Nat) := by rw [es1, upd2_at]
  refine ⟨fun _ q => ∃ s2, Fm [35] own h own q ∧ HQ own q bq bf bl n key held cnt last best s2 ∧ (∀ y j, j ≠ 2 → j ≠ 3 → (y ≠ w ∨ j ≠ 1) → s2 y j = s1 y j) ∧
    (∀ x, R x → x ≠ l → x ≠ w → ∀ j, s2 x j = st x j) ∧ (s2 w 2 = st w 2 ∧ s2 w 3 = st w 3) ∧
    ((st w 1 = -1 ∧ s2 w 1 = (l : Nat) ∧ (∀ x, s2 x 2 = st x 2 ∧ s2 x 3 = st x 3)) ∨ (∃ c : Nat, st w 1 = c ∧ s2 w 1 = c ∧ ∀ x, s2 x 2 = jn st l c x 2 ∧ s2 x 3 = jn st l c x 3)), ?_, ?_⟩
  · refine ptrP_mk ⟨_, Q.f.ld rfl, HL.ix hwn (Q.l.ldI hwn (by omega) ?_)⟩
    rw [o1 w 1 (.inr (by omega))]
    rcases Ft.ch w hAw with ⟨hn, hc⟩ | ⟨c, hc, hcm⟩
    · rw [hc]
      refine ifP_of (fun k => by simp at k) (fun _ => ?_)
      refine ptrP_mk ⟨_, Q.f.ld rfl, HL.ix hwn (Q.sI hwn (by omega) fun g2 F2 Q => ?_)⟩
      refine ⟨_, F1.trans F2, Q, fun y j _ _ hy => ?_, fun x hx hxl hxw j => ?_, ⟨?_, ?_⟩, .inl ⟨rfl, upd2_at, fun x => ⟨?_, ?_⟩⟩⟩
      · rcases hy with k | k
        · exact upd2_v k
        · exact upd2_j k
      · rw [upd2_v hxw]; exact o1 x j (.inl hxl)
      · rw [upd2_j (by omega)]; exact o1 _ _ (.inr (by omega))
      · rw [upd2_j (by omega)]; exact o1 _ _ (.inr (by omega))
      · rw [upd2_j (by omega)]; exact o1 _ _ (.inr (by omega))
      · rw [upd2_j (by omega)]; exact o1 _ _ (.inr (by omega))
    · rw [hc]
      refine ifP_of (fun _ => ?_) (fun k => by have := of_decide_eq_false k; omega)
      obtain ⟨t, c1, c2, c3, c4⟩ := (Ft.cyc w hAw).from hcm (Ft.nd w hAw)
      obtain ⟨_, r, _, e3, _, hr⟩ := c1.sides
      have hcA := (Ft.mem w c hAw).1 hcm
      have hcn := Ft.lt c hcA.1
      have hrn := Ft.lt r ((Ft.mem w r hAw).1 ((c3 r).1 hr)).1
      have hlt : ∀ x, R x → x ∉ c :: t := fun x hx k => ((Ft.mem w x hAw).1 ((c3 x).1 k)).2.1 hx
      refine (join_T Q hln hcn hrn (by rw [o1 c 3 (.inr (by omega))]; exact e3)).mono ?_
      rintro _ g2 ⟨rfl, F2, Q⟩
      have je := jn_eq (s := st) (s' := s1) (x := l) (a := c) fun y => ⟨o1 y 2 (.inr (by omega)), o1 y 3 (.inr (by omega))⟩
      have out : ∀ x, R x → x ≠ l → jn s1 l c x 2 = st x 2 ∧ jn s1 l c x 3 = st x 3 := fun x hx hxl => by
        rw [(je x).1, (je x).2, jn_out c1 (hlt x hx) hxl, jn_out c1 (hlt x hx) hxl]; exact ⟨rfl, rfl⟩
      refine rt_ret ⟨rfl, _, F1.trans F2, Q, fun y j h2 h3 _ => jn_f ⟨h2, h3⟩, fun x hx hxl hxw j => ?_, out w hRw hne, .inr ⟨c, rfl, ?_, je⟩⟩
      · by_cases j2 : j = 2
        · subst j2; exact (out x hx hxl).1
        · by_cases j3 : j = 3
          · subst j3; exact (out x hx hxl).2
          · rw [jn_f ⟨j2, j3⟩]; exact o1 x j (.inl hxl)
      · rw [jn_f (by omega), o1 _ _ (.inr (by omega))]; exact hc
  rintro q ⟨s2, Fq, Q, hs, hsR, hsw, hcase⟩
  refine ptrP_mk ⟨_, Q.f.ld rfl, HL.ix hwn (Q.l.ldI hwn (by omega) (HL.ix hwn (Q.sI hwn (by omega) fun g3 F3 Q => ?_)))⟩
  have e4 : s2 w 4 = st w 4 := by rw [hs w 4 (by omega) (by omega) (.inr (by omega)), o1 _ _ (.inr (by omega))]
  have ew : IntKind.i64.wrap (s2 w 4 + 1) = st w 4 + 1 := by rw [e4]; exact w64_in (by omega) (by omega)
  rw [ew] at Q
  obtain ⟨s3, es3⟩ : ∃ s3, s3 = upd2 s2 w 4 (st w 4 + 1) := ⟨_, rfl⟩
  rw [← es3] at Q
  have q3 : ∀ y j, y ≠ w ∨ j ≠ 4 → s3 y j = s2 y j := fun y j hy => by
    rw [es3]
    rcases hy with k | k
    · exact upd2_v k
    · exact upd2_j k
  have g3_ : ∀ y j, j ≠ 2 → j ≠ 3 → (y ≠ w ∨ (j ≠ 1 ∧ j ≠ 4)) → s3 y j = s1 y j := fun y j h2 h3 hy => by
    rw [q3 y j (by rcases hy with k | k; exact .inl k; exact .inr k.2), hs y j h2 h3 (by rcases hy with k | k; exact .inl k; exact .inr k.1)]
  obtain ⟨C', F'⟩ := Ft.hang (st' := s3) hRw hRl hah (by rw [hdl, hdw]) (fun x hxw hxl j hj => by rw [g3_ x j hj.1 hj.2 (.inl hxw)]; exact o1 x j (.inl hxl))
    ⟨by rw [g3_ w 0 (by omega) (by omega) (.inr ⟨by omega, by omega⟩)]; exact o1 w 0 (.inl hne), by rw [g3_ w 5 (by omega) (by omega) (.inr ⟨by omega, by omega⟩)]; exact o1 w 5 (.inl hne)⟩
    (by rw [es3, upd2_at])
    ⟨by rw [g3_ l 0 (by omega) (by omega) (.inl hne.symm)]; exact m1, by rw [g3_ l 1 (by omega) (by omega) (.inl hne.symm)]; exact o1 l 1 (.inr (by omega)),
      by rw [g3_ l 4 (by omega) (by omega) (.inl hne.symm)]; exact o1 l 4 (.inr (by omega)), by rw [g3_ l 5 (by omega) (by omega) (.inl hne.symm)]; exact o1 l 5 (.inr (by omega))⟩
    (by
      rcases hcase with ⟨k1, k2, k3⟩ | ⟨c, k1, k2, k3⟩
      · exact .inl ⟨k1, by rw [q3 _ _ (.inr (by omega))]; exact k2, hl2, hl3, fun x => by rw [q3 _ _ (.inr (by omega)), q3 _ _ (.inr (by omega))]; exact k3 x⟩
      · exact .inr ⟨c, k1, by rw [q3 _ _ (.inr (by omega))]; exact k2, fun x => by rw [q3 _ _ (.inr (by omega)), q3 _ _ (.inr (by omega))]; exact k3 x⟩)
  refine ⟨w, l, s3, C', rfl, hwl, Fq.trans F3, Q, F', by rw [es3, upd2_at], fun x hx hxl hxw j => ?_, fun j h1 h4 => ?_⟩
  · rw [q3 x j (.inl hxw)]; exact hsR x hx hxl hxw j
  · rw [q3 w j (.inr h4)]
    by_cases j2 : j = 2
    · subst j2; exact hsw.1
    · by_cases j3 : j = 3
      · subst j3; exact hsw.2
      · rw [hs w j j2 j3 (.inr h1)]; exact o1 w j (.inl hne)
end

end Go.Proofs.YtjlojokockfapaaGreatDoor

namespace Go.Proofs.YtjlojokockfapaaGreatDoor
open Go
set_option linter.unusedVariables false
set_option linter.unusedSimpArgs false

theorem RI.congr {key : Nat → Int} {st st' : Nat → Nat → Int} {L : List Nat} {best : Int} (I : RI key st L best) (h : ∀ x ∈ L, st' x 0 = st x 0 ∧ st' x 2 = st x 2 ∧ st' x 3 = st x 3) : RI key st' L best :=
  ⟨I.nd, I.cyc.congr (fun x hx => (h x hx).2.2) (fun x hx => (h x hx).2.1), fun x hx => by rw [(h x hx).1]; exact I.r0 x hx, I.bst⟩

/-- The heap, whole. -/
structure FH (n : Nat) (key : Nat → Int) (A : Nat → Prop) (st : Nat → Nat → Int) (best : Int) (L : List Nat) (C : Nat → List Nat) : Prop where
  ft : FT n key A (fun x => x ∈ L) (-1) (-1) st C
  ri : RI key st L best

section
variable {own own' : Own} {h h' : H} {n : Nat} {st : Nat → Nat → Int}
variable {bq bf bl : Nat} {key : Nat → Int} {held : Nat → Bool} {cnt last best : Int}
variable {A : Nat → Prop} {C : Nat → List Nat}
theorem cut_T {L : List Nat} {z y : Int} (Q : HQ own h bq bf bl n key held cnt last best st) (Ft : FT n key A (fun x => x ∈ L) z y st C) {hh : Nat} (hA : A hh) (hz : ∀ x : Nat, x ≠ hh → (x : Int) ≠ z) (hy : ∀ x : Nat, x ≠ hh → (x : Int) ≠ y)
    (I0 : RI key st L best) (hp0 : st hh 0 ≠ (hh : Nat)) (hn1 : n ≤ 1024) :
    T Tryz.prog F.heaps_fibonacci_cut [.pointer (some (bk bf)), .int .i64 hh] h fun r h' => r = .ret (.tuple ⟨[]⟩) ∧ Fm [32, 35] own h own h' ∧
      ∃ st' best' L' C', HQ own h' bq bf bl n key held cnt last best' st' ∧ FH n key A st' best' L' C' ∧ hh ∈ L' := by
  refine E_heaps_fibonacci_cut ?_
  unfold B_heaps_fibonacci_cut
  have hhn := Ft.lt hh hA
  refine ptrP_mk ⟨_, Q.f.ld rfl, HL.ix hhn (Q.l.ldI hhn (by omega) ?_)⟩
  let I : (Int × Int × Unit) → H → Nat → Prop := fun p q k => ∃ (hc : Nat) (st : Nat → Nat → Int) (best : Int) (L : List Nat) (C : Nat → List Nat) (z y : Int), p.1 = (hc : Nat) ∧ p.2.1 = st hc 0 ∧ k = (cntP n (fun x => A x ∧ ¬ x ∈ L)).toNat ∧
    Fm [32, 35] own h own q ∧ HQ own q bq bf bl n key held cnt last best st ∧ FT n key A (fun x => x ∈ L) z y st C ∧ (∀ x : Nat, x ≠ hc → (x : Int) ≠ z) ∧ (∀ x : Nat, x ≠ hc → (x : Int) ≠ y) ∧ A hc ∧ RI key st L best ∧ st hc 0 ≠ (hc : Nat) ∧ (hh ∈ L ∨ hc = hh)
  refine ⟨fun p q => ∃ k, I p q k, rk I, rk_wf I, ⟨_, hh, st, best, L, C, z, y, rfl, rfl, rfl, Fm.refl, Q, Ft, hz, hy, hA, I0, hp0, .inr rfl⟩, ?_⟩
  clear Q Ft hz hy I0 hp0 hA
  intro h_8 p_9 q hI
  obtain ⟨hc, st, best, L, C, z, y, e1, e2, hk2, F0, Q, Ft, hz, hy, hA, I0, hp0, hor⟩ := mu_spec hI
  generalize hkk : mu I ((h_8, p_9, ()), q) = km at *
  change h_8 = (hc : Int) at e1
  change p_9 = st hc 0 at e2
  subst e1 e2
  have hcn := Ft.lt hc hA
  clear hI
  refine ifP_of (fun k => ?_) (fun k => ?_)
  rotate_left
  · -- a top already
    have hneg : ¬ (0 ≤ st hc 0) := of_decide_eq_false k
    have hcL : hc ∈ L := by
      apply Classical.byContradiction
      intro hn
      obtain ⟨p, e, _⟩ := Ft.par hc hA hn
      omega
    have ex : ∀ z : Int, (∀ x : Nat, x ≠ hc → (x : Int) ≠ z) → z < 0 ∨ ∃ w : Nat, z = w ∧ (w ∈ L ∨ ¬ A w) := fun z hz => by
      by_cases e : z < 0
      · exact .inl e
      · refine .inr ⟨z.toNat, by omega, .inl ?_⟩
        have : z.toNat = hc := Classical.byContradiction fun k => hz _ k (by omega)
        rw [this]; exact hcL
    refine ⟨rfl, F0, st, best, L, C, Q, ⟨Ft.clean (ex z hz) (ex y hy), I0⟩, ?_⟩
    rcases hor with h | h
    · exact h
    · rw [← h]; exact hcL
  have hpos : 0 ≤ st hc 0 := of_decide_eq_true k
  have hcL : hc ∉ L := fun hl => by have := I0.r0 hc hl; omega
  obtain ⟨p, hp, hpA⟩ := Ft.par hc hA hcL
  have hpn := Ft.lt p hpA
  have hpc : p ≠ hc := by rintro rfl; exact hp0 hp
  have hmem : hc ∈ C p := (Ft.mem p hc hpA).2 ⟨hA, hcL, hp⟩
  obtain ⟨t, c1, c2, c3, c4⟩ := (Ft.cyc p hpA).from hmem (Ft.nd p hpA)
  obtain ⟨l, r, el, er, hl, hr⟩ := c1.sides
  have hin : ∀ x, x ∈ hc :: t → A x ∧ ¬ x ∈ L ∧ st x 0 = (p : Nat) := fun x hx => (Ft.mem p x hpA).1 ((c3 x).1 hx)
  have hln := Ft.lt l (hin l hl).1
  have hrn := Ft.lt r (hin r hr).1
  have hdeg : st p 4 = (C p).length := Ft.dg p hpA
  have hdl : (C p).length ≤ 1024 * 1024 ∨ True := .inr trivial
  have hdn : st p 4 ≤ n := by
    rw [hdeg, ← Ft.len hpA]; exact cntP_all
  have hlen : 1 ≤ st p 4 := by rw [hdeg, ← c4]; simp; omega
  have hn63 : (n : Int) < 4611686018427387904 ∨ True := .inr trivial
  rw [hp] at hkk ⊢
  refine ⟨fun s q2 => s.1 = (p : Nat) ∧ ∃ st3 best3 L3 C3, Fm [32, 35] own h own q2 ∧ HQ own q2 bq bf bl n key held cnt last best3 st3 ∧ FT n key A (fun x => x ∈ L3) (-1) (p : Nat) st3 C3 ∧ RI key st3 L3 best3 ∧ (∀ x, x ∈ L3 ↔ x = hc ∨ x ∈ L), ?_, ?_⟩
  · refine ptrP_mk ⟨_, Q.f.ld rfl, HL.ix hpn (Q.l.ldI hpn (by omega) ?_)⟩
    have ew : IntKind.i64.wrap (st p 4 - 1) = st p 4 - 1 := w64_in (by omega) (by omega)
    rw [ew]
    refine Q.sI hpn (by omega) fun g1 F1 Q => ?_
    obtain ⟨s0, es0⟩ : ∃ s0, s0 = upd2 st p 4 (st p 4 - 1) := ⟨_, rfl⟩
    rw [← es0] at Q
    have z4 : s0 p 4 = st p 4 - 1 := by rw [es0, upd2_at]
    have zo : ∀ x j, x ≠ p ∨ j ≠ 4 → s0 x j = st x j := fun x j hx => by
      rw [es0]
      rcases hx with k | k
      · exact upd2_v k
      · exact upd2_j k
    refine ⟨fun _ q => ∃ s1, Fm [32, 35] own h own q ∧ HQ own q bq bf bl n key held cnt last best s1 ∧ (∀ x j, x ≠ p ∨ (j ≠ 1 ∧ j ≠ 4) → s1 x j = st x j) ∧ s1 p 4 = st p 4 - 1 ∧
      s1 p 1 = if st p 4 - 1 = 0 then -1 else if st p 1 = (hc : Nat) then st hc 3 else st p 1, ?_, ?_⟩
    · have F01 : Fm [32, 35] own h own g1 := F0.trans (F1.mono (by simp))
      refine Q.l.ldI hpn (by omega) ?_
      rw [z4]
      refine ifP_of (fun k => ?_) (fun k => ?_)
      · have k := of_decide_eq_true k
        refine Q.sI hpn (by omega) fun g2 F2 Q => ⟨_, F01.trans (F2.mono (by simp)), Q, fun x j hx => ?_, ?_, ?_⟩
        · have : upd2 s0 p 1 (-1) x j = s0 x j := by
            rcases hx with k | k
            · exact upd2_v k
            · exact upd2_j k.1
          rw [this]
          exact zo x j (by rcases hx with k | k; exact .inl k; exact .inr k.2)
        · rw [upd2_j (by omega)]; exact z4
        · rw [if_pos k, upd2_at]
      have k := of_decide_eq_false k
      rw [if_neg k]
      refine Q.l.ldI hpn (by omega) ?_
      rw [zo p 1 (.inr (by omega))]
      refine ifP_of (fun k2 => ?_) (fun k2 => ?_)
      · have k2 := of_decide_eq_true k2
        refine ptrP_mk ⟨_, Q.f.ld rfl, HL.ix hcn (Q.l.ldI hcn (by omega) ?_)⟩
        rw [zo hc 3 (.inr (by omega))]
        refine Q.sI hpn (by omega) fun g2 F2 Q => ⟨_, F01.trans (F2.mono (by simp)), Q, fun x j hx => ?_, ?_, ?_⟩
        · have : upd2 s0 p 1 (st hc 3) x j = s0 x j := by
            rcases hx with k | k
            · exact upd2_v k
            · exact upd2_j k.1
          rw [this]
          exact zo x j (by rcases hx with k | k; exact .inl k; exact .inr k.2)
        · rw [upd2_j (by omega)]; exact z4
        · rw [if_pos k2, upd2_at]
      · have k2 := of_decide_eq_false k2
        refine ⟨s0, F01, Q, fun x j hx => zo x j (by rcases hx with k | k; exact .inl k; exact .inr k.2), z4, ?_⟩
        rw [if_neg k2]; exact zo p 1 (.inr (by omega))
    rintro q1 ⟨s1, F1', Q, hs, hs4, hs1⟩
    have hs23 : ∀ x, s1 x 2 = st x 2 ∧ s1 x 3 = st x 3 := fun x => ⟨hs x 2 (.inr ⟨by omega, by omega⟩), hs x 3 (.inr ⟨by omega, by omega⟩)⟩
    refine (leave_T Q hcn hln hrn (by rw [(hs23 hc).1]; exact el) (by rw [(hs23 hc).2]; exact er)).mono ?_
    rintro _ g2 ⟨rfl, F2, Q⟩
    have F02 : Fm [32, 35] own h own g2 := F1'.trans (F2.mono (by simp))
    obtain ⟨C1, Ft1⟩ := Ft.drop (st' := lv s1 hc) hA hcL hp hz hy (fun x hx j hj => by rw [lv_f hj]; exact hs x j (.inl hx)) (by rw [lv_f (by omega)]; exact hs4) (by rw [lv_f (by omega)]; exact hs1)
      ⟨by rw [lv_f (by omega)]; exact hs p 0 (.inr ⟨by omega, by omega⟩), by rw [lv_f (by omega)]; exact hs p 5 (.inr ⟨by omega, by omega⟩)⟩ (lv_eq hs23)
    have hLout : ∀ x ∈ L, x ∉ hc :: t := fun x hx k => (hin x k).2.1 hx
    have I1 : RI key (lv s1 hc) L best := I0.congr fun x hx => by
      refine ⟨?_, ?_, ?_⟩
      · rw [lv_f (by omega)]; exact hs x 0 (.inr ⟨by omega, by omega⟩)
      · rw [(lv_eq hs23 x).1, lv_out c1 (hLout x hx)]
      · rw [(lv_eq hs23 x).2, lv_out c1 (hLout x hx)]
    refine rt_ret ⟨rfl, ?_⟩
    refine (froot_T Q hcn I1 (fun x hx => Ft.lt x (Ft.ra x hx)) hcL (by unfold lv; rw [upd2_j (by omega), upd2_at]) (by unfold lv; rw [upd2_at])).mono ?_
    rintro _ g3 ⟨rfl, F3, st3, best3, L3, Q, S⟩
    have F03 : Fm [32, 35] own h own g3 := F02.trans F3
    have Ft3 : FT n key A (fun x => x ∈ L3) (-1) (p : Nat) st3 C1 := by
      have e : (fun x => x ∈ L3) = fun x => x = hc ∨ x ∈ L := by funext x; exact propext (S.mem x)
      rw [e]
      refine Ft1.congr (fun x _ hx j => S.out x (fun k => hx (.inl k)) (fun k => hx (.inr k)) j) (fun x _ => ?_) (fun x hx => ?_)
      · by_cases e : x = hc
        · subst e; exact ⟨S.me.2.2.1, S.me.2.2.2⟩
        · exact ⟨S.fld x e 1 (by omega), S.fld x e 4 (by omega)⟩
      · by_cases e : x = hc
        · subst e; exact .inl S.me.2.1
        · rw [S.fld x e 5 (by omega)]; exact Ft1.mrk x hx
    have hhL : hh ∈ L3 := by
      rcases hor with k | k
      · exact (S.mem hh).2 (.inr k)
      · subst k; exact (S.mem hc).2 (.inl rfl)
    refine rt_ret ⟨rfl, Q.l.ldB hpn ?_⟩
    refine ifP_of (fun k => ?_) (fun k => ⟨rfl, st3, best3, L3, C1, F03, Q, Ft3, S.ri, S.mem⟩)
    have h5 : st3 p 5 = 0 := by
      rcases Ft3.mrk p hpA with e | e
      · exact e
      · rw [e] at k; simp at k
    refine Q.l.ldI hpn (by omega) (Q.s5 hpn fun g4 F4 Q => ?_)
    have F04 : Fm [32, 35] own h own g4 := F03.trans (F4.mono (by simp))
    by_cases hpL : p ∈ L3
    · have e0 : st3 p 0 = -1 := S.ri.r0 p hpL
      rw [e0, if_neg (by simp)] at Q
      refine ⟨rfl, F04, _, best3, L3, C1, Q, ⟨?_, S.ri.congr fun x _ => ⟨upd2_j (by omega), upd2_j (by omega), upd2_j (by omega)⟩⟩, hhL⟩
      have e : upd2 st3 p 5 0 = st3 := by
        funext x j
        unfold upd2
        split
        · rename_i k; rw [k.1, k.2, h5]
        · rfl
      rw [e]
      exact Ft3.clean (.inl (by omega)) (.inr ⟨p, rfl, .inl hpL⟩)
    · obtain ⟨q', e0, _⟩ := Ft3.par p hpA hpL
      rw [e0, if_pos (by simp)] at Q
      exact ⟨rfl, F04, _, best3, L3, C1, Q, ⟨Ft3.mark rfl hpA h5 (fun x j hx => by
        rcases hx with k | k
        · exact upd2_v k
        · exact upd2_j k) upd2_at, S.ri.congr fun x _ => ⟨upd2_j (by omega), upd2_j (by omega), upd2_j (by omega)⟩⟩, hhL⟩
  · rintro hn2 q2 ⟨e, st3, best3, L3, C3, F3, Q, Ft3, I3, hL3⟩
    change hn2 = (p : Int) at e
    subst e
    refine ptrP_mk ⟨_, Q.f.ld rfl, HL.ix hpn (Q.l.ldI hpn (by omega) ?_)⟩
    refine mu_next (I := I) (k := (cntP n (fun x => A x ∧ ¬ x ∈ L3)).toNat) ⟨p, st3, best3, L3, C3, -1, (p : Nat), rfl, rfl, rfl, F3, Q, Ft3, fun x _ => by omega, fun x hx => by omega, hpA, I3, ?_, ?_⟩ ?_
    · intro e
      by_cases hpL : p ∈ L3
      · have := I3.r0 p hpL; omega
      · have := Ft3.ord p p hpA hpL e (by omega)
        exact ahd_irr this
    · rcases hor with k | k
      · exact .inl ((hL3 hh).2 (.inr k))
      · subst k; exact .inl ((hL3 hc).2 (.inl rfl))
    · rw [hkk, hk2]
      have : cntP n (fun x => x = hc ∨ (A x ∧ ¬ x ∈ L3)) ≤ cntP n (fun x => A x ∧ ¬ x ∈ L) := cntP_le fun x _ hx => by
        rcases hx with rfl | ⟨a, b⟩
        · exact ⟨hA, hcL⟩
        · exact ⟨a, fun k => b ((hL3 x).2 (.inr k))⟩
      rw [cntP_add hcn (fun k => k.2 ((hL3 hc).2 (.inl rfl)))] at this
      have := cntP_nn (n := n) (P := fun x => A x ∧ ¬ x ∈ L3)
      omega
end

end Go.Proofs.YtjlojokockfapaaGreatDoor

namespace Go.Proofs.YtjlojokockfapaaGreatDoor
open Go
open Classical
set_option linter.unusedVariables false
set_option linter.unusedSimpArgs false

theorem methPush (a : Addr) (w : World) : (method (Tryz.prog.types.size + Made.depth) 148 (.pointer (some a)) "compass/heaps.push").run Tryz.prog w = .ok (F.heaps_fibonacci_push, .pointer (some a)) w := by kernel_rfl
theorem methLower (a : Addr) (w : World) : (method (Tryz.prog.types.size + Made.depth) 148 (.pointer (some a)) "compass/heaps.lower").run Tryz.prog w = .ok (F.heaps_fibonacci_lower, .pointer (some a)) w := by kernel_rfl
theorem methTop (a : Addr) (w : World) : (method (Tryz.prog.types.size + Made.depth) 148 (.pointer (some a)) "compass/heaps.top").run Tryz.prog w = .ok (F.heaps_fibonacci_top, .pointer (some a)) w := by kernel_rfl
theorem methPop (a : Addr) (w : World) : (method (Tryz.prog.types.size + Made.depth) 148 (.pointer (some a)) "compass/heaps.pop").run Tryz.prog w = .ok (F.heaps_fibonacci_pop, .pointer (some a)) w := by kernel_rfl

theorem FT.uset {n : Nat} {key : Nat → Int} {A A' R R' : Nat → Prop} {z y : Int} {st : Nat → Nat → Int} {C : Nat → List Nat} (Ft : FT n key A R z y st C) (hA : ∀ x, A' x ↔ A x) (hR : ∀ x, R' x ↔ R x) : FT n key A' R' z y st C := by
  have e1 : A' = A := by funext x; exact propext (hA x)
  have e2 : R' = R := by funext x; exact propext (hR x)
  rw [e1, e2]; exact Ft

section
variable {own own' : Own} {h h' : H} {n : Nat} {st : Nat → Nat → Int}
variable {bq bf bl : Nat} {key : Nat → Int} {held : Nat → Bool} {cnt last best : Int}
variable {A : Nat → Prop} {C : Nat → List Nat} {L : List Nat}
theorem fpush_T (Q : HQ own h bq bf bl n key held cnt last best st) (G : FH n key A st best L C) {x : Nat} (hx : x < n) (hA : ¬ A x) :
    T Tryz.prog F.heaps_fibonacci_push [.pointer (some (bk bf)), .int .i64 x] h fun r h' => r = .ret (.tuple ⟨[]⟩) ∧ Fm [32, 35] own h own h' ∧
      ∃ st' best' L' C', HQ own h' bq bf bl n key held cnt last best' st' ∧ FH n key (fun v => v = x ∨ A v) st' best' L' C' := by
  refine E_heaps_fibonacci_push ?_
  unfold B_heaps_fibonacci_push
  refine ptrP_mk ⟨_, Q.f.ld rfl, HL.ix hx (Q.l.put hx fun g1 F1 L1 => ?_)⟩
  have Q := Q.ln F1 L1
  rw [if_neg (by simp)] at Q
  obtain ⟨s1, es1⟩ : ∃ s1, s1 = upd2 (upd2 (upd2 (upd2 (upd2 (upd2 st x 0 (-1)) x 1 (-1)) x 2 (x : Nat)) x 3 (x : Nat)) x 4 0) x 5 0 := ⟨_, rfl⟩
  rw [← es1] at Q
  have o1 : ∀ y, y ≠ x → ∀ j, s1 y j = st y j := fun y hy j => by rw [es1, upd2_v hy, upd2_v hy, upd2_v hy, upd2_v hy, upd2_v hy, upd2_v hy]
  have m5 : s1 x 5 = 0 := by rw [es1, upd2_at]
  have m4 : s1 x 4 = 0 := by rw [es1, upd2_j (by omega), upd2_at]
  have m3 : s1 x 3 = (x : Nat) := by rw [es1, upd2_j (by omega), upd2_j (by omega), upd2_at]
  have m2 : s1 x 2 = (x : Nat) := by rw [es1, upd2_j (by omega), upd2_j (by omega), upd2_j (by omega), upd2_at]
  have m1 : s1 x 1 = -1 := by rw [es1, upd2_j (by omega), upd2_j (by omega), upd2_j (by omega), upd2_j (by omega), upd2_at]
  have hxL : x ∉ L := fun k => hA (G.ft.ra x k)
  have Ft1 := G.ft.put hx hA o1 m1 m4 m5
  have I1 : RI key s1 L best := G.ri.congr fun y hy => by
    have : y ≠ x := by rintro rfl; exact hxL hy
    exact ⟨o1 y this 0, o1 y this 2, o1 y this 3⟩
  refine (froot_T Q hx I1 (fun y hy => G.ft.lt y (G.ft.ra y hy)) hxL m2 m3).mono ?_
  rintro _ g2 ⟨rfl, F2, st2, best2, L2, Q, S⟩
  have Ft2 := Ft1.congr (st' := st2) (fun y _ hy j => S.out y (fun k => hy (.inl k)) (fun k => hy (.inr k)) j) (fun y _ => by
    by_cases e : y = x
    · subst e; exact ⟨S.me.2.2.1, S.me.2.2.2⟩
    · exact ⟨S.fld y e 1 (by omega), S.fld y e 4 (by omega)⟩) (fun y hy => by
    by_cases e : y = x
    · subst e; exact .inl S.me.2.1
    · rw [S.fld y e 5 (by omega)]; exact Ft1.mrk y hy)
  exact rt_ret ⟨rfl, rfl, (F1.mono (by simp)).trans F2, st2, best2, L2, _, Q, ⟨Ft2.uset (fun _ => Iff.rfl) S.mem, S.ri⟩⟩

/-- A key has been lowered: the engine is told. -/
theorem flower_T {key0 : Nat → Int} (Q : HQ own h bq bf bl n key held cnt last best st) (G : FH n key0 A st best L C) (hn1 : n ≤ 1024) {x : Nat} (hA : A x) (hlow : key x < key0 x) (hk : ∀ v, v ≠ x → key v = key0 v) :
    T Tryz.prog F.heaps_fibonacci_lower [.pointer (some (bk bf)), .int .i64 x] h fun r h' => r = .ret (.tuple ⟨[]⟩) ∧ Fm [32, 35] own h own h' ∧
      ∃ st' best' L' C', HQ own h' bq bf bl n key held cnt last best' st' ∧ FH n key A st' best' L' C' := by
  refine E_heaps_fibonacci_lower ?_
  unfold B_heaps_fibonacci_lower
  have hx := G.ft.lt x hA
  -- out of order at most at x
  have FtX : FT n key A (fun v => v ∈ L) (x : Nat) (-1) st C := ⟨G.ft.lt, G.ft.ra, G.ft.mem, G.ft.nd, G.ft.cyc, G.ft.par, G.ft.ch, fun v p hv hr hp hz => by
    have := G.ft.ord v p hv hr hp (by omega)
    have hvx : v ≠ x := fun e => hz (by rw [e])
    unfold ahd at *
    rw [hk v hvx]
    by_cases e : p = x
    · subst e; omega
    · rw [hk p e]; exact this, G.ft.dg, G.ft.cn, G.ft.mrk⟩
  -- the state behind the cut
  let W : H → Prop := fun q => ∃ st' best' L' C', Fm [32, 35] own h own q ∧ HQ own q bq bf bl n key held cnt last best' st' ∧ FT n key A (fun v => v ∈ L') (-1) (-1) st' C' ∧ L'.Nodup ∧ Cyc st' L' ∧ (∀ v ∈ L', st' v 0 = -1) ∧
    ∃ b : Nat, best' = b ∧ b ∈ L' ∧ (∀ v ∈ L', v ≠ x → v = b ∨ ahd key b v) ∧ (x ∈ L' ∨ ∀ v ∈ L', v = b ∨ ahd key b v)
  refine ⟨fun _ q => W q, ?_, ?_⟩
  · refine ptrP_mk ⟨_, Q.f.ld rfl, HL.ix hx (Q.l.ldI hx (by omega) (ifP_of (fun k => ?_) (fun k => ?_)))⟩
    · have k := of_decide_eq_true k
      have hxL : x ∉ L := fun hl => by have := G.ri.r0 x hl; omega
      obtain ⟨p, hp, hpA⟩ := G.ft.par x hA hxL
      have hpn := G.ft.lt p hpA
      have hpx : p ≠ x := by
        rintro rfl
        exact ahd_irr (G.ft.ord p p hA hxL hp (by omega))
      have hmin0 : ∀ b, b ∈ L → ∀ v ∈ L, (v = b ∨ ahd key0 b v) → (v = b ∨ ahd key b v) := fun b hb v hv hh => by
        rcases hh with e | e
        · exact .inl e
        · right
          have h1 : b ≠ x := by rintro rfl; exact hxL hb
          have h2 : v ≠ x := by rintro rfl; exact hxL hv
          unfold ahd at *; rw [hk b h1, hk v h2]; exact e
      have RIn : RI key st L best := ⟨G.ri.nd, G.ri.cyc, G.ri.r0, by
        rcases G.ri.bst with e | ⟨b, e1, e2, e3⟩
        · exact .inl e
        · exact .inr ⟨b, e1, e2, fun v hv => hmin0 b e2 v hv (e3 v hv)⟩⟩
      rw [hp]
      refine ptrP_mk ⟨_, Q.f.ld rfl, ?_⟩
      refine (ahead_T Q hx hpn).mono ?_
      rintro _ _ ⟨t, rfl, ht, rfl⟩
      have done : ∀ {q : H} {st' best' L' C'}, Fm [32, 35] own h own q → HQ own q bq bf bl n key held cnt last best' st' → FH n key A st' best' L' C' → W q := fun {q st' best' L' C'} F1 Q1 G1 => by
        rcases G1.ri.bst with ⟨e, _⟩ | ⟨b, e1, e2, e3⟩
        · exfalso
          subst e
          -- a top above x
          have : ∀ k : Nat, ∀ v, A v → cntP n (fun y => ahd key y v) ≤ k → False := by
            intro k
            induction k with
            | zero =>
              intro v hv hc
              obtain ⟨q, e, hq⟩ := G1.ft.par v hv (by simp)
              have o := G1.ft.ord v q hv (by simp) e (by omega)
              have := cntP_one (n := n) (P := fun y => ahd key y v) (G1.ft.lt q hq) o
              omega
            | succ k ih =>
              intro v hv hc
              obtain ⟨q, e, hq⟩ := G1.ft.par v hv (by simp)
              have o := G1.ft.ord v q hv (by simp) e (by omega)
              refine ih q hq ?_
              have h1 : cntP n (fun y => y = q ∨ ahd key y q) ≤ cntP n (fun y => ahd key y v) := cntP_le fun y _ hy => by
                rcases hy with rfl | hy
                · exact o
                · exact ahd_tr hy o
              rw [cntP_add (P := fun y => ahd key y q) (G1.ft.lt q hq) ahd_irr] at h1
              omega
          exact this n x hA cntP_all
        · exact ⟨st', best', L', C', F1, Q1, G1.ft, G1.ri.nd, G1.ri.cyc, G1.ri.r0, b, e1, e2, fun v hv _ => e3 v hv, .inr e3⟩
      refine rt_ret ⟨_, rfl, ifP_of (fun kt => ?_) (fun kt => ?_)⟩
      · refine (cut_T Q FtX hA (fun v hv => by omega) (fun v hv => by omega) RIn (by rw [hp]; omega) hn1).mono ?_
        rintro _ g ⟨rfl, F1, st', best', L', C', Q1, G1, _⟩
        exact rt_ret ⟨rfl, done F1 Q1 G1⟩
      · have hpa : ahd key p x := by
          rcases ahd_or (key := key) (a := p) (b := x) with e | e | e
          · exact absurd e hpx
          · exact e
          · have := ht.2 e; rw [kt] at this; cases this
        refine done Fm.refl Q ⟨⟨FtX.lt, FtX.ra, FtX.mem, FtX.nd, FtX.cyc, FtX.par, FtX.ch, fun v q hv hr hq _ => ?_, FtX.dg, FtX.cn, FtX.mrk⟩, RIn⟩
        by_cases e : v = x
        · subst e
          have : q = p := by omega
          subst this; exact hpa
        · exact FtX.ord v q hv hr hq (by omega)
    · -- a top
      have k := of_decide_eq_false k
      have hxL : x ∈ L := by
        apply Classical.byContradiction
        intro hn
        obtain ⟨p, e, _⟩ := G.ft.par x hA hn
        omega
      refine ⟨st, best, L, C, Fm.refl, Q, FtX.clean (.inr ⟨x, rfl, .inl hxL⟩) (.inl (by omega)), G.ri.nd, G.ri.cyc, G.ri.r0, ?_⟩
      rcases G.ri.bst with ⟨e, _⟩ | ⟨b, e1, e2, e3⟩
      · rw [e] at hxL; simp at hxL
      · refine ⟨b, e1, e2, fun v hv hvx => ?_, .inl hxL⟩
        rcases e3 v hv with e | e
        · exact .inl e
        · right
          unfold ahd at *
          rw [hk v hvx]
          by_cases e4 : b = x
          · subst e4; omega
          · rw [hk b e4]; exact e
  rintro q ⟨st', best', L', C', F1, Q, Ft1, nd, cy, r0, b, rfl, hb, hmin, hor⟩
  have hbn := Ft1.lt b (Ft1.ra b hb)
  refine ptrP_mk (ptrP_mk ⟨_, Q.f.ld rfl, _, Q.f.ld rfl, ?_⟩)
  refine (ahead_T Q hx hbn).mono ?_
  rintro _ _ ⟨t, rfl, ht, rfl⟩
  refine rt_ret ⟨_, rfl, ifP_of (fun kt => ?_) (fun kt => ?_)⟩
  · have hxb := ht.1 kt
    have hxL : x ∈ L' := by
      rcases hor with e | e
      · exact e
      · exfalso
        rcases Ft1.min e x hA with e2 | e2
        · subst e2; exact ahd_irr hxb
        · exact ahd_irr (ahd_tr hxb e2)
    refine ptrP_mk (Q.sb fun g F2 Q => ⟨rfl, F1.trans (F2.mono (by simp)), st', x, L', C', Q, ⟨Ft1, nd, cy, r0, .inr ⟨x, rfl, hxL, fun v hv => ?_⟩⟩⟩)
    by_cases e : v = x
    · exact .inl e
    · right
      rcases hmin v hv e with e2 | e2
      · subst e2; exact hxb
      · exact ahd_tr hxb e2
  · refine ⟨rfl, F1, st', b, L', C', Q, ⟨Ft1, nd, cy, r0, .inr ⟨b, rfl, hb, fun v hv => ?_⟩⟩⟩
    by_cases e : v = x
    · subst e
      rcases ahd_or (key := key) (a := v) (b := b) with e2 | e2 | e2
      · exact .inl e2
      · have := ht.2 e2; rw [kt] at this; cases this
      · exact .inr e2
    · exact hmin v hv e
end

end Go.Proofs.YtjlojokockfapaaGreatDoor

namespace Go.Proofs.YtjlojokockfapaaGreatDoor
open Go
open Classical
set_option linter.unusedVariables false
set_option linter.unusedSimpArgs false

/-- The rest behind the first. -/
theorem S1.tail {own : Own} {h : H} {i : Nat} {v x : Value} {vs : List Value} {K : Option Addr → Nat → Nat → Prop} (s : S1 own h i v (x :: vs))
    (k : ∀ (a : Option Addr) (c : Nat), vs.length + 1 ≤ c → RS h (sliceV a c 1 ((vs.length + 1 : Nat) : Int) 1) vs → K a (vs.length + 1) c) : slcP v K := by
  rcases s with ⟨e, _⟩ | ⟨b, hb, c, e, zs, rfl, h2, h3⟩
  · cases e
  have hcc : vs.length + 1 ≤ c := by simp at h3; omega
  refine k (some (bk b)) c hcc ?_
  unfold sliceV
  refine ⟨_, _, by rw [show ((vs.length + 1 : Nat) : Int).toNat - (1 : Int).toNat = vs.length by omega], fun j y hj => ?_⟩
  have hj2 := (List.getElem?_eq_some_iff.1 hj).1
  rw [if_neg (show ¬ c = (1 : Int).toNat by simp; omega)]
  refine ⟨_, rfl, ?_⟩
  rw [show (1 : Int).toNat * 1 = 1 from rfl, Nat.mul_one, add_2, bk_add, hcell_at h2, List.getElem?_toArray, List.getElem?_append_left (by simp; omega), Nat.add_comm]
  simpa using hj

section
variable {own own' : Own} {h h' : H} {n : Nat} {st : Nat → Nat → Int}
variable {bq bf bl : Nat} {key : Nat → Int} {held : Nat → Bool} {cnt last best : Int}
variable {A : Nat → Prop} {C : Nat → List Nat} {L : List Nat}
/-- The table of tops by their degree. -/
structure TbP (n : Nat) (key : Nat → Int) (A : Nat → Prop) (st : Nat → Nat → Int) (C : Nat → List Nat) (tb : Nat → Int) (W : Nat → Prop) : Prop where
  ft : FT n key A (fun v => W v ∨ ∃ d, d < 64 ∧ tb d = ((v + 1 : Nat) : Int)) (-1) (-1) st C
  en : ∀ d, d < 64 → tb d = 0 ∨ ∃ v : Nat, tb d = ((v + 1 : Nat) : Int) ∧ st v 4 = (d : Nat) ∧ st v 2 = (v : Nat) ∧ st v 3 = (v : Nat) ∧ ¬ W v
theorem tbl_rd {b d : Nat} {tb : Nat → Int} {K : Int → Prop} (k : B1 own h 38 b (ints 64 tb)) (hd : d < 64) (q : K (tb d)) : ixA (bk b) 64 (d : Int) 1 fun a => ldI h a .i64 K :=
  ⟨by omega, by omega, _, by rw [Int.toNat_natCast, Nat.mul_one]; exact k.ld (ints_get hd), q⟩
theorem tbl_st {b d : Nat} {tb : Nat → Int} {x : Int} {K : H → Prop} (k : B1 own h 38 b (ints 64 tb)) (hd : d < 64) (q : ∀ g, Fm [38] own h own g → B1 own g 38 b (ints 64 (upd tb d x)) → K g) : ixA (bk b) 64 (d : Int) 1 fun a => stC h a (.int .i64 x) K := by
  refine ⟨by omega, by omega, ?_⟩
  rw [Int.toNat_natCast, Nat.mul_one]
  exact k.st (by rw [ints_length]; exact hd) fun g F B => q g F (by rw [← ints_set]; exact B)
theorem ring0_T : T Tryz.prog F.heaps_fibonacci_ring [.pointer (some (bk bf)), .int .i64 (-1)] h fun r h' => r = .ret (.slice none 0 0) ∧ h = h' := by
  refine E_heaps_fibonacci_ring ?_
  unfold B_heaps_fibonacci_ring
  exact ifP_of (fun _ => ⟨rfl, rfl⟩) (fun k => by simp at k)

theorem fpop_T (Q : HQ own h bq bf bl n key held cnt last best st) (G : FH n key A st best L C) (hn1 : n ≤ 1024) {b : Nat} (hb : best = (b : Nat)) (hbL : b ∈ L) :
    T Tryz.prog F.heaps_fibonacci_pop [.pointer (some (bk bf))] h fun r h' => r = .ret (.tuple ⟨[]⟩) ∧
      ∃ own' st' best' L' C', Fm [32, 35, 36, 37, 38] own h own' h' ∧ HQ own' h' bq bf bl n key held cnt last best' st' ∧ FH n key (fun v => A v ∧ v ≠ b) st' best' L' C' := by
  refine E_heaps_fibonacci_pop ?_
  unfold B_heaps_fibonacci_pop
  subst hb
  have hbA := G.ft.ra b hbL
  have hbn := G.ft.lt b hbA
  have Q0 := Q.f
  refine ptrP_mk (ptrP_mk (ptrP_mk ⟨_, Q.f.ld rfl, _, Q.f.ld rfl, HL.ix hbn (Q.l.ldI hbn (by omega) ⟨_, Q.f.ld rfl, ?_⟩)⟩))
  -- the children
  have hch : T Tryz.prog F.heaps_fibonacci_ring [.pointer (some (bk bf)), .int .i64 (st b 1)] h fun r h' => ∃ v own' cs, r = .ret v ∧ Fm [36] own h own' h' ∧ S1 own' h' 36 v (natV cs) ∧ cs.Nodup ∧ ∀ x, x ∈ cs ↔ x ∈ C b := by
    rcases G.ft.ch b hbA with ⟨e1, e2⟩ | ⟨c, e1, e2⟩
    · rw [e2]
      refine ring0_T.mono ?_
      rintro _ _ ⟨rfl, rfl⟩
      exact ⟨_, own, [], rfl, Fm.refl, S1.nil, by simp, by simp [e1]⟩
    · rw [e1]
      obtain ⟨t, c1, c2, c3, c4⟩ := (G.ft.cyc b hbA).from e2 (G.ft.nd b hbA)
      refine (ring_T Q c1 c2 (fun y hy => G.ft.lt y ((G.ft.mem b y hbA).1 ((c3 y).1 hy)).1) hn1 (j := 36) (by omega)).mono ?_
      rintro _ g ⟨v, own', rfl, F1, S⟩
      exact ⟨v, own', c :: t, rfl, F1, S, c2, c3⟩
  refine hch.mono ?_
  rintro _ g1 ⟨v9, own1_, cs, rfl, F1, S9, hcn, hcm⟩
  have Q := Q.fm F1 (by simp)
  refine rt_ret ⟨sameAt_b1 Q0 Q.f, ?_⟩
  obtain ⟨t, c1, c2, c3, c4⟩ := G.ri.cyc.from hbL G.ri.nd
  refine (ring_T Q c1 c2 (fun y hy => G.ft.lt y (G.ft.ra y ((c3 y).1 hy))) hn1 (j := 37) (by omega)).mono ?_
  rintro _ g2 ⟨v11, own2, rfl, F2, S11⟩
  have Q := Q.fm F2 (by simp)
  have S9 := S9.fm F2 (by simp)
  refine rt_ret ?_
  have S11' : S1 own2 g2 37 v11 (.int .i64 (b : Nat) :: natV t) := S11
  refine S11'.tail fun a c hc S12 => ⟨by omega, by omega, by omega, by omega, ?_⟩
  have hlb : ∀ {l : List Nat}, l.Nodup → (∀ x ∈ l, x < n) → l.length ≤ 1024 := fun {l} h1 h2 => by
    have a := cntP_list h1 h2
    have b := cntP_all (n := n) (P := fun y => y ∈ l)
    omega
  have hcs : ∀ x ∈ cs, A x ∧ ¬ x ∈ L ∧ st x 0 = (b : Nat) := fun x hx => (G.ft.mem b x hbA).1 ((hcm x).1 hx)
  have hts : ∀ x ∈ t, x ∈ L ∧ x ≠ b := fun x hx => ⟨(c3 x).1 (List.mem_cons_of_mem _ hx), by rintro rfl; exact (List.nodup_cons.1 c2).1 hx⟩
  have hcl := hlb hcn fun x hx => G.ft.lt x (hcs x hx).1
  have htl := hlb (List.nodup_cons.1 c2).2 fun x hx => G.ft.lt x (G.ft.ra x (hts x hx).1)
  refine S9.catR S12 (by intro v hv; simp only [natV, List.mem_map] at hv; obtain ⟨_, _, rfl⟩ := hv; rfl) (by omega) (by rw [natV_length, natV_length]; omega) ?_
  intro s16 own3 g3 F3 S16
  have Q := Q.fm F3 (by simp)
  obtain ⟨tr, htr⟩ : ∃ tr, tr = cs ++ t := ⟨_, rfl⟩
  have e16 : natV cs ++ natV t = natV tr := by rw [htr]; simp [natV]
  rw [e16] at S16
  have hnd : tr.Nodup := by
    rw [htr]
    refine List.nodup_append.2 ⟨hcn, (List.nodup_cons.1 c2).2, fun x hx y hy => ?_⟩
    rintro rfl
    exact (hcs x hx).2.1 (hts x hy).1
  refine new_bl ?_
  intro b18 q19 hb18 x18 B18
  have F4 : Fm [] own3 g3 (own1 own3 b18 38) q19 := Fm.new x18 hb18
  have k18 : B1 (own1 own3 b18 38) q19 38 b18 (ints 64 fun _ => 0) := B1.new B18
  have Q := Q.fm F4 (by simp)
  have S16 := S16.fm F4 (by simp)
  have F04 : Fm [32, 35, 36, 37, 38] own h (own1 own3 b18 38) q19 := (((F1.mono (by simp)).trans (F2.mono (by simp))).trans (F3.mono (by simp))).trans (F4.mono (by simp))
  generalize own1 own3 b18 38 = own4 at *
  refine S16.len (natV_length tr) fun _ _ => ?_
  have Ft0 := G.ft.lose hbL
  have htm : ∀ x, x ∈ tr ↔ (x ∈ L ∧ x ≠ b) ∨ (A x ∧ ¬ x ∈ L ∧ st x 0 = (b : Nat)) := fun x => by
    rw [htr, List.mem_append]
    constructor
    · rintro (k | k)
      · exact .inr (hcs x k)
      · exact .inl (hts x k)
    · rintro (⟨k, k2⟩ | k)
      · refine .inr ?_
        have := (c3 x).2 k
        simp only [List.mem_cons] at this
        exact this.resolve_left k2
      · exact .inl ((hcm x).2 ((G.ft.mem b x hbA).2 k))
  have Tb0 : TbP n key (fun v => A v ∧ v ≠ b) st C (fun _ => 0) (fun v => v ∈ tr) := by
    refine ⟨Ft0.uset (fun _ => Iff.rfl) fun x => ?_, fun d _ => .inl rfl⟩
    rw [← htm x]
    constructor
    · rintro (k | ⟨d, _, k⟩)
      · exact k
      · omega
    · exact .inl
  have trl : tr.length ≤ 2048 := by rw [htr, List.length_append]; omega
  generalize hA' : (fun v => A v ∧ v ≠ b) = A' at *
  clear Ft0 htm hts hcs hlb S9 S11 S11' S12 G Q0 c1 c2 c3 c4 hcm hcn
  let I : (Int × Unit) → H → Nat → Prop := fun p q z => ∃ (j : Nat) (st : Nat → Nat → Int) (C : Nat → List Nat) (tb : Nat → Int), p.1 = j ∧ j ≤ tr.length ∧ z = tr.length - j ∧ Fm [32, 35, 36, 37, 38] own h own4 q ∧
    HQ own4 q bq bf bl n key held cnt last (b : Nat) st ∧ B1 own4 q 38 b18 (ints 64 tb) ∧ S1 own4 q 36 s16 (natV tr) ∧ TbP n key A' st C tb (fun v => v ∈ tr.drop j)
  refine ⟨fun p q => ∃ k, I p q k, rk I, rk_wf I, ⟨_, 0, st, C, _, rfl, by omega, rfl, F04, Q, k18, S16, by rw [List.drop_zero]; exact Tb0⟩, ?_⟩
  clear Q k18 S16 Tb0 F04
  intro p q hI
  obtain ⟨j, st, C, tb, e1, hj, hk2, F0, Q, k18, S16, Tb⟩ := mu_spec hI
  generalize hkk : mu I ((p, ()), q) = km at *
  change p = (j : Int) at e1
  subst e1
  have hlt : j < tr.length → tr.length - (j + 1) < mu I (((j : Int), ()), q) := fun h => by rw [hkk, hk2]; omega
  clear hI
  refine ifP_of (fun h1 => ?_) (fun h1 => ?_)
  · have hjl : j < tr.length := by have := of_decide_eq_true h1; omega
    have hdr : tr.drop j = tr[j] :: tr.drop (j + 1) := List.drop_eq_getElem_cons hjl
    obtain ⟨x, hxe⟩ : ∃ x, x = tr[j] := ⟨_, rfl⟩
    rw [hdr, ← hxe] at Tb
    have hxd : x ∉ tr.drop (j + 1) := by
      have : (tr.drop j).Nodup := hnd.sublist (List.drop_sublist _ _)
      rw [hdr, ← hxe] at this
      exact (List.nodup_cons.1 this).1
    have hxA : A' x := Tb.ft.ra x (.inl (by simp))
    have hxn := Tb.ft.lt x hxA
    refine S16.rd (natV_get hjl) ?_
    rw [← hxe]
    refine ptrP_mk (ptrP_mk (ptrP_mk (ptrP_mk ⟨_, Q.f.ld rfl, _, Q.f.ld rfl, _, Q.f.ld rfl, _, Q.f.ld rfl, HL.ix hxn (Q.sI hxn (by omega) fun g1 G1 Q => ?_)⟩)))
    refine HL.ix hxn (Q.sI hxn (by omega) fun g2 G2 Q => HL.ix hxn (Q.sI hxn (by omega) fun g3 G3 Q => HL.ix hxn (Q.s5 hxn fun g4 G4 Q => ?_)))
    rw [if_neg (by simp)] at Q
    obtain ⟨s1, es1⟩ : ∃ s1, s1 = upd2 (upd2 (upd2 (upd2 st x 2 (x : Nat)) x 3 (x : Nat)) x 0 (-1)) x 5 0 := ⟨_, rfl⟩
    rw [← es1] at Q
    have o1 : ∀ y, y ≠ x → ∀ j, s1 y j = st y j := fun y hy j => by rw [es1, upd2_v hy, upd2_v hy, upd2_v hy, upd2_v hy]
    have m5 : s1 x 5 = 0 := by rw [es1, upd2_at]
    have m3 : s1 x 3 = (x : Nat) := by rw [es1, upd2_j (by omega), upd2_j (by omega), upd2_at]
    have m2 : s1 x 2 = (x : Nat) := by rw [es1, upd2_j (by omega), upd2_j (by omega), upd2_j (by omega), upd2_at]
    have m1 : s1 x 1 = st x 1 := by rw [es1, upd2_j (by omega), upd2_j (by omega), upd2_j (by omega), upd2_j (by omega)]
    have m4 : s1 x 4 = st x 4 := by rw [es1, upd2_j (by omega), upd2_j (by omega), upd2_j (by omega), upd2_j (by omega)]
    have G14 := ((G1.trans G2).trans G3).trans G4
    have k18 := k18.fm G14 (by simp)
    have S16 := S16.fm G14 (by simp)
    have F1 : Fm [32, 35, 36, 37, 38] own h own4 g4 := F0.trans (G14.mono (by simp))
    have Tb1 : TbP n key A' s1 C tb (fun v => v = x ∨ v ∈ tr.drop (j + 1)) := by
      refine ⟨(Tb.ft.congr (st' := s1) (fun y hy hr k => o1 y (by rintro rfl; exact hr (.inl (by simp))) k) (fun y _ => ?_) (fun y hy => ?_)).uset (fun _ => Iff.rfl) fun v => by rw [List.mem_cons], fun d hd => ?_⟩
      · by_cases e : y = x
        · subst e; exact ⟨m1, m4⟩
        · exact ⟨o1 y e 1, o1 y e 4⟩
      · by_cases e : y = x
        · subst e; exact .inl m5
        · rw [o1 y e]; exact Tb.ft.mrk y hy
      · rcases Tb.en d hd with e | ⟨v, e1, e2, e3, e4, e5⟩
        · exact .inl e
        · have hv : v ≠ x := by rintro rfl; exact e5 (by simp)
          exact .inr ⟨v, e1, by rw [o1 v hv]; exact e2, by rw [o1 v hv]; exact e3, by rw [o1 v hv]; exact e4, fun k => e5 (List.mem_cons.2 k)⟩
    let I2 : (Int × Unit) → H → Nat → Prop := fun p q z => ∃ (hc : Nat) (st : Nat → Nat → Int) (C : Nat → List Nat) (tb : Nat → Int), p.1 = hc ∧ z = (64 - st hc 4).toNat ∧ Fm [32, 35, 36, 37, 38] own h own4 q ∧
      HQ own4 q bq bf bl n key held cnt last (b : Nat) st ∧ B1 own4 q 38 b18 (ints 64 tb) ∧ S1 own4 q 36 s16 (natV tr) ∧ TbP n key A' st C tb (fun v => v = hc ∨ v ∈ tr.drop (j + 1)) ∧ st hc 2 = (hc : Nat) ∧ st hc 3 = (hc : Nat) ∧ hc ∉ tr.drop (j + 1)
    refine ⟨fun p q => ∃ k, I2 p q k, rk I2, rk_wf I2, ⟨_, x, s1, C, tb, rfl, rfl, F1, Q, k18, S16, Tb1, m2, m3, hxd⟩, ?_⟩
    clear Q k18 S16 Tb1 Tb F1 F0 hxd hxA hxn o1 m1 m2 m3 m4 m5 es1 G14 G1 G2 G3 G4 hxe
    intro p2 q2 hI
    obtain ⟨hc, st, C, tb, e1, hz2, F0, Q, k18, S16, Tb, m2, m3, hcd⟩ := mu_spec hI
    generalize hkk2 : mu I2 ((p2, ()), q2) = km2 at *
    change p2 = (hc : Int) at e1
    subst e1
    have hcA : A' hc := Tb.ft.ra hc (.inl (.inl rfl))
    have hcn := Tb.ft.lt hc hcA
    have few := Tb.ft.few hn1 hcA (.inl (by omega))
    obtain ⟨d, hd⟩ : ∃ d : Nat, st hc 4 = d := ⟨(st hc 4).toNat, by omega⟩
    have hd64 : d < 64 := by omega
    clear hI
    refine ptrP_mk ⟨_, Q.f.ld rfl, HL.ix hcn (Q.l.ldI hcn (by omega) ?_)⟩
    rw [hd]
    refine tbl_rd k18 hd64 ?_
    rcases Tb.en d hd64 with e | ⟨y, ey, y4, y2, y3, yW⟩
    · rw [e]
      refine ifP_of (fun _ => ?_) (fun k => absurd (of_decide_eq_false k) (by decide))
      refine tbl_st k18 hd64 fun g5 G5 k18 => ?_
      rw [i64_inc (by omega)] at k18 ⊢
      have Q := Q.fm G5 (by simp)
      refine mu_next (I := I) (k := tr.length - (j + 1)) ⟨j + 1, st, C, _, rfl, hjl, rfl, F0.trans (G5.mono (by simp)), Q, k18, S16.fm G5 (by simp), ?_⟩ (hlt hjl)
      refine ⟨Tb.ft.uset (fun _ => Iff.rfl) fun v => ?_, fun d' hd' => ?_⟩
      · constructor
        · rintro (k | ⟨d', h1, h2⟩)
          · exact .inl (.inr k)
          · by_cases e2 : d' = d
            · subst e2; rw [upd_at] at h2; exact .inl (.inl (by omega))
            · rw [upd_ne e2] at h2; exact .inr ⟨d', h1, h2⟩
        · rintro ((k | k) | ⟨d', h1, h2⟩)
          · exact .inr ⟨d, hd64, by rw [upd_at, k]⟩
          · exact .inl k
          · refine .inr ⟨d', h1, ?_⟩
            rw [upd_ne (by rintro rfl; rw [e] at h2; omega)]; exact h2
      · by_cases e2 : d' = d
        · subst e2; exact .inr ⟨hc, upd_at, hd, m2, m3, hcd⟩
        · rw [upd_ne e2]
          rcases Tb.en d' hd' with k | ⟨v, k1, k2, k3, k4, k5⟩
          · exact .inl k
          · exact .inr ⟨v, k1, k2, k3, k4, fun k => k5 (.inr k)⟩
    · have hyR : (fun v => (v = hc ∨ v ∈ tr.drop (j + 1)) ∨ ∃ d, d < 64 ∧ tb d = ((v + 1 : Nat) : Int)) y := .inr ⟨d, hd64, ey⟩
      have hyn := Tb.ft.lt y (Tb.ft.ra y hyR)
      have hne : hc ≠ y := fun e => yW (.inl e.symm)
      have hyd : y ∉ tr.drop (j + 1) := fun k => yW (.inr k)
      have ew : IntKind.i64.wrap (((y + 1 : Nat) : Int) - 1) = y := by
        rw [show ((y + 1 : Nat) : Int) - 1 = y by omega]; exact w64_in (by omega) (by omega)
      rw [ey, ew]
      refine ifP_of (fun k => by have := of_decide_eq_true k; omega) (fun _ => ?_)
      refine tbl_st k18 hd64 fun g5 G5 k18 => ?_
      have Q := Q.fm G5 (by simp)
      have S16 := S16.fm G5 (by simp)
      refine (under_T Q Tb.ft (a := hc) (b := y) (.inl (.inl rfl)) hyR hne (by rw [hd, y4]) ⟨m2, m3⟩ ⟨y2, y3⟩ (by omega)).mono ?_
      rintro _ g6 ⟨w, l, st', C', rfl, hwl, G6, Q, Ft', w4, oth, wf⟩
      have hw4 : st w 4 = d := by rcases hwl with ⟨rfl, _⟩ | ⟨rfl, _⟩; exact hd; exact y4
      have hwd : w ∉ tr.drop (j + 1) := by rcases hwl with ⟨rfl, _⟩ | ⟨rfl, _⟩; exact hcd; exact hyd
      have hld : l ∉ tr.drop (j + 1) := by rcases hwl with ⟨_, rfl⟩ | ⟨_, rfl⟩; exact hyd; exact hcd
      have hwl2 : w ≠ l := by rcases hwl with ⟨rfl, rfl⟩ | ⟨rfl, rfl⟩; exact hne; exact hne.symm
      have hw23 : st w 2 = (w : Nat) ∧ st w 3 = (w : Nat) := by rcases hwl with ⟨rfl, _⟩ | ⟨rfl, _⟩; exact ⟨m2, m3⟩; exact ⟨y2, y3⟩
      have hent : ∀ d', d' < 64 → d' ≠ d → ∀ v : Nat, tb d' = ((v + 1 : Nat) : Int) → v ≠ hc ∧ v ≠ y ∧ v ∉ tr.drop (j + 1) ∧ st v 4 = d' ∧ st v 2 = (v : Nat) ∧ st v 3 = (v : Nat) := fun d' h1 h2 v h3 => by
        rcases Tb.en d' h1 with k | ⟨v', k1, k2, k3, k4, k5⟩
        · omega
        · have : v' = v := by omega
          subst this
          refine ⟨fun e => k5 (.inl e), ?_, fun e => k5 (.inr e), k2, k3, k4⟩
          rintro rfl
          exact h2 (Int.ofNat.inj (k2.symm.trans y4))
      refine rt_ret ⟨_, rfl, ?_⟩
      refine mu_next (I := I2) (k := (64 - st' w 4).toNat) ⟨w, st', C', upd tb d 0, rfl, rfl, (F0.trans (G5.mono (by simp))).trans (G6.mono (by simp)), Q, k18.fm G6 (by simp), S16.fm G6 (by simp), ⟨Ft'.uset (fun _ => Iff.rfl) fun v => ?_, fun d' hd' => ?_⟩, ?_, ?_, hwd⟩ ?_
      · constructor
        · rintro ((k | k) | ⟨d', h1, h2⟩)
          · subst k
            refine ⟨?_, hwl2⟩
            rcases hwl with ⟨rfl, _⟩ | ⟨rfl, _⟩
            · exact .inl (.inl rfl)
            · exact hyR
          · exact ⟨.inl (.inr k), by rintro rfl; exact hld k⟩
          · by_cases e2 : d' = d
            · subst e2; rw [upd_at] at h2; omega
            · rw [upd_ne e2] at h2
              obtain ⟨a1, a2, _⟩ := hent d' h1 e2 v h2
              refine ⟨.inr ⟨d', h1, h2⟩, ?_⟩
              rcases hwl with ⟨_, rfl⟩ | ⟨_, rfl⟩
              · exact a2
              · exact a1
        · rintro ⟨(k | k) | ⟨d', h1, h2⟩, h3⟩
          · refine .inl (.inl ?_)
            rcases hwl with ⟨rfl, rfl⟩ | ⟨rfl, rfl⟩
            · exact k
            · exact absurd k h3
          · exact .inl (.inr k)
          · by_cases e2 : d' = d
            · subst e2
              have : v = y := by omega
              refine .inl (.inl ?_)
              rcases hwl with ⟨rfl, rfl⟩ | ⟨rfl, rfl⟩
              · exact absurd this h3
              · exact this
            · exact .inr ⟨d', h1, by rw [upd_ne e2]; exact h2⟩
      · by_cases e2 : d' = d
        · subst e2; exact .inl upd_at
        · rw [upd_ne e2]
          rcases Tb.en d' hd' with k | ⟨v, k1, _⟩
          · exact .inl k
          · obtain ⟨a1, a2, a3, a4, a5, a6⟩ := hent d' hd' e2 v k1
            have vw : v ≠ w := by rcases hwl with ⟨rfl, _⟩ | ⟨rfl, _⟩; exact a1; exact a2
            have vl : v ≠ l := by rcases hwl with ⟨_, rfl⟩ | ⟨_, rfl⟩; exact a2; exact a1
            have o := oth v (.inr ⟨d', hd', k1⟩) vl vw
            exact .inr ⟨v, k1, by rw [o]; exact a4, by rw [o]; exact a5, by rw [o]; exact a6, by rintro (k | k); exact vw k; exact a3 k⟩
      · rw [wf 2 (by omega) (by omega)]; exact hw23.1
      · rw [wf 3 (by omega) (by omega)]; exact hw23.2
      · rw [hkk2, hz2, hd, w4, hw4]; omega
  · have : j = tr.length := by have := of_decide_eq_false h1; omega
    subst this
    rw [List.drop_length] at Tb
    refine ptrP_mk (Q.sb fun g1 G1 Q => ?_)
    have k18 := k18.fm G1 (by simp)
    have F1 : Fm [32, 35, 36, 37, 38] own h own4 g1 := F0.trans (G1.mono (by simp))
    refine k18.ldN (ints_length _ _) ?_
    have inj : ∀ d d' : Nat, d < 64 → d' < 64 → ∀ v : Nat, tb d = ((v + 1 : Nat) : Int) → tb d' = ((v + 1 : Nat) : Int) → d = d' := fun d d' h1 h2 v h3 h4 => by
      rcases Tb.en d h1 with k | ⟨v1, k1, k2, _⟩
      · omega
      · rcases Tb.en d' h2 with k | ⟨v2, k3, k4, _⟩
        · omega
        · have e1 : v1 = v := by omega
          have e2 : v2 = v := by omega
          subst e1; subst e2; omega
    let I3 : (Int × Unit) → H → Nat → Prop := fun p q z => ∃ (j : Nat) (st : Nat → Nat → Int) (best : Int) (L : List Nat), p.1 = j ∧ j ≤ 64 ∧ z = 64 - j ∧ Fm [32, 35, 36, 37, 38] own h own4 q ∧
      HQ own4 q bq bf bl n key held cnt last best st ∧ FT n key A' (fun v => ∃ d, d < 64 ∧ tb d = ((v + 1 : Nat) : Int)) (-1) (-1) st C ∧ RI key st L best ∧ (∀ v, v ∈ L ↔ ∃ d, d < j ∧ tb d = ((v + 1 : Nat) : Int)) ∧
      (∀ d, j ≤ d → d < 64 → ∀ v : Nat, tb d = ((v + 1 : Nat) : Int) → st v 2 = (v : Nat) ∧ st v 3 = (v : Nat))
    have Ft3 := Tb.ft.uset (R' := fun v => ∃ d, d < 64 ∧ tb d = ((v + 1 : Nat) : Int)) (fun _ => Iff.rfl) fun v => ⟨fun k => .inr k, fun k => k.resolve_left (by simp)⟩
    refine ⟨fun p q => ∃ k, I3 p q k, rk I3, rk_wf I3, ⟨_, 0, st, -1, [], rfl, by omega, rfl, F1, Q, Ft3, ⟨by simp, trivial, by simp, .inl ⟨rfl, rfl⟩⟩, fun v => by simp, fun d _ hd v hv => ?_⟩, ?_⟩
    · rcases Tb.en d hd with k | ⟨v1, k1, _, k3, k4, _⟩
      · omega
      · have e1 : v1 = v := by omega
        subst e1; exact ⟨k3, k4⟩
    clear Q k18 Tb F1 F0 hlt hkk hk2 h1 hj Ft3
    intro p q hI
    obtain ⟨j, st, best, L, e1, hj, hz, F0, Q, Ft, I0, hL, hsg⟩ := mu_spec hI
    generalize hkk : mu I3 ((p, ()), q) = km at *
    change p = (j : Int) at e1
    subst e1
    clear hI
    refine ifP_of (fun h1 => ?_) (fun h1 => ?_)
    · have hj64 : j < 64 := by have := of_decide_eq_true h1; omega
      refine ⟨by omega, by omega, tb j, by rw [Int.toNat_natCast, Nat.mul_one]; exact ints_get hj64, ?_⟩
      have hlt : 64 - (j + 1) < mu I3 (((j : Int), ()), q) := by rw [hkk, hz]; omega
      refine ifP_of (fun h2 => ?_) (fun h2 => ?_)
      · have h2 := of_decide_eq_true h2
        obtain ⟨v, hv⟩ : ∃ v : Nat, tb j = ((v + 1 : Nat) : Int) := ⟨(tb j - 1).toNat, by omega⟩
        have hvA := Ft.ra v ⟨j, hj64, hv⟩
        have hvn := Ft.lt v hvA
        have ew : IntKind.i64.wrap (tb j - 1) = v := by
          rw [show tb j - 1 = v by omega]; exact w64_in (by omega) (by omega)
        rw [ew]
        have hvL : v ∉ L := fun k => by
          obtain ⟨d, h3, h4⟩ := (hL v).1 k
          have := inj d j (by omega) hj64 v h4 hv
          omega
        obtain ⟨v2, v3⟩ := hsg j (Nat.le_refl _) hj64 v hv
        refine (froot_T Q hvn I0 (fun y hy => by obtain ⟨d, h3, h4⟩ := (hL y).1 hy; exact Ft.lt y (Ft.ra y ⟨d, by omega, h4⟩)) hvL v2 v3).mono ?_
        rintro _ g2 ⟨rfl, G2, st', best', L', Q, S⟩
        refine rt_ret ⟨rfl, ?_⟩
        rw [i64_inc (by omega)]
        refine mu_next (I := I3) (k := 64 - (j + 1)) ⟨j + 1, st', best', L', rfl, hj64, rfl, F0.trans (G2.mono (by simp)), Q, ?_, S.ri, fun y => ?_, fun d h3 h4 y hy => ?_⟩ hlt
        · refine Ft.congr (fun y _ hy k => S.out y (by rintro rfl; exact hy ⟨j, hj64, hv⟩) (fun k2 => ?_) k) (fun y _ => ?_) (fun y hy => ?_)
          · obtain ⟨d, h3, h4⟩ := (hL y).1 k2
            exact hy ⟨d, by omega, h4⟩
          · by_cases e : y = v
            · subst e; exact ⟨S.me.2.2.1, S.me.2.2.2⟩
            · exact ⟨S.fld y e 1 (by omega), S.fld y e 4 (by omega)⟩
          · by_cases e : y = v
            · subst e; exact .inl S.me.2.1
            · rw [S.fld y e 5 (by omega)]; exact Ft.mrk y hy
        · rw [S.mem y, hL y]
          constructor
          · rintro (rfl | ⟨d, h3, h4⟩)
            · exact ⟨j, by omega, hv⟩
            · exact ⟨d, by omega, h4⟩
          · rintro ⟨d, h3, h4⟩
            by_cases e : d = j
            · subst e; exact .inl (by omega)
            · exact .inr ⟨d, by omega, h4⟩
        · have yv : y ≠ v := by
            rintro rfl
            have := inj d j h4 hj64 y hy hv
            omega
          have yL : y ∉ L := fun k => by
            obtain ⟨d', h5, h6⟩ := (hL y).1 k
            have := inj d d' h4 (by omega) y hy h6
            omega
          rw [S.out y yv yL, S.out y yv yL]
          exact hsg d (by omega) h4 y hy
      · have h2 := of_decide_eq_false h2
        rw [i64_inc (by omega)]
        refine mu_next (I := I3) (k := 64 - (j + 1)) ⟨j + 1, st, best, L, rfl, hj64, rfl, F0, Q, Ft, I0, fun y => ?_, fun d h3 h4 y hy => hsg d (by omega) h4 y hy⟩ hlt
        rw [hL y]
        constructor
        · rintro ⟨d, h3, h4⟩; exact ⟨d, by omega, h4⟩
        · rintro ⟨d, h3, h4⟩
          by_cases e : d = j
          · subst e; omega
          · exact ⟨d, by omega, h4⟩
    · have : j = 64 := by have := of_decide_eq_false h1; omega
      subst this
      exact ⟨rfl, own4, st, best, L, C, F0, Q, ⟨Ft.uset (fun _ => Iff.rfl) hL, I0⟩⟩
end

end Go.Proofs.YtjlojokockfapaaGreatDoor

namespace Go.Proofs.YtjlojokockfapaaGreatDoor
open Go
open Classical
set_option linter.unusedVariables false
set_option linter.unusedSimpArgs false

abbrev heldP (n : Nat) (held : Nat → Bool) (v : Nat) : Prop := v < n ∧ held v = true
/-- A queue: who is held, with which keys. -/
def FQ (own : Own) (h : H) (bq n : Nat) (key : Nat → Int) (held : Nat → Bool) : Prop :=
  ∃ bf bl last best st L C, HQ own h bq bf bl n key held (cntP n (heldP n held)) last best st ∧ FH n key (heldP n held) st best L C
section
variable {own own' : Own} {h h' : H} {n bq : Nat} {key : Nat → Int} {held : Nat → Bool}
theorem FQ.fm {M : List Nat} (Q : FQ own h bq n key held) (F : Fm M own h own' h') (hM : ∀ j, j ∈ M → j < 31 ∨ 35 < j) : FQ own' h' bq n key held := by
  obtain ⟨bf, bl, last, best, st, L, C, Q, G⟩ := Q
  exact ⟨bf, bl, last, best, st, L, C, Q.fm F hM, G⟩
theorem Len_T (Q : FQ own h bq n key held) : T Tryz.prog F.heaps_Queue_Len [.pointer (some (bk bq))] h fun r h' => r = .ret (.int .i64 (cntP n (heldP n held))) ∧ h = h' := by
  obtain ⟨bf, bl, last, best, st, L, C, Q, G⟩ := Q
  obtain ⟨vk, vh, k1, k2, k3⟩ := Q.q
  refine E_heaps_Queue_Len ?_
  unfold B_heaps_Queue_Len
  exact ptrP_mk ⟨_, k1.ld rfl, rfl, rfl⟩
theorem low_T {bf bl : Nat} {cnt last best : Int} {st : Nat → Nat → Int} (Q : HQ own h bq bf bl n key held cnt last best st) (k : Int) : T Tryz.prog F.heaps_Queue_low [.pointer (some (bk bq)), .int .i64 k] h fun r h' => r = .ret (.bool false) ∧ h = h' := by
  obtain ⟨vk, vh, k1, k2, k3⟩ := Q.q
  refine E_heaps_Queue_low ?_
  unfold B_heaps_Queue_low
  exact ptrP_mk ⟨_, k1.ld rfl, ifP_of (fun h => by simp at h) (fun _ => ⟨rfl, rfl⟩)⟩

theorem B1.ld0 {i b j : Nat} {vs : List Value} {v : Value} (B : B1 own h i b vs) (hi : vs[j]? = some v) : hcell h (((bk b).add 0).add j) = some v := by rw [add_zero']; exact B.ld hi
theorem FH.rekey {key' : Nat → Int} {A : Nat → Prop} {st : Nat → Nat → Int} {best : Int} {L : List Nat} {C : Nat → List Nat} (G : FH n key A st best L C) (hk : ∀ x, A x → key' x = key x) : FH n key' A st best L C := by
  have e : ∀ x y, A x → A y → ahd key x y → ahd key' x y := fun x y hx hy h => by unfold ahd at *; rw [hk x hx, hk y hy]; exact h
  refine ⟨G.ft.rekey fun x hx hr p hp _ ho => ?_, G.ri.nd, G.ri.cyc, G.ri.r0, ?_⟩
  · obtain ⟨p', e1, e2⟩ := G.ft.par x hx hr
    have : p' = p := by omega
    subst this
    exact e _ _ e2 hx ho
  · rcases G.ri.bst with h | ⟨b, h1, h2, h3⟩
    · exact .inl h
    · refine .inr ⟨b, h1, h2, fun v hv => ?_⟩
      rcases h3 v hv with k | k
      · exact .inl k
      · exact .inr (e _ _ (G.ft.ra b h2) (G.ft.ra v hv) k)
theorem FH.uset {A A' : Nat → Prop} {st : Nat → Nat → Int} {best : Int} {L : List Nat} {C : Nat → List Nat} (G : FH n key A st best L C) (h : ∀ x, A' x ↔ A x) : FH n key A' st best L C :=
  ⟨G.ft.uset h fun _ => Iff.rfl, G.ri⟩

theorem qpush_T (Q : FQ own h bq n key held) {v : Nat} {k : Int} (hv : v < n) (hh : held v = false) (hn : n ≤ 1024) :
    T Tryz.prog F.heaps_Queue_Push [.pointer (some (bk bq)), .int .i64 v, .int .i64 k] h fun r h' => r = .ret (.int .i64 0) ∧ Fm [31, 32, 33, 34, 35] own h own h' ∧ FQ own h' bq n (upd key v k) (updB held v true) := by
  obtain ⟨bf, bl, last, best, st, L, C, Q, G⟩ := Q
  have Q0 := Q
  obtain ⟨vk, vh, k1, k2, k3⟩ := Q.q
  have kf := Q.f
  have kl := Q.l
  refine E_heaps_Queue_Push ?_
  unfold B_heaps_Queue_Push
  refine ifP_of (fun e => by have := of_decide_eq_true e; omega) (fun _ => ptrP_mk ⟨_, k1.ld0 rfl, k3.len (bools_length _ _) fun _ _ => ifP_of (fun e => by have := of_decide_eq_true e; omega) (fun _ => ptrP_mk ⟨_, k1.ld0 rfl, k3.rdB hv ?_⟩)⟩)
  rw [hh]
  refine ifP_of (fun e => by cases e) (fun _ => ?_)
  refine (low_T Q0 k).mono ?_
  rintro _ _ ⟨rfl, rfl⟩
  refine rt_ret ⟨_, rfl, ifP_of (fun e => by cases e) (fun _ => ptrP_mk (ptrP_mk ⟨_, k1.ld0 rfl, _, k1.ld0 rfl, k2.setI hv fun g1 F1 k2 => ?_⟩))⟩
  have k1 := k1.fm F1 (by simp <;> omega)
  have k3 := k3.fm F1 (by simp <;> omega)
  have kf := kf.fm F1 (by simp <;> omega)
  have kl := kl.fm F1 (by simp <;> omega)
  refine k3.setB hv fun g2 F2 k3 => ?_
  have k1 := k1.fm F2 (by simp <;> omega)
  have k2 := k2.fm F2 (by simp <;> omega)
  have kf := kf.fm F2 (by simp <;> omega)
  have kl := kl.fm F2 (by simp <;> omega)
  have cb : 0 ≤ cntP n (heldP n held) ∧ cntP n (heldP n held) ≤ 1024 := ⟨cntP_nn, by have := cntP_all (n := n) (P := heldP n held); omega⟩
  have ew : IntKind.i64.wrap (cntP n (heldP n held) + 1) = cntP n (heldP n held) + 1 := w64_in (by omega) (by omega)
  refine ptrP_mk ⟨_, k1.ld rfl, ptrP_mk (k1.st (j := 3) (by simp) fun g3 F3 k1 => ?_)⟩
  rw [ew] at k1
  have k2 := k2.fm F3 (by simp <;> omega)
  have k3 := k3.fm F3 (by simp <;> omega)
  have kf := kf.fm F3 (by simp <;> omega)
  have kl := kl.fm F3 (by simp <;> omega)
  have ec : cntP n (heldP n (updB held v true)) = cntP n (heldP n held) + 1 := by
    rw [← cntP_add (P := heldP n held) hv (fun e => by have := e.2; rw [hh] at this; cases this)]
    refine cntP_congr fun x hx => ?_
    unfold updB heldP
    by_cases e : x = v
    · subst e; simp [hx]
    · simp [e]
  have Q : HQ own g3 bq bf bl n (upd key v k) (updB held v true) (cntP n (heldP n (updB held v true))) last best st := ⟨⟨vk, vh, by rw [ec]; exact k1, k2, k3⟩, kf, kl⟩
  have G := G.rekey (key' := upd key v k) fun x hx => upd_ne (by rintro rfl; have := hx.2; rw [hh] at this; cases this)
  refine ptrP_mk ⟨_, k1.ld rfl, _, _, fun w _ => methPush _ w, ?_⟩
  refine (fpush_T Q G hv (fun e => by have := e.2; rw [hh] at this; cases this)).mono ?_
  rintro _ g4 ⟨rfl, F4, st', best', L', C', Q, G⟩
  refine rt_ret ⟨rfl, rfl, (((F1.mono (by simp)).trans (F2.mono (by simp))).trans (F3.mono (by simp))).trans (F4.mono (by simp)), bf, bl, last, best', st', L', C', Q, G.uset fun x => ?_⟩
  unfold updB heldP
  by_cases e : x = v
  · subst e; simp [hv]
  · simp [e]

theorem qlower_T (Q : FQ own h bq n key held) {v : Nat} {k : Int} (hv : v < n) (hh : held v = true) (hk : k < key v) (hn : n ≤ 1024) :
    T Tryz.prog F.heaps_Queue_Lower [.pointer (some (bk bq)), .int .i64 v, .int .i64 k] h fun r h' => r = .ret (.int .i64 0) ∧ Fm [31, 32, 33, 34, 35] own h own h' ∧ FQ own h' bq n (upd key v k) held := by
  obtain ⟨bf, bl, last, best, st, L, C, Q, G⟩ := Q
  have Q0 := Q
  obtain ⟨vk, vh, k1, k2, k3⟩ := Q.q
  have kf := Q.f
  have kl := Q.l
  refine E_heaps_Queue_Lower ?_
  unfold B_heaps_Queue_Lower
  refine ifP_of (fun e => by have := of_decide_eq_true e; omega) (fun _ => ptrP_mk ⟨_, k1.ld0 rfl, k3.len (bools_length _ _) fun _ _ => ifP_of (fun e => by have := of_decide_eq_true e; omega) (fun _ => ptrP_mk ⟨_, k1.ld0 rfl, k3.rdB hv ?_⟩)⟩)
  rw [hh]
  refine ifP_of (fun e => by cases e) (fun _ => ptrP_mk ⟨_, k1.ld0 rfl, k2.rdI hv (ifP_of (fun e => by have := of_decide_eq_true e; omega) (fun _ => ?_))⟩)
  refine (low_T Q0 k).mono ?_
  rintro _ _ ⟨rfl, rfl⟩
  refine rt_ret ⟨_, rfl, ifP_of (fun e => by cases e) (fun _ => ptrP_mk ⟨_, k1.ld0 rfl, k2.rdI hv (ifP_of (fun _ => ?_) (fun e => by have := of_decide_eq_false e; omega))⟩)⟩
  refine ptrP_mk ⟨_, k1.ld0 rfl, k2.setI hv fun g1 F1 k2 => ?_⟩
  have k1 := k1.fm F1 (by simp <;> omega)
  have k3 := k3.fm F1 (by simp <;> omega)
  have kf := kf.fm F1 (by simp <;> omega)
  have kl := kl.fm F1 (by simp <;> omega)
  have Q : HQ own g1 bq bf bl n (upd key v k) held (cntP n (heldP n held)) last best st := ⟨⟨vk, vh, k1, k2, k3⟩, kf, kl⟩
  refine ptrP_mk ⟨_, k1.ld rfl, _, _, fun w _ => methLower _ w, ?_⟩
  refine (flower_T Q G hn ⟨hv, hh⟩ (by rw [upd_at]; exact hk) (fun x hx => upd_ne hx)).mono ?_
  rintro _ g2 ⟨rfl, F2, st', best', L', C', Q, G⟩
  exact rt_ret ⟨rfl, rfl, (F1.mono (by simp)).trans (F2.mono (by simp)), bf, bl, last, best', st', L', C', Q, G⟩
end

end Go.Proofs.YtjlojokockfapaaGreatDoor

namespace Go.Proofs.YtjlojokockfapaaGreatDoor
open Go
open Classical
set_option linter.unusedVariables false
set_option linter.unusedSimpArgs false

section
variable {own own' : Own} {h h' : H} {n bq : Nat} {key : Nat → Int} {held : Nat → Bool}
theorem qpop_T (Q : FQ own h bq n key held) (hc : 0 < cntP n (heldP n held)) (hn : n ≤ 1024) :
    T Tryz.prog F.heaps_Queue_Pop [.pointer (some (bk bq))] h fun r h' => ∃ (v : Nat) (own' : Own), r = .ret (.tuple ⟨[.int .i64 v, .int .i64 (key v), .int .i64 0]⟩) ∧ v < n ∧ held v = true ∧ (∀ x, x < n → held x = true → key v ≤ key x) ∧
      Fm [31, 32, 33, 34, 35, 36, 37, 38] own h own' h' ∧ FQ own' h' bq n key (updB held v false) := by
  obtain ⟨bf, bl, last, best, st, L, C, Q, G⟩ := Q
  have Q0 := Q
  obtain ⟨vk, vh, k1, k2, k3⟩ := Q.q
  have cb : cntP n (heldP n held) ≤ 1024 := by have := cntP_all (n := n) (P := heldP n held); omega
  -- the best
  obtain ⟨b, rfl, hbL, hmin⟩ : ∃ b : Nat, best = b ∧ b ∈ L ∧ ∀ v ∈ L, v = b ∨ ahd key b v := by
    rcases G.ri.bst with ⟨e, _⟩ | e
    · exfalso
      subst e
      have : ∀ k : Nat, ∀ v, heldP n held v → cntP n (fun y => ahd key y v) ≤ k → False := by
        intro k
        induction k with
        | zero =>
          intro v hv hc
          obtain ⟨q, e, hq⟩ := G.ft.par v hv (by simp)
          have o := G.ft.ord v q hv (by simp) e (by omega)
          have := cntP_one (n := n) (P := fun y => ahd key y v) (G.ft.lt q hq) o
          omega
        | succ k ih =>
          intro v hv hc
          obtain ⟨q, e, hq⟩ := G.ft.par v hv (by simp)
          have o := G.ft.ord v q hv (by simp) e (by omega)
          refine ih q hq ?_
          have h1 : cntP n (fun y => y = q ∨ ahd key y q) ≤ cntP n (fun y => ahd key y v) := cntP_le fun y _ hy => by
            rcases hy with rfl | hy
            · exact o
            · exact ahd_tr hy o
          rw [cntP_add (P := fun y => ahd key y q) (G.ft.lt q hq) ahd_irr] at h1
          omega
      have e0 : cntP n (heldP n held) = 0 := cntP_0 fun x _ hx => this n x hx cntP_all
      omega
    · exact e
  have hbA := G.ft.ra b hbL
  have hbn := hbA.1
  have hbest : ∀ x, x < n → held x = true → key b ≤ key x := fun x hx hh => by
    rcases G.ft.min (fun v hv => hmin v hv) x ⟨hx, hh⟩ with e | e
    · rw [e]; omega
    · unfold ahd at e; omega
  refine E_heaps_Queue_Pop ?_
  unfold B_heaps_Queue_Pop
  have top : T Tryz.prog F.heaps_Queue_Top [.pointer (some (bk bq))] h fun r h' => r = .ret (.tuple ⟨[.int .i64 b, .int .i64 (key b), .int .i64 0]⟩) ∧ h = h' := by
    refine E_heaps_Queue_Top ?_
    unfold B_heaps_Queue_Top
    refine ptrP_mk ⟨_, k1.ld rfl, ifP_of (fun e => by have := of_decide_eq_true e; omega) (fun _ => ptrP_mk ⟨_, k1.ld rfl, _, _, fun w _ => methTop _ w, ?_⟩)⟩
    have tt : T Tryz.prog F.heaps_fibonacci_top [.pointer (some (bk bf))] h fun r h' => r = .ret (.int .i64 b) ∧ h = h' := by
      refine E_heaps_fibonacci_top ?_
      unfold B_heaps_fibonacci_top
      exact ptrP_mk ⟨_, Q.f.ld rfl, rfl, rfl⟩
    refine tt.mono ?_
    rintro _ _ ⟨rfl, rfl⟩
    exact rt_ret ⟨_, rfl, ptrP_mk ⟨_, k1.ld0 rfl, k2.rdI hbn ⟨rfl, rfl⟩⟩⟩
  refine top.mono ?_
  rintro _ _ ⟨rfl, rfl⟩
  refine rt_ret ⟨_, _, _, rfl, ifP_of (fun _ => ptrP_mk ⟨_, k1.ld rfl, _, _, fun w _ => methPop _ w, ?_⟩) (fun e => by simp at e)⟩
  refine (fpop_T Q G hn rfl hbL).mono ?_
  rintro _ g1 ⟨rfl, own1_, st', best', L', C', F1, Q, G⟩
  obtain ⟨vk, vh, k1, k2, k3⟩ := Q.q
  have kf := Q.f
  have kl := Q.l
  refine rt_ret ⟨rfl, ptrP_mk ⟨_, k1.ld0 rfl, k3.setB hbn fun g2 F2 k3 => ?_⟩⟩
  have k1 := k1.fm F2 (by simp <;> omega)
  have k2 := k2.fm F2 (by simp <;> omega)
  have kf := kf.fm F2 (by simp <;> omega)
  have kl := kl.fm F2 (by simp <;> omega)
  have ew : IntKind.i64.wrap (cntP n (heldP n held) - 1) = cntP n (heldP n held) - 1 := w64_in (by omega) (by omega)
  refine ptrP_mk ⟨_, k1.ld rfl, ptrP_mk (k1.st (j := 3) (by simp) fun g3 F3 k1 => ?_)⟩
  rw [ew] at k1
  have k2 := k2.fm F3 (by simp <;> omega)
  have k3 := k3.fm F3 (by simp <;> omega)
  have kf := kf.fm F3 (by simp <;> omega)
  have kl := kl.fm F3 (by simp <;> omega)
  refine ptrP_mk (k1.st (j := 5) (by simp) fun g4 F4 k1 => ?_)
  have k2 := k2.fm F4 (by simp <;> omega)
  have k3 := k3.fm F4 (by simp <;> omega)
  have kf := kf.fm F4 (by simp <;> omega)
  have kl := kl.fm F4 (by simp <;> omega)
  have ec : cntP n (heldP n held) = cntP n (heldP n (updB held b false)) + 1 := by
    rw [← cntP_add (a := b) (P := heldP n (updB held b false)) hbn (fun e => by have := e.2; unfold updB at this; rw [if_pos rfl] at this; cases this)]
    refine cntP_congr fun x hx => ?_
    unfold updB heldP
    by_cases e : x = b
    · subst e; simp [hx, hbA.2]
    · simp [e]
  have Q : HQ own1_ g4 bq bf bl n key (updB held b false) (cntP n (heldP n (updB held b false))) (key b) best' st' :=
    ⟨⟨vk, vh, by rw [show cntP n (heldP n (updB held b false)) = cntP n (heldP n held) - 1 by omega]; exact k1, k2, k3⟩, kf, kl⟩
  refine ⟨b, own1_, rfl, hbn, hbA.2, hbest, (((F1.mono (by simp)).trans (F2.mono (by simp))).trans (F3.mono (by simp))).trans (F4.mono (by simp)), bf, bl, key b, best', st', L', C', Q, G.uset fun x => ?_⟩
  unfold updB heldP
  by_cases e : x = b
  · subst e; simp
  · simp [e]

theorem va_6 {k : Nat} {f : Nat → Value} : va (k + 6) f = va k f ++ [f k, f (k + 1), f (k + 2), f (k + 3), f (k + 4), f (k + 5)] := by
  simp [va, List.range_succ]
theorem zrep_fcl : ∀ {n : Nat}, zrep [.int .i64 0, .int .i64 0, .int .i64 0, .int .i64 0, .int .i64 0, .bool false] n = va (n * 6) (fcl fun _ _ => 0)
  | 0 => rfl
  | n + 1 => by
    have ih := zrep_fcl (n := n)
    unfold zrep at ih ⊢
    rw [List.replicate_succ', List.flatten_append, ih, show (n + 1) * 6 = n * 6 + 6 by omega, va_6]
    have e0 : fcl (fun _ _ => 0) (n * 6) = .int .i64 0 := fcl_i (st := fun _ _ => 0) (x := n) (k := 0) (by omega)
    have e1 : fcl (fun _ _ => 0) (n * 6 + 1) = .int .i64 0 := fcl_i (st := fun _ _ => 0) (by omega)
    have e2 : fcl (fun _ _ => 0) (n * 6 + 2) = .int .i64 0 := fcl_i (st := fun _ _ => 0) (by omega)
    have e3 : fcl (fun _ _ => 0) (n * 6 + 3) = .int .i64 0 := fcl_i (st := fun _ _ => 0) (by omega)
    have e4 : fcl (fun _ _ => 0) (n * 6 + 4) = .int .i64 0 := fcl_i (st := fun _ _ => 0) (by omega)
    have e5 : fcl (fun _ _ => 0) (n * 6 + 5) = .bool false := fcl_b (st := fun _ _ => 0)
    rw [e0, e1, e2, e3, e4, e5]
    simp
theorem qnew_T (own : Own) (hn : n ≤ 1024) : T Tryz.prog F.heaps_New [.int .i64 3, .int .i64 n] h fun r h' => ∃ (bq : Nat) (own' : Own), r = .ret (.tuple ⟨[.pointer (some (bk bq)), .int .i64 0]⟩) ∧
    Fm [31] own h own' h' ∧ FQ own' h' bq n (fun _ => 0) (fun _ => false) := by
  refine E_heaps_New ?_
  unfold B_heaps_New
  refine ifP_of (fun e => by simp at e) (fun _ => ifP_of (fun e => by simp at e) (fun _ => ifP_of (fun e => by have := of_decide_eq_true e; omega) (fun _ => ifP_of (fun e => by have := of_decide_eq_true e; omega) (fun _ => ?_))))
  refine mk_ints 33 (by omega) (by omega) ?_
  intro b1 q1 hb1 x1 S1_
  have F1 : Fm [] own h (own1 own b1 33) q1 := Fm.new x1 hb1
  have k2 := S1_ own
  rw [Int.toNat_natCast]
  generalize own1 own b1 33 = own1_ at *
  refine mk_bools 34 (by omega) (by omega) ?_
  intro b3 q3 hb3 x3 S3_
  have F3 : Fm [] own1_ q1 (own1 own1_ b3 34) q3 := Fm.new x3 hb3
  have k3 := S3_ own1_
  have k2 := k2.fm F3 (by simp <;> omega)
  have F1 := F1.trans F3
  generalize own1 own1_ b3 34 = own3 at *
  refine ⟨rfl, new_bl ?_⟩
  intro b5 q5 hb5 x5 B5
  have F5 : Fm [] own3 q3 (own1 own3 b5 31) q5 := Fm.new x5 hb5
  have k1 : B1 (own1 own3 b5 31) q5 31 b5 _ := B1.new B5
  have k2 := k2.fm F5 (by simp <;> omega)
  have k3 := k3.fm F5 (by simp <;> omega)
  have F1 := F1.trans F5
  generalize own1 own3 b5 31 = own5 at *
  refine ifP_of (fun e => by simp at e) (fun _ => ifP_of (fun e => by simp at e) (fun _ => ifP_of (fun _ => ?_) (fun e => by simp at e)))
  refine ⟨by omega, by omega, by omega, by omega, ?_⟩
  rw [Int.toNat_natCast, zrep_fcl]
  refine new_bl ?_
  intro b17 q17 hb17 x17 B17
  have F17 : Fm [] own5 q5 (own1 own5 b17 35) q17 := Fm.new x17 hb17
  have kl : B1 (own1 own5 b17 35) q17 35 b17 _ := B1.new B17
  have k1 := k1.fm F17 (by simp <;> omega)
  have k2 := k2.fm F17 (by simp <;> omega)
  have k3 := k3.fm F17 (by simp <;> omega)
  have F1 := F1.trans F17
  generalize own1 own5 b17 35 = own7 at *
  refine new_bl ?_
  intro b19 q19 hb19 x19 B19
  have F19 : Fm [] own7 q17 (own1 own7 b19 32) q19 := Fm.new x19 hb19
  have kf : B1 (own1 own7 b19 32) q19 32 b19 _ := B1.new B19
  have k1 := k1.fm F19 (by simp <;> omega)
  have k2 := k2.fm F19 (by simp <;> omega)
  have k3 := k3.fm F19 (by simp <;> omega)
  have kl := kl.fm F19 (by simp <;> omega)
  have F1 := F1.trans F19
  generalize own1 own7 b19 32 = own9 at *
  rw [add_zero'] at kf
  refine k1.st (j := 2) (by simp) fun g F20 k1 => ?_
  have k2 := k2.fm F20 (by simp <;> omega)
  have k3 := k3.fm F20 (by simp <;> omega)
  have kl := kl.fm F20 (by simp <;> omega)
  have kf := kf.fm F20 (by simp <;> omega)
  have e0 : cntP n (heldP n fun _ => false) = 0 := cntP_0 fun x _ hx => by cases hx.2
  have hF : ∀ x, heldP n (fun _ => false) x ↔ False := fun x => ⟨fun hx => (by cases hx.2), fun e => e.elim⟩
  refine ⟨b5, own9, rfl, (F1.mono (by simp)).trans F20, b19, b17, 0, -1, fun _ _ => 0, [], fun _ => [], ⟨⟨_, _, ?_, k2, k3⟩, kf, kl⟩, ⟨FT.init.uset hF fun x => by simp, by simp, trivial, by simp, .inl ⟨rfl, rfl⟩⟩⟩
  rw [e0]
  exact k1
end

end Go.Proofs.YtjlojokockfapaaGreatDoor

namespace Go.Proofs.YtjlojokockfapaaGreatDoor
open Go
set_option linter.unusedVariables false
set_option linter.unusedSimpArgs false

/-- What each node still has too much, when x goes along an arc. -/
def exS (ex : Nat → Int) (a b : Nat) (x : Int) : Nat → Int := fun v => ex v - (if a = v then x else 0) + (if b = v then x else 0)
/-- The net of mincost in the heap: owners 1 from, 2 to, 3 room, 4 cost, 5 out, 6 extra, 7 pot, 8 the struct, 40 + v (out of v). -/
structure MN (own : Own) (h : H) (bn n m : Nat) (fr to : Nat → Nat) (room cost ex pot : Nat → Int) : Prop where
  q : ∃ vf vt vr vc vo vx vp outs, B1 own h 8 bn [vf, vt, vr, vc, vo, vx, vp] ∧ S1 own h 1 vf (ints (2 * m) fun a => (tlA fr to a : Nat)) ∧ S1 own h 2 vt (ints (2 * m) fun a => (hdA fr to a : Nat)) ∧
    S1 own h 3 vr (ints (2 * m) room) ∧ S1 own h 4 vc (ints (2 * m) cost) ∧ S1 own h 5 vo (va n outs) ∧ S1 own h 6 vx (ints n ex) ∧ S1 own h 7 vp (ints n pot) ∧ ∀ v, v < n → S1 own h (40 + v) (outs v) (natV (arcsL fr to m v))
section
variable {own own' : Own} {h h' : H} {bn n m : Nat} {fr to : Nat → Nat} {room cost ex pot : Nat → Int} {M : List Nat}
theorem MN.fm (N : MN own h bn n m fr to room cost ex pot) (F : Fm M own h own' h') (hM : ∀ i, i ∈ M → 8 < i ∧ i < 40) : MN own' h' bn n m fr to room cost ex pot := by
  obtain ⟨vf, vt, vr, vc, vo, vx, vp, outs, k8, k1, k2, k3, k4, k5, k6, k7, ko⟩ := N.q
  have no : ∀ j, (j ≤ 8 ∨ 40 ≤ j) → j ∉ M := fun j hj hm => by have := hM j hm; omega
  exact ⟨vf, vt, vr, vc, vo, vx, vp, outs, k8.fm F (no _ (by omega)), k1.fm F (no _ (by omega)), k2.fm F (no _ (by omega)), k3.fm F (no _ (by omega)), k4.fm F (no _ (by omega)), k5.fm F (no _ (by omega)),
    k6.fm F (no _ (by omega)), k7.fm F (no _ (by omega)), fun v hv => (ko v hv).fm F (no _ (by omega))⟩
theorem MN.ext (N : MN own h bn n m fr to room cost ex pot) (x : Ext h h') : MN own h' bn n m fr to room cost ex pot := N.fm (M := []) (Fm.of_ext x) (by simp)
theorem MN.nw {b i : Nat} (N : MN own h bn n m fr to room cost ex pot) (x : Ext h h') (hb : h b = none) : MN (own1 own b i) h' bn n m fr to room cost ex pot := N.fm (M := []) (Fm.new x hb) (by simp)

theorem msend_T (N : MN own h bn n m fr to room cost ex pot) (hm : m ≤ 4096) (hn : ∀ i, i < m → fr i < n ∧ to i < n) {a : Nat} {x : Int} (ha : a < 2 * m)
    (hr : ∀ c, c < 2 * m → -1152921504606846976 ≤ room c ∧ room c ≤ 1152921504606846976) (hx : -1152921504606846976 ≤ x ∧ x ≤ 1152921504606846976) (he : ∀ v, v < n → -1152921504606846976 ≤ ex v ∧ ex v ≤ 1152921504606846976) :
    T Tryz.prog F.mincost_net_send [.pointer (some (bk bn)), .int .i64 a, .int .i64 x] h fun r h' => r = .ret (.tuple ⟨[]⟩) ∧ Fm [3, 6] own h own h' ∧
      MN own h' bn n m fr to (sndR room a x) cost (exS ex (tlA fr to a) (hdA fr to a) x) pot := by
  obtain ⟨vf, vt, vr, vc, vo, vx, vp, outs, k8, k1, k2, k3, k4, k5, k6, k7, ko⟩ := N.q
  have hp := prA_lt ha
  have ht := tl_lt hn ha
  have hd := hd_lt hn ha
  have r1 := hr a ha
  have r2 := hr _ hp
  have e1 := he _ ht
  have e2 := he _ hd
  refine E_mincost_net_send ?_
  unfold B_mincost_net_send
  refine ptrP_mk ⟨_, k8.ld rfl, k3.rdI ha (k3.setI ha fun g1 F1 k3 => ?_)⟩
  have k1 := k1.fm F1 (by simp <;> omega)
  have k2 := k2.fm F1 (by simp <;> omega)
  have k4 := k4.fm F1 (by simp <;> omega)
  have k5 := k5.fm F1 (by simp <;> omega)
  have k6 := k6.fm F1 (by simp <;> omega)
  have k7 := k7.fm F1 (by simp <;> omega)
  have k8 := k8.fm F1 (by simp <;> omega)
  have ko := fun v hv => (ko v hv).fm F1 (by simp; omega)
  rw [xor1 (by omega)]
  refine ptrP_mk ⟨_, k8.ld rfl, k3.rdI hp (k3.setI hp fun g2 F2 k3 => ?_)⟩
  have k1 := k1.fm F2 (by simp <;> omega)
  have k2 := k2.fm F2 (by simp <;> omega)
  have k4 := k4.fm F2 (by simp <;> omega)
  have k5 := k5.fm F2 (by simp <;> omega)
  have k6 := k6.fm F2 (by simp <;> omega)
  have k7 := k7.fm F2 (by simp <;> omega)
  have k8 := k8.fm F2 (by simp <;> omega)
  have ko := fun v hv => (ko v hv).fm F2 (by simp; omega)
  refine ptrP_mk (ptrP_mk ⟨_, k8.ld rfl, _, k8.ld rfl, k1.rdI ha (k6.rdI ht (k6.setI ht fun g3 F3 k6 => ?_))⟩)
  have k1 := k1.fm F3 (by simp <;> omega)
  have k2 := k2.fm F3 (by simp <;> omega)
  have k3 := k3.fm F3 (by simp <;> omega)
  have k4 := k4.fm F3 (by simp <;> omega)
  have k5 := k5.fm F3 (by simp <;> omega)
  have k7 := k7.fm F3 (by simp <;> omega)
  have k8 := k8.fm F3 (by simp <;> omega)
  have ko := fun v hv => (ko v hv).fm F3 (by simp; omega)
  refine ptrP_mk (ptrP_mk ⟨_, k8.ld rfl, _, k8.ld rfl, k2.rdI ha (k6.rdI hd (k6.setI hd fun g4 F4 k6 => ?_))⟩)
  have k1 := k1.fm F4 (by simp <;> omega)
  have k2 := k2.fm F4 (by simp <;> omega)
  have k3 := k3.fm F4 (by simp <;> omega)
  have k4 := k4.fm F4 (by simp <;> omega)
  have k5 := k5.fm F4 (by simp <;> omega)
  have k7 := k7.fm F4 (by simp <;> omega)
  have k8 := k8.fm F4 (by simp <;> omega)
  have ko := fun v hv => (ko v hv).fm F4 (by simp; omega)
  have er : upd (upd room a (IntKind.i64.wrap (room a - x))) (prA a) (IntKind.i64.wrap (upd room a (IntKind.i64.wrap (room a - x)) (prA a) + x)) = sndR room a x := by
    have q1 : IntKind.i64.wrap (room a - x) = room a - x := w64_in (by omega) (by omega)
    have q2 : upd room a (IntKind.i64.wrap (room a - x)) (prA a) = room (prA a) := if_neg (prA_ne a)
    have q3 : IntKind.i64.wrap (room (prA a) + x) = room (prA a) + x := w64_in (by omega) (by omega)
    rw [q2, q3, q1]; rfl
  have ee : upd (upd ex (tlA fr to a) (IntKind.i64.wrap (ex (tlA fr to a) - x))) (hdA fr to a) (IntKind.i64.wrap (upd ex (tlA fr to a) (IntKind.i64.wrap (ex (tlA fr to a) - x)) (hdA fr to a) + x)) = exS ex (tlA fr to a) (hdA fr to a) x := by
    have q1 : IntKind.i64.wrap (ex (tlA fr to a) - x) = ex (tlA fr to a) - x := w64_in (by omega) (by omega)
    rw [q1]
    generalize tlA fr to a = u at *
    generalize hdA fr to a = w at *
    have q2 : upd ex u (ex u - x) w = ex w - (if u = w then x else 0) := by
      unfold upd
      by_cases e : w = u
      · subst e; rw [if_pos rfl, if_pos rfl]
      · rw [if_neg e, if_neg (fun h => e h.symm)]; omega
    rw [q2]
    have q3 : IntKind.i64.wrap (ex w - (if u = w then x else 0) + x) = ex w - (if u = w then x else 0) + x := w64_in (by split <;> omega) (by split <;> omega)
    rw [q3]
    funext v
    unfold exS upd
    by_cases e : v = w
    · subst e; rw [if_pos rfl, if_pos rfl]
    · rw [if_neg e, if_neg (fun h : w = v => e h.symm)]
      by_cases e2 : v = u
      · subst e2; rw [if_pos rfl, if_pos rfl]; omega
      · rw [if_neg e2, if_neg (fun h : u = v => e2 h.symm)]; omega
  rw [er] at k3
  rw [ee] at k6
  exact ⟨rfl, (((F1.mono (by simp)).trans (F2.mono (by simp))).trans (F3.mono (by simp))).trans (F4.mono (by simp)), vf, vt, vr, vc, vo, vx, vp, outs, k8, k1, k2, k3, k4, k5, k6, k7, ko⟩
end

end Go.Proofs.YtjlojokockfapaaGreatDoor

namespace Go.Proofs.YtjlojokockfapaaGreatDoor
open Go
set_option linter.unusedVariables false
set_option linter.unusedSimpArgs false

/-- An arc's cost by the potentials. -/
def redC (fr to : Nat → Nat) (cost pot : Nat → Int) (a : Nat) : Int := cost a + pot (tlA fr to a) - pot (hdA fr to a)
section
variable {own own' : Own} {h h' : H} {bn n m : Nat} {fr to : Nat → Nat} {room cost ex pot : Nat → Int} {M : List Nat}
theorem reduced_T (N : MN own h bn n m fr to room cost ex pot) (hn : ∀ i, i < m → fr i < n ∧ to i < n) {a : Nat} (ha : a < 2 * m)
    (hc : -1152921504606846976 ≤ cost a ∧ cost a ≤ 1152921504606846976) (hp : ∀ v, v < n → -1152921504606846976 ≤ pot v ∧ pot v ≤ 1152921504606846976) :
    T Tryz.prog F.mincost_net_reduced [.pointer (some (bk bn)), .int .i64 a] h fun r h' => r = .ret (.int .i64 (redC fr to cost pot a)) ∧ h = h' := by
  obtain ⟨vf, vt, vr, vc, vo, vx, vp, outs, k8, k1, k2, k3, k4, k5, k6, k7, ko⟩ := N.q
  have ht := tl_lt hn ha
  have hd := hd_lt hn ha
  have p1 := hp _ ht
  have p2 := hp _ hd
  refine E_mincost_net_reduced ?_
  unfold B_mincost_net_reduced
  refine ptrP_mk (ptrP_mk (ptrP_mk (ptrP_mk (ptrP_mk ⟨_, k8.ld rfl, k4.rdI ha ⟨_, k8.ld rfl, _, k8.ld rfl, k1.rdI ha (k7.rdI ht ⟨_, k8.ld rfl, _, k8.ld rfl, k2.rdI ha (k7.rdI hd ?_)⟩)⟩⟩))))
  have q1 : IntKind.i64.wrap (cost a + pot (tlA fr to a)) = cost a + pot (tlA fr to a) := w64_in (by omega) (by omega)
  have q2 : IntKind.i64.wrap (cost a + pot (tlA fr to a) - pot (hdA fr to a)) = cost a + pot (tlA fr to a) - pot (hdA fr to a) := w64_in (by omega) (by omega)
  rw [q1, q2]
  exact ⟨rfl, rfl⟩
theorem missing_T (N : MN own h bn n m fr to room cost ex pot) (hn1 : n ≤ 1024) :
    T Tryz.prog F.mincost_ways_missing [.agg ⟨[.pointer (some (bk bn))]⟩] h fun r h' => (∃ t : Bool, r = .ret (.bool t) ∧ (t = true ↔ ∃ v, v < n ∧ 0 < ex v)) ∧ Ext h h' := by
  obtain ⟨vf, vt, vr, vc, vo, vx, vp, outs, k8, k1, k2, k3, k4, k5, k6, k7, ko⟩ := N.q
  refine E_mincost_ways_missing ?_
  unfold B_mincost_ways_missing
  refine new_bl ?_
  intro b1 q1 hb1 x1 B1_
  have k8 := k8.ext x1
  have k6 := k6.ext x1
  refine ⟨_, B1_.ld rfl, ptrP_mk ⟨_, k8.ld rfl, k6.len (ints_length _ _) fun _ _ => ?_⟩⟩
  let I : (Int × Unit) → H → Nat → Prop := fun p q z => ∃ j : Nat, p.1 = j ∧ j ≤ n ∧ z = n - j ∧ q1 = q ∧ ∀ v, v < j → ¬ 0 < ex v
  refine ⟨fun p q => ∃ k, I p q k, rk I, rk_wf I, ⟨_, 0, rfl, by omega, rfl, rfl, fun v hv => by omega⟩, ?_⟩
  intro p q hI
  obtain ⟨j, e1, hj, hz, e2, hno⟩ := mu_spec hI
  generalize hkk : mu I ((p, ()), q) = km at *
  change p = (j : Int) at e1
  subst e1 e2
  have hlt : j < n → n - (j + 1) < mu I (((j : Int), ()), q1) := fun h => by rw [hkk, hz]; omega
  clear hI
  refine ifP_of (fun h1 => ?_) (fun h1 => ?_)
  · have hjn : j < n := by have := of_decide_eq_true h1; omega
    refine k6.rdI hjn (ifP_of (fun h2 => ?_) (fun h2 => ?_))
    · exact ⟨⟨true, rfl, fun _ => ⟨j, hjn, of_decide_eq_true h2⟩, fun _ => rfl⟩, x1⟩
    · have h2 := of_decide_eq_false h2
      rw [i64_inc (by omega)]
      refine mu_next (I := I) (k := n - (j + 1)) ⟨j + 1, rfl, hjn, rfl, rfl, fun v hv => ?_⟩ (hlt hjn)
      by_cases e : v = j
      · subst e; exact h2
      · exact hno v (by omega)
  · have : j = n := by have := of_decide_eq_false h1; omega
    subst this
    refine ⟨⟨false, rfl, fun h => (by cases h), fun ⟨v, h2, h3⟩ => absurd h3 (hno v h2)⟩, x1⟩
end

end Go.Proofs.YtjlojokockfapaaGreatDoor

namespace Go.Proofs.YtjlojokockfapaaGreatDoor
open Go
set_option linter.unusedVariables false
set_option linter.unusedSimpArgs false

section
variable {own own' : Own} {h h' : H} {i : Nat}
/-- The last one gone: v[:len(v)-1]. -/
theorem S1.pop {v x : Value} {xs : List Value} (s : S1 own h i v (xs ++ [x])) :
    ∃ b c, v = .slice (some (bk b)) (xs.length + 1) c ∧ xs.length + 1 ≤ c ∧ S1 own h i (sliceV (some (bk b)) c 0 (xs.length : Int) 1) xs := by
  rcases s with ⟨e, _⟩ | ⟨b, hb, c, e, zs, rfl, h2, h3⟩
  · simp at e
  · simp only [List.length_append, List.length_cons, List.length_nil] at h3 ⊢
    refine ⟨b, c, rfl, by omega, .inr ⟨b, hb, c, e, x :: zs, ?_, by simpa using h2, by simp; omega⟩⟩
    unfold sliceV
    rw [if_neg (show ¬ c = (0 : Int).toNat by simp; omega)]
    simp [bk, Addr.add]
/-- How many are not marked. -/
noncomputable def unm (n : Nat) (sd : Nat → Bool) : Int := cntP n fun v => sd v = false
theorem unm_set {n : Nat} {sd : Nat → Bool} {v : Nat} (hv : v < n) (h : sd v = false) : unm n sd = unm n (updB sd v true) + 1 := by
  unfold unm
  rw [← cntP_add (a := v) (P := fun w => updB sd v true w = false) hv (by unfold updB; simp)]
  refine cntP_congr fun w hw => ?_
  unfold updB
  by_cases e : w = v
  · subst e; simp [h]
  · simp [e]
theorem updB_mono {sd : Nat → Bool} {v w : Nat} (h : sd w = true) : updB sd v true w = true := by
  unfold updB; split <;> simp [h]
/-- Depth first: marked and off the stack: all that can be stepped to is marked. -/
structure DfP (n m : Nat) (fr to : Nat → Nat) (room ex : Nat → Int) (sd : Nat → Bool) (S : List Nat) (cur : Nat → Prop) : Prop where
  st : ∀ v ∈ S, v < n ∧ sd v = true
  snd : ∀ v, sd v = true → ∃ u, u < n ∧ 0 < ex u ∧ Rch (ArS m fr to room) u v
  cl : ∀ v w, sd v = true → v ∉ S → ¬ cur v → ArS m fr to room v w → sd w = true
end

section
variable {own own' : Own} {h h' : H} {bn n m : Nat} {fr to : Nat → Nat} {room cost ex pot : Nat → Int}
theorem reached_T (N : MN own h bn n m fr to room cost ex pot) (hn : ∀ i, i < m → fr i < n ∧ to i < n) (hn1 : n ≤ 1024) (hm : m ≤ 4096) :
    T Tryz.prog F.mincost_net_reached [.pointer (some (bk bn))] h fun r h' => ∃ (b : Nat) (sd : Nat → Bool), r = .ret (slV b n) ∧ h b = none ∧ Ext h h' ∧ Sl h' b (slV b n) (bools n sd) ∧
      ∀ v, v < n → (sd v = true ↔ ∃ u, u < n ∧ 0 < ex u ∧ Rch (ArS m fr to room) u v) := by
  refine E_mincost_net_reached ?_
  unfold B_mincost_net_reached
  obtain ⟨vf, vt, vr, vc, vo, vx, vp, outs, k8, k1, k2, k3, k4, k5, k6, k7, ko⟩ := N.q
  refine ptrP_mk ⟨_, k8.ld rfl, k5.len (va_length _ _) fun _ _ => mk_bools 1 (by omega) (by omega) ?_⟩
  intro b6 q7 hb6 x7 S7
  rw [Int.toNat_natCast]
  have bs : Bs h (own1 (fun _ => 0) b6 1) q7 := Bs.start.new x7 hb6
  have kS := S7 fun _ => 0
  generalize own1 (fun _ => 0) b6 1 = ow at *
  clear S7
  refine ptrP_mk ⟨_, (k8.ext bs.ext).ld rfl, (k6.ext bs.ext).len (ints_length _ _) fun _ _ => ?_⟩
  let I : (Value × Int × Unit) → H → Nat → Prop := fun p q z => ∃ (j : Nat) (ow : Own) (sd : Nat → Bool) (S : List Nat), p.2.1 = j ∧ j ≤ n ∧ z = n - j ∧ Bs h ow q ∧ S1 ow q 1 (slV b6 n) (bools n sd) ∧ S1 ow q 2 p.1 (natV S) ∧
    (S.length : Int) + unm n sd ≤ n ∧ (∀ v, sd v = true ↔ v < j ∧ 0 < ex v) ∧ (∀ v, v ∈ S ↔ v < j ∧ 0 < ex v)
  refine ⟨fun p q => ∃ k, I p q k, rk I, rk_wf I, ⟨_, 0, ow, _, [], rfl, by omega, rfl, bs, kS, S1.nil, ?_, fun v => by simp, fun v => by simp⟩, ?_⟩
  · have := cntP_all (n := n) (P := fun v => (fun _ => false) v = false)
    unfold unm; simpa using this
  clear bs kS
  intro stk p q hI
  obtain ⟨j, ow, sd, S, e1, hj, hz, bs, kS, kT, hlen, hsd, hS⟩ := mu_spec hI
  generalize hkk : mu I ((stk, p, ()), q) = km at *
  change p = (j : Int) at e1
  subst e1
  have hlt : j < n → n - (j + 1) < mu I ((stk, (j : Int), ()), q) := fun h => by rw [hkk, hz]; omega
  clear hI
  have hun : 0 ≤ unm n sd := cntP_nn
  refine ifP_of (fun h1 => ?_) (fun h1 => ?_)
  · have hjn : j < n := by have := of_decide_eq_true h1; omega
    refine (k6.ext bs.ext).rdI hjn ?_
    rw [i64_inc (by omega)]
    refine ifP_of (fun h2 => ?_) (fun h2 => ?_)
    · have h2 := of_decide_eq_true h2
      have hf : sd j = false := by
        cases e : sd j
        · rfl
        · have := (hsd j).1 e; omega
      have hu := unm_set hjn hf
      refine kS.setB hjn fun g F1 kS => ?_
      have bs := bs.fm F1 (by simp <;> omega)
      have kT := kT.fm F1 (by simp <;> omega)
      refine kT.push (l := 1) rfl (by simp [Value.oneCell']) (by simp) (by omega) (by rw [natV_length]; omega) ?_
      intro bx hm2 p' ow' q' hbx xm F2 kT
      have bs := bs.fm F2 (by simp <;> omega)
      have kS := kS.fm F2 (by simp <;> omega)
      refine mu_next (I := I) (k := n - (j + 1)) ⟨j + 1, ow', _, S ++ [j], rfl, hjn, rfl, bs, kS, by simpa [natV] using kT, ?_, fun v => ?_, fun v => ?_⟩ (hlt hjn)
      · simp only [List.length_append, List.length_cons, List.length_nil]; omega
      · unfold updB
        by_cases e : v = j
        · subst e; simp [h2]
        · rw [if_neg e, hsd v]; constructor <;> (rintro ⟨a, b⟩; exact ⟨by omega, b⟩)
      · rw [List.mem_append, hS v, List.mem_singleton]
        constructor
        · rintro (⟨a, b⟩ | rfl)
          · exact ⟨by omega, b⟩
          · exact ⟨by omega, h2⟩
        · rintro ⟨a, b⟩
          by_cases e : v = j
          · exact .inr e
          · exact .inl ⟨by omega, b⟩
    · have h2 := of_decide_eq_false h2
      refine mu_next (I := I) (k := n - (j + 1)) ⟨j + 1, ow, sd, S, rfl, hjn, rfl, bs, kS, kT, hlen, fun v => ?_, fun v => ?_⟩ (hlt hjn)
      · rw [hsd v]
        by_cases e : v = j
        · subst e; constructor <;> (rintro ⟨a, b⟩; exact absurd b h2)
        · constructor <;> (rintro ⟨a, b⟩; exact ⟨by omega, b⟩)
      · rw [hS v]
        by_cases e : v = j
        · subst e; constructor <;> (rintro ⟨a, b⟩; exact absurd b h2)
        · constructor <;> (rintro ⟨a, b⟩; exact ⟨by omega, b⟩)
  have : j = n := by have := of_decide_eq_false h1; omega
  subst this
  let I2 : (Value × Unit) → H → Nat → Prop := fun p q z => ∃ (ow : Own) (sd : Nat → Bool) (S : List Nat), (z : Int) = 2 * unm j sd + S.length ∧ Bs h ow q ∧ S1 ow q 1 (slV b6 j) (bools j sd) ∧ S1 ow q 2 p.1 (natV S) ∧
    (S.length : Int) + unm j sd ≤ j ∧ DfP j m fr to room ex sd S (fun _ => False) ∧ (∀ v, v < j → 0 < ex v → sd v = true)
  refine ⟨fun p q => ∃ k, I2 p q k, rk I2, rk_wf I2, ⟨(2 * unm j sd + S.length).toNat, ow, sd, S, by omega, bs, kS, kT, hlen, ⟨fun v hv => ⟨((hS v).1 hv).1, (hsd v).2 ((hS v).1 hv)⟩, fun v hv => ⟨v, ((hsd v).1 hv).1, ((hsd v).1 hv).2, .refl⟩, fun v w hv hvS => absurd ((hS v).2 ((hsd v).1 hv)) hvS⟩, fun v hv hx => (hsd v).2 ⟨hv, hx⟩⟩, ?_⟩
  clear bs kS kT hlen hsd hS hlt hkk hz h1 hj hun
  intro stk q hI
  obtain ⟨ow, sd, S, hz, bs, kS, kT, hlen, D, hsrc⟩ := mu_spec hI
  generalize hkk : mu I2 ((stk, ()), q) = km at *
  clear hI
  refine kT.len (natV_length S) fun _ _ => ?_
  refine ifP_of (fun h1 => ?_) (fun h1 => ?_)
  rotate_left
  · have hS0 : S = [] := by
      have := of_decide_eq_false h1
      exact List.length_eq_zero_iff.1 (by omega)
    subst hS0
    rcases kS with ⟨_, e⟩ | ⟨b, _, kS⟩
    · cases e
    · have hb : b = b6 := by
        obtain ⟨c, e, zs, h3, _⟩ := kS
        simp only [Value.slice.injEq, Option.some.injEq, bk, Addr.mk.injEq] at h3
        exact h3.1.1.symm
      subst hb
      refine ⟨b, sd, rfl, hb6, bs.ext, kS, fun v hv => ⟨D.snd v, ?_⟩⟩
      rintro ⟨u, hu, hx, r⟩
      exact r.closed (C := fun w => sd w = true) (hsrc u hu hx) fun a b ha hab => D.cl a b ha (by simp) (fun e => e) hab
  obtain ⟨S', v, rfl⟩ : ∃ S' v, S = S' ++ [v] := by
    rcases List.eq_nil_or_concat S with e | ⟨u, z, e⟩
    · subst e; simp at h1
    · exact ⟨u, z, by simpa using e⟩
  have hv := D.st v (by simp)
  have eT : natV (S' ++ [v]) = natV S' ++ [.int .i64 (v : Nat)] := by simp [natV]
  rw [eT] at kT
  have kT0 := kT
  obtain ⟨bt, c, rfl, hc, kP⟩ := kT.pop
  have hl9 : (natV S').length = S'.length := natV_length _
  have hun : 0 ≤ unm j sd := cntP_nn
  simp only [List.length_append, List.length_cons, List.length_nil] at hz hlen
  have ew : IntKind.i64.wrap ((((natV S').length + 1 : Nat) : Int) - 1) = (natV S').length := by
    rw [show ((((natV S').length + 1 : Nat) : Int) - 1) = (natV S').length by omega]; exact w64_in (by omega) (by omega)
  refine slcP_mk ?_
  rw [ew]
  refine kT0.rd (j := (natV S').length) (x := (v : Nat)) (by simp) ?_
  refine slcP_mk (slcP_mk ?_)
  rw [ew]
  refine ⟨by omega, by omega, by omega, by omega, ptrP_mk ⟨_, (k8.ext bs.ext).ld rfl, (k5.ext bs.ext).rdV hv.1 (((ko v hv.1).ext bs.ext).len (natV_length _) fun _ _ => ?_)⟩⟩
  have hvS : sd v = true := hv.2
  let I3 : (Value × Int × Unit) → H → Nat → Prop := fun p q z => ∃ (s : Nat) (ow : Own) (sd2 : Nat → Bool) (S : List Nat), p.2.1 = s ∧ s ≤ (arcsL fr to m v).length ∧ z = (arcsL fr to m v).length - s ∧ 2 * unm j sd2 + S.length ≤ 2 * unm j sd + S'.length ∧
    Bs h ow q ∧ S1 ow q 1 (slV b6 j) (bools j sd2) ∧ S1 ow q 2 p.1 (natV S) ∧ (S.length : Int) + unm j sd2 ≤ j ∧ DfP j m fr to room ex sd2 S (fun w => w = v) ∧ (∀ v, v < j → 0 < ex v → sd2 v = true) ∧ sd2 v = true ∧
    ∀ a ∈ (arcsL fr to m v).take s, 0 < room a → sd2 (hdA fr to a) = true
  refine ⟨fun p q => ∃ k, I3 p q k, rk I3, rk_wf I3, ⟨_, 0, ow, sd, S', rfl, by omega, rfl, by omega, bs, kS, kP, by omega, ⟨fun w hw => D.st w (by simp [hw]), D.snd, fun a b ha hb hc hab => D.cl a b ha (by simp; exact ⟨hb, hc⟩) (fun e => e) hab⟩, hsrc, hvS, by simp⟩, ?_⟩
  clear bs kS kT kT0 kP D
  intro stk2 p q2 hI
  obtain ⟨s, ow, sd2, S, e1, hs, hz2, hle, bs, kS, kT, hlen2, D, hsrc2, hv2, hdone⟩ := mu_spec hI
  generalize hkk2 : mu I3 ((stk2, p, ()), q2) = km2 at *
  change p = (s : Int) at e1
  subst e1
  have hlt2 : s < (arcsL fr to m v).length → (arcsL fr to m v).length - (s + 1) < mu I3 ((stk2, (s : Int), ()), q2) := fun h => by rw [hkk2, hz2]; omega
  clear hI
  have hun2 : 0 ≤ unm j sd2 := cntP_nn
  refine ifP_of (fun h3 => ?_) (fun h3 => ?_)
  · have hsl : s < (arcsL fr to m v).length := by have := of_decide_eq_true h3; omega
    have hal := arcsL_length (fr := fr) (to := to) (v := v) (i := m)
    obtain ⟨a, ha⟩ : ∃ a, a = (arcsL fr to m v)[s] := ⟨_, rfl⟩
    have ham := mem_arcsL.1 (show a ∈ arcsL fr to m v by rw [ha]; exact List.getElem_mem hsl)
    have htk : (arcsL fr to m v).take (s + 1) = (arcsL fr to m v).take s ++ [a] := by rw [ha, List.take_succ_eq_append_getElem hsl]
    have hd := hd_lt hn ham.1
    refine ((ko v hv.1).ext bs.ext).rd (natV_get hsl) ?_
    rw [← ha, i64_inc (by omega)]
    refine ptrP_mk ⟨_, (k8.ext bs.ext).ld rfl, (k2.ext bs.ext).rdI ham.1 (ptrP_mk ⟨_, (k8.ext bs.ext).ld rfl, (k3.ext bs.ext).rdI ham.1 (ifP_of (fun h4 => ?_) (fun h4 => ?_))⟩)⟩
    · have h4 := of_decide_eq_true h4
      refine kS.rdB hd (ifP_of (fun h5 => ?_) (fun h5 => ?_))
      · have hf : sd2 (hdA fr to a) = false := by simpa using h5
        have hu := unm_set hd hf
        refine kS.setB hd fun g F1 kS => ?_
        have bs := bs.fm F1 (by simp <;> omega)
        have kT := kT.fm F1 (by simp <;> omega)
        refine kT.push (l := 1) rfl (by simp [Value.oneCell']) (by simp) (by omega) (by rw [natV_length]; omega) ?_
        intro bx hm2 p' ow' q' hbx xm F2 kT
        have bs := bs.fm F2 (by simp <;> omega)
        have kS := kS.fm F2 (by simp <;> omega)
        refine mu_next (I := I3) (k := (arcsL fr to m v).length - (s + 1)) ⟨s + 1, ow', _, S ++ [hdA fr to a], rfl, hsl, rfl, ?_, bs, kS, by simpa [natV] using kT, ?_, ⟨?_, ?_, ?_⟩, fun w h6 h7 => updB_mono (hsrc2 w h6 h7), updB_mono hv2, ?_⟩ (hlt2 hsl)
        · simp only [List.length_append, List.length_cons, List.length_nil]; omega
        · simp only [List.length_append, List.length_cons, List.length_nil]; omega
        · intro w hw
          rcases List.mem_append.1 hw with k | k
          · exact ⟨(D.st w k).1, updB_mono (D.st w k).2⟩
          · have : w = hdA fr to a := by simpa using k
            subst this; exact ⟨hd, by unfold updB; simp⟩
        · intro w hw
          by_cases e : w = hdA fr to a
          · subst e
            obtain ⟨u, h6, h7, r⟩ := D.snd v hv2
            exact ⟨u, h6, h7, r.step ⟨a, ham.1, ham.2, rfl, h4⟩⟩
          · exact D.snd w (by unfold updB at hw; rwa [if_neg e] at hw)
        · intro x w hx hxS hxv hxw
          have e : x ≠ hdA fr to a := by rintro rfl; exact hxS (by simp)
          exact updB_mono (D.cl x w (by unfold updB at hx; rwa [if_neg e] at hx) (fun k => hxS (by simp [k])) hxv hxw)
        · intro a' ha' hr
          rw [htk] at ha'
          rcases List.mem_append.1 ha' with k | k
          · exact updB_mono (hdone a' k hr)
          · have : a' = a := by simpa using k
            subst this; unfold updB; simp
      · refine mu_next (I := I3) (k := (arcsL fr to m v).length - (s + 1)) ⟨s + 1, ow, sd2, S, rfl, hsl, rfl, hle, bs, kS, kT, hlen2, D, hsrc2, hv2, fun a' ha' hr => ?_⟩ (hlt2 hsl)
        rw [htk] at ha'
        rcases List.mem_append.1 ha' with k | k
        · exact hdone a' k hr
        · have : a' = a := by simpa using k
          subst this; simpa using h5
    · have h4 := of_decide_eq_false h4
      refine mu_next (I := I3) (k := (arcsL fr to m v).length - (s + 1)) ⟨s + 1, ow, sd2, S, rfl, hsl, rfl, hle, bs, kS, kT, hlen2, D, hsrc2, hv2, fun a' ha' hr => ?_⟩ (hlt2 hsl)
      rw [htk] at ha'
      rcases List.mem_append.1 ha' with k | k
      · exact hdone a' k hr
      · have : a' = a := by simpa using k
        subst this; exact absurd hr h4
  · have : s = (arcsL fr to m v).length := by have := of_decide_eq_false h3; omega
    subst this
    rw [List.take_length] at hdone
    refine mu_next (I := I2) (k := (2 * unm j sd2 + S.length).toNat) ⟨ow, sd2, S, by omega, bs, kS, kT, hlen2, ⟨D.st, D.snd, fun x w hx hxS _ hxw => ?_⟩, hsrc2⟩ ?_
    · by_cases e : x = v
      · subst e
        obtain ⟨a, h6, h7, h8, h9⟩ := hxw
        rw [← h8]; exact hdone a (mem_arcsL.2 ⟨h6, h7⟩) h9
      · exact D.cl x w hx hxS e hxw
    · rw [hkk]; omega
end

end Go.Proofs.YtjlojokockfapaaGreatDoor

namespace Go.Proofs.YtjlojokockfapaaGreatDoor
open Go
set_option linter.unusedVariables false
set_option linter.unusedSimpArgs false

/-- A way back, along arcs with room: from y 0 to y L. -/
structure WayP (n m : Nat) (fr to : Nat → Nat) (room via : Nat → Int) (y : Nat → Nat) (L : Nat) : Prop where
  lt : ∀ s, s ≤ L → y s < n
  arc : ∀ s, s < L → ∃ a : Nat, via (y s) = a ∧ a < 2 * m ∧ hdA fr to a = y s ∧ tlA fr to a = y (s + 1) ∧ 0 < room a
  stop : via (y L) < 0
  inj : ∀ s t, s < t → t ≤ L → y s ≠ y t

section
variable {own own' : Own} {h h' : H} {bn n m : Nat} {fr to : Nat → Nat} {room cost ex pot cap via : Nat → Int} {vvia : Value} {j : Nat}
theorem carry_T (N : MN own h bn n m fr to room cost ex pot) (hn : ∀ i, i < m → fr i < n ∧ to i < n) (hm : m ≤ 4096) (R : RmP m cap room) (hcap : ∀ i, i < m → cap i ≤ 1048576) (he : ∀ v, v < n → -4611686018427387904 / 8 ≤ ex v ∧ ex v ≤ 4611686018427387904 / 8)
    (V : S1 own h j vvia (ints n via)) (hj : 8 < j ∧ j < 40) {y : Nat → Nat} {L : Nat} (W : WayP n m fr to room via y L) (h0 : ex (y 0) < 0) (h1 : 0 < ex (y L)) :
    T Tryz.prog F.mincost_net_carry [.pointer (some (bk bn)), vvia, .int .i64 (y 0 : Nat)] h fun r h' => r = .ret (.tuple ⟨[]⟩) ∧ ∃ (x : Int) (room' ex' : Nat → Int), 0 < x ∧ x ≤ ex (y L) ∧ x ≤ - ex (y 0) ∧ Fm [3, 6] own h own h' ∧
      MN own h' bn n m fr to room' cost ex' pot ∧ RmP m cap room' ∧ (∀ w, ex' w = ex w + (if w = y 0 then x else 0) - (if w = y L then x else 0)) ∧
      (∀ w, OutF m fr to (onR room') w + ex' w = OutF m fr to (onR room) w + ex w) ∧
      (∀ a, a < 2 * m → 0 < room' a → 0 < room a ∨ ∃ s b, s < L ∧ via (y s) = (b : Nat) ∧ a = prA b) := by
  refine E_mincost_net_carry ?_
  unfold B_mincost_net_carry
  obtain ⟨vf, vt, vr, vc, vo, vx, vp, outs, k8, k1, k2, k3, k4, k5, k6, k7, ko⟩ := N.q
  have y0 := W.lt 0 (by omega)
  have e0 := he _ y0
  refine ptrP_mk ⟨_, k8.ld rfl, k6.rdI y0 ?_⟩
  have ew : IntKind.i64.wrap (0 - ex (y 0)) = - ex (y 0) := by
    rw [show (0 : Int) - ex (y 0) = - ex (y 0) by omega]; exact w64_in (by omega) (by omega)
  rw [ew]
  let I : (Int × Int × Unit) → H → Nat → Prop := fun p q z => ∃ s : Nat, p.2.1 = (y s : Nat) ∧ s ≤ L ∧ z = L - s ∧ h = q ∧ 0 < p.1 ∧ p.1 ≤ - ex (y 0) ∧ ∀ t, t < s → ∀ a : Nat, via (y t) = a → p.1 ≤ room a
  refine ⟨fun p q => ∃ k, I p q k, rk I, rk_wf I, ⟨_, 0, rfl, by omega, rfl, rfl, by omega, Int.le_refl _, fun t ht => by omega⟩, ?_⟩
  intro x u q hI
  obtain ⟨s, e1, hs, hz, e2, hx0, hx1, hxr⟩ := mu_spec hI
  generalize hkk : mu I ((x, u, ()), q) = km at *
  change u = (y s : Int) at e1
  change 0 < x at hx0
  change x ≤ - ex (y 0) at hx1
  change ∀ t, t < s → ∀ a : Nat, via (y t) = a → x ≤ room a at hxr
  subst e1 e2
  have hlt : s < L → L - (s + 1) < mu I ((x, (y s : Int), ()), h) := fun k => by rw [hkk, hz]; omega
  clear hI
  have ys := W.lt s hs
  refine V.rdI ys (ifP_of (fun h2 => ?_) (fun h2 => ?_))
  · have h2 := of_decide_eq_true h2
    have hsL : s < L := by
      by_cases e : s = L
      · subst e; have := W.stop; omega
      · omega
    obtain ⟨a, a1, a2, a3, a4, a5⟩ := W.arc s hsL
    have key : ∀ x', x' = (if room a < x then room a else x) → (∃ k, I (x', (y (s + 1) : Int), ()) h k) ∧ rk I ((x', (y (s + 1) : Int), ()), h) ((x, (y s : Int), ()), h) := by
      rintro x' rfl
      refine mu_next (I := I) (k := L - (s + 1)) ⟨s + 1, rfl, hsL, rfl, rfl, ?_, ?_, fun t ht b hb => ?_⟩ (hlt hsL)
      · show 0 < (if room a < x then room a else x)
        split <;> omega
      · show (if room a < x then room a else x) ≤ _
        split <;> omega
      · show (if room a < x then room a else x) ≤ room b
        by_cases e : t = s
        · subst e
          have : b = a := by omega
          subst this; split <;> omega
        · have := hxr t (by omega) b hb
          split <;> omega
    refine ptrP_mk (V.at (ints_get ys) fun a13 ha13 => ⟨_, k8.ld rfl, _, ha13, ?_⟩)
    rw [a1]
    refine k3.rdI a2 (ptrP_mk (V.at (ints_get ys) fun a19 ha19 => ⟨_, k8.ld rfl, _, ha19, ?_⟩))
    rw [a1]
    refine k1.rdI a2 ?_
    rw [a4]
    exact key _ rfl
  · have h2 := of_decide_eq_false h2
    have hsL : s = L := by
      by_cases e : s = L
      · exact e
      · obtain ⟨a, a1, _⟩ := W.arc s (by omega); omega
    subst hsL
    clear hlt hkk hz h2
    have eL := he _ ys
    refine ptrP_mk ⟨_, k8.ld rfl, k6.rdI ys ?_⟩
    obtain ⟨X, hX⟩ : ∃ X, X = (if ex (y s) < x then ex (y s) else x) := ⟨_, rfl⟩
    rw [← hX]
    have X0 : 0 < X ∧ X ≤ ex (y s) ∧ X ≤ - ex (y 0) ∧ X ≤ x := by rw [hX]; split <;> omega
    let I2 : (Int × Unit) → H → Nat → Prop := fun p q z => ∃ (i : Nat) (room' ex' : Nat → Int), p.1 = (y i : Nat) ∧ i ≤ s ∧ z = s - i ∧ Fm [3, 6] own h own q ∧ MN own q bn n m fr to room' cost ex' pot ∧ RmP m cap room' ∧
      (∀ w, ex' w = ex w + (if w = y 0 then X else 0) - (if w = y i then X else 0)) ∧ (∀ w, OutF m fr to (onR room') w + ex' w = OutF m fr to (onR room) w + ex w) ∧
      (∀ a, a < 2 * m → 0 < room' a → 0 < room a ∨ ∃ t b, t < s ∧ via (y t) = (b : Nat) ∧ a = prA b) ∧ (∀ t, i ≤ t → t < s → ∀ a : Nat, via (y t) = a → X ≤ room' a)
    refine ⟨fun p q => ∃ k, I2 p q k, rk I2, rk_wf I2, ⟨_, 0, room, ex, rfl, by omega, rfl, Fm.refl, N, R, fun w => by omega, fun w => rfl, fun a _ h => .inl h, fun t _ ht a ha => by have := hxr t ht a ha; omega⟩, ?_⟩
    intro p q hI
    obtain ⟨i, room', ex', e1, hi, hz, F0, N, R', hex, hout, hnew, hle⟩ := mu_spec hI
    generalize hkk : mu I2 ((p, ()), q) = km at *
    change p = (y i : Int) at e1
    subst e1
    have hlt : i < s → s - (i + 1) < mu I2 (((y i : Int), ()), q) := fun k => by rw [hkk, hz]; omega
    clear hI
    have yi := W.lt i hi
    have V' := V.fm F0 (by simp; omega)
    refine V'.rdI yi (ifP_of (fun h3 => ?_) (fun h3 => ?_))
    · have h3 := of_decide_eq_true h3
      have his : i < s := by
        by_cases e : i = s
        · subst e; have := W.stop; omega
        · omega
      obtain ⟨a, a1, a2, a3, a4, a5⟩ := W.arc i his
      have hXa := hle i (Nat.le_refl _) his a a1
      refine V'.rdI yi ?_
      rw [a1]
      have rb : ∀ c, c < 2 * m → 0 ≤ room' c ∧ room' c ≤ 1048576 := fun c hc => by
        have := R'.pos c hc
        have := R'.pos _ (prA_lt hc)
        have := R'.pr hc
        have := hcap (c / 2) (by omega)
        omega
      have ra := rb a a2
      refine (msend_T N hm hn a2 (fun c hc => by have := rb c hc; omega) (by omega) (fun v hv => by have := he v hv; rw [hex v]; split <;> split <;> omega)).mono ?_
      rintro _ q2 ⟨rfl, F1, N⟩
      have V2 := V'.fm F1 (by simp; omega)
      obtain ⟨vf, vt, vr, vc, vo, vx, vp, outs, k8, k1, k2, k3, k4, k5, k6, k7, ko⟩ := N.q
      refine rt_ret ⟨rfl, ptrP_mk (V2.at (ints_get yi) fun a39 ha39 => ⟨_, k8.ld rfl, _, ha39, ?_⟩)⟩
      rw [a1]
      refine k1.rdI a2 ?_
      rw [a4]
      rw [a3, a4] at N
      refine mu_next (I := I2) (k := s - (i + 1)) ⟨i + 1, _, _, rfl, his, rfl, F0.trans F1, N, R'.snd a2 (by omega) hXa, fun w => ?_, fun w => ?_, fun c hc h4 => ?_, fun t h4 h5 b hb => ?_⟩ (hlt his)
      · unfold exS
        rw [hex w]
        have n1 := W.inj i (i + 1) (by omega) (by omega)
        generalize (if w = y 0 then X else 0) = A0
        by_cases e1 : y i = w
        · have e2 : ¬ y (i + 1) = w := fun k => n1 (e1.trans k.symm)
          rw [if_pos e1, if_pos e1.symm, if_neg e2, if_neg (fun k => e2 k.symm)]; omega
        · rw [if_neg e1, if_neg (fun k => e1 k.symm)]
          by_cases e2 : y (i + 1) = w
          · rw [if_pos e2, if_pos e2.symm]; omega
          · rw [if_neg e2, if_neg (fun k => e2 k.symm)]; omega
      · have o := out_snd (fr := fr) (to := to) (room := room') (x := X) a2 w
        rw [a3, a4] at o
        have := hout w
        unfold exS
        rw [o]; omega
      · by_cases e1 : c = a
        · subst e1; exact .inl a5
        · by_cases e2 : c = prA a
          · exact .inr ⟨i, a, his, a1, e2⟩
          · rw [sndR_o e1 e2] at h4
            exact hnew c hc h4
      · obtain ⟨b', b1, b2, b3, b4, b5⟩ := W.arc t h5
        have : b' = b := by omega
        subst this
        have hb2 := hle t (by omega) h5 b' hb
        have hne : b' ≠ a := by
          rintro rfl
          exact W.inj i t (by omega) (by omega) (a3.symm.trans b3)
        by_cases e2 : b' = prA a
        · rw [e2, sndR_p]; rw [e2] at hb2; omega
        · rw [sndR_o hne e2]; exact hb2
    · have h3 := of_decide_eq_false h3
      have his : i = s := by
        by_cases e : i = s
        · exact e
        · obtain ⟨a, a1, _⟩ := W.arc i (by omega); omega
      subst his
      exact ⟨rfl, X, room', ex', X0.1, X0.2.1, X0.2.2.1, F0, N, R', hex, hout, hnew⟩
end

end Go.Proofs.YtjlojokockfapaaGreatDoor

namespace Go.Proofs.YtjlojokockfapaaGreatDoor
open Go
open Classical
set_option linter.unusedVariables false

abbrev farI : Int := 4611686018427387904
/-- Dijkstra under way: D has come out in the order rk, k of them; Cb bounds the costs. -/
structure DjP (n m : Nat) (fr to : Nat → Nat) (room cost ex pot : Nat → Int) (D : Nat → Prop) (rk : Nat → Nat) (k : Nat) (dist via : Nat → Int) : Prop where
  pos : ∀ v, v < n → 0 ≤ dist v ∧ dist v ≤ farI
  src : ∀ v, v < n → 0 < ex v → dist v = 0
  dn : ∀ v, D v → v < n ∧ dist v < farI ∧ rk v < k
  arc : ∀ v, v < n → dist v < farI → (via v = -1 ∧ 0 < ex v) ∨ ∃ a : Nat, via v = a ∧ a < 2 * m ∧ hdA fr to a = v ∧ 0 < room a ∧ D (tlA fr to a) ∧ dist v = dist (tlA fr to a) + redC fr to cost pot a ∧ (D v → rk (tlA fr to a) < rk v)
  mono : ∀ u v, D u → v < n → ¬ D v → dist u ≤ dist v
  bd : ∀ v, v < n → dist v < farI → dist v + pot v ≤ k * 1048576
  cnt : cntP n D = k
section
variable {n m : Nat} {fr to : Nat → Nat} {room cost ex pot : Nat → Int} {D : Nat → Prop} {rk : Nat → Nat} {k : Nat} {dist via : Nat → Int}
/-- The nearest comes out. -/
theorem DjP.out (J : DjP n m fr to room cost ex pot D rk k dist via) {v : Nat} (hv : v < n) (hD : ¬ D v) (hf : dist v < farI) (hmin : ∀ w, w < n → ¬ D w → dist v ≤ dist w) :
    DjP n m fr to room cost ex pot (fun w => w = v ∨ D w) (updN rk v k) (k + 1) dist via := by
  have ne : ∀ w, D w → w ≠ v := fun w hw e => hD (e ▸ hw)
  refine ⟨J.pos, J.src, ?_, ?_, ?_, ?_, ?_⟩
  · rintro w (rfl | hw)
    · exact ⟨hv, hf, by rw [updN_at]; omega⟩
    · obtain ⟨a, b, c⟩ := J.dn w hw
      exact ⟨a, b, by rw [updN_ne (ne w hw)]; omega⟩
  · intro w hw hwf
    rcases J.arc w hw hwf with h | ⟨a, h1, h2, h3, h4, h5, h6, h7⟩
    · exact .inl h
    · refine .inr ⟨a, h1, h2, h3, h4, .inr h5, h6, ?_⟩
      rw [updN_ne (ne _ h5)]
      rintro (rfl | hDw)
      · rw [updN_at]; exact (J.dn _ h5).2.2
      · rw [updN_ne (ne w hDw)]; exact h7 hDw
  · rintro u w (rfl | hu) hw hn
    · exact hmin w hw fun h => hn (.inr h)
    · exact J.mono u w hu hw fun h => hn (.inr h)
  · intro w hw hwf
    have := J.bd w hw hwf
    have e : ((k + 1 : Nat) : Int) * 1048576 = k * 1048576 + 1048576 := by omega
    omega
  · rw [cntP_add (P := D) hv hD, J.cnt]; omega
/-- Along an arc of the one that came out last. -/
theorem DjP.relax (J : DjP n m fr to room cost ex pot D rk k dist via) {v a : Nat} (hv : D v) (hm : ∀ u, D u → dist u ≤ dist v) (ha : a < 2 * m) (ht : tlA fr to a = v) (hd : hdA fr to a < n) (hr : 0 < room a)
    (hc : 0 ≤ redC fr to cost pot a) (hC : cost a ≤ 1048576) (hb : dist v + pot v + 1048576 ≤ k * 1048576) (hlt : dist v + redC fr to cost pot a < dist (hdA fr to a)) :
    ¬ D (hdA fr to a) ∧ DjP n m fr to room cost ex pot D rk k (upd dist (hdA fr to a) (dist v + redC fr to cost pot a)) (upd via (hdA fr to a) a) := by
  have hnD : ¬ D (hdA fr to a) := fun h => by have := hm _ h; omega
  have ne : ∀ w, D w → w ≠ hdA fr to a := fun w hw e => hnD (e ▸ hw)
  have dv := J.dn v hv
  have pv := J.pos v dv.1
  have pu := J.pos _ hd
  refine ⟨hnD, ?_, ?_, ?_, ?_, ?_, ?_, J.cnt⟩
  · intro w hw
    by_cases e : w = hdA fr to a
    · subst e; rw [upd_at]; omega
    · rw [upd_ne e]; exact J.pos w hw
  · intro w hw hx
    by_cases e : w = hdA fr to a
    · subst e; have := J.src _ hw hx; omega
    · rw [upd_ne e]; exact J.src w hw hx
  · intro w hw
    rw [upd_ne (ne w hw)]; exact J.dn w hw
  · intro w hw hwf
    by_cases e : w = hdA fr to a
    · subst e
      refine .inr ⟨a, by rw [upd_at], ha, rfl, hr, by rw [ht]; exact hv, ?_, fun h => absurd h hnD⟩
      rw [upd_at, ht, upd_ne (ne v hv)]
    · rw [upd_ne e] at hwf ⊢
      rw [upd_ne e]
      rcases J.arc w hw hwf with h | ⟨a', h1, h2, h3, h4, h5, h6, h7⟩
      · exact .inl h
      · exact .inr ⟨a', h1, h2, h3, h4, h5, by rw [upd_ne (ne _ h5)]; exact h6, h7⟩
  · intro u w hu hw hn
    rw [upd_ne (ne u hu)]
    by_cases e : w = hdA fr to a
    · subst e; rw [upd_at]; have := hm u hu; omega
    · rw [upd_ne e]; exact J.mono u w hu hw hn
  · intro w hw hwf
    by_cases e : w = hdA fr to a
    · subst e
      rw [upd_at]
      unfold redC
      rw [ht]; omega
    · rw [upd_ne e] at hwf ⊢; exact J.bd w hw hwf
end

/-- What Dijkstra ends with. -/
def mnd (dist : Nat → Int) (f v : Nat) : Int := if dist f < dist v then dist f else dist v
structure DjE (n m : Nat) (fr to : Nat → Nat) (room cost ex pot : Nat → Int) (dist via : Nat → Int) (fnd : Int) : Prop where
  pos : ∀ v, v < n → 0 ≤ dist v ∧ dist v ≤ farI
  src : ∀ v, v < n → 0 < ex v → dist v = 0
  no : fnd < 0 → ∀ u v, u < n → 0 < ex u → Rch (ArS m fr to room) u v → 0 ≤ ex v
  yes : 0 ≤ fnd → ∃ f : Nat, fnd = f ∧ f < n ∧ ex f < 0 ∧ dist f + pot f ≤ n * 1048576 ∧ (∀ w, w < n → ex w < 0 → dist f ≤ dist w) ∧
    (∀ a, a < 2 * m → 0 < room a → 0 ≤ redC fr to cost (fun v => pot v + mnd dist f v) a) ∧
    ∃ y L, y 0 = f ∧ WayP n m fr to room via y L ∧ 0 < ex (y L) ∧ ∀ s, s < L → ∀ a : Nat, via (y s) = a → redC fr to cost (fun v => pot v + mnd dist f v) a = 0
/-- Who was found. -/
def FndP (n : Nat) (ex : Nat → Int) (D : Nat → Prop) (dist : Nat → Int) (fnd : Int) : Prop :=
  (fnd < 0 ∧ ∀ v, D v → 0 ≤ ex v) ∨ ∃ f : Nat, fnd = f ∧ f < n ∧ D f ∧ ex f < 0 ∧ ∀ w, w < n → ex w < 0 → dist f ≤ dist w
section
variable {n m : Nat} {fr to : Nat → Nat} {room cost ex pot : Nat → Int} {D : Nat → Prop} {rk : Nat → Nat} {k : Nat} {dist via : Nat → Int} {fnd : Int}
theorem DjP.way (J : DjP n m fr to room cost ex pot D rk k dist via) (hc : ∀ a, a < 2 * m → 0 < room a → 0 ≤ redC fr to cost pot a) : ∀ (q u : Nat), D u → rk u < q →
    ∃ (y : Nat → Nat) (L : Nat), y 0 = u ∧ WayP n m fr to room via y L ∧ 0 < ex (y L) ∧ (∀ s, s ≤ L → D (y s) ∧ rk (y s) ≤ rk u ∧ dist (y s) ≤ dist u) ∧
      ∀ s, s < L → ∀ a : Nat, via (y s) = a → tlA fr to a = y (s + 1) ∧ hdA fr to a = y s ∧ dist (y s) = dist (y (s + 1)) + redC fr to cost pot a := by
  intro q
  induction q with
  | zero => intro u _ h; omega
  | succ q ih =>
    intro u hu hr
    have du := J.dn u hu
    rcases J.arc u du.1 du.2.1 with ⟨h1, h2⟩ | ⟨a, h1, h2, h3, h4, h5, h6, h7⟩
    · refine ⟨fun _ => u, 0, rfl, ⟨fun _ _ => du.1, fun s hs => by omega, by rw [h1]; omega, fun s t h h' => by omega⟩, h2, fun s _ => ⟨hu, Nat.le_refl _, Int.le_refl _⟩, fun s hs => by omega⟩
    · have h7 := h7 hu
      obtain ⟨y, L, y0, W, w2, w3, w4⟩ := ih (tlA fr to a) h5 (by omega)
      have hca := hc a h2 h4
      let z : Nat → Nat := fun s => if s = 0 then u else y (s - 1)
      have z0 : z 0 = u := rfl
      have zs : ∀ s, z (s + 1) = y s := fun s => rfl
      have z1 : ∀ s, s ≠ 0 → z s = y (s - 1) := fun s hs => if_neg hs
      refine ⟨z, L + 1, rfl, ⟨fun s hs => ?_, fun s hs => ?_, by rw [zs]; exact W.stop, fun s t hst ht => ?_⟩, by rw [zs]; exact w2, fun s hs => ?_, fun s hs b hb => ?_⟩
      · by_cases e : s = 0
        · subst e; exact du.1
        · rw [z1 s e]; exact W.lt _ (by omega)
      · by_cases e : s = 0
        · subst e
          exact ⟨a, h1, h2, h3, by rw [zs, y0], h4⟩
        · rw [z1 s e, zs]
          have := W.arc (s - 1) (by omega)
          rwa [show s - 1 + 1 = s by omega] at this
      · rw [z1 t (by omega)]
        by_cases e : s = 0
        · subst e
          rw [z0]
          intro e
          have := w3 (t - 1) (by omega)
          rw [← e] at this; omega
        · rw [z1 s e]
          exact W.inj _ _ (by omega) (by omega)
      · by_cases e : s = 0
        · subst e; exact ⟨hu, Nat.le_refl _, Int.le_refl _⟩
        · rw [z1 s e]
          have := w3 (s - 1) (by omega)
          exact ⟨this.1, by omega, by omega⟩
      · by_cases e : s = 0
        · subst e
          rw [z0] at hb ⊢
          rw [zs, y0]
          have : b = a := by omega
          subst this
          exact ⟨rfl, h3, h6⟩
        · rw [z1 s e] at hb ⊢
          rw [zs]
          have := w4 (s - 1) (by omega) b hb
          rwa [show s - 1 + 1 = s by omega] at this
theorem DjP.fin (J : DjP n m fr to room cost ex pot D rk k dist via) (hc : ∀ a, a < 2 * m → 0 < room a → 0 ≤ redC fr to cost pot a) (hn : ∀ i, i < m → fr i < n ∧ to i < n)
    (all : ∀ v, v < n → dist v < farI → D v) (cl : ∀ a, a < 2 * m → 0 < room a → D (tlA fr to a) → dist (hdA fr to a) ≤ dist (tlA fr to a) + redC fr to cost pot a)
    (bdc : ∀ a, a < 2 * m → redC fr to cost pot a ≤ 4294967296) (hd2 : ∀ v, D v → dist v ≤ 1152921504606846976) (F : FndP n ex D dist fnd) : DjE n m fr to room cost ex pot dist via fnd := by
  refine ⟨J.pos, J.src, ?_, ?_⟩
  · intro hf u v hu hx hr
    rcases F with ⟨_, F⟩ | ⟨f, e, _⟩
    · refine F v (hr.closed (C := D) (all u hu ?_) fun x w hx hxw => ?_)
      · rw [J.src u hu hx]; decide
      · obtain ⟨a, a1, a2, a3, a4⟩ := hxw
        rw [← a2] at hx
        have h1 := cl a a1 a4 hx
        rw [← a3]
        have h2 := hd2 _ hx
        have h3 := bdc a a1
        exact all _ (hd_lt hn a1) (by show _ < (4611686018427387904 : Int); omega)
    · omega
  · intro hf
    rcases F with ⟨e, _⟩ | ⟨f, e, fn, fD, fx, fm⟩
    · omega
    · have df := J.dn f fD
      obtain ⟨y, L, y0, W, w2, w3, w4⟩ := J.way hc (rk f + 1) f fD (by omega)
      have kn : (k : Int) ≤ n := by have := J.cnt; have := cntP_all (n := n) (P := D); omega
      have hb := J.bd f fn df.2.1
      refine ⟨f, e, fn, fx, by omega, fm, fun a ha hr => ?_, y, L, y0, W, w2, fun s hs a hva => ?_⟩
      · have c0 := hc a ha hr
        have pf := J.pos f fn
        have pt := J.pos _ (tl_lt hn ha)
        have ph := J.pos _ (hd_lt hn ha)
        by_cases hD : D (tlA fr to a)
        · have := cl a ha hr hD
          unfold redC mnd at *
          dsimp only at *
          split <;> split <;> omega
        · have : dist (tlA fr to a) = farI := by
            apply Classical.byContradiction
            intro h
            exact hD (all _ (tl_lt hn ha) (by omega))
          unfold redC mnd at *
          dsimp only at *
          split <;> split <;> omega
      · obtain ⟨a1, a2, a3⟩ := w4 s hs a hva
        have l1 := w3 s (by omega)
        have l2 := w3 (s + 1) (by omega)
        unfold redC mnd at *
        rw [a1, a2] at *
        dsimp only at *
        rw [if_neg (by omega), if_neg (by omega)]
        omega
end

end Go.Proofs.YtjlojokockfapaaGreatDoor

namespace Go.Proofs.YtjlojokockfapaaGreatDoor
open Go
open Classical
set_option linter.unusedVariables false
set_option linter.unusedSimpArgs false

section
variable {own own' : Own} {h h' : H} {bn n m : Nat} {fr to : Nat → Nat} {room cost ex pot : Nat → Int}
theorem cheapest_T (N : MN own h bn n m fr to room cost ex pot) (hn : ∀ i, i < m → fr i < n ∧ to i < n) (hn1 : n ≤ 1024) (hm : m ≤ 4096) (hroom : ∀ a, a < 2 * m → 0 ≤ room a)
    (hcost : ∀ a, a < 2 * m → -1048576 ≤ cost a ∧ cost a ≤ 1048576) (hpot : ∀ v, v < n → 0 ≤ pot v ∧ pot v ≤ 1073741824) (hred : ∀ a, a < 2 * m → 0 < room a → 0 ≤ redC fr to cost pot a) (hsrc : ∀ v, v < n → 0 < ex v → pot v = 0) :
    T Tryz.prog F.mincost_ways_cheapest [.agg ⟨[.pointer (some (bk bn))]⟩] h fun r h' => ∃ (bd bv : Nat) (dist via : Nat → Int) (fnd : Int), r = .ret (.tuple ⟨[slV bd n, slV bv n, .int .i64 fnd]⟩) ∧ Ext h h' ∧ h bd = none ∧ h bv = none ∧
      Sl h' bd (slV bd n) (ints n dist) ∧ Sl h' bv (slV bv n) (ints n via) ∧ DjE n m fr to room cost ex pot dist via fnd := by
  refine E_mincost_ways_cheapest ?_
  unfold B_mincost_ways_cheapest
  refine new_bl ?_
  intro b1 q1 hb1 x1 B1_
  have N := N.ext x1
  obtain ⟨vf, vt, vr, vc, vo, vx, vp, outs, k8, k1, k2, k3, k4, k5, k6, k7, ko⟩ := N.q
  refine ⟨_, B1_.ld rfl, ptrP_mk ⟨_, k8.ld rfl, k5.len (va_length _ _) fun _ _ => mk_ints 20 (by omega) (by omega) ?_⟩⟩
  intro b9 q9 hb9 x9 S9
  refine mk_ints 21 (by omega) (by omega) ?_
  intro b11 q11 hb11 x11 S11
  simp only [Int.toNat_natCast]
  have bs : Bs q1 (own1 (fun _ => 0) b9 20) q9 := Bs.start.new x9 hb9
  have kD := S9 fun _ => 0
  generalize own1 (fun _ => 0) b9 20 = ow at *
  have bs := bs.nw (j := 21) x11 hb11
  have kD := kD.nw (j := 21) x11 hb11
  have kV := S11 ow
  generalize own1 ow b11 21 = ow at *
  clear S9 S11
  refine (qnew_T ow hn1).mono ?_
  rintro _ q14 ⟨bq, ow2, rfl, F1, Q⟩
  have bs := bs.fm F1 (by simp <;> omega)
  have kD := kD.fm F1 (by simp <;> omega)
  have kV := kV.fm F1 (by simp <;> omega)
  refine rt_ret ⟨_, _, rfl, ?_⟩
  let I : (Int × Unit) → H → Nat → Prop := fun p q z => ∃ (j : Nat) (ow : Own) (dist via key : Nat → Int) (held : Nat → Bool), p.1 = j ∧ j ≤ n ∧ z = n - j ∧ Bs q1 ow q ∧ S1 ow q 20 (slV b9 n) (ints n dist) ∧ S1 ow q 21 (slV b11 n) (ints n via) ∧ FQ ow q bq n key held ∧
    (∀ v, held v = true ↔ v < j ∧ 0 < ex v) ∧ (∀ v, v < j → dist v = (if 0 < ex v then 0 else farI) ∧ via v = -1) ∧ (∀ v, held v = true → key v = 0)
  refine ⟨fun p q => ∃ k, I p q k, rk I, rk_wf I, ⟨_, 0, ow2, _, _, _, _, rfl, by omega, rfl, bs, kD, kV, Q, fun v => by simp, fun v hv => by omega, fun v hv => by cases hv⟩, ?_⟩
  clear bs kD kV Q F1
  intro p q hI
  obtain ⟨j, ow, dist, via, key, held, e1, hj, hz, bs, kD, kV, Q, hH, hd, hk⟩ := mu_spec hI
  generalize hkk : mu I ((p, ()), q) = km at *
  change p = (j : Int) at e1
  subst e1
  have hlt : j < n → n - (j + 1) < mu I (((j : Int), ()), q) := fun h => by rw [hkk, hz]; omega
  clear hI
  refine ifP_of (fun h1 => ?_) (fun h1 => ?_)
  · have hjn : j < n := by have := of_decide_eq_true h1; omega
    rw [i64_inc (by omega)]
    refine kD.setI hjn fun g F1 kD => ?_
    have bs := bs.fm F1 (by simp <;> omega)
    have kV := kV.fm F1 (by simp <;> omega)
    have Q := Q.fm F1 (by simp <;> omega)
    refine kV.setI hjn fun g F1 kV => ?_
    have bs := bs.fm F1 (by simp <;> omega)
    have kD := kD.fm F1 (by simp <;> omega)
    have Q := Q.fm F1 (by simp <;> omega)
    refine ⟨_, (B1_.ext bs.ext).ld rfl, ptrP_mk ⟨_, (k8.ext bs.ext).ld rfl, (k6.ext bs.ext).rdI hjn (ifP_of (fun h2 => ?_) (fun h2 => ?_))⟩⟩
    · have h2 := of_decide_eq_true h2
      refine kD.setI hjn fun g F1 kD => ?_
      have bs := bs.fm F1 (by simp <;> omega)
      have kV := kV.fm F1 (by simp <;> omega)
      have Q := Q.fm F1 (by simp <;> omega)
      have hf : held j = false := by
        cases e : held j
        · rfl
        · have := (hH j).1 e; omega
      refine (qpush_T Q hjn hf hn1).mono ?_
      rintro _ q2 ⟨rfl, F1, Q⟩
      have bs := bs.fm F1 (by simp <;> omega)
      have kD := kD.fm F1 (by simp <;> omega)
      have kV := kV.fm F1 (by simp <;> omega)
      refine rt_ret ⟨_, rfl, mu_next (I := I) (k := n - (j + 1)) ⟨j + 1, ow, _, _, _, _, rfl, hjn, rfl, bs, kD, kV, Q, fun v => ?_, fun v hv => ?_, fun v hv => ?_⟩ (hlt hjn)⟩
      · unfold updB
        by_cases e : v = j
        · subst e; simp [h2]
        · rw [if_neg e, hH v]; constructor <;> (rintro ⟨a, b⟩; exact ⟨by omega, b⟩)
      · by_cases e : v = j
        · subst e; rw [upd_at, upd_at, if_pos h2]; exact ⟨rfl, rfl⟩
        · rw [upd_ne e, upd_ne e, upd_ne e]; exact hd v (by omega)
      · by_cases e : v = j
        · subst e; rw [upd_at]
        · rw [upd_ne e]; refine hk v ?_
          unfold updB at hv; rwa [if_neg e] at hv
    · have h2 := of_decide_eq_false h2
      refine mu_next (I := I) (k := n - (j + 1)) ⟨j + 1, ow, _, _, _, _, rfl, hjn, rfl, bs, kD, kV, Q, fun v => ?_, fun v hv => ?_, hk⟩ (hlt hjn)
      · rw [hH v]
        by_cases e : v = j
        · subst e; constructor <;> (rintro ⟨a, b⟩; exact absurd b h2)
        · constructor <;> (rintro ⟨a, b⟩; exact ⟨by omega, b⟩)
      · by_cases e : v = j
        · subst e; rw [upd_at, upd_at, if_neg h2]; exact ⟨rfl, rfl⟩
        · rw [upd_ne e, upd_ne e]; exact hd v (by omega)
  have : j = n := by have := of_decide_eq_false h1; omega
  subst this
  have bdc : ∀ a, a < 2 * m → redC fr to cost pot a ≤ 4294967296 := fun a ha => by
    have c1 := hcost a ha
    have p1 := hpot _ (tl_lt hn ha)
    have p2 := hpot _ (hd_lt hn ha)
    unfold redC; omega
  let I2 : (Int × Unit) → H → Nat → Prop := fun p q z => ∃ (ow : Own) (D : Nat → Prop) (rk : Nat → Nat) (k : Nat) (dist via key : Nat → Int) (held : Nat → Bool), z = j - k ∧ Bs q1 ow q ∧ S1 ow q 20 (slV b9 j) (ints j dist) ∧ S1 ow q 21 (slV b11 j) (ints j via) ∧ FQ ow q bq j key held ∧
    DjP j m fr to room cost ex pot D rk k dist via ∧ (∀ v, v < j → (held v = true ↔ dist v < farI ∧ ¬ D v)) ∧ (∀ v, v < j → held v = true → key v = dist v) ∧
    (∀ a, a < 2 * m → 0 < room a → D (tlA fr to a) → dist (hdA fr to a) ≤ dist (tlA fr to a) + redC fr to cost pot a) ∧ FndP j ex D dist p.1
  have fi : (0 : Int) < farI := by decide
  have fe : farI = 4611686018427387904 := rfl
  refine ⟨fun p q => ∃ k, I2 p q k, Go.Proofs.YtjlojokockfapaaGreatDoor.rk I2, rk_wf I2, ⟨_, ow, fun _ => False, fun _ => 0, 0, dist, via, key, held, rfl, bs, kD, kV, Q, ⟨fun v hv => ?_, fun v hv hx => ?_, fun v hv => hv.elim, fun v hv hf => ?_, fun u v hu => hu.elim, fun v hv hf => ?_, cntP_0 fun _ _ h => h⟩, fun v hv => ?_, fun v hv hh => ?_, fun a _ _ ht => ht.elim, .inl ⟨by show (-1 : Int) < 0; omega, fun v hv => hv.elim⟩⟩, ?_⟩
  · rw [(hd v hv).1]; split <;> omega
  · rw [(hd v hv).1, if_pos hx]
  · refine .inl ⟨(hd v hv).2, ?_⟩
    apply Classical.byContradiction
    intro h
    rw [(hd v hv).1, if_neg h] at hf; omega
  · have h0 : 0 < ex v := by
      apply Classical.byContradiction
      intro h
      rw [(hd v hv).1, if_neg h] at hf; omega
    rw [(hd v hv).1, if_pos h0, hsrc v hv h0]; simp
  · rw [hH v, (hd v hv).1]
    by_cases h0 : 0 < ex v
    · rw [if_pos h0]; simp [h0, hv, fi]
    · rw [if_neg h0]; simp [h0]
  · have h0 := ((hH v).1 hh).2
    rw [hk v hh, (hd v hv).1, if_pos h0]
  clear hlt hkk hz h1 bs kD kV Q hH hd hk hj dist via key held
  intro fnd q hI
  obtain ⟨ow, D, rk, k, dist, via, key, held, hz, bs, kD, kV, Q, J, hH, hk, hcl, hF⟩ := mu_spec hI
  generalize hkk : mu I2 ((fnd, ()), q) = km at *
  change FndP j ex D dist fnd at hF
  clear hI
  refine (Len_T Q).mono ?_
  rintro _ _ ⟨rfl, rfl⟩
  refine rt_ret ⟨_, rfl, ifP_of (fun h1 => ?_) (fun h1 => ?_)⟩
  rotate_left
  · have h1 := of_decide_eq_false h1
    have no : ∀ v, v < j → ¬ held v = true := fun v hv hh => h1 (by have := cntP_one (P := heldP j held) hv ⟨hv, hh⟩; omega)
    refine ⟨b9, b11, dist, via, fnd, rfl, x1.trans' bs.ext, ?_, ?_, kD.sl.1, kV.sl.1, J.fin hred hn (fun v hv hf => ?_) hcl bdc (fun v hv => ?_) hF⟩
    · exact x1.new hb9
    · exact x1.new (x9.new hb11)
    · apply Classical.byContradiction
      intro hD
      exact no v hv ((hH v hv).2 ⟨hf, hD⟩)
    · have d := J.dn v hv
      have b := J.bd v d.1 d.2.1
      have c := J.cnt
      have c2 := cntP_all (n := j) (P := D)
      have p := hpot v d.1
      omega
  have h1 := of_decide_eq_true h1
  refine (qpop_T Q h1 hn1).mono ?_
  rintro _ q3 ⟨v, ow2, rfl, hv, hhv, hmin, F1, Q⟩
  have bs := bs.fm F1 (by simp <;> omega)
  have kD := kD.fm F1 (by simp <;> omega)
  have kV := kV.fm F1 (by simp <;> omega)
  clear F1
  obtain ⟨hvf, hvD⟩ := (hH v hv).1 hhv
  have hvk := hk v hv hhv
  have hmin2 : ∀ w, w < j → ¬ D w → dist v ≤ dist w := fun w hw hD => by
    by_cases hh : held w = true
    · have := hmin w hw hh
      rw [hvk, hk w hw hh] at this; exact this
    · have : ¬ dist w < farI := fun hf => hh ((hH w hw).2 ⟨hf, hD⟩)
      have := J.pos v hv
      omega
  have J2 := J.out hv hvD hvf hmin2
  have pv := J.pos v hv
  have bv := J.bd v hv hvf
  have kn : (k : Int) + 1 ≤ j := by
    have h1 := J2.cnt
    have := cntP_all (n := j) (P := fun w => w = v ∨ D w); omega
  have ppv := hpot v hv
  refine rt_ret ⟨_, _, _, rfl, ?_⟩
  rw [hvk]
  refine ⟨fun p q => q = q3 ∧ FndP j ex (fun w => w = v ∨ D w) dist p.1, ?_, ?_⟩
  · have keep : 0 ≤ ex v ∨ ¬ fnd < 0 → FndP j ex (fun w => w = v ∨ D w) dist fnd := fun hx => by
      rcases hF with ⟨a, b⟩ | ⟨f, a, b, c, d⟩
      · rcases hx with hx | hx
        · exact .inl ⟨a, fun w hw => by rcases hw with rfl | hw; exact hx; exact b w hw⟩
        · exact absurd a hx
      · exact .inr ⟨f, a, b, .inr c, d⟩
    refine ⟨_, (B1_.ext bs.ext).ld rfl, ptrP_mk ⟨_, (k8.ext bs.ext).ld rfl, (k6.ext bs.ext).rdI hv (ifP_of (fun h2 => ?_) (fun h2 => ?_))⟩⟩
    · refine ifP_of (fun h3 => ?_) (fun h3 => ?_)
      · refine ⟨rfl, .inr ⟨v, rfl, hv, .inl rfl, of_decide_eq_true h2, fun w hw hx => hmin2 w hw fun hD => ?_⟩⟩
        have h3 := of_decide_eq_true h3
        rcases hF with ⟨a, b⟩ | ⟨f, a, b, c, d⟩
        · have := b w hD; omega
        · omega
      · exact ⟨rfl, keep (.inr (of_decide_eq_false h3))⟩
    · exact ⟨rfl, keep (.inl (by have := of_decide_eq_false h2; omega))⟩
  rintro fnd2 _ ⟨rfl, hF⟩
  change FndP j ex (fun w => w = v ∨ D w) dist fnd2 at hF
  refine ⟨_, (B1_.ext bs.ext).ld rfl, ptrP_mk ⟨_, (k8.ext bs.ext).ld rfl, (k5.ext bs.ext).rdV hv (((ko v hv).ext bs.ext).len (natV_length _) fun _ _ => ?_)⟩⟩
  obtain ⟨d0, hd0⟩ : ∃ d0, dist v = d0 := ⟨_, rfl⟩
  rw [hd0] at pv bv ⊢
  have hm0 : ∀ u, (u = v ∨ D u) → dist u ≤ d0 := fun u hu => by
    rcases hu with rfl | hu
    · rw [hd0]; omega
    · have := J.mono u v hu hv hvD; rw [← hd0]; exact this
  let I3 : (Int × Unit) → H → Nat → Prop := fun p q z => ∃ (s : Nat) (ow : Own) (dist via key : Nat → Int) (held : Nat → Bool), p.1 = s ∧ s ≤ (arcsL fr to m v).length ∧ z = (arcsL fr to m v).length - s ∧ Bs q1 ow q ∧ S1 ow q 20 (slV b9 j) (ints j dist) ∧ S1 ow q 21 (slV b11 j) (ints j via) ∧ FQ ow q bq j key held ∧
    DjP j m fr to room cost ex pot (fun w => w = v ∨ D w) (updN rk v k) (k + 1) dist via ∧ (∀ w, w < j → (held w = true ↔ dist w < farI ∧ ¬ (w = v ∨ D w))) ∧ (∀ w, w < j → held w = true → key w = dist w) ∧
    (∀ a, a < 2 * m → 0 < room a → (tlA fr to a = v ∨ D (tlA fr to a)) → (tlA fr to a = v → a ∈ (arcsL fr to m v).take s) → dist (hdA fr to a) ≤ dist (tlA fr to a) + redC fr to cost pot a) ∧ FndP j ex (fun w => w = v ∨ D w) dist fnd2 ∧ dist v = d0 ∧ (∀ u, (u = v ∨ D u) → dist u ≤ d0)
  refine ⟨fun p q => ∃ k, I3 p q k, Go.Proofs.YtjlojokockfapaaGreatDoor.rk I3, rk_wf I3, ⟨_, 0, ow2, dist, via, key, _, rfl, by omega, rfl, bs, kD, kV, Q, J2, fun w hw => ?_, fun w hw hh => ?_, fun a ha hr ht hm => ?_, hF, hd0, hm0⟩, ?_⟩
  · unfold updB
    by_cases e : w = v
    · subst e; simp
    · rw [if_neg e, hH w hw]; simp [e]
  · unfold updB at hh
    by_cases e : w = v
    · subst e; simp at hh
    · rw [if_neg e] at hh; exact hk w hw hh
  · rcases ht with e | ht
    · exact absurd (hm e) (by simp)
    · exact hcl a ha hr ht
  clear bs kD kV Q J2 hF hH hk hcl hm0 hmin2 hvk hhv hmin h1 hvf pv J
  intro p q4 hI
  obtain ⟨s, ow, dist, via, key, held, e1, hs, hz2, bs, kD, kV, Q, J, hH, hk, hcl, hF, hdv, hm0⟩ := mu_spec hI
  generalize hkk2 : mu I3 ((p, ()), q4) = km2 at *
  change p = (s : Int) at e1
  subst e1
  have hlt2 : s < (arcsL fr to m v).length → (arcsL fr to m v).length - (s + 1) < mu I3 (((s : Int), ()), q4) := fun h => by rw [hkk2, hz2]; omega
  clear hI
  refine ifP_of (fun h3 => ?_) (fun h3 => ?_)
  · have hsl : s < (arcsL fr to m v).length := by have := of_decide_eq_true h3; omega
    have hal := arcsL_length (fr := fr) (to := to) (v := v) (i := m)
    obtain ⟨a, ha⟩ : ∃ a, a = (arcsL fr to m v)[s] := ⟨_, rfl⟩
    have ham := mem_arcsL.1 (show a ∈ arcsL fr to m v by rw [ha]; exact List.getElem_mem hsl)
    have htk : (arcsL fr to m v).take (s + 1) = (arcsL fr to m v).take s ++ [a] := by rw [ha, List.take_succ_eq_append_getElem hsl]
    have hu := hd_lt hn ham.1
    refine ((ko v hv).ext bs.ext).rd (natV_get hsl) ?_
    rw [← ha, i64_inc (by omega)]
    have skip : (room a = 0 ∨ dist (hdA fr to a) ≤ d0 + redC fr to cost pot a) → ∀ b, b < 2 * m → 0 < room b → (tlA fr to b = v ∨ D (tlA fr to b)) → (tlA fr to b = v → b ∈ (arcsL fr to m v).take (s + 1)) → dist (hdA fr to b) ≤ dist (tlA fr to b) + redC fr to cost pot b := fun hx b hb hrb ht hm => by
      by_cases e : b = a
      · subst e
        rcases hx with hx | hx
        · omega
        · rw [ham.2, hdv]; exact hx
      · refine hcl b hb hrb ht fun e2 => ?_
        have := hm e2
        rw [htk] at this
        rcases List.mem_append.1 this with k | k
        · exact k
        · exact absurd (by simpa using k) e
    refine ⟨_, (B1_.ext bs.ext).ld rfl, ptrP_mk ⟨_, (k8.ext bs.ext).ld rfl, (k2.ext bs.ext).rdI ham.1 (kD.at (ints_get hu) fun a76 ha76 => ⟨_, ha76, _, (B1_.ext bs.ext).ld rfl, ?_⟩)⟩⟩
    have cb := hcost a ham.1
    refine (reduced_T (N.ext bs.ext) hn ham.1 (by omega) (fun w hw => by have := hpot w hw; omega)).mono ?_
    rintro _ _ ⟨rfl, rfl⟩
    have jv := J.pos v hv
    have jb := J.bd v hv (J.dn v (.inl rfl)).2.1
    rw [hdv] at jb jv
    have r1 := bdc a ham.1
    have r2 : -4294967296 ≤ redC fr to cost pot a := by
      have p1 := hpot _ (tl_lt hn ham.1)
      have p2 := hpot _ hu
      unfold redC; omega
    have ew : IntKind.i64.wrap (d0 + redC fr to cost pot a) = d0 + redC fr to cost pot a := w64_in (by omega) (by omega)
    refine rt_ret ⟨_, rfl, sameAt_of rfl, ?_⟩
    rw [ew]
    have hra := hroom a ham.1
    refine ⟨_, (B1_.ext bs.ext).ld rfl, ptrP_mk ⟨_, (k8.ext bs.ext).ld rfl, (k3.ext bs.ext).rdI ham.1 (ifP_of (fun h4 => ?_) (fun h4 => ifP_of (fun h5 => ?_) (fun h5 => ?_)))⟩⟩
    · exact mu_next (I := I3) (k := (arcsL fr to m v).length - (s + 1)) ⟨s + 1, ow, dist, via, key, held, rfl, hsl, rfl, bs, kD, kV, Q, J, hH, hk, skip (.inl (of_decide_eq_true h4)), hF, hdv, hm0⟩ (hlt2 hsl)
    · exact mu_next (I := I3) (k := (arcsL fr to m v).length - (s + 1)) ⟨s + 1, ow, dist, via, key, held, rfl, hsl, rfl, bs, kD, kV, Q, J, hH, hk, skip (.inr (of_decide_eq_true h5)), hF, hdv, hm0⟩ (hlt2 hsl)
    · have h4 := of_decide_eq_false h4
      have h5 := of_decide_eq_false h5
      have hrp : 0 < room a := by omega
      have c0 := hred a ham.1 hrp
      obtain ⟨hnD, J2⟩ := J.relax (v := v) (.inl rfl) (by rw [hdv]; exact hm0) ham.1 ham.2 hu hrp c0 cb.2 (by rw [hdv]; omega) (by rw [hdv]; omega)
      rw [hdv] at J2
      have ne : ∀ w, (w = v ∨ D w) → w ≠ hdA fr to a := fun w hw e => hnD (e ▸ hw)
      have newcl : ∀ b, b < 2 * m → 0 < room b → (tlA fr to b = v ∨ D (tlA fr to b)) → (tlA fr to b = v → b ∈ (arcsL fr to m v).take (s + 1)) → upd dist (hdA fr to a) (d0 + redC fr to cost pot a) (hdA fr to b) ≤ upd dist (hdA fr to a) (d0 + redC fr to cost pot a) (tlA fr to b) + redC fr to cost pot b := fun b hb hrb ht hm => by
        rw [upd_ne (ne _ ht)]
        by_cases e : b = a
        · subst e
          rw [upd_at, ham.2, hdv]; omega
        · have := hcl b hb hrb ht fun e2 => by
            have := hm e2
            rw [htk] at this
            rcases List.mem_append.1 this with k | k
            · exact k
            · exact absurd (by simpa using k) e
          by_cases e2 : hdA fr to b = hdA fr to a
          · rw [e2, upd_at]; rw [e2] at this; omega
          · rw [upd_ne e2]; exact this
      have newF : FndP j ex (fun w => w = v ∨ D w) (upd dist (hdA fr to a) (d0 + redC fr to cost pot a)) fnd2 := by
        rcases hF with hF | ⟨f, f1, f2, f3, f4, f5⟩
        · exact .inl hF
        · refine .inr ⟨f, f1, f2, f3, f4, fun w hw hx => ?_⟩
          rw [upd_ne (ne f f3)]
          by_cases e : w = hdA fr to a
          · subst e; rw [upd_at]; have := hm0 f f3; omega
          · rw [upd_ne e]; exact f5 w hw hx
      have newv : upd dist (hdA fr to a) (d0 + redC fr to cost pot a) v = d0 := by rw [upd_ne (ne v (.inl rfl))]; exact hdv
      have newm : ∀ u, (u = v ∨ D u) → upd dist (hdA fr to a) (d0 + redC fr to cost pot a) u ≤ d0 := fun u hu => by rw [upd_ne (ne u hu)]; exact hm0 u hu
      have dlt : d0 + redC fr to cost pot a < farI := by have := J.pos _ hu; omega
      refine kD.setI hu fun g F1 kD => ?_
      have bs := bs.fm F1 (by simp <;> omega)
      have kV := kV.fm F1 (by simp <;> omega)
      have Q := Q.fm F1 (by simp <;> omega)
      refine kV.setI hu fun g F1 kV => ?_
      have bs := bs.fm F1 (by simp <;> omega)
      have kD := kD.fm F1 (by simp <;> omega)
      have Q := Q.fm F1 (by simp <;> omega)
      refine ifP_of (fun h6 => ?_) (fun h6 => ?_)
      · have h6 := of_decide_eq_true h6
        have hf : held (hdA fr to a) = false := by
          cases e : held (hdA fr to a)
          · rfl
          · have h7 := ((hH _ hu).1 e).1
            rw [h6] at h7; omega
        refine (qpush_T Q hu hf hn1).mono ?_
        rintro _ q2 ⟨rfl, F1, Q⟩
        have bs := bs.fm F1 (by simp <;> omega)
        have kD := kD.fm F1 (by simp <;> omega)
        have kV := kV.fm F1 (by simp <;> omega)
        refine rt_ret ⟨_, rfl, mu_next (I := I3) (k := (arcsL fr to m v).length - (s + 1)) ⟨s + 1, ow, _, _, _, _, rfl, hsl, rfl, bs, kD, kV, Q, J2, fun w hw => ?_, fun w hw hh => ?_, newcl, newF, newv, newm⟩ (hlt2 hsl)⟩
        · unfold updB
          by_cases e : w = hdA fr to a
          · subst e; rw [if_pos rfl, upd_at]; exact ⟨fun _ => ⟨dlt, hnD⟩, fun _ => rfl⟩
          · rw [if_neg e, upd_ne e]; exact hH w hw
        · by_cases e : w = hdA fr to a
          · subst e; rw [upd_at, upd_at]
          · rw [upd_ne e, upd_ne e]
            unfold updB at hh; rw [if_neg e] at hh
            exact hk w hw hh
      · have h6 := of_decide_eq_false h6
        have hf : held (hdA fr to a) = true := (hH _ hu).2 ⟨by have := J.pos _ hu; omega, hnD⟩
        have hkf := hk _ hu hf
        refine (qlower_T Q hu hf (by rw [hkf]; omega) hn1).mono ?_
        rintro _ q2 ⟨rfl, F1, Q⟩
        have bs := bs.fm F1 (by simp <;> omega)
        have kD := kD.fm F1 (by simp <;> omega)
        have kV := kV.fm F1 (by simp <;> omega)
        refine rt_ret ⟨_, rfl, mu_next (I := I3) (k := (arcsL fr to m v).length - (s + 1)) ⟨s + 1, ow, _, _, _, _, rfl, hsl, rfl, bs, kD, kV, Q, J2, fun w hw => ?_, fun w hw hh => ?_, newcl, newF, newv, newm⟩ (hlt2 hsl)⟩
        · by_cases e : w = hdA fr to a
          · subst e; rw [upd_at]; exact ⟨fun _ => ⟨dlt, hnD⟩, fun _ => hf⟩
          · rw [upd_ne e]; exact hH w hw
        · by_cases e : w = hdA fr to a
          · subst e; rw [upd_at, upd_at]
          · rw [upd_ne e, upd_ne e]
            exact hk w hw hh
  · have : s = (arcsL fr to m v).length := by have := of_decide_eq_false h3; omega
    subst this
    refine mu_next (I := I2) (k := j - (k + 1)) ⟨ow, _, _, k + 1, dist, via, key, held, rfl, bs, kD, kV, Q, J, hH, hk, fun a ha hr ht => hcl a ha hr ht fun e => ?_, hF⟩ ?_
    · rw [List.take_length]; exact mem_arcsL.2 ⟨ha, e⟩
    · rw [hkk, hz]; omega
end

end Go.Proofs.YtjlojokockfapaaGreatDoor

