import Derived.Laws.StructEq
import Derived.Test.YtdblngaacnpgmaaAB2
namespace Go.Proofs.Ytdblngaacnpgmaa
open Go
set_option linter.unusedVariables false
set_option linter.unusedSimpArgs false

/-- A step along an arc with room. -/
def ArS (m : Nat) (fr to : Nat → Nat) (room : Nat → Int) (u v : Nat) : Prop := ∃ a, a < 2 * m ∧ tlA fr to a = u ∧ hdA fr to a = v ∧ 0 < room a
/-- Loops over 0 .. n-1 that set all. -/
theorem upd_lt {f : Nat → Int} {i : Nat} {x : Int} : (fun v => if v < i + 1 then x else f v) = upd (fun v => if v < i then x else f v) i x := by
  funext v
  unfold upd
  by_cases h1 : v = i
  · rw [if_pos h1, if_pos (by omega)]
  · rw [if_neg h1]
    show _ = if v < i then x else f v
    by_cases h2 : v < i
    · rw [if_pos h2, if_pos (by omega)]
    · rw [if_neg h2, if_neg (by omega)]
def cntN (n : Nat) (lev : Nat → Int) : Int := sumN n fun v => if lev v < 0 then 1 else 0
theorem cntN_upd {n w : Nat} {lev : Nat → Int} {x : Int} (hw : w < n) (h : lev w < 0) (hx : 0 ≤ x) : cntN n (upd lev w x) = cntN n lev - 1 := by
  unfold cntN
  have e : (fun v => if upd lev w x v < 0 then (1 : Int) else 0) = upd (fun v => if lev v < 0 then 1 else 0) w 0 := by
    funext v
    unfold upd
    by_cases h1 : v = w
    · rw [if_pos h1, if_pos h1, if_neg (by omega)]
    · rw [if_neg h1, if_neg h1]
  rw [e, sumN_upd hw, if_pos h]; omega
/-- The queue holds all that have a level; those before i are done. -/
structure LvI (n m : Nat) (fr to : Nat → Nat) (room : Nat → Int) (s i : Nat) (Q : List Nat) (lev : Nat → Int) : Prop where
  src : lev s = 0
  lo : ∀ v, v < n → -1 ≤ lev v
  up : ∀ v, v < n → lev v < Q.length
  mem : ∀ v, v ∈ Q → v < n ∧ 0 ≤ lev v
  all : ∀ v, v < n → 0 ≤ lev v → v ∈ Q
  cnt : (Q.length : Int) + cntN n lev = n
  pred : ∀ v, v < n → 0 < lev v → ∃ a, a < 2 * m ∧ hdA fr to a = v ∧ 0 < room a ∧ lev (tlA fr to a) = lev v - 1
  one : ∀ v, v < n → lev v = 0 → v = s
  done : ∀ k, k < i → ∀ hk : k < Q.length, ∀ a, a < 2 * m → tlA fr to a = Q[k] → 0 < room a → 0 ≤ lev (hdA fr to a)
section
variable {n m i : Nat} {fr to : Nat → Nat} {room : Nat → Int} {s w : Nat} {Q : List Nat} {lev : Nat → Int}
theorem LvI.next (L : LvI n m fr to room s i Q lev) (hn : ∀ i, i < m → fr i < n ∧ to i < n) {a : Nat} (hi : i < Q.length) (ha : a < 2 * m) (ht : tlA fr to a = Q[i]) (hr : 0 < room a) (hl : lev (hdA fr to a) < 0) :
    LvI n m fr to room s i (Q ++ [hdA fr to a]) (upd lev (hdA fr to a) (lev Q[i] + 1)) := by
  have hw := hd_lt hn ha
  have hq := L.mem _ (List.getElem_mem hi)
  have hqb := L.up _ hq.1
  have ne : Q[i] ≠ hdA fr to a := by intro e; rw [e] at hq; omega
  have keep : ∀ v, 0 ≤ lev v → upd lev (hdA fr to a) (lev Q[i] + 1) v = lev v := by
    intro v hv
    unfold upd
    rw [if_neg]
    rintro rfl; omega
  have at_ : upd lev (hdA fr to a) (lev Q[i] + 1) (hdA fr to a) = lev Q[i] + 1 := if_pos rfl
  have grow : ∀ v, 0 ≤ lev v → 0 ≤ upd lev (hdA fr to a) (lev Q[i] + 1) v := fun v hv => by rw [keep v hv]; exact hv
  refine ⟨?_, ?_, ?_, ?_, ?_, ?_, ?_, ?_, ?_⟩
  · rw [keep _ (by rw [L.src]; omega)]; exact L.src
  · intro v hv
    have := L.lo v hv
    unfold upd; split <;> omega
  · intro v hv
    have := L.up v hv
    rw [List.length_append]
    unfold upd; split <;> simp <;> omega
  · intro v hv
    rcases List.mem_append.1 hv with h | h
    · exact ⟨(L.mem v h).1, grow v (L.mem v h).2⟩
    · have : v = hdA fr to a := by simpa using h
      subst this
      exact ⟨hw, by rw [at_]; omega⟩
  · intro v hv h
    rw [List.mem_append]
    by_cases e : v = hdA fr to a
    · exact .inr (by simp [e])
    · refine .inl (L.all v hv ?_)
      unfold upd at h
      rwa [if_neg e] at h
  · rw [cntN_upd hw hl (by omega), List.length_append]
    have := L.cnt
    simp; omega
  · intro v hv h
    by_cases e : v = hdA fr to a
    · subst e
      refine ⟨a, ha, rfl, hr, ?_⟩
      rw [at_, ht, keep _ hq.2]; omega
    · have h' : upd lev (hdA fr to a) (lev Q[i] + 1) v = lev v := if_neg e
      rw [h'] at h ⊢
      obtain ⟨b, hb, h1, h2, h3⟩ := L.pred v hv h
      exact ⟨b, hb, h1, h2, by rw [keep _ (by omega)]; exact h3⟩
  · intro v hv h
    by_cases e : v = hdA fr to a
    · subst e; rw [at_] at h; omega
    · have h' : upd lev (hdA fr to a) (lev Q[i] + 1) v = lev v := if_neg e
      rw [h'] at h; exact L.one v hv h
  · intro k hk hk2 b hb h1 h2
    have hkq : k < Q.length := by omega
    rw [List.getElem_append_left hkq] at h1
    exact grow _ (L.done k hk hkq b hb h1 h2)
end

end Go.Proofs.Ytdblngaacnpgmaa

namespace Go.Proofs.Ytdblngaacnpgmaa
open Go
set_option linter.unusedVariables false
set_option linter.unusedSimpArgs false

/-- Skipped arcs that could be gone lead to nodes that are done with. -/
def DdP (n m : Nat) (fr to : Nat → Nat) (t : Nat) (lev room nxt : Nat → Int) : Prop :=
  ∀ u, u < n → ∀ a ∈ (arcsL fr to m u).take (nxt u).toNat, 0 < room a → lev (hdA fr to a) = lev u + 1 → hdA fr to a ≠ t ∧ nxt (hdA fr to a) = (arcsL fr to m (hdA fr to a)).length
structure AlR (n m : Nat) (fr to : Nat → Nat) (cap : Nat → Int) (t : Nat) (lev room nxt room' nxt' : Nat → Int) (v : Nat) (x : Int) : Prop where
  rm : RmP m cap room'
  out : ∀ u, OutF m fr to (onR room') u = OutF m fr to (onR room) u + (if v = u then x else 0) - (if t = u then x else 0)
  ch : ∀ a, a < 2 * m → room' a ≠ room a → (lev v ≤ lev (tlA fr to a) ∧ lev (hdA fr to a) = lev (tlA fr to a) + 1) ∨ (lev v ≤ lev (hdA fr to a) ∧ lev (tlA fr to a) = lev (hdA fr to a) + 1)
  nb : ∀ u, u < n → nxt u ≤ nxt' u ∧ nxt' u ≤ (arcsL fr to m u).length
  nl : ∀ u, u < n → lev u < lev v → nxt' u = nxt u
  z : x = 0 → room' = room ∧ (DdP n m fr to t lev room nxt → DdP n m fr to t lev room nxt')

section
variable {own : Own} {h : H} {bd bn n m s t : Nat} {fr to : Nat → Nat} {cap room lev nxt : Nat → Int}
theorem AlR.refl (R : RmP m cap room) (hb : ∀ u, u < n → 0 ≤ nxt u ∧ nxt u ≤ (arcsL fr to m u).length) (v : Nat) (x : Int) (hx : x = 0 ∨ v = t) :
    AlR n m fr to cap t lev room nxt room nxt v x := by
  refine ⟨R, fun u => ?_, fun a _ h => absurd rfl h, fun u hu => ⟨Int.le_refl _, (hb u hu).2⟩, fun _ _ _ => rfl, fun _ => ⟨rfl, id⟩⟩
  rcases hx with rfl | rfl
  · split <;> split <;> omega
  · omega

end

end Go.Proofs.Ytdblngaacnpgmaa

namespace Go.Proofs.Ytdblngaacnpgmaa
open Go
set_option linter.unusedVariables false
set_option linter.unusedSimpArgs false

/-- A flow in the net's rooms. -/
structure FlS (n m : Nat) (fr to : Nat → Nat) (cap : Nat → Int) (s t : Nat) (room : Nat → Int) : Prop where
  rm : RmP m cap room
  cons : ∀ v, v < n → v ≠ s → v ≠ t → OutF m fr to (onR room) v = 0
section
variable {own : Own} {h : H} {bd bn n m s t : Nat} {fr to : Nat → Nat} {cap room lev nxt : Nat → Int}
theorem FlS.flow (F : FlS n m fr to cap s t room) : FlowP n m fr to cap s t (onR room) :=
  ⟨fun i hi => by
    have := F.rm.sum i hi
    have h1 := F.rm.pos (2 * i) (by omega)
    have h2 := F.rm.pos (2 * i + 1) (by omega)
    unfold onR; omega, F.cons⟩
theorem rch_iff (R : RmP m cap room) {u v : Nat} : Rch (ArS m fr to room) u v ↔ Rch (RsS m fr to cap (onR room)) u v :=
  ⟨Rch.mono fun _ _ h => (rs_arc R).2 h, Rch.mono fun _ _ h => (rs_arc R).1 h⟩

end

end Go.Proofs.Ytdblngaacnpgmaa

namespace Go.Proofs.Ytdblngaacnpgmaa
open Go
set_option linter.unusedVariables false
set_option linter.unusedSimpArgs false

/-- The slice v holds vs, somewhere in a block of the i-th owner. -/
def Sq (own : Own) (h : H) (i : Nat) (v : Value) (vs : List Value) : Prop :=
  (vs = [] ∧ v = .slice none 0 0) ∨ ∃ b pre zs post c e, own b = i ∧ v = .slice (some ⟨b, pre.length, none⟩) vs.length c ∧ h b = some (.cells ⟨pre ++ (vs ++ (zs ++ post))⟩ e (0, 0)) ∧ vs.length + zs.length = c
section
variable {own own' : Own} {h h' : H} {i : Nat} {v : Value} {vs : List Value}
theorem Sq.of (s : S1 own h i v vs) : Sq own h i v vs := by
  rcases s with s | ⟨b, hb, c, e, zs, h1, h2, h3⟩
  · exact .inl s
  · exact .inr ⟨b, [], zs, [], c, e, hb, h1, by simpa using h2, h3⟩
theorem Sq.nil : Sq own h i (.slice none 0 0) [] := .inl ⟨rfl, rfl⟩
theorem Sq.fm {M : List Nat} (s : Sq own h i v vs) (F : Fm M own h own' h') (hM : i ∉ M) : Sq own' h' i v vs := by
  rcases s with s | ⟨b, pre, zs, post, c, e, hb, h1, h2, h3⟩
  · exact .inl s
  · exact .inr ⟨b, pre, zs, post, c, e, (F.stay b _ h2).2.trans hb, h1, F.keep b _ h2 (by rw [hb]; exact hM), h3⟩
theorem Sq.ext (s : Sq own h i v vs) (x : Ext h h') : Sq own h' i v vs := s.fm (M := []) (Fm.of_ext x) (by simp)
theorem Sq.nw {b j : Nat} (s : Sq own h i v vs) (x : Ext h h') (hb : h b = none) : Sq (own1 own b j) h' i v vs := s.fm (M := []) (Fm.new x hb) (by simp)
theorem Sq.shape (s : Sq own h i v vs) : ∃ a c, v = .slice a vs.length c := by
  rcases s with ⟨rfl, rfl⟩ | ⟨b, pre, zs, post, c, e, hb, h1, h2, h3⟩
  · exact ⟨_, _, rfl⟩
  · exact ⟨_, _, h1⟩
theorem Sq.isS (s : Sq own h i v vs) : ∃ a l c, v = .slice a l c := let ⟨a, c, e⟩ := s.shape; ⟨a, _, c, e⟩
theorem Sq.len {l : Nat} {K : Option Addr → Nat → Nat → Prop} (s : Sq own h i v vs) (hl : vs.length = l) (k : ∀ a c, K a l c) : slcP v K := by
  obtain ⟨a, c, rfl⟩ := s.shape
  rw [hl]; exact k _ _
theorem Sq.at {j : Nat} {x : Value} {K : Addr → Prop} (s : Sq own h i v vs) (hj : vs[j]? = some x) (k : ∀ a : Addr, hcell h a = some x → K a) : ixS v (j : Int) 1 K := by
  have hl := (List.getElem?_eq_some_iff.1 hj).1
  rcases s with ⟨rfl, rfl⟩ | ⟨b, pre, zs, post, c, e, hb, rfl, h2, h3⟩
  · simp at hl
  · refine ⟨by omega, by omega, k _ ?_⟩
    rw [Int.toNat_natCast, bk_add2, hcell_at h2, List.getElem?_toArray, Nat.mul_one, List.getElem?_append_right (by omega),
      show pre.length + j - pre.length = j by omega, List.getElem?_append_left hl]
    exact hj
theorem Sq.rd {j : Nat} {x : Int} {K : Int → Prop} (s : Sq own h i v vs) (hj : vs[j]? = some (.int .i64 x)) (k : K x) : ixS v (j : Int) 1 fun a => ldI h a .i64 K :=
  s.at hj fun a e => ⟨x, e, k⟩
/-- The first one gone: v[1:]. -/
theorem Sq.tl {x : Value} {xs : List Value} {K : Option Addr → Nat → Nat → Prop} (s : Sq own h i v (x :: xs))
    (k : ∀ (a : Option Addr) (l c : Nat), (l : Int) = xs.length + 1 → 1 ≤ (l : Int) → (l : Int) ≤ (c : Int) → Sq own h i (sliceV a c 1 (l : Int) 1) xs → K a l c) : slcP v K := by
  rcases s with ⟨h1, _⟩ | ⟨b, pre, zs, post, c, e, hb, rfl, h2, h3⟩
  · cases h1
  · refine k _ _ _ (by simp) (by simp; omega) (by simp at h3 ⊢; omega) ?_
    unfold sliceV
    simp only [List.length_cons] at h3 ⊢
    have e1 : ((1 : Int)).toNat = 1 := rfl
    have e2 : (((xs.length + 1 : Nat) : Int)).toNat = xs.length + 1 := Int.toNat_natCast _
    rw [e1, e2]
    by_cases hc : c = 1
    · subst hc
      have : xs = [] := List.length_eq_zero_iff.1 (by omega)
      subst this
      rw [if_pos rfl]
      exact .inr ⟨b, pre, [], x :: (zs ++ post), 0, e, hb, rfl, by simpa using h2, rfl⟩
    · rw [if_neg hc]
      refine .inr ⟨b, pre ++ [x], zs, post, c - 1, e, hb, ?_, by simpa using h2, by omega⟩
      simp [Addr.add]
/-- One more at the end. -/
theorem Sq.push {x z : Value} {ex : Nat} {K : Nat → H → Value → H → Prop} {e bytes : Nat} (s : Sq own h i v vs)
    (one : x.oneCell' = true) (hb : bytes ≤ 8) (hl : vs.length < 1000000)
    (k : ∀ bx hm p' own' h', h bx = none → Ext h hm → Fm [i] own h own' h' → Sq own' h' i p' (vs ++ [x]) → K bx hm p' h') :
    newP h (.cells ⟨[x]⟩ ex (0, 0)) fun bx hm => apP v (.slice (some (bk bx)) 1 1) hm 1 e bytes [z] (K bx hm) := by
  refine new_put ?_
  intro bx hm hbx xm hx
  have hsrc : srcP hm (some (bk bx)) (1 * 1) [x] := by
    refine ⟨rfl, fun j v hj => ?_⟩
    rw [bk_add, hcell_at hx, List.getElem?_toArray]
    exact hj
  have hzl : ∀ m, (zrep [z] m).length = m := by intro m; simp [zrep]
  rcases s with ⟨rfl, rfl⟩ | ⟨b, pre, zs, post, c, eb, hob, rfl, h2, h3⟩
  · refine ⟨[x], hsrc, fun hle => by omega, fun hlt => ⟨?_, [], ⟨rfl, rfl⟩, fun cap hcap => ?_⟩⟩
    · have := nextcap_le hlt
      calc _ ≤ (2 * (0 + 1) + 192) * bytes := Nat.mul_le_mul_right _ this
        _ ≤ (2 * (0 + 1) + 192) * 8 := Nat.mul_le_mul_left _ hb
        _ ≤ _ := by omega
    · refine new_put ?_
      intro b g hbn x1 e1
      rw [Nat.zero_add] at e1 hcap ⊢
      refine k bx hm _ (own1 own b i) g hbx xm (Fm.new (xm.trans' x1) (xm.new hbn)) (.inr ⟨b, [], zrep [z] (cap - 1), [], cap, e, own1_at, rfl, by rw [e1]; simp, ?_⟩)
      rw [hzl]; simp; omega
  · have h2m := xm _ _ h2
    refine ⟨[x], hsrc, fun hle => ⟨fun _ => ?_, by simpa using one, ?_⟩, fun hlt => ⟨?_, vs, ⟨by rw [Nat.mul_one], ?_⟩, fun cap hcap => ?_⟩⟩
    · rw [bk_add2]
      refine ⟨_, _, h2m, rfl, ?_⟩
      simp only [List.size_toArray, List.length_append, List.length_singleton]
      omega
    · rw [bk_add2]
      cases zs with
      | nil => simp at h3; omega
      | cons z0 zs =>
        have e2 : hset hm ⟨b, pre.length + vs.length * 1, none⟩ [x] b = some (.cells ⟨pre ++ ((vs ++ [x]) ++ (zs ++ post))⟩ eb (0, 0)) := by
          unfold hset
          rw [if_pos rfl, h2m]
          simp only [Option.map_some, setR, Nat.mul_one]
          rw [List.setIfInBounds_toArray]
          congr 3
          rw [List.set_append_right _ _ (by omega), show pre.length + vs.length - pre.length = vs.length by omega, List.set_append_right _ _ (by omega), Nat.sub_self]
          simp
        refine k bx hm _ own _ hbx xm ((Fm.of_ext xm).trans (Fm.kp (b := b) ?_ hob ⟨_, e2⟩)) (.inr ⟨b, pre, zs, post, c, eb, hob, by simp, e2, by simp at h3 ⊢; omega⟩)
        intro j o hj hh
        unfold hset
        rw [if_neg hj]; exact hh
    · have := nextcap_le hlt
      calc _ ≤ (2 * (vs.length + 1) + 192) * bytes := Nat.mul_le_mul_right _ this
        _ ≤ (2 * (vs.length + 1) + 192) * 8 := Nat.mul_le_mul_left _ hb
        _ ≤ _ := by omega
    · intro j v hj
      rw [bk_add2, hcell_at h2m, List.getElem?_toArray, List.getElem?_append_right (by omega), show pre.length + j - pre.length = j by omega]
      have := (List.getElem?_eq_some_iff.1 hj).1
      rw [List.getElem?_append_left this]
      exact hj
    · refine new_put ?_
      intro b' g hbn x1 e1
      refine k bx hm _ (own1 own b' i) g hbx xm (Fm.new (xm.trans' x1) (xm.new hbn)) (.inr ⟨b', [], zrep [z] (cap - (vs.length + 1)), [], cap, e, own1_at, by simp, by rw [e1]; simp, ?_⟩)
      rw [hzl]; simp; omega
end

/-- Four numbers, the first counts most. -/
abbrev N4 := Nat × Nat × Nat × Nat
def r4 (a b : N4) : Prop := a.1 < b.1 ∨ a.1 = b.1 ∧ (a.2.1 < b.2.1 ∨ a.2.1 = b.2.1 ∧ (a.2.2.1 < b.2.2.1 ∨ a.2.2.1 = b.2.2.1 ∧ a.2.2.2 < b.2.2.2))
end Go.Proofs.Ytdblngaacnpgmaa

namespace Go.Proofs.Ytdblngaacnpgmaa
open Go
set_option linter.unusedVariables false
set_option linter.unusedSimpArgs false

/-- How many nodes have a height. -/
def cntH (n : Nat) (ht : Nat → Int) (k : Int) : Int := sumN n fun u => if ht u = k then 1 else 0
theorem cntH_upd {n v : Nat} {ht : Nat → Int} {y k : Int} (hv : v < n) : cntH n (upd ht v y) k = cntH n ht k - (if ht v = k then 1 else 0) + (if y = k then 1 else 0) := by
  unfold cntH
  have e : (fun u => if upd ht v y u = k then (1 : Int) else 0) = upd (fun u => if ht u = k then 1 else 0) v (if y = k then 1 else 0) := by
    funext u
    unfold upd
    by_cases h : u = v
    · rw [if_pos h, if_pos h]
    · rw [if_neg h, if_neg h]
  rw [e, sumN_upd hv]
theorem cntH_bd {n : Nat} {ht : Nat → Int} {k : Int} : 0 ≤ cntH n ht k ∧ cntH n ht k ≤ n := by
  constructor
  · exact sumN_nonneg fun u _ => by split <;> omega
  · have := sumN_bd (k := n) (c := 1) (f := fun u => if ht u = k then (1 : Int) else 0) fun u _ => by split <;> omega
    unfold cntH; omega
theorem cntH_none {n : Nat} {ht : Nat → Int} {k : Int} (h : cntH n ht k = 0) : ∀ u, u < n → ht u ≠ k := by
  intro u hu e
  have := sumN_all0 (f := fun u => if ht u = k then (1 : Int) else 0) (k := n) (fun u _ => by split <;> omega) (by unfold cntH at h; omega) u hu
  simp [e] at this
/-- Some height among n + 1 has no node. -/
theorem gap_ex {n : Nat} {ht : Nat → Int} (b : Int) : ∃ k : Nat, k < n + 1 ∧ ∀ u, u < n → ht u ≠ b + k := by
  apply Classical.byContradiction
  intro hno
  have h1 : ∀ k, k < n + 1 → 1 ≤ cntH n ht (b + k) := by
    intro k hk
    have := cntH_bd (n := n) (ht := ht) (k := b + k)
    by_cases e : cntH n ht (b + k) = 0
    · exact absurd ⟨k, hk, cntH_none e⟩ hno
    · omega
  have h2 : (n : Int) + 1 ≤ sumN (n + 1) fun k => cntH n ht (b + k) := by
    have := sumN_le (k := n + 1) (f := fun _ => 1) h1
    rw [sumN_const] at this; omega
  unfold cntH at h2
  rw [sumN_swap] at h2
  have h3 : sumN n (fun u => sumN (n + 1) fun k => if ht u = b + k then (1 : Int) else 0) ≤ n * 1 := by
    refine sumN_bd fun u hu => ?_
    by_cases e : ∃ j : Nat, ht u = b + j
    · obtain ⟨j, e⟩ := e
      have : sumN (n + 1) (fun k => if ht u = b + k then (1 : Int) else 0) = sumN (n + 1) (fun k => if j = k then (1 : Int) else 0) := sumN_congr fun k _ => by
        by_cases h : j = k
        · rw [if_pos h, if_pos (by omega)]
        · rw [if_neg h, if_neg (by omega)]
      rw [this, sumN_pt]; split <;> omega
    · rw [sumN_zero]
      · omega
      · intro k _
        rw [if_neg]
        intro h; exact e ⟨k, h⟩
  omega
section
variable {own : Own} {h : H} {bp bn n m s t : Nat} {fr to : Nat → Nat} {room ht ex nxt : Nat → Int} {Q : List Nat}

/-- The queue behind a push to w. -/
def giveQ (s t : Nat) (ex : Nat → Int) (Q : List Nat) (w : Nat) : List Nat := if ex w = 0 ∧ w ≠ s ∧ w ≠ t then Q ++ [w] else Q
def giveX (ex : Nat → Int) (v w : Nat) (x : Int) : Nat → Int := upd (upd ex v (ex v - x)) w (upd ex v (ex v - x) w + x)
end

end Go.Proofs.Ytdblngaacnpgmaa

namespace Go.Proofs.Ytdblngaacnpgmaa
open Go
set_option linter.unusedVariables false
set_option linter.unusedSimpArgs false

theorem B1.uniq {own : Own} {h : H} {i j b : Nat} {vs ws : List Value} (a : B1 own h i b vs) (c : B1 own h j b ws) : vs = ws := by
  obtain ⟨_, e, k⟩ := a
  obtain ⟨_, e', k'⟩ := c
  rw [k] at k'
  simp only [Option.some.injEq, Obj.cells.injEq, Array.mk.injEq] at k'
  exact k'.1
end Go.Proofs.Ytdblngaacnpgmaa

namespace Go.Proofs.Ytdblngaacnpgmaa
open Go
open Classical
set_option linter.unusedVariables false
set_option linter.unusedSimpArgs false

structure PvI (n m : Nat) (fr to : Nat → Nat) (cap : Nat → Int) (s t : Nat) (K : Int) (room ht ex nxt : Nat → Int) (Q : List Nat) (cur : Option Nat) : Prop where
  rm : RmP m cap room
  hs : ht s = n
  htt : ht t = 0
  hb : ∀ u, u < n → 0 ≤ ht u ∧ ht u ≤ 2 * n
  val : ∀ a, a < 2 * m → 0 < room a → ht (tlA fr to a) ≤ ht (hdA fr to a) + 1
  ex0 : ∀ u, u < n → u ≠ s → ex u = - OutF m fr to (onR room) u ∧ 0 ≤ ex u
  exs : ex s = K - OutF m fr to (onR room) s
  cov : ∀ u, u < n → u ≠ s → u ≠ t → 0 < ex u → u ∈ Q ∨ cur = some u
  mem : ∀ u, u ∈ Q → u < n ∧ u ≠ s ∧ u ≠ t
  nb : ∀ u, u < n → 0 ≤ nxt u ∧ nxt u ≤ (arcsL fr to m u).length
  ca : ∀ u, u < n → ∀ a ∈ (arcsL fr to m u).take (nxt u).toNat, ¬ (0 < room a ∧ ht u = ht (hdA fr to a) + 1)
section
variable {n m s t : Nat} {fr to : Nat → Nat} {cap room ht ex nxt : Nat → Int} {Q : List Nat} {cur : Option Nat} {K : Int}

/-- No side that holds what is too much is closed. -/
theorem exc_closed (R : RmP m cap room) (hn : ∀ i, i < m → fr i < n ∧ to i < n) {C : Nat → Prop} (hc : ∀ a, a < 2 * m → 0 < room a → C (tlA fr to a) → C (hdA fr to a))
    (hex : ∀ u, u < n → C u → OutF m fr to (onR room) u ≤ 0) {v : Nat} (hv : v < n) (cv : C v) (hev : OutF m fr to (onR room) v < 0) : False := by
  have e := out_side (f := onR room) hn C
  have h1 : 0 ≤ sumN m fun i => (if C (fr i) then onR room i else 0) - (if C (to i) then onR room i else 0) := by
    refine sumN_nonneg fun i hi => ?_
    have p1 := R.pos (2 * i + 1) (by omega)
    have c1 := hc (2 * i + 1) (by omega)
    unfold tlA hdA at c1
    rw [if_neg (by omega), if_neg (by omega), show (2 * i + 1) / 2 = i by omega] at c1
    unfold onR
    by_cases h1 : C (fr i) <;> by_cases h2 : C (to i) <;> simp [h1, h2] <;> try omega
    by_cases h3 : 0 < room (2 * i + 1)
    · exact absurd (c1 h3 h2) h1
    · omega
  have h2 : sumN n (fun u => if C u then OutF m fr to (onR room) u else 0) ≤ OutF m fr to (onR room) v := by
    have := sumN_mem (f := fun u => -(if C u then OutF m fr to (onR room) u else 0)) (k := n) (i := v) (fun u hu => by
      by_cases h : C u
      · rw [if_pos h]; have := hex u hu h; omega
      · rw [if_neg h]; omega) hv
    have e2 : sumN n (fun u => -(if C u then OutF m fr to (onR room) u else 0)) = - sumN n (fun u => if C u then OutF m fr to (onR room) u else 0) := by
      have := sumN_mul (c := -1) (f := fun u => if C u then OutF m fr to (onR room) u else 0) (k := n)
      simp only [Int.neg_mul, Int.one_mul] at this
      exact this
    rw [e2, if_pos cv] at this
    omega
  omega

theorem PvI.low (P : PvI n m fr to cap s t K room ht ex nxt Q cur) (hn : ∀ i, i < m → fr i < n ∧ to i < n) (hs : s < n) {v : Nat} (hv : v < n) (hvs : v ≠ s) (hev : 0 < ex v) : ht v + 1 ≤ 2 * n := by
  apply Classical.byContradiction
  intro hno
  have hbv := P.hb v hv
  obtain ⟨k, hk, hg⟩ := gap_ex (n := n) (ht := ht) n
  have h1 := hg s hs
  have h2 := hg v hv
  rw [P.hs] at h1
  have e1 := P.ex0 v hv hvs
  refine exc_closed P.rm hn (C := fun u => (n : Int) + k < ht u) (fun a ha hr hc => ?_) (fun u hu hc => ?_) hv (by show (n : Int) + k < ht v; omega) (by omega)
  · have := P.val a ha hr
    have := hg _ (hd_lt hn ha)
    show (n : Int) + k < ht (hdA fr to a)
    have : (n : Int) + k < ht (tlA fr to a) := hc
    omega
  · have hc : (n : Int) + k < ht u := hc
    have := P.ex0 u hu (by rintro rfl; rw [P.hs] at hc; omega)
    omega

/-- The sink cannot be reached when all is done. -/
theorem PvI.fin (P : PvI n m fr to cap s t K room ht ex nxt [] none) (hn : ∀ i, i < m → fr i < n ∧ to i < n) (hs : s < n) (ht' : t < n) : FlS n m fr to cap s t room ∧ ¬ Rch (ArS m fr to room) s t := by
  refine ⟨⟨P.rm, fun v hv h1 h2 => ?_⟩, fun r => ?_⟩
  · have e := P.ex0 v hv h1
    by_cases hp : 0 < ex v
    · rcases P.cov v hv h1 h2 hp with h | h
      · cases h
      · cases h
    · omega
  · obtain ⟨k, hk, hg⟩ := gap_ex (n := n) (ht := ht) 0
    have h1 := hg s hs
    have h2 := hg t ht'
    rw [P.hs] at h1
    rw [P.htt] at h2
    have : 0 + (k : Int) < ht t := r.closed (C := fun u => 0 + (k : Int) < ht u) (by rw [P.hs]; omega) (by
      rintro u w hu ⟨a, ha, rfl, rfl, hr⟩
      have := P.val a ha hr
      have := hg _ (hd_lt hn ha)
      show 0 + (k : Int) < ht (hdA fr to a)
      omega)
    rw [P.htt] at this
    omega

theorem PvI.skip (P : PvI n m fr to cap s t K room ht ex nxt Q cur) {v l : Nat} (hv : v < n) (hl : nxt v = l) (hla : l < (arcsL fr to m v).length)
    (hno : ¬ (0 < room (arcsL fr to m v)[l] ∧ ht v = ht (hdA fr to (arcsL fr to m v)[l]) + 1)) : PvI n m fr to cap s t K room ht ex (upd nxt v ((l + 1 : Nat) : Int)) Q cur := by
  refine ⟨P.rm, P.hs, P.htt, P.hb, P.val, P.ex0, P.exs, P.cov, P.mem, ?_, ?_⟩
  · intro u hu
    have := P.nb u hu
    unfold upd
    by_cases e : u = v
    · subst e; rw [if_pos rfl]; omega
    · rw [if_neg e]; exact this
  · intro u hu a ha
    by_cases e : u = v
    · subst e
      have e2 : upd nxt u ((l + 1 : Nat) : Int) u = ((l + 1 : Nat) : Int) := if_pos rfl
      rw [e2, Int.toNat_natCast, List.take_succ_eq_append_getElem hla] at ha
      rcases List.mem_append.1 ha with h | h
      · exact P.ca u hu a (by rw [hl, Int.toNat_natCast]; exact h)
      · rw [List.mem_singleton] at h
        rw [h]; exact hno
    · have e2 : upd nxt v ((l + 1 : Nat) : Int) u = nxt u := if_neg e
      rw [e2] at ha
      exact P.ca u hu a ha
end

end Go.Proofs.Ytdblngaacnpgmaa

namespace Go.Proofs.Ytdblngaacnpgmaa
open Go
set_option linter.unusedVariables false
set_option linter.unusedSimpArgs false

theorem giveX_at {ex : Nat → Int} {v w : Nat} {x : Int} (u : Nat) : giveX ex v w x u = ex u - (if v = u then x else 0) + (if w = u then x else 0) := by
  unfold giveX upd
  by_cases e1 : u = w
  · subst e1
    rw [if_pos rfl, if_pos rfl]
    by_cases e2 : u = v
    · subst e2; rw [if_pos rfl, if_pos rfl]
    · rw [if_neg e2, if_neg (fun h => e2 h.symm)]; omega
  · rw [if_neg e1, if_neg (c := w = u) (fun h => e1 h.symm)]
    by_cases e2 : u = v
    · subst e2; rw [if_pos rfl, if_pos rfl]; omega
    · rw [if_neg e2, if_neg (fun h => e2 h.symm)]; omega
theorem giveQ_le {s t w : Nat} {ex : Nat → Int} {Q : List Nat} : (giveQ s t ex Q w).length ≤ Q.length + 1 := by
  unfold giveQ; split <;> simp
/-- While all is sent from the source. -/
structure PiI (n m : Nat) (fr to : Nat → Nat) (cap : Nat → Int) (s t : Nat) (K : Int) (j : Nat) (room ex : Nat → Int) (Q : List Nat) : Prop where
  rm : RmP m cap room
  ex0 : ∀ u, u < n → u ≠ s → ex u = - OutF m fr to (onR room) u ∧ 0 ≤ ex u
  exs : ex s = K - OutF m fr to (onR room) s
  exs0 : 0 ≤ ex s
  kb : 0 ≤ K ∧ K ≤ j * 1048576
  cov : ∀ u, u < n → u ≠ s → u ≠ t → 0 < ex u → u ∈ Q
  mem : ∀ u, u ∈ Q → u < n ∧ u ≠ s ∧ u ≠ t
  ql : Q.length ≤ j
  zero : ∀ a ∈ (arcsL fr to m s).take j, hdA fr to a ≠ s → room a = 0

section
variable {n m s t : Nat} {fr to : Nat → Nat} {cap room ht ex nxt : Nat → Int} {Q : List Nat} {cur : Option Nat} {K : Int}
theorem PiI.next {j : Nat} (P : PiI n m fr to cap s t K j room ex Q) (hn : ∀ i, i < m → fr i < n ∧ to i < n) (hc : ∀ i, i < m → cap i ≤ 1048576) (hj : j < (arcsL fr to m s).length) {a : Nat} (ha : (arcsL fr to m s)[j] = a) :
    PiI n m fr to cap s t (K + room a) (j + 1) (sndR room a (room a)) (giveX (upd ex s (ex s + room a)) s (hdA fr to a) (room a)) (giveQ s t (upd ex s (ex s + room a)) Q (hdA fr to a)) := by
  have hm := mem_arcsL.1 (List.getElem_mem hj)
  rw [ha] at hm
  have hr0 := P.rm.pos a hm.1
  have hrp := P.rm.pr hm.1
  have hrq := P.rm.pos _ (prA_lt hm.1)
  have hca := hc (a / 2) (by omega)
  have hw := hd_lt hn hm.1
  have os := out_snd (fr := fr) (to := to) (room := room) (x := room a) hm.1
  rw [hm.2] at os
  have uo : ∀ u, u ≠ s → upd ex s (ex s + room a) u = ex u := fun u h => if_neg h
  have us : upd ex s (ex s + room a) s = ex s + room a := if_pos rfl
  refine ⟨P.rm.snd hm.1 hr0 (Int.le_refl _), ?_, ?_, ?_, ?_, ?_, ?_, ?_, ?_⟩
  · intro u hu hus
    have := P.ex0 u hu hus
    rw [os, giveX_at, uo u hus, if_neg (c := s = u) (fun h => hus h.symm)]
    split <;> omega
  · rw [os, giveX_at, us, if_pos rfl]
    have := P.exs
    split <;> omega
  · rw [giveX_at, us, if_pos rfl]
    have := P.exs0
    split <;> omega
  · have := P.kb
    omega
  · intro u hu h1 h2 h3
    rw [giveX_at, uo u h1, if_neg (c := s = u) (fun h => h1 h.symm)] at h3
    unfold giveQ
    by_cases e1 : hdA fr to a = u
    · subst e1
      by_cases e2 : ex (hdA fr to a) = 0
      · rw [if_pos ⟨by rw [uo _ h1]; exact e2, h1, h2⟩]; simp
      · rw [if_neg (fun h => e2 (by rw [← uo _ h1]; exact h.1))]
        have := P.ex0 _ hu h1
        exact P.cov _ hu h1 h2 (by omega)
    · rw [if_neg e1] at h3
      have := P.cov u hu h1 h2 (by omega)
      split
      · exact List.mem_append_left _ this
      · exact this
  · intro u hu
    unfold giveQ at hu
    split at hu
    · rename_i h
      rcases List.mem_append.1 hu with h2 | h2
      · exact P.mem u h2
      · rw [List.mem_singleton] at h2
        subst h2
        exact ⟨hw, h.2.1, h.2.2⟩
    · exact P.mem u hu
  · have := giveQ_le (s := s) (t := t) (w := hdA fr to a) (ex := upd ex s (ex s + room a)) (Q := Q)
    have := P.ql
    omega
  · intro b hb hbs
    have z : b ≠ a → room b = 0 := by
      intro hne
      rw [List.take_succ_eq_append_getElem hj] at hb
      rcases List.mem_append.1 hb with h | h
      · exact P.zero b h hbs
      · rw [List.mem_singleton] at h; exact absurd (h.trans ha) hne
    have hbm := mem_arcsL.1 (List.mem_of_mem_take hb)
    by_cases e1 : b = a
    · subst e1; rw [sndR_a]; omega
    · by_cases e2 : b = prA a
      · exfalso
        rw [e2, hd_pr, hm.2] at hbs
        exact hbs rfl
      · rw [sndR_o e1 e2]; exact z e1

theorem PiI.start {j : Nat} (P : PiI n m fr to cap s t K j room ex Q) (hj : j = (arcsL fr to m s).length) (hst : s ≠ t) (hn : ∀ i, i < m → fr i < n ∧ to i < n) (hs : s < n) :
    PvI n m fr to cap s t K room (upd (fun _ => 0) s n) ex (fun _ => 0) Q none := by
  have u1 : upd (fun _ => (0 : Int)) s n s = n := if_pos rfl
  have u2 : ∀ u, u ≠ s → upd (fun _ => (0 : Int)) s n u = 0 := fun u h => if_neg h
  subst hj
  refine ⟨P.rm, u1, u2 _ fun h => hst h.symm, ?_, ?_, P.ex0, P.exs, fun u hu h1 h2 h3 => .inl (P.cov u hu h1 h2 h3), P.mem, fun u hu => ⟨Int.le_refl _, by omega⟩, fun u hu a ha => by simp at ha⟩
  · intro u hu
    by_cases e : u = s
    · subst e; rw [u1]; omega
    · rw [u2 u e]; omega
  · intro a ha hr
    by_cases e : tlA fr to a = s
    · by_cases e2 : hdA fr to a = s
      · rw [e, e2]; omega
      · have := P.zero a (by rw [List.take_length]; exact mem_arcsL.2 ⟨ha, e⟩) e2
        omega
    · rw [u2 _ e]
      by_cases e2 : hdA fr to a = s
      · rw [e2, u1]; omega
      · rw [u2 _ e2]; omega

theorem rm_bd (R : RmP m cap room) (hc : ∀ i, i < m → cap i ≤ 1048576) : ∀ a, a < 2 * m → 0 ≤ room a ∧ room a ≤ 1048576 := by
  intro a ha
  have := R.pos a ha
  have := R.pos _ (prA_lt ha)
  have := R.pr ha
  have := hc (a / 2) (by omega)
  omega
end

end Go.Proofs.Ytdblngaacnpgmaa

namespace Go.Proofs.Ytdblngaacnpgmaa
open Go
set_option linter.unusedVariables false
set_option linter.unusedSimpArgs false

theorem Forest.of {own own' : Own} {h h' : H} {bf bn n : Nat} {par tv : Nat → Int} {M : List Nat} (P : Forest h bf bn n par tv) (F : Fm M own h own' h') (h1 : own bf ∉ M) (h2 : own bn ∉ M) : Forest h' bf bn n par tv := by
  obtain ⟨sm, fst, e, st, L, pd, fz, I⟩ := P
  obtain ⟨ne, ef, hd⟩ := fz.hd
  exact ⟨sm, fst, e, st, L, pd, ⟨⟨ne, ef, F.keep _ _ hd h1⟩, F.keep _ _ fz.at_ h2⟩, I⟩
theorem Forest.some_ {h : H} {bf bn n : Nat} {par tv : Nat → Int} (P : Forest h bf bn n par tv) : ∃ o, h bn = some o := by
  obtain ⟨sm, fst, e, st, L, pd, fz, I⟩ := P
  exact ⟨_, fz.at_⟩
theorem Forest.some2 {h : H} {bf bn n : Nat} {par tv : Nat → Int} (P : Forest h bf bn n par tv) : (∃ o, h bf = some o) ∧ bf ≠ bn := by
  obtain ⟨sm, fst, e, st, L, pd, fz, I⟩ := P
  exact ⟨⟨_, fz.hd.2.choose_spec⟩, fz.hd.1⟩

/-- trees in the heap: owners 5 (the struct), 6 (via), 7 (level), 8 (next), 9 and 11 (the forest). -/
structure Tr (own : Own) (h : H) (bt bn bf bg n m : Nat) (fr to : Nat → Nat) (s t : Nat) (room lev nxt via par tv : Nat → Int) : Prop where
  net : Net own h bn n m fr to s t room
  ex : ∃ vv vl vn, B1 own h 5 bt [.pointer (some (bk bn)), fo bf, vv, vl, vn] ∧ S1 own h 6 vv (ints n via) ∧ S1 own h 7 vl (ints n lev) ∧ S1 own h 8 vn (ints n nxt)
  fo_ : Forest h bf bg n par tv
  o9 : own bf = 9
  o11 : own bg = 11
/-- v hangs by its arc a. -/
structure Hg (n m : Nat) (fr to : Nat → Nat) (lev0 lev E nxt via par tv : Nat → Int) (v a : Nat) : Prop where
  via_ : via v = a
  am : a < 2 * m
  tl : tlA fr to a = v
  nx : ∃ l : Nat, nxt v = l ∧ (arcsL fr to m v)[l]? = some a
  par_ : par v = (hdA fr to a : Nat)
  tv_ : tv v = E a
  l1 : lev v = lev0 v
  l2 : lev (hdA fr to a) = lev0 (hdA fr to a)
  l3 : lev0 (hdA fr to a) = lev0 v + 1
  l4 : 0 ≤ lev0 v
/-- E: the rooms if all hung off. -/
structure TrI (n m : Nat) (fr to : Nat → Nat) (cap : Nat → Int) (s t : Nat) (lev0 lev E room nxt via par tv : Nat → Int) : Prop where
  rmE : RmP m cap E
  rmR : RmP m cap room
  lk : ∀ v, v < n → (via v = -1 ∧ par v = -1) ∨ ∃ a, Hg n m fr to lev0 lev E nxt via par tv v a
  eq : ∀ b, b < 2 * m → (∀ v, v < n → via v ≠ b ∧ via v ≠ prA b) → room b = E b
  nb : ∀ u, u < n → 0 ≤ nxt u ∧ nxt u ≤ (arcsL fr to m u).length
  al : ∀ w, w < n → lev w = lev0 w ∨ (lev w = -1 ∧ nxt w = (arcsL fr to m w).length ∧ w ≠ t ∧ w ≠ s)

theorem RmP.snd' {m : Nat} {cap room : Nat → Int} (R : RmP m cap room) {a : Nat} {x : Int} (ha : a < 2 * m) (h0 : 0 ≤ room (prA a) + x) (h1 : 0 ≤ room a - x) : RmP m cap (sndR room a x) := by
  have hp := prA_lt ha
  refine ⟨fun b hb => ?_, fun i hi => ?_⟩
  · by_cases e1 : b = a
    · subst e1; rw [sndR_a]; omega
    · by_cases e2 : b = prA a
      · subst e2; rw [sndR_p]; omega
      · rw [sndR_o e1 e2]; exact R.pos b hb
  · have e0 := R.sum i hi
    by_cases e1 : 2 * i = a
    · subst e1
      have e2 : prA (2 * i) = 2 * i + 1 := by unfold prA; rw [if_pos (by omega)]
      have p := sndR_p (room := room) (a := 2 * i) (x := x)
      rw [e2] at p
      rw [sndR_a, p]; omega
    · by_cases e2 : 2 * i + 1 = a
      · subst e2
        have e3 : prA (2 * i + 1) = 2 * i := by unfold prA; rw [if_neg (by omega)]; omega
        have p := sndR_p (room := room) (a := 2 * i + 1) (x := x)
        rw [e3] at p
        rw [sndR_a, p]; omega
      · have : 2 * i ≠ prA a ∧ 2 * i + 1 ≠ prA a := by unfold prA; split <;> omega
        rw [sndR_o e1 this.1, sndR_o e2 this.2]; exact e0

section
variable {n m s t : Nat} {fr to : Nat → Nat} {cap lev0 lev E room nxt via par tv : Nat → Int}
theorem TrI.hg (I : TrI n m fr to cap s t lev0 lev E room nxt via par tv) {v : Nat} (hv : v < n) (h : via v ≠ -1) : ∃ a, Hg n m fr to lev0 lev E nxt via par tv v a := by
  rcases I.lk v hv with h2 | h2
  · exact absurd h2.1 h
  · exact h2
/-- No two hang by the same edge. -/
theorem Hg.ne {v u a b : Nat} (g : Hg n m fr to lev0 lev E nxt via par tv v a) (k : Hg n m fr to lev0 lev E nxt via par tv u b) (h : v ≠ u) : b ≠ a ∧ b ≠ prA a := by
  constructor
  · rintro rfl; exact h (g.tl.symm.trans k.tl)
  · rintro rfl
    have h1 := k.l3
    have h2 := g.l3
    rw [hd_pr] at h1
    have h3 := k.tl
    rw [tl_pr] at h3
    rw [g.tl] at h1
    rw [h3] at h2
    omega
theorem TrI.drop (I : TrI n m fr to cap s t lev0 lev E room nxt via par tv) {v a : Nat} (hv : v < n) (g : Hg n m fr to lev0 lev E nxt via par tv v a) :
    TrI n m fr to cap s t lev0 lev E (sndR room a (room a - E a)) nxt (upd via v (-1)) (upd par v (-1)) (upd tv v 0) := by
  have p1 := I.rmE.pos a g.am
  have p2 := I.rmE.pos _ (prA_lt g.am)
  have q1 := I.rmE.pr g.am
  have q2 := I.rmR.pr g.am
  refine ⟨I.rmE, I.rmR.snd' g.am (by omega) (by omega), ?_, ?_, I.nb, I.al⟩
  · intro u hu
    by_cases e : u = v
    · subst e; exact .inl ⟨if_pos rfl, if_pos rfl⟩
    · have e1 : upd via v (-1) u = via u := if_neg e
      have e2 : upd par v (-1) u = par u := if_neg e
      have e3 : upd tv v 0 u = tv u := if_neg e
      rcases I.lk u hu with h | ⟨b, k⟩
      · exact .inl ⟨e1.trans h.1, e2.trans h.2⟩
      · exact .inr ⟨b, e1.trans k.via_, k.am, k.tl, k.nx, e2.trans k.par_, e3.trans k.tv_, k.l1, k.l2, k.l3, k.l4⟩
  · intro b hb hno
    by_cases e1 : b = a
    · subst e1; rw [sndR_a]; omega
    · by_cases e2 : b = prA a
      · subst e2; rw [sndR_p]; omega
      · rw [sndR_o e1 e2]
        refine I.eq b hb fun u hu => ?_
        by_cases e : u = v
        · subst e
          rw [g.via_]
          have : a ≠ prA b := by rintro rfl; exact e2 (prA_pr b).symm
          omega
        · have e3 : upd via v (-1) u = via u := if_neg e
          have := hno u hu
          rwa [e3] at this
end

section
variable {own : Own} {h : H} {bt bn bf bg n m s t : Nat} {fr to : Nat → Nat} {cap lev0 lev E room nxt via par tv : Nat → Int}
theorem Tr.fm {own' : Own} {h' : H} {M : List Nat} (P : Tr own h bt bn bf bg n m fr to s t room lev nxt via par tv) (F : Fm M own h own' h') (hM : ∀ i, i ∈ M → 11 < i ∧ i < 20) :
    Tr own' h' bt bn bf bg n m fr to s t room lev nxt via par tv := by
  have no : ∀ j, j ≤ 11 → j ∉ M := fun j hj hm => by have := hM j hm; omega
  obtain ⟨vv, vl, vn, k5, k6, k7, k8⟩ := P.ex
  obtain ⟨⟨o1, e1⟩, _⟩ := P.fo_.some2
  obtain ⟨o2, e2⟩ := P.fo_.some_
  exact ⟨P.net.fm F fun i hi => by have := hM i hi; omega, ⟨vv, vl, vn, k5.fm F (no _ (by omega)), k6.fm F (no _ (by omega)), k7.fm F (no _ (by omega)), k8.fm F (no _ (by omega))⟩,
    P.fo_.of F (by rw [P.o9]; exact no _ (by omega)) (by rw [P.o11]; exact no _ (by omega)), (F.stay _ _ e1).2.trans P.o9, (F.stay _ _ e2).2.trans P.o11⟩
/-- Behind a change of the forest alone. -/
theorem Tr.kp {h' : H} {par' tv' : Nat → Int} (P : Tr own h bt bn bf bg n m fr to s t room lev nxt via par tv) (k : Kp bg h h') (Q : Forest h' bf bg n par' tv') :
    Fm [11] own h own h' ∧ Tr own h' bt bn bf bg n m fr to s t room lev nxt via par' tv' := by
  have F : Fm [11] own h own h' := Fm.kp k P.o11 Q.some_
  obtain ⟨vv, vl, vn, k5, k6, k7, k8⟩ := P.ex
  exact ⟨F, P.net.fm F (by simp), ⟨vv, vl, vn, k5.fm F (by simp <;> omega), k6.fm F (by simp <;> omega), k7.fm F (by simp <;> omega), k8.fm F (by simp <;> omega)⟩, Q, P.o9, P.o11⟩

end

end Go.Proofs.Ytdblngaacnpgmaa

namespace Go.Proofs.Ytdblngaacnpgmaa
open Go
set_option linter.unusedVariables false
set_option linter.unusedSimpArgs false

theorem upd_self {f : Nat → Int} {i : Nat} : upd f i (f i) = f := by
  funext j; unfold upd
  split
  · rename_i h; rw [h]
  · rfl
theorem upd_upd {f : Nat → Int} {i : Nat} {x y : Int} : upd (upd f i x) i y = upd f i y := by
  funext j; unfold upd
  split <;> rfl
theorem upd_at {f : Nat → Int} {i : Nat} {x : Int} : upd f i x i = x := if_pos rfl
theorem upd_ne {f : Nat → Int} {i j : Nat} {x : Int} (h : j ≠ i) : upd f i x j = f j := if_neg h

end Go.Proofs.Ytdblngaacnpgmaa

namespace Go.Proofs.Ytdblngaacnpgmaa
open Go
set_option linter.unusedVariables false
set_option linter.unusedSimpArgs false

theorem UpW.pair {n : Nat} {par : Nat → Int} {d : Nat → Nat} (hd : ∀ v u : Nat, v < n → par v = u → d u < d v) {v : Nat} {l : List Nat} (a : UpW par v l) :
    (∀ x ∈ l, x < n) → l.Pairwise (fun a b => d b < d a) ∧ ∀ x ∈ l, d x ≤ d v := by
  induction a with
  | root h => intro hl; exact ⟨List.pairwise_singleton .., fun x hx => by rw [List.mem_singleton.1 hx]; exact Nat.le_refl _⟩
  | @step v u l h a ih =>
    intro hl
    obtain ⟨h1, h2⟩ := ih (fun x hx => hl x (List.mem_cons_of_mem _ hx))
    have := hd v u (hl v (by simp)) h
    refine ⟨List.Pairwise.cons (fun x hx => ?_) h1, fun x hx => ?_⟩
    · have := h2 x hx; omega
    · rcases List.mem_cons.1 hx with rfl | hx
      · exact Nat.le_refl _
      · have := h2 x hx; omega
theorem UpW.lt {n : Nat} {par tv : Nat → Int} (F : Fst n par tv) {v : Nat} {l : List Nat} (hv : v < n) (a : UpW par v l) : ∀ x ∈ l, x < n := by
  obtain ⟨l', h1, h2⟩ := UpW.exists F v hv
  rw [a.uniq h1]; exact h2
theorem UpW.nodup {n : Nat} {par tv : Nat → Int} (F : Fst n par tv) {v : Nat} {l : List Nat} (hv : v < n) (a : UpW par v l) : l.Nodup := by
  obtain ⟨d, hd⟩ := F.acy
  refine (a.pair hd (a.lt F hv)).1.imp ?_
  intro a b h e
  subst e
  omega
end Go.Proofs.Ytdblngaacnpgmaa

namespace Go.Proofs.Ytdblngaacnpgmaa
open Go
set_option linter.unusedVariables false
set_option linter.unusedSimpArgs false

/-- A flow as Go holds it. -/
abbrev flV (s t : Int) (on side : Value) : List Value := [.int .i64 s, .int .i64 t, on, side]
abbrev flZ : List Value := flV 0 0 (.slice none 0 0) (.slice none 0 0)
abbrev slV (b n : Nat) : Value := .slice (some (bk b)) n n
/-- What Solve answers where nothing is wrong. -/
structure SolR (h h' : H) (n m : Nat) (es : Nat → Ed) (s t : Nat) (b1 b2 : Nat) (f : Nat → Int) (side : Nat → Bool) : Prop where
  n1 : h b1 = none
  n2 : h b2 = none
  ne : b1 ≠ b2
  s1 : Sl h' b1 (slV b1 m) (ints m f)
  s2 : Sl h' b2 (slV b2 n) (bools n side)
  mx : MaxP n m (frE es) (toE es) (cpE es) s t f
  sd : ∀ v, v < n → (side v = true ↔ Rch (RsS m (frE es) (toE es) (cpE es) f) s v)
def SolA (h : H) (n : Int) (m : Nat) (es : Nat → Ed) (s t k : Int) (r : Res) (h' : H) : Prop :=
  Ext h h' ∧ ((wrong13 n m es s t k ≠ 0 ∧ r = .ret (.tuple ⟨[.agg ⟨flZ⟩, .int .i64 0, .int .i64 (wrong13 n m es s t k)]⟩)) ∨
    (wrong13 n m es s t k = 0 ∧ ∃ (n' s' t' b1 b2 : Nat) (f : Nat → Int) (side : Nat → Bool), n = n' ∧ s = s' ∧ t = t' ∧ s' < n' ∧ t' < n' ∧ s' ≠ t' ∧ Gd n' m es ∧
      r = .ret (.tuple ⟨[.agg ⟨flV s t (slV b1 m) (slV b2 n')⟩, .int .i64 (OutF m (frE es) (toE es) f s'), .int .i64 0]⟩) ∧ SolR h h' n' m es s' t' b1 b2 f side))

end Go.Proofs.Ytdblngaacnpgmaa

namespace Go.Proofs.Ytdblngaacnpgmaa
open Go
set_option linter.unusedVariables false
set_option linter.unusedSimpArgs false

/-- The slice v shows vs. -/
def RS (h : H) (v : Value) (vs : List Value) : Prop := ∃ a c, v = .slice a vs.length c ∧ ∀ j x, vs[j]? = some x → ∃ ad, a = some ad ∧ hcell h (ad.add (j * 1)) = some x
section
variable {h h' : H} {v : Value} {vs : List Value}
theorem RS.ext (s : RS h v vs) (x : Ext h h') : RS h' v vs := by
  obtain ⟨a, c, e, k⟩ := s
  refine ⟨a, c, e, fun j y hj => ?_⟩
  obtain ⟨ad, e2, hc⟩ := k j y hj
  exact ⟨ad, e2, x.cell hc⟩
theorem RS.of_sl {b : Nat} (s : Sl h b v vs) : RS h v vs := by
  have g := fun j x (hj : vs[j]? = some x) => s.get hj
  obtain ⟨c, e, zs, h1, h2, h3⟩ := s
  exact ⟨_, c, h1, fun j x hj => ⟨_, rfl, g j x hj⟩⟩
theorem RS.of_S1 {own : Own} {i : Nat} (s : S1 own h i v vs) : RS h v vs := by
  rcases s with ⟨rfl, rfl⟩ | ⟨b, hb, s⟩
  · exact ⟨none, 0, rfl, fun j x hj => by simp at hj⟩
  · exact RS.of_sl s
theorem RS.len {l : Nat} {K : Option Addr → Nat → Nat → Prop} (s : RS h v vs) (hl : vs.length = l) (k : ∀ a c, K a l c) : slcP v K := by
  obtain ⟨a, c, rfl, _⟩ := s
  rw [hl]; exact k _ _
theorem RS.isS (s : RS h v vs) : ∃ a l c, v = .slice a l c := let ⟨a, c, e, _⟩ := s; ⟨a, _, c, e⟩
theorem RS.one (s : RS h v vs) : v.oneCell' = true := slc_one s.isS
theorem RS.at {j : Nat} {x : Value} {K : Addr → Prop} (s : RS h v vs) (hj : vs[j]? = some x) (k : ∀ a : Addr, hcell h a = some x → K a) : ixS v (j : Int) 1 K := by
  obtain ⟨a, c, rfl, g⟩ := s
  obtain ⟨ad, rfl, hc⟩ := g j x hj
  have hl := (List.getElem?_eq_some_iff.1 hj).1
  refine ⟨by omega, by omega, ?_⟩
  rw [Int.toNat_natCast]
  exact k _ hc
theorem RS.rd {j : Nat} {x : Int} {K : Int → Prop} (s : RS h v vs) (hj : vs[j]? = some (.int .i64 x)) (k : K x) : ixS v (j : Int) 1 fun a => ldI h a .i64 K := s.at hj fun a e => ⟨x, e, k⟩
theorem RS.rdI {j n : Nat} {f : Nat → Int} {K : Int → Prop} (s : RS h v (ints n f)) (hj : j < n) (k : K (f j)) : ixS v (j : Int) 1 fun a => ldI h a .i64 K := s.rd (ints_get hj) k
theorem RS.rdB {j n : Nat} {f : Nat → Bool} {K : Bool → Prop} (s : RS h v (bools n f)) (hj : j < n) (k : K (f j)) : ixS v (j : Int) 1 fun a => ldB h a K := s.at (va_get hj) fun a e => ⟨_, e, k⟩
theorem RS.src (s : RS h v vs) : ∃ a c, v = .slice a vs.length c ∧ srcP h a (vs.length * 1) vs := by
  obtain ⟨a, c, rfl, g⟩ := s
  refine ⟨a, c, rfl, by rw [Nat.mul_one], ?_⟩
  cases a with
  | none =>
    cases vs with
    | nil => rfl
    | cons x xs =>
      obtain ⟨ad, e, _⟩ := g 0 x rfl
      cases e
  | some ad =>
    intro j x hj
    obtain ⟨ad', e, hc⟩ := g j x hj
    cases e
    rwa [Nat.mul_one] at hc
end

/-- The edges in a slice. -/
def Gs (h : H) (v : Value) (m : Nat) (es : Nat → Ed) : Prop := ∃ a c, v = .slice a m c ∧ ∀ i, i < m → ∃ ad, a = some ad ∧ hcells h (ad.add (i * 4)) (es i).vs
section
variable {h h' : H} {v : Value} {w : List Value} {n : Int} {m : Nat} {es : Nat → Ed}
theorem GrA.gs (G : GrA h w n m es) : ∃ v, w = [.int .i64 n, v] ∧ Gs h v m es := by
  obtain ⟨a, c, e, k⟩ := G
  exact ⟨_, e, a, c, rfl, k⟩
theorem Gs.gr (s : Gs h v m es) (n : Int) : GrA h [.int .i64 n, v] n m es := by
  obtain ⟨a, c, rfl, k⟩ := s
  exact ⟨a, c, rfl, k⟩
theorem Gs.ext (s : Gs h v m es) (x : Ext h h') : Gs h' v m es := by
  obtain ⟨a, c, e, k⟩ := s
  refine ⟨a, c, e, fun i hi => ?_⟩
  obtain ⟨ad, e2, hc⟩ := k i hi
  exact ⟨ad, e2, fun j v hj => x.cell (hc j v hj)⟩
theorem Gs.len {K : Option Addr → Nat → Nat → Prop} (s : Gs h v m es) (k : ∀ a c, K a m c) : slcP v K := by
  obtain ⟨a, c, rfl, _⟩ := s
  exact k _ _
theorem Gs.isS (s : Gs h v m es) : ∃ a l c, v = .slice a l c := let ⟨a, c, e, _⟩ := s; ⟨a, _, c, e⟩
theorem Gs.at {i : Nat} {K : Addr → Prop} (s : Gs h v m es) (hi : i < m) (k : ∀ a : Addr, hcells h a (es i).vs → K a) : ixS v (i : Int) 4 K := by
  obtain ⟨a, c, rfl, g⟩ := s
  obtain ⟨ad, rfl, hc⟩ := g i hi
  refine ⟨by omega, by omega, ?_⟩
  rw [Int.toNat_natCast]
  exact k _ hc
theorem Gs.e4 {i : Nat} {K : List Value → Prop} (s : Gs h v m es) (hi : i < m) (k : K (es i).vs) : ixS v (i : Int) 4 fun a => ldN h a 4 K := s.at hi fun a hc => ⟨_, rfl, hc, k⟩
theorem Gs.f {i : Nat} {K : Int → Prop} (s : Gs h v m es) (hi : i < m) (k : K (es i).f) : ixS v (i : Int) 4 fun a => ldI h (a.add 0) .i64 K := s.at hi fun a hc => ⟨_, hc 0 _ rfl, k⟩
theorem Gs.t {i : Nat} {K : Int → Prop} (s : Gs h v m es) (hi : i < m) (k : K (es i).t) : ixS v (i : Int) 4 fun a => ldI h (a.add 1) .i64 K := s.at hi fun a hc => ⟨_, hc 1 _ rfl, k⟩
theorem Gs.c {i : Nat} {K : Int → Prop} (s : Gs h v m es) (hi : i < m) (k : K (es i).c) : ixS v (i : Int) 4 fun a => ldI h (a.add 2) .i64 K := s.at hi fun a hc => ⟨_, hc 2 _ rfl, k⟩
theorem Gs.k {i : Nat} {K : Int → Prop} (s : Gs h v m es) (hi : i < m) (k : K (es i).k) : ixS v (i : Int) 4 fun a => ldI h (a.add 3) .i64 K := s.at hi fun a hc => ⟨_, hc 3 _ rfl, k⟩
end

def edF (es : Nat → Ed) (i j : Nat) : Int := match j with
  | 0 => (es i).f
  | 1 => (es i).t
  | 2 => (es i).c
  | _ => (es i).k
theorem edF_vs (es : Nat → Ed) (i : Nat) : ints 4 (edF es i) = (es i).vs := rfl
theorem ints_add {a b : Nat} {f : Nat → Int} : ints (a + b) f = ints a f ++ ints b fun i => f (a + i) := by
  unfold ints
  rw [List.range_add, List.map_append, List.map_map]
  rfl
theorem recs_snoc {m k : Nat} {st : Nat → Nat → Int} : recs (m + 1) k st = recs m k st ++ ints k (st m) := by
  unfold recs
  rw [Nat.add_mul, Nat.one_mul, ints_add]
  congr 1
  refine ints_ext fun i hi => ?_
  rw [at_div hi, at_mod hi]
theorem recs_ext {m k : Nat} {st st' : Nat → Nat → Int} (h : ∀ i, i < m → ∀ j, st i j = st' i j) : recs m k st = recs m k st' := by
  unfold recs
  refine ints_ext fun i hi => ?_
  rcases Nat.eq_zero_or_pos k with e | e
  · subst e; omega
  · exact h _ (Nat.div_lt_of_lt_mul (by rw [Nat.mul_comm]; exact hi)) _
/-- The slice v holds the first m edges of es; its block is the i-th owner's. -/
def S4 (own : Own) (h : H) (i : Nat) (v : Value) (m : Nat) (es : Nat → Ed) : Prop :=
  (m = 0 ∧ v = .slice none 0 0) ∨ ∃ b c e zs, own b = i ∧ v = .slice (some (bk b)) m c ∧ h b = some (.cells ⟨recs m 4 (edF es) ++ zs⟩ e (0, 0)) ∧ m * 4 + zs.length = c * 4
section
variable {own own' : Own} {h h' : H} {i m : Nat} {v : Value} {es : Nat → Ed}
theorem S4.nil : S4 own h i (.slice none 0 0) 0 es := .inl ⟨rfl, rfl⟩
theorem S4.fm {M : List Nat} (s : S4 own h i v m es) (F : Fm M own h own' h') (hM : i ∉ M) : S4 own' h' i v m es := by
  rcases s with s | ⟨b, c, e, zs, hb, h1, h2, h3⟩
  · exact .inl s
  · exact .inr ⟨b, c, e, zs, (F.stay b _ h2).2.trans hb, h1, F.keep b _ h2 (by rw [hb]; exact hM), h3⟩
theorem S4.nw {b j : Nat} (s : S4 own h i v m es) (x : Ext h h') (hb : h b = none) : S4 (own1 own b j) h' i v m es := s.fm (M := []) (Fm.new x hb) (by simp)
theorem S4.isS (s : S4 own h i v m es) : ∃ a l c, v = .slice a l c := by
  rcases s with ⟨_, rfl⟩ | ⟨b, c, e, zs, hb, rfl, _⟩ <;> exact ⟨_, _, _, rfl⟩
theorem S4.congr {es' : Nat → Ed} (s : S4 own h i v m es) (he : ∀ j, j < m → es' j = es j) : S4 own h i v m es' := by
  rcases s with s | ⟨b, c, e, zs, hb, h1, h2, h3⟩
  · exact .inl s
  · refine .inr ⟨b, c, e, zs, hb, h1, ?_, h3⟩
    rw [recs_ext (st := edF es') (st' := edF es) fun j hj k => by unfold edF; rw [he j hj]]
    exact h2
theorem S4.gs (s : S4 own h i v m es) : Gs h v m es := by
  rcases s with ⟨rfl, rfl⟩ | ⟨b, c, e, zs, hb, rfl, h2, h3⟩
  · exact ⟨none, 0, rfl, fun i hi => by omega⟩
  · refine ⟨_, c, rfl, fun j hj => ⟨_, rfl, fun l x hl => ?_⟩⟩
    have hl4 : l < 4 := by have := (List.getElem?_eq_some_iff.1 hl).1; simpa using this
    rw [bk_add, bk_add2, hcell_at h2, List.getElem?_toArray, List.getElem?_append_left (by rw [recs_length]; exact at_lt hj hl4), recs_get hj hl4]
    rw [← edF_vs, ints_get hl4] at hl
    exact hl
theorem nextcap1_le {sc : Nat} : Builtin.nextslicecap (sc + 1) sc ≤ sc + sc / 4 + 600 := by
  unfold Builtin.nextslicecap
  split
  · omega
  · split
    · omega
    · simp only [Builtin.growBy]
      repeat' split
      all_goals omega
theorem S4.push {ed : Ed} {ex : Nat} {K : Nat → H → Value → H → Prop} {e : Nat} {z0 z1 z2 z3 : Value} (s : S4 own h i v m es) (hm : m ≤ 4398046511104)
    (k : ∀ bx hm p' own' h', h bx = none → Ext h hm → Fm [i] own h own' h' → S4 own' h' i p' (m + 1) (fun j => if j = m then ed else es j) → K bx hm p' h') :
    newP h (.cells ⟨ed.vs⟩ ex (0, 0)) fun bx hm => apP v (.slice (some (bk bx)) 1 1) hm 4 e 32 [z0, z1, z2, z3] (K bx hm) := by
  refine new_put ?_
  intro bx hm' hbx xm hx
  have hsrc : srcP hm' (some (bk bx)) (1 * 4) ed.vs := by
    refine ⟨rfl, fun j v hj => ?_⟩
    rw [bk_add, hcell_at hx, List.getElem?_toArray]
    exact hj
  have hzl : ∀ q, (zrep [z0, z1, z2, z3] q).length = q * 4 := by
    intro q
    unfold zrep
    rw [List.length_flatten]
    simp
  have hvs : recs (m + 1) 4 (edF fun j => if j = m then ed else es j) = recs m 4 (edF es) ++ ed.vs := by
    rw [recs_snoc]
    congr 1
    · refine recs_ext fun j hj l => ?_
      have e : (fun j => if j = m then ed else es j) j = es j := if_neg (by omega)
      unfold edF; rw [e]
    · rw [edF_vs, if_pos rfl]
  rcases s with ⟨rfl, rfl⟩ | ⟨b, c, eb, zs, hob, rfl, h2, h3⟩
  · refine ⟨ed.vs, hsrc, fun hle => by omega, fun hlt => ⟨?_, [], ⟨rfl, rfl⟩, fun cap hcap => ?_⟩⟩
    · have := nextcap_le hlt
      calc _ ≤ (2 * (0 + 1) + 192) * 32 := Nat.mul_le_mul_right _ this
        _ ≤ _ := by omega
    · refine new_put ?_
      intro b g hbn x1 e1
      rw [Nat.zero_add] at e1 hcap ⊢
      refine k bx hm' _ (own1 own b i) g hbx xm (Fm.new (xm.trans' x1) (xm.new hbn)) (.inr ⟨b, cap, e, zrep [z0, z1, z2, z3] (cap - 1), own1_at, rfl, by rw [e1, hvs]; rfl, ?_⟩)
      rw [hzl]; omega
  · have h2m := xm _ _ h2
    have hlen : (recs m 4 (edF es)).length = m * 4 := recs_length _ _ _
    refine ⟨ed.vs, hsrc, fun hle => ⟨fun _ => ?_, ed_one ed, ?_⟩, fun hlt => ⟨?_, recs m 4 (edF es), ⟨hlen, ?_⟩, fun cap hcap => ?_⟩⟩
    · rw [bk_add]
      refine ⟨_, _, h2m, rfl, ?_⟩
      simp only [List.size_toArray, List.length_append, hlen, List.length_cons, List.length_nil]
      omega
    · rw [bk_add]
      have e2 : hset hm' ⟨b, m * 4, none⟩ ed.vs b = some (.cells ⟨recs (m + 1) 4 (edF fun j => if j = m then ed else es j) ++ zs.drop 4⟩ eb (0, 0)) := by
        unfold hset
        rw [if_pos rfl, h2m]
        simp only [Option.map_some]
        rw [setR_list _ _ _ (by simp only [List.length_append, hlen, List.length_cons, List.length_nil]; omega), hvs]
        congr 3
        rw [List.take_append_of_le_length (by omega), List.take_of_length_le (by omega), List.drop_append, List.drop_of_length_le (by simp only [List.length_cons, List.length_nil]; omega)]
        simp [hlen]
      refine k bx hm' _ own _ hbx xm ((Fm.of_ext xm).trans (Fm.kp (b := b) ?_ hob ⟨_, e2⟩)) (.inr ⟨b, c, eb, zs.drop 4, hob, rfl, e2, by rw [List.length_drop]; omega⟩)
      intro j o hj hh
      unfold hset
      rw [if_neg hj]; exact hh
    · have hcm : c = m := by omega
      subst hcm
      calc _ ≤ (c + c / 4 + 600) * 32 := Nat.mul_le_mul_right _ nextcap1_le
        _ ≤ _ := by omega
    · intro j x hj
      rw [bk_add, hcell_at h2m, List.getElem?_toArray]
      have := (List.getElem?_eq_some_iff.1 hj).1
      rw [List.getElem?_append_left this]
      exact hj
    · refine new_put ?_
      intro b' g hbn x1 e1
      refine k bx hm' _ (own1 own b' i) g hbx xm (Fm.new (xm.trans' x1) (xm.new hbn)) (.inr ⟨b', cap, e, zrep [z0, z1, z2, z3] (cap - (m + 1)), own1_at, rfl, by rw [e1, hvs], ?_⟩)
      rw [hzl]; omega
end

end Go.Proofs.Ytdblngaacnpgmaa

namespace Go.Proofs.Ytdblngaacnpgmaa
open Go
set_option linter.unusedVariables false
set_option linter.unusedSimpArgs false

/-- A graph whose ends are nodes; somewhat larger than Check allows. -/
structure Gw (n m : Nat) (es : Nat → Ed) : Prop where
  n1 : n ≤ 2048
  m1 : m ≤ 16384
  fr : ∀ i, i < m → (es i).f = (frE es i : Nat) ∧ frE es i < n
  to : ∀ i, i < m → (es i).t = (toE es i : Nat) ∧ toE es i < n
  c : ∀ i, i < m → 0 ≤ (es i).c ∧ (es i).c ≤ 1048576
  k : ∀ i, i < m → -1048576 ≤ (es i).k ∧ (es i).k ≤ 1048576
theorem Gd.w {n m : Nat} {es : Nat → Ed} (g : Gd n m es) : Gw n m es :=
  ⟨by have := g.n1; omega, by have := g.m1; omega, fun i hi => g.fr hi, fun i hi => g.to hi, g.c, g.k⟩
theorem Gw.ends {n m : Nat} {es : Nat → Ed} (g : Gw n m es) : ∀ i, i < m → frE es i < n ∧ toE es i < n := fun i hi => ⟨(g.fr i hi).2, (g.to i hi).2⟩
theorem OutF_bd {fr to : Nat → Nat} {f : Nat → Int} {v : Nat} {B : Int} : ∀ {j : Nat}, (∀ i, i < j → -B ≤ f i ∧ f i ≤ B) → 0 ≤ B → -(2 * B * j) ≤ OutF j fr to f v ∧ OutF j fr to f v ≤ 2 * B * j
  | 0, _, hB => by
    have : OutF 0 fr to f v = 0 := rfl
    rw [this]; simp
  | j + 1, h, hB => by
    have ih := OutF_bd (fr := fr) (to := to) (f := f) (v := v) (j := j) (fun i hi => h i (by omega)) hB
    have e : OutF (j + 1) fr to f v = OutF j fr to f v + ((if fr j = v then f j else 0) - (if to j = v then f j else 0)) := rfl
    have hj := h j (by omega)
    have e2 : 2 * B * ((j + 1 : Nat) : Int) = 2 * B * j + 2 * B := by rw [Int.natCast_add, Int.mul_add]; simp
    rw [e, e2]
    generalize 2 * B * (j : Int) = P at *
    constructor <;> (split <;> split <;> omega)

section
variable {h : H} {w : List Value} {n m : Nat} {es : Nat → Ed} {on : Value} {f : Nat → Int}

theorem Out_R (G : GrA h w n m es) (g : Gw n m es) (S : RS h on (ints m f)) (hb : ∀ i, i < m → -1099511627776 ≤ f i ∧ f i ≤ 1099511627776) (v : Nat) :
    T Try.prog F.compassref11_Out [.agg ⟨w⟩, on, .int .i64 v] h fun r h' => r = .ret (.int .i64 (OutF m (frE es) (toE es) f v)) ∧ Ext h h' := by
  refine E_compassref11_Out ?_
  unfold B_compassref11_Out
  refine new_bl ?_
  intro b1 q hb1 x B
  obtain ⟨gv, rfl, Gv⟩ := G.gs
  have m1 := g.m1
  have S := S.ext x
  have Gv := Gv.ext x
  let I : (Int × Int × Unit) → H → Nat → Prop := fun p q2 k => ∃ j : Nat, p.2.1 = j ∧ j ≤ m ∧ k = m - j ∧ p.1 = OutF j (frE es) (toE es) f v ∧ q2 = q
  refine ⟨fun p q => ∃ k, I p q k, rk I, rk_wf I, ⟨_, 0, rfl, by omega, rfl, rfl, rfl⟩, ?_⟩
  intro o p q2 hI
  obtain ⟨j, e1, hj, hk, ho, e2⟩ := mu_spec hI
  generalize hkk : mu I ((o, p, ()), q2) = km at *
  change p = (j : Int) at e1
  change o = OutF j (frE es) (toE es) f v at ho
  change q2 = q at e2
  subst e1 ho e2
  have hlt : j < m → m - (j + 1) < mu I ((OutF j (frE es) (toE es) f v, (j : Int), ()), q2) := fun h => by rw [hkk, hk]; omega
  clear hI
  refine S.len (ints_length _ _) fun _ _ => ?_
  refine ifP_of (fun h1 => ?_) (fun h1 => ?_)
  rotate_left
  · have : j = m := by have := of_decide_eq_false h1; omega
    subst this
    exact ⟨rfl, x⟩
  have hjm : j < m := by have := of_decide_eq_true h1; omega
  have bj := OutF_bd (fr := frE es) (to := toE es) (f := f) (v := v) (j := j) (B := 1099511627776) (fun i hi => hb i (by omega)) (by omega)
  have hbj := hb j hjm
  have ef := g.fr j hjm
  have et := g.to j hjm
  have eS : OutF (j + 1) (frE es) (toE es) f v = OutF j (frE es) (toE es) f v + ((if frE es j = v then f j else 0) - (if toE es j = v then f j else 0)) := rfl
  refine ⟨fun p q => p.1 = OutF j (frE es) (toE es) f v + (if frE es j = v then f j else 0) ∧ q2 = q, ?_, ?_⟩
  · refine ⟨_, B.ld rfl, Gv.f hjm ?_⟩
    rw [ef.1]
    refine ifP_of (fun h2 => ?_) (fun h2 => ?_)
    · have h2 : frE es j = v := by have := of_decide_eq_true h2; omega
      refine S.rdI hjm ⟨?_, rfl⟩
      rw [if_pos h2]
      exact w64_in (by omega) (by omega)
    · have h2 : ¬ frE es j = v := by have := of_decide_eq_false h2; omega
      refine ⟨?_, rfl⟩
      rw [if_neg h2]; show _ = _ + (0 : Int); omega
  · rintro o2 _ ⟨ho2, rfl⟩
    change o2 = _ at ho2
    subst ho2
    refine ⟨_, B.ld rfl, Gv.t hjm ?_⟩
    rw [et.1, i64_inc (by omega)]
    refine ifP_of (fun h2 => ?_) (fun h2 => ?_)
    · have h2 : toE es j = v := by have := of_decide_eq_true h2; omega
      refine S.rdI hjm ?_
      rw [if_pos h2] at eS
      have ew : IntKind.i64.wrap (OutF j (frE es) (toE es) f v + (if frE es j = v then f j else 0) - f j) = OutF (j + 1) (frE es) (toE es) f v := by
        rw [eS]
        have : IntKind.i64.wrap (OutF j (frE es) (toE es) f v + (if frE es j = v then f j else 0) - f j) = OutF j (frE es) (toE es) f v + (if frE es j = v then f j else 0) - f j := w64_in (by split <;> omega) (by split <;> omega)
        rw [this]; omega
      rw [ew]
      exact mu_next (I := I) (k := m - (j + 1)) ⟨j + 1, rfl, hjm, rfl, rfl, rfl⟩ (hlt hjm)
    · have h2 : ¬ toE es j = v := by have := of_decide_eq_false h2; omega
      rw [if_neg h2] at eS
      have ew : OutF j (frE es) (toE es) f v + (if frE es j = v then f j else 0) = OutF (j + 1) (frE es) (toE es) f v := by rw [eS]; omega
      rw [ew]
      exact mu_next (I := I) (k := m - (j + 1)) ⟨j + 1, rfl, hjm, rfl, rfl, rfl⟩ (hlt hjm)

end

end Go.Proofs.Ytdblngaacnpgmaa

namespace Go.Proofs.Ytdblngaacnpgmaa
open Go
set_option linter.unusedVariables false
set_option linter.unusedSimpArgs false

/-- append(p, q...): q is only read. -/
theorem S1.catR {own : Own} {h : H} {i : Nat} {p q z : Value} {vs ws : List Value} {K : Value → H → Prop} {e bytes : Nat} (s : S1 own h i p vs) (s2 : RS h q ws)
    (one : ∀ v ∈ ws, v.oneCell' = true) (hb : bytes ≤ 8) (hl : vs.length + ws.length < 1000000)
    (k : ∀ p' own' h', Fm [i] own h own' h' → S1 own' h' i p' (vs ++ ws) → K p' h') :
    apP p q h 1 e bytes [z] K := by
  have hzl : ∀ m, (zrep [z] m).length = m := by intro m; simp [zrep]
  obtain ⟨qa, qc, rfl, hsrc⟩ := s2.src
  rcases s with ⟨rfl, rfl⟩ | ⟨b, hob, c, eb, zs, rfl, h2, h3⟩
  · refine ⟨ws, hsrc, fun hle => ?_, fun hlt => ⟨?_, [], ⟨rfl, rfl⟩, fun cap hcap => ?_⟩⟩
    · have : ws = [] := List.length_eq_zero_iff.1 (by omega)
      subst this
      exact ⟨rfl, k _ own h Fm.refl (.inl ⟨rfl, rfl⟩)⟩
    · have := nextcap_le hlt
      calc _ ≤ (2 * (0 + ws.length) + 192) * bytes := Nat.mul_le_mul_right _ this
        _ ≤ (2 * (0 + ws.length) + 192) * 8 := Nat.mul_le_mul_left _ hb
        _ ≤ _ := by simp at hl; omega
    · refine new_put ?_
      intro b g hbn x e1
      rw [Nat.zero_add] at e1 hcap ⊢
      refine k _ (own1 own b i) g (Fm.new x hbn) (.inr ⟨b, own1_at, cap, e, zrep [z] (cap - ws.length), rfl, by rw [e1], ?_⟩)
      rw [hzl]; simp; omega
  · refine ⟨ws, hsrc, fun hle => ⟨fun _ => ?_, one, ?_⟩, fun hlt => ⟨?_, vs, ⟨by rw [Nat.mul_one], ?_⟩, fun cap hcap => ?_⟩⟩
    · rw [bk_add]
      refine ⟨_, _, h2, rfl, ?_⟩
      simp only [List.size_toArray, List.length_append]
      omega
    · rw [bk_add]
      have e2 : hset h ⟨b, vs.length * 1, none⟩ ws b = some (.cells ⟨vs ++ ws ++ zs.drop ws.length⟩ eb (0, 0)) := by
        unfold hset
        rw [if_pos rfl, h2]
        simp only [Option.map_some, Nat.mul_one]
        rw [setR_list _ _ _ (by simp; omega)]
        simp [List.take_append, List.drop_append]
      refine k _ own _ (Fm.kp (b := b) ?_ hob ⟨_, e2⟩) (.inr ⟨b, hob, c, eb, zs.drop ws.length, by simp, e2, by simp; omega⟩)
      intro j o hj hh
      unfold hset
      rw [if_neg hj]; exact hh
    · have := nextcap_le hlt
      calc _ ≤ (2 * (vs.length + ws.length) + 192) * bytes := Nat.mul_le_mul_right _ this
        _ ≤ (2 * (vs.length + ws.length) + 192) * 8 := Nat.mul_le_mul_left _ hb
        _ ≤ _ := by omega
    · intro j v hj
      rw [bk_add, hcell_at h2, List.getElem?_toArray]
      have := (List.getElem?_eq_some_iff.1 hj).1
      rw [List.getElem?_append_left this]
      exact hj
    · refine new_put ?_
      intro b' g hbn x e1
      refine k _ (own1 own b' i) g (Fm.new x hbn) (.inr ⟨b', own1_at, cap, e, zrep [z] (cap - (vs.length + ws.length)), by simp, by rw [e1], ?_⟩)
      rw [hzl]; simp; omega

/-- What can still be changed. -/
def resEd (es : Nat → Ed) (f : Nat → Int) (a : Nat) : Ed :=
  if a % 2 = 0 then ⟨(es (a / 2)).f, (es (a / 2)).t, (es (a / 2)).c - f (a / 2), (es (a / 2)).k⟩ else ⟨(es (a / 2)).t, (es (a / 2)).f, f (a / 2), -(es (a / 2)).k⟩
def resR (cap f : Nat → Int) (a : Nat) : Int := if a % 2 = 0 then cap (a / 2) - f (a / 2) else f (a / 2)
theorem resEd_c (es : Nat → Ed) (f : Nat → Int) (a : Nat) : (resEd es f a).c = resR (cpE es) f a := by
  unfold resEd resR; split <;> rfl
theorem resEd_fr (es : Nat → Ed) (f : Nat → Int) (a : Nat) : frE (resEd es f) a = tlA (frE es) (toE es) a := by
  unfold frE resEd tlA; split <;> rfl
theorem resEd_to (es : Nat → Ed) (f : Nat → Int) (a : Nat) : toE (resEd es f) a = hdA (frE es) (toE es) a := by
  unfold toE resEd hdA; split <;> rfl
theorem resEd_even (es : Nat → Ed) (f : Nat → Int) (i : Nat) : resEd es f (2 * i) = ⟨(es i).f, (es i).t, (es i).c - f i, (es i).k⟩ := by
  unfold resEd; rw [if_pos (by omega), show 2 * i / 2 = i by omega]
theorem resEd_odd (es : Nat → Ed) (f : Nat → Int) (i : Nat) : resEd es f (2 * i + 1) = ⟨(es i).t, (es i).f, f i, -(es i).k⟩ := by
  unfold resEd; rw [if_neg (by omega), show (2 * i + 1) / 2 = i by omega]

section
variable {h : H} {w : List Value} {n m : Nat} {es : Nat → Ed} {on : Value} {f : Nat → Int}
theorem Residual_R (G : GrA h w n m es) (g : Gw n m es) (S : RS h on (ints m f)) (hb : ∀ i, i < m → 0 ≤ f i ∧ f i ≤ cpE es i) :
    T Try.prog F.compassref11_Residual [.agg ⟨w⟩, on] h fun r h' => ∃ v, r = .ret (.agg ⟨[.int .i64 n, v]⟩) ∧ Ext h h' ∧ Gs h' v (2 * m) (resEd es f) := by
  refine E_compassref11_Residual ?_
  unfold B_compassref11_Residual
  have m1 := g.m1
  obtain ⟨gv, rfl, Gv⟩ := G.gs
  refine new_bl ?_
  intro b1 q1 hb1 x1 B
  refine new_bl ?_
  intro b3 q3 hb3 x3 B3
  refine ⟨_, (B.ext x3).ld rfl, ?_⟩
  refine new_bl_st rfl rfl (by simp [Value.oneCell']) ?_
  intro b6 q8 hb6 x8 B6
  have bs : Bs q3 (own1 (fun _ => 0) b6 4) q8 := Bs.start.new x8 hb6
  have k4 : B1 (own1 (fun _ => 0) b6 4) q8 4 b6 [.int .i64 n, .slice none 0 0] := B1.new B6
  have Bq := B.ext x3
  have x13 := x1.trans' x3
  have Sq3 := S.ext x13
  have Gq3 := Gv.ext x13
  let I : (Int × Unit) → H → Nat → Prop := fun p q k => ∃ (j : Nat) (own : Own) (v : Value), p.1 = j ∧ j ≤ m ∧ k = m - j ∧ Bs q3 own q ∧ B1 own q 4 b6 [.int .i64 n, v] ∧ S4 own q 1 v (2 * j) (resEd es f)
  refine ⟨fun p q => ∃ k, I p q k, rk I, rk_wf I, ⟨_, 0, _, _, rfl, by omega, rfl, bs, k4, S4.nil⟩, ?_⟩
  clear bs k4
  intro p q hI
  obtain ⟨j, own, v, e1, hj, hk, bs, k4, k1⟩ := mu_spec hI
  generalize hkk : mu I ((p, ()), q) = km at *
  change p = (j : Int) at e1
  subst e1
  have hlt : j < m → m - (j + 1) < mu I (((j : Int), ()), q) := fun h => by rw [hkk, hk]; omega
  clear hI
  have Bz := Bq.ext bs.ext
  have Gz := Gq3.ext bs.ext
  have Sz := Sq3.ext bs.ext
  refine ⟨_, Bz.ld rfl, Gz.len fun _ _ => ?_⟩
  refine ifP_of (fun h1 => ?_) (fun h1 => ?_)
  · have hjm : j < m := by have := of_decide_eq_true h1; omega
    have hcj := g.c j hjm
    have hkj := g.k j hjm
    have hbj : 0 ≤ f j ∧ f j ≤ (es j).c := hb j hjm
    refine ⟨_, Bz.ld rfl, Gz.e4 hjm ?_⟩
    refine new_bl_st rfl rfl (ed_one _) ?_
    intro b20 q22 hb20 x22 B20
    have bs := bs.new (i := 8) x22 hb20
    have k4 := k4.nw (j := 8) x22 hb20
    have k1 := k1.nw (j := 8) x22 hb20
    have k8 : B1 (own1 own b20 8) q22 8 b20 (es j).vs := B1.new B20
    generalize own1 own b20 8 = own at *
    have Sz := Sz.ext x22
    refine Sz.at (ints_get hjm) fun a23 ha23 => ?_
    refine ⟨_, k4.ld rfl, _, k8.ld rfl, _, k8.ld rfl, _, k8.ld rfl, _, ha23, _, k8.ld rfl, rfl, ?_⟩
    have ew : IntKind.i64.wrap ((es j).c - f j) = (es j).c - f j := w64_in (by omega) (by omega)
    have ek : IntKind.i64.wrap (0 - (es j).k) = -(es j).k := by
      have : IntKind.i64.wrap (0 - (es j).k) = 0 - (es j).k := w64_in (by omega) (by omega)
      rw [this]; omega
    rw [ew]
    refine S4.push (ed := ⟨(es j).f, (es j).t, (es j).c - f j, (es j).k⟩) k1 (by omega) ?_
    intro _ _ v2 own2 q33 _ _ F k1
    have bs := bs.fm F (by simp <;> omega)
    have k4 := k4.fm F (by simp <;> omega)
    have k8 := k8.fm F (by simp <;> omega)
    refine oneP_slc k1.isS (k4.st (by simp) ?_)
    intro q34 F2 k4
    simp only [List.set] at k4
    have bs := bs.fm F2 (by simp <;> omega)
    have k8 := k8.fm F2 (by simp <;> omega)
    have k1 := k1.fm F2 (by simp <;> omega)
    have Sz := Sq3.ext bs.ext
    refine Sz.at (ints_get hjm) fun a35 ha35 => ?_
    refine ⟨_, k4.ld rfl, _, k8.ld rfl, _, k8.ld rfl, _, ha35, _, k8.ld rfl, rfl, ?_⟩
    rw [ek]
    refine S4.push (ed := ⟨(es j).t, (es j).f, f j, -(es j).k⟩) k1 (by omega) ?_
    intro _ _ v3 own3 q44 _ _ F k1
    have bs := bs.fm F (by simp <;> omega)
    have k4 := k4.fm F (by simp <;> omega)
    have k8 := k8.fm F (by simp <;> omega)
    refine oneP_slc k1.isS (k4.st (by simp) ?_)
    intro q45 F2 k4
    simp only [List.set] at k4
    have bs := bs.fm F2 (by simp <;> omega)
    have k8 := k8.fm F2 (by simp <;> omega)
    have k1 := k1.fm F2 (by simp <;> omega)
    rw [i64_inc (by omega)]
    refine mu_next (I := I) (k := m - (j + 1)) ⟨j + 1, own3, v3, rfl, hjm, rfl, bs, k4, ?_⟩ (hlt hjm)
    refine S4.congr k1 fun l hl => ?_
    by_cases e1 : l = 2 * j + 1
    · subst e1; rw [if_pos rfl, resEd_odd]
    · rw [if_neg e1]
      by_cases e2 : l = 2 * j
      · subst e2; rw [if_pos rfl, resEd_even]
      · rw [if_neg e2]
  · have : j = m := by have := of_decide_eq_false h1; omega
    subst this
    refine k4.ldN rfl ?_
    have B3q := B3.ext bs.ext
    refine B3q.stN rfl rfl (by simp [Value.oneCell', k1.isS, slc_one]; exact slc_one k1.isS) ?_
    intro q47 kp B3q
    refine B3q.ldN rfl ⟨v, rfl, ((x1.trans' x3).trans' bs.ext).of_kp kp (x1.new hb3), ?_⟩
    have nb : own b3 ≠ 1 := by
      obtain ⟨e, h1⟩ := B3
      rw [bs.old _ _ h1]; simp
    have F : Fm [0] own q own q47 := Fm.kp kp (by obtain ⟨e, h1⟩ := B3; exact bs.old _ _ h1) (let ⟨e, k⟩ := B3q; ⟨_, k⟩)
    exact (k1.fm F (by simp)).gs

/-- What reach tells. -/
structure RchP (n M : Nat) (es : Nat → Ed) (s : Nat) (via : Nat → Int) (rank : Nat → Nat) : Prop where
  src : via s = -1
  cs : ∀ v, v < n → via v = -2 ∨ (v = s ∧ via v = -1) ∨ ∃ a : Nat, a < M ∧ via v = a ∧ toE es a = v ∧ 0 < (es a).c ∧ via (frE es a) ≠ -2 ∧ rank (frE es a) < rank v
  rk : ∀ v, v < n → via v ≠ -2 → rank v < n
  cl : ∀ a, a < M → 0 < (es a).c → via (frE es a) ≠ -2 → via (toE es a) ≠ -2
/-- While it is looked for. -/
structure RcI (n M : Nat) (es : Nat → Ed) (s : Nat) (via : Nat → Int) (rank : Nat → Nat) : Prop where
  src : via s = -1
  cs : ∀ v, v < n → via v = -2 ∨ (v = s ∧ via v = -1) ∨ ∃ a : Nat, a < M ∧ via v = a ∧ toE es a = v ∧ 0 < (es a).c ∧ via (frE es a) ≠ -2 ∧ rank (frE es a) < rank v
  rk : ∀ v, v < n → via v ≠ -2 → (rank v : Int) < n - cntH n via (-2)
/-- The first i edges lead to nothing new. -/
def SatE (es : Nat → Ed) (via : Nat → Int) (i : Nat) : Prop := ∀ j, j < i → 0 < (es j).c → via (frE es j) ≠ -2 → via (toE es j) ≠ -2
theorem RcI.next {M s : Nat} {via : Nat → Int} {rank : Nat → Nat} (L : RcI n M es s via rank) (hE : ∀ i, i < M → frE es i < n ∧ toE es i < n) {i : Nat} (hi : i < M) (hc : 0 < (es i).c)
    (hf : via (frE es i) ≠ -2) (ht : via (toE es i) = -2) : ∃ rank', RcI n M es s (upd via (toE es i) i) rank' ∧ cntH n (upd via (toE es i) i) (-2) = cntH n via (-2) - 1 := by
  obtain ⟨hfn, htn⟩ := hE i hi
  have hcnt : cntH n (upd via (toE es i) i) (-2) = cntH n via (-2) - 1 := by
    rw [cntH_upd htn, ht, if_pos rfl, if_neg (by omega)]; omega
  have hb := cntH_bd (n := n) (ht := via) (k := -2)
  have hb2 := cntH_bd (n := n) (ht := upd via (toE es i) i) (k := -2)
  have keep : ∀ v, via v ≠ -2 → v ≠ toE es i := by rintro v hv rfl; exact hv ht
  refine ⟨fun v => if v = toE es i then ((n : Int) - cntH n via (-2)).toNat else rank v, ⟨?_, ?_, ?_⟩, hcnt⟩
  · rw [upd_ne (keep s (by rw [L.src]; omega))]; exact L.src
  · intro v hv
    by_cases e : v = toE es i
    · subst e
      refine .inr (.inr ⟨i, hi, upd_at, rfl, hc, by rw [upd_ne (keep _ hf)]; exact hf, ?_⟩)
      rw [if_pos rfl, if_neg (keep _ hf)]
      have := L.rk _ hfn hf
      omega
    · rw [upd_ne e]
      rcases L.cs v hv with h | h | ⟨a, h1, h2, h3, h4, h5, h6⟩
      · exact .inl h
      · exact .inr (.inl h)
      · exact .inr (.inr ⟨a, h1, h2, h3, h4, by rw [upd_ne (keep _ h5)]; exact h5, by rw [if_neg (keep _ h5), if_neg e]; exact h6⟩)
  · intro v hv h
    rw [hcnt]
    by_cases e : v = toE es i
    · subst e; rw [if_pos rfl]; omega
    · rw [if_neg e]
      rw [upd_ne e] at h
      have := L.rk v hv h
      omega

theorem reach_R {M : Nat} (G : GrA h w n M es) (hE1 : ∀ i, i < M → (es i).f = (frE es i : Nat) ∧ frE es i < n) (hE2 : ∀ i, i < M → (es i).t = (toE es i : Nat) ∧ toE es i < n) (n1 : n ≤ 4096) (m1 : M ≤ 100000) {s : Nat} (hs : s < n) :
    T Try.prog F.compassref11_reach [.agg ⟨w⟩, .int .i64 s] h fun r h' => ∃ v via rank, r = .ret v ∧ Ext h h' ∧ RS h' v (ints n via) ∧ RchP n M es s via rank := by
  refine E_compassref11_reach ?_
  unfold B_compassref11_reach
  obtain ⟨gv, rfl, Gv⟩ := G.gs
  have hE : ∀ i, i < M → frE es i < n ∧ toE es i < n := fun i hi => ⟨(hE1 i hi).2, (hE2 i hi).2⟩
  refine new_bl ?_
  intro b1 q1 hb1 x1 B
  refine ⟨_, B.ld rfl, mk_ints 1 (by omega) (by omega) ?_⟩
  intro b4 q4 hb4 x4 S4
  rw [Int.toNat_natCast]
  have bs : Bs q1 (own1 (fun _ => 0) b4 1) q4 := Bs.start.new x4 hb4
  have k1 := S4 fun _ => 0
  generalize own1 (fun _ => 0) b4 1 = own at *
  clear S4 x4 hb4
  have Gv := Gv.ext x1
  let I0 : (Int × Unit) → H → Nat → Prop := fun p q k => ∃ i : Nat, p.1 = i ∧ i ≤ n ∧ k = n - i ∧ Bs q1 own q ∧ S1 own q 1 (slV b4 n) (ints n fun v => if v < i then -2 else 0)
  refine ⟨fun p q => ∃ k, I0 p q k, rk I0, rk_wf I0, ⟨_, 0, rfl, by omega, rfl, bs, by simpa using k1⟩, ?_⟩
  clear bs k1
  intro p q hI
  obtain ⟨i, e1, hi, hk, bs, k1⟩ := mu_spec hI
  generalize hkk : mu I0 ((p, ()), q) = k at *
  change p = (i : Int) at e1
  subst e1
  have hlt : i < n → n - (i + 1) < mu I0 (((i : Int), ()), q) := fun h => by rw [hkk, hk]; omega
  clear hI
  refine ⟨_, (B.ext bs.ext).ld rfl, ?_⟩
  refine ifP_of (fun h1 => ?_) (fun h1 => ?_)
  · have him : i < n := by have := of_decide_eq_true h1; omega
    refine k1.setI him ?_
    intro g F k1
    have bs := bs.fm F (by simp <;> omega)
    rw [i64_inc (by omega)]
    exact mu_next (I := I0) (k := n - (i + 1)) ⟨i + 1, rfl, him, rfl, bs, by rw [upd_lt]; exact k1⟩ (hlt him)
  have : i = n := by have := of_decide_eq_false h1; omega
  subst this
  clear hlt hkk hk h1 hi
  refine k1.setI hs ?_
  intro q14 F k1
  have bs := bs.fm F (by simp <;> omega)
  -- rounds
  let I15 : (Int × Unit) → H → Nat → Prop := fun p q k => ∃ (r : Nat) (via : Nat → Int) (rank : Nat → Nat), p.1 = r ∧ r ≤ i ∧ k = i - r ∧ Bs q1 own q ∧ S1 own q 1 (slV b4 i) (ints i via) ∧ RcI i M es s via rank ∧
    (SatE es via M ∨ (r : Int) + 1 ≤ i - cntH i via (-2))
  refine ⟨fun p q => ∃ k, I15 p q k, rk I15, rk_wf I15, ⟨_, 0, _, fun _ => 0, rfl, by omega, rfl, bs, k1, ?_, .inr ?_⟩, ?_⟩
  · have u2 : ∀ v, v < i → v ≠ s → upd (fun v => if v < i then (-2 : Int) else 0) s (-1) v = -2 := fun v hv hne => by rw [upd_ne hne]; exact if_pos hv
    refine ⟨upd_at, fun v hv => ?_, fun v hv h => ?_⟩
    · by_cases e : v = s
      · subst e; exact .inr (.inl ⟨rfl, upd_at⟩)
      · exact .inl (u2 v hv e)
    · have : v = s := by
        apply Classical.byContradiction
        intro e; exact h (u2 v hv e)
      rw [cntH_upd hs, if_pos hs, if_pos rfl, if_neg (by omega)]
      have hb := cntH_bd (n := i) (ht := fun v => if v < i then (-2 : Int) else 0) (k := -2)
      simp; omega
  · rw [cntH_upd hs, if_pos hs, if_pos rfl, if_neg (by omega)]
    have hb := cntH_bd (n := i) (ht := fun v => if v < i then (-2 : Int) else 0) (k := -2)
    simp; omega
  clear bs k1 F
  intro p q hI
  obtain ⟨r, via, rank, e1, hr, hk, bs, k1, L, hsat⟩ := mu_spec hI
  generalize hkk : mu I15 ((p, ()), q) = k at *
  change p = (r : Int) at e1
  subst e1
  have hlt : r < i → i - (r + 1) < mu I15 (((r : Int), ()), q) := fun h => by rw [hkk, hk]; omega
  clear hI
  refine ⟨_, (B.ext bs.ext).ld rfl, ?_⟩
  refine ifP_of (fun h1 => ?_) (fun h1 => ?_)
  rotate_left
  · have : r = i := by have := of_decide_eq_false h1; omega
    subst this
    have hb := cntH_bd (n := r) (ht := via) (k := -2)
    refine ⟨_, via, rank, rfl, x1.trans' bs.ext, RS.of_S1 k1, L.src, L.cs, fun v hv h => ?_, ?_⟩
    · have := L.rk v hv h; omega
    · rcases hsat with h | h
      · exact h
      · omega
  have hri : r < i := by have := of_decide_eq_true h1; omega
  let I20 : (Int × Unit) → H → Nat → Prop := fun p q k => ∃ (j : Nat) (via : Nat → Int) (rank : Nat → Nat), p.1 = j ∧ j ≤ M ∧ k = M - j ∧ Bs q1 own q ∧ S1 own q 1 (slV b4 i) (ints i via) ∧ RcI i M es s via rank ∧
    (SatE es via M ∨ ((r : Int) + 1 ≤ i - cntH i via (-2) ∧ SatE es via j) ∨ (r : Int) + 2 ≤ i - cntH i via (-2))
  refine ⟨fun p q => ∃ k, I20 p q k, rk I20, rk_wf I20, ⟨_, 0, via, rank, rfl, by omega, rfl, bs, k1, L, ?_⟩, ?_⟩
  · rcases hsat with h | h
    · exact .inl h
    · exact .inr (.inl ⟨h, fun j hj => by omega⟩)
  clear bs k1 L hsat via rank
  intro p q2 hI
  obtain ⟨j, via, rank, e1, hj, hk2, bs, k1, L, hsat⟩ := mu_spec hI
  generalize hkk2 : mu I20 ((p, ()), q2) = k2 at *
  change p = (j : Int) at e1
  subst e1
  have hlt2 : j < M → M - (j + 1) < mu I20 (((j : Int), ()), q2) := fun h => by rw [hkk2, hk2]; omega
  clear hI
  refine ⟨_, (B.ext bs.ext).ld rfl, (Gv.ext bs.ext).len fun _ _ => ?_⟩
  refine ifP_of (fun h2 => ?_) (fun h2 => ?_)
  rotate_left
  · have : j = M := by have := of_decide_eq_false h2; omega
    subst this
    rw [i64_inc (by omega)]
    refine mu_next (I := I15) (k := i - (r + 1)) ⟨r + 1, via, rank, rfl, hri, rfl, bs, k1, L, ?_⟩ (hlt hri)
    rcases hsat with h | ⟨h, h'⟩ | h
    · exact .inl h
    · exact .inl h'
    · exact .inr (by omega)
  have hjm : j < M := by have := of_decide_eq_true h2; omega
  refine ⟨_, (B.ext bs.ext).ld rfl, (Gv.ext bs.ext).e4 hjm ?_⟩
  refine new_bl_st rfl rfl (ed_one _) ?_
  intro b31 q33 hb31 x33 B31
  have bs := bs.ext_ x33
  have k1 := k1.ext x33
  have go : ∀ {q4 : H} {via' : Nat → Int} {rank' : Nat → Nat}, Bs q1 own q4 → S1 own q4 1 (slV b4 i) (ints i via') → RcI i M es s via' rank' →
      (SatE es via' M ∨ ((r : Int) + 1 ≤ i - cntH i via' (-2) ∧ SatE es via' (j + 1)) ∨ (r : Int) + 2 ≤ i - cntH i via' (-2)) →
      (∃ k, I20 (((j + 1 : Nat) : Int), ()) q4 k) ∧ rk I20 ((((j + 1 : Nat) : Int), ()), q4) (((j : Int), ()), q2) := fun bs k1 L hsat =>
    mu_next (I := I20) (k := M - (j + 1)) ⟨j + 1, _, _, rfl, hjm, rfl, bs, k1, L, hsat⟩ (hlt2 hjm)
  have same : (0 < (es j).c → via (frE es j) ≠ -2 → via (toE es j) ≠ -2) →
      (∃ k, I20 (((j + 1 : Nat) : Int), ()) q33 k) ∧ rk I20 ((((j + 1 : Nat) : Int), ()), q33) (((j : Int), ()), q2) := by
    intro hs'
    refine go bs k1 L ?_
    rcases hsat with h | ⟨h, h'⟩ | h
    · exact .inl h
    · refine .inr (.inl ⟨h, fun l hl => ?_⟩)
      by_cases e : l = j
      · subst e; exact hs'
      · exact h' l (by omega)
    · exact .inr (.inr h)
  rw [i64_inc (by omega)]
  refine ⟨_, B31.ed.2.2.1, ifP_of (fun h3 => ?_) (fun h3 => same fun h => absurd h (of_decide_eq_false h3))⟩
  have h3 := of_decide_eq_true h3
  obtain ⟨ef, efn⟩ := hE1 j hjm
  obtain ⟨et, etn⟩ := hE2 j hjm
  refine ⟨_, B31.ed.1, ?_⟩
  rw [ef]
  have vcase : ∀ v, v < i → via v = -2 ∨ -1 ≤ via v := by
    intro v hv
    rcases L.cs v hv with h | h | ⟨a, _, h, _⟩
    · exact .inl h
    · exact .inr (by omega)
    · exact .inr (by omega)
  refine k1.rdI efn (ifP_of (fun h4 => ?_) (fun h4 => same fun _ h => absurd h (by
    have := of_decide_eq_false h4
    rcases vcase _ efn with h | h
    · exact fun k => k h
    · exact absurd h this)))
  have h4 := of_decide_eq_true h4
  refine ⟨_, B31.ed.2.1, ?_⟩
  rw [et]
  refine k1.rdI etn (ifP_of (fun h5 => ?_) (fun h5 => same fun _ _ => of_decide_eq_false h5))
  have h5 := of_decide_eq_true h5
  refine ⟨_, B31.ed.2.1, ?_⟩
  rw [et]
  refine k1.setI etn ?_
  intro q43 F k1
  have bs := bs.fm F (by simp <;> omega)
  obtain ⟨rank', L', hc'⟩ := L.next hE hjm h3 (by omega) h5
  refine go bs k1 L' (.inr (.inr ?_))
  rcases hsat with h | ⟨h, _⟩ | h
  · exact absurd h5 (h j hjm h3 (by omega))
  · omega
  · omega
end

end Go.Proofs.Ytdblngaacnpgmaa

namespace Go.Proofs.Ytdblngaacnpgmaa
open Go
set_option linter.unusedVariables false
set_option linter.unusedSimpArgs false

def chgS (f : Nat → Int) (a : Nat) (x : Int) : Nat → Int := upd f (a / 2) (if a % 2 = 0 then f (a / 2) + x else f (a / 2) - x)
def chgF (f : Nat → Int) (l : List Nat) (x : Int) : Nat → Int := l.foldl (fun f a => chgS f a x) f
def sndF (room : Nat → Int) (l : List Nat) (x : Int) : Nat → Int := l.foldl (fun r a => sndR r a x) room
theorem onR_snd (room : Nat → Int) (a : Nat) (x : Int) : onR (sndR room a x) = chgS (onR room) a x := by
  funext i
  unfold chgS
  by_cases e : i = a / 2
  · subst e
    rw [upd_at]
    unfold onR
    by_cases h : a % 2 = 0
    · rw [if_pos h]
      have e2 : 2 * (a / 2) + 1 = prA a := by unfold prA; rw [if_pos h]; omega
      rw [e2, sndR_p]
    · rw [if_neg h]
      have e2 : 2 * (a / 2) + 1 = a := by omega
      rw [e2, sndR_a]
  · rw [upd_ne e]
    unfold onR
    rw [sndR_o (by omega) (by unfold prA; split <;> omega)]
theorem onR_sndF : ∀ (l : List Nat) (room : Nat → Int) (x : Int), onR (sndF room l x) = chgF (onR room) l x
  | [], _, _ => rfl
  | a :: l, room, x => by
    show onR (sndF (sndR room a x) l x) = chgF (chgS (onR room) a x) l x
    rw [onR_sndF l, onR_snd]
theorem onR_res {cap f : Nat → Int} : onR (resR cap f) = f := by
  funext i
  unfold onR resR
  rw [if_neg (by omega), show (2 * i + 1) / 2 = i by omega]
theorem resR_ok {m : Nat} {cap f : Nat → Int} (h : ∀ i, i < m → 0 ≤ f i ∧ f i ≤ cap i) : RmP m cap (resR cap f) := by
  refine ⟨fun a ha => ?_, fun i hi => ?_⟩
  · have := h (a / 2) (by omega)
    unfold resR; split <;> omega
  · unfold resR
    rw [if_pos (by omega), if_neg (by omega), show 2 * i / 2 = i by omega, show (2 * i + 1) / 2 = i by omega]; omega
/-- A way back from a node, each arc from lower rank. -/
inductive ViaP (tl hd : Nat → Nat) (rk : Nat → Nat) (s : Nat) : Nat → List Nat → Prop
  | nil : ViaP tl hd rk s s []
  | cons {a : Nat} {l : List Nat} : rk (tl a) < rk (hd a) → ViaP tl hd rk s (tl a) l → ViaP tl hd rk s (hd a) (a :: l)
theorem ViaP.hd_le {tl hd rk : Nat → Nat} {s v : Nat} {l : List Nat} (p : ViaP tl hd rk s v l) : ∀ a ∈ l, rk (hd a) ≤ rk v := by
  induction p with
  | nil => intro a ha; cases ha
  | cons h p ih =>
    intro b hb
    rcases List.mem_cons.1 hb with rfl | hb
    · exact Nat.le_refl _
    · have := ih b hb; omega
theorem ViaP.tl_lt {tl hd rk : Nat → Nat} {s v : Nat} {l : List Nat} (p : ViaP tl hd rk s v l) : ∀ a ∈ l, rk (tl a) < rk (hd a) := by
  induction p with
  | nil => intro a ha; cases ha
  | cons h p ih =>
    intro b hb
    rcases List.mem_cons.1 hb with rfl | hb
    · exact h
    · exact ih b hb
theorem ViaP.snoc {tl hd rk : Nat → Nat} {s t v : Nat} {l : List Nat} (p : ∀ l2, ViaP tl hd rk s v l2 → ViaP tl hd rk s t (l ++ l2)) {a : Nat} (hv : hd a = v) (h : rk (tl a) < rk (hd a)) :
    ∀ l2, ViaP tl hd rk s (tl a) l2 → ViaP tl hd rk s t ((l ++ [a]) ++ l2) := by
  intro l2 q
  rw [List.append_assoc]
  refine p _ ?_
  subst hv
  exact .cons h q
theorem aug {m : Nat} {fr to : Nat → Nat} {cap : Nat → Int} {rk : Nat → Nat} {s : Nat} {x : Int} (hx : 0 ≤ x) {v : Nat} {l : List Nat} (p : ViaP (tlA fr to) (hdA fr to) rk s v l) : ∀ (room : Nat → Int), RmP m cap room →
    (∀ a ∈ l, a < 2 * m ∧ x ≤ room a) → RmP m cap (sndF room l x) ∧ ∀ u, OutF m fr to (onR (sndF room l x)) u = OutF m fr to (onR room) u + (if s = u then x else 0) - (if v = u then x else 0) := by
  induction p with
  | nil => intro room R h; exact ⟨R, fun u => by show OutF m fr to (onR room) u = _; omega⟩
  | @cons a l h p ih =>
    intro room R hl
    obtain ⟨ha, hxa⟩ := hl a (List.mem_cons_self ..)
    have R1 := R.snd ha hx hxa
    obtain ⟨R2, o2⟩ := ih (sndR room a x) R1 fun b hb => by
      obtain ⟨h1, h2⟩ := hl b (List.mem_cons_of_mem _ hb)
      have n1 : b ≠ a := by
        rintro rfl
        have := p.hd_le b hb
        omega
      have n2 : b ≠ prA a := by
        rintro rfl
        have := p.hd_le _ hb
        have := p.tl_lt _ hb
        rw [tl_pr, hd_pr] at *
        omega
      exact ⟨h1, by rw [sndR_o n1 n2]; exact h2⟩
    refine ⟨R2, fun u => ?_⟩
    have e : sndF room (a :: l) x = sndF (sndR room a x) l x := rfl
    rw [e, o2, out_snd ha]
    split <;> split <;> split <;> omega

section
variable {h : H} {w : List Value} {n M m : Nat} {es : Nat → Ed} {on list : Value} {f : Nat → Int} {l : List Nat}
theorem room_R (G : GrA h w n M es) (hl : l ≠ []) (hl2 : l.length < 1000000) (hm : ∀ a ∈ l, a < M) (S : RS h list (natV l)) :
    T Try.prog F.compassref11_room [.agg ⟨w⟩, list] h fun r h' => ∃ x, r = .ret (.int .i64 x) ∧ Ext h h' ∧ (∀ a ∈ l, x ≤ (es a).c) ∧ ∃ a ∈ l, x = (es a).c := by
  refine E_compassref11_room ?_
  unfold B_compassref11_room
  obtain ⟨gv, rfl, Gv⟩ := G.gs
  refine new_bl ?_
  intro b1 q1 hb1 x1 B
  have Gv := Gv.ext x1
  have S := S.ext x1
  have hpos : 0 < l.length := List.length_pos_iff.2 hl
  refine S.at (j := 0) (natV_get hpos) fun a3 ha3 => ?_
  refine ⟨_, B.ld rfl, _, ha3, Gv.c (hm _ (List.getElem_mem hpos)) ?_⟩
  let I : (Int × Int × Unit) → H → Nat → Prop := fun p q k => ∃ j : Nat, p.2.1 = j ∧ 1 ≤ j ∧ j ≤ l.length ∧ k = l.length - j ∧ q = q1 ∧ (∀ a ∈ l.take j, p.1 ≤ (es a).c) ∧ ∃ a ∈ l, p.1 = (es a).c
  refine ⟨fun p q => ∃ k, I p q k, rk I, rk_wf I, ⟨_, 1, rfl, by omega, by omega, rfl, rfl, fun a ha => ?_, _, List.getElem_mem hpos, rfl⟩, ?_⟩
  · have : l.take 1 = [l[0]] := by
      have := List.take_succ_eq_append_getElem hpos
      simpa using this
    rw [this, List.mem_singleton] at ha
    subst ha
    exact Int.le_refl _
  intro x p q hI
  obtain ⟨j, e1, hj1, hj, hk, e2, hx1, hx2⟩ := mu_spec hI
  generalize hkk : mu I ((x, p, ()), q) = k at *
  change p = (j : Int) at e1
  change q = q1 at e2
  subst e1 e2
  have hlt : j < l.length → l.length - (j + 1) < mu I ((x, (j : Int), ()), q) := fun h => by rw [hkk, hk]; omega
  clear hI
  change ∀ a ∈ l.take j, x ≤ (es a).c at hx1
  change ∃ a ∈ l, x = (es a).c at hx2
  refine S.len (natV_length _) fun _ _ => ?_
  refine ifP_of (fun h1 => ?_) (fun h1 => ?_)
  rotate_left
  · have : j = l.length := by have := of_decide_eq_false h1; omega
    subst this
    rw [List.take_length] at hx1
    exact ⟨x, rfl, x1, hx1, hx2⟩
  have hjl : j < l.length := by have := of_decide_eq_true h1; omega
  have htk : l.take (j + 1) = l.take j ++ [l[j]] := List.take_succ_eq_append_getElem hjl
  have hmj := hm _ (List.getElem_mem hjl)
  rw [i64_inc (by omega)]
  refine S.at (natV_get hjl) fun a16 ha16 => ⟨_, B.ld rfl, _, ha16, Gv.c hmj ?_⟩
  refine ifP_of (fun h2 => ?_) (fun h2 => ?_)
  · have h2 := of_decide_eq_true h2
    refine S.at (natV_get hjl) fun a21 ha21 => ⟨_, B.ld rfl, _, ha21, Gv.c hmj ?_⟩
    refine mu_next (I := I) (k := l.length - (j + 1)) ⟨j + 1, rfl, by omega, hjl, rfl, rfl, fun a ha => ?_, _, List.getElem_mem hjl, rfl⟩ (hlt hjl)
    rw [htk] at ha
    show (es l[j]).c ≤ (es a).c
    rcases List.mem_append.1 ha with ha | ha
    · have := hx1 a ha; omega
    · rw [List.mem_singleton] at ha; subst ha; exact Int.le_refl _
  · have h2 := of_decide_eq_false h2
    refine mu_next (I := I) (k := l.length - (j + 1)) ⟨j + 1, rfl, by omega, hjl, rfl, rfl, fun a ha => ?_, hx2⟩ (hlt hjl)
    rw [htk] at ha
    show x ≤ (es a).c
    rcases List.mem_append.1 ha with ha | ha
    · exact hx1 a ha
    · rw [List.mem_singleton] at ha; subst ha; omega

/-- A slice's length is not above its capacity. -/
def capV (v : Value) : Prop := ∃ a l c, v = .slice a l c ∧ l ≤ c
theorem S1.cap {own : Own} {h : H} {i : Nat} {v : Value} {vs : List Value} (s : S1 own h i v vs) : capV v := by
  rcases s with ⟨_, rfl⟩ | ⟨b, _, c, e, zs, rfl, _, h3⟩
  · exact ⟨_, _, _, rfl, Nat.le_refl _⟩
  · exact ⟨_, _, _, rfl, by omega⟩
theorem change_C (S : RS h on (ints m f)) (hm : m ≤ 20000) (hb : ∀ i, i < m → -1099511627776 ≤ f i ∧ f i ≤ 1099511627776) {x : Int} (hx : -1099511627776 ≤ x ∧ x ≤ 1099511627776) (P : RS h list (natV l)) (hl : l.length < 1000000) (hlm : ∀ a ∈ l, a < 2 * m) :
    T Try.prog F.compassref11_change [on, list, .int .i64 x] h fun r h' => ∃ v, r = .ret v ∧ Ext h h' ∧ RS h' v (ints m (chgF f l x)) ∧ capV v := by
  refine E_compassref11_change ?_
  unfold B_compassref11_change
  refine new_bl ?_
  intro b1 q1 hb1 x1 B
  have k1 : S1 (own1 (fun _ => 0) b1 1) q1 1 (.slice (some (bk b1)) 0 0) [] := .inr ⟨b1, own1_at, 0, B.choose, [], rfl, B.choose_spec, rfl⟩
  have bs : Bs h (own1 (fun _ => 0) b1 1) q1 := Bs.start.new x1 hb1
  refine k1.catR (S.ext x1) ints_one (by omega) (by rw [ints_length]; simp; omega) ?_
  intro s3 own q4 F k1
  rw [List.nil_append] at k1
  have bs := bs.fm F (by simp <;> omega)
  let I : (Int × Unit) → H → Nat → Prop := fun p q k => ∃ j : Nat, p.1 = j ∧ j ≤ l.length ∧ k = l.length - j ∧ Bs h own q ∧ S1 own q 1 s3 (ints m (chgF f (l.take j) x)) ∧
    ∀ i, i < m → -1099511627776 * (j + 1 : Int) ≤ chgF f (l.take j) x i ∧ chgF f (l.take j) x i ≤ 1099511627776 * (j + 1 : Int)
  refine ⟨fun p q => ∃ k, I p q k, rk I, rk_wf I, ⟨_, 0, rfl, by omega, rfl, bs, by rw [List.take_zero]; exact k1, fun i hi => by rw [List.take_zero]; have := hb i hi; show _ ≤ f i ∧ f i ≤ _; omega⟩, ?_⟩
  clear bs k1 F
  intro p q hI
  obtain ⟨j, e1, hj, hk, bs, k1, hbj⟩ := mu_spec hI
  generalize hkk : mu I ((p, ()), q) = k at *
  change p = (j : Int) at e1
  subst e1
  have hlt : j < l.length → l.length - (j + 1) < mu I (((j : Int), ()), q) := fun h => by rw [hkk, hk]; omega
  clear hI
  have Pq := P.ext bs.ext
  refine Pq.len (natV_length _) fun _ _ => ?_
  refine ifP_of (fun h1 => ?_) (fun h1 => ?_)
  rotate_left
  · have : j = l.length := by have := of_decide_eq_false h1; omega
    subst this
    rw [List.take_length] at k1
    exact ⟨s3, rfl, bs.ext, RS.of_S1 k1, k1.cap⟩
  have hjl : j < l.length := by have := of_decide_eq_true h1; omega
  have htk : l.take (j + 1) = l.take j ++ [l[j]] := List.take_succ_eq_append_getElem hjl
  have hmj := hlm _ (List.getElem_mem hjl)
  have hget := natV_get hjl
  generalize hll : l[j] = a at *
  have estep : chgF f (l.take (j + 1)) x = chgS (chgF f (l.take j) x) a x := by
    rw [htk]; unfold chgF; rw [List.foldl_append]; rfl
  generalize chgF f (l.take j) x = c at *
  have hh : a / 2 < m := by omega
  have hc := hbj _ hh
  have em : ((a : Nat) : Int).tmod 2 = ((a % 2 : Nat) : Int) := by rw [Int.tmod_eq_emod_of_nonneg (by omega)]; omega
  have ed : ((a : Nat) : Int).tdiv 2 = ((a / 2 : Nat) : Int) := by rw [Int.tdiv_eq_ediv_of_nonneg (by omega)]; omega
  have ewd : IntKind.i64.wrap (((a : Nat) : Int).tdiv 2) = ((a / 2 : Nat) : Int) := by rw [ed]; exact w64_in (by omega) (by omega)
  have fin : ∀ {q5 : H}, Bs h own q5 → S1 own q5 1 s3 (ints m (chgS c a x)) → (∃ k, I (((j + 1 : Nat) : Int), ()) q5 k) ∧ rk I ((((j + 1 : Nat) : Int), ()), q5) (((j : Int), ()), q) := by
    intro q5 bs k1
    refine mu_next (I := I) (k := l.length - (j + 1)) ⟨j + 1, rfl, hjl, rfl, bs, by rw [estep]; exact k1, fun i hi => ?_⟩ (hlt hjl)
    rw [estep]
    have h2 := hbj i hi
    unfold chgS upd
    have e3 : (((j + 1 : Nat) : Int) + 1) = (j : Int) + 1 + 1 := by omega
    rw [e3]
    by_cases e : i = a / 2
    · rw [if_pos e]; split <;> omega
    · rw [if_neg e]; omega
  rw [i64_inc (by omega)]
  refine Pq.rd hget ⟨by omega, ?_⟩
  rw [em]
  refine ifP_of (fun h2 => ?_) (fun h2 => ?_)
  · have h2 : a % 2 = 0 := by have := of_decide_eq_true h2; omega
    refine Pq.rd hget ⟨by omega, ?_⟩
    rw [ewd]
    refine k1.rdI hh (k1.setI hh ?_)
    intro q19 F k1
    have bs := bs.fm F (by simp <;> omega)
    have ew : IntKind.i64.wrap (c (a / 2) + x) = c (a / 2) + x := w64_in (by omega) (by omega)
    rw [ew] at k1
    refine fin bs ?_
    unfold chgS
    rw [if_pos h2]; exact k1
  · have h2 : ¬ a % 2 = 0 := by have := of_decide_eq_false h2; omega
    refine Pq.rd hget ⟨by omega, ?_⟩
    rw [ewd]
    refine k1.rdI hh (k1.setI hh ?_)
    intro q19 F k1
    have bs := bs.fm F (by simp <;> omega)
    have ew : IntKind.i64.wrap (c (a / 2) - x) = c (a / 2) - x := w64_in (by omega) (by omega)
    rw [ew] at k1
    refine fin bs ?_
    unfold chgS
    rw [if_neg h2]; exact k1

theorem MaxFlow_C (G : GrA h w n m es) (g : Gw n m es) {s t : Nat} (hs : s < n) (ht : t < n) (hst : s ≠ t) :
    T Try.prog F.compassref11_MaxFlow [.agg ⟨w⟩, .int .i64 s, .int .i64 t] h fun r h' => ∃ von vsd f sd, r = .ret (.tuple ⟨[von, vsd]⟩) ∧ Ext h h' ∧ RS h' von (ints m f) ∧ capV von ∧ RS h' vsd (bools n sd) ∧ capV vsd ∧
      MaxP n m (frE es) (toE es) (cpE es) s t f ∧ ∀ v, v < n → (sd v = true ↔ Rch (RsS m (frE es) (toE es) (cpE es) f) s v) := by
  refine E_compassref11_MaxFlow ?_
  unfold B_compassref11_MaxFlow
  have m1 := g.m1
  have n1 := g.n1
  obtain ⟨gv, rfl, Gv⟩ := G.gs
  refine new_bl ?_
  intro b1 q1 hb1 x1 B
  have Gv := Gv.ext x1
  refine ⟨_, B.ld rfl, Gv.len fun _ _ => mk_ints 1 (by omega) (by omega) ?_⟩
  intro b7 q8 hb7 x8 S7
  rw [Int.toNat_natCast]
  have cpb : ∀ {f : Nat → Int}, FlowP n m (frE es) (toE es) (cpE es) s t f → ∀ i, i < m → 0 ≤ f i ∧ f i ≤ 1048576 := fun F i hi => by
    have := F.cp i hi
    have := g.c i hi
    unfold cpE at *; omega
  have vb : ∀ {f : Nat → Int}, FlowP n m (frE es) (toE es) (cpE es) s t f → OutF m (frE es) (toE es) f s ≤ 34359738368 := fun {f} F => by
    have := (OutF_bd (fr := frE es) (to := toE es) (f := f) (v := s) (j := m) (B := 1048576) (fun i hi => by have := cpb F i hi; omega) (by omega)).2
    omega
  let I : (Value × Unit) → H → Nat → Prop := fun p q k => ∃ f, (k : Int) = 34359738368 - OutF m (frE es) (toE es) f s ∧ Ext q1 q ∧ RS q p.1 (ints m f) ∧ capV p.1 ∧ FlowP n m (frE es) (toE es) (cpE es) s t f
  refine ⟨fun p q => ∃ k, I p q k, rk I, rk_wf I, ⟨34359738368, fun _ => 0, ?_, x8, RS.of_S1 (S7 fun _ => 0), (S7 fun _ => 0).cap, fun i hi => ⟨Int.le_refl _, (g.c i hi).1⟩, fun v _ _ _ => sumN_zero fun i _ => by split <;> split <;> rfl⟩, ?_⟩
  · have : OutF m (frE es) (toE es) (fun _ => 0) s = 0 := sumN_zero fun i _ => by split <;> split <;> rfl
    rw [this]; rfl
  clear S7 x8 hb7
  intro on q hI
  obtain ⟨f, hk, xq, S, capon, Fl⟩ := mu_spec hI
  generalize hkk : mu I ((on, ()), q) = k at *
  change RS q on (ints m f) at S
  have hlt : ∀ z : Nat, (z : Int) < 34359738368 - OutF m (frE es) (toE es) f s → z < mu I ((on, ()), q) := fun z h => by rw [hkk]; omega
  clear hI
  refine (B.ext xq).ldN rfl ?_
  refine (Residual_R ((Gv.ext xq).gr n) g S Fl.cp).mono ?_
  rintro _ q15 ⟨rv, rfl, x15, Gr⟩
  refine rt_ret ⟨_, rfl, rfl, ?_⟩
  refine new_bl_st rfl rfl (by intro v hv; simp only [List.mem_cons, List.mem_nil_iff, or_false] at hv; rcases hv with rfl | rfl; rfl; exact slc_one Gr.isS) ?_
  intro b17 q19 hb17 x19 B17
  refine B17.ldN rfl ?_
  have hE1 : ∀ a, a < 2 * m → (resEd es f a).f = (frE (resEd es f) a : Nat) ∧ frE (resEd es f) a < n := by
    intro a ha
    have h1 := g.fr (a / 2) (by omega)
    have h2 := g.to (a / 2) (by omega)
    unfold frE resEd
    split
    · exact h1
    · exact h2
  have hE2 : ∀ a, a < 2 * m → (resEd es f a).t = (toE (resEd es f) a : Nat) ∧ toE (resEd es f) a < n := by
    intro a ha
    have h1 := g.fr (a / 2) (by omega)
    have h2 := g.to (a / 2) (by omega)
    unfold toE resEd
    split
    · exact h2
    · exact h1
  have Gr := Gr.ext x19
  refine (reach_R (Gr.gr n) hE1 hE2 (by omega) (by omega) hs).mono ?_
  rintro _ q22 ⟨vv, via, rank, rfl, x22, Sv, R⟩
  refine rt_ret ?_
  have Gr := Gr.ext x22
  have xh := ((xq.trans' x15).trans' x19).trans' x22
  have B17 := B17.ext x22
  have B := B.ext xh
  have S := S.ext ((x15.trans' x19).trans' x22)
  have Rm := resR_ok Fl.cp
  have hvia : ∀ v, v < n → (via v ≠ -2 ↔ Rch (RsS m (frE es) (toE es) (cpE es) f) s v) := by
    intro v hv
    have e := rch_iff (fr := frE es) (to := toE es) Rm (u := s) (v := v)
    rw [onR_res] at e
    rw [← e]
    constructor
    · have key : ∀ k v, v < n → rank v ≤ k → via v ≠ -2 → Rch (ArS m (frE es) (toE es) (resR (cpE es) f)) s v := by
        intro k
        induction k with
        | zero =>
          intro v hv hk h
          rcases R.cs v hv with h2 | ⟨rfl, _⟩ | ⟨a, h1, h2, h3, h4, h5, h6⟩
          · exact absurd h2 h
          · exact .refl
          · omega
        | succ k ih =>
          intro v hv hk h
          rcases R.cs v hv with h2 | ⟨rfl, _⟩ | ⟨a, h1, h2, h3, h4, h5, h6⟩
          · exact absurd h2 h
          · exact .refl
          · have := ih _ (hE1 a h1).2 (by omega) h5
            refine this.step ⟨a, h1, ?_, ?_, ?_⟩
            · rw [resEd_fr]
            · rw [← resEd_to es f]; exact h3
            · rw [← resEd_c]; exact h4
      exact fun h => key _ v hv (Nat.le_refl _) h
    · intro r
      refine r.closed (C := fun u => via u ≠ -2) (by rw [R.src]; omega) ?_
      rintro u v hu ⟨a, ha, rfl, rfl, hr⟩
      have := R.cl a ha (by rw [resEd_c]; exact hr) (by rw [resEd_fr]; exact hu)
      rwa [resEd_to] at this
  refine Sv.rdI ht (ifP_of (fun h1 => ?_) (fun h1 => ?_))
  · -- the end
    have h1 := of_decide_eq_true h1
    have Mx : MaxP n m (frE es) (toE es) (cpE es) s t f := ⟨Fl, fun r => (hvia t ht).2 r h1⟩
    refine ⟨_, B.ld rfl, mk_bools 3 (by omega) (by omega) ?_⟩
    intro b26 q27 hb26 x27 S26
    rw [Int.toNat_natCast]
    have bs : Bs q22 (own1 (fun _ => 0) b26 3) q27 := Bs.start.new x27 hb26
    have k3 := S26 fun _ => 0
    generalize own1 (fun _ => 0) b26 3 = own at *
    clear S26 x27 hb26
    let I28 : (Int × Unit) → H → Nat → Prop := fun p q k => ∃ (v : Nat) (sd : Nat → Bool), p.1 = v ∧ v ≤ n ∧ k = n - v ∧ Bs q22 own q ∧ S1 own q 3 (slV b26 n) (bools n sd) ∧ ∀ j, j < v → sd j = decide (-1 ≤ via j)
    refine ⟨fun p q => ∃ k, I28 p q k, rk I28, rk_wf I28, ⟨_, 0, _, rfl, by omega, rfl, bs, k3, fun j hj => by omega⟩, ?_⟩
    clear bs k3
    intro p q hI
    obtain ⟨v, sd, e1, hv, hk2, bs, k3, hsd⟩ := mu_spec hI
    generalize hkk : mu I28 ((p, ()), q) = k2 at *
    change p = (v : Int) at e1
    subst e1
    have hlt2 : v < n → n - (v + 1) < mu I28 (((v : Int), ()), q) := fun h => by rw [hkk, hk2]; omega
    clear hI
    refine ⟨_, (B.ext bs.ext).ld rfl, ifP_of (fun h2 => ?_) (fun h2 => ?_)⟩
    · have hvn : v < n := by have := of_decide_eq_true h2; omega
      refine (Sv.ext bs.ext).rdI hvn (k3.setB hvn ?_)
      intro q36 F k3
      have bs := bs.fm F (by simp <;> omega)
      rw [i64_inc (by omega)]
      refine mu_next (I := I28) (k := n - (v + 1)) ⟨v + 1, _, rfl, hvn, rfl, bs, k3, fun j hj => ?_⟩ (hlt2 hvn)
      unfold updB
      by_cases e : j = v
      · subst e; rw [if_pos rfl]
      · rw [if_neg e]; exact hsd j (by omega)
    · have : v = n := by have := of_decide_eq_false h2; omega
      subst this
      refine ⟨on, slV b26 v, f, sd, rfl, (x1.trans' xh).trans' bs.ext, S.ext bs.ext, capon, RS.of_S1 k3, k3.cap, Mx, fun u hu => ?_⟩
      rw [hsd u hu, ← hvia u hu]
      rcases R.cs u hu with h | h | ⟨a, _, h, _⟩ <;> simp <;> omega
  -- a way
  have h1 := of_decide_eq_false h1
  let I37 : (Value × Int × Unit) → H → Nat → Prop := fun p q k => ∃ (v : Nat) (l : List Nat) (own : Own), p.2.1 = v ∧ v < n ∧ k = rank v ∧ via v ≠ -2 ∧ Bs q22 own q ∧ S1 own q 7 p.1 (natV l) ∧
    (∀ a ∈ l, a < 2 * m ∧ 0 < resR (cpE es) f a) ∧ l.length + rank v ≤ rank t ∧ (v = t ∨ l ≠ []) ∧ ∀ l2, ViaP (tlA (frE es) (toE es)) (hdA (frE es) (toE es)) rank s v l2 → ViaP (tlA (frE es) (toE es)) (hdA (frE es) (toE es)) rank s t (l ++ l2)
  refine ⟨fun p q => ∃ k, I37 p q k, rk I37, rk_wf I37, ⟨_, t, [], fun _ => 0, rfl, ht, rfl, h1, Bs.start, S1.nil, fun a ha => (by cases ha), by simp, .inl rfl, fun l2 p => p⟩, ?_⟩
  intro lv p q39 hI
  obtain ⟨v, l, own, e1, hv, hk2, hvv, bs, k7, hla, hlen, hne, hvp⟩ := mu_spec hI
  generalize hkk : mu I37 ((lv, p, ()), q39) = k2 at *
  change p = (v : Int) at e1
  change S1 own q39 7 lv (natV l) at k7
  subst e1
  have hlt2 : ∀ z, z < rank v → z < mu I37 ((lv, (v : Int), ()), q39) := fun z h => by rw [hkk, hk2]; exact h
  clear hI
  have hrt := R.rk t ht h1
  refine ifP_of (fun h2 => ?_) (fun h2 => ?_)
  · have h2 : v ≠ s := by simp at h2; omega
    rcases R.cs v hv with h3 | ⟨h3, _⟩ | ⟨a, c1, c2, c3, c4, c5, c6⟩
    · exact absurd h3 hvv
    · exact absurd h3 h2
    have Svq := Sv.ext bs.ext
    refine Svq.rdI hv ?_
    rw [c2]
    refine k7.push rfl (by simp [Value.oneCell']) (by simp) (by omega) (by rw [natV_length]; omega) ?_
    intro _ _ lv2 own2 q47 _ _ F k7
    have bs := bs.fm F (by simp <;> omega)
    have Svq := Sv.ext bs.ext
    refine Svq.at (ints_get hv) fun a48 ha48 => ?_
    rw [c2] at ha48
    refine ⟨_, (B17.ext bs.ext).ld rfl, _, ha48, (Gr.ext bs.ext).f c1 ?_⟩
    rw [(hE1 a c1).1]
    rw [resEd_c] at c4
    rw [resEd_to] at c3
    rw [resEd_fr] at c5 c6 ⊢
    refine mu_next (I := I37) (k := rank (tlA (frE es) (toE es) a)) ⟨tlA (frE es) (toE es) a, l ++ [a], own2, rfl, tl_lt g.ends c1, rfl, c5, bs, ?_, fun b hb => ?_, ?_, .inr (by simp), ViaP.snoc hvp c3 (by rw [c3]; exact c6)⟩ (hlt2 _ c6)
    · have : natV (l ++ [a]) = natV l ++ [.int .i64 ((a : Nat) : Int)] := by simp [natV]
      rw [this]; exact k7
    · rcases List.mem_append.1 hb with hb | hb
      · exact hla b hb
      · rw [List.mem_singleton] at hb; subst hb; exact ⟨c1, c4⟩
    · rw [List.length_append]; simp; omega
  · have h2 : v = s := by simp at h2; omega
    subst h2
    have hne : l ≠ [] := by
      rcases hne with h | h
      · exact absurd h hst
      · exact h
    have way := hvp [] .nil
    rw [List.append_nil] at way
    refine (B17.ext bs.ext).ldN rfl ?_
    refine (room_R ((Gr.ext bs.ext).gr n) hne (by omega) (fun a ha => (hla a ha).1) (RS.of_S1 k7)).mono ?_
    rintro _ q55 ⟨x, rfl, x55, hx1, a0, ha0, hx0⟩
    refine rt_ret ⟨x, rfl, ?_⟩
    rw [resEd_c] at hx0
    have hxp : 0 < x := by rw [hx0]; exact (hla a0 ha0).2
    have hxb : x ≤ 1048576 := by
      rw [hx0]
      have := rm_bd Rm (fun i hi => (g.c i hi).2) a0 (hla a0 ha0).1
      exact this.2
    refine (change_C ((S.ext bs.ext).ext x55) (by omega) (fun i hi => by have := cpb Fl i hi; omega) (x := x) (by omega) ((RS.of_S1 k7).ext x55) (by omega) (fun a ha => (hla a ha).1)).mono ?_
    rintro _ q58 ⟨on2, rfl, x58, S2, cap2⟩
    refine rt_ret ?_
    obtain ⟨R2, O2⟩ := aug (x := x) (by omega) way _ Rm fun a ha => ⟨(hla a ha).1, by have := hx1 a ha; rw [resEd_c] at this; exact this⟩
    rw [onR_sndF, onR_res] at O2
    have Fl2 : FlowP n m (frE es) (toE es) (cpE es) v t (chgF f l x) := by
      refine ⟨fun i hi => ?_, fun u hu h3 h4 => ?_⟩
      · have e : chgF f l x i = onR (sndF (resR (cpE es) f) l x) i := by rw [onR_sndF, onR_res]
        rw [e]
        have := R2.sum i hi
        have h3 := R2.pos (2 * i) (by omega)
        have h4 := R2.pos (2 * i + 1) (by omega)
        unfold onR; omega
      · rw [O2, Fl.cons u hu h3 h4, if_neg (fun h => h3 h.symm), if_neg (fun h => h4 h.symm)]; rfl
    have e2 := O2 v
    rw [if_pos rfl, if_neg (fun h => hst h.symm)] at e2
    have vb2 := vb Fl2
    obtain ⟨k3, hk3⟩ : ∃ k3 : Nat, (k3 : Int) = 34359738368 - OutF m (frE es) (toE es) (chgF f l x) v := ⟨(34359738368 - OutF m (frE es) (toE es) (chgF f l x) v).toNat, by omega⟩
    exact mu_next (I := I) (k := k3) ⟨chgF f l x, hk3, ((xh.trans' bs.ext).trans' x55).trans' x58, S2, cap2, Fl2⟩ (hlt _ (by omega))
theorem MaxFlow_R (G : GrA h w n m es) (g : Gw n m es) {s t : Nat} (hs : s < n) (ht : t < n) (hst : s ≠ t) :
    T Try.prog F.compassref11_MaxFlow [.agg ⟨w⟩, .int .i64 s, .int .i64 t] h fun r h' => ∃ von vsd f sd, r = .ret (.tuple ⟨[von, vsd]⟩) ∧ Ext h h' ∧ RS h' von (ints m f) ∧ RS h' vsd (bools n sd) ∧
      MaxP n m (frE es) (toE es) (cpE es) s t f ∧ ∀ v, v < n → (sd v = true ↔ Rch (RsS m (frE es) (toE es) (cpE es) f) s v) := by
  refine (MaxFlow_C G g hs ht hst).mono ?_
  rintro r h' ⟨von, vsd, f, sd, h1, h2, h3, _, h4, _, h5⟩
  exact ⟨von, vsd, f, sd, h1, h2, h3, h4, h5⟩
end

end Go.Proofs.Ytdblngaacnpgmaa

namespace Go.Proofs.Ytdblngaacnpgmaa
open Go
set_option linter.unusedVariables false
set_option linter.unusedSimpArgs false

section
variable {h : H} {w : List Value} {n : Int} {m : Nat} {es : Nat → Ed}

theorem S4.at {own : Own} {h : H} {i m : Nat} {v : Value} {es : Nat → Ed} {j : Nat} {K : Addr → Prop} (s : S4 own h i v m es) (hj : j < m) (k : ∀ b, K ((bk b).add (j * 4))) : ixS v (j : Int) 4 K := by
  rcases s with ⟨rfl, _⟩ | ⟨b, c, e, zs, hb, rfl, h2, h3⟩
  · omega
  · exact nx hj (k b)
theorem Copy_R (G : GrA h w n m es) (hm : m ≤ 4398046511104) : T Try.prog F.compassref03_Copy [.agg ⟨w⟩] h fun r h' => ∃ v own, r = .ret (.agg ⟨[.int .i64 n, v]⟩) ∧ Bs h own h' ∧ S4 own h' 1 v m es := by
  refine E_compassref03_Copy ?_
  unfold B_compassref03_Copy
  obtain ⟨gv, rfl, Gv⟩ := G.gs
  refine new_bl ?_
  intro b1 q1 hb1 x1 B
  have bs : Bs h (own1 (fun _ => 0) b1 9) q1 := Bs.start.new x1 hb1
  have k9 : B1 (own1 (fun _ => 0) b1 9) q1 9 b1 _ := B1.new B
  generalize own1 (fun _ => 0) b1 9 = own at *
  refine new_bl ?_
  intro b3 q3 hb3 x3 B3
  have bs := bs.nw (j := 8) x3 hb3
  have k9 := k9.nw (j := 8) x3 hb3
  have k8 : B1 (own1 own b3 8) q3 8 b3 _ := B1.new B3
  generalize own1 own b3 8 = own at *
  refine ⟨_, k9.ld rfl, ?_⟩
  refine new_bl_st rfl rfl (by simp [Value.oneCell']) ?_
  intro b6 q8 hb6 x8 B6
  have bs := bs.nw (j := 4) x8 hb6
  have k9 := k9.nw (j := 4) x8 hb6
  have k8 := k8.nw (j := 4) x8 hb6
  have k4 : B1 (own1 own b6 4) q8 4 b6 [.int .i64 n, .slice none 0 0] := B1.new B6
  generalize own1 own b6 4 = own at *
  let I : (Int × Unit) → H → Nat → Prop := fun p q k => ∃ (j : Nat) (own : Own) (v : Value), p.1 = j ∧ j ≤ m ∧ k = m - j ∧ Bs h own q ∧ B1 own q 4 b6 [.int .i64 n, v] ∧ S4 own q 1 v j es ∧ B1 own q 9 b1 [.int .i64 n, gv] ∧ B1 own q 8 b3 [.int .i64 0, .slice none 0 0]
  refine ⟨fun p q => ∃ k, I p q k, rk I, rk_wf I, ⟨_, 0, _, _, rfl, by omega, rfl, bs, k4, S4.nil, k9, k8⟩, ?_⟩
  clear bs k4 k9 k8 B B3 B6
  intro p q hI
  obtain ⟨j, own, v, e1, hj, hk, bs, k4, k1, k9, k8⟩ := mu_spec hI
  generalize hkk : mu I ((p, ()), q) = km at *
  change p = (j : Int) at e1
  subst e1
  have hlt : j < m → m - (j + 1) < mu I (((j : Int), ()), q) := fun h => by rw [hkk, hk]; omega
  clear hI
  have Gz := Gv.ext bs.ext
  refine ⟨_, k9.ld rfl, Gz.len fun _ _ => ?_⟩
  refine ifP_of (fun h1 => ?_) (fun h1 => ?_)
  · have hjm : j < m := by have := of_decide_eq_true h1; omega
    refine ⟨_, k4.ld rfl, _, k9.ld rfl, Gz.e4 hjm ⟨rfl, ?_⟩⟩
    refine S4.push (ed := es j) k1 (by omega) ?_
    intro _ _ v2 own2 q24 _ _ F k1
    have bs := bs.fm F (by simp <;> omega)
    have k4 := k4.fm F (by simp <;> omega)
    have k9 := k9.fm F (by simp <;> omega)
    have k8 := k8.fm F (by simp <;> omega)
    refine oneP_slc k1.isS (k4.st (by simp) ?_)
    intro q25 F2 k4
    simp only [List.set] at k4
    have bs := bs.fm F2 (by simp <;> omega)
    have k1 := k1.fm F2 (by simp <;> omega)
    have k9 := k9.fm F2 (by simp <;> omega)
    have k8 := k8.fm F2 (by simp <;> omega)
    rw [i64_inc (by omega)]
    refine mu_next (I := I) (k := m - (j + 1)) ⟨j + 1, own2, v2, rfl, hjm, rfl, bs, k4, S4.congr k1 fun l hl => ?_, k9, k8⟩ (hlt hjm)
    by_cases e : l = j
    · subst e; rw [if_pos rfl]
    · rw [if_neg e]
  · have : j = m := by have := of_decide_eq_false h1; omega
    subst this
    refine k4.ldN rfl (k8.stN rfl rfl (by simp [Value.oneCell']; exact slc_one k1.isS) ?_)
    intro q27 F k8
    have bs := bs.fm F (by simp <;> omega)
    have k1 := k1.fm F (by simp <;> omega)
    exact k8.ldN rfl ⟨v, own, rfl, bs, k1⟩

end

end Go.Proofs.Ytdblngaacnpgmaa

namespace Go.Proofs.Ytdblngaacnpgmaa
open Go
set_option linter.unusedVariables false
set_option linter.unusedSimpArgs false

theorem SolR.one {h h' : H} {n m : Nat} {es : Nat → Ed} {s t b1 b2 : Nat} {f : Nat → Int} {sd : Nat → Bool} : ∀ v ∈ flV s t (slV b1 m) (slV b2 n), v.oneCell' = true := by
  simp [Value.oneCell']

end Go.Proofs.Ytdblngaacnpgmaa

namespace Go.Proofs.Ytdblngaacnpgmaa
open Go
open Classical
set_option linter.unusedVariables false
set_option linter.unusedSimpArgs false

section
variable {n m : Nat} {fr to : Nat → Nat} {cap f g : Nat → Int} {s t : Nat}
theorem FlowP.sink (F : FlowP n m fr to cap s t f) (hn : ∀ i, i < m → fr i < n ∧ to i < n) (hs : s < n) (ht : t < n) (hst : s ≠ t) : OutF m fr to f t = - OutF m fr to f s := by
  have tot := out_all (f := f) hn
  have : sumN n (fun v => OutF m fr to f v) = OutF m fr to f s + OutF m fr to f t := by
    have e : sumN n (fun v => OutF m fr to f v) = sumN n fun v => (if s = v then OutF m fr to f s else 0) + (if t = v then OutF m fr to f t else 0) := sumN_congr fun v hv => by
      by_cases e1 : s = v
      · subst e1; rw [if_pos rfl, if_neg (fun h => hst h.symm)]; omega
      · by_cases e2 : t = v
        · subst e2; rw [if_neg hst, if_pos rfl]; omega
        · rw [if_neg e1, if_neg e2, F.cons v hv (fun h => e1 h.symm) (fun h => e2 h.symm)]; rfl
    rw [e, sumN_add, sumN_pt, sumN_pt, if_pos hs, if_pos ht]
  omega
theorem cut_upd {C : Nat → Prop} {k : Nat} {x : Int} (hk : k < m) : cutC m fr to (upd cap k x) C = cutC m fr to cap C + (if C (fr k) ∧ ¬ C (to k) then x - cap k else 0) := by
  unfold cutC
  have e : (fun i => if C (fr i) ∧ ¬ C (to i) then upd cap k x i else 0) = upd (fun i => if C (fr i) ∧ ¬ C (to i) then cap i else 0) k (if C (fr k) ∧ ¬ C (to k) then x else 0) := by
    funext i
    by_cases e : i = k
    · subst e; rw [upd_at, upd_at]
    · rw [upd_ne e, upd_ne e]
  rw [e, sumN_upd hk]
  split <;> omega
theorem MaxP.less {fl : Nat → Int} {k : Nat} (F : MaxP n m fr to cap s t f) (L : MaxP n m fr to (upd cap k 0) s t fl) (hn : ∀ i, i < m → fr i < n ∧ to i < n) (hs : s < n) (hk : k < m) (hc : 0 ≤ cap k) :
    OutF m fr to fl s ≤ OutF m fr to f s ∧ OutF m fr to f s - OutF m fr to fl s ≤ cap k := by
  have c1 := F.cut hn hs
  have c2 := L.cut hn hs
  have l1 := L.fl.le_cut hn hs (C := Rch (RsS m fr to cap f) s) .refl F.nr
  have l2 := F.fl.le_cut hn hs (C := Rch (RsS m fr to (upd cap k 0) fl) s) .refl L.nr
  rw [cut_upd hk] at l1 c2
  constructor
  · split at l1 <;> omega
  · split at c2 <;> omega
theorem MaxP.more {fm : Nat → Int} {k : Nat} (F : MaxP n m fr to cap s t f) (M : MaxP n m fr to (upd cap k (cap k + 1)) s t fm) (hn : ∀ i, i < m → fr i < n ∧ to i < n) (hs : s < n) (hk : k < m) :
    (OutF m fr to fm s = OutF m fr to f s + 1 ∧ Rch (RsS m fr to cap f) s (fr k) ∧ Rch (RsS m fr to cap f) (to k) t) ∨
    (OutF m fr to fm s = OutF m fr to f s ∧ ¬ (Rch (RsS m fr to cap f) s (fr k) ∧ Rch (RsS m fr to cap f) (to k) t)) := by
  have c1 := F.cut hn hs
  have c2 := M.cut hn hs
  have l1 := M.fl.le_cut hn hs (C := Rch (RsS m fr to cap f) s) .refl F.nr
  have l2 := F.fl.le_cut hn hs (C := Rch (RsS m fr to (upd cap k (cap k + 1)) fm) s) .refl M.nr
  rw [cut_upd hk] at l1 c2
  by_cases hg : Rch (RsS m fr to cap f) s (fr k) ∧ Rch (RsS m fr to cap f) (to k) t
  · refine .inl ⟨?_, hg⟩
    have le1 : OutF m fr to fm s ≤ OutF m fr to f s + 1 := by split at l1 <;> omega
    apply Classical.byContradiction
    intro hne
    have hle : cutC m fr to cap (Rch (RsS m fr to (upd cap k (cap k + 1)) fm) s) ≤ OutF m fr to f s := by split at c2 <;> omega
    have h1 := MaxP.sub F.fl hn hs (C := Rch (RsS m fr to (upd cap k (cap k + 1)) fm) s) .refl M.nr hle hg.1
    have h2 : ¬ Rch (RsS m fr to (upd cap k (cap k + 1)) fm) s (to k) := by
      intro h2
      refine M.nr (hg.2.closed (C := Rch (RsS m fr to (upd cap k (cap k + 1)) fm) s) h2 ?_)
      rintro u w hu ⟨i, hi, ⟨rfl, rfl, k3⟩ | ⟨rfl, rfl, k3⟩⟩
      · apply Classical.byContradiction
        intro hw
        have := (F.fl.tight hn hs .refl M.nr hle i hi).1 hu hw
        omega
      · apply Classical.byContradiction
        intro hw
        have := (F.fl.tight hn hs .refl M.nr hle i hi).2 hw hu
        omega
    rw [if_pos ⟨h1, h2⟩] at c2
    omega
  · refine .inr ⟨?_, hg⟩
    have ge : OutF m fr to f s ≤ OutF m fr to fm s := by split at c2 <;> omega
    by_cases h1 : Rch (RsS m fr to cap f) s (fr k)
    · have h2 : ¬ Rch (RsS m fr to cap f) (to k) t := fun h => hg ⟨h1, h⟩
      have e := F.fl.tight' hn hs (C := fun u => ¬ Rch (RsS m fr to cap f) u t) F.nr (fun h => h .refl) (fun u w hu r h => hu (h.head r))
      have l := M.fl.le_cut hn hs (C := fun u => ¬ Rch (RsS m fr to cap f) u t) F.nr (fun h => h .refl)
      rw [cut_upd hk, if_neg (fun h => h.2 h2)] at l
      omega
    · rw [if_neg (fun h => h1 h.1)] at l1
      omega
end

end Go.Proofs.Ytdblngaacnpgmaa

namespace Go.Proofs.Ytdblngaacnpgmaa
open Go
set_option linter.unusedVariables false
set_option linter.unusedSimpArgs false

theorem SolA.ok {h h' : H} {n s t m : Nat} {k : Int} {es : Nat → Ed} {r : Res} (A : SolA h n m es s t k r h') (hw : wrong13 n m es s t k = 0) :
    ∃ b1 b2 f sd, r = .ret (.tuple ⟨[.agg ⟨flV s t (slV b1 m) (slV b2 n)⟩, .int .i64 (OutF m (frE es) (toE es) f s), .int .i64 0]⟩) ∧ SolR h h' n m es s t b1 b2 f sd ∧ Ext h h' := by
  rcases A with ⟨x, ⟨h, _⟩ | ⟨_, n', s', t', b1, b2, f, sd, e1, e2, e3, _, _, _, _, rfl, S⟩⟩
  · exact absurd hw h
  · have : n' = n := by omega
    subst this
    have : s' = s := by omega
    subst this
    have : t' = t := by omega
    subst this
    exact ⟨b1, b2, f, sd, rfl, S, x⟩
section
variable {h : H} {w : List Value}
theorem Own.join {h0 h1 h2 : H} {o1 o2 : Own} (B1_ : Bs h0 o1 h1) (B2_ : Bs h1 o2 h2) : ∃ o : Own, Bs h0 o h2 ∧ Fm [] o1 h1 o h2 ∧ ∀ b, o2 b ≠ 0 → o b = 10 + o2 b := by
  classical
  refine ⟨fun b => if (∃ x, h1 b = some x) then o1 b else 10 + o2 b, ⟨B1_.ext.trans' B2_.ext, fun b x e => ?_⟩, ⟨fun b x e _ => B2_.ext b x e, fun b x e => ⟨⟨x, B2_.ext b x e⟩, if_pos ⟨x, e⟩⟩⟩, fun b hb => if_neg ?_⟩
  · rw [if_pos ⟨x, B1_.ext b x e⟩]; exact B1_.old b x e
  · rintro ⟨x, e⟩; exact hb (B2_.old b x e)
theorem S4.rel {own own' : Own} {h : H} {i j m : Nat} {v : Value} {es : Nat → Ed} (s : S4 own h i v m es) (hr : ∀ b, own b = i → own' b = j) : S4 own' h j v m es := by
  rcases s with s | ⟨b, c, e, zs, hb, h1, h2, h3⟩
  · exact .inl s
  · exact .inr ⟨b, c, e, zs, hr b hb, h1, h2, h3⟩
end

end Go.Proofs.Ytdblngaacnpgmaa

namespace Go.Proofs.Ytdblngaacnpgmaa
open Go
set_option linter.unusedVariables false
set_option linter.unusedSimpArgs false

section
variable {h : H} {w : List Value} {m : Nat} {es : Nat → Ed}

theorem ldI0 {b : Nat} {K : Int → Prop} (H0 : ldI h ((bk b).add 0) .i64 K) : ldI h (bk b) .i64 K := by rwa [add_zero'] at H0
end

end Go.Proofs.Ytdblngaacnpgmaa

namespace Go.Proofs.Ytdblngaacnpgmaa
open Go
set_option linter.unusedVariables false
set_option linter.unusedSimpArgs false
set_option maxRecDepth 100000

section
variable {h : H} {w w2 : List Value} {n : Int} {m : Nat} {es : Nat → Ed}
theorem S4.cut {own : Own} {i : Nat} {v : Value} (s : S4 own h i v (m + 1) es) : ∃ b c, v = .slice (some (bk b)) (m + 1) c ∧ m + 1 ≤ c := by
  rcases s with ⟨e, _⟩ | ⟨b, c, e, zs, _, h1, _, h3⟩
  · omega
  · exact ⟨b, c, h1, by omega⟩
theorem Gs.take {a : Option Addr} {c : Nat} {es' : Nat → Ed} (s : Gs h (.slice a (m + 1) c) (m + 1) es') (he : ∀ j, j < m → es' j = es j) : Gs h (.slice a m c) m es := by
  obtain ⟨a', c', e, H⟩ := s
  cases e
  exact ⟨_, _, rfl, fun i hi => by rw [← he i hi]; exact H i (by omega)⟩
end

end Go.Proofs.Ytdblngaacnpgmaa

namespace Go.Proofs.Ytdblngaacnpgmaa
open Go
set_option linter.unusedVariables false
set_option linter.unusedSimpArgs false

/-- The second answer. -/
def Bk (n : Int) (m : Nat) (es : Nat → Ed) (own : Own) (q : H) (flv : List Value) (v2 e2 : Int) : Prop :=
  (e2 ≠ 0 ∧ flv = flZ) ∨ (e2 = 0 ∧ ∃ (n' s' t' d1 d2 : Nat) (f : Nat → Int) (sd : Nat → Bool), n = n' ∧ flv = flV s' t' (slV d1 m) (slV d2 n') ∧ s' < n' ∧ t' < n' ∧ s' ≠ t' ∧ Gd n' m es ∧
    v2 = OutF m (frE es) (toE es) f s' ∧ MaxP n' m (frE es) (toE es) (cpE es) s' t' f ∧ (∀ v, v < n' → (sd v = true ↔ Rch (RsS m (frE es) (toE es) (cpE es) f) s' v)) ∧
    S1 own q 8 (slV d1 m) (ints m f) ∧ S1 own q 9 (slV d2 n') (bools n' sd))
theorem Bk.fm {n : Int} {m : Nat} {es : Nat → Ed} {own own' : Own} {q q' : H} {flv : List Value} {v2 e2 : Int} {M : List Nat} (B : Bk n m es own q flv v2 e2) (F : Fm M own q own' q') (h8 : 8 ∉ M ∧ 9 ∉ M) : Bk n m es own' q' flv v2 e2 := by
  rcases B with B | ⟨e, n', s', t', d1, d2, f, sd, a1, a2, a3, a4, a5, a6, a7, a8, a9, k8, k9⟩
  · exact .inl B
  · exact .inr ⟨e, n', s', t', d1, d2, f, sd, a1, a2, a3, a4, a5, a6, a7, a8, a9, k8.fm F h8.1, k9.fm F h8.2⟩
theorem Bk.nw {n : Int} {m : Nat} {es : Nat → Ed} {own : Own} {q q' : H} {flv : List Value} {v2 e2 : Int} {b j : Nat} (B : Bk n m es own q flv v2 e2) (x : Ext q q') (hb : q b = none) : Bk n m es (own1 own b j) q' flv v2 e2 :=
  B.fm (M := []) (Fm.new x hb) (by simp)
theorem Bk.one {n : Int} {m : Nat} {es : Nat → Ed} {own : Own} {q : H} {flv : List Value} {v2 e2 : Int} (B : Bk n m es own q flv v2 e2) : flv.length = 4 ∧ ∀ v ∈ flv, v.oneCell' = true := by
  rcases B with ⟨_, rfl⟩ | ⟨e, n', s', t', d1, d2, f, sd, a1, rfl, _⟩
  · exact ⟨rfl, by simp [Value.oneCell']⟩
  · exact ⟨rfl, by simp [Value.oneCell']⟩

end Go.Proofs.Ytdblngaacnpgmaa

namespace Go.Proofs.Ytdblngaacnpgmaa
open Go
open Classical
set_option linter.unusedVariables false

/-- Of more things than places two have the same. -/
theorem pigeon : ∀ {n : Nat} {x : Nat → Nat}, (∀ i, i ≤ n → x i < n) → ∃ i j, i < j ∧ j ≤ n ∧ x i = x j
  | 0, x, h => absurd (h 0 (Nat.le_refl 0)) (Nat.not_lt_zero _)
  | n + 1, x, h => by
    by_cases c : ∃ i, i ≤ n ∧ x i = x (n + 1)
    · obtain ⟨i, hi, e⟩ := c
      exact ⟨i, n + 1, by omega, Nat.le_refl _, e⟩
    have hc : ∀ i, i ≤ n → x i ≠ x (n + 1) := fun i hi e => c ⟨i, hi, e⟩
    have hl := h (n + 1) (Nat.le_refl _)
    obtain ⟨i, j, h1, h2, h3⟩ := pigeon (n := n) (x := fun i => if x i < x (n + 1) then x i else x i - 1) (fun i hi => by
      have := hc i hi
      have := h i (by omega)
      split <;> omega)
    refine ⟨i, j, h1, by omega, ?_⟩
    have a := hc i (by omega)
    have b := hc j h2
    split at h3 <;> split at h3 <;> omega

def updN (f : Nat → Nat) (i x : Nat) : Nat → Nat := fun j => if j = i then x else f j
theorem updN_at {f : Nat → Nat} {i x : Nat} : updN f i x i = x := if_pos rfl
theorem updN_ne {f : Nat → Nat} {i x j : Nat} (h : j ≠ i) : updN f i x j = f j := if_neg h
/-- Distances are made less along edges: in round k, at edge j. r: the round of the last change, τ: its time. -/
structure BF (M : Nat) (fr to : Nat → Nat) (c : Nat → Int) (U : Nat → Prop) (C : Int) (k j : Nat) (d : Nat → Int) (via τ r : Nat → Nat) (tm : Nat) : Prop where
  set : ∀ v, 0 < r v → via v < M ∧ U (via v) ∧ to (via v) = v ∧ d (fr (via v)) + c (via v) ≤ d v ∧ (τ v ≤ τ (fr (via v)) → d (fr (via v)) + c (via v) < d v)
  rnd : ∀ v, 0 < r v → r v ≤ r (fr (via v)) + 1
  rk : ∀ v, r v ≤ k
  tmx : ∀ v, τ v < tm
  un0 : ∀ v, r v = 0 → d v = 0
  neg : ∀ v, d v ≤ 0
  lb : ∀ v, -(tm * C) ≤ d v
  tri1 : ∀ i, i < j → i < M → U i → r (fr i) < k → d (to i) ≤ d (fr i) + c i
  tri2 : ∀ i, j ≤ i → i < M → U i → r (fr i) + 1 < k → d (to i) ≤ d (fr i) + c i

section
variable {M : Nat} {fr to : Nat → Nat} {c : Nat → Int} {U : Nat → Prop} {C : Int} {k j : Nat} {d : Nat → Int} {via τ r : Nat → Nat} {tm : Nat}
theorem BF.start (hC : 0 ≤ C) : BF M fr to c U C 1 0 (fun _ => 0) via (fun _ => 0) (fun _ => 0) 1 := by
  refine ⟨fun v h => by omega, fun v h => by omega, fun v => by omega, fun v => by omega, fun v _ => rfl, fun v => Int.le_refl _, fun v => by simp; omega, fun i h => by omega, fun i _ _ _ h => by omega⟩
theorem BF.skip (B : BF M fr to c U C k j d via τ r tm) (h : ¬ U j ∨ d (to j) ≤ d (fr j) + c j) : BF M fr to c U C k (j + 1) d via τ r tm := by
  refine ⟨B.set, B.rnd, B.rk, B.tmx, B.un0, B.neg, B.lb, fun i h1 h2 h3 h4 => ?_, fun i h1 => B.tri2 i (by omega)⟩
  by_cases e : i = j
  · subst e
    rcases h with h | h
    · exact absurd h3 h
    · exact h
  · exact B.tri1 i (by omega) h2 h3 h4
theorem BF.next (B : BF M fr to c U C k M d via τ r tm) : BF M fr to c U C (k + 1) 0 d via τ r tm :=
  ⟨B.set, B.rnd, fun v => by have := B.rk v; omega, B.tmx, B.un0, B.neg, B.lb, fun i h => by omega, fun i _ h2 h3 h4 => B.tri1 i h2 h2 h3 (by omega)⟩
/-- A round without a change: nothing can be made less. -/
theorem BF.done (B : BF M fr to c U C k M d via τ r tm) (h : ∀ v, r v < k) : ∀ i, i < M → U i → d (to i) ≤ d (fr i) + c i := fun i hi hu => B.tri1 i hi hi hu (h _)

/-- The way back. -/
def bck (fr via : Nat → Nat) (v : Nat) : Nat → Nat
  | 0 => v
  | i + 1 => fr (via (bck fr via v i))
theorem bck_add {v i : Nat} : ∀ {l : Nat}, bck fr via v (i + l) = bck fr via (bck fr via v i) l
  | 0 => rfl
  | l + 1 => by
    show fr (via (bck fr via v (i + l))) = fr (via (bck fr via (bck fr via v i) l))
    rw [bck_add]
/-- Round about: less than nothing. -/
theorem BF.circ (B : BF M fr to c U C k j d via τ r tm) {y p : Nat} (hp : 1 ≤ p) (hy : bck fr via y p = y) (hr : ∀ i, i < p → 0 < r (bck fr via y i)) :
    sumN p (fun s => c (via (bck fr via y s))) < 0 := by
  have key : ∀ q, q ≤ p → sumN q (fun s => c (via (bck fr via y s))) < d y - d (bck fr via y q) ∨
      (sumN q (fun s => c (via (bck fr via y s))) ≤ d y - d (bck fr via y q) ∧ τ (bck fr via y q) + q ≤ τ y) := by
    intro q
    induction q with
    | zero => intro _; right; exact ⟨by show (0 : Int) ≤ d y - d y; omega, Nat.le_refl _⟩
    | succ q ih =>
      intro hq
      obtain ⟨_, _, _, h4, h5⟩ := B.set _ (hr q (by omega))
      have e : sumN (q + 1) (fun s => c (via (bck fr via y s))) = sumN q (fun s => c (via (bck fr via y s))) + c (via (bck fr via y q)) := rfl
      have e2 : bck fr via y (q + 1) = fr (via (bck fr via y q)) := rfl
      rw [e, e2]
      by_cases ht : τ (bck fr via y q) ≤ τ (fr (via (bck fr via y q)))
      · have := h5 ht
        rcases ih (by omega) with h | ⟨h, _⟩ <;> (left; omega)
      · rcases ih (by omega) with h | ⟨h, h'⟩
        · left; omega
        · right; exact ⟨by omega, by omega⟩
  rcases key p (Nat.le_refl _) with h | ⟨_, h⟩
  · rw [hy] at h; omega
  · rw [hy] at h; omega
/-- Who was changed in round n + 1 hangs on a circle. -/
theorem BF.found {n : Nat} (B : BF M fr to c U C (n + 1) j d via τ r tm) (hn : ∀ i, i < M → fr i < n ∧ to i < n) {v : Nat} (hv : r v = n + 1) :
    (∀ i, 0 < r (bck fr via v i)) ∧ ∃ p, 1 ≤ p ∧ p ≤ n ∧ bck fr via (bck fr via v n) p = bck fr via v n := by
  have h1 : ∀ i, i ≤ n → n + 1 ≤ r (bck fr via v i) + i := by
    intro i
    induction i with
    | zero => intro _; show n + 1 ≤ r v + 0; omega
    | succ i ih =>
      intro hi
      have a := ih (by omega)
      have := B.rnd (bck fr via v i) (by omega)
      show n + 1 ≤ r (fr (via (bck fr via v i))) + (i + 1)
      omega
  have hlt : ∀ i, 0 < r (bck fr via v i) → bck fr via v i < n := fun i hi => by
    obtain ⟨a, _, b, _⟩ := B.set _ hi
    have := (hn _ a).2
    omega
  obtain ⟨i, l, h2, h3, h4⟩ := pigeon (n := n) (x := bck fr via v) fun i hi => hlt i (by have := h1 i hi; omega)
  have hs : ∀ s, bck fr via v (i + s) = bck fr via v (l + s) := fun s => by rw [bck_add, bck_add, h4]
  have hall : ∀ b t, t ≤ b → 0 < r (bck fr via v t) := by
    intro b
    induction b with
    | zero => intro t ht; have := h1 t (by omega); omega
    | succ b ih =>
      intro t ht
      by_cases e : t ≤ n
      · have := h1 t e; omega
      · have := hs (t - l)
        rw [show l + (t - l) = t by omega] at this
        rw [← this]
        exact ih _ (by omega)
  refine ⟨fun i => hall i i (Nat.le_refl _), l - i, by omega, by omega, ?_⟩
  rw [← bck_add]
  have := hs (n - i)
  rw [show i + (n - i) = n by omega, show l + (n - i) = n + (l - i) by omega] at this
  exact this.symm
/-- Without a circle less than nothing the distances are not far below 0. -/
theorem BF.low {n : Nat} (B : BF M fr to c U C k j d via τ r tm) (hn : ∀ i, i < M → fr i < n ∧ to i < n) (hC : ∀ i, i < M → -C ≤ c i) (hC0 : 0 ≤ C)
    (tri : ∀ i, i < M → U i → d (to i) ≤ d (fr i) + c i) (v : Nat) : -(n * C) ≤ d v := by
  have some0 : ∃ i, i ≤ n ∧ r (bck fr via v i) = 0 := by
    apply Classical.byContradiction
    intro h
    have hr : ∀ i, i ≤ n → 0 < r (bck fr via v i) := fun i hi => by
      apply Classical.byContradiction
      intro h2; exact h ⟨i, hi, by omega⟩
    obtain ⟨i, l, h2, h3, h4⟩ := pigeon (n := n) (x := bck fr via v) fun i hi => by
      obtain ⟨a, _, b, _⟩ := B.set _ (hr i hi)
      have := (hn _ a).2
      omega
    have hy : bck fr via (bck fr via v i) (l - i) = bck fr via v i := by
      rw [← bck_add, show i + (l - i) = l by omega, h4]
    have hc := B.circ (y := bck fr via v i) (p := l - i) (by omega) hy fun s hs => by
      rw [← bck_add]; exact hr _ (by omega)
    have : ∀ q, q ≤ l - i → d (bck fr via v i) - d (bck fr via (bck fr via v i) q) ≤ sumN q fun s => c (via (bck fr via (bck fr via v i) s)) := by
      intro q
      induction q with
      | zero => intro _; show d (bck fr via v i) - d (bck fr via v i) ≤ 0; omega
      | succ q ih =>
        intro hq
        have a := ih (by omega)
        obtain ⟨b1, b2, b3, _⟩ := B.set (bck fr via (bck fr via v i) q) (by rw [← bck_add]; exact hr _ (by omega))
        have b4 := tri _ b1 b2
        rw [b3] at b4
        show d (bck fr via v i) - d (fr (via (bck fr via (bck fr via v i) q))) ≤ sumN q (fun s => c (via (bck fr via (bck fr via v i) s))) + c (via (bck fr via (bck fr via v i) q))
        omega
    have := this (l - i) (Nat.le_refl _)
    rw [hy] at this
    omega
  have key : ∀ i, i ≤ n → (∀ l, l < i → 0 < r (bck fr via v l)) → d (bck fr via v i) - (i * C) ≤ d v := by
    intro i
    induction i with
    | zero => intro _ _; show d v - ((0 : Nat) : Int) * C ≤ d v; simp
    | succ i ih =>
      intro hi hl
      have a := ih (by omega) fun l h => hl l (by omega)
      obtain ⟨b1, b2, b3, b4, _⟩ := B.set _ (hl i (by omega))
      have b5 := hC _ b1
      have e : ((i + 1 : Nat) : Int) * C = i * C + C := by rw [Int.natCast_add, Int.add_mul]; simp
      rw [e]
      show d (fr (via (bck fr via v i))) - _ ≤ d v
      generalize (i : Int) * C = P at *
      omega
  have least : ∃ i, i ≤ n ∧ r (bck fr via v i) = 0 ∧ ∀ l, l < i → 0 < r (bck fr via v l) := by
    obtain ⟨i, hi, hr⟩ := some0
    have : ∀ b i, i ≤ b → i ≤ n → r (bck fr via v i) = 0 → ∃ i, i ≤ n ∧ r (bck fr via v i) = 0 ∧ ∀ l, l < i → 0 < r (bck fr via v l) := by
      intro b
      induction b with
      | zero => intro i h1 h2 h3; exact ⟨i, h2, h3, fun l hl => by omega⟩
      | succ b ih =>
        intro i h1 h2 h3
        by_cases e : ∃ l, l < i ∧ r (bck fr via v l) = 0
        · obtain ⟨l, hl, e⟩ := e
          exact ih l (by omega) (by omega) e
        · exact ⟨i, h2, h3, fun l hl => by
            apply Classical.byContradiction
            intro h; exact e ⟨l, hl, by omega⟩⟩
    exact this i i (Nat.le_refl _) hi hr
  obtain ⟨i, hi, hr, hl⟩ := least
  have a := key i hi hl
  rw [B.un0 _ hr] at a
  have : (i : Int) * C ≤ n * C := Int.mul_le_mul_of_nonneg_right (by omega) hC0
  omega
end

end Go.Proofs.Ytdblngaacnpgmaa

namespace Go.Proofs.Ytdblngaacnpgmaa
open Go
open Classical
set_option linter.unusedVariables false

abbrev ckE (es : Nat → Ed) (i : Nat) : Int := (es i).k
/-- An arc's cost. -/
def cA (k : Nat → Int) (a : Nat) : Int := if a % 2 = 0 then k (a / 2) else - k (a / 2)
theorem cA_0 {k : Nat → Int} (i : Nat) : cA k (2 * i) = k i := by unfold cA; rw [if_pos (by omega), show 2 * i / 2 = i by omega]
theorem cA_1 {k : Nat → Int} (i : Nat) : cA k (2 * i + 1) = - k i := by unfold cA; rw [if_neg (by omega), show (2 * i + 1) / 2 = i by omega]
theorem tlA_0 {fr to : Nat → Nat} (i : Nat) : tlA fr to (2 * i) = fr i := by unfold tlA; rw [if_pos (by omega), show 2 * i / 2 = i by omega]
theorem tlA_1 {fr to : Nat → Nat} (i : Nat) : tlA fr to (2 * i + 1) = to i := by unfold tlA; rw [if_neg (by omega), show (2 * i + 1) / 2 = i by omega]
theorem hdA_0 {fr to : Nat → Nat} (i : Nat) : hdA fr to (2 * i) = to i := by unfold hdA; rw [if_pos (by omega), show 2 * i / 2 = i by omega]
theorem hdA_1 {fr to : Nat → Nat} (i : Nat) : hdA fr to (2 * i + 1) = fr i := by unfold hdA; rw [if_neg (by omega), show (2 * i + 1) / 2 = i by omega]
/-- What amounts cost. -/
def totC (m : Nat) (k f : Nat → Int) : Int := sumN m fun i => k i * f i
/-- Amounts that meet supplies. -/
structure PlanP (n m : Nat) (fr to : Nat → Nat) (cap b f : Nat → Int) : Prop where
  cp : ∀ i, i < m → 0 ≤ f i ∧ f i ≤ cap i
  out : ∀ v, v < n → OutF m fr to f v = b v
/-- The potentials prove it. -/
def PotP (m : Nat) (fr to : Nat → Nat) (cap k f p : Nat → Int) : Prop :=
  ∀ i, i < m → (0 < k i + p (fr i) - p (to i) → f i = 0) ∧ (k i + p (fr i) - p (to i) < 0 → f i = cap i)
/-- No arc with room costs less than nothing, by potentials. -/
def RedP (m : Nat) (fr to : Nat → Nat) (k room p : Nat → Int) : Prop := ∀ a, a < 2 * m → 0 < room a → 0 ≤ cA k a + p (tlA fr to a) - p (hdA fr to a)

section
variable {n m : Nat} {fr to : Nat → Nat} {cap k b f g p room : Nat → Int}
theorem RedP.pot (R : RmP m cap room) (P : RedP m fr to k room p) : PotP m fr to cap k (onR room) p := by
  intro i hi
  have e := R.sum i hi
  have h1 := R.pos (2 * i) (by omega)
  have h2 := R.pos (2 * i + 1) (by omega)
  have a := P (2 * i) (by omega)
  have c := P (2 * i + 1) (by omega)
  rw [cA_0, tlA_0, hdA_0] at a
  rw [cA_1, tlA_1, hdA_1] at c
  unfold onR
  constructor
  · intro h
    apply Classical.byContradiction
    intro h3
    have := c (by omega); omega
  · intro h
    apply Classical.byContradiction
    intro h3
    have := a (by omega); omega
theorem RmP.plan (R : RmP m cap room) (ho : ∀ v, v < n → OutF m fr to (onR room) v = b v) : PlanP n m fr to cap b (onR room) :=
  ⟨fun i hi => by
    have e := R.sum i hi
    have h1 := R.pos (2 * i) (by omega)
    have h2 := R.pos (2 * i + 1) (by omega)
    unfold onR; omega, ho⟩
theorem pot_out (hn : ∀ i, i < m → fr i < n ∧ to i < n) (p h : Nat → Int) :
    sumN m (fun i => (p (fr i) - p (to i)) * h i) = sumN n fun v => p v * OutF m fr to h v := by
  have e1 : sumN n (fun v => p v * OutF m fr to h v) = sumN n fun v => sumN m fun i => (if fr i = v then p (fr i) * h i else 0) - (if to i = v then p (to i) * h i else 0) := by
    refine sumN_congr fun v _ => ?_
    unfold OutF
    rw [← sumN_mul]
    refine sumN_congr fun i _ => ?_
    rw [Int.mul_sub]
    congr 1
    · by_cases e : fr i = v
      · rw [if_pos e, if_pos e, e]
      · rw [if_neg e, if_neg e, Int.mul_zero]
    · by_cases e : to i = v
      · rw [if_pos e, if_pos e, e]
      · rw [if_neg e, if_neg e, Int.mul_zero]
  rw [e1, sumN_swap]
  refine sumN_congr fun i hi => ?_
  have := hn i hi
  rw [sumN_sub, sumN_pt, sumN_pt, if_pos this.1, if_pos this.2, Int.sub_mul]
/-- What is proved costs no more than anything else. -/
theorem PlanP.best (F : PlanP n m fr to cap b f) (G : PlanP n m fr to cap b g) (hn : ∀ i, i < m → fr i < n ∧ to i < n) (P : PotP m fr to cap k f p) : totC m k f ≤ totC m k g := by
  have e1 : sumN m (fun i => (p (fr i) - p (to i)) * (g i - f i)) = 0 := by
    have : (fun i => (p (fr i) - p (to i)) * (g i - f i)) = fun i => (p (fr i) - p (to i)) * g i - (p (fr i) - p (to i)) * f i := by
      funext i; rw [Int.mul_sub]
    rw [this, sumN_sub, pot_out hn p g, pot_out hn p f, ← sumN_sub]
    refine sumN_zero fun v hv => ?_
    rw [F.out v hv, G.out v hv]; omega
  have e2 : totC m k g - totC m k f = sumN m (fun i => (k i + p (fr i) - p (to i)) * (g i - f i)) := by
    have e3 : sumN m (fun i => (k i + p (fr i) - p (to i)) * (g i - f i)) = sumN m (fun i => (k i * g i - k i * f i) + (p (fr i) - p (to i)) * (g i - f i)) := sumN_congr fun i _ => by
      rw [show k i + p (fr i) - p (to i) = k i + (p (fr i) - p (to i)) by omega, Int.add_mul, Int.mul_sub]
    rw [e3, sumN_add, e1, sumN_sub]; unfold totC; omega
  have e4 : 0 ≤ sumN m (fun i => (k i + p (fr i) - p (to i)) * (g i - f i)) := sumN_nonneg fun i hi => by
    have a := F.cp i hi
    have c := G.cp i hi
    have q := P i hi
    by_cases h1 : 0 < k i + p (fr i) - p (to i)
    · exact Int.mul_nonneg (by omega) (by have := q.1 h1; omega)
    · by_cases h2 : k i + p (fr i) - p (to i) < 0
      · exact Int.mul_nonneg_of_nonpos_of_nonpos (by omega) (by have := q.2 h2; omega)
      · rw [show k i + p (fr i) - p (to i) = 0 by omega, Int.zero_mul]; omega
  omega
/-- More is supplied on a side than can leave it. -/
theorem PlanP.side (F : PlanP n m fr to cap b f) (hn : ∀ i, i < m → fr i < n ∧ to i < n) (C : Nat → Prop) : sumN n (fun v => if C v then b v else 0) ≤ cutC m fr to cap C := by
  have e := out_side (f := f) hn C
  have e2 : sumN n (fun v => if C v then b v else 0) = sumN n (fun v => if C v then OutF m fr to f v else 0) := sumN_congr fun v hv => by rw [F.out v hv]
  rw [e2, e]
  refine sumN_le fun i hi => ?_
  have := F.cp i hi
  by_cases h1 : C (fr i) <;> by_cases h2 : C (to i) <;> simp [h1, h2] <;> omega
end

end Go.Proofs.Ytdblngaacnpgmaa

namespace Go.Proofs.Ytdblngaacnpgmaa
open Go
set_option linter.unusedVariables false

theorem upd2_at {st : Nat → Nat → Int} {v j : Nat} {x : Int} : upd2 st v j x v j = x := if_pos ⟨rfl, rfl⟩
theorem upd2_v {st : Nat → Nat → Int} {v j w i : Nat} {x : Int} (h : w ≠ v) : upd2 st v j x w i = st w i := if_neg (fun k => h k.1)
theorem upd2_j {st : Nat → Nat → Int} {v j w i : Nat} {x : Int} (h : i ≠ j) : upd2 st v j x w i = st w i := if_neg (fun k => h k.2)

/-- Each is followed by the next: field 3 goes on, field 2 back. -/
def Lk (st : Nat → Nat → Int) : List Nat → Prop
  | a :: b :: t => st a 3 = (b : Nat) ∧ st b 2 = (a : Nat) ∧ Lk st (b :: t)
  | _ => True
def Cyc (st : Nat → Nat → Int) : List Nat → Prop
  | [] => True
  | a :: t => Lk st (a :: t ++ [a])
section
variable {st st' : Nat → Nat → Int}
theorem Lk.app {a : Nat} {l2 : List Nat} : ∀ {l1 : List Nat}, Lk st (l1 ++ a :: l2) ↔ Lk st (l1 ++ [a]) ∧ Lk st (a :: l2)
  | [] => by simp [Lk]
  | [x] => by simp [Lk, and_assoc]
  | x :: y :: t => by
    have := Lk.app (a := a) (l2 := l2) (l1 := y :: t)
    simp only [List.cons_append, Lk] at this ⊢
    rw [this]; simp [and_assoc]
theorem Lk.snoc {a b : Nat} {l : List Nat} : Lk st (l ++ [a, b]) ↔ Lk st (l ++ [a]) ∧ st a 3 = b ∧ st b 2 = a := by
  rw [show l ++ [a, b] = l ++ a :: [b] from rfl, Lk.app]
  simp [Lk]
theorem Lk.congr : ∀ {l : List Nat}, (∀ x ∈ l.dropLast, st' x 3 = st x 3) → (∀ x ∈ l.tail, st' x 2 = st x 2) → Lk st l → Lk st' l
  | [], _, _, _ => trivial
  | [x], _, _, _ => trivial
  | a :: b :: t, h3, h2, h => by
    refine ⟨?_, ?_, Lk.congr (l := b :: t) (fun x hx => h3 x ?_) (fun x hx => h2 x ?_) h.2.2⟩
    · rw [h3 a (by simp)]; exact h.1
    · rw [h2 b (by simp)]; exact h.2.1
    · rw [List.dropLast_cons_of_ne_nil (by simp)]; exact List.mem_cons_of_mem _ hx
    · exact List.mem_cons_of_mem _ hx
theorem Cyc.rot {l1 l2 : List Nat} (h : Cyc st (l1 ++ l2)) : Cyc st (l2 ++ l1) := by
  cases l1 with
  | nil => simpa using h
  | cons a t =>
    cases l2 with
    | nil => simpa using h
    | cons b u =>
      have h : Lk st (a :: (t ++ b :: u) ++ [a]) := h
      show Lk st (b :: (u ++ a :: t) ++ [b])
      have e1 : a :: (t ++ b :: u) ++ [a] = (a :: t) ++ b :: (u ++ [a]) := by simp
      have e2 : b :: (u ++ a :: t) ++ [b] = (b :: u) ++ a :: (t ++ [b]) := by simp
      rw [e1, Lk.app] at h
      rw [e2, Lk.app]
      exact ⟨h.2, h.1⟩
theorem Cyc.congr {l : List Nat} (h3 : ∀ x ∈ l, st' x 3 = st x 3) (h2 : ∀ x ∈ l, st' x 2 = st x 2) (h : Cyc st l) : Cyc st' l := by
  cases l with
  | nil => trivial
  | cons a t =>
    refine Lk.congr (fun x hx => h3 x ?_) (fun x hx => h2 x ?_) h
    · rw [show a :: t ++ [a] = (a :: t) ++ [a] from rfl, List.dropLast_concat] at hx; exact hx
    · have hx : x ∈ t ++ [a] := hx
      simp only [List.mem_append, List.mem_singleton] at hx
      rcases hx with h | rfl
      · exact List.mem_cons_of_mem _ h
      · exact List.mem_cons_self
/-- From any of its nodes on. -/
theorem Cyc.from {l : List Nat} {x : Nat} (h : Cyc st l) (hx : x ∈ l) (nd : l.Nodup) : ∃ t, Cyc st (x :: t) ∧ (x :: t).Nodup ∧ (∀ y, y ∈ x :: t ↔ y ∈ l) ∧ (x :: t).length = l.length := by
  obtain ⟨l1, l2, rfl⟩ := List.append_of_mem hx
  have p : ((x :: l2) ++ l1).Perm (l1 ++ x :: l2) := List.perm_append_comm
  exact ⟨l2 ++ l1, h.rot, p.nodup_iff.2 nd, fun y => p.mem_iff, p.length_eq⟩
/-- A node is put in behind at. -/
def jn (st : Nat → Nat → Int) (h at_ : Nat) : Nat → Nat → Int :=
  upd2 (upd2 (upd2 (upd2 st h 2 (at_ : Nat)) h 3 (st at_ 3)) at_ 3 (h : Nat)) (st at_ 3).toNat 2 (h : Nat)
theorem Cyc.next {a : Nat} {t : List Nat} (h : Cyc st (a :: t)) : ∃ r s, t ++ [a] = r :: s ∧ st a 3 = (r : Nat) ∧ st r 2 = (a : Nat) ∧ Lk st (r :: s) := by
  cases t with
  | nil => exact ⟨a, [], rfl, h.1, h.2.1, trivial⟩
  | cons b u => exact ⟨b, u ++ [a], rfl, h.1, h.2.1, h.2.2⟩
theorem Cyc.join {a h : Nat} {t : List Nat} (C : Cyc st (a :: t)) (nd : (a :: t).Nodup) (hh : h ∉ a :: t) : Cyc (jn st h a) (a :: h :: t) := by
  obtain ⟨r, s, e, h1, h2, h3⟩ := C.next
  have er : (st a 3).toNat = r := by rw [h1]; omega
  have nd2 : (t ++ [a]).Nodup := (List.perm_append_comm (l₁ := t) (l₂ := [a])).nodup_iff.2 nd
  have hmem : ∀ x, x ∈ t ++ [a] ↔ x ∈ a :: t := fun x => (List.perm_append_comm (l₁ := t) (l₂ := [a])).mem_iff
  have hra : h ≠ r := by
    rintro rfl
    exact hh ((hmem h).1 (by rw [e]; simp))
  have hha : h ≠ a := by rintro rfl; simp at hh
  show Lk (jn st h a) (a :: h :: (t ++ [a]))
  rw [e]
  rw [e] at nd2
  refine ⟨?_, ?_, ?_, ?_, ?_⟩
  · unfold jn; rw [er, upd2_j (by omega), upd2_at]
  · unfold jn; rw [er, upd2_v hra, upd2_j (by omega), upd2_j (by omega), upd2_at]
  · unfold jn; rw [er, upd2_j (by omega), upd2_v hha, upd2_at, h1]
  · unfold jn; rw [er, upd2_at]
  · refine Lk.congr (fun x hx => ?_) (fun x hx => ?_) h3
    · have hx2 : x ∈ t := by rw [← e, List.dropLast_concat] at hx; exact hx
      have n1 : x ≠ a := by rintro rfl; exact (List.nodup_cons.1 nd).1 hx2
      have n2 : x ≠ h := by rintro rfl; exact hh (List.mem_cons_of_mem _ hx2)
      unfold jn; rw [upd2_j (by omega), upd2_v n1, upd2_v n2, upd2_v n2]
    · have hx : x ∈ s := hx
      have n1 : x ≠ r := by rintro rfl; exact (List.nodup_cons.1 nd2).1 hx
      have n2 : x ≠ h := by
        rintro rfl
        exact hh ((hmem _).1 (by rw [e]; exact List.mem_cons_of_mem _ hx))
      unfold jn; rw [er, upd2_v n1, upd2_j (by omega), upd2_j (by omega), upd2_v n2]
/-- A node alone. -/
theorem Cyc.one {a : Nat} (h3 : st a 3 = (a : Nat)) (h2 : st a 2 = (a : Nat)) : Cyc st [a] := ⟨h3, h2, trivial⟩
/-- A node is taken out of its ring. -/
def lv (st : Nat → Nat → Int) (h : Nat) : Nat → Nat → Int :=
  upd2 (upd2 (upd2 (upd2 st (st h 2).toNat 3 (st h 3)) (st h 3).toNat 2 (st h 2)) h 2 (h : Nat)) h 3 (h : Nat)
theorem Cyc.sides {h : Nat} {t : List Nat} (C : Cyc st (h :: t)) : ∃ l r : Nat, st h 2 = l ∧ st h 3 = r ∧ l ∈ h :: t ∧ r ∈ h :: t := by
  obtain ⟨r, s, e, h1, h2, h3⟩ := C.next
  have hr : r ∈ h :: t := (List.perm_append_comm (l₁ := t) (l₂ := [h])).mem_iff.1 (by rw [e]; simp)
  have : ∃ l, l ∈ h :: t ∧ st h 2 = (l : Nat) := by
    rcases List.eq_nil_or_concat t with rfl | ⟨u, z, rfl⟩
    · exact ⟨h, by simp, C.2.1⟩
    · have C : Lk st (h :: (u ++ [z]) ++ [h]) := by simpa [Cyc] using C
      have e : h :: (u ++ [z]) ++ [h] = (h :: u) ++ [z, h] := by simp
      rw [e, Lk.snoc] at C
      exact ⟨z, by simp, C.2.2⟩
  obtain ⟨l, hl, e2⟩ := this
  exact ⟨l, r, e2, h1, hl, hr⟩
theorem Cyc.leave {h : Nat} {t : List Nat} (C : Cyc st (h :: t)) (nd : (h :: t).Nodup) : Cyc (lv st h) t := by
  cases t with
  | nil => trivial
  | cons y t' =>
    have hy : st h 3 = (y : Nat) := C.1
    have hyt : h ∉ y :: t' := (List.nodup_cons.1 nd).1
    have ndt := (List.nodup_cons.1 nd).2
    show Lk (lv st h) (y :: t' ++ [y])
    rcases List.eq_nil_or_concat (y :: t') with e | ⟨u, z, e⟩
    · cases e
    · have e : y :: t' = u ++ [z] := by simpa using e
      have C : Lk st (h :: (y :: t') ++ [h]) := C
      rw [e] at C
      have e3 : h :: (u ++ [z]) ++ [h] = (h :: u) ++ [z, h] := by simp
      rw [e3, Lk.snoc] at C
      obtain ⟨C1, hz3, hz2⟩ := C
      have C1 : Lk st (u ++ [z]) := by
        have : Lk st (h :: (u ++ [z])) := C1
        rw [← e] at this ⊢
        exact this.2.2
      have ez : (st h 2).toNat = z := by rw [hz2]; omega
      have ey : (st h 3).toNat = y := by rw [hy]; omega
      have hzm : z ∈ y :: t' := by rw [e]; simp
      have nz : z ≠ h := by rintro rfl; exact hyt hzm
      have ny : y ≠ h := by rintro rfl; exact hyt (by simp)
      rw [e]
      have e4 : u ++ [z] ++ [y] = u ++ [z, y] := by simp
      rw [e4, Lk.snoc]
      refine ⟨Lk.congr (fun x hx => ?_) (fun x hx => ?_) C1, ?_, ?_⟩
      · rw [List.dropLast_concat] at hx
        have n1 : x ≠ z := by
          rintro rfl
          rw [e] at ndt
          have := List.nodup_append.1 ndt
          exact absurd rfl (this.2.2 x hx x (by simp))
        have n2 : x ≠ h := by rintro rfl; exact hyt (by rw [e]; simp [hx])
        unfold lv; rw [ez, ey, upd2_v n2, upd2_v n2, upd2_j (by omega), upd2_v n1]
      · have hx' : x ∈ t' := by rw [← e] at hx; exact hx
        have n1 : x ≠ y := by rintro rfl; exact (List.nodup_cons.1 ndt).1 hx'
        have n2 : x ≠ h := by rintro rfl; exact hyt (List.mem_cons_of_mem _ hx')
        unfold lv; rw [ez, ey, upd2_v n2, upd2_v n2, upd2_v n1, upd2_j (by omega)]
      · unfold lv; rw [ez, ey, upd2_v nz, upd2_v nz, upd2_j (by omega), upd2_at, hy]
      · unfold lv; rw [ez, ey, upd2_v ny, upd2_v ny, upd2_at, hz2]
/-- Off the ring nothing changes. -/
theorem jn_out {h a x j : Nat} {t : List Nat} (C : Cyc st (a :: t)) (hx : x ∉ a :: t) (hh : x ≠ h) : jn st h a x j = st x j := by
  obtain ⟨r, s, e, h1, h2, h3⟩ := C.next
  have er : (st a 3).toNat = r := by rw [h1]; omega
  have hr : r ∈ a :: t := (List.perm_append_comm (l₁ := t) (l₂ := [a])).mem_iff.1 (by rw [e]; simp)
  unfold jn
  rw [er, upd2_v (by rintro rfl; exact hx hr), upd2_v (by rintro rfl; simp at hx), upd2_v hh, upd2_v hh]
theorem lv_out {h x j : Nat} {t : List Nat} (C : Cyc st (h :: t)) (hx : x ∉ h :: t) : lv st h x j = st x j := by
  obtain ⟨l, r, e1, e2, hl, hr⟩ := C.sides
  have hh : x ≠ h := by rintro rfl; simp at hx
  unfold lv
  rw [e1, e2, Int.toNat_natCast, Int.toNat_natCast, upd2_v hh, upd2_v hh, upd2_v (by rintro rfl; exact hx hr), upd2_v (by rintro rfl; exact hx hl)]
end

end Go.Proofs.Ytdblngaacnpgmaa

namespace Go.Proofs.Ytdblngaacnpgmaa
open Go
open Classical
set_option linter.unusedVariables false

/-- Who comes out ahead of whom. -/
def ahd (key : Nat → Int) (a b : Nat) : Prop := key a < key b ∨ (key a = key b ∧ a < b)
theorem ahd_tr {key : Nat → Int} {a b c : Nat} (h : ahd key a b) (k : ahd key b c) : ahd key a c := by unfold ahd at *; omega
theorem ahd_irr {key : Nat → Int} {a : Nat} : ¬ ahd key a a := by unfold ahd; omega
/-- How many are so. -/
noncomputable def cntP (n : Nat) (P : Nat → Prop) : Int := sumN n fun x => if P x then 1 else 0
theorem cntP_congr {n : Nat} {P Q : Nat → Prop} (h : ∀ x, x < n → (P x ↔ Q x)) : cntP n P = cntP n Q := sumN_congr fun x hx => by
  by_cases e : P x
  · rw [if_pos e, if_pos ((h x hx).1 e)]
  · rw [if_neg e, if_neg (fun k => e ((h x hx).2 k))]
theorem cntP_le {n : Nat} {P Q : Nat → Prop} (h : ∀ x, x < n → P x → Q x) : cntP n P ≤ cntP n Q := sumN_le fun x hx => by
  by_cases e : P x
  · rw [if_pos e, if_pos (h x hx e)]; omega
  · rw [if_neg e]; split <;> omega
theorem cntP_0 {n : Nat} {P : Nat → Prop} (h : ∀ x, x < n → ¬ P x) : cntP n P = 0 := sumN_zero fun x hx => if_neg (h x hx)
theorem cntP_all {n : Nat} {P : Nat → Prop} : cntP n P ≤ n := by
  have := sumN_bd (f := fun x => if P x then 1 else 0) (k := n) (c := 1) fun x _ => by split <;> omega
  unfold cntP; omega
theorem cntP_add {n a : Nat} {P : Nat → Prop} (ha : a < n) (h : ¬ P a) : cntP n (fun x => x = a ∨ P x) = cntP n P + 1 := by
  have : cntP n (fun x => x = a ∨ P x) = sumN n fun x => (if P x then 1 else 0) + (if a = x then 1 else 0) := sumN_congr fun x _ => by
    by_cases e : x = a
    · subst e; rw [if_pos (.inl rfl), if_neg h, if_pos rfl]; rfl
    · by_cases k : P x
      · rw [if_pos (.inr k), if_pos k, if_neg (fun h => e h.symm)]; rfl
      · rw [if_neg (by rintro (h | h); exact e h; exact k h), if_neg k, if_neg (fun h => e h.symm)]; rfl
  rw [this, sumN_add, sumN_pt, if_pos ha]; rfl
theorem cntP_one {n a : Nat} {P : Nat → Prop} (ha : a < n) (h : P a) : 1 ≤ cntP n P := by
  have := cntP_le (n := n) (P := fun x => x = a ∨ False) (Q := P) (fun x _ hx => by rcases hx with rfl | h; exact h; exact h.elim)
  rw [cntP_add ha (fun h => h)] at this
  rw [cntP_0 (P := fun _ => False) fun _ _ h => h] at this
  omega
/-- At most one more. -/
theorem cntP_le1 {n a : Nat} {P Q : Nat → Prop} (h : ∀ x, x < n → P x → x = a ∨ Q x) : cntP n P ≤ cntP n Q + 1 := by
  by_cases ha : a < n
  · by_cases q : Q a
    · have := cntP_le (n := n) (P := P) (Q := Q) fun x hx hp => by
        rcases h x hx hp with rfl | h
        · exact q
        · exact h
      omega
    · have := cntP_le (n := n) (P := P) (Q := fun x => x = a ∨ Q x) h
      rw [cntP_add ha q] at this; omega
  · have := cntP_le (n := n) (P := P) (Q := Q) fun x hx hp => by
      rcases h x hx hp with rfl | h
      · exact absurd hx ha
      · exact h
    omega
theorem cntP_list {n : Nat} : ∀ {l : List Nat}, l.Nodup → (∀ x ∈ l, x < n) → cntP n (fun x => x ∈ l) = l.length
  | [], _, _ => cntP_0 fun x _ h => by simp at h
  | a :: t, nd, h => by
    have ih := cntP_list (l := t) (List.nodup_cons.1 nd).2 fun x hx => h x (List.mem_cons_of_mem _ hx)
    have : cntP n (fun x => x ∈ a :: t) = cntP n fun x => x = a ∨ x ∈ t := cntP_congr fun x _ => List.mem_cons
    rw [this, cntP_add (h a (by simp)) (List.nodup_cons.1 nd).1, ih]; simp

/-- A forest: A the nodes, R the tops, C p the ring of p's children; z may be out of order, y have one child less than its mark tells. -/
structure FT (n : Nat) (key : Nat → Int) (A R : Nat → Prop) (z y : Int) (st : Nat → Nat → Int) (C : Nat → List Nat) : Prop where
  lt : ∀ x, A x → x < n
  ra : ∀ x, R x → A x
  mem : ∀ p x, A p → (x ∈ C p ↔ A x ∧ ¬ R x ∧ st x 0 = (p : Nat))
  nd : ∀ p, A p → (C p).Nodup
  cyc : ∀ p, A p → Cyc st (C p)
  par : ∀ x, A x → ¬ R x → ∃ p : Nat, st x 0 = p ∧ A p
  ch : ∀ p, A p → (C p = [] ∧ st p 1 = -1) ∨ ∃ c : Nat, st p 1 = c ∧ c ∈ C p
  ord : ∀ x p : Nat, A x → ¬ R x → st x 0 = p → (x : Int) ≠ z → ahd key p x
  dg : ∀ p, A p → st p 4 = (C p).length
  cn : ∀ p, A p → ∀ d : Nat, cntP n (fun x => A x ∧ ¬ R x ∧ st x 0 = (p : Nat) ∧ st x 4 + st x 5 + (if (x : Int) = y then 1 else 0) ≤ d) ≤ d + 1
  mrk : ∀ x, A x → st x 5 = 0 ∨ st x 5 = 1

section
variable {n : Nat} {key : Nat → Int} {A R : Nat → Prop} {z y : Int} {st st' : Nat → Nat → Int} {C : Nat → List Nat}
theorem FT.len (F : FT n key A R z y st C) {p : Nat} (hp : A p) : cntP n (fun x => A x ∧ ¬ R x ∧ st x 0 = (p : Nat)) = (C p).length := by
  rw [← cntP_list (F.nd p hp) fun x hx => F.lt x ((F.mem p x hp).1 hx).1]
  exact cntP_congr fun x _ => (F.mem p x hp).symm
theorem FT.congr (F : FT n key A R z y st C) (h0 : ∀ x, A x → ¬ R x → ∀ j, st' x j = st x j) (h1 : ∀ x, A x → st' x 1 = st x 1 ∧ st' x 4 = st x 4) (h5 : ∀ x, A x → st' x 5 = 0 ∨ st' x 5 = 1) : FT n key A R z y st' C := by
  have hm : ∀ p x, A p → x ∈ C p → A x ∧ ¬ R x := fun p x hp hx => let h := (F.mem p x hp).1 hx; ⟨h.1, h.2.1⟩
  refine ⟨F.lt, F.ra, fun p x hp => ?_, F.nd, fun p hp => ?_, fun x hx hr => ?_, fun p hp => ?_, fun x p hx hr hp => ?_, fun p hp => ?_, fun p hp d => ?_, h5⟩
  · rw [F.mem p x hp]
    constructor
    · rintro ⟨a, b, c⟩; exact ⟨a, b, by rw [h0 x a b]; exact c⟩
    · rintro ⟨a, b, c⟩; exact ⟨a, b, by rw [h0 x a b] at c; exact c⟩
  · exact (F.cyc p hp).congr (fun x hx => h0 x (hm p x hp hx).1 (hm p x hp hx).2 3) (fun x hx => h0 x (hm p x hp hx).1 (hm p x hp hx).2 2)
  · rw [h0 x hx hr]; exact F.par x hx hr
  · rw [(h1 p hp).1]; exact F.ch p hp
  · rw [h0 x hx hr] at hp; exact F.ord x p hx hr hp
  · rw [(h1 p hp).2]; exact F.dg p hp
  · rw [cntP_congr (Q := fun x => A x ∧ ¬ R x ∧ st x 0 = (p : Nat) ∧ st x 4 + st x 5 + (if (x : Int) = y then 1 else 0) ≤ d) fun x _ => ?_]
    · exact F.cn p hp d
    · constructor
      · rintro ⟨a, b, c, e⟩; rw [h0 x a b, h0 x a b] at e; rw [h0 x a b] at c; exact ⟨a, b, c, e⟩
      · rintro ⟨a, b, c, e⟩; refine ⟨a, b, ?_, ?_⟩
        · rw [h0 x a b]; exact c
        · rw [h0 x a b, h0 x a b]; exact e
/-- The best of the tops is the best of all. -/
theorem FT.min (F : FT n key A R (-1) (-1) st C) {b : Nat} (hb : ∀ v, R v → v = b ∨ ahd key b v) : ∀ x, A x → x = b ∨ ahd key b x := by
  have key2 : ∀ k : Nat, ∀ x, A x → cntP n (fun y => ahd key y x) ≤ k → x = b ∨ ahd key b x := by
    intro k
    induction k with
    | zero =>
      intro x hx hk
      by_cases hr : R x
      · exact hb x hr
      · obtain ⟨p, hp, hap⟩ := F.par x hx hr
        have := F.ord x p hx hr hp (by omega)
        have := cntP_one (n := n) (P := fun y => ahd key y x) (F.lt p hap) this
        omega
    | succ k ih =>
      intro x hx hk
      by_cases hr : R x
      · exact hb x hr
      · obtain ⟨p, hp, hap⟩ := F.par x hx hr
        have ho := F.ord x p hx hr hp (by omega)
        have h1 : cntP n (fun y => y = p ∨ ahd key y p) ≤ cntP n (fun y => ahd key y x) := cntP_le fun y _ hy => by
          rcases hy with rfl | hy
          · exact ho
          · exact ahd_tr hy ho
        rw [cntP_add (P := fun y => ahd key y p) (F.lt p hap) ahd_irr] at h1
        right
        rcases ih p hap (by omega) with rfl | h
        · exact ho
        · exact ahd_tr h ho
  intro x hx
  exact key2 n x hx cntP_all
end

end Go.Proofs.Ytdblngaacnpgmaa

namespace Go.Proofs.Ytdblngaacnpgmaa
open Go
open Classical
set_option linter.unusedVariables false

section
variable {n : Nat} {key : Nat → Int} {A R : Nat → Prop} {z y : Int} {st st' : Nat → Nat → Int} {C : Nat → List Nat}
theorem FT.rekey {key' : Nat → Int} (F : FT n key A R z y st C) (h : ∀ x, A x → ¬ R x → ∀ p : Nat, st x 0 = p → (x : Int) ≠ z → ahd key p x → ahd key' p x) : FT n key' A R z y st C :=
  ⟨F.lt, F.ra, F.mem, F.nd, F.cyc, F.par, F.ch, fun x p hx hr hp hz => h x hx hr p hp hz (F.ord x p hx hr hp hz), F.dg, F.cn, F.mrk⟩
/-- A new top. -/
theorem FT.put (F : FT n key A R (-1) (-1) st C) {h : Nat} (hn : h < n) (hA : ¬ A h) (hs : ∀ x, x ≠ h → ∀ j, st' x j = st x j) (h1 : st' h 1 = -1) (h4 : st' h 4 = 0) (h5 : st' h 5 = 0) :
    FT n key (fun x => x = h ∨ A x) (fun x => x = h ∨ R x) (-1) (-1) st' (fun p => if p = h then [] else C p) := by
  have ne : ∀ x, A x → x ≠ h := fun x hx e => hA (e ▸ hx)
  have hp : ∀ x : Nat, A x → ¬ R x → st x 0 ≠ (h : Nat) := fun x hx hr e => by
    obtain ⟨p, e2, hp⟩ := F.par x hx hr
    have : p = h := by omega
    exact hA (this ▸ hp)
  have out : ∀ x, (x = h ∨ A x) ∧ ¬ (x = h ∨ R x) ↔ A x ∧ ¬ R x := fun x => by
    constructor
    · rintro ⟨h1 | h1, h2⟩
      · exact absurd (.inl h1) h2
      · exact ⟨h1, fun k => h2 (.inr k)⟩
    · rintro ⟨h1, h2⟩
      exact ⟨.inr h1, by rintro (k | k); exact ne x h1 k; exact h2 k⟩
  refine ⟨?_, ?_, ?_, ?_, ?_, ?_, ?_, ?_, ?_, ?_, ?_⟩
  · rintro x (rfl | hx)
    · exact hn
    · exact F.lt x hx
  · rintro x (rfl | hx)
    · exact .inl rfl
    · exact .inr (F.ra x hx)
  · intro p x hpA
    rw [← and_assoc, out x]
    by_cases e : p = h
    · subst e
      rw [if_pos rfl]
      constructor
      · intro k; simp at k
      · rintro ⟨⟨k1, k2⟩, k3⟩
        rw [hs x (ne x k1)] at k3
        exact absurd k3 (hp x k1 k2)
    · rw [if_neg e, F.mem p x (hpA.resolve_left e)]
      constructor
      · rintro ⟨a, b, c⟩; exact ⟨⟨a, b⟩, by rw [hs x (ne x a)]; exact c⟩
      · rintro ⟨⟨a, b⟩, c⟩; exact ⟨a, b, by rw [hs x (ne x a)] at c; exact c⟩
  · intro p hpA
    show (if p = h then [] else C p).Nodup
    by_cases e : p = h
    · rw [if_pos e]; exact List.nodup_nil
    · rw [if_neg e]; exact F.nd p (hpA.resolve_left e)
  · intro p hpA
    show Cyc st' (if p = h then [] else C p)
    by_cases e : p = h
    · rw [if_pos e]; trivial
    · rw [if_neg e]
      have hpA := hpA.resolve_left e
      exact (F.cyc p hpA).congr (fun x hx => hs x (ne x ((F.mem p x hpA).1 hx).1) 3) (fun x hx => hs x (ne x ((F.mem p x hpA).1 hx).1) 2)
  · intro x hx hr
    obtain ⟨a, b⟩ := (out x).1 ⟨hx, hr⟩
    obtain ⟨p, e, hpA⟩ := F.par x a b
    exact ⟨p, by rw [hs x (ne x a)]; exact e, .inr hpA⟩
  · intro p hpA
    show ((if p = h then [] else C p) = [] ∧ _) ∨ ∃ c : Nat, _ ∧ c ∈ (if p = h then [] else C p)
    by_cases e : p = h
    · subst e; rw [if_pos rfl]; exact .inl ⟨rfl, h1⟩
    · rw [if_neg e, hs p e]; exact F.ch p (hpA.resolve_left e)
  · intro x p hx hr hp' hz
    obtain ⟨a, b⟩ := (out x).1 ⟨hx, hr⟩
    rw [hs x (ne x a)] at hp'
    exact F.ord x p a b hp' hz
  · intro p hpA
    show _ = (((if p = h then [] else C p).length : Nat) : Int)
    by_cases e : p = h
    · subst e; rw [if_pos rfl, h4]; rfl
    · rw [if_neg e, hs p e]; exact F.dg p (hpA.resolve_left e)
  · intro p hpA d
    by_cases e : p = h
    · subst e
      rw [cntP_0]
      · omega
      · rintro x _ ⟨k1, k2, k3, _⟩
        obtain ⟨a, b⟩ := (out x).1 ⟨k1, k2⟩
        rw [hs x (ne x a)] at k3
        exact hp x a b k3
    · refine Int.le_trans (cntP_le fun x _ => ?_) (F.cn p (hpA.resolve_left e) d)
      rintro ⟨k1, k2, k3, k4⟩
      obtain ⟨a, b⟩ := (out x).1 ⟨k1, k2⟩
      rw [hs x (ne x a)] at k3
      rw [hs x (ne x a), hs x (ne x a)] at k4
      exact ⟨a, b, k3, k4⟩
  · rintro x (rfl | hx)
    · exact .inl h5
    · rw [hs x (ne x hx)]; exact F.mrk x hx

/-- A node is cut off its parent. -/
theorem FT.drop (F : FT n key A R z y st C) {h p : Nat} (hA : A h) (hR : ¬ R h) (hp : st h 0 = (p : Nat)) (hz : ∀ x : Nat, x ≠ h → (x : Int) ≠ z) (hy : ∀ x : Nat, x ≠ h → (x : Int) ≠ y)
    (s0 : ∀ x, x ≠ p → ∀ j, j ≠ 2 ∧ j ≠ 3 → st' x j = st x j) (s4 : st' p 4 = st p 4 - 1) (s1 : st' p 1 = if st p 4 - 1 = 0 then -1 else if st p 1 = (h : Nat) then st h 3 else st p 1)
    (sp : st' p 0 = st p 0 ∧ st' p 5 = st p 5) (sl : ∀ x, st' x 2 = lv st h x 2 ∧ st' x 3 = lv st h x 3) :
    ∃ C', FT n key A (fun x => x = h ∨ R x) (-1) (p : Nat) st' C' := by
  obtain ⟨p', hp', hpA⟩ := F.par h hA hR
  have : p' = p := by omega
  subst this
  have hmem : h ∈ C p' := (F.mem p' h hpA).2 ⟨hA, hR, hp⟩
  obtain ⟨t, hc, hnd, hm, hl⟩ := (F.cyc p' hpA).from hmem (F.nd p' hpA)
  have ht : ∀ x, x ∈ t ↔ x ∈ C p' ∧ x ≠ h := fun x => by
    rw [← hm x]
    constructor
    · intro k; exact ⟨List.mem_cons_of_mem _ k, by rintro rfl; exact (List.nodup_cons.1 hnd).1 k⟩
    · rintro ⟨k, k2⟩
      rcases List.mem_cons.1 k with e | e
      · exact absurd e k2
      · exact e
  have e0 : ∀ x, st' x 0 = st x 0 := fun x => by
    by_cases e : x = p'
    · subst e; exact sp.1
    · exact s0 x e 0 (by omega)
  have e5 : ∀ x, st' x 5 = st x 5 := fun x => by
    by_cases e : x = p'
    · subst e; exact sp.2
    · exact s0 x e 5 (by omega)
  have eC : ∀ q, (if q = p' then t else C q) = if q = p' then t else C q := fun _ => rfl
  refine ⟨fun q => if q = p' then t else C q, F.lt, ?_, ?_, ?_, ?_, ?_, ?_, ?_, ?_, ?_, ?_⟩
  · rintro x (rfl | hx)
    · exact hA
    · exact F.ra x hx
  · intro q x hq
    show x ∈ (if q = p' then t else C q) ↔ _
    rw [e0]
    by_cases e : q = p'
    · subst e
      rw [if_pos rfl, ht, F.mem q x hq]
      constructor
      · rintro ⟨⟨a, b, c⟩, d⟩; exact ⟨a, by rintro (k | k); exact d k; exact b k, c⟩
      · rintro ⟨a, b, c⟩; exact ⟨⟨a, fun k => b (.inr k), c⟩, fun k => b (.inl k)⟩
    · rw [if_neg e, F.mem q x hq]
      constructor
      · rintro ⟨a, b, c⟩
        refine ⟨a, ?_, c⟩
        rintro (k | k)
        · subst k; omega
        · exact b k
      · rintro ⟨a, b, c⟩; exact ⟨a, fun k => b (.inr k), c⟩
  · intro q hq
    show (if q = p' then t else C q).Nodup
    by_cases e : q = p'
    · rw [if_pos e]; exact (List.nodup_cons.1 hnd).2
    · rw [if_neg e]; exact F.nd q hq
  · intro q hq
    show Cyc st' (if q = p' then t else C q)
    by_cases e : q = p'
    · rw [if_pos e]
      exact (hc.leave hnd).congr (fun x _ => (sl x).2) (fun x _ => (sl x).1)
    · rw [if_neg e]
      have hout : ∀ x ∈ C q, x ∉ h :: t := fun x hx k => by
        have a := (F.mem q x hq).1 hx
        have b := (F.mem p' x hpA).1 ((hm x).1 k)
        omega
      refine (F.cyc q hq).congr (fun x hx => ?_) (fun x hx => ?_)
      · rw [(sl x).2, lv_out hc (hout x hx)]
      · rw [(sl x).1, lv_out hc (hout x hx)]
  · intro x hx hr
    rw [e0]; exact F.par x hx fun k => hr (.inr k)
  · intro q hq
    show ((if q = p' then t else C q) = [] ∧ _) ∨ ∃ c : Nat, _ ∧ c ∈ (if q = p' then t else C q)
    by_cases e : q = p'
    · subst e
      rw [if_pos rfl, s1]
      have hd := F.dg q hpA
      rw [← hl] at hd
      by_cases k : st q 4 - 1 = 0
      · rw [if_pos k]
        left
        refine ⟨?_, rfl⟩
        have : t.length = 0 := by simp at hd; omega
        exact List.length_eq_zero_iff.1 this
      · rw [if_neg k]
        right
        have htne : t ≠ [] := by
          rintro rfl
          simp at hd; omega
        by_cases k2 : st q 1 = (h : Nat)
        · rw [if_pos k2]
          cases t with
          | nil => exact absurd rfl htne
          | cons a u => exact ⟨a, hc.1, by simp⟩
        · rw [if_neg k2]
          rcases F.ch q hpA with ⟨k3, _⟩ | ⟨c, k3, k4⟩
          · rw [k3] at hmem; simp at hmem
          · exact ⟨c, k3, (ht c).2 ⟨k4, by rintro rfl; exact k2 k3⟩⟩
    · rw [if_neg e, s0 q e 1 (by omega)]; exact F.ch q hq
  · intro x q hx hr hq _
    rw [e0] at hq
    exact F.ord x q hx (fun k => hr (.inr k)) hq (hz x fun k => hr (.inl k))
  · intro q hq
    show _ = (((if q = p' then t else C q).length : Nat) : Int)
    by_cases e : q = p'
    · subst e; rw [if_pos rfl, s4, F.dg q hq, ← hl]; simp
    · rw [if_neg e, s0 q e 4 (by omega)]; exact F.dg q hq
  · intro q hq d
    refine Int.le_trans (cntP_le fun x _ => ?_) (F.cn q hq d)
    rintro ⟨a, b, c, e⟩
    have hxh : x ≠ h := fun k => b (.inl k)
    refine ⟨a, fun k => b (.inr k), by rw [e0] at c; exact c, ?_⟩
    rw [if_neg (hy x hxh)]
    rw [e5] at e
    by_cases k : x = p'
    · subst k; rw [s4, if_pos rfl] at e; omega
    · rw [s0 x k 4 (by omega), if_neg (by omega)] at e; exact e
  · intro x hx; rw [e5]; exact F.mrk x hx
/-- The parent is marked. -/
theorem FT.mark (F : FT n key A R (-1) y st C) {p : Nat} (hy : y = (p : Nat)) (hp : A p) (h5 : st p 5 = 0) (hs : ∀ x j, (x ≠ p ∨ j ≠ 5) → st' x j = st x j) (h5' : st' p 5 = 1) : FT n key A R (-1) (-1) st' C := by
  refine ⟨F.lt, F.ra, fun q x hq => ?_, F.nd, fun q hq => ?_, fun x hx hr => ?_, fun q hq => ?_, fun x q hx hr hq => ?_, fun q hq => ?_, fun q hq d => ?_, fun x hx => ?_⟩
  · rw [hs x 0 (.inr (by omega))]; exact F.mem q x hq
  · exact (F.cyc q hq).congr (fun x _ => hs x 3 (.inr (by omega))) (fun x _ => hs x 2 (.inr (by omega)))
  · rw [hs x 0 (.inr (by omega))]; exact F.par x hx hr
  · rw [hs q 1 (.inr (by omega))]; exact F.ch q hq
  · rw [hs x 0 (.inr (by omega))] at hq; exact F.ord x q hx hr hq
  · rw [hs q 4 (.inr (by omega))]; exact F.dg q hq
  · refine Int.le_trans (cntP_le fun x _ => ?_) (F.cn q hq d)
    rintro ⟨a, b, c, e⟩
    rw [hs x 0 (.inr (by omega))] at c
    rw [hs x 4 (.inr (by omega)), if_neg (by omega)] at e
    refine ⟨a, b, c, ?_⟩
    by_cases k : x = p
    · subst k; rw [if_pos (by omega)]; omega
    · rw [if_neg (by omega)]; rw [hs x 5 (.inl k)] at e; exact e
  · by_cases k : x = p
    · subst k; exact .inr h5'
    · rw [hs x 5 (.inl k)]; exact F.mrk x hx
end

end Go.Proofs.Ytdblngaacnpgmaa

namespace Go.Proofs.Ytdblngaacnpgmaa
open Go
open Classical
set_option linter.unusedVariables false

section
variable {n : Nat} {key : Nat → Int} {A R : Nat → Prop} {z y : Int} {st st' : Nat → Nat → Int} {C : Nat → List Nat}
/-- A top becomes the child of another of the same degree. -/
theorem FT.hang (F : FT n key A R (-1) (-1) st C) {a b : Nat} (ha : R a) (hb : R b) (hab : ahd key a b) (hd : st b 4 = st a 4)
    (s0 : ∀ x, x ≠ a → x ≠ b → ∀ j, j ≠ 2 ∧ j ≠ 3 → st' x j = st x j) (sa : st' a 0 = st a 0 ∧ st' a 5 = st a 5) (sa4 : st' a 4 = st a 4 + 1)
    (sb : st' b 0 = (a : Nat) ∧ st' b 1 = st b 1 ∧ st' b 4 = st b 4 ∧ st' b 5 = st b 5)
    (sc : (st a 1 = -1 ∧ st' a 1 = (b : Nat) ∧ st b 2 = (b : Nat) ∧ st b 3 = (b : Nat) ∧ (∀ x, st' x 2 = st x 2 ∧ st' x 3 = st x 3)) ∨
      (∃ c : Nat, st a 1 = c ∧ st' a 1 = c ∧ ∀ x, st' x 2 = jn st b c x 2 ∧ st' x 3 = jn st b c x 3)) :
    ∃ C', FT n key A (fun x => R x ∧ x ≠ b) (-1) (-1) st' C' := by
  have hA := F.ra a ha
  have hB := F.ra b hb
  have hne : a ≠ b := by rintro rfl; exact ahd_irr hab
  have hbC : ∀ p, A p → b ∉ C p := fun p hp k => ((F.mem p b hp).1 k).2.1 hb
  have haC : ∀ p, A p → a ∉ C p := fun p hp k => ((F.mem p a hp).1 k).2.1 ha
  -- the ring of a's children
  obtain ⟨L, hL1, hL2, hL3, hL4, hL5, hL6⟩ : ∃ L : List Nat, Cyc st' L ∧ L.Nodup ∧ (∀ x, x ∈ L ↔ x = b ∨ x ∈ C a) ∧ L.length = (C a).length + 1 ∧ (∃ c : Nat, st' a 1 = c ∧ c ∈ L) ∧
      ∀ p, A p → p ≠ a → ∀ x ∈ C p, st' x 2 = st x 2 ∧ st' x 3 = st x 3 := by
    rcases sc with ⟨h1, h2, h3, h4, h5⟩ | ⟨c, h1, h2, h3⟩
    · have hnil : C a = [] := by
        rcases F.ch a hA with ⟨k, _⟩ | ⟨c, k, _⟩
        · exact k
        · omega
      refine ⟨[b], Cyc.one (by rw [(h5 b).2]; exact h4) (by rw [(h5 b).1]; exact h3), by simp, fun x => by rw [hnil]; simp, by rw [hnil]; rfl, ⟨b, h2, by simp⟩, fun _ _ _ x _ => h5 x⟩
    · have hc : c ∈ C a := by
        rcases F.ch a hA with ⟨_, k⟩ | ⟨c', k, k2⟩
        · omega
        · have : c' = c := by omega
          exact this ▸ k2
      obtain ⟨t, k1, k2, k3, k4⟩ := (F.cyc a hA).from hc (F.nd a hA)
      have hbt : b ∉ c :: t := fun k => hbC a hA ((k3 b).1 k)
      refine ⟨c :: b :: t, (k1.join k2 hbt).congr (fun x _ => (h3 x).2) (fun x _ => (h3 x).1), ?_, fun x => ?_, ?_, ⟨c, h2, by simp⟩, ?_⟩
      · simp only [List.nodup_cons, List.mem_cons] at k2 hbt ⊢
        refine ⟨?_, fun k => hbt (.inr k), k2.2⟩
        rintro (k | k)
        · exact hbt (.inl k.symm)
        · exact k2.1 k
      · rw [← k3 x]; simp only [List.mem_cons]
        constructor
        · rintro (k | k | k)
          · exact .inr (.inl k)
          · exact .inl k
          · exact .inr (.inr k)
        · rintro (k | k | k)
          · exact .inr (.inl k)
          · exact .inl k
          · exact .inr (.inr k)
      · rw [← k4]; simp
      · intro p hp hpa x hx
        have hout : x ∉ c :: t := fun k => by
          have a1 := (F.mem p x hp).1 hx
          have a2 := (F.mem a x hA).1 ((k3 x).1 k)
          omega
        have hxb : x ≠ b := by rintro rfl; exact hbC p hp hx
        rw [(h3 x).1, (h3 x).2, jn_out k1 hout hxb, jn_out k1 hout hxb]
        exact ⟨rfl, rfl⟩
  have out : ∀ x, A x → ¬ (R x ∧ x ≠ b) → x = b ∨ (x ≠ b ∧ ¬ R x) := fun x _ h => by
    by_cases e : x = b
    · exact .inl e
    · exact .inr ⟨e, fun k => h ⟨k, e⟩⟩
  have e0 : ∀ x, x ≠ b → st' x 0 = st x 0 := fun x hx => by
    by_cases e : x = a
    · subst e; exact sa.1
    · exact s0 x e hx 0 (by omega)
  have e5 : ∀ x, st' x 5 = st x 5 := fun x => by
    by_cases e : x = a
    · subst e; exact sa.2
    · by_cases e2 : x = b
      · subst e2; exact sb.2.2.2
      · exact s0 x e e2 5 (by omega)
  have e4 : ∀ x, x ≠ a → st' x 4 = st x 4 := fun x hx => by
    by_cases e2 : x = b
    · subst e2; exact sb.2.2.1
    · exact s0 x hx e2 4 (by omega)
  refine ⟨fun q => if q = a then L else C q, F.lt, fun x hx => F.ra x hx.1, ?_, ?_, ?_, ?_, ?_, ?_, ?_, ?_, ?_⟩
  · intro p x hp
    show x ∈ (if p = a then L else C p) ↔ _
    by_cases e : p = a
    · subst e
      rw [if_pos rfl, hL3, F.mem p x hp]
      constructor
      · rintro (rfl | ⟨h1, h2, h3⟩)
        · exact ⟨hB, fun k => k.2 rfl, sb.1⟩
        · exact ⟨h1, fun k => h2 k.1, by rw [e0 x (by rintro rfl; exact h2 hb)]; exact h3⟩
      · rintro ⟨h1, h2, h3⟩
        rcases out x h1 h2 with k | ⟨k, k2⟩
        · exact .inl k
        · rw [e0 x k] at h3; exact .inr ⟨h1, k2, h3⟩
    · rw [if_neg e, F.mem p x hp]
      constructor
      · rintro ⟨h1, h2, h3⟩
        exact ⟨h1, fun k => h2 k.1, by rw [e0 x (by rintro rfl; exact h2 hb)]; exact h3⟩
      · rintro ⟨h1, h2, h3⟩
        rcases out x h1 h2 with k | ⟨k, k2⟩
        · subst k; exact absurd (Int.ofNat.inj (h3.symm.trans sb.1)) e
        · rw [e0 x k] at h3; exact ⟨h1, k2, h3⟩
  · intro p hp
    show (if p = a then L else C p).Nodup
    by_cases e : p = a
    · rw [if_pos e]; exact hL2
    · rw [if_neg e]; exact F.nd p hp
  · intro p hp
    show Cyc st' (if p = a then L else C p)
    by_cases e : p = a
    · rw [if_pos e]; exact hL1
    · rw [if_neg e]
      exact (F.cyc p hp).congr (fun x hx => (hL6 p hp e x hx).2) (fun x hx => (hL6 p hp e x hx).1)
  · intro x h1 h2
    rcases out x h1 h2 with k | ⟨k, k2⟩
    · subst k; exact ⟨a, sb.1, hA⟩
    · rw [e0 x k]; exact F.par x h1 k2
  · intro p hp
    show ((if p = a then L else C p) = [] ∧ _) ∨ ∃ c : Nat, _ ∧ c ∈ (if p = a then L else C p)
    by_cases e : p = a
    · subst e; rw [if_pos rfl]; exact .inr hL5
    · rw [if_neg e]
      have : st' p 1 = st p 1 := by
        by_cases e2 : p = b
        · subst e2; exact sb.2.1
        · exact s0 p e e2 1 (by omega)
      rw [this]; exact F.ch p hp
  · intro x p h1 h2 h3 _
    rcases out x h1 h2 with k | ⟨k, k2⟩
    · subst k
      have : p = a := by have := sb.1; omega
      subst this; exact hab
    · rw [e0 x k] at h3; exact F.ord x p h1 k2 h3 (by omega)
  · intro p hp
    show _ = (((if p = a then L else C p).length : Nat) : Int)
    by_cases e : p = a
    · subst e; rw [if_pos rfl, sa4, F.dg p hp, hL4]; omega
    · rw [if_neg e, e4 p e]; exact F.dg p hp
  · intro p hp d
    have val : ∀ x, A x → ¬ R x → st' x 4 + st' x 5 = st x 4 + st x 5 := fun x hx hr => by
      rw [e4 x (by rintro rfl; exact hr ha), e5]
    by_cases e : p = a
    · subst e
      by_cases hdl : ((C p).length : Int) ≤ d
      · have : cntP n (fun x => A x ∧ ¬ (R x ∧ x ≠ b) ∧ st' x 0 = (p : Nat) ∧ st' x 4 + st' x 5 + (if (x : Int) = -1 then 1 else 0) ≤ d) ≤ cntP n (fun x => A x ∧ ¬ R x ∧ st x 0 = (p : Nat)) + 1 :=
          cntP_le1 (a := b) fun x _ => by
            rintro ⟨h1, h2, h3, _⟩
            rcases out x h1 h2 with k | ⟨k, k2⟩
            · exact .inl k
            · rw [e0 x k] at h3; exact .inr ⟨h1, k2, h3⟩
        rw [F.len hp] at this
        omega
      · refine Int.le_trans (cntP_le fun x _ => ?_) (F.cn p hp d)
        rintro ⟨h1, h2, h3, h4⟩
        rcases out x h1 h2 with k | ⟨k, k2⟩
        · subst k
          exfalso
          rw [sb.2.2.1, sb.2.2.2, hd, F.dg p hp, if_neg (by omega)] at h4
          have := F.mrk x hB
          omega
        · rw [e0 x k] at h3
          rw [val x h1 k2] at h4
          exact ⟨h1, k2, h3, h4⟩
    · refine Int.le_trans (cntP_le fun x _ => ?_) (F.cn p hp d)
      rintro ⟨h1, h2, h3, h4⟩
      rcases out x h1 h2 with k | ⟨k, k2⟩
      · subst k; exact absurd (Int.ofNat.inj (h3.symm.trans sb.1)) e
      · rw [e0 x k] at h3
        rw [val x h1 k2] at h4
        exact ⟨h1, k2, h3, h4⟩
  · intro x hx; rw [e5]; exact F.mrk x hx
end

/-- The ring of the tops, and the best of them. -/
structure RI (key : Nat → Int) (st : Nat → Nat → Int) (L : List Nat) (best : Int) : Prop where
  nd : L.Nodup
  cyc : Cyc st L
  r0 : ∀ x ∈ L, st x 0 = -1
  bst : (L = [] ∧ best = -1) ∨ ∃ b : Nat, best = b ∧ b ∈ L ∧ ∀ v ∈ L, v = b ∨ ahd key b v

end Go.Proofs.Ytdblngaacnpgmaa

namespace Go.Proofs.Ytdblngaacnpgmaa
open Go
set_option linter.unusedVariables false
set_option linter.unusedSimpArgs false

/-- A cell of the links. -/
def fcl (st : Nat → Nat → Int) (p : Nat) : Value := if p % 6 = 5 then .bool (decide (st (p / 6) 5 = 1)) else .int .i64 (st (p / 6) (p % 6))
theorem add_2 (b i j : Nat) : ((bk b).add i).add j = (bk b).add (i + j) := by rw [bk_add, bk_add2, bk_add]
theorem fcl_i {st : Nat → Nat → Int} {x k : Nat} (hk : k < 5) : fcl st (x * 6 + k) = .int .i64 (st x k) := by
  unfold fcl
  rw [show (x * 6 + k) % 6 = k by omega, show (x * 6 + k) / 6 = x by omega, if_neg (by omega)]
theorem fcl_b {st : Nat → Nat → Int} {x : Nat} : fcl st (x * 6 + 5) = .bool (decide (st x 5 = 1)) := by
  unfold fcl
  rw [show (x * 6 + 5) % 6 = 5 by omega, show (x * 6 + 5) / 6 = x by omega, if_pos rfl]
theorem fcl_setI {st : Nat → Nat → Int} {x k : Nat} {v : Int} (hk : k < 5) : updV (fcl st) (x * 6 + k) (.int .i64 v) = fcl (upd2 st x k v) := by
  funext p
  unfold updV
  by_cases e : p = x * 6 + k
  · subst e; rw [if_pos rfl, fcl_i hk, upd2_at]
  · rw [if_neg e]
    unfold fcl
    by_cases h5 : p % 6 = 5
    · rw [if_pos h5, if_pos h5, upd2_j (by omega)]
    · rw [if_neg h5, if_neg h5]
      unfold upd2
      rw [if_neg (by omega)]
theorem fcl_setB {st : Nat → Nat → Int} {x : Nat} {t : Bool} : updV (fcl st) (x * 6 + 5) (.bool t) = fcl (upd2 st x 5 (if t then 1 else 0)) := by
  funext p
  unfold updV
  by_cases e : p = x * 6 + 5
  · subst e; rw [if_pos rfl, fcl_b, upd2_at]; cases t <;> rfl
  · rw [if_neg e]
    unfold fcl
    by_cases h5 : p % 6 = 5
    · rw [if_pos h5, if_pos h5, upd2_v (by omega)]
    · rw [if_neg h5, if_neg h5, upd2_j (by omega)]

section
variable {own own' : Own} {h h' : H} {i b n : Nat} {st : Nat → Nat → Int}
abbrev HL (own : Own) (h : H) (i b n : Nat) (st : Nat → Nat → Int) : Prop := B1 own h i b (va (n * 6) (fcl st))
theorem HL.ix {x c : Nat} {K : Addr → Prop} (hx : x < n) (k : K ((bk b).add (x * 6))) : ixS (.slice (some (bk b)) n c) (x : Int) 6 K := nx hx k
theorem HL.rd {x k : Nat} (L : HL own h i b n st) (hx : x < n) (hk : k < 5) : hcell h (((bk b).add (x * 6)).add k) = some (.int .i64 (st x k)) := by
  rw [add_2]
  refine L.ld ?_
  rw [va_get (by omega), fcl_i hk]
theorem HL.rd5 {x : Nat} (L : HL own h i b n st) (hx : x < n) : hcell h (((bk b).add (x * 6)).add 5) = some (.bool (decide (st x 5 = 1))) := by
  rw [add_2]
  refine L.ld ?_
  rw [va_get (by omega), fcl_b]
theorem HL.ldI {x k : Nat} {K : Int → Prop} (L : HL own h i b n st) (hx : x < n) (hk : k < 5) (q : K (st x k)) : ldI h (((bk b).add (x * 6)).add k) .i64 K := ⟨_, L.rd hx hk, q⟩
theorem HL.ldB {x : Nat} {K : Bool → Prop} (L : HL own h i b n st) (hx : x < n) (q : K (decide (st x 5 = 1))) : ldB h (((bk b).add (x * 6)).add 5) K := ⟨_, L.rd5 hx, q⟩
theorem HL.stB {x : Nat} {t : Bool} {K : H → Prop} (L : HL own h i b n st) (hx : x < n)
    (q : ∀ g, Fm [i] own h own g → HL own g i b n (upd2 st x 5 (if t then 1 else 0)) → K g) : stC h (((bk b).add (x * 6)).add 5) (.bool t) K := by
  rw [add_2]
  refine L.st (by rw [va_length]; omega) fun g F L' => q g F ?_
  rw [va_set, fcl_setB] at L'
  exact L'

/-- A queue of kind Fibonacci: owners 31 (the queue), 32 (its engine), 33 (keys), 34 (held), 35 (links). -/
structure HQ (own : Own) (h : H) (bq bf bl n : Nat) (key : Nat → Int) (held : Nat → Bool) (cnt last best : Int) (st : Nat → Nat → Int) : Prop where
  q : ∃ vk vh, B1 own h 31 bq [vk, vh, .iface 143 (.pointer (some (bk bf))), .int .i64 cnt, .int .i64 3, .int .i64 last] ∧ S1 own h 33 vk (ints n key) ∧ S1 own h 34 vh (bools n held)
  f : B1 own h 32 bf [.pointer (some (bk bq)), .int .i64 best, slV bl n]
  l : HL own h 35 bl n st
variable {bq bf bl : Nat} {key : Nat → Int} {held : Nat → Bool} {cnt last best : Int}
theorem HQ.fm {M : List Nat} (Q : HQ own h bq bf bl n key held cnt last best st) (F : Fm M own h own' h') (hM : ∀ j, j ∈ M → j < 31 ∨ 35 < j) : HQ own' h' bq bf bl n key held cnt last best st := by
  obtain ⟨vk, vh, k1, k2, k3⟩ := Q.q
  have no : ∀ j, 31 ≤ j → j ≤ 35 → j ∉ M := fun j h1 h2 k => by have := hM j k; omega
  exact ⟨⟨vk, vh, k1.fm F (no _ (by omega) (by omega)), k2.fm F (no _ (by omega) (by omega)), k3.fm F (no _ (by omega) (by omega))⟩, Q.f.fm F (no _ (by omega) (by omega)), Q.l.fm F (no _ (by omega) (by omega))⟩
theorem HQ.ext (Q : HQ own h bq bf bl n key held cnt last best st) (x : Ext h h') : HQ own h' bq bf bl n key held cnt last best st := Q.fm (M := []) (Fm.of_ext x) (by simp)
theorem HQ.nw {c j : Nat} (Q : HQ own h bq bf bl n key held cnt last best st) (x : Ext h h') (hb : h c = none) : HQ (own1 own c j) h' bq bf bl n key held cnt last best st := Q.fm (M := []) (Fm.new x hb) (by simp)
/-- The links changed. -/
theorem HQ.ln {st' : Nat → Nat → Int} {g : H} (Q : HQ own h bq bf bl n key held cnt last best st) (F : Fm [35] own h own g) (L : HL own g 35 bl n st') : HQ own g bq bf bl n key held cnt last best st' := by
  obtain ⟨vk, vh, k1, k2, k3⟩ := Q.q
  exact ⟨⟨vk, vh, k1.fm F (by simp), k2.fm F (by simp), k3.fm F (by simp)⟩, Q.f.fm F (by simp), L⟩
theorem HQ.s5 {x : Nat} {t : Bool} {K : H → Prop} (Q : HQ own h bq bf bl n key held cnt last best st) (hx : x < n)
    (q : ∀ g, Fm [35] own h own g → HQ own g bq bf bl n key held cnt last best (upd2 st x 5 (if t then 1 else 0)) → K g) : stC h (((bk bl).add (x * 6)).add 5) (.bool t) K :=
  Q.l.stB hx fun g F L => q g F (Q.ln F L)
/-- The engine's best. -/
theorem HQ.sb {x : Int} {K : H → Prop} (Q : HQ own h bq bf bl n key held cnt last best st)
    (q : ∀ g, Fm [32] own h own g → HQ own g bq bf bl n key held cnt last x st → K g) : stC h ((bk bf).add 1) (.int .i64 x) K :=
  Q.f.st (j := 1) (by simp) fun g F B => q g F (by
    obtain ⟨vk, vh, k1, k2, k3⟩ := Q.q
    exact ⟨⟨vk, vh, k1.fm F (by simp), k2.fm F (by simp), k3.fm F (by simp)⟩, B, Q.l.fm F (by simp)⟩)

end

end Go.Proofs.Ytdblngaacnpgmaa

namespace Go.Proofs.Ytdblngaacnpgmaa
open Go
set_option linter.unusedVariables false
set_option linter.unusedSimpArgs false

section
variable {own own' : Own} {h h' : H} {n : Nat} {st : Nat → Nat → Int}
variable {bq bf bl : Nat} {key : Nat → Int} {held : Nat → Bool} {cnt last best : Int}
theorem HL.put {i b x : Nat} {a0 a1 a2 a3 a4 : Int} {t : Bool} {K : H → Prop} (L : HL own h i b n st) (hx : x < n)
    (q : ∀ g, Fm [i] own h own g → HL own g i b n (upd2 (upd2 (upd2 (upd2 (upd2 (upd2 st x 0 a0) x 1 a1) x 2 a2) x 3 a3) x 4 a4) x 5 (if t then 1 else 0)) → K g) :
    stN h ((bk b).add (x * 6)) [.int .i64 a0, .int .i64 a1, .int .i64 a2, .int .i64 a3, .int .i64 a4, .bool t] 6 K := by
  obtain ⟨e, o, k⟩ := L
  have hlen : (va (n * 6) (fcl st)).length = n * 6 := va_length _ _
  rw [bk_add]
  refine ⟨rfl, by simp [Value.oneCell'], ⟨_, _, k, rfl, by simp only [List.size_toArray, hlen]; omega⟩, q _ ?_ ⟨e, o, ?_⟩⟩
  · refine Fm.kp (b := b) ?_ e ⟨.cells (setR ⟨va (n * 6) (fcl st)⟩ (x * 6) _) o (0, 0), by unfold hset; rw [if_pos rfl, k]; rfl⟩
    intro j ob hj hh
    unfold hset
    rw [if_neg hj]; exact hh
  · unfold hset
    rw [if_pos rfl, k]
    simp only [Option.map_some, setR, List.setIfInBounds_toArray, va_set, Nat.add_assoc]
    have e0 : updV (fcl st) (x * 6) (.int .i64 a0) = fcl (upd2 st x 0 a0) := fcl_setI (k := 0) (by omega)
    have e1 := fcl_setI (st := upd2 st x 0 a0) (x := x) (k := 1) (v := a1) (by omega)
    have e2 := fcl_setI (st := upd2 (upd2 st x 0 a0) x 1 a1) (x := x) (k := 2) (v := a2) (by omega)
    have e3 := fcl_setI (st := upd2 (upd2 (upd2 st x 0 a0) x 1 a1) x 2 a2) (x := x) (k := 3) (v := a3) (by omega)
    have e4 := fcl_setI (st := upd2 (upd2 (upd2 (upd2 st x 0 a0) x 1 a1) x 2 a2) x 3 a3) (x := x) (k := 4) (v := a4) (by omega)
    have e5 := fcl_setB (st := upd2 (upd2 (upd2 (upd2 (upd2 st x 0 a0) x 1 a1) x 2 a2) x 3 a3) x 4 a4) (x := x) (t := t)
    rw [e0, e1, e2, e3, e4, e5]

end

end Go.Proofs.Ytdblngaacnpgmaa

namespace Go.Proofs.Ytdblngaacnpgmaa
open Go
set_option linter.unusedVariables false
set_option linter.unusedSimpArgs false

theorem RI.congr {key : Nat → Int} {st st' : Nat → Nat → Int} {L : List Nat} {best : Int} (I : RI key st L best) (h : ∀ x ∈ L, st' x 0 = st x 0 ∧ st' x 2 = st x 2 ∧ st' x 3 = st x 3) : RI key st' L best :=
  ⟨I.nd, I.cyc.congr (fun x hx => (h x hx).2.2) (fun x hx => (h x hx).2.1), fun x hx => by rw [(h x hx).1]; exact I.r0 x hx, I.bst⟩

/-- The heap, whole. -/
structure FH (n : Nat) (key : Nat → Int) (A : Nat → Prop) (st : Nat → Nat → Int) (best : Int) (L : List Nat) (C : Nat → List Nat) : Prop where
  ft : FT n key A (fun x => x ∈ L) (-1) (-1) st C
  ri : RI key st L best

end Go.Proofs.Ytdblngaacnpgmaa

namespace Go.Proofs.Ytdblngaacnpgmaa
open Go
open Classical
set_option linter.unusedVariables false
set_option linter.unusedSimpArgs false

theorem FT.uset {n : Nat} {key : Nat → Int} {A A' R R' : Nat → Prop} {z y : Int} {st : Nat → Nat → Int} {C : Nat → List Nat} (Ft : FT n key A R z y st C) (hA : ∀ x, A' x ↔ A x) (hR : ∀ x, R' x ↔ R x) : FT n key A' R' z y st C := by
  have e1 : A' = A := by funext x; exact propext (hA x)
  have e2 : R' = R := by funext x; exact propext (hR x)
  rw [e1, e2]; exact Ft

end Go.Proofs.Ytdblngaacnpgmaa

namespace Go.Proofs.Ytdblngaacnpgmaa
open Go
open Classical
set_option linter.unusedVariables false
set_option linter.unusedSimpArgs false

/-- The rest behind the first. -/
theorem S1.tail {own : Own} {h : H} {i : Nat} {v x : Value} {vs : List Value} {K : Option Addr → Nat → Nat → Prop} (s : S1 own h i v (x :: vs))
    (k : ∀ (a : Option Addr) (c : Nat), vs.length + 1 ≤ c → RS h (sliceV a c 1 ((vs.length + 1 : Nat) : Int) 1) vs → K a (vs.length + 1) c) : slcP v K := by
  rcases s with ⟨e, _⟩ | ⟨b, hb, c, e, zs, rfl, h2, h3⟩
  · cases e
  have hcc : vs.length + 1 ≤ c := by simp at h3; omega
  refine k (some (bk b)) c hcc ?_
  unfold sliceV
  refine ⟨_, _, by rw [show ((vs.length + 1 : Nat) : Int).toNat - (1 : Int).toNat = vs.length by omega], fun j y hj => ?_⟩
  have hj2 := (List.getElem?_eq_some_iff.1 hj).1
  rw [if_neg (show ¬ c = (1 : Int).toNat by simp; omega)]
  refine ⟨_, rfl, ?_⟩
  rw [show (1 : Int).toNat * 1 = 1 from rfl, Nat.mul_one, add_2, bk_add, hcell_at h2, List.getElem?_toArray, List.getElem?_append_left (by simp; omega), Nat.add_comm]
  simpa using hj

end Go.Proofs.Ytdblngaacnpgmaa

namespace Go.Proofs.Ytdblngaacnpgmaa
open Go
open Classical
set_option linter.unusedVariables false
set_option linter.unusedSimpArgs false

abbrev heldP (n : Nat) (held : Nat → Bool) (v : Nat) : Prop := v < n ∧ held v = true
/-- A queue: who is held, with which keys. -/
def FQ (own : Own) (h : H) (bq n : Nat) (key : Nat → Int) (held : Nat → Bool) : Prop :=
  ∃ bf bl last best st L C, HQ own h bq bf bl n key held (cntP n (heldP n held)) last best st ∧ FH n key (heldP n held) st best L C
section
variable {own own' : Own} {h h' : H} {n bq : Nat} {key : Nat → Int} {held : Nat → Bool}
theorem FQ.fm {M : List Nat} (Q : FQ own h bq n key held) (F : Fm M own h own' h') (hM : ∀ j, j ∈ M → j < 31 ∨ 35 < j) : FQ own' h' bq n key held := by
  obtain ⟨bf, bl, last, best, st, L, C, Q, G⟩ := Q
  exact ⟨bf, bl, last, best, st, L, C, Q.fm F hM, G⟩
theorem B1.ld0 {i b j : Nat} {vs : List Value} {v : Value} (B : B1 own h i b vs) (hi : vs[j]? = some v) : hcell h (((bk b).add 0).add j) = some v := by rw [add_zero']; exact B.ld hi
theorem FH.rekey {key' : Nat → Int} {A : Nat → Prop} {st : Nat → Nat → Int} {best : Int} {L : List Nat} {C : Nat → List Nat} (G : FH n key A st best L C) (hk : ∀ x, A x → key' x = key x) : FH n key' A st best L C := by
  have e : ∀ x y, A x → A y → ahd key x y → ahd key' x y := fun x y hx hy h => by unfold ahd at *; rw [hk x hx, hk y hy]; exact h
  refine ⟨G.ft.rekey fun x hx hr p hp _ ho => ?_, G.ri.nd, G.ri.cyc, G.ri.r0, ?_⟩
  · obtain ⟨p', e1, e2⟩ := G.ft.par x hx hr
    have : p' = p := by omega
    subst this
    exact e _ _ e2 hx ho
  · rcases G.ri.bst with h | ⟨b, h1, h2, h3⟩
    · exact .inl h
    · refine .inr ⟨b, h1, h2, fun v hv => ?_⟩
      rcases h3 v hv with k | k
      · exact .inl k
      · exact .inr (e _ _ (G.ft.ra b h2) (G.ft.ra v hv) k)
theorem FH.uset {A A' : Nat → Prop} {st : Nat → Nat → Int} {best : Int} {L : List Nat} {C : Nat → List Nat} (G : FH n key A st best L C) (h : ∀ x, A' x ↔ A x) : FH n key A' st best L C :=
  ⟨G.ft.uset h fun _ => Iff.rfl, G.ri⟩

end

end Go.Proofs.Ytdblngaacnpgmaa

namespace Go.Proofs.Ytdblngaacnpgmaa
open Go
set_option linter.unusedVariables false
set_option linter.unusedSimpArgs false

/-- What each node still has too much, when x goes along an arc. -/
def exS (ex : Nat → Int) (a b : Nat) (x : Int) : Nat → Int := fun v => ex v - (if a = v then x else 0) + (if b = v then x else 0)
/-- The net of mincost in the heap: owners 1 from, 2 to, 3 room, 4 cost, 5 out, 6 extra, 7 pot, 8 the struct, 40 + v (out of v). -/
structure MN (own : Own) (h : H) (bn n m : Nat) (fr to : Nat → Nat) (room cost ex pot : Nat → Int) : Prop where
  q : ∃ vf vt vr vc vo vx vp outs, B1 own h 8 bn [vf, vt, vr, vc, vo, vx, vp] ∧ S1 own h 1 vf (ints (2 * m) fun a => (tlA fr to a : Nat)) ∧ S1 own h 2 vt (ints (2 * m) fun a => (hdA fr to a : Nat)) ∧
    S1 own h 3 vr (ints (2 * m) room) ∧ S1 own h 4 vc (ints (2 * m) cost) ∧ S1 own h 5 vo (va n outs) ∧ S1 own h 6 vx (ints n ex) ∧ S1 own h 7 vp (ints n pot) ∧ ∀ v, v < n → S1 own h (40 + v) (outs v) (natV (arcsL fr to m v))
section
variable {own own' : Own} {h h' : H} {bn n m : Nat} {fr to : Nat → Nat} {room cost ex pot : Nat → Int} {M : List Nat}
theorem MN.fm (N : MN own h bn n m fr to room cost ex pot) (F : Fm M own h own' h') (hM : ∀ i, i ∈ M → 8 < i ∧ i < 40) : MN own' h' bn n m fr to room cost ex pot := by
  obtain ⟨vf, vt, vr, vc, vo, vx, vp, outs, k8, k1, k2, k3, k4, k5, k6, k7, ko⟩ := N.q
  have no : ∀ j, (j ≤ 8 ∨ 40 ≤ j) → j ∉ M := fun j hj hm => by have := hM j hm; omega
  exact ⟨vf, vt, vr, vc, vo, vx, vp, outs, k8.fm F (no _ (by omega)), k1.fm F (no _ (by omega)), k2.fm F (no _ (by omega)), k3.fm F (no _ (by omega)), k4.fm F (no _ (by omega)), k5.fm F (no _ (by omega)),
    k6.fm F (no _ (by omega)), k7.fm F (no _ (by omega)), fun v hv => (ko v hv).fm F (no _ (by omega))⟩
theorem MN.ext (N : MN own h bn n m fr to room cost ex pot) (x : Ext h h') : MN own h' bn n m fr to room cost ex pot := N.fm (M := []) (Fm.of_ext x) (by simp)
theorem MN.nw {b i : Nat} (N : MN own h bn n m fr to room cost ex pot) (x : Ext h h') (hb : h b = none) : MN (own1 own b i) h' bn n m fr to room cost ex pot := N.fm (M := []) (Fm.new x hb) (by simp)

end

end Go.Proofs.Ytdblngaacnpgmaa

namespace Go.Proofs.Ytdblngaacnpgmaa
open Go
set_option linter.unusedVariables false
set_option linter.unusedSimpArgs false

/-- An arc's cost by the potentials. -/
def redC (fr to : Nat → Nat) (cost pot : Nat → Int) (a : Nat) : Int := cost a + pot (tlA fr to a) - pot (hdA fr to a)
end Go.Proofs.Ytdblngaacnpgmaa

namespace Go.Proofs.Ytdblngaacnpgmaa
open Go
set_option linter.unusedVariables false
set_option linter.unusedSimpArgs false

section
variable {own own' : Own} {h h' : H} {i : Nat}
/-- The last one gone: v[:len(v)-1]. -/
theorem S1.pop {v x : Value} {xs : List Value} (s : S1 own h i v (xs ++ [x])) :
    ∃ b c, v = .slice (some (bk b)) (xs.length + 1) c ∧ xs.length + 1 ≤ c ∧ S1 own h i (sliceV (some (bk b)) c 0 (xs.length : Int) 1) xs := by
  rcases s with ⟨e, _⟩ | ⟨b, hb, c, e, zs, rfl, h2, h3⟩
  · simp at e
  · simp only [List.length_append, List.length_cons, List.length_nil] at h3 ⊢
    refine ⟨b, c, rfl, by omega, .inr ⟨b, hb, c, e, x :: zs, ?_, by simpa using h2, by simp; omega⟩⟩
    unfold sliceV
    rw [if_neg (show ¬ c = (0 : Int).toNat by simp; omega)]
    simp [bk, Addr.add]
/-- How many are not marked. -/
noncomputable def unm (n : Nat) (sd : Nat → Bool) : Int := cntP n fun v => sd v = false
theorem unm_set {n : Nat} {sd : Nat → Bool} {v : Nat} (hv : v < n) (h : sd v = false) : unm n sd = unm n (updB sd v true) + 1 := by
  unfold unm
  rw [← cntP_add (a := v) (P := fun w => updB sd v true w = false) hv (by unfold updB; simp)]
  refine cntP_congr fun w hw => ?_
  unfold updB
  by_cases e : w = v
  · subst e; simp [h]
  · simp [e]
theorem updB_mono {sd : Nat → Bool} {v w : Nat} (h : sd w = true) : updB sd v true w = true := by
  unfold updB; split <;> simp [h]
end

end Go.Proofs.Ytdblngaacnpgmaa

namespace Go.Proofs.Ytdblngaacnpgmaa
open Go
set_option linter.unusedVariables false
set_option linter.unusedSimpArgs false

/-- A way back, along arcs with room: from y 0 to y L. -/
structure WayP (n m : Nat) (fr to : Nat → Nat) (room via : Nat → Int) (y : Nat → Nat) (L : Nat) : Prop where
  lt : ∀ s, s ≤ L → y s < n
  arc : ∀ s, s < L → ∃ a : Nat, via (y s) = a ∧ a < 2 * m ∧ hdA fr to a = y s ∧ tlA fr to a = y (s + 1) ∧ 0 < room a
  stop : via (y L) < 0
  inj : ∀ s t, s < t → t ≤ L → y s ≠ y t

end Go.Proofs.Ytdblngaacnpgmaa

namespace Go.Proofs.Ytdblngaacnpgmaa
open Go
open Classical
set_option linter.unusedVariables false

abbrev farI : Int := 4611686018427387904
/-- Dijkstra under way: D has come out in the order rk, k of them; Cb bounds the costs. -/
structure DjP (n m : Nat) (fr to : Nat → Nat) (room cost ex pot : Nat → Int) (D : Nat → Prop) (rk : Nat → Nat) (k : Nat) (dist via : Nat → Int) : Prop where
  pos : ∀ v, v < n → 0 ≤ dist v ∧ dist v ≤ farI
  src : ∀ v, v < n → 0 < ex v → dist v = 0
  dn : ∀ v, D v → v < n ∧ dist v < farI ∧ rk v < k
  arc : ∀ v, v < n → dist v < farI → (via v = -1 ∧ 0 < ex v) ∨ ∃ a : Nat, via v = a ∧ a < 2 * m ∧ hdA fr to a = v ∧ 0 < room a ∧ D (tlA fr to a) ∧ dist v = dist (tlA fr to a) + redC fr to cost pot a ∧ (D v → rk (tlA fr to a) < rk v)
  mono : ∀ u v, D u → v < n → ¬ D v → dist u ≤ dist v
  bd : ∀ v, v < n → dist v < farI → dist v + pot v ≤ k * 1048576
  cnt : cntP n D = k
section
variable {n m : Nat} {fr to : Nat → Nat} {room cost ex pot : Nat → Int} {D : Nat → Prop} {rk : Nat → Nat} {k : Nat} {dist via : Nat → Int}
/-- The nearest comes out. -/
theorem DjP.out (J : DjP n m fr to room cost ex pot D rk k dist via) {v : Nat} (hv : v < n) (hD : ¬ D v) (hf : dist v < farI) (hmin : ∀ w, w < n → ¬ D w → dist v ≤ dist w) :
    DjP n m fr to room cost ex pot (fun w => w = v ∨ D w) (updN rk v k) (k + 1) dist via := by
  have ne : ∀ w, D w → w ≠ v := fun w hw e => hD (e ▸ hw)
  refine ⟨J.pos, J.src, ?_, ?_, ?_, ?_, ?_⟩
  · rintro w (rfl | hw)
    · exact ⟨hv, hf, by rw [updN_at]; omega⟩
    · obtain ⟨a, b, c⟩ := J.dn w hw
      exact ⟨a, b, by rw [updN_ne (ne w hw)]; omega⟩
  · intro w hw hwf
    rcases J.arc w hw hwf with h | ⟨a, h1, h2, h3, h4, h5, h6, h7⟩
    · exact .inl h
    · refine .inr ⟨a, h1, h2, h3, h4, .inr h5, h6, ?_⟩
      rw [updN_ne (ne _ h5)]
      rintro (rfl | hDw)
      · rw [updN_at]; exact (J.dn _ h5).2.2
      · rw [updN_ne (ne w hDw)]; exact h7 hDw
  · rintro u w (rfl | hu) hw hn
    · exact hmin w hw fun h => hn (.inr h)
    · exact J.mono u w hu hw fun h => hn (.inr h)
  · intro w hw hwf
    have := J.bd w hw hwf
    have e : ((k + 1 : Nat) : Int) * 1048576 = k * 1048576 + 1048576 := by omega
    omega
  · rw [cntP_add (P := D) hv hD, J.cnt]; omega
end

/-- What Dijkstra ends with. -/
def mnd (dist : Nat → Int) (f v : Nat) : Int := if dist f < dist v then dist f else dist v
structure DjE (n m : Nat) (fr to : Nat → Nat) (room cost ex pot : Nat → Int) (dist via : Nat → Int) (fnd : Int) : Prop where
  pos : ∀ v, v < n → 0 ≤ dist v ∧ dist v ≤ farI
  src : ∀ v, v < n → 0 < ex v → dist v = 0
  no : fnd < 0 → ∀ u v, u < n → 0 < ex u → Rch (ArS m fr to room) u v → 0 ≤ ex v
  yes : 0 ≤ fnd → ∃ f : Nat, fnd = f ∧ f < n ∧ ex f < 0 ∧ dist f + pot f ≤ n * 1048576 ∧ (∀ w, w < n → ex w < 0 → dist f ≤ dist w) ∧
    (∀ a, a < 2 * m → 0 < room a → 0 ≤ redC fr to cost (fun v => pot v + mnd dist f v) a) ∧
    ∃ y L, y 0 = f ∧ WayP n m fr to room via y L ∧ 0 < ex (y L) ∧ ∀ s, s < L → ∀ a : Nat, via (y s) = a → redC fr to cost (fun v => pot v + mnd dist f v) a = 0
/-- Who was found. -/
def FndP (n : Nat) (ex : Nat → Int) (D : Nat → Prop) (dist : Nat → Int) (fnd : Int) : Prop :=
  (fnd < 0 ∧ ∀ v, D v → 0 ≤ ex v) ∨ ∃ f : Nat, fnd = f ∧ f < n ∧ D f ∧ ex f < 0 ∧ ∀ w, w < n → ex w < 0 → dist f ≤ dist w
section
variable {n m : Nat} {fr to : Nat → Nat} {room cost ex pot : Nat → Int} {D : Nat → Prop} {rk : Nat → Nat} {k : Nat} {dist via : Nat → Int} {fnd : Int}
theorem DjP.way (J : DjP n m fr to room cost ex pot D rk k dist via) (hc : ∀ a, a < 2 * m → 0 < room a → 0 ≤ redC fr to cost pot a) : ∀ (q u : Nat), D u → rk u < q →
    ∃ (y : Nat → Nat) (L : Nat), y 0 = u ∧ WayP n m fr to room via y L ∧ 0 < ex (y L) ∧ (∀ s, s ≤ L → D (y s) ∧ rk (y s) ≤ rk u ∧ dist (y s) ≤ dist u) ∧
      ∀ s, s < L → ∀ a : Nat, via (y s) = a → tlA fr to a = y (s + 1) ∧ hdA fr to a = y s ∧ dist (y s) = dist (y (s + 1)) + redC fr to cost pot a := by
  intro q
  induction q with
  | zero => intro u _ h; omega
  | succ q ih =>
    intro u hu hr
    have du := J.dn u hu
    rcases J.arc u du.1 du.2.1 with ⟨h1, h2⟩ | ⟨a, h1, h2, h3, h4, h5, h6, h7⟩
    · refine ⟨fun _ => u, 0, rfl, ⟨fun _ _ => du.1, fun s hs => by omega, by rw [h1]; omega, fun s t h h' => by omega⟩, h2, fun s _ => ⟨hu, Nat.le_refl _, Int.le_refl _⟩, fun s hs => by omega⟩
    · have h7 := h7 hu
      obtain ⟨y, L, y0, W, w2, w3, w4⟩ := ih (tlA fr to a) h5 (by omega)
      have hca := hc a h2 h4
      let z : Nat → Nat := fun s => if s = 0 then u else y (s - 1)
      have z0 : z 0 = u := rfl
      have zs : ∀ s, z (s + 1) = y s := fun s => rfl
      have z1 : ∀ s, s ≠ 0 → z s = y (s - 1) := fun s hs => if_neg hs
      refine ⟨z, L + 1, rfl, ⟨fun s hs => ?_, fun s hs => ?_, by rw [zs]; exact W.stop, fun s t hst ht => ?_⟩, by rw [zs]; exact w2, fun s hs => ?_, fun s hs b hb => ?_⟩
      · by_cases e : s = 0
        · subst e; exact du.1
        · rw [z1 s e]; exact W.lt _ (by omega)
      · by_cases e : s = 0
        · subst e
          exact ⟨a, h1, h2, h3, by rw [zs, y0], h4⟩
        · rw [z1 s e, zs]
          have := W.arc (s - 1) (by omega)
          rwa [show s - 1 + 1 = s by omega] at this
      · rw [z1 t (by omega)]
        by_cases e : s = 0
        · subst e
          rw [z0]
          intro e
          have := w3 (t - 1) (by omega)
          rw [← e] at this; omega
        · rw [z1 s e]
          exact W.inj _ _ (by omega) (by omega)
      · by_cases e : s = 0
        · subst e; exact ⟨hu, Nat.le_refl _, Int.le_refl _⟩
        · rw [z1 s e]
          have := w3 (s - 1) (by omega)
          exact ⟨this.1, by omega, by omega⟩
      · by_cases e : s = 0
        · subst e
          rw [z0] at hb ⊢
          rw [zs, y0]
          have : b = a := by omega
          subst this
          exact ⟨rfl, h3, h6⟩
        · rw [z1 s e] at hb ⊢
          rw [zs]
          have := w4 (s - 1) (by omega) b hb
          rwa [show s - 1 + 1 = s by omega] at this
theorem DjP.fin (J : DjP n m fr to room cost ex pot D rk k dist via) (hc : ∀ a, a < 2 * m → 0 < room a → 0 ≤ redC fr to cost pot a) (hn : ∀ i, i < m → fr i < n ∧ to i < n)
    (all : ∀ v, v < n → dist v < farI → D v) (cl : ∀ a, a < 2 * m → 0 < room a → D (tlA fr to a) → dist (hdA fr to a) ≤ dist (tlA fr to a) + redC fr to cost pot a)
    (bdc : ∀ a, a < 2 * m → redC fr to cost pot a ≤ 4294967296) (hd2 : ∀ v, D v → dist v ≤ 1152921504606846976) (F : FndP n ex D dist fnd) : DjE n m fr to room cost ex pot dist via fnd := by
  refine ⟨J.pos, J.src, ?_, ?_⟩
  · intro hf u v hu hx hr
    rcases F with ⟨_, F⟩ | ⟨f, e, _⟩
    · refine F v (hr.closed (C := D) (all u hu ?_) fun x w hx hxw => ?_)
      · rw [J.src u hu hx]; decide
      · obtain ⟨a, a1, a2, a3, a4⟩ := hxw
        rw [← a2] at hx
        have h1 := cl a a1 a4 hx
        rw [← a3]
        have h2 := hd2 _ hx
        have h3 := bdc a a1
        exact all _ (hd_lt hn a1) (by show _ < (4611686018427387904 : Int); omega)
    · omega
  · intro hf
    rcases F with ⟨e, _⟩ | ⟨f, e, fn, fD, fx, fm⟩
    · omega
    · have df := J.dn f fD
      obtain ⟨y, L, y0, W, w2, w3, w4⟩ := J.way hc (rk f + 1) f fD (by omega)
      have kn : (k : Int) ≤ n := by have := J.cnt; have := cntP_all (n := n) (P := D); omega
      have hb := J.bd f fn df.2.1
      refine ⟨f, e, fn, fx, by omega, fm, fun a ha hr => ?_, y, L, y0, W, w2, fun s hs a hva => ?_⟩
      · have c0 := hc a ha hr
        have pf := J.pos f fn
        have pt := J.pos _ (tl_lt hn ha)
        have ph := J.pos _ (hd_lt hn ha)
        by_cases hD : D (tlA fr to a)
        · have := cl a ha hr hD
          unfold redC mnd at *
          dsimp only at *
          split <;> split <;> omega
        · have : dist (tlA fr to a) = farI := by
            apply Classical.byContradiction
            intro h
            exact hD (all _ (tl_lt hn ha) (by omega))
          unfold redC mnd at *
          dsimp only at *
          split <;> split <;> omega
      · obtain ⟨a1, a2, a3⟩ := w4 s hs a hva
        have l1 := w3 s (by omega)
        have l2 := w3 (s + 1) (by omega)
        unfold redC mnd at *
        rw [a1, a2] at *
        dsimp only at *
        rw [if_neg (by omega), if_neg (by omega)]
        omega
end

end Go.Proofs.Ytdblngaacnpgmaa

namespace Go.Proofs.Ytdblngaacnpgmaa
open Go
open Classical
set_option linter.unusedVariables false
set_option linter.unusedSimpArgs false

/-- The task's numbers. -/
structure EvP (n m : Nat) (fr to : Nat → Nat) (cap b : Nat → Int) : Prop where
  n1 : n ≤ 1024
  m1 : m ≤ 4096
  e : ∀ i, i < m → fr i < n ∧ to i < n
  cp : ∀ i, i < m → 0 ≤ cap i ∧ cap i ≤ 1048576
  bb : ∀ v, v < n → -1048576 ≤ b v ∧ b v ≤ 1048576
  s0 : sumN n b = 0
/-- The net, its rooms right, what is still too much right. -/
structure MS (own : Own) (h : H) (bn n m : Nat) (fr to : Nat → Nat) (cap b cost room ex pot : Nat → Int) : Prop where
  net : MN own h bn n m fr to room cost ex pot
  rm : RmP m cap room
  bal : ∀ v, v < n → ex v + OutF m fr to (onR room) v = b v
section
variable {own own' : Own} {h h' : H} {bn n m : Nat} {fr to : Nat → Nat} {cap b cost room ex pot : Nat → Int} {M : List Nat}
theorem MS.fm (S : MS own h bn n m fr to cap b cost room ex pot) (F : Fm M own h own' h') (hM : ∀ i, i ∈ M → 8 < i ∧ i < 40) : MS own' h' bn n m fr to cap b cost room ex pot := ⟨S.net.fm F hM, S.rm, S.bal⟩
theorem MS.ext (S : MS own h bn n m fr to cap b cost room ex pot) (x : Ext h h') : MS own h' bn n m fr to cap b cost room ex pot := ⟨S.net.ext x, S.rm, S.bal⟩
theorem MS.sum0 (S : MS own h bn n m fr to cap b cost room ex pot) (E : EvP n m fr to cap b) : sumN n ex = 0 := by
  have e1 : sumN n ex = sumN n fun v => b v - OutF m fr to (onR room) v := sumN_congr fun v hv => by have := S.bal v hv; omega
  rw [e1, sumN_sub, E.s0, out_all E.e]; rfl
theorem MS.done (S : MS own h bn n m fr to cap b cost room ex pot) (E : EvP n m fr to cap b) (no : ¬ ∃ v, v < n ∧ 0 < ex v) : ∀ v, v < n → ex v = 0 := by
  have h1 : ∀ v, v < n → 0 ≤ - ex v := fun v hv => by
    apply Classical.byContradiction
    intro h
    exact no ⟨v, hv, by omega⟩
  have e : sumN n (fun v => - ex v) = 0 := by
    have := sumN_sub (f := fun _ => 0) (g := ex) (k := n)
    rw [sumN_zero fun _ _ => rfl, S.sum0 E] at this
    rw [show (fun v => - ex v) = fun v => 0 - ex v by funext v; omega, this]; rfl
  intro v hv
  have := sumN_all0 h1 (by omega) v hv
  omega
theorem Fm.none {b : Nat} (F : Fm M own h own' h') (hb : h' b = none) : h b = none := by
  cases e : h b with
  | none => rfl
  | some o => obtain ⟨⟨o', e'⟩, _⟩ := F.stay b o e; rw [hb] at e'; cases e'
theorem redC_pr {a : Nat} (hc : cost (prA a) = - cost a) (ha : a < 2 * m) : redC fr to cost pot (prA a) = - redC fr to cost pot a := by
  unfold redC
  rw [hc, tl_pr, hd_pr]; omega
end

end Go.Proofs.Ytdblngaacnpgmaa

namespace Go.Proofs.Ytdblngaacnpgmaa
open Go
open Classical
set_option linter.unusedVariables false
set_option linter.unusedSimpArgs false

theorem sub_dec {a b : Nat} (h : b < a) : a - (b + 1) < a - b := by omega
/-- A circle with room that costs less than nothing. -/
def NegC (n m : Nat) (fr to : Nat → Nat) (room cost : Nat → Int) : Prop :=
  ∃ (y arc : Nat → Nat) (p : Nat), 1 ≤ p ∧ p ≤ n ∧ y p = y 0 ∧ (∀ s, s < p → arc s < 2 * m ∧ hdA fr to (arc s) = y s ∧ tlA fr to (arc s) = y (s + 1) ∧ 0 < room (arc s)) ∧ sumN p (fun s => cost (arc s)) < 0
end Go.Proofs.Ytdblngaacnpgmaa

namespace Go.Proofs.Ytdblngaacnpgmaa
open Go
open Classical
set_option linter.unusedVariables false
set_option linter.unusedSimpArgs false

section
variable {own own' : Own} {h h' : H} {bn n m : Nat} {fr to : Nat → Nat} {cap b k cost room ex pot via : Nat → Int} {M : List Nat}
/-- Broad first: who is seen, by which arc. -/
structure BfP (n m : Nat) (fr to : Nat → Nat) (room ex : Nat → Int) (sd : Nat → Bool) (via : Nat → Int) (Q : List Nat) (rk : Nat → Nat) : Prop where
  qs : ∀ v ∈ Q, v < n ∧ sd v = true
  sq : ∀ v, sd v = true → v ∈ Q
  arc : ∀ v, sd v = true → (via v = -1 ∧ 0 < ex v) ∨ ∃ a : Nat, via v = a ∧ a < 2 * m ∧ hdA fr to a = v ∧ 0 < room a ∧ sd (tlA fr to a) = true ∧ rk (tlA fr to a) < rk v
  ok : ∀ v, sd v = true → 0 ≤ ex v
  len : (Q.length : Int) + unm n sd ≤ n
  src : ∀ v, v < n → 0 < ex v → sd v = true
  rkb : ∀ v, sd v = true → rk v < Q.length + 1
section
variable {sd : Nat → Bool} {Q : List Nat} {rk : Nat → Nat}
theorem BfP.see (B : BfP n m fr to room ex sd via Q rk) {a : Nat} (ha : a < 2 * m) (ht : sd (tlA fr to a) = true) (hr : 0 < room a) (hf : sd (hdA fr to a) = false) :
    ∀ v, updB sd (hdA fr to a) true v = true → (upd via (hdA fr to a) a v = -1 ∧ 0 < ex v) ∨ ∃ c : Nat, upd via (hdA fr to a) a v = c ∧ c < 2 * m ∧ hdA fr to c = v ∧ 0 < room c ∧ updB sd (hdA fr to a) true (tlA fr to c) = true ∧ updN rk (hdA fr to a) (Q.length + 1) (tlA fr to c) < updN rk (hdA fr to a) (Q.length + 1) v := by
  intro v hv
  have ne : ∀ w, sd w = true → w ≠ hdA fr to a := fun w hw e => by rw [e, hf] at hw; cases hw
  by_cases e : v = hdA fr to a
  · subst e
    refine .inr ⟨a, upd_at, ha, rfl, hr, updB_mono ht, ?_⟩
    rw [updN_at, updN_ne (ne _ ht)]
    exact B.rkb _ ht
  · have hv : sd v = true := by unfold updB at hv; rwa [if_neg e] at hv
    rw [upd_ne e, updN_ne e]
    rcases B.arc v hv with h | ⟨c, h1, h2, h3, h4, h5, h6⟩
    · exact .inl h
    · exact .inr ⟨c, h1, h2, h3, h4, updB_mono h5, by rw [updN_ne (ne _ h5)]; exact h6⟩
theorem BfP.push (B : BfP n m fr to room ex sd via Q rk) {a : Nat} (ha : a < 2 * m) (ht : sd (tlA fr to a) = true) (hr : 0 < room a) (hf : sd (hdA fr to a) = false) (hn : hdA fr to a < n) (hx : 0 ≤ ex (hdA fr to a)) :
    BfP n m fr to room ex (updB sd (hdA fr to a) true) (upd via (hdA fr to a) a) (Q ++ [hdA fr to a]) (updN rk (hdA fr to a) (Q.length + 1)) := by
  have hu := unm_set hn hf
  refine ⟨fun v hv => ?_, fun v hv => ?_, B.see ha ht hr hf, fun v hv => ?_, ?_, fun v hv hx => updB_mono (B.src v hv hx), fun v hv => ?_⟩
  · rcases List.mem_append.1 hv with h | h
    · exact ⟨(B.qs v h).1, updB_mono (B.qs v h).2⟩
    · have : v = hdA fr to a := by simpa using h
      subst this; exact ⟨hn, by unfold updB; simp⟩
  · by_cases e : v = hdA fr to a
    · subst e; simp
    · have : sd v = true := by unfold updB at hv; rwa [if_neg e] at hv
      exact List.mem_append.2 (.inl (B.sq v this))
  · by_cases e : v = hdA fr to a
    · subst e; exact hx
    · exact B.ok v (by unfold updB at hv; rwa [if_neg e] at hv)
  · have := B.len
    simp only [List.length_append, List.length_cons, List.length_nil]
    omega
  · simp only [List.length_append, List.length_cons, List.length_nil]
    by_cases e : v = hdA fr to a
    · subst e; rw [updN_at]; omega
    · rw [updN_ne e]
      have := B.rkb v (by unfold updB at hv; rwa [if_neg e] at hv)
      omega
end
end

end Go.Proofs.Ytdblngaacnpgmaa

namespace Go.Proofs.Ytdblngaacnpgmaa
open Go
open Classical
set_option linter.unusedVariables false
set_option linter.unusedSimpArgs false

theorem Rch.path {R : Nat → Nat → Prop} {u v : Nat} (r : Rch R u v) : ∃ (L : Nat) (y : Nat → Nat), y 0 = u ∧ y L = v ∧ ∀ s, s < L → R (y s) (y (s + 1)) := by
  induction r with
  | refl => exact ⟨0, fun _ => u, rfl, rfl, fun s hs => by omega⟩
  | @step b c _ k ih =>
    obtain ⟨L, y, y0, yL, hy⟩ := ih
    refine ⟨L + 1, fun s => if s ≤ L then y s else c, by simp [y0], if_neg (by omega), fun s hs => ?_⟩
    by_cases e : s = L
    · subst e
      have h1 : ¬ s + 1 ≤ s := by omega
      simp only [Nat.le_refl, h1, if_true, if_false]
      rw [yL]; exact k
    · have h1 : s ≤ L := by omega
      have h2 : s + 1 ≤ L := by omega
      simp only [h1, h2, if_true]
      exact hy s (by omega)
theorem short_path {n : Nat} {R : Nat → Nat → Prop} {u v : Nat} (hn : ∀ a b, R a b → b < n) (hu : u < n) (r : Rch R u v) : ∃ (L : Nat) (y : Nat → Nat), L < n ∧ y 0 = u ∧ y L = v ∧ ∀ s, s < L → R (y s) (y (s + 1)) := by
  obtain ⟨L, ⟨y, y0, yL, hy⟩, hmin⟩ := least (P := fun L => ∃ y : Nat → Nat, y 0 = u ∧ y L = v ∧ ∀ s, s < L → R (y s) (y (s + 1))) r.path
  refine ⟨L, y, ?_, y0, yL, hy⟩
  apply Classical.byContradiction
  intro hL
  have hlt : ∀ i, i ≤ n → y i < n := fun i hi => by
    cases i with
    | zero => rw [y0]; exact hu
    | succ i => exact hn _ _ (hy i (by omega))
  obtain ⟨i, j, h1, h2, h3⟩ := pigeon hlt
  have := hmin (L - (j - i)) ⟨fun s => if s ≤ i then y s else y (s + (j - i)), by simp [y0], ?_, fun s hs => ?_⟩
  · omega
  · by_cases e : L - (j - i) ≤ i
    · have e2 : L - (j - i) = i := by omega
      simp only [e2, Nat.le_refl, if_true]
      rw [h3, ← yL]
      congr 1; omega
    · simp only [e, if_false]
      rw [← yL]
      congr 1; omega
  · by_cases e : s = i
    · subst e
      have h4 : ¬ s + 1 ≤ s := by omega
      simp only [Nat.le_refl, h4, if_true, if_false]
      rw [h3, show s + 1 + (j - s) = j + 1 by omega]
      exact hy j (by omega)
    · by_cases e2 : s ≤ i
      · have h4 : s + 1 ≤ i := by omega
        simp only [e2, h4, if_true]
        exact hy s (by omega)
      · have h4 : ¬ s + 1 ≤ i := by omega
        simp only [e2, h4, if_false]
        rw [show s + 1 + (j - i) = s + (j - i) + 1 by omega]
        exact hy _ (by omega)
section
variable {n m : Nat} {fr to : Nat → Nat} {cap b cost room room0 ex pot pot0 : Nat → Int} {w e0 : Int}
/-- From where there is too much a way leads to where something lacks, along what differs from a plan. -/
theorem lack_way (R : RmP m cap room) (R0 : RmP m cap room0) (hn : ∀ i, i < m → fr i < n ∧ to i < n) (h : ∀ v, v < n → OutF m fr to (onR room0) v - OutF m fr to (onR room) v = ex v) {v : Nat} (hv : v < n) (hx : 0 < ex v) :
    ∃ (L : Nat) (y : Nat → Nat), L < n ∧ y 0 = v ∧ y L < n ∧ ex (y L) < 0 ∧ ∀ s, s < L → ∃ a, a < 2 * m ∧ tlA fr to a = y s ∧ hdA fr to a = y (s + 1) ∧ 0 < room a ∧ 0 < room0 (prA a) := by
  let D : Nat → Nat → Prop := fun u w => ∃ a, a < 2 * m ∧ tlA fr to a = u ∧ hdA fr to a = w ∧ 0 < room a ∧ 0 < room0 (prA a)
  have hD : ∀ a b, D a b → b < n := fun a b ⟨c, h1, _, h3, _⟩ => by rw [← h3]; exact hd_lt hn h1
  by_cases e : ∃ u, Rch D v u ∧ u < n ∧ ex u < 0
  · obtain ⟨u, r, un, ux⟩ := e
    obtain ⟨L, y, h1, h2, h3, h4⟩ := short_path hD hv r
    exact ⟨L, y, h1, h2, by rw [h3]; exact un, by rw [h3]; exact ux, h4⟩
  exfalso
  have hC : ∀ u, u < n → Rch D v u → 0 ≤ ex u := fun u hu r => by
    apply Classical.byContradiction
    intro h2; exact e ⟨u, r, hu, by omega⟩
  have e1 := out_side (f := onR room0) hn (fun u => Rch D v u)
  have e2 := out_side (f := onR room) hn (fun u => Rch D v u)
  have e3 : sumN n (fun u => if Rch D v u then ex u else 0) = sumN n (fun u => if Rch D v u then OutF m fr to (onR room0) u else 0) - sumN n (fun u => if Rch D v u then OutF m fr to (onR room) u else 0) := by
    rw [← sumN_sub]
    refine sumN_congr fun u hu => ?_
    have := h u hu
    split <;> omega
  have e4 : sumN m (fun i => ((if Rch D v (fr i) then onR room0 i else 0) - (if Rch D v (to i) then onR room0 i else 0)) - ((if Rch D v (fr i) then onR room i else 0) - (if Rch D v (to i) then onR room i else 0))) ≤ sumN m fun _ => 0 := sumN_le fun i hi => by
    have s1 := R.sum i hi
    have s2 := R0.sum i hi
    have p1 := R.pos (2 * i) (by omega)
    have p2 := R.pos (2 * i + 1) (by omega)
    have p3 := R0.pos (2 * i) (by omega)
    have p4 := R0.pos (2 * i + 1) (by omega)
    have pe : prA (2 * i) = 2 * i + 1 := by unfold prA; rw [if_pos (by omega)]
    have po : prA (2 * i + 1) = 2 * i := by unfold prA; rw [if_neg (by omega)]; omega
    unfold onR
    by_cases c1 : Rch D v (fr i) <;> by_cases c2 : Rch D v (to i)
    · simp only [c1, c2, if_true]; omega
    · simp only [c1, c2, if_true, if_false]
      have : ¬ (0 < room (2 * i) ∧ 0 < room0 (2 * i + 1)) := fun ⟨a, b⟩ => c2 (c1.step ⟨2 * i, by omega, tlA_0 i, hdA_0 i, a, by rw [pe]; exact b⟩)
      omega
    · simp only [c1, c2, if_true, if_false]
      have : ¬ (0 < room (2 * i + 1) ∧ 0 < room0 (2 * i)) := fun ⟨a, b⟩ => c1 (c2.step ⟨2 * i + 1, by omega, tlA_1 i, hdA_1 i, a, by rw [po]; exact b⟩)
      omega
    · simp only [c1, c2, if_false]; omega
  rw [sumN_sub, ← e1, ← e2, ← e3, sumN_zero (fun _ _ => rfl)] at e4
  have := sumN_mem (f := fun u => if Rch D v u then ex u else 0) (k := n) (i := v) (fun u hu => by
    show 0 ≤ if Rch D v u then ex u else 0
    by_cases c : Rch D v u
    · rw [if_pos c]; exact hC u hu c
    · rw [if_neg c]; omega) hv
  rw [if_pos Rch.refl] at this
  omega
/-- Potentials on the way of refine: no arc with room costs less than -w; none that lacks was lowered. -/
structure RfP (n m : Nat) (fr to : Nat → Nat) (cost pot0 : Nat → Int) (w B : Int) (room ex pot : Nat → Int) : Prop where
  ge : ∀ a, a < 2 * m → 0 < room a → -w ≤ redC fr to cost pot a
  lo : ∀ v, v < n → pot0 v - B ≤ pot v ∧ pot v ≤ pot0 v
  ng : ∀ v, v < n → ex v < 0 → pot v = pot0 v
/-- What refine starts from. -/
structure Rf0 (n m : Nat) (fr to : Nat → Nat) (cap b cost room0 pot0 : Nat → Int) (w e0 : Int) : Prop where
  rm : RmP m cap room0
  out : ∀ v, v < n → OutF m fr to (onR room0) v = b v
  ge : ∀ a, a < 2 * m → 0 < room0 a → -e0 ≤ redC fr to cost pot0 a
  w1 : 1 ≤ w
  e1 : 0 ≤ e0
  pr : ∀ a, a < 2 * m → cost (prA a) = - cost a
  cb : ∀ a, a < 2 * m → -1125899906842624 ≤ cost a ∧ cost a ≤ 1125899906842624
  pb : ∀ v, v < n → n * (w + e0) - 281474976710656 ≤ pot0 v ∧ pot0 v ≤ 0
theorem pot_way (Z : Rf0 n m fr to cap b cost room0 pot0 w e0) (ge : ∀ a, a < 2 * m → 0 < room a → -w ≤ redC fr to cost pot a) {y : Nat → Nat} {L : Nat}
    (hy : ∀ s, s < L → ∃ a, a < 2 * m ∧ tlA fr to a = y s ∧ hdA fr to a = y (s + 1) ∧ 0 < room a ∧ 0 < room0 (prA a)) : ∀ s, s ≤ L → pot (y s) - pot0 (y s) - s * (w + e0) ≤ pot (y 0) - pot0 (y 0) := by
  intro s
  induction s with
  | zero => intro _; simp
  | succ s ih =>
    intro hs
    have := ih (by omega)
    obtain ⟨a, h1, h2, h3, h4, h5⟩ := hy s (by omega)
    have g1 := ge a h1 h4
    have g2 := Z.ge _ (prA_lt h1) h5
    rw [redC_pr (Z.pr a h1) h1] at g2
    unfold redC at g1 g2
    rw [h2, h3] at g1 g2
    have e : ((s + 1 : Nat) : Int) * (w + e0) = s * (w + e0) + (w + e0) := by rw [Int.natCast_add, Int.add_mul]; simp
    rw [e]
    generalize (s : Int) * (w + e0) = P at *
    omega
theorem Rf0.low (Z : Rf0 n m fr to cap b cost room0 pot0 w e0) (hn : ∀ i, i < m → fr i < n ∧ to i < n) (R : RmP m cap room) (bal : ∀ v, v < n → ex v + OutF m fr to (onR room) v = b v)
    (ge : ∀ a, a < 2 * m → 0 < room a → -w ≤ redC fr to cost pot a) (ng : ∀ v, v < n → ex v < 0 → pot v = pot0 v) {v : Nat} (hv : v < n) (hx : 0 < ex v) :
    pot0 v - n * (w + e0) ≤ pot v ∧ ∃ a, a < 2 * m ∧ tlA fr to a = v ∧ 0 < room a := by
  obtain ⟨L, y, h1, h2, h3, h4, h5⟩ := lack_way (ex := ex) R Z.rm hn (fun u hu => by have := bal u hu; have := Z.out u hu; omega) hv hx
  constructor
  · have := pot_way Z ge h5 L (Nat.le_refl _)
    rw [h2, ng _ h3 h4] at this
    have w1 := Z.w1
    have e1 := Z.e1
    have h6 : (L : Int) * (w + e0) ≤ n * (w + e0) := Int.mul_le_mul_of_nonneg_right (by omega) (by omega)
    generalize (L : Int) * (w + e0) = P at *
    generalize (n : Int) * (w + e0) = Q at *
    omega
  · cases L with
    | zero => rw [h2] at h4; omega
    | succ L =>
      obtain ⟨a, g1, g2, g3, g4, g5⟩ := h5 0 (by omega)
      exact ⟨a, g1, by rw [g2, h2], g4⟩
theorem RfP.pb (P : RfP n m fr to cost pot0 w (n * (w + e0)) room ex pot) (Z : Rf0 n m fr to cap b cost room0 pot0 w e0) : ∀ v, v < n → -281474976710656 ≤ pot v ∧ pot v ≤ 0 := fun v hv => by
  have := P.lo v hv
  have := Z.pb v hv
  generalize (n : Int) * (w + e0) = Q at *
  omega
theorem RfP.push {B : Int} (P : RfP n m fr to cost pot0 w B room ex pot) (hw : 1 ≤ w) (hp : ∀ a, a < 2 * m → cost (prA a) = - cost a) {a : Nat} {x : Int} (ha : a < 2 * m) (hr : redC fr to cost pot a < 0) (hx : 0 < x) (h1 : x ≤ room a) (h2 : x ≤ ex (tlA fr to a)) :
    RfP n m fr to cost pot0 w B (sndR room a x) (exS ex (tlA fr to a) (hdA fr to a) x) pot := by
  refine ⟨fun c hc hrc => ?_, P.lo, fun v hv hxv => P.ng v hv ?_⟩
  · by_cases e1 : c = a
    · subst e1; exact P.ge c hc (by omega)
    · by_cases e2 : c = prA a
      · subst e2; rw [redC_pr (hp a ha) ha]; omega
      · rw [sndR_o e1 e2] at hrc; exact P.ge c hc hrc
  · unfold exS at hxv
    by_cases e1 : tlA fr to a = v
    · rw [if_pos e1] at hxv; rw [e1] at h2; split at hxv <;> omega
    · rw [if_neg e1] at hxv; split at hxv <;> omega
end

end Go.Proofs.Ytdblngaacnpgmaa

namespace Go.Proofs.Ytdblngaacnpgmaa
open Go
open Classical
set_option linter.unusedVariables false
set_option linter.unusedSimpArgs false

/-- The queue holds those with too much, but for one. -/
structure QuP (n : Nat) (ex : Nat → Int) (Q : List Nat) (c : Nat → Prop) : Prop where
  nd : Q.Nodup
  mem : ∀ v, v ∈ Q → v < n ∧ 0 < ex v ∧ ¬ c v
  all : ∀ v, v < n → 0 < ex v → v ∈ Q ∨ c v
section
variable {own own' : Own} {h h' : H} {bn bs n m : Nat} {fr to : Nat → Nat} {cap b k cost room room0 ex pot pot0 : Nat → Int} {M : List Nat} {w e0 : Int} {Q : List Nat}
theorem QuP.len {c : Nat → Prop} (q : QuP n ex Q c) : Q.length ≤ n := by
  have := cntP_list (n := n) q.nd fun x hx => (q.mem x hx).1
  have := cntP_all (n := n) (P := fun x => x ∈ Q)
  omega
theorem QuP.push {v u : Nat} {x : Int} (q : QuP n ex Q fun z => z = v) (hu : u < n) (hx : 0 < x) (hv : 0 < ex v) (hxv : x ≤ ex v) :
    QuP n (exS ex v u x) (if ex u ≤ 0 ∧ 0 < ex u + x then Q ++ [u] else Q) (fun z => z = v) ∧ 0 ≤ exS ex v u x v := by
  have inc : ∀ z, z ≠ v → ex z ≤ exS ex v u x z := fun z hz => by
    unfold exS; rw [if_neg (fun h => hz h.symm)]; split <;> omega
  constructor
  · by_cases c : ex u ≤ 0 ∧ 0 < ex u + x
    · rw [if_pos c]
      have uv : u ≠ v := by rintro rfl; omega
      have uQ : u ∉ Q := fun h => by have := (q.mem u h).2.1; omega
      refine ⟨?_, fun z hz => ?_, fun z hz hx => ?_⟩
      · rw [List.nodup_append]
        refine ⟨q.nd, by simp, fun a ha b hb => ?_⟩
        have : b = u := by simpa using hb
        subst this; rintro rfl; exact uQ ha
      · rcases List.mem_append.1 hz with k | k
        · obtain ⟨h1, h2, h3⟩ := q.mem z k
          exact ⟨h1, by have := inc z h3; omega, h3⟩
        · have : z = u := by simpa using k
          subst this
          refine ⟨hu, ?_, uv⟩
          unfold exS; rw [if_neg (fun h => uv h.symm), if_pos rfl]; omega
      · by_cases e : z = v
        · exact .inr e
        · by_cases e2 : z = u
          · subst e2; exact .inl (by simp)
          · have : exS ex v u x z = ex z := by unfold exS; rw [if_neg (fun h => e h.symm), if_neg (fun h => e2 h.symm)]; omega
            rw [this] at hx
            rcases q.all z hz hx with k | k
            · exact .inl (List.mem_append.2 (.inl k))
            · exact .inr k
    · rw [if_neg c]
      refine ⟨q.nd, fun z hz => ?_, fun z hz hx => ?_⟩
      · obtain ⟨h1, h2, h3⟩ := q.mem z hz
        exact ⟨h1, by have := inc z h3; omega, h3⟩
      · by_cases e : z = v
        · exact .inr e
        · by_cases e2 : z = u
          · subst e2
            refine q.all z hz ?_
            unfold exS at hx; rw [if_neg (fun h => e h.symm), if_pos rfl] at hx
            omega
          · have : exS ex v u x z = ex z := by unfold exS; rw [if_neg (fun h => e h.symm), if_neg (fun h => e2 h.symm)]; omega
            rw [this] at hx
            exact q.all z hz hx
  · unfold exS; rw [if_pos rfl]; split <;> omega
end

end Go.Proofs.Ytdblngaacnpgmaa

namespace Go.Proofs.Ytdblngaacnpgmaa
open Go
open Classical
set_option linter.unusedVariables false
set_option linter.unusedSimpArgs false

section
variable {own own' : Own} {h h' : H} {bn bs n m : Nat} {fr to : Nat → Nat} {cap b k cost room room0 ex pot pot0 : Nat → Int} {M : List Nat} {w e0 : Int}
/-- Nearly right for costs times n + 1: no circle costs less than nothing. -/
theorem NegC.no (ge : ∀ a, a < 2 * m → 0 < room a → -1 ≤ redC fr to (fun a => cost a * ((n + 1 : Nat) : Int)) pot a) : ¬ NegC n m fr to room cost := by
  rintro ⟨y, arc, p, p1, p2, p3, p4, p5⟩
  have key : ∀ q, q ≤ p → -(q : Int) + pot (y 0) - pot (y q) ≤ sumN q (fun s => cost (arc s)) * ((n + 1 : Nat) : Int) := by
    intro q
    induction q with
    | zero => intro _; show _ ≤ (0 : Int) * _; omega
    | succ q ih =>
      intro hq
      have a := ih (by omega)
      obtain ⟨g1, g2, g3, g4⟩ := p4 q (by omega)
      have c := ge _ g1 g4
      unfold redC at c
      rw [g2, g3] at c
      show _ ≤ (sumN q (fun s => cost (arc s)) + cost (arc q)) * ((n + 1 : Nat) : Int)
      rw [Int.add_mul]
      generalize sumN q (fun s => cost (arc s)) * ((n + 1 : Nat) : Int) = A at *
      dsimp only at c
      generalize cost (arc q) * ((n + 1 : Nat) : Int) = B at *
      omega
  have := key p (Nat.le_refl _)
  rw [p3] at this
  have h2 : sumN p (fun s => cost (arc s)) * ((n + 1 : Nat) : Int) ≤ -1 * ((n + 1 : Nat) : Int) := Int.mul_le_mul_of_nonneg_right (by omega) (by omega)
  omega
end

end Go.Proofs.Ytdblngaacnpgmaa

namespace Go.Proofs.Ytdblngaacnpgmaa
open Go
set_option linter.unusedVariables false
set_option linter.unusedSimpArgs false

section
variable {h : H} {w : List Value} {n m l : Nat} {es : Nat → Ed} {sv : Value} {bf : Nat → Int}
/-- Are they supplies? -/
def supOK (n : Int) (l : Nat) (bf : Nat → Int) : Prop := n = l ∧ (∀ v, v < l → -1048576 ≤ bf v ∧ bf v ≤ 1048576) ∧ sumN l bf = 0
end

end Go.Proofs.Ytdblngaacnpgmaa

namespace Go.Proofs.Ytdblngaacnpgmaa
open Go
set_option linter.unusedVariables false
set_option linter.unusedSimpArgs false
set_option maxRecDepth 100000

theorem FrOK.cons {fr : Fr} {a : Act} {t : Nat} {v : Value} (h : FrOK fr a) (hv : a.tmps[t]? = some v) : FrOK ((t, v) :: fr) a := by
  intro s q hq
  simp only [Fr.get] at hq
  cases e : Nat.beq t s with
  | true =>
    have := Nat.eq_of_beq_eq_true e
    subst this
    rw [e, cond_true] at hq
    rw [hv]; exact hq
  | false =>
    rw [e, cond_false] at hq
    exact h s q hq
end Go.Proofs.Ytdblngaacnpgmaa

namespace Go.Proofs.Ytdblngaacnpgmaa
open Go
set_option linter.unusedVariables false
set_option linter.unusedSimpArgs false
set_option maxRecDepth 100000

/-- The results' blocks. -/
structure P4 (g : H) (b6 b7 b8 b9 : Nat) (pl : List Value) (co : Int) (sv : Value) (er : Int) : Prop where
  l : pl.length = 3
  k6 : Bl g b6 pl
  k7 : Bl g b7 [.int .i64 co]
  k8 : Bl g b8 [sv]
  k9 : Bl g b9 [.int .i64 er]
  ne : b6 ≠ b7 ∧ b6 ≠ b8 ∧ b6 ≠ b9 ∧ b7 ≠ b8 ∧ b7 ≠ b9 ∧ b8 ≠ b9
/-- All but the results' blocks is kept. -/
def K4 (b6 b7 b8 b9 : Nat) (g g2 : H) : Prop := ∀ c o, c ≠ b6 → c ≠ b7 → c ≠ b8 → c ≠ b9 → g c = some o → g2 c = some o
section
variable {g g' : H} {b6 b7 b8 b9 : Nat} {pl : List Value} {co er : Int} {sv : Value}
theorem P4.ext (P : P4 g b6 b7 b8 b9 pl co sv er) (x : Ext g g') : P4 g' b6 b7 b8 b9 pl co sv er := ⟨P.l, P.k6.ext x, P.k7.ext x, P.k8.ext x, P.k9.ext x, P.ne⟩
theorem Ext.k4 (x : Ext g g') : K4 b6 b7 b8 b9 g g' := fun c o _ _ _ _ h => x c o h
theorem K4.trans {g2 g3 : H} (a : K4 b6 b7 b8 b9 g g2) (b : K4 b6 b7 b8 b9 g2 g3) : K4 b6 b7 b8 b9 g g3 := fun c o h1 h2 h3 h4 h => b c o h1 h2 h3 h4 (a c o h1 h2 h3 h4 h)
theorem Bl.ldI0 {b : Nat} {x : Int} {K : Int → Prop} (B : Bl g b [.int .i64 x]) (k : K x) : ldI g (bk b) .i64 K := ⟨x, by have := B.ld (i := 0) rfl; rwa [add_zero'] at this, k⟩
theorem Bl.ldV0 {b : Nat} {x : Value} {K : Value → Prop} (B : Bl g b [x]) (k : K x) : ldV g (bk b) K := ⟨x, by have := B.ld (i := 0) rfl; rwa [add_zero'] at this, k⟩
/-- The results are read. -/
theorem P4.read {K : List Value → Int → Value → Int → Prop} (P : P4 g b6 b7 b8 b9 pl co sv er) (k : K pl co sv er) : ldN g (bk b6) 3 fun x1 => ldI g (bk b7) .i64 fun x2 => ldV g (bk b8) fun x3 => ldI g (bk b9) .i64 fun x4 => K x1 x2 x3 x4 :=
  P.k6.ldN P.l (P.k7.ldI0 (P.k8.ldV0 (P.k9.ldI0 k)))
end
end Go.Proofs.Ytdblngaacnpgmaa

namespace Go.Proofs.Ytdblngaacnpgmaa
open Go
set_option linter.unusedVariables false
set_option linter.unusedSimpArgs false

instance {n : Int} {l : Nat} {bf : Nat → Int} : Decidable (supOK n l bf) := by unfold supOK; infer_instance
/-- A plan as Go holds it. -/
abbrev plV (sup on pot : Value) : List Value := [sup, on, pot]
/-- What Solve answers where nothing is wrong. -/
structure PlanR (own : Own) (h' : H) (n m : Nat) (es : Nat → Ed) (bf : Nat → Int) (vs von vp : Value) (f p : Nat → Int) : Prop where
  s : S1 own h' 24 vs (ints n bf)
  o : S1 own h' 23 von (ints m f)
  po : S1 own h' 7 vp (ints n p)
  pl : PlanP n m (frE es) (toE es) (cpE es) bf f
  pt : PotP m (frE es) (toE es) (cpE es) (ckE es) f p
  pb : ∀ v, v < n → -1073741824 ≤ p v ∧ p v ≤ 1073741824
section
variable {own own' : Own} {g g' h h' : H} {i b : Nat} {v : Value} {vs : List Value}
theorem K4.fm {b6 b7 b8 b9 : Nat} {pl pl' : List Value} {co er co' er' : Int} {sv sv' : Value} (k : K4 b6 b7 b8 b9 g g') (P : P4 g b6 b7 b8 b9 pl co sv er) (P' : P4 g' b6 b7 b8 b9 pl' co' sv' er') (h6 : own b6 = 15) (h7 : own b7 = 16) (h8 : own b8 = 17) (h9 : own b9 = 18) : Fm [15, 16, 17, 18] own g own g' := by
  refine ⟨fun c o e n => k c o ?_ ?_ ?_ ?_ e, fun c o e => ⟨?_, rfl⟩⟩
  · rintro rfl; rw [h6] at n; simp at n
  · rintro rfl; rw [h7] at n; simp at n
  · rintro rfl; rw [h8] at n; simp at n
  · rintro rfl; rw [h9] at n; simp at n
  · by_cases e6 : c = b6
    · subst e6; obtain ⟨x, hx⟩ := P'.k6; exact ⟨_, hx⟩
    · by_cases e7 : c = b7
      · subst e7; obtain ⟨x, hx⟩ := P'.k7; exact ⟨_, hx⟩
      · by_cases e8 : c = b8
        · subst e8; obtain ⟨x, hx⟩ := P'.k8; exact ⟨_, hx⟩
        · by_cases e9 : c = b9
          · subst e9; obtain ⟨x, hx⟩ := P'.k9; exact ⟨_, hx⟩
          · exact ⟨o, k c o e6 e7 e8 e9 e⟩
theorem P4.of {b6 b7 b8 b9 : Nat} {pl : List Value} {co er : Int} {sv : Value} (hl : pl.length = 3) (k6 : B1 own g 15 b6 pl) (k7 : B1 own g 16 b7 [.int .i64 co]) (k8 : B1 own g 17 b8 [sv]) (k9 : B1 own g 18 b9 [.int .i64 er]) : P4 g b6 b7 b8 b9 pl co sv er := by
  have h6 := k6.own_
  have h7 := k7.own_
  have h8 := k8.own_
  have h9 := k9.own_
  refine ⟨hl, k6.bl, k7.bl, k8.bl, k9.bl, ?_, ?_, ?_, ?_, ?_, ?_⟩ <;> (rintro rfl; omega)
end

end Go.Proofs.Ytdblngaacnpgmaa

namespace Go.Proofs.Ytdblngaacnpgmaa
open Go
set_option linter.unusedVariables false
set_option linter.unusedSimpArgs false

section
variable {h : H} {w : List Value} {n : Int} {m l : Nat} {es : Nat → Ed} {sv : Value} {bf : Nat → Int}
theorem K4.ext_ {b6 b7 b8 b9 : Nat} {g g' : H} (x : Ext h g) (n6 : h b6 = none) (n7 : h b7 = none) (n8 : h b8 = none) (n9 : h b9 = none) (k : K4 b6 b7 b8 b9 g g') : Ext h g' := fun c o e => by
  refine k c o ?_ ?_ ?_ ?_ (x c o e)
  · rintro rfl; rw [n6] at e; cases e
  · rintro rfl; rw [n7] at e; cases e
  · rintro rfl; rw [n8] at e; cases e
  · rintro rfl; rw [n9] at e; cases e
end

end Go.Proofs.Ytdblngaacnpgmaa

namespace Go.Proofs.Ytdblngaacnpgmaa
open Go
set_option linter.unusedVariables false
set_option linter.unusedSimpArgs false

section
variable {h : H} {w : List Value} {n : Int} {m l : Nat} {es : Nat → Ed} {sv : Value} {bf : Nat → Int}
theorem Gd.ev (gd : Gd l m es) (hs : supOK l l bf) : EvP l m (frE es) (toE es) (cpE es) bf :=
  ⟨gd.n1, gd.m1, fun i hi => gd.ends i hi, gd.c, hs.2.1, hs.2.2⟩
end

end Go.Proofs.Ytdblngaacnpgmaa

namespace Go.Proofs.Ytdblngaacnpgmaa
open Go
set_option linter.unusedVariables false
set_option linter.unusedSimpArgs false

/-- A circle that costs less than nothing, of distinct nodes. -/
structure CircP (n M : Nat) (tl hd : Nat → Nat) (c : Nat → Int) (Y F : Nat → Nat) (p : Nat) : Prop where
  p1 : 1 ≤ p
  pn : p ≤ n
  cl : Y p = Y 0
  arc : ∀ s, s < p → F s < M ∧ hd (F s) = Y s ∧ tl (F s) = Y (s + 1)
  dis : ∀ s t, s < t → t < p → Y s ≠ Y t
  neg : sumN p (fun s => c (F s)) < 0
/-- Who was changed in round n + 1 hangs on such a circle. -/
theorem BF.circle {n M j tm : Nat} {tl hd : Nat → Nat} {c : Nat → Int} {U : Nat → Prop} {C : Int} {d : Nat → Int} {via τ r : Nat → Nat} (B : BF M tl hd c U C (n + 1) j d via τ r tm) (hnA : ∀ i, i < M → tl i < n ∧ hd i < n) {v : Nat} (hrv : r v = n + 1) :
    (∀ s, via (bck tl via v s) < M ∧ bck tl via v s < n) ∧ ∃ p, CircP n M tl hd c (fun t => bck tl via v (n + t)) (fun t => via (bck tl via v (n + t))) p ∧ ∀ q, 1 ≤ q → q < p → bck tl via v (n + q) ≠ bck tl via v n := by
  obtain ⟨hpos, p0, p1, p2, p3⟩ := B.found hnA hrv
  have hset : ∀ s, via (bck tl via v s) < M ∧ hd (via (bck tl via v s)) = bck tl via v s := fun s => by
    obtain ⟨a, b, c, _⟩ := B.set _ (hpos s)
    exact ⟨a, c⟩
  have hbn : ∀ s, bck tl via v s < n := fun s => by
    obtain ⟨a, c⟩ := hset s
    rw [← c]; exact (hnA _ a).2
  refine ⟨fun s => ⟨(hset s).1, hbn s⟩, ?_⟩
  obtain ⟨L, ⟨L1, L2, L3⟩, Lmin⟩ := least (P := fun p => 1 ≤ p ∧ p ≤ n ∧ bck tl via v (n + p) = bck tl via v n) ⟨p0, p1, p2, by rw [bck_add]; exact p3⟩
  refine ⟨L, ⟨L1, L2, L3, fun s _ => ⟨(hset _).1, (hset _).2, rfl⟩, fun i l h1 h2 e => ?_, ?_⟩, fun q q1 q2 e => ?_⟩
  · have e2 : bck tl via v (n + i + (L - l)) = bck tl via v (n + l + (L - l)) := by rw [bck_add, bck_add (i := n + l)]; rw [show bck tl via v (n + i) = bck tl via v (n + l) from e]
    rw [show n + l + (L - l) = n + L by omega, L3, show n + i + (L - l) = n + (i + (L - l)) by omega] at e2
    have := Lmin (i + (L - l)) ⟨by omega, by omega, e2⟩
    omega
  · have := B.circ (y := bck tl via v n) (p := L) L1 (by rw [← bck_add]; exact L3) (fun i _ => by rw [← bck_add]; exact hpos _)
    refine Int.lt_of_le_of_lt (Int.le_of_eq (sumN_congr fun t _ => ?_)) this
    rw [← bck_add]
  · have := Lmin q ⟨q1, by omega, e⟩
    omega

end Go.Proofs.Ytdblngaacnpgmaa

namespace Go.Proofs.Ytdblngaacnpgmaa
open Go
set_option linter.unusedVariables false
set_option linter.unusedSimpArgs false

section
variable {h : H} {w : List Value} {n M : Nat} {es : Nat → Ed} {dv : Value} {d : Nat → Int}
theorem ints_o1 (n : Nat) (f : Nat → Int) : ∀ v ∈ ints n f, v.oneCell' = true := by
  intro v hv
  unfold ints at hv
  obtain ⟨j, _, rfl⟩ := List.mem_map.1 hv
  rfl
end

end Go.Proofs.Ytdblngaacnpgmaa

namespace Go.Proofs.Ytdblngaacnpgmaa
open Go
set_option linter.unusedVariables false
set_option linter.unusedSimpArgs false

theorem sumN_split {a : Nat} {f : Nat → Int} : ∀ {b : Nat}, sumN (a + b) f = sumN a f + sumN b fun i => f (a + i)
  | 0 => by show sumN a f = sumN a f + 0; omega
  | b + 1 => by
    show sumN (a + b) f + f (a + b) = sumN a f + (sumN b (fun i => f (a + i)) + f (a + b))
    rw [sumN_split]; omega
/-- A graph that may be somewhat too large for the program. -/
structure Gm (n m : Nat) (es : Nat → Ed) : Prop where
  n1 : n ≤ 1100
  m1 : m ≤ 8000
  f : ∀ i, i < m → ∃ v : Nat, (es i).f = v ∧ v < n
  t : ∀ i, i < m → ∃ v : Nat, (es i).t = v ∧ v < n
  c : ∀ i, i < m → 0 ≤ (es i).c ∧ (es i).c ≤ 1048576
  k : ∀ i, i < m → -1048576 ≤ (es i).k ∧ (es i).k ≤ 1048576
theorem Gd.gm {n m : Nat} {es : Nat → Ed} (g : Gd n m es) : Gm n m es := ⟨by have := g.n1; omega, by have := g.m1; omega, g.f, g.t, g.c, g.k⟩
theorem Gm.fr {n m : Nat} {es : Nat → Ed} (g : Gm n m es) {i : Nat} (hi : i < m) : (es i).f = (frE es i : Nat) ∧ frE es i < n := by
  obtain ⟨v, e, hv⟩ := g.f i hi
  unfold frE
  rw [e]; exact ⟨by simp, by simpa using hv⟩
theorem Gm.to {n m : Nat} {es : Nat → Ed} (g : Gm n m es) {i : Nat} (hi : i < m) : (es i).t = (toE es i : Nat) ∧ toE es i < n := by
  obtain ⟨v, e, hv⟩ := g.t i hi
  unfold toE
  rw [e]; exact ⟨by simp, by simpa using hv⟩
theorem Gm.ends {n m : Nat} {es : Nat → Ed} (g : Gm n m es) : ∀ i, i < m → frE es i < n ∧ toE es i < n := fun i hi => ⟨(g.fr hi).2, (g.to hi).2⟩
theorem Gm.w {n m : Nat} {es : Nat → Ed} (g : Gm n m es) : Gw n m es :=
  ⟨by have := g.n1; omega, by have := g.m1; omega, fun i hi => g.fr hi, fun i hi => g.to hi, g.c, g.k⟩
end Go.Proofs.Ytdblngaacnpgmaa

namespace Go.Proofs.Ytdblngaacnpgmaa
open Go
open Classical
set_option linter.unusedVariables false
set_option linter.unusedSimpArgs false

section
variable {h : H} {w : List Value} {n m : Nat} {es : Nat → Ed} {sv : Value} {bf : Nat → Int}
/-- The first ones. -/
theorem RS.take {v : Value} {a b : Nat} {f : Nat → Int} (s : RS h v (ints (a + b) f)) (hc : capV v) (hb : 0 < b) : ∃ ad l c, v = .slice ad l c ∧ l = a + b ∧ a ≤ c ∧ RS h (sliceV ad c 0 (a : Int) 1) (ints a f) := by
  obtain ⟨ad, c, e, k⟩ := s
  obtain ⟨ad2, l2, c2, e2, hle⟩ := hc
  rw [e] at e2
  simp only [Value.slice.injEq] at e2
  obtain ⟨rfl, rfl, rfl⟩ := e2
  rw [ints_length] at hle e
  obtain ⟨a0, ha0, _⟩ := k 0 _ (ints_get (show 0 < a + b by omega))
  subst ha0
  refine ⟨some a0, a + b, c, e, rfl, by omega, ⟨some a0, c, ?_, fun j x hj => ?_⟩⟩
  · unfold sliceV
    rw [if_neg (show ¬ c = (0 : Int).toNat by simp; omega)]
    simp [Addr.add, ints_length]
  · have hl := (List.getElem?_eq_some_iff.1 hj).1
    rw [ints_length] at hl
    refine k j x ?_
    rw [ints_get (by omega)]
    rwa [ints_get hl] at hj
end

end Go.Proofs.Ytdblngaacnpgmaa

namespace Go.Proofs.Ytdblngaacnpgmaa
open Go
set_option linter.unusedVariables false
set_option linter.unusedSimpArgs false

theorem Bl.rs {h : H} {b : Nat} {vs : List Value} (B : Bl h b vs) : RS h (.slice (some (bk b)) vs.length vs.length) vs := by
  refine ⟨_, _, rfl, fun j x hj => ⟨_, rfl, ?_⟩⟩
  rw [Nat.mul_one]; exact B.ld hj
section
variable {h : H} {own : Own} {n m l : Nat} {es : Nat → Ed} {bf f p : Nat → Int} {vs von vp : Value}
theorem PlanR.one (P : PlanR own h n m es bf vs von vp f p) : ∀ v ∈ plV vs von vp, v.oneCell' = true := by
  intro v hv
  simp only [List.mem_cons, List.not_mem_nil, or_false] at hv
  rcases hv with rfl | rfl | rfl
  · exact P.s.one
  · exact P.o.one
  · exact P.po.one
end

end Go.Proofs.Ytdblngaacnpgmaa

namespace Go.Proofs.Ytdblngaacnpgmaa
open Go
set_option linter.unusedVariables false
set_option linter.unusedSimpArgs false

/-- Another cost at a place. -/
def cstE (es : Nat → Ed) (j : Nat) (x : Int) (i : Nat) : Ed := if i = j then ⟨(es i).f, (es i).t, (es i).c, x⟩ else es i
theorem S4.setK {own : Own} {h : H} {i m : Nat} {v : Value} {es : Nat → Ed} {j : Nat} {x : Int} {K : H → Prop} (s : S4 own h i v m es) (hj : j < m)
    (k : ∀ g, Fm [i] own h own g → S4 own g i v m (cstE es j x) → K g) : ixS v (j : Int) 4 fun a => stC h (a.add 3) (.int .i64 x) K := by
  rcases s with ⟨rfl, _⟩ | ⟨b, c, e, zs, hb, rfl, h2, h3⟩
  · omega
  · refine nx hj ?_
    rw [bk_add, bk_add2]
    have hlt : j * 4 + 3 < m * 4 := at_lt hj (by omega)
    have e2 : hset h ⟨b, j * 4 + 3, none⟩ [.int .i64 x] b = some (.cells ⟨recs m 4 (edF (cstE es j x)) ++ zs⟩ e (0, 0)) := by
      unfold hset
      rw [if_pos rfl, h2]
      simp only [Option.map_some, setR]
      rw [List.setIfInBounds_toArray, List.set_append_left _ _ (by rw [recs_length]; exact hlt), recs_set hj (by omega)]
      congr 4
      have : ∀ l, l < m → ∀ q, q < 4 → upd2 (edF es) j 3 x l q = edF (cstE es j x) l q := fun l hl q hq => by
        unfold upd2 edF cstE
        by_cases e1 : l = j
        · subst e1
          rw [if_pos rfl]
          match q with
          | 0 => rw [if_neg (fun h => by cases h.2)]; rfl
          | 1 => rw [if_neg (fun h => by cases h.2)]; rfl
          | 2 => rw [if_neg (fun h => by cases h.2)]; rfl
          | 3 => rw [if_pos ⟨rfl, rfl⟩]; rfl
          | q + 4 => omega
        · rw [if_neg (fun h => e1 h.1), if_neg e1]
      unfold recs
      refine ints_ext fun i hi => ?_
      exact this _ (Nat.div_lt_of_lt_mul (by rw [Nat.mul_comm]; exact hi)) _ (Nat.mod_lt _ (by omega))
    refine ⟨⟨_, _, h2, rfl, ?_⟩, k _ (Fm.kp (b := b) ?_ hb ⟨_, e2⟩) (.inr ⟨b, c, e, zs, hb, rfl, e2, h3⟩)⟩
    · simp only [List.size_toArray, List.length_append, recs_length]; omega
    · intro k o hk hh
      unfold hset
      rw [if_neg hk]; exact hh
end Go.Proofs.Ytdblngaacnpgmaa

namespace Go.Proofs.Ytdblngaacnpgmaa
open Go
set_option linter.unusedVariables false
set_option linter.unusedSimpArgs false

theorem farI_eq : farI = 4611686018427387904 := rfl
/-- The columns that a row may have. -/
def al (wd u c : Nat) : Prop := c < wd ∨ c = wd + u
instance {wd u c : Nat} : Decidable (al wd u c) := by unfold al; infer_instance
def wt (wd : Nat) (W : Nat → Nat → Int) (u c : Nat) : Int := if c < wd then W u c else 0
/-- The first k rows have columns. -/
structure HgP (N wd k : Nat) (W : Nat → Nat → Int) (p q row : Nat → Int) : Prop where
  fe : ∀ u, u < k → ∀ c, c < N → al wd u c → wt wd W u c ≤ p u + q c
  ma : ∀ c, c < N → (row c = -1 ∧ q c = 0) ∨ ∃ u : Nat, u < k ∧ row c = u ∧ al wd u c ∧ p u + q c = wt wd W u c
  inj : ∀ c c' : Nat, c < N → c' < N → 0 ≤ row c → row c = row c' → c = c'
  on : ∀ u, u < k → ∃ c, c < N ∧ row c = u
  q0 : ∀ c, c < N → 0 ≤ q c ∧ q c ≤ k * 1048576
  p0 : ∀ u, k ≤ u → p u = 0
  p1 : ∀ u, u < k → p u ≤ 1048576
/-- By how much the potentials are more. -/
def gp (wd : Nat) (W : Nat → Nat → Int) (p q : Nat → Int) (u c : Nat) : Int := p u + q c - wt wd W u c
/-- How a column was come to. -/
def FrP (N wd v : Nat) (W : Nat → Nat → Int) (p q row frm : Nat → Int) (done : Nat → Bool) (rk : Nat → Nat) (c : Nat) (g : Int) : Prop :=
  (frm c = -1 ∧ al wd v c ∧ gp wd W p q v c = g) ∨ ∃ b u : Nat, frm c = b ∧ b < N ∧ done b = true ∧ row b = u ∧ al wd u c ∧ gp wd W p q u c = g ∧ (done c = true → rk b < rk c)
/-- A row looks for a column: X are the rows of those that were come to and looked from. -/
structure TkP (N wd v : Nat) (W : Nat → Nat → Int) (row : Nat → Int) (P : Int) (p q least frm : Nat → Int) (done : Nat → Bool) (rk : Nat → Nat) (t : Nat) (R : List Nat) (X : Nat → Prop) : Prop where
  fe : ∀ u, u < v + 1 → ∀ c, c < N → al wd u c → wt wd W u c ≤ p u + q c
  ma : ∀ c, c < N → (row c = -1 ∧ q c = 0 ∧ done c = false) ∨ ∃ u : Nat, u < v ∧ row c = u ∧ al wd u c ∧ p u + q c = wt wd W u c
  inj : ∀ c c' : Nat, c < N → c' < N → 0 ≤ row c → row c = row c' → c = c'
  on : ∀ u, u < v → ∃ c, c < N ∧ row c = u
  q0 : ∀ c, c < N → 0 ≤ q c ∧ q c ≤ v * 1048576 + (P - p v)
  pv : 0 ≤ p v ∧ p v ≤ P ∧ P ≤ 1048576
  p0 : ∀ u, v < u → p u = 0
  p1 : ∀ u, u < v → p u ≤ 1048576
  rr : ∀ u : Nat, u ∈ R ↔ u = v ∨ ∃ c, c < N ∧ done c = true ∧ row c = u
  nd : R.Nodup
  sc : ∀ u, X u → ∀ c, c < N → done c = false → al wd u c → least c ≤ gp wd W p q u c
  lf : ∀ c, c < N → (done c = false ∧ least c = farI) ∨ (done c = false ∧ FrP N wd v W p q row frm done rk c (least c)) ∨ (done c = true ∧ FrP N wd v W p q row frm done rk c 0)
  rk : ∀ c, c < N → done c = true → rk c < t

section
variable {N wd v k : Nat} {W : Nat → Nat → Int} {row p q least frm : Nat → Int} {P : Int} {done : Nat → Bool} {rk : Nat → Nat} {t : Nat} {R : List Nat} {X : Nat → Prop} {a c h : Nat} {g : Int}
theorem gp_eq (u c : Nat) : gp wd W p q u c = p u + q c - wt wd W u c := rfl
theorem TkP.gp0 (T : TkP N wd v W row P p q least frm done rk t R X) {u c : Nat} (hu : u < v + 1) (hc : c < N) (ha : al wd u c) : 0 ≤ gp wd W p q u c := by
  have := T.fe u hu c hc ha
  rw [gp_eq]; omega
theorem TkP.rlt (T : TkP N wd v W row P p q least frm done rk t R X) {u : Nat} (hu : u ∈ R) : u < v + 1 := by
  rcases (T.rr u).1 hu with rfl | ⟨c, hc, hd, hr⟩
  · omega
  · rcases T.ma c hc with ⟨h, _⟩ | ⟨u', h1, h2, _⟩
    · omega
    · omega
/-- Where rows are below 0 at least. -/
theorem TkP.pb (T : TkP N wd v W row P p q least frm done rk t R X) (hN : ∀ u, u < v + 1 → wd + u < N) {u : Nat} (hu : u < v + 1) : -((v + 1) * 1048576 : Int) ≤ p u ∧ p u ≤ 1048576 := by
  have a := T.fe u hu (wd + u) (hN u hu) (.inr rfl)
  have b := T.q0 (wd + u) (hN u hu)
  have c := T.pv
  have e : wt wd W u (wd + u) = 0 := by unfold wt; rw [if_neg (by omega)]
  refine ⟨by omega, ?_⟩
  by_cases h : u = v
  · subst h; omega
  · exact T.p1 u (by omega)
theorem TkP.gb (T : TkP N wd v W row P p q least frm done rk t R X) (hW : ∀ u c, 0 ≤ wt wd W u c) (hv : v ≤ 1024) {u c : Nat} (hu : u < v + 1) (hc : c < N) : gp wd W p q u c ≤ 1075838976 := by
  have b := T.q0 c hc
  have d := T.pv
  have e := hW u c
  rw [gp_eq]
  by_cases h : u = v
  · subst h; omega
  · have := T.p1 u (by omega); omega
theorem FrP.lt (h : FrP N wd v W p q row frm done rk c g) (T : TkP N wd v W row P p q least frm done rk t R X) (hW : ∀ u c, 0 ≤ wt wd W u c) (hv : v ≤ 1024) (hc : c < N) : 0 ≤ g ∧ g ≤ 1075838976 := by
  rcases h with ⟨_, h2, h3⟩ | ⟨b, u, h1, h2, h3, h4, h5, h6, _⟩
  · rw [← h3]; exact ⟨T.gp0 (by omega) hc h2, T.gb hW hv (by omega) hc⟩
  · have hu := T.rlt ((T.rr u).2 (.inr ⟨b, h2, h3, h4⟩))
    rw [← h6]; exact ⟨T.gp0 hu hc h5, T.gb hW hv hu hc⟩
/-- The start. -/
theorem HgP.take (G : HgP N wd v W p q row) (hp : p v = 0) {P : Int} (hP : 0 ≤ P ∧ P ≤ 1048576) (hf : ∀ c, c < N → al wd v c → wt wd W v c ≤ P + q c) (rk : Nat → Nat) :
    TkP N wd v W row P (upd p v P) q (fun _ => farI) (fun _ => -1) (fun _ => false) rk 0 [v] (fun _ => False) := by
  have hne : ∀ u, u < v → upd p v P u = p u := fun u hu => upd_ne (by omega)
  refine ⟨fun u hu c hc ha => ?_, fun c hc => ?_, G.inj, G.on, fun c hc => ?_, ?_, fun u hu => ?_, fun u hu => ?_, fun u => ?_, by simp, fun u h => h.elim, fun c hc => .inl ⟨rfl, rfl⟩, fun c hc h => by cases h⟩
  · by_cases e : u = v
    · subst e; rw [upd_at]; exact hf c hc ha
    · rw [hne u (by omega)]; exact G.fe u (by omega) c hc ha
  · rcases G.ma c hc with ⟨h1, h2⟩ | ⟨u, h1, h2, h3, h4⟩
    · exact .inl ⟨h1, h2, rfl⟩
    · exact .inr ⟨u, h1, h2, h3, by rw [hne u h1]; exact h4⟩
  · rw [upd_at]
    have := G.q0 c hc
    omega
  · rw [upd_at]; omega
  · rw [upd_ne (by omega)]; exact G.p0 u (by omega)
  · rw [hne u hu]; exact G.p1 u hu
  · simp
theorem TkP.wk {X' : Nat → Prop} (T : TkP N wd v W row P p q least frm done rk t R X) (h : ∀ u, X' u → X u) : TkP N wd v W row P p q least frm done rk t R X' :=
  ⟨T.fe, T.ma, T.inj, T.on, T.q0, T.pv, T.p0, T.p1, T.rr, T.nd, fun u hu => T.sc u (h u hu), T.lf, T.rk⟩
/-- The row's own column is not done. -/
theorem TkP.own (T : TkP N wd v W row P p q least frm done rk t R X) (hN : wd + v < N) : done (wd + v) = false ∧ q (wd + v) = 0 := by
  rcases T.ma (wd + v) hN with ⟨_, h2, h3⟩ | ⟨u, h1, h2, h3, _⟩
  · exact ⟨h3, h2⟩
  · rcases h3 with h3 | h3 <;> omega
theorem TkP.lb (T : TkP N wd v W row P p q least frm done rk t R X) (hW : ∀ u c, 0 ≤ wt wd W u c) (hv : v ≤ 1024) (hc : c < N) (hd : done c = false) (hl : least c < farI) : 0 ≤ least c ∧ least c ≤ 1075838976 := by
  rcases T.lf c hc with ⟨_, h⟩ | ⟨_, h⟩ | ⟨h, _⟩
  · omega
  · exact FrP.lt h T hW hv hc
  · rw [hd] at h; cases h
/-- What a look from a row finds. -/
def scL (N wd : Nat) (W : Nat → Nat → Int) (p q least : Nat → Int) (done : Nat → Bool) (a j c : Nat) : Int := if c < j ∧ done c = false ∧ al wd a c ∧ gp wd W p q a c < least c then gp wd W p q a c else least c
def scF (N wd : Nat) (W : Nat → Nat → Int) (p q least frm : Nat → Int) (done : Nat → Bool) (a : Nat) (inn : Int) (j c : Nat) : Int := if c < j ∧ done c = false ∧ al wd a c ∧ gp wd W p q a c < least c then inn else frm c
theorem TkP.scan (T : TkP N wd v W row P p q least frm done rk t R (fun u => u ∈ R ∧ u ≠ a)) {inn : Int} (hi : (inn = -1 ∧ a = v) ∨ ∃ b : Nat, b < N ∧ inn = b ∧ done b = true ∧ row b = a) :
    TkP N wd v W row P p q (scL N wd W p q least done a N) (scF N wd W p q least frm done a inn N) done rk t R (fun u => u ∈ R) := by
  refine ⟨T.fe, T.ma, T.inj, T.on, T.q0, T.pv, T.p0, T.p1, T.rr, T.nd, fun u hu c hc hd ha => ?_, fun c hc => ?_, T.rk⟩
  · unfold scL
    by_cases h : c < N ∧ done c = false ∧ al wd a c ∧ gp wd W p q a c < least c
    · rw [if_pos h]
      by_cases e : u = a
      · subst e; exact Int.le_refl _
      · have := T.sc u ⟨hu, e⟩ c hc hd ha
        omega
    · rw [if_neg h]
      by_cases e : u = a
      · subst e
        have : ¬ gp wd W p q u c < least c := fun h2 => h ⟨hc, hd, ha, h2⟩
        omega
      · exact T.sc u ⟨hu, e⟩ c hc hd ha
  · unfold scL
    by_cases h : c < N ∧ done c = false ∧ al wd a c ∧ gp wd W p q a c < least c
    · rw [if_pos h]
      refine .inr (.inl ⟨h.2.1, ?_⟩)
      unfold FrP scF
      rw [if_pos h]
      rcases hi with ⟨h1, rfl⟩ | ⟨b, h1, h2, h3, h4⟩
      · exact .inl ⟨h1, h.2.2.1, rfl⟩
      · exact .inr ⟨b, a, h2, h1, h3, h4, h.2.2.1, rfl, fun h5 => by rw [h.2.1] at h5; cases h5⟩
    · rw [if_neg h]
      have e : scF N wd W p q least frm done a inn N c = frm c := if_neg h
      rcases T.lf c hc with h1 | ⟨h1, h2⟩ | ⟨h1, h2⟩
      · exact .inl h1
      · refine .inr (.inl ⟨h1, ?_⟩)
        unfold FrP at *
        rw [e]; exact h2
      · refine .inr (.inr ⟨h1, ?_⟩)
        unfold FrP at *
        rw [e]; exact h2
/-- The potentials are changed. -/
def upP (p : Nat → Int) (R : List Nat) (less : Int) (u : Nat) : Int := if u ∈ R then p u - less else p u
def upQ (q : Nat → Int) (done : Nat → Bool) (less : Int) (j c : Nat) : Int := if c < j ∧ done c = true then q c + less else q c
def upL (least : Nat → Int) (done : Nat → Bool) (less : Int) (j c : Nat) : Int := if c < j ∧ done c = false ∧ least c < farI then least c - less else least c
theorem TkP.upd (T : TkP N wd v W row P p q least frm done rk t R (fun u => u ∈ R)) {nx : Nat} (hnx : nx < N) (hd : done nx = false) (hl : least nx < farI) (hm : ∀ c, c < N → done c = false → least nx ≤ least c) (hN : wd + v < N) (hW : ∀ u c, 0 ≤ wt wd W u c) (hv : v ≤ 1024) :
    0 ≤ least nx ∧ TkP N wd v W row P (upP p R (least nx)) (upQ q done (least nx) N) (upL least done (least nx) N) frm done rk t R (fun u => u ∈ R) ∧ upL least done (least nx) N nx = 0 := by
  have l0 : 0 ≤ least nx := by
    rcases T.lf nx hnx with ⟨_, h⟩ | ⟨_, h⟩ | ⟨h, _⟩
    · omega
    · exact (FrP.lt h T hW hv hnx).1
    · rw [hd] at h; cases h
  generalize hX : least nx = x at *
  have vR : v ∈ R := (T.rr v).2 (.inl rfl)
  -- the row's own column is not done
  have ow : done (wd + v) = false ∧ q (wd + v) = 0 := by
    rcases T.ma (wd + v) hN with ⟨_, h2, h3⟩ | ⟨u, h1, h2, h3, _⟩
    · exact ⟨h3, h2⟩
    · rcases h3 with h3 | h3 <;> omega
  have xv : x ≤ p v := by
    have h1 := T.sc v vR (wd + v) hN ow.1 (.inr rfl)
    have h2 := hm _ hN ow.1
    have e : wt wd W v (wd + v) = 0 := by unfold wt; rw [if_neg (by omega)]
    rw [gp_eq, e, ow.2] at h1
    omega
  have qq : ∀ c, c < N → upQ q done x N c = if done c = true then q c + x else q c := fun c hc => by
    unfold upQ
    by_cases h : done c = true
    · rw [if_pos ⟨hc, h⟩, if_pos h]
    · rw [if_neg (fun h2 => h h2.2), if_neg h]
  -- the sums
  have gu : ∀ u c, c < N → u ∈ R → gp wd W (upP p R x) (upQ q done x N) u c = if done c = true then gp wd W p q u c else gp wd W p q u c - x := fun u c hc hu => by
    rw [gp_eq, qq c hc]
    unfold upP
    rw [if_pos hu]
    split <;> rw [gp_eq] <;> omega
  have tg : ∀ u c, c < N → u < v → row c = (u : Int) → ((u ∈ R) ↔ done c = true) := fun u c hc hu hr => by
    refine ⟨fun h => ?_, fun h => (T.rr u).2 (.inr ⟨c, hc, h, hr⟩)⟩
    rcases (T.rr u).1 h with h | ⟨c', hc', hd', hr'⟩
    · omega
    · have := T.inj c c' hc hc' (by omega) (by omega)
      subst this; exact hd'
  have frp : ∀ c, c < N → ∀ g, FrP N wd v W p q row frm done rk c g → FrP N wd v W (upP p R x) (upQ q done x N) row frm done rk c (if done c = true then g else g - x) := fun c hc g h => by
    rcases h with ⟨h1, h2, h3⟩ | ⟨b, u, h1, h2, h3, h4, h5, h6, h7⟩
    · refine .inl ⟨h1, h2, ?_⟩
      rw [gu v c hc vR, h3]
    · refine .inr ⟨b, u, h1, h2, h3, h4, h5, ?_, h7⟩
      rw [gu u c hc ((T.rr u).2 (.inr ⟨b, h2, h3, h4⟩)), h6]
  refine ⟨l0, ⟨fun u hu c hc ha => ?_, fun c hc => ?_, T.inj, T.on, fun c hc => ?_, ?_, fun u hu => ?_, fun u hu => ?_, T.rr, T.nd, fun u hu c hc hdc ha => ?_, fun c hc => ?_, T.rk⟩, ?_⟩
  · rw [qq c hc]
    have h := T.fe u hu c hc ha
    unfold upP
    by_cases hR : u ∈ R
    · rw [if_pos hR]
      by_cases hdc : done c = true
      · rw [if_pos hdc]; omega
      · rw [if_neg hdc]
        have hdc : done c = false := by simpa using hdc
        have h1 := T.sc u hR c hc hdc ha
        have h2 := hm c hc hdc
        rw [gp_eq] at h1; omega
    · rw [if_neg hR]; split <;> omega
  · rcases T.ma c hc with ⟨h1, h2, h3⟩ | ⟨u, h1, h2, h3, h4⟩
    · refine .inl ⟨h1, ?_, h3⟩
      rw [qq c hc, if_neg (by rw [h3]; simp)]; exact h2
    · refine .inr ⟨u, h1, h2, h3, ?_⟩
      rw [qq c hc]
      unfold upP
      by_cases hR : u ∈ R
      · rw [if_pos hR, if_pos ((tg u c hc h1 h2).1 hR)]; omega
      · rw [if_neg hR, if_neg (fun h => hR ((tg u c hc h1 h2).2 h))]; exact h4
  · have h := T.q0 c hc
    have e : upP p R x v = p v - x := if_pos vR
    rw [qq c hc, e]
    split <;> omega
  · have e : upP p R x v = p v - x := if_pos vR
    have := T.pv
    rw [e]; omega
  · have : u ∉ R := fun h => by have := T.rlt h; omega
    unfold upP
    rw [if_neg this]; exact T.p0 u hu
  · have := T.p1 u hu
    unfold upP; split <;> omega
  · rw [gu u c hc hu, if_neg (by rw [hdc]; simp)]
    have h1 := T.sc u hu c hc hdc ha
    unfold upL
    split
    · omega
    · rename_i h
      have : ¬ least c < farI := fun h2 => h ⟨hc, hdc, h2⟩
      -- such a column was not looked at from here
      exfalso
      have := T.gb hW hv (T.rlt hu) hc
      have := farI_eq
      omega
  · rcases T.lf c hc with ⟨h1, h2⟩ | ⟨h1, h2⟩ | ⟨h1, h2⟩
    · refine .inl ⟨h1, ?_⟩
      unfold upL
      rw [if_neg (by rintro ⟨_, _, h⟩; omega)]; exact h2
    · have := frp c hc _ h2
      rw [if_neg (by rw [h1]; simp)] at this
      have hb := (FrP.lt h2 T hW hv hc).2
      refine .inr (.inl ⟨h1, ?_⟩)
      unfold upL
      have := farI_eq
      rw [if_pos ⟨hc, h1, by omega⟩]; assumption
    · have := frp c hc _ h2
      rw [if_pos h1] at this
      exact .inr (.inr ⟨h1, this⟩)
  · unfold upL
    rw [if_pos ⟨hnx, hd, by omega⟩, hX]; omega
/-- The next column has a row: it is looked from next. -/
theorem TkP.more (T : TkP N wd v W row P p q least frm done rk t R (fun u => u ∈ R)) {nx a : Nat} (hnx : nx < N) (hd : done nx = false) (hl : least nx = 0) (hr : row nx = a) :
    TkP N wd v W row P p q least frm (updB done nx true) (fun c => if c = nx then t else rk c) (t + 1) (R ++ [a]) (fun u => u ∈ R ++ [a] ∧ u ≠ a) ∧ a ∉ R ∧ a < v := by
  have hN : done nx = false := hd
  have av : a < v := by
    rcases T.ma nx hnx with ⟨h, _⟩ | ⟨u, h1, h2, _⟩ <;> omega
  have na : a ∉ R := fun h => by
    rcases (T.rr a).1 h with h | ⟨c, hc, h1, h2⟩
    · omega
    · have := T.inj nx c hnx hc (by omega) (by omega)
      subst this; rw [hd] at h1; cases h1
  have ud : ∀ c, updB done nx true c = true ↔ c = nx ∨ done c = true := fun c => by
    unfold updB
    by_cases e : c = nx
    · simp [e]
    · simp [e]
  have uf : ∀ c, updB done nx true c = false ↔ c ≠ nx ∧ done c = false := fun c => by
    unfold updB
    by_cases e : c = nx
    · simp [e]
    · simp [e]
  have rkne : ∀ c, c ≠ nx → (if c = nx then t else rk c) = rk c := fun c h => if_neg h
  have frp : ∀ c, c < N → ∀ g, FrP N wd v W p q row frm done rk c g → FrP N wd v W p q row frm (updB done nx true) (fun c => if c = nx then t else rk c) c g := fun c hc g h => by
    rcases h with h | ⟨b, u, h1, h2, h3, h4, h5, h6, h7⟩
    · exact .inl h
    · have bn : b ≠ nx := fun e => by rw [e, hd] at h3; cases h3
      refine .inr ⟨b, u, h1, h2, (ud b).2 (.inr h3), h4, h5, h6, fun hc2 => ?_⟩
      show (if b = nx then t else rk b) < (if c = nx then t else rk c)
      rw [if_neg bn]
      rcases (ud c).1 hc2 with e | e
      · rw [if_pos e]; exact T.rk b h2 h3
      · rw [if_neg (fun e2 => by rw [e2, hd] at e; cases e)]; exact h7 e
  refine ⟨⟨T.fe, fun c hc => ?_, T.inj, T.on, T.q0, T.pv, T.p0, T.p1, fun u => ?_, ?_, fun u hu c hc hdc ha => ?_, fun c hc => ?_, fun c hc h => ?_⟩, na, av⟩
  · rcases T.ma c hc with ⟨h1, h2, h3⟩ | h
    · refine .inl ⟨h1, h2, (uf c).2 ⟨fun e => ?_, h3⟩⟩
      rw [e, hr] at h1; omega
    · exact .inr h
  · rw [List.mem_append, List.mem_singleton, T.rr]
    constructor
    · rintro ((h | ⟨c, hc, h1, h2⟩) | rfl)
      · exact .inl h
      · exact .inr ⟨c, hc, (ud c).2 (.inr h1), h2⟩
      · exact .inr ⟨nx, hnx, (ud nx).2 (.inl rfl), hr⟩
    · rintro (h | ⟨c, hc, h1, h2⟩)
      · exact .inl (.inl h)
      · rcases (ud c).1 h1 with rfl | h1
        · exact .inr (by omega)
        · exact .inl (.inr ⟨c, hc, h1, h2⟩)
  · rw [List.nodup_append]
    refine ⟨T.nd, by simp, fun x hx y hy => ?_⟩
    rw [List.mem_singleton] at hy
    rintro rfl
    rw [hy] at hx; exact na hx
  · have hu2 : u ∈ R := by
      have := hu.1
      rw [List.mem_append, List.mem_singleton] at this
      rcases this with h | h
      · exact h
      · exact absurd h hu.2
    exact T.sc u hu2 c hc ((uf c).1 hdc).2 ha
  · by_cases e : c = nx
    · refine .inr (.inr ⟨(ud c).2 (.inl e), ?_⟩)
      rcases T.lf c hc with ⟨_, h2⟩ | ⟨_, h2⟩ | ⟨h1, _⟩
      · rw [e, hl] at h2; exact absurd h2 (by decide)
      · rw [e, hl, ← e] at h2; exact frp c hc _ h2
      · rw [e, hd] at h1; cases h1
    · rcases T.lf c hc with ⟨h1, h2⟩ | ⟨h1, h2⟩ | ⟨h1, h2⟩
      · exact .inl ⟨(uf c).2 ⟨e, h1⟩, h2⟩
      · exact .inr (.inl ⟨(uf c).2 ⟨e, h1⟩, frp c hc _ h2⟩)
      · exact .inr (.inr ⟨(ud c).2 (.inr h1), frp c hc _ h2⟩)
  · show (if c = nx then t else rk c) < t + 1
    rcases (ud c).1 h with e | e
    · rw [if_pos e]; omega
    · have := T.rk c hc e
      split <;> omega
/-- A way back: the column h has no row of its own yet. -/
structure HlP (N wd v : Nat) (W : Nat → Nat → Int) (p q row frm : Nat → Int) (done : Nat → Bool) (rk : Nat → Nat) (h : Nat) : Prop where
  hh : h < N
  fe : ∀ u, u < v + 1 → ∀ c, c < N → al wd u c → wt wd W u c ≤ p u + q c
  ma : ∀ x, x < N → x ≠ h → (row x = -1 ∧ q x = 0) ∨ ∃ u : Nat, u < v ∧ row x = u ∧ al wd u x ∧ p u + q x = wt wd W u x
  inj : ∀ x x' : Nat, x < N → x' < N → x ≠ h → x' ≠ h → 0 ≤ row x → row x = row x' → x = x'
  on : ∀ u, u < v → ∃ x, x < N ∧ x ≠ h ∧ row x = u
  q0 : ∀ c, c < N → 0 ≤ q c ∧ q c ≤ (v + 1 : Nat) * 1048576
  p0 : ∀ u, v < u → p u = 0
  p1 : ∀ u, u < v + 1 → p u ≤ 1048576
  tr : ∀ x, x < N → (x = h ∨ (done x = true ∧ rk x < rk h)) → (frm x = -1 ∧ al wd v x ∧ p v + q x = wt wd W v x) ∨ ∃ b u : Nat, frm x = b ∧ b < N ∧ done b = true ∧ rk b < rk x ∧ row b = u ∧ u < v ∧ al wd u x ∧ p u + q x = wt wd W u x
theorem TkP.hole (T : TkP N wd v W row P p q least frm done rk t R (fun u => u ∈ R)) {nx : Nat} (hnx : nx < N) (hd : done nx = false) (hl : least nx = 0) (hr : row nx = -1) :
    HlP N wd v W p q row frm done (fun c => if c = nx then t else rk c) nx := by
  have b2 := T.pv
  refine ⟨hnx, T.fe, fun x hx hne => ?_, fun x x' hx hx' _ _ => T.inj x x' hx hx', fun u hu => ?_, fun c hc => ?_, T.p0, fun u hu => ?_, fun x hx h => ?_⟩
  · rcases T.ma x hx with ⟨h1, h2, _⟩ | h
    · exact .inl ⟨h1, h2⟩
    · exact .inr h
  · obtain ⟨c, hc, h1⟩ := T.on u hu
    exact ⟨c, hc, fun e => by rw [e, hr] at h1; omega, h1⟩
  · have := T.q0 c hc
    omega
  · by_cases e : u = v
    · subst e; omega
    · exact T.p1 u (by omega)
  · have key : ∃ g, g = 0 ∧ FrP N wd v W p q row frm done rk x g ∧ (x = nx ∨ done x = true) := by
      rcases h with rfl | ⟨h1, _⟩
      · rcases T.lf x hx with ⟨_, h2⟩ | ⟨_, h2⟩ | ⟨h1, _⟩
        · rw [hl] at h2; exact absurd h2 (by decide)
        · exact ⟨_, hl, h2, .inl rfl⟩
        · rw [hd] at h1; cases h1
      · rcases T.lf x hx with ⟨h2, _⟩ | ⟨h2, _⟩ | ⟨_, h2⟩
        · rw [h1] at h2; cases h2
        · rw [h1] at h2; cases h2
        · exact ⟨0, rfl, h2, .inr h1⟩
    obtain ⟨g, rfl, h2, hx2⟩ := key
    rcases h2 with ⟨h3, h4, h5⟩ | ⟨b, u, h3, h4, h5, h6, h7, h8, h9⟩
    · rw [gp_eq] at h5
      exact .inl ⟨h3, h4, by omega⟩
    · have bn : b ≠ nx := fun e => by rw [e, hd] at h5; cases h5
      rw [gp_eq] at h8
      refine .inr ⟨b, u, h3, h4, h5, ?_, h6, ?_, h7, by omega⟩
      · show (if b = nx then t else rk b) < (if x = nx then t else rk x)
        rw [if_neg bn]
        by_cases e : x = nx
        · rw [if_pos e]; exact T.rk b h4 h5
        · rw [if_neg e]
          rcases hx2 with h | h
          · exact absurd h e
          · exact h9 h
      · rcases T.ma b h4 with ⟨h, _⟩ | ⟨u', h, h', _⟩ <;> omega
theorem HlP.step (G : HlP N wd v W p q row frm done rk h) {b : Nat} (hb : frm h = b) : HlP N wd v W p q (upd row h (row b)) frm done rk b ∧ rk b < rk h ∧ b < N := by
  rcases G.tr h G.hh (.inl rfl) with ⟨h1, _⟩ | ⟨b', u, h1, h2, h3, h4, h5, h6, h7, h8⟩
  · omega
  have : b' = b := by omega
  subst this
  have bh : b' ≠ h := fun e => by rw [e] at h4; omega
  have ro : ∀ x, x ≠ h → upd row h (row b') x = row x := fun x hx => upd_ne hx
  refine ⟨⟨h2, G.fe, fun x hx hne => ?_, fun x x' hx hx' n1 n2 => ?_, fun w hw => ?_, G.q0, G.p0, G.p1, fun x hx hd => ?_⟩, h4, h2⟩
  · by_cases e : x = h
    · subst e; rw [upd_at]; exact .inr ⟨u, h6, h5, h7, h8⟩
    · rw [ro x e]; exact G.ma x hx e
  · by_cases e : x = h
    · subst e
      rw [upd_at]
      by_cases e' : x' = x
      · exact fun _ _ => e'.symm
      · rw [ro x' e']
        intro h0 h9
        exact absurd (G.inj b' x' h2 hx' bh e' h0 h9).symm n2
    · rw [ro x e]
      by_cases e' : x' = h
      · subst e'
        rw [upd_at]
        intro h0 h9
        exact absurd (G.inj x b' hx h2 e bh h0 h9) n1
      · rw [ro x' e']
        exact G.inj x x' hx hx' e e'
  · obtain ⟨x, hx, h9, h10⟩ := G.on w hw
    by_cases e : x = b'
    · subst e
      exact ⟨h, G.hh, fun e => bh e.symm, by rw [upd_at]; exact h10⟩
    · exact ⟨x, hx, e, by rw [ro x h9]; exact h10⟩
  · have xr : rk x ≤ rk b' := by
      rcases hd with rfl | ⟨_, h⟩ <;> omega
    have xd : done x = true := by
      rcases hd with rfl | ⟨h, _⟩
      · exact h3
      · exact h
    rcases G.tr x hx (.inr ⟨xd, by omega⟩) with h9 | ⟨b2, u2, k1, k2, k3, k4, k5, k6, k7, k8⟩
    · exact .inl h9
    · refine .inr ⟨b2, u2, k1, k2, k3, k4, ?_, k6, k7, k8⟩
      rw [ro b2 (by rintro rfl; omega)]; exact k5
theorem HlP.last (G : HlP N wd v W p q row frm done rk h) (hb : frm h < 0) : HgP N wd (v + 1) W p q (upd row h v) := by
  rcases G.tr h G.hh (.inl rfl) with ⟨_, h1, h2⟩ | ⟨b, u, h1, _⟩
  rotate_left
  · omega
  have ro : ∀ x, x ≠ h → upd row h (v : Int) x = row x := fun x hx => upd_ne hx
  have rlt : ∀ x, x < N → x ≠ h → row x < v := fun x hx hne => by
    rcases G.ma x hx hne with ⟨h3, _⟩ | ⟨u, h3, h4, _⟩ <;> omega
  refine ⟨G.fe, fun x hx => ?_, fun x x' hx hx' => ?_, fun w hw => ?_, G.q0, fun u hu => G.p0 u (by omega), G.p1⟩
  · by_cases e : x = h
    · subst e; rw [upd_at]; exact .inr ⟨v, by omega, rfl, h1, h2⟩
    · rw [ro x e]
      rcases G.ma x hx e with h3 | ⟨u, h3, h4⟩
      · exact .inl h3
      · exact .inr ⟨u, by omega, h4⟩
  · by_cases e : x = h
    · subst e
      rw [upd_at]
      by_cases e' : x' = x
      · exact fun _ _ => e'.symm
      · rw [ro x' e']
        intro _ h9
        have := rlt x' hx' e'; omega
    · rw [ro x e]
      by_cases e' : x' = h
      · subst e'
        rw [upd_at]
        intro _ h9
        have := rlt x hx e; omega
      · rw [ro x' e']; exact G.inj x x' hx hx' e e'
  · by_cases e : w = v
    · subst e; exact ⟨h, G.hh, upd_at⟩
    · obtain ⟨x, hx, h9, h10⟩ := G.on w (by omega)
      exact ⟨x, hx, by rw [ro x h9]; exact h10⟩
end

end Go.Proofs.Ytdblngaacnpgmaa

namespace Go.Proofs.Ytdblngaacnpgmaa
open Go
set_option linter.unusedVariables false
set_option linter.unusedSimpArgs false

abbrev lfE (es : Nat → Ed) (i : Nat) : Nat := min (frE es i) (toE es i)
abbrev rtE (es : Nat → Ed) (i : Nat) : Nat := max (frE es i) (toE es i)
/-- What edges of a list cost. -/
def lkE (es : Nat → Ed) : List Nat → Int
  | [] => 0
  | i :: l => (es i).k + lkE es l
theorem lkE_app (es : Nat → Ed) : ∀ (a b : List Nat), lkE es (a ++ b) = lkE es a + lkE es b
  | [], b => by show lkE es b = 0 + lkE es b; omega
  | i :: a, b => by
    show (es i).k + lkE es (a ++ b) = (es i).k + lkE es a + lkE es b
    rw [lkE_app]; omega
theorem lkE_perm (es : Nat → Ed) {a b : List Nat} (h : a.Perm b) : lkE es a = lkE es b := by
  induction h with
  | nil => rfl
  | cons x _ ih => show _ + _ = _ + _; rw [ih]
  | swap x y l => show (es y).k + ((es x).k + lkE es l) = (es x).k + ((es y).k + lkE es l); omega
  | trans _ _ ih1 ih2 => exact ih1.trans ih2
/-- A matching of two sides with potentials that prove that none costs more. -/
structure MaR (n m left : Nat) (es : Nat → Ed) (L : List Nat) (pt : Nat → Int) : Prop where
  lt : ∀ i, i ∈ L → i < m
  nd : L.Pairwise fun i j => lfE es i ≠ lfE es j ∧ rtE es i ≠ rtE es j
  po : ∀ v, v < n → 0 ≤ pt v ∧ pt v ≤ 2147483648
  co : ∀ i, i < m → (es i).k ≤ pt (frE es i) + pt (toE es i)
  su : sumN n pt = lkE es L
  ln : L.length ≤ 1024
/-- The heaviest edges between two nodes. -/
structure BsP (left wd m : Nat) (es : Nat → Ed) (bs : Nat → Nat → Nat) : Prop where
  bm : ∀ v c, v < left → c < wd → bs v c ≤ m
  bw : ∀ v c i, v < left → c < wd → bs v c = i + 1 → lfE es i = v ∧ rtE es i = left + c ∧ 0 < (es i).k
  le : ∀ i v c, i < m → v < left → c < wd → lfE es i = v → rtE es i = left + c → 0 < (es i).k → 0 < bs v c ∧ (es i).k ≤ (es (bs v c - 1)).k
/-- What it weighs. -/
def wgE (es : Nat → Ed) (bs : Nat → Nat → Nat) (v c : Nat) : Int := if 0 < bs v c then (es (bs v c - 1)).k else 0
section
variable {N wd v k left m n : Nat} {W : Nat → Nat → Int} {row p q : Nat → Int} {es : Nat → Ed} {bs : Nat → Nat → Nat}
theorem HgP.rc (G : HgP N wd k W p q row) {c : Nat} (hc : c < N) : row c = -1 ∨ (0 ≤ row c ∧ (row c).toNat < k) := by
  rcases G.ma c hc with ⟨h, _⟩ | ⟨u, h1, h2, _⟩
  · exact .inl h
  · exact .inr (by omega)
theorem HgP.sum (G : HgP N wd k W p q row) : sumN k p + sumN N q = sumN N fun c => if 0 ≤ row c then wt wd W (row c).toNat c else 0 := by
  have e1 : (sumN N fun c => if 0 ≤ row c then wt wd W (row c).toNat c else 0) = sumN N (fun c => (if 0 ≤ row c then p (row c).toNat else 0) + q c) := sumN_congr fun c hc => by
    rcases G.ma c hc with ⟨h1, h2⟩ | ⟨u, h1, h2, h3, h4⟩
    · rw [if_neg (by omega), if_neg (by omega), h2]; rfl
    · rw [if_pos (by omega), if_pos (by omega), h2, Int.toNat_natCast]; omega
  have e2 : (sumN N fun c => if 0 ≤ row c then p (row c).toNat else 0) = sumN N (fun c => sumN k fun u => if row c = (u : Int) then p u else 0) := sumN_congr fun c hc => by
    rcases G.rc hc with h | ⟨h1, h2⟩
    · rw [if_neg (by omega)]
      exact (sumN_zero fun u _ => if_neg (by omega)).symm
    · rw [if_pos h1, ← sumN_ptf (f := p) h2]
      refine sumN_congr fun u _ => ?_
      by_cases e : (row c).toNat = u
      · rw [if_pos e, if_pos (by omega)]
      · rw [if_neg e, if_neg (by omega)]
  have e3 : (sumN k fun u => sumN N fun c => if row c = (u : Int) then p u else 0) = sumN k p := sumN_congr fun u hu => by
    obtain ⟨c0, hc0, hr⟩ := G.on u hu
    have : (sumN N fun c => if row c = (u : Int) then p u else 0) = sumN N (fun c => if c0 = c then p u else 0) := sumN_congr fun c hc => by
      by_cases e : c0 = c
      · subst e; rw [if_pos hr, if_pos rfl]
      · rw [if_neg e, if_neg (fun h => e (G.inj c0 c hc0 hc (by omega) (by omega)))]
    rw [this, sumN_pt, if_pos hc0]
  rw [e1, sumN_add, e2, sumN_swap, e3]
/-- Where a row has the column of its own. -/
theorem HgP.own (G : HgP N wd k W p q row) {u : Nat} (hu : u < k) (hN : wd + u < N) : (if p u < 0 then 0 else p u) = p u + q (wd + u) := by
  have a := G.fe u hu _ hN (.inr rfl)
  have b := G.q0 _ hN
  have e : wt wd W u (wd + u) = 0 := by unfold wt; rw [if_neg (by omega)]
  rcases G.ma _ hN with ⟨_, h2⟩ | ⟨u', h1, h2, h3, h4⟩
  · split <;> omega
  · have : u' = u := by
      rcases h3 with h | h <;> omega
    subst this
    split <;> omega
/-- The potentials that are answered. -/
def ptH (left : Nat) (p q : Nat → Int) (v : Nat) : Int := if v < left then (if p v < 0 then 0 else p v) else q (v - left)
/-- The edges of the first j columns. -/
def mlH (bs : Nat → Nat → Nat) (row : Nat → Int) : Nat → List Nat
  | 0 => []
  | j + 1 => mlH bs row j ++ if 0 ≤ row j ∧ 0 < bs (row j).toNat j then [bs (row j).toNat j - 1] else []
theorem mlH_mem {x : Nat} : ∀ {j : Nat}, x ∈ mlH bs row j → ∃ c, c < j ∧ 0 ≤ row c ∧ bs (row c).toNat c = x + 1
  | 0, h => by cases h
  | j + 1, h => by
    have h : x ∈ mlH bs row j ++ if 0 ≤ row j ∧ 0 < bs (row j).toNat j then [bs (row j).toNat j - 1] else [] := h
    rw [List.mem_append] at h
    rcases h with h | h
    · obtain ⟨c, hc, h1, h2⟩ := mlH_mem h
      exact ⟨c, by omega, h1, h2⟩
    · split at h
      · rename_i hh
        rw [List.mem_singleton] at h
        exact ⟨j, by omega, hh.1, by omega⟩
      · cases h
theorem mlH_len : ∀ {j : Nat}, (mlH bs row j).length ≤ j
  | 0 => Nat.le_refl _
  | j + 1 => by
    have := mlH_len (j := j)
    show (mlH bs row j ++ if 0 ≤ row j ∧ 0 < bs (row j).toNat j then [bs (row j).toNat j - 1] else []).length ≤ j + 1
    rw [List.length_append]
    split
    · simp; omega
    · simp; omega
theorem mlH_nd (G : HgP N wd left (wgE es bs) p q row) (hN : N = wd + left) (B : BsP left wd m es bs) : ∀ {j : Nat}, j ≤ wd → (mlH bs row j).Pairwise fun i j => lfE es i ≠ lfE es j ∧ rtE es i ≠ rtE es j
  | 0, _ => List.Pairwise.nil
  | j + 1, hj => by
    show (mlH bs row j ++ if 0 ≤ row j ∧ 0 < bs (row j).toNat j then [bs (row j).toNat j - 1] else []).Pairwise _
    rw [List.pairwise_append]
    refine ⟨mlH_nd G hN B (by omega), ?_, fun x hx y hy => ?_⟩
    · split
      · exact List.pairwise_singleton _ _
      · exact List.Pairwise.nil
    · split at hy
      · rename_i hh
        rw [List.mem_singleton] at hy
        obtain ⟨c, hc, h1, h2⟩ := mlH_mem hx
        rcases G.rc (c := c) (by omega) with h3 | ⟨_, h3⟩
        · omega
        rcases G.rc (c := j) (by omega) with h4 | ⟨_, h4⟩
        · omega
        obtain ⟨a1, a2, _⟩ := B.bw _ c x h3 (by omega) h2
        obtain ⟨b1, b2, _⟩ := B.bw _ j y h4 (by omega) (by omega)
        refine ⟨fun e => ?_, fun e => by omega⟩
        have := G.inj c j (by omega) (by omega) h1 (by omega)
        omega
      · cases hy
theorem mlH_sum (G : HgP N wd left (wgE es bs) p q row) (hN : N = wd + left) : ∀ {j : Nat}, j ≤ wd → lkE es (mlH bs row j) = sumN j fun c => if 0 ≤ row c then wt wd (wgE es bs) (row c).toNat c else 0
  | 0, _ => rfl
  | j + 1, hj => by
    show lkE es (mlH bs row j ++ if 0 ≤ row j ∧ 0 < bs (row j).toNat j then [bs (row j).toNat j - 1] else []) = sumN j _ + (if 0 ≤ row j then wt wd (wgE es bs) (row j).toNat j else 0)
    rw [lkE_app, mlH_sum G hN (by omega)]
    congr 1
    unfold wt wgE
    rw [if_pos (show j < wd by omega)]
    by_cases h : 0 ≤ row j
    · by_cases h2 : 0 < bs (row j).toNat j
      · rw [if_pos ⟨h, h2⟩, if_pos h, if_pos h2]
        show (es _).k + 0 = _
        omega
      · rw [if_neg (fun h3 => h2 h3.2), if_pos h, if_neg h2]; rfl
    · rw [if_neg (fun h3 => h h3.1), if_neg h]; rfl
theorem HgP.res (G : HgP N wd left (wgE es bs) p q row) (hN : N = wd + left) (hl : left + wd ≤ 1024) (B : BsP left wd m es bs) (hs : ∀ i, i < m → lfE es i < left ∧ left ≤ rtE es i ∧ rtE es i < left + wd) :
    MaR (left + wd) m left es (mlH bs row wd) (ptH left p q) := by
  refine ⟨fun i hi => ?_, mlH_nd G hN B (Nat.le_refl _), fun v hv => ?_, fun i hi => ?_, ?_, ?_⟩
  · obtain ⟨c, hc, h1, h2⟩ := mlH_mem hi
    rcases G.rc (c := c) (by omega) with h3 | ⟨_, h3⟩
    · omega
    have := B.bm _ c h3 hc
    omega
  · unfold ptH
    split
    · rename_i h
      have := G.p1 v h
      split <;> omega
    · have := G.q0 (v - left) (by omega)
      omega
  · obtain ⟨a1, a2, a3⟩ := hs i hi
    have po : ∀ v, v < left → p v ≤ ptH left p q v ∧ 0 ≤ ptH left p q v := fun v hv => by
      unfold ptH; rw [if_pos hv]; split <;> omega
    have pq : ∀ c, ptH left p q (left + c) = q c := fun c => by
      unfold ptH; rw [if_neg (by omega), show left + c - left = c by omega]
    obtain ⟨c, hc⟩ : ∃ c, rtE es i = left + c := ⟨rtE es i - left, by omega⟩
    have e : ptH left p q (frE es i) + ptH left p q (toE es i) = ptH left p q (lfE es i) + ptH left p q (rtE es i) := by
      unfold lfE rtE
      rcases Nat.le_total (frE es i) (toE es i) with h | h
      · rw [Nat.min_eq_left h, Nat.max_eq_right h]
      · rw [Nat.min_eq_right h, Nat.max_eq_left h]; omega
    rw [e, hc, pq]
    have hq := (G.q0 c (by omega)).1
    have hp := po _ a1
    by_cases h0 : 0 < (es i).k
    · obtain ⟨b1, b2⟩ := B.le i _ c hi a1 (by omega) rfl hc h0
      have f := G.fe _ a1 c (by omega) (.inl (by omega))
      unfold wt wgE at f
      rw [if_pos (by omega), if_pos b1] at f
      omega
    · omega
  · rw [mlH_sum G hN (Nat.le_refl _), sumN_split]
    have e1 : sumN left (ptH left p q) = sumN left (fun u => p u + q (wd + u)) := sumN_congr fun u hu => by
      unfold ptH
      rw [if_pos hu]
      exact G.own hu (by omega)
    have e2 : (sumN wd fun i => ptH left p q (left + i)) = sumN wd q := sumN_congr fun c _ => by
      unfold ptH; rw [if_neg (by omega), show left + c - left = c by omega]
    have s := G.sum
    rw [hN, sumN_split, sumN_split] at s
    have e3 : (sumN left fun i => if 0 ≤ row (wd + i) then wt wd (wgE es bs) (row (wd + i)).toNat (wd + i) else 0) = 0 := sumN_zero fun i _ => by
      unfold wt; rw [if_neg (show ¬ wd + i < wd by omega)]; simp
    rw [e1, e2, sumN_add]
    omega
  · have := mlH_len (bs := bs) (row := row) (j := wd)
    omega
end

end Go.Proofs.Ytdblngaacnpgmaa

namespace Go.Proofs.Ytdblngaacnpgmaa
open Go
set_option linter.unusedVariables false
set_option linter.unusedSimpArgs false

/-- The table in the heap. -/
structure Tb (own : Own) (h : H) (bt left wd m : Nat) (es : Nat → Ed) (bs : Nat → Nat → Nat) : Prop where
  q : ∃ (vb vc : Value) (vals : Nat → Value), B1 own h 1 bt [.int .i64 left, .int .i64 ((left + wd : Nat) : Int), vb, vc] ∧ S1 own h 2 vb (va left vals) ∧ S1 own h 3 vc (ints m (ckE es)) ∧
    ∀ v, v < left → S1 own h (40 + v) (vals v) (ints wd fun c => (bs v c : Nat))
theorem B1.rI {own : Own} {h : H} {i b j : Nat} {vs : List Value} {x : Int} {K : Int → Prop} (B : B1 own h i b vs) (hi : vs[j]? = some (.int .i64 x)) (k : K x) : ldI h ((bk b).add j) .i64 K := ⟨x, B.ld hi, k⟩
theorem B1.rV {own : Own} {h : H} {i b j : Nat} {vs : List Value} {x : Value} {K : Value → Prop} (B : B1 own h i b vs) (hi : vs[j]? = some x) (k : K x) : ldV h ((bk b).add j) K := ⟨x, B.ld hi, k⟩
section
variable {own own' : Own} {h h' : H} {bt br left wd m N v c : Nat} {es : Nat → Ed} {bs : Nat → Nat → Nat} {p q row : Nat → Int} {M : List Nat}
theorem Tb.fm (Tt : Tb own h bt left wd m es bs) (Fr : Fm M own h own' h') (hM : ∀ j, j ∈ M → 3 < j ∧ j < 40) : Tb own' h' bt left wd m es bs := by
  obtain ⟨vb, vc, vals, k1, k2, k3, kv⟩ := Tt.q
  exact ⟨vb, vc, vals, k1.fm Fr (fun h => by have := hM _ h; omega), k2.fm Fr (fun h => by have := hM _ h; omega), k3.fm Fr (fun h => by have := hM _ h; omega), fun v hv => (kv v hv).fm Fr (fun h => by have := hM _ h; omega)⟩
theorem Tb.nw {b j : Nat} (Tt : Tb own h bt left wd m es bs) (x : Ext h h') (hb : h b = none) : Tb (own1 own b j) h' bt left wd m es bs := Tt.fm (M := []) (Fm.new x hb) (by simp)
theorem weight_T (Tt : Tb own h bt left wd m es bs) (B : BsP left wd m es bs) (hv : v < left) (hc : c < wd) (hl : left + wd ≤ 1024) (hm : m ≤ 4096) {w : Int} (hw : w = (left : Int) + c) :
    T Try.prog F.assign_table_weight [.pointer (some (bk bt)), .int .i64 v, .int .i64 w] h fun r h' => r = .ret (.int .i64 (wgE es bs v c)) ∧ h = h' := by
  obtain ⟨vb, vc, vals, k1, k2, k3, kv⟩ := Tt.q
  subst hw
  have bm := B.bm v c hv hc
  refine E_assign_table_weight ?_
  unfold B_assign_table_weight
  refine ptrP_mk (ptrP_mk (k1.rV rfl (k2.rdV hv (k1.rI rfl ?_))))
  have e1 : IntKind.i64.wrap ((left : Int) + c - left) = c := by rw [show (left : Int) + c - left = c by omega]; exact w64_in (by omega) (by omega)
  rw [e1]
  refine (kv v hv).rdI hc (ifP_of (fun h1 => ?_) (fun h1 => ?_))
  · have h1 : 0 < bs v c := by have := of_decide_eq_true h1; omega
    have e2 : IntKind.i64.wrap ((bs v c : Int) - 1) = ((bs v c - 1 : Nat) : Int) := by rw [show ((bs v c : Int) - 1) = ((bs v c - 1 : Nat) : Int) by omega]; exact w64_in (by omega) (by omega)
    refine ptrP_mk (k1.rV rfl ?_)
    rw [e2]
    refine k3.rdI (by omega) ⟨?_, rfl⟩
    unfold wgE; rw [if_pos h1]
  · have h1 : ¬ 0 < bs v c := by have := of_decide_eq_false h1; omega
    refine ⟨?_, rfl⟩
    unfold wgE; rw [if_neg h1]
/-- What takes in rows, in the heap. -/
structure Rw (own : Own) (h : H) (br bt left wd N : Nat) (vp vq vr : Value) (p q row : Nat → Int) : Prop where
  k4 : B1 own h 4 br [.pointer (some (bk bt)), vp, vq, vr, .int .i64 wd]
  k5 : S1 own h 5 vp (ints left p)
  k6 : S1 own h 6 vq (ints N q)
  k7 : S1 own h 7 vr (ints N row)
theorem gap_T {vp vq vr : Value} {u : Nat} (Tt : Tb own h bt left wd m es bs) (B : BsP left wd m es bs) (k4 : B1 own h 4 br [.pointer (some (bk bt)), vp, vq, vr, .int .i64 wd]) (k5 : S1 own h 5 vp (ints left p)) (k6 : S1 own h 6 vq (ints N q))
    (hu : u < left) (hc : c < N) (hN : N = wd + left) (hl : left + wd ≤ 1024) (hm : m ≤ 4096)
    (hp : -1099511627776 ≤ p u ∧ p u ≤ 1099511627776) (hq : 0 ≤ q c ∧ q c ≤ 1099511627776) (hk : ∀ v c, 0 ≤ wgE es bs v c ∧ wgE es bs v c ≤ 1048576) :
    T Try.prog F.assign_rows_gap [.pointer (some (bk br)), .int .i64 u, .int .i64 c] h fun r h' => r = .ret (.int .i64 (if al wd u c then gp wd (wgE es bs) p q u c else -1)) ∧ h = h' := by
  refine E_assign_rows_gap ?_
  unfold B_assign_rows_gap
  have e0 : IntKind.i64.wrap (p u + q c) = p u + q c := w64_in (by omega) (by omega)
  refine ptrP_mk (k4.rI rfl (ifP_of (fun h1 => ?_) (fun h1 => ?_)))
  · have h1 : c < wd := by have := of_decide_eq_true h1; omega
    have hw := hk u c
    obtain ⟨vb, vc, vals, k1, _⟩ := Tt.q
    refine ptrP_mk (ptrP_mk (ptrP_mk (ptrP_mk (k4.rV rfl (k5.at (ints_get hu) fun a8 e8 => ⟨_, e8, k4.rV rfl (k6.at (ints_get hc) fun a11 e11 => ⟨_, e11, k4.rV rfl (k4.rV rfl (ptrP_mk (k1.rI rfl ?_)))⟩)⟩)))))
    have e1 : IntKind.i64.wrap ((c : Int) + left) = (left : Int) + c := by rw [Int.add_comm]; exact w64_in (by omega) (by omega)
    refine (weight_T Tt B hu h1 hl hm e1).mono ?_
    rintro _ _ ⟨rfl, rfl⟩
    have e2 : IntKind.i64.wrap (p u + q c - wgE es bs u c) = p u + q c - wgE es bs u c := w64_in (by omega) (by omega)
    refine rt_ret ⟨_, rfl, fun _ _ => rfl, fun _ _ => rfl, fun _ _ => rfl, fun _ _ => rfl, ?_, rfl⟩
    rw [e0, e2, if_pos (.inl h1), gp_eq]
    unfold wt; rw [if_pos h1]
  · have h1 : ¬ c < wd := by have := of_decide_eq_false h1; omega
    have e1 : IntKind.i64.wrap ((wd : Int) + u) = ((wd + u : Nat) : Int) := w64_in (by omega) (by omega)
    refine ptrP_mk (k4.rI rfl ?_)
    rw [e1]
    refine ifP_of (fun h2 => ?_) (fun h2 => ?_)
    · have h2 : c = wd + u := by have := of_decide_eq_true h2; omega
      refine ptrP_mk (ptrP_mk (k4.rV rfl (k5.rdI hu (k4.rV rfl (k6.rdI hc ⟨?_, rfl⟩)))))
      rw [e0, if_pos (.inr h2), gp_eq]
      unfold wt; rw [if_neg h1, Int.sub_zero]
    · have h2 : ¬ c = wd + u := by have := of_decide_eq_false h2; omega
      refine ⟨?_, rfl⟩
      rw [if_neg (by rintro (h | h) <;> omega)]
end

end Go.Proofs.Ytdblngaacnpgmaa

