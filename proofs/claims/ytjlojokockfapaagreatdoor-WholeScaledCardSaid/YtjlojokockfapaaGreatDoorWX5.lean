import Derived.Deep.Slices
import Derived.Deep.Fields
import Derived.ChangeSame
import Derived.SizedLaws
import Derived.WalkKit
import Derived.ProofKit
import Derived.OpenShut
import Derived.ShutString
import Derived.ChangeOld
import Derived.Below
import Derived.Test.YtjlojokockfapaaGreatDoorWX4
namespace Go.Proofs.YtjlojokockfapaaGreatDoor
open Go
set_option linter.unusedVariables false
set_option linter.unusedSimpArgs false
set_option maxRecDepth 100000

def sgI (s : Bool) (n : Nat) : Int := if s then -(n : Int) else n
/-- What parts makes of a number. -/
def PrP (s : Bool) (M : Nat) (P : Int) (m e : Int) : Prop :=
  (M = 0 ∧ m = 0 ∧ e = 0) ∨ (M ≠ 0 ∧ ∃ o, m = sgI s o ∧ o % 2 = 1 ∧ o < 9007199254740992 ∧ vE o e = vE M P ∧ -1126 ≤ e ∧ e ≤ 1030)
theorem cut_0 {s : Bool} {N : Nat} : Ieee.Toward.zero.cut s N 0 = N := by
  unfold Ieee.Toward.cut
  rw [Nat.zero_min]
  simp
theorem int_of {s : Bool} {N : Nat} (c : Can N 0) : floatToIntVal .f64 (wd s (rg N 0)) .i64 = some (sgI s N) := by
  have e : (FloatKind.f64.decode (wd s (rg N 0))).toInt .zero = some (sgI s N) := by
    show Ieee.Datum.toInt .zero (Ieee.double.read (wd s (rg N 0))) = _
    rw [c.read]
    show some (Ieee.signed s (Ieee.Toward.zero.cut s (N <<< 0) 0) 0) = _
    rw [Nat.shiftLeft_zero, cut_0]
    unfold Ieee.signed sgI
    rw [Nat.shiftLeft_zero]
  unfold floatToIntVal
  rw [e]
  have := c.lt
  have h : IntKind.i64.min ≤ sgI s N ∧ sgI s N ≤ IntKind.i64.max := by
    rw [show IntKind.i64.min = -9223372036854775808 from rfl, show IntKind.i64.max = 9223372036854775807 from rfl]
    unfold sgI; split <;> omega
  exact if_pos h
theorem xor_sign {r : Nat} (h : r < 9223372036854775808) : wd false r ^^^ 2 ^ 63 = wd true r := by
  have key : ∀ {i a b c d : Nat}, b < 2 ^ i → d < 2 ^ i → (2 ^ i * a + b) ^^^ (2 ^ i * c + d) = 2 ^ i * (a ^^^ c) + (b ^^^ d) := by
    intro i a b c d hb hd
    apply Nat.eq_of_testBit_eq
    intro j
    rw [Nat.testBit_xor, Nat.testBit_two_pow_mul_add _ hb, Nat.testBit_two_pow_mul_add _ hd, Nat.testBit_two_pow_mul_add _ (Nat.xor_lt_two_pow hb hd)]
    split <;> rw [Nat.testBit_xor]
  have := key (i := 63) (a := 0) (b := r) (c := 1) (d := 0) (by simpa using h) (by decide)
  show r ^^^ 2 ^ 63 = 9223372036854775808 + r
  have e : 2 ^ 63 * 0 + r = r := by omega
  rw [e, show (2 ^ 63 * 1 + 0 : Nat) = 2 ^ 63 from rfl, Nat.xor_zero, show (0 ^^^ 1 : Nat) = 1 from rfl] at this
  rw [this]
section
variable {h : H} {s : Bool} {M N : Nat} {P Q : Int}
theorem shr_P {n : Int} {z : Nat} {ox oy : Operand} {K : Value → Prop} (hz : z ≤ 64) (k : K (.int .i64 (n.fdiv (2 ^ z)))) : binP Tryz.prog .shr 2 ox oy (.int .i64 n) (.int .i64 (z : Int)) h K := by
  unfold binP
  rw [u2]
  show intBin .shr .i64 n (z : Int) K
  refine ⟨by omega, ?_⟩
  rw [Int.toNat_natCast, show min z IntKind.i64.bits = z from Nat.min_eq_left hz]
  exact k
theorem parts_T (tb : Tab h) (c : Can M P) : T Tryz.prog F.scale_parts [flo (wd s (rg M P))] h fun r h' => ∃ m e : Int, r = .ret (.tuple ⟨[.int .i64 m, .int .i64 e]⟩) ∧ PrP s M P m e ∧ h' = h := by
  refine E_scale_parts ?_
  unfold B_scale_parts
  refine feq_P ?_
  rw [order_0 c.read]
  refine ifP_of (fun h0 => ?_) (fun h0 => ?_)
  · exact ⟨0, 0, rfl, .inl ⟨of_decide_eq_true h0, rfl, rfl⟩, rfl⟩
  have hM : M ≠ 0 := of_decide_eq_false h0
  refine (Frexp_T c hM).mono ?_
  rintro _ h2 ⟨N, Q, rfl, nnr, nlt, nv, q1, q2, rfl⟩
  have n0 : N ≠ 0 := by omega
  have cf : Can N (-53) := ⟨nlt, by omega, by omega, .inl nnr⟩
  have c1 : Can 4503599627370496 1 := ⟨by omega, by omega, by omega, .inl (by omega)⟩
  have c0 : Can N 0 := ⟨nlt, by omega, by omega, .inl nnr⟩
  have hm := mul_can (t := false) (cf.read (s := s)) c1.read c0 n0 (by omega) ((vE_le (by omega) (by omega)).2 (by show N * 4503599627370496 = N * 2 ^ 52; omega))
  rw [Bool.xor_false] at hm
  refine rt_ret ⟨_, _, rfl, fmul_P hm (fint_P (int_of c0) ?_)⟩
  -- as an unsigned number
  obtain ⟨x, hx1, hx0, hx2, hxc⟩ : ∃ x : Nat, IntKind.u64.wrap (sgI s N) = (x : Int) ∧ x ≠ 0 ∧ x < 18446744073709551616 ∧ Lib.ctz 64 x = Lib.ctz 64 N := by
    cases s with
    | false => exact ⟨N, wu64 (by omega), n0, by omega, rfl⟩
    | true => refine ⟨18446744073709551616 - N, ?_, by omega, by omega, ctz_neg n0 nlt⟩
              show (-(N : Int)) % 18446744073709551616 = _
              omega
  show T Tryz.prog F.bits_TrailingZeros64 [.int .u64 (IntKind.u64.wrap (sgI s N))] _ _
  rw [hx1]
  refine (Tz_T tb hx0 hx2).mono ?_
  rintro _ h3 ⟨rfl, rfl⟩
  rw [hxc]
  obtain ⟨m, e1, k1⟩ := Lib.ctzFrom_spec 64 N (by omega) (by omega)
  have c2 : Lib.ctz 64 N = Lib.ctzFrom 64 N := by simp [Lib.ctz, n0]
  rw [c2]
  generalize Lib.ctzFrom 64 N = k at *
  have hk : k < 53 := by
    have := Nat.le_mul_of_pos_right (2 ^ k) (show 0 < 2 * m + 1 by omega)
    exact (Nat.pow_lt_pow_iff_right (a := 2) (by decide)).1 (show 2 ^ k < 2 ^ 53 by have : 2 ^ k ≤ N := by rw [e1]; exact this
                                                                                    have : (2 : Nat) ^ 53 = 9007199254740992 := rfl
                                                                                    omega)
  have hp := Nat.two_pow_pos k
  have om : 2 * m + 1 < 9007199254740992 := by
    have := Nat.le_mul_of_pos_left (2 * m + 1) hp
    omega
  refine rt_ret ⟨_, rfl, shr_P (by omega) ⟨_, _, rfl, .inr ⟨hM, 2 * m + 1, ?_, by omega, om, ?_, ?_, ?_⟩, rfl⟩⟩
  · have ep : ((2 : Int) ^ k) = ((2 ^ k : Nat) : Int) := by simp
    have ez : (2 : Int) ^ k ≠ 0 := by rw [ep]; omega
    rw [e1]
    cases s with
    | false =>
      show (((2 ^ k * (2 * m + 1) : Nat) : Int)).fdiv (2 ^ k) = ((2 * m + 1 : Nat) : Int)
      rw [Int.natCast_mul, ← ep, Int.mul_fdiv_cancel_left _ ez]
    | true =>
      show (-((2 ^ k * (2 * m + 1) : Nat) : Int)).fdiv (2 ^ k) = -((2 * m + 1 : Nat) : Int)
      rw [Int.natCast_mul, ← ep, ← Int.mul_neg, Int.mul_fdiv_cancel_left _ ez]
  · have e3 : IntKind.i64.wrap (IntKind.i64.wrap (Q + 53 - 53) + ((k : Nat) : Int)) = Q + k := by
      rw [wi64 (x := Q + 53 - 53) (by omega) (by omega), wi64 (by omega) (by omega)]; omega
    rw [e3, ← nv]
    refine Eq.symm ((vE_le (by omega) (by omega)).2 ?_)
    rw [show (Q + (k : Int) - Q).toNat = k by omega, e1, Nat.mul_comm]
  · rw [wi64 (x := Q + 53 - 53) (by omega) (by omega), wi64 (by omega) (by omega)]; omega
  · rw [wi64 (x := Q + 53 - 53) (by omega) (by omega), wi64 (by omega) (by omega)]; omega
theorem Back_T {k : Nat} {e : Int} (hk : k < 9007199254740992) (he : -1074 ≤ e) (he2 : e ≤ 1100) (hc : k ≠ 0 → ∃ M P, Can M P ∧ vE M P = vE k e) :
    T Tryz.prog F.scale_Back [.int .i64 (sgI s k), .int .i64 e] h fun r h' => ∃ b, r = .ret (flo b) ∧ (k = 0 → b = 0) ∧ (∀ M P, k ≠ 0 → Can M P → vE M P = vE k e → b = wd s (rg M P)) ∧ h' = h := by
  refine E_scale_Back ?_
  unfold B_scale_Back
  have hsz : T Tryz.prog F.scale_size [.int .i64 (sgI s k)] h fun r h' => r = .ret (.int .u64 (k : Int)) ∧ h' = h := by
    refine E_scale_size ?_
    unfold B_scale_size
    refine ifP_of (fun h1 => ?_) (fun h1 => ?_)
    · have h1 := of_decide_eq_true h1
      refine ⟨?_, rfl⟩
      congr 2
      unfold sgI at h1 ⊢
      cases s with
      | false => simp at h1; omega
      | true =>
        show (0 - (-(k : Int)) % 18446744073709551616) % 18446744073709551616 = _
        omega
    · have h1 := of_decide_eq_false h1
      refine ⟨?_, rfl⟩
      congr 2
      unfold sgI at h1 ⊢
      cases s with
      | false => exact wu64 (by omega)
      | true =>
        have h1 : ¬ -(k : Int) < 0 := h1
        have : k = 0 := by omega
        subst this; rfl
  refine hsz.mono ?_
  rintro _ h2 ⟨rfl, rfl⟩
  refine rt_ret ⟨_, rfl, ?_⟩
  have ee : (if 1400 < (if e < -1400 then -1400 else e) then 1400 else (if e < -1400 then -1400 else e)) = e := by
    rw [if_neg (show ¬ e < -1400 by omega), if_neg (by omega)]
  rw [ee]
  refine T.mono (E_scale_rounded ?_) (R := fun r h' => ∃ b, r = .ret (flo b) ∧ (k = 0 → b = 0) ∧ (∀ M P, k ≠ 0 → Can M P → vE M P = vE k e → b = wd s (rg M P)) ∧ h' = h2) ?_
  rotate_left
  · rintro _ h' ⟨b, rfl, k⟩
    exact rt_ret ⟨b, rfl, k⟩
  unfold B_scale_rounded
  refine ifP_of (fun h0 => ?_) (fun h0 => ?_)
  · have h0 : k = 0 := by have := of_decide_eq_true h0; omega
    exact ⟨0, rfl, fun _ => rfl, fun _ _ hn => absurd h0 hn, rfl⟩
  have k0 : k ≠ 0 := by have := of_decide_eq_false h0; omega
  refine (Len64_T hk).mono ?_
  rintro _ h3 ⟨n, rfl, n0, n53, rfl⟩
  refine rt_ret ⟨_, rfl, fun p g => g = h3 ∧ p.1 = (k : Int) ∧ p.2.1 = e, ?_, ?_⟩
  · refine ifP_of (fun h1 => ?_) (fun _ => ⟨rfl, rfl, rfl⟩)
    have h1 := of_decide_eq_true h1
    rw [wi64 (x := n - 53) (by omega) (by omega), wi64 (x := -1074 - e) (by omega) (by omega)] at h1
    exfalso
    split at h1 <;> omega
  rintro mg ep g ⟨rfl, e1, e2⟩
  change mg = (k : Int) at e1
  change ep = e at e2
  subst e1 e2
  have lk : k.log2 < 53 := (Nat.log2_lt k0).2 (by simpa using hk)
  obtain ⟨Mk, Pk, ck, vk, mk0⟩ := can_ex (p := 0) k0 hk (by omega) (by omega)
  have ef : floatOfInt .f64 (k : Int) = wd false (rg Mk Pk) := by
    show Ieee.double.nearest (decide ((k : Int) < 0)) (k : Int).natAbs 0 = _
    rw [decide_eq_false (by omega), Int.natAbs_natCast]
    exact nearest_can ck mk0 (by omega) vk.symm
  refine ffloat_P ?_
  rw [ef]
  have crl := ck.rg_lt
  refine (ldexp_T (wd_lt (by omega)) (by omega)).mono ?_
  rintro _ h4 ⟨r, rfl, L, rfl⟩
  have pl := ck.lo
  have ph := ck.hi
  have val : ∀ M P, Can M P → vE M P = vE k ep → r = wd false (rg M P) := fun M P c hv => by
    refine L.v false Mk Pk M P rfl ck mk0 (by omega) (by omega) c ?_
    rw [hv]
    have := vE_shift (e := ep) (by omega) (by omega) (by omega) (by omega) vk
    rw [Int.zero_add] at this
    exact this.symm
  obtain ⟨M, P, cM, hM⟩ := hc k0
  have hr := val M P cM hM
  have l1 := cM.rg_lt
  refine rt_ret ?_
  refine ifP_of (fun h1 => fneg_P ⟨_, rfl, fun h => absurd h k0, fun M' P' _ c hv => ?_, rfl⟩) (fun h1 => ⟨r, rfl, fun h => absurd h k0, fun M' P' _ c hv => ?_, rfl⟩)
  · have h1 := of_decide_eq_true h1
    have es : s = true := by
      cases s with
      | false => exfalso; unfold sgI at h1; simp at h1; omega
      | true => rfl
    have l2 := c.rg_lt
    rw [val M' P' c hv, es, xor_sign (by omega)]
  · have h1 := of_decide_eq_false h1
    have es : s = false := by
      cases s with
      | false => rfl
      | true => exfalso; have h1 : ¬ -(k : Int) < 0 := h1; omega
    rw [val M' P' c hv, es]
end

end Go.Proofs.YtjlojokockfapaaGreatDoor

namespace Go.Proofs.YtjlojokockfapaaGreatDoor
open Go
set_option linter.unusedVariables false
set_option linter.unusedSimpArgs false
set_option maxRecDepth 100000

/-- The word of a number. -/
def FinW (b : Nat) : Prop := ∃ s M P, b = wd s (rg M P) ∧ Can M P
def ZW (b : Nat) : Prop := ∃ s P, b = wd s (rg 0 P) ∧ Can 0 P
/-- A number's odd part. -/
def Od (b : Nat) (m e : Int) : Prop := ∃ s M P o, b = wd s (rg M P) ∧ Can M P ∧ M ≠ 0 ∧ m = sgI s o ∧ o % 2 = 1 ∧ o < 9007199254740992 ∧ vE o e = vE M P ∧ -1074 ≤ e ∧ e ≤ 1030
theorem odd_ge {o M : Nat} {e P : Int} (ho : o % 2 = 1) (he : -4000 ≤ e) (hP : -4000 ≤ P) (h : vE o e = vE M P) : P ≤ e := by
  apply Classical.byContradiction
  intro hn
  have := (vE_le he (by omega)).1 h
  obtain ⟨d, hd⟩ : ∃ d, (P - e).toNat = d + 1 := ⟨(P - e).toNat - 1, by omega⟩
  rw [hd, Nat.pow_succ, ← Nat.mul_assoc] at this
  omega
theorem fin_inj {s t : Bool} {M N : Nat} {P Q : Int} (a : Can M P) (b : Can N Q) (h : wd s (rg M P) = wd t (rg N Q)) : s = t ∧ M = N ∧ P = Q := by
  have l1 := a.rg_lt
  have l2 := b.rg_lt
  obtain ⟨e1, e2⟩ := wd_inj (by omega) (by omega) h
  exact ⟨e1, can_inj a b e2⟩
theorem PrP.od {s : Bool} {M : Nat} {P m e : Int} (c : Can M P) (p : PrP s M P m e) : (ZW (wd s (rg M P)) ∧ m = 0 ∧ e = 0) ∨ Od (wd s (rg M P)) m e := by
  rcases p with ⟨rfl, h1, h2⟩ | ⟨hM, o, h1, h2, h3, h4, h5, h6⟩
  · exact .inl ⟨⟨s, P, rfl, c⟩, h1, h2⟩
  · have := odd_ge h2 (by omega) (by have := c.lo; omega) h4
    have := c.lo
    exact .inr ⟨s, M, P, o, rfl, c, hM, h1, h2, h3, h4, by omega, h6⟩
theorem Od.uniq {b : Nat} {m e m' e' : Int} (a : Od b m e) (c : Od b m' e') : m = m' ∧ e = e' := by
  obtain ⟨s, M, P, o, e1, c1, hM, h1, h2, h3, h4, h5, h6⟩ := a
  obtain ⟨s', M', P', o', e1', c1', hM', h1', h2', h3', h4', h5', h6'⟩ := c
  obtain ⟨rfl, rfl, rfl⟩ := fin_inj c1 c1' (e1.symm.trans e1')
  have h := h4.trans h4'.symm
  have q1 := odd_ge h2 (by omega) (by omega) h
  have q2 := odd_ge h2' (by omega) (by omega) h.symm
  have : e = e' := by omega
  subst this
  have := (vE_le (by omega) (Int.le_refl e)).1 h
  simp at this
  exact ⟨by rw [h1, h1', this], rfl⟩
theorem Od.not0 {b : Nat} {m e : Int} (a : Od b m e) : ¬ ZW b := by
  rintro ⟨s', P', e', c'⟩
  obtain ⟨s, M, P, o, e1, c1, hM, _⟩ := a
  exact hM (fin_inj c1 c' (e1.symm.trans e')).2.1
theorem Od.ne {b : Nat} {m e : Int} (a : Od b m e) : m ≠ 0 := by
  obtain ⟨s, M, P, o, e1, c1, hM, h1, h2, _⟩ := a
  rw [h1]; unfold sgI; split <;> omega
/-- The labels are whole numbers times 2^ex, none above most. -/
def RepP (m : Nat) (f : Nat → Nat) (most : Int) (n : Nat → Int) (ex : Int) : Prop :=
  ∀ i, i < m → (ZW (f i) ∧ n i = 0) ∨ ∃ s M P k, f i = wd s (rg M P) ∧ Can M P ∧ M ≠ 0 ∧ n i = sgI s k ∧ (k : Int) ≤ most ∧ vE k ex = vE M P
theorem RepP.fin {m : Nat} {f : Nat → Nat} {most : Int} {n : Nat → Int} {ex : Int} (r : RepP m f most n ex) {i : Nat} (hi : i < m) : FinW (f i) := by
  rcases r i hi with ⟨⟨s, P, e, c⟩, _⟩ | ⟨s, M, P, k, e, c, _⟩
  · exact ⟨s, 0, P, e, c⟩
  · exact ⟨s, M, P, e, c⟩
/-- How great a number must be, if it is one times 2^ex. -/
theorem RepP.ge {m : Nat} {f : Nat → Nat} {most : Int} {n : Nat → Int} {ex : Int} (r : RepP m f most n ex) (he : -3000 ≤ ex) (hm : 0 ≤ most) {i : Nat} (hi : i < m) {a e : Int} (o : Od (f i) a e) :
    ex ≤ e ∧ (a.natAbs : Int) * 2 ^ (e - ex).toNat ≤ most := by
  rcases r i hi with ⟨z, _⟩ | ⟨s, M, P, k, e1, c, hM, h1, h2, h3⟩
  · exact absurd z o.not0
  · obtain ⟨s', M', P', o', e1', c', hM', h1', h2', h3', h4', h5', h6'⟩ := o
    obtain ⟨rfl, rfl, rfl⟩ := fin_inj c c' (e1.symm.trans e1')
    have h := h4'.trans h3.symm
    have q := odd_ge h2' (by omega) (by omega) h
    have hk := (vE_le (by omega) q).1 h.symm
    refine ⟨q, ?_⟩
    have : a.natAbs = o' := by rw [h1']; unfold sgI; split <;> simp
    rw [this]
    have : ((o' : Int) * 2 ^ (e - ex).toNat) = ((o' * 2 ^ (e - ex).toNat : Nat) : Int) := by simp
    rw [this, ← hk]; exact h2
/-- The first j labels, with the least exponent. -/
structure AdI (f : Nat → Nat) (j : Nat) (least : Int) (any : Bool) : Prop where
  fin : ∀ i, i < j → FinW (f i)
  no : any = false → least = 0 ∧ ∀ i, i < j → ZW (f i)
  yes : any = true → (∃ i a, i < j ∧ Od (f i) a least) ∧ ∀ i a e, i < j → Od (f i) a e → least ≤ e
theorem AdI.zero {f : Nat → Nat} {j : Nat} {least : Int} {any : Bool} (A : AdI f j least any) (z : ZW (f j)) : AdI f (j + 1) least any := by
  have key : ∀ i, i < j + 1 → i < j ∨ i = j := fun i hi => by omega
  refine ⟨fun i hi => ?_, fun h => ⟨(A.no h).1, fun i hi => ?_⟩, fun h => ⟨?_, fun i a e hi o => ?_⟩⟩
  · rcases key i hi with h | rfl
    · exact A.fin i h
    · obtain ⟨s, P, e, c⟩ := z; exact ⟨s, 0, P, e, c⟩
  · rcases key i hi with h2 | rfl
    · exact (A.no h).2 i h2
    · exact z
  · obtain ⟨i, a, h1, h2⟩ := (A.yes h).1
    exact ⟨i, a, by omega, h2⟩
  · rcases key i hi with h2 | rfl
    · exact (A.yes h).2 i a e h2 o
    · exact absurd z o.not0
theorem AdI.less {f : Nat → Nat} {j : Nat} {least a e : Int} {any : Bool} (A : AdI f j least any) (o : Od (f j) a e) (h : any = false ∨ e < least) : AdI f (j + 1) e true := by
  have key : ∀ i, i < j + 1 → i < j ∨ i = j := fun i hi => by omega
  refine ⟨fun i hi => ?_, fun h => (by cases h), fun _ => ⟨⟨j, a, by omega, o⟩, fun i b e' hi o' => ?_⟩⟩
  · rcases key i hi with h | rfl
    · exact A.fin i h
    · obtain ⟨s, M, P, _, e, c, _⟩ := o; exact ⟨s, M, P, e, c⟩
  · rcases key i hi with h2 | rfl
    · cases any with
      | false => exact absurd ((A.no rfl).2 i h2) o'.not0
      | true =>
        have := (A.yes rfl).2 i b e' h2 o'
        rcases h with h | h
        · cases h
        · omega
    · have := (o.uniq o').2; omega
theorem AdI.more {f : Nat → Nat} {j : Nat} {least a e : Int} {any : Bool} (A : AdI f j least any) (o : Od (f j) a e) (h : any = true) (h2 : least ≤ e) : AdI f (j + 1) least any := by
  have key : ∀ i, i < j + 1 → i < j ∨ i = j := fun i hi => by omega
  refine ⟨fun i hi => ?_, fun h' => (by rw [h] at h'; cases h'), fun _ => ⟨?_, fun i b e' hi o' => ?_⟩⟩
  · rcases key i hi with h | rfl
    · exact A.fin i h
    · obtain ⟨s, M, P, _, e, c, _⟩ := o; exact ⟨s, M, P, e, c⟩
  · obtain ⟨i, a, h1, h2⟩ := (A.yes h).1
    exact ⟨i, a, by omega, h2⟩
  · rcases key i hi with h3 | rfl
    · exact (A.yes h).2 i b e' h3 o'
    · have := (o.uniq o').2; omega
/-- No numbers do, where one would be too great. -/
theorem AdI.norep {f : Nat → Nat} {m j t : Nat} {least a e most : Int} (A : AdI f m least true) (hm : 0 ≤ most) (hj : j < m) (o : Od (f j) a e) (ht : (t : Int) ≤ e - least) (h : most < (a.natAbs : Int) * 2 ^ t) :
    ¬ ∃ n ex, -3000 ≤ ex ∧ RepP m f most n ex := by
  rintro ⟨n, ex, he, r⟩
  obtain ⟨⟨i0, a0, h1, h2⟩, _⟩ := A.yes rfl
  have q0 := (r.ge he hm h1 h2).1
  obtain ⟨q1, q2⟩ := r.ge he hm hj o
  have : (a.natAbs : Int) * 2 ^ t ≤ (a.natAbs : Int) * 2 ^ (e - ex).toNat := by
    have h2 : (2 : Nat) ^ t ≤ 2 ^ (e - ex).toNat := Nat.pow_le_pow_right (by decide) (by omega)
    have h3 := Nat.mul_le_mul_left a.natAbs h2
    have e1 : ((a.natAbs : Int) * 2 ^ t) = ((a.natAbs * 2 ^ t : Nat) : Int) := by simp
    have e2 : ((a.natAbs : Int) * 2 ^ (e - ex).toNat) = ((a.natAbs * 2 ^ (e - ex).toNat : Nat) : Int) := by simp
    rw [e1, e2]; omega
  omega
/-- What one label has become. -/
def R1P (b : Nat) (least most x : Int) : Prop := (ZW b ∧ x = 0) ∨ ∃ a e d, Od b a e ∧ e = least + ((d : Nat) : Int) ∧ x = a * 2 ^ d ∧ x ≤ most ∧ -x ≤ most
theorem sg_pow {s : Bool} {o d : Nat} : sgI s o * 2 ^ d = sgI s (o * 2 ^ d) := by
  unfold sgI
  cases s <;> simp [Int.neg_mul]
theorem R1P.rep {f : Nat → Nat} {m : Nat} {least most : Int} {n : Nat → Int} (h : ∀ i, i < m → R1P (f i) least most (n i)) (hl : -1074 ≤ least) : RepP m f most n least := fun i hi => by
  rcases h i hi with h | ⟨a, e, d, o, h1, h2, h3, h4⟩
  · exact .inl h
  · obtain ⟨s, M, P, o', e1, c, hM, e2, e3, e4, e5, e6, e7⟩ := o
    refine .inr ⟨s, M, P, o' * 2 ^ d, e1, c, hM, by rw [h2, e2, sg_pow], ?_, ?_⟩
    · rw [h2, e2, sg_pow] at h3 h4
      unfold sgI at h3 h4
      cases s <;> simp at h3 h4 <;> simp <;> omega
    · rw [← e5]
      refine (vE_le (by omega) (by omega)).2 ?_
      rw [show (e - least).toNat = d by omega]
/-- What Admit comes to. -/
def AdS (m : Nat) (f : Nat → Nat) (most : Int) (n : Nat → Int) (ex : Int) : Prop :=
  RepP m f most n ex ∧ -1074 ≤ ex ∧ ex ≤ 1030 ∧ ((ex = 0 ∧ ∀ i, i < m → n i = 0) ∨ ∃ i, i < m ∧ n i % 2 = 1)

/-- What Admit answers. -/
def AdQ (h : H) (m : Nat) (f : Nat → Nat) (most : Int) (r : Res) (h' : H) : Prop :=
  (∃ c a : Int, r = .ret (.tuple ⟨[.slice none 0 0, .int .i64 0, .agg ⟨[.int .i64 c, .int .i64 a]⟩]⟩) ∧ (c = 20 ∨ c = 21 ∨ c = 22) ∧ (¬ ∃ n ex, -3000 ≤ ex ∧ RepP m f most n ex) ∧ Ext h h') ∨
  ∃ (own' : Own) (w : Value) (n : Nat → Int) (ex : Int), r = .ret (.tuple ⟨[w, .int .i64 ex, .agg ⟨[.int .i64 0, .int .i64 0]⟩]⟩) ∧ Bs h own' h' ∧ S1 own' h' 20 w (ints m n) ∧ AdS m f most n ex
def floV (m : Nat) (f : Nat → Nat) : List Value := va m fun i => flo (f i)
theorem mk_cap {h : H} {c e : Nat} {K : Nat → H → Prop} (i : Nat) (hc : c ≤ 4398046511104)
    (k : ∀ b g, h b = none → Ext h g → (∀ own, S1 (own1 own b i) g i (.slice (some (bk b)) 0 c) []) → K b g) : mkS 0 (c : Int) 8 [.int .i64 0] e h K := by
  refine ⟨by omega, by omega, by omega, by omega, new_put ?_⟩
  intro b g hb x e1
  refine k b g hb x fun own => .inr ⟨b, own1_at, c, e, zrep [.int .i64 0] c, rfl, by rw [e1, Int.toNat_natCast]; rfl, by simp [zrep]⟩
/-- The end of the second round's step, as the walk has it. -/
def AdJ (least most s52 : Int) (b1 : Nat) (out : Value) (R : Res → H → Prop) (N : Value → H → Prop) (m0 e0 : Int) (g : H) : Prop :=
  ∃ J61 : (Int × Unit) → H → Prop, (ifP (!decide (m0 = 0)) (∃ (I64 : (Int × Int × Unit) → H → Prop) (r65 : (Int × Int × Unit) × H → (Int × Int × Unit) × H → Prop), WellFounded r65 ∧ I64 (m0, e0, ()) g ∧
  ∀ (m_67 : Int) (e_68 : Int) (h66 : H), I64 (m_67, e_68, ()) h66 →
  ifP (decide (least < e_68)) (ifP (decide (m_67 ≤ most)) (ifP (decide ((IntKind.i64.wrap (0 - m_67)) ≤ most)) (I64 ((IntKind.i64.wrap (m_67 * 2)), (IntKind.i64.wrap (e_68 - 1)), ()) h66 ∧ r65 (((IntKind.i64.wrap (m_67 * 2)), (IntKind.i64.wrap (e_68 - 1)), ()), h66) ((m_67, e_68, ()), h66))
  (J61 (m_67, ()) h66)) (J61 (m_67, ()) h66)) (J61 (m_67, ()) h66))
  (J61 (m0, ()) g)) ∧
  (∀ (m_63 : Int) (h62 : H), J61 (m_63, ()) h62 →
  ifP (decide (most < m_63)) (stN h62 (bk b1) [.int .i64 22, .int .i64 s52] 2 fun h69 =>
  ldN h69 (bk b1) 2 fun x70 =>
  R (.ret (.tuple ⟨[.slice none 0 0, .int .i64 0, .agg ⟨x70⟩]⟩)) h69) (ifP (decide (most < (IntKind.i64.wrap (0 - m_63)))) (stN h62 (bk b1) [.int .i64 22, .int .i64 s52] 2 fun h71 =>
  ldN h71 (bk b1) 2 fun x72 =>
  R (.ret (.tuple ⟨[.slice none 0 0, .int .i64 0, .agg ⟨x72⟩]⟩)) h71)
  (newP h62 (.cells ⟨[.int .i64 m_63]⟩ 2 (0, 0)) fun b73 h74 =>
  apP out (.slice (some (bk b73)) 1 1) h74 1 2 8 [.int .i64 0] fun s75 h76 => N s75 h76)))
theorem adJ {least most s52 m0 e0 : Int} {b1 : Nat} {out : Value} {R : Res → H → Prop} {N : Value → H → Prop} {g : H} (hb : -9007199254740992 < m0 ∧ m0 < 9007199254740992) (he : -1074 ≤ e0 ∧ e0 ≤ 1030) (hl : -1074 ≤ least ∧ least ≤ 1030) (hle : m0 ≠ 0 → least ≤ e0)
    (m1 : 1 ≤ most) (m2 : most ≤ 9007199254740992)
    (bad : ∀ t : Nat, (t : Int) ≤ e0 - least → most < (m0.natAbs : Int) * 2 ^ t → stN g (bk b1) [.int .i64 22, .int .i64 s52] 2 fun h69 => ldN h69 (bk b1) 2 fun x70 => R (.ret (.tuple ⟨[.slice none 0 0, .int .i64 0, .agg ⟨x70⟩]⟩)) h69)
    (good : ∀ x : Int, (m0 = 0 ∧ x = 0 ∨ m0 ≠ 0 ∧ ∃ d : Nat, e0 = least + d ∧ x = m0 * 2 ^ d) → x ≤ most → -x ≤ most → newP g (.cells ⟨[.int .i64 x]⟩ 2 (0, 0)) fun b73 h74 => apP out (.slice (some (bk b73)) 1 1) h74 1 2 8 [.int .i64 0] fun s75 h76 => N s75 h76) :
    AdJ least most s52 b1 out R N m0 e0 g := by
  have abs_ : ∀ {x : Int} {t : Nat}, x = m0 * 2 ^ t → (x.natAbs : Int) = (m0.natAbs : Int) * 2 ^ t := fun {x t} e => by
    rw [e, Int.natAbs_mul]
    have : ((2 : Int) ^ t).natAbs = 2 ^ t := by rw [Int.natAbs_pow]; rfl
    rw [this]; simp
  refine ⟨fun p q => q = g ∧ ∃ x : Int, p.1 = x ∧ -18014398509481984 ≤ x ∧ x ≤ 18014398509481984 ∧ ((m0 = 0 ∧ x = 0) ∨ (m0 ≠ 0 ∧ ∃ t : Nat, (t : Int) ≤ e0 - least ∧ x = m0 * 2 ^ t ∧ ((t : Int) = e0 - least ∨ most < x ∨ most < -x))), ?_, ?_⟩
  · refine ifP_of (fun h1 => ?_) (fun h1 => ?_)
    · have h1 : m0 ≠ 0 := by simpa using h1
      have hle := hle h1
      let I : (Int × Int × Unit) → H → Nat → Prop := fun s q z => ∃ (t : Nat) (x : Int), s.1 = x ∧ s.2.1 = e0 - t ∧ (t : Int) ≤ e0 - least ∧ z = (e0 - least).toNat - t ∧ q = g ∧ x = m0 * 2 ^ t ∧ -18014398509481984 ≤ x ∧ x ≤ 18014398509481984
      refine ⟨fun p q => ∃ k, I p q k, rk I, rk_wf I, ⟨_, 0, m0, rfl, by show e0 = e0 - ((0 : Nat) : Int); omega, by omega, rfl, rfl, by simp, by omega, by omega⟩, ?_⟩
      intro m6 e6 q hI
      obtain ⟨t, x, e1, e2, ht, hz, e3, hx, hx1, hx2⟩ := mu_spec hI
      generalize hkk : mu I ((m6, e6, ()), q) = km at *
      change m6 = x at e1
      change e6 = e0 - t at e2
      subst e1 e2 e3
      clear hI
      have out_ : ((t : Int) = e0 - least ∨ most < m6 ∨ most < -m6) → (fun (p : Int × Unit) (q' : H) => q' = q ∧ ∃ x : Int, p.1 = x ∧ -18014398509481984 ≤ x ∧ x ≤ 18014398509481984 ∧ ((m0 = 0 ∧ x = 0) ∨ (m0 ≠ 0 ∧ ∃ t : Nat, (t : Int) ≤ e0 - least ∧ x = m0 * 2 ^ t ∧ ((t : Int) = e0 - least ∨ most < x ∨ most < -x)))) (m6, ()) q :=
        fun h => ⟨rfl, m6, rfl, hx1, hx2, .inr ⟨h1, t, ht, hx, h⟩⟩
      rw [wi64 (x := 0 - m6) (by omega) (by omega)]
      refine ifP_of (fun h2 => ?_) (fun h2 => out_ (.inl (by have := of_decide_eq_false h2; omega)))
      have h2 := of_decide_eq_true h2
      refine ifP_of (fun h3 => ?_) (fun h3 => out_ (.inr (.inl (by have := of_decide_eq_false h3; omega))))
      have h3 := of_decide_eq_true h3
      refine ifP_of (fun h4 => ?_) (fun h4 => out_ (.inr (.inr (by have := of_decide_eq_false h4; omega))))
      have h4 := of_decide_eq_true h4
      rw [wi64 (x := m6 * 2) (by omega) (by omega), wi64 (x := e0 - (t : Int) - 1) (by omega) (by omega)]
      refine mu_next (I := I) (k := (e0 - least).toNat - (t + 1)) ⟨t + 1, m6 * 2, rfl, by show e0 - (t : Int) - 1 = e0 - ((t + 1 : Nat) : Int); omega, by omega, rfl, rfl, ?_, by omega, by omega⟩ (by rw [hkk, hz]; omega)
      rw [hx, Int.pow_succ, Int.mul_assoc]
    · have h1 : m0 = 0 := by simpa using h1
      exact ⟨rfl, m0, rfl, by omega, by omega, .inl ⟨h1, h1⟩⟩
  rintro x3 q ⟨rfl, x, e1, hx1, hx2, hx⟩
  change x3 = x at e1
  subst e1
  rw [wi64 (x := 0 - x3) (by omega) (by omega)]
  have big : (most < x3 ∨ most < -x3) → ∃ t : Nat, (t : Int) ≤ e0 - least ∧ most < (m0.natAbs : Int) * 2 ^ t := fun h => by
    rcases hx with ⟨_, h0⟩ | ⟨h0, t, ht, hxe, _⟩
    · omega
    · exact ⟨t, ht, by rw [← abs_ hxe]; omega⟩
  refine ifP_of (fun h2 => ?_) (fun h2 => ifP_of (fun h3 => ?_) (fun h3 => ?_))
  · obtain ⟨t, a, b⟩ := big (.inl (of_decide_eq_true h2))
    exact bad t a b
  · obtain ⟨t, a, b⟩ := big (.inr (by have := of_decide_eq_true h3; omega))
    exact bad t a b
  · have h2 := of_decide_eq_false h2
    have h3 := of_decide_eq_false h3
    refine good x3 (hx.imp id fun ⟨h0, t, ht, hxe, h4⟩ => ⟨h0, t, ?_, hxe⟩) (by omega) (by omega)
    rcases h4 with h4 | h4 | h4 <;> omega
section
variable {h : H} {v : Value} {m : Nat} {f : Nat → Nat} {most : Int}
theorem Admit_T (tb : Tab h) (Z : RS h v (floV m f)) (hf : ∀ i, i < m → f i < 18446744073709551616) (hm : m ≤ 4398046511104) (m1 : 1 ≤ most) (m2 : most ≤ 9007199254740992) :
    T Tryz.prog F.scale_Admit [v, .int .i64 most] h (AdQ h m f most) := by
  have lenf : (floV m f).length = m := va_length _ _
  refine E_scale_Admit ?_
  unfold B_scale_Admit
  refine new_bl ?_
  intro b1 h2 hb1 x1 B1_
  have k21 : B1 (own1 (fun _ => 0) b1 21) h2 21 b1 _ := B1.new B1_
  have bs : Bs h (own1 (fun _ => 0) b1 21) h2 := Bs.start.new x1 hb1
  generalize own1 (fun _ => 0) b1 21 = ow at *
  clear B1_ hb1 x1
  refine ifP_of (fun h => by have := of_decide_eq_true h; omega) (fun _ => ifP_of (fun h => by have := of_decide_eq_true h; omega) (fun _ => ?_))
  -- an error
  have err : ∀ {ow : Own} {q : H} {vs : List Value} {c a : Int}, Bs h ow q → B1 ow q 21 b1 vs → vs.length = 2 → (c = 20 ∨ c = 21 ∨ c = 22) → (¬ ∃ n ex, -3000 ≤ ex ∧ RepP m f most n ex) →
      stN q (bk b1) [.int .i64 c, .int .i64 a] 2 fun h3 => ldN h3 (bk b1) 2 fun x4 => AdQ h m f most (.ret (.tuple ⟨[.slice none 0 0, .int .i64 0, .agg ⟨x4⟩]⟩)) h3 := by
    intro ow q vs c a bs k hl hc hn
    refine k.stN rfl hl (by simp [Value.oneCell']) fun g F k => ?_
    have bs := bs.fm F (by simp <;> omega)
    exact k.ldN rfl (.inl ⟨c, a, rfl, hc, hn, bs.ext⟩)
  have Z0 := Z
  have Z := Z.ext bs.ext
  refine Z.len lenf fun _ _ => ?_
  -- the first round
  let I : (Int × Bool × Int × Unit) → H → Nat → Prop := fun s g z => ∃ j : Nat, s.2.2.1 = j ∧ j ≤ m ∧ z = m - j ∧ g = h2 ∧ AdI f j s.1 s.2.1
  refine ⟨fun p q => ∃ k, I p q k, rk I, rk_wf I, ⟨_, 0, rfl, by omega, rfl, rfl, ⟨fun i hi => by omega, fun _ => ⟨rfl, fun i hi => by omega⟩, fun h => (by cases h)⟩⟩, ?_⟩
  intro least any s g hI
  obtain ⟨j, e1, hj, hz, e2, A⟩ := mu_spec hI
  generalize hkk : mu I ((least, any, s, ()), g) = km at *
  change s = (j : Int) at e1
  change AdI f j least any at A
  subst e1 e2
  have hlt : j < m → m - (j + 1) < mu I ((least, any, (j : Int), ()), g) := fun h => by rw [hkk, hz]; exact sub_dec h
  clear hI
  refine ifP_of (fun h1 => ?_) (fun h1 => ?_)
  · have hjm : j < m := by have := of_decide_eq_true h1; omega
    have hfj := hf j hjm
    refine Z.at (va_get hjm) fun a16 e16 => ⟨_, e16, (IsNaN_T hfj).mono ?_⟩
    rintro _ _ ⟨rfl, rfl⟩
    refine rt_ret ⟨_, rfl, ifP_of (fun h3 => err bs k21 rfl (.inl rfl) ?_) (fun h3 => (IsInf_T hfj).mono ?_)⟩
    · rintro ⟨n, ex, he, r⟩
      obtain ⟨s, M, P, e, c⟩ := r.fin hjm
      rw [e, nanB_num c] at h3; cases h3
    rintro _ _ ⟨rfl, rfl⟩
    refine rt_ret ⟨_, rfl, ifP_of (fun h4 => err bs k21 rfl (.inr (.inl rfl)) ?_) (fun h4 => ?_)⟩
    · rintro ⟨n, ex, he, r⟩
      obtain ⟨s, M, P, e, c⟩ := r.fin hjm
      rw [e, infB_num c] at h4; cases h4
    -- a number
    obtain ⟨s, M, P, ef, c⟩ : FinW (f j) := by
      obtain ⟨s, r, hr, e⟩ := wd_cases hfj
      have h5 : ¬ 9218868437227405312 < r := by
        rw [e] at h3; unfold nanB at h3; rw [wd_mod hr] at h3; exact of_decide_eq_false h3
      have h6 : ¬ r = 9218868437227405312 := by
        rw [e] at h4; unfold infB at h4; rw [wd_mod hr] at h4; exact of_decide_eq_false h4
      obtain ⟨M, P, c, e2⟩ := can_of (r := r) (by omega)
      exact ⟨s, M, P, by rw [e, e2], c⟩
    rw [ef]
    refine feq_P ?_
    rw [order_0 c.read, i64_inc (by omega)]
    refine ifP_of (fun h0 => ?_) (fun h0 => ?_)
    · have h0 := of_decide_eq_true h0
      subst h0
      exact mu_next (I := I) (k := m - (j + 1)) ⟨j + 1, rfl, hjm, rfl, rfl, A.zero ⟨s, P, ef, c⟩⟩ (hlt hjm)
    have hM : M ≠ 0 := of_decide_eq_false h0
    refine (parts_T (fun i hi => bs.ext.cell (tb i hi)) c).mono ?_
    rintro _ h5 ⟨pm, pe, rfl, pr, rfl⟩
    have o : Od (f j) pm pe := by
      rcases pr.od c with ⟨⟨s', P', e', c'⟩, _⟩ | o
      · exact absurd (fin_inj c c' e').2.1 hM
      · rw [ef]; exact o
    refine rt_ret ⟨_, _, rfl, ifP_of (fun h6 => ?_) (fun h6 => ?_)⟩
    · exact mu_next (I := I) (k := m - (j + 1)) ⟨j + 1, rfl, hjm, rfl, rfl, A.less o (.inl (by simpa using h6))⟩ (hlt hjm)
    have h6 : any = true := by simpa using h6
    refine ifP_of (fun h7 => ?_) (fun h7 => ?_)
    · exact mu_next (I := I) (k := m - (j + 1)) ⟨j + 1, rfl, hjm, rfl, rfl, A.less o (.inr (of_decide_eq_true h7))⟩ (hlt hjm)
    · have h7 := of_decide_eq_false h7
      exact mu_next (I := I) (k := m - (j + 1)) ⟨j + 1, rfl, hjm, rfl, rfl, A.more o h6 (by omega)⟩ (hlt hjm)
  have hjm : j = m := by have := of_decide_eq_false h1; omega
  subst hjm
  clear hlt hkk hz h1 hj
  have lb : -1074 ≤ least ∧ least ≤ 1030 := by
    cases any with
    | false => rw [(A.no rfl).1]; omega
    | true =>
      obtain ⟨i, a, _, s, M, P, o, _, _, _, _, _, _, _, q1, q2⟩ := (A.yes rfl).1
      exact ⟨q1, q2⟩
  refine Z.len lenf fun _ _ => mk_cap 20 hm ?_
  intro b43 h44 hb43 x43 S20
  have k20 := S20 ow
  have bs := bs.nw (j := 20) x43 hb43
  have k21 := k21.nw (j := 20) x43 hb43
  have Z := Z.ext x43
  generalize own1 ow b43 20 = ow at *
  clear S20 hb43
  rw [show ((0 : Int).toNat) = 0 from rfl, Int.toNat_natCast]
  refine Z.len lenf fun _ _ => ?_
  -- the second round
  let I2 : (Value × Int × Unit) → H → Nat → Prop := fun s g z => ∃ (i : Nat) (ow : Own) (n : Nat → Int), s.2.1 = i ∧ i ≤ j ∧ z = j - i ∧ Bs h ow g ∧ B1 ow g 21 b1 [.int .i64 0, .int .i64 0] ∧ S1 ow g 20 s.1 (ints i n) ∧ ∀ q, q < i → R1P (f q) least most (n q)
  refine ⟨fun p q => ∃ k, I2 p q k, rk I2, rk_wf I2, ⟨_, 0, ow, fun _ => 0, rfl, by omega, rfl, bs, k21, k20, fun q hq => by omega⟩, ?_⟩
  clear bs k21 k20
  intro ov s g hI
  obtain ⟨i, ow, n, e1, hi, hz, bs, k21, k20, hn⟩ := mu_spec hI
  generalize hkk : mu I2 ((ov, s, ()), g) = km at *
  change s = (i : Int) at e1
  subst e1
  change S1 ow g 20 ov _ at k20
  have hlt : i < j → j - (i + 1) < mu I2 ((ov, (i : Int), ()), g) := fun h => by rw [hkk, hz]; exact sub_dec h
  clear hI
  have Zg := Z0.ext bs.ext
  refine ifP_of (fun h1 => ?_) (fun h1 => ?_)
  · have hij : i < j := by have := of_decide_eq_true h1; omega
    obtain ⟨s, M, P, ef, c⟩ := A.fin i hij
    refine Zg.at (va_get hij) fun a53 e53 => ⟨_, e53, ?_⟩
    rw [ef]
    refine (parts_T (fun q hq => bs.ext.cell (tb q hq)) c).mono ?_
    rintro _ h5 ⟨pm, pe, rfl, pr, rfl⟩
    refine rt_ret ⟨_, _, rfl, ?_⟩
    have od := pr.od c
    rw [← ef] at od
    have bnd : (-9007199254740992 < pm ∧ pm < 9007199254740992) ∧ -1074 ≤ pe ∧ pe ≤ 1030 := by
      rcases od with ⟨_, h1, h2⟩ | ⟨s, M, P, o, _, _, _, h1, _, h3, _, h5, h6⟩
      · omega
      · rw [h1]
        refine ⟨?_, h5, h6⟩
        unfold sgI; split <;> omega
    have hmost : 0 ≤ most := by omega
    have yes : pm ≠ 0 → Od (f i) pm pe ∧ any = true := fun h0 => by
      rcases od with ⟨_, h1, _⟩ | o
      · exact absurd h1 h0
      · refine ⟨o, ?_⟩
        cases any with
        | true => rfl
        | false => exact absurd ((A.no rfl).2 i hij) o.not0
    have norep : ∀ t : Nat, pm ≠ 0 → (t : Int) ≤ pe - least → most < (pm.natAbs : Int) * 2 ^ t → ¬ ∃ n ex, -3000 ≤ ex ∧ RepP j f most n ex := fun t h0 ht hb => by
      obtain ⟨o, ha⟩ := yes h0
      subst ha
      exact A.norep hmost hij o ht hb
    have jj : AdJ least most (i : Int) b1 ov (AdQ h j f most) _ pm pe h5 := adJ (s52 := (i : Int)) (b1 := b1) (out := ov) (R := AdQ h j f most) (N := fun s75 h76 => (∃ k, I2 (s75, (IntKind.i64.wrap ((i : Int) + 1)), ()) h76 k) ∧ rk I2 ((s75, (IntKind.i64.wrap ((i : Int) + 1)), ()), h76) ((ov, (i : Int), ()), h5)) bnd.1 bnd.2 lb
      (fun h0 => by obtain ⟨o, ha⟩ := yes h0; exact (A.yes ha).2 i pm pe hij o) m1 m2
      (fun t ht hb => err bs k21 rfl (.inr (.inr rfl)) (norep t (fun h0 => by rw [h0] at hb; simp at hb; omega) ht hb))
      (fun x hx h2 h3 => by
        refine k20.push1 (by simp [Value.oneCell']) (by omega) (by rw [ints_length]; omega) ?_
        intro _ gm p' ow' g' _ xm F k20
        have bs := bs.fm F (by simp <;> omega)
        have k21 := k21.fm F (by simp <;> omega)
        rw [i64_inc (by omega)]
        refine mu_next (I := I2) (k := j - (i + 1)) ⟨i + 1, ow', fun q => if q = i then x else n q, rfl, hij, rfl, bs, k21, ?_, fun q hq => ?_⟩ (hlt hij)
        · rw [ints_push]
          show S1 ow' g' 20 p' (ints i (fun q => if q = i then x else n q) ++ [.int .i64 (if i = i then x else n i)])
          rw [if_pos rfl, ints_ext (f := fun q => if q = i then x else n q) (g := n) (fun q hq => if_neg (by omega))]
          exact k20
        · by_cases e : q = i
          · subst e
            show R1P (f q) least most (if q = q then x else n q)
            rw [if_pos rfl]
            rcases hx with ⟨h0, hx0⟩ | ⟨h0, d, hd, hx0⟩
            · rcases od with ⟨z, _⟩ | o
              · exact .inl ⟨z, hx0⟩
              · exact absurd h0 o.ne
            · exact .inr ⟨pm, pe, d, (yes h0).1, hd, hx0, h2, h3⟩
          · show R1P (f q) least most (if q = i then x else n q)
            rw [if_neg e]; exact hn q (by omega))
    refine ifP_of (fun h2 => ?_) (fun h2 => jj)
    refine ifP_of (fun h3 => ?_) (fun h3 => jj)
    have h2 : pm ≠ 0 := by simpa using h2
    have h3 := of_decide_eq_true h3
    rw [wi64 (x := pe - least) (by omega) (by omega)] at h3
    refine err bs k21 rfl (.inr (.inr rfl)) (norep 54 h2 (by omega) ?_)
    have : 1 ≤ (pm.natAbs : Int) := by omega
    show most < (pm.natAbs : Int) * 18014398509481984
    omega
  have hij : i = j := by have := of_decide_eq_false h1; omega
  rw [hij] at k20 hn
  refine k21.stN rfl rfl (by simp [Value.oneCell']) fun g2 F k21 => ?_
  have bs := bs.fm F (by simp <;> omega)
  have k20 := k20.fm F (by simp <;> omega)
  refine k21.ldN rfl (.inr ⟨ow, ov, n, least, rfl, bs, k20, R1P.rep hn lb.1, lb.1, lb.2, ?_⟩)
  cases any with
  | false =>
    refine .inl ⟨(A.no rfl).1, fun q hq => ?_⟩
    rcases hn q hq with ⟨_, h⟩ | ⟨a, e, d, o, _⟩
    · exact h
    · exact absurd ((A.no rfl).2 q hq) o.not0
  | true =>
    obtain ⟨i0, a, h2, o⟩ := (A.yes rfl).1
    refine .inr ⟨i0, h2, ?_⟩
    rcases hn i0 h2 with ⟨z, _⟩ | ⟨a', e, d, o', hd, hx, _⟩
    · exact absurd z o.not0
    · obtain ⟨rfl, rfl⟩ := o.uniq o'
      have : d = 0 := by omega
      subst this
      obtain ⟨s, M, P, o2, _, _, _, h5, h6, _⟩ := o
      rw [hx, h5, Int.pow_zero, Int.mul_one]
      unfold sgI; split <;> omega
end

end Go.Proofs.YtjlojokockfapaaGreatDoor

namespace Go.Proofs.YtjlojokockfapaaGreatDoor
open Go
set_option linter.unusedVariables false
set_option linter.unusedSimpArgs false
set_option maxRecDepth 100000
set_option maxHeartbeats 2000000

section
variable {m : Nat} {f u : Nat → Nat} {most ex ex' : Int} {n n' : Nat → Int}
theorem RepP.at_ (r : RepP m f most n ex) (h0 : 0 ≤ most) {i : Nat} (hi : i < m) : ∃ s k, n i = sgI s k ∧ (k : Int) ≤ most ∧ ((k = 0 ∧ ZW (f i)) ∨ (k ≠ 0 ∧ ∃ M P, f i = wd s (rg M P) ∧ Can M P ∧ M ≠ 0 ∧ vE k ex = vE M P)) := by
  rcases r i hi with ⟨z, e⟩ | ⟨s, M, P, k, e, c, hM, e2, e3, e4⟩
  · exact ⟨false, 0, by rw [e]; rfl, h0, .inl ⟨rfl, z⟩⟩
  · exact ⟨s, k, e2, e3, .inr ⟨fun hk => hM (vE_0 (by rw [← e4, hk]; simp [vE])), M, P, e, c, hM, e4⟩⟩
theorem sg_0 {s : Bool} {k : Nat} : sgI s k = 0 ↔ k = 0 := by unfold sgI; split <;> omega
theorem sg_odd {s : Bool} {k : Nat} : sgI s k % 2 = 1 ↔ k % 2 = 1 := by unfold sgI; split <;> omega
theorem zw_num {s : Bool} {M : Nat} {P : Int} (c : Can M P) (z : ZW (wd s (rg M P))) : M = 0 := by
  obtain ⟨t, Q, e, d⟩ := z
  exact (fin_inj c d e).2.1
/-- The numbers are the only ones. -/
theorem RepP.same (r : RepP m f most n ex) (r' : RepP m f most n' ex') (h0 : 0 ≤ most) (he : -3000 ≤ ex) (he' : -3000 ≤ ex') (d : (∀ i, i < m → n i = 0) ∨ ∃ i, i < m ∧ n i % 2 = 1) (d' : (∀ i, i < m → n' i = 0) ∨ ∃ i, i < m ∧ n' i % 2 = 1) :
    (∀ i, i < m → n' i = n i) ∧ ((∃ i, i < m ∧ n i ≠ 0) → ex' = ex) := by
  have zz : ∀ i, i < m → (n i = 0 ↔ n' i = 0) := fun i hi => by
    obtain ⟨s, k, e1, _, e3⟩ := r.at_ h0 hi
    obtain ⟨t, j, g1, _, g3⟩ := r'.at_ h0 hi
    rw [e1, g1, sg_0, sg_0]
    rcases e3 with ⟨e3, z⟩ | ⟨e3, M, P, ef, c, hM, _⟩
    · rcases g3 with ⟨g3, _⟩ | ⟨g3, M, P, ef, c, hM, _⟩
      · omega
      · rw [ef] at z; exact absurd (zw_num c z) hM
    · rcases g3 with ⟨g3, z⟩ | ⟨g3, _⟩
      · rw [ef] at z; exact absurd (zw_num c z) hM
      · omega
  have le : ∀ {n n' : Nat → Int} {ex ex' : Int}, RepP m f most n ex → RepP m f most n' ex' → -3000 ≤ ex → -3000 ≤ ex' → (∀ i, i < m → (n i = 0 ↔ n' i = 0)) → (∃ i, i < m ∧ n i % 2 = 1) → ex' ≤ ex := by
    rintro n n' ex ex' r r' he he' zz ⟨i, hi, ho⟩
    obtain ⟨s, k, e1, _, e3⟩ := r.at_ h0 hi
    obtain ⟨t, j, g1, _, g3⟩ := r'.at_ h0 hi
    rw [e1, sg_odd] at ho
    have z := zz i hi
    rw [e1, g1, sg_0, sg_0] at z
    rcases e3 with ⟨e3, _⟩ | ⟨e3, M, P, ef, c, hM, ev⟩
    · omega
    rcases g3 with ⟨g3, _⟩ | ⟨g3, M', P', ef', c', hM', ev'⟩
    · omega
    obtain ⟨rfl, rfl, rfl⟩ := fin_inj c c' (ef.symm.trans ef')
    exact odd_ge ho (by omega) (by omega) (ev.trans ev'.symm)
  have eqx : (∃ i, i < m ∧ n i ≠ 0) → ex' = ex := by
    rintro ⟨i, hi, hn⟩
    have o1 := d.resolve_left fun h => hn (h i hi)
    have o2 := d'.resolve_left fun h => hn ((zz i hi).2 (h i hi))
    exact Int.le_antisymm (le r r' he he' zz o1) (le r' r he' he (fun i hi => (zz i hi).symm) o2)
  refine ⟨fun i hi => ?_, eqx⟩
  by_cases hn : n i = 0
  · rw [hn, (zz i hi).1 hn]
  · have e := eqx ⟨i, hi, hn⟩
    subst e
    obtain ⟨s, k, e1, _, e3⟩ := r.at_ h0 hi
    obtain ⟨t, j, g1, _, g3⟩ := r'.at_ h0 hi
    have z := zz i hi
    rw [e1, sg_0] at hn
    rw [e1, g1, sg_0, sg_0] at z
    rcases e3 with ⟨e3, _⟩ | ⟨e3, M, P, ef, c, hM, ev⟩
    · exact absurd e3 hn
    rcases g3 with ⟨g3, _⟩ | ⟨g3, M', P', ef', c', hM', ev'⟩
    · exact absurd (z.2 g3) hn
    obtain ⟨rfl, rfl, rfl⟩ := fin_inj c c' (ef.symm.trans ef')
    have := (vE_le (by omega) (Int.le_refl ex')).1 (ev.trans ev'.symm)
    simp at this
    rw [e1, g1, this]
/-- All labels times a power of 2. -/
theorem RepP.up {y : Int} (r : RepP m f 1048576 n ex) (h1 : -900 ≤ ex) (h2 : ex ≤ 900) (h3 : -60 ≤ y) (h4 : y ≤ 60) (hu : ∀ i, i < m → LdP (f i) y (u i)) : RepP m u 1048576 n (ex + y) := fun i hi => by
  obtain ⟨s, k, e1, e2, e3⟩ := r.at_ (by omega) hi
  have L := hu i hi
  rcases e3 with ⟨e3, z⟩ | ⟨e3, M, P, ef, c, hM, ev⟩
  · obtain ⟨t, Q, ef, d⟩ := z
    have := L.z t 0 Q ef d rfl
    exact .inl ⟨⟨t, Q, by rw [this, ef], d⟩, by rw [e1, e3, sg_0]⟩
  · have lk : k.log2 < 21 := (Nat.log2_lt e3).2 (by have : (2 : Nat) ^ 21 = 2097152 := rfl; omega)
    obtain ⟨M2, P2, c2, v2, hM2⟩ := can_ex (p := ex + y) e3 (by omega) (by omega) (by omega)
    have cl := c.lo
    have e4 := vE_shift (e := y) (by omega) (by omega) (by omega) (by omega) ev
    exact .inr ⟨s, M2, P2, k, L.v s M P M2 P2 ef c hM (by omega) (by omega) c2 (v2.trans e4), c2, hM2, e1, e2, v2.symm⟩
end
theorem oneP_flo {b : Nat} {K : Prop} (k : K) : oneP (flo b) K := k
/-- The costs of the whole numbers. -/
def nE (n : Nat → Int) (es : Nat → Ed) (i : Nat) : Ed := ⟨(es i).f, (es i).t, (es i).c, n i⟩
/-- The last step, as the walk has it. -/
def SclF (b3 : Nat) (c ex : Int) (R : Res → H → Prop) (g : H) : Prop :=
  ldI g ((bk b3).add 2) .i64 fun x144 =>
  ldI g ((bk b3).add 2) .i64 fun x145 =>
  T Tryz.prog F.scale_Back [.int .i64 c, .int .i64 (IntKind.i64.wrap (ex + x144))] g (rt (fun v146 h147 =>
  (sameAt 2 ((bk b3).add 2) g h147) ∧
  T Tryz.prog F.scale_Back [.int .i64 c, .int .i64 ex] h147 (rt (fun v148 h149 =>
  (sameAt 2 ((bk b3).add 2) h147 h149) ∧
  T Tryz.prog F.math_Ldexp [v148, .int .i64 x145] h149 (rt (fun v150 h151 =>
  binP Tryz.prog .eql 31 (.tmp 221) (.tmp 227) v146 v150 h151 fun r152 =>
  R (.ret r152) h151) (fun v153 h154 => R (.pan v153) h154))) (fun v155 h156 => R (.pan v155) h156))) (fun v157 h158 => R (.pan v157) h158))
section
variable {h : H}
theorem same_self {n : Nat} {a : Addr} {g : H} : sameAt n a g g := fun _ _ => rfl
theorem sclF {b3 : Nat} {c ex y : Int} {R : Res → H → Prop} {g : H} {vb vs : Value} (B3 : Bl g b3 [vb, vs, .int .i64 y]) (hc : -4503599627370496 ≤ c ∧ c ≤ 4503599627370496) (h1 : -900 ≤ ex) (h2 : ex ≤ 900) (h3 : -60 ≤ y) (h4 : y ≤ 60) (k : R (.ret (.bool true)) g) : SclF b3 c ex R g := by
  obtain ⟨s, a, rfl⟩ : ∃ s a, c = sgI s a := ⟨decide (c < 0), c.natAbs, by unfold sgI; by_cases h : c < 0 <;> simp [h] <;> omega⟩
  have ha : a < 9007199254740992 := by unfold sgI at hc; split at hc <;> omega
  have la : a ≠ 0 → a.log2 < 53 := fun h0 => (Nat.log2_lt h0).2 (by simpa using ha)
  have can : ∀ p : Int, -960 ≤ p → p ≤ 960 → a ≠ 0 → ∃ M P, Can M P ∧ vE M P = vE a p := fun p p1 p2 h0 => by
    have := la h0
    obtain ⟨M, P, c, v, _⟩ := can_ex (p := p) h0 ha (by omega) (by omega)
    exact ⟨M, P, c, v⟩
  refine ⟨_, B3.ld (i := 2) rfl, _, B3.ld (i := 2) rfl, ?_⟩
  rw [wi64 (by omega) (by omega)]
  refine (Back_T (s := s) ha (by omega) (by omega) (can _ (by omega) (by omega))).mono ?_
  rintro _ g1 ⟨w1, rfl, a0, a1, rfl⟩
  refine rt_ret ⟨same_self, (Back_T (s := s) ha (by omega) (by omega) (can _ (by omega) (by omega))).mono ?_⟩
  rintro _ g2 ⟨w2, rfl, b0, b1, rfl⟩
  have hw2 : w2 < 18446744073709551616 := by
    by_cases h0 : a = 0
    · rw [b0 h0]; omega
    · obtain ⟨M, P, c, v⟩ := can ex (by omega) (by omega) h0
      rw [b1 M P h0 c v]
      exact wd_lt (by have := c.rg_lt; omega)
  refine rt_ret ⟨same_self, (ldexp_T hw2 (by omega)).mono ?_⟩
  rintro _ g3 ⟨w3, rfl, L, rfl⟩
  refine rt_ret (feq_P ?_)
  have e : Ieee.double.order w1 w3 = some .eq := by
    by_cases h0 : a = 0
    · have c0 : Can 0 (-1074) := ⟨by omega, by omega, by omega, .inr rfl⟩
      have : w3 = w2 := L.z false 0 (-1074) (by rw [b0 h0]; rfl) c0 rfl
      rw [this, a0 h0, b0 h0]
      exact order_same (s := false) (t := false) c0 rfl c0 (fun _ => rfl)
    · obtain ⟨M, P, c, v⟩ := can ex (by omega) (by omega) h0
      obtain ⟨M1, P1, c1, v1⟩ := can (ex + y) (by omega) (by omega) h0
      have cl := c.lo
      have hM : M ≠ 0 := by rintro rfl; exact vE_ne (i := ex) h0 (by rw [← v]; simp [vE])
      have hv := vE_shift (e := y) (by omega) (by omega) (by omega) (by omega) v
      rw [a1 M1 P1 h0 c1 v1, L.v s M P M1 P1 (b1 M P h0 c v) c hM (by omega) (by omega) c1 (by rw [v1, hv])]
      exact order_same c1 rfl c1 (fun _ => rfl)
  rw [e]
  exact k
theorem WholeScaled_T {w : List Value} {n : Int} {m l lb : Nat} {es : Nat → Ed} {vb vs : Value} {bg : Nat → Int} {bf : Nat → Int} (G : GrA h w n m es) (hm : m ≤ 4398046511104) (Zb : RS h vb (va lb fun i => .int .u64 (bg i))) (hbg : ∀ i, i < lb → 0 ≤ bg i ∧ bg i < 18446744073709551616)
    (Zs : RS h vs (ints l bf)) (tb : Tab h) {y : Int} (hy : -9223372036854775808 ≤ y ∧ y ≤ 9223372036854775807) (kind : Int) :
    T Tryz.prog F.compasstop_WholeScaled [.agg ⟨w⟩, .agg ⟨[vb, vs, .int .i64 y]⟩, .int .i64 kind] h fun r h' => r = .ret (.bool true) ∧ Ext h h' := by
  refine E_compasstop_WholeScaled ?_
  unfold B_compasstop_WholeScaled
  refine new_bl ?_
  intro b1 q1 hb1 x1 B1_
  refine new_bl ?_
  intro b3 q3 hb3 x3 B3
  refine flows1_R.mono ?_
  rintro _ q6 ⟨rfl, x6⟩
  refine rt_ret ⟨_, rfl, ifP_of (fun h => by simp at h) (fun _ => ?_)⟩
  have B1_ := (B1_.ext x3).ext x6
  have B3 := B3.ext x6
  have x := (x1.trans' x3).trans' x6
  clear x1 x3 x6 hb1 hb3
  obtain ⟨gv, rfl, Gv⟩ := G.gs
  refine ⟨_, B1_.ld (i := 1) rfl, (Gv.ext x).len fun _ _ => ?_⟩
  -- the labels
  let f : Nat → Nat := fun i => if i < lb then (bg i).toNat else 0
  have hf : ∀ i, f i < 18446744073709551616 := fun i => by
    show (if i < lb then (bg i).toNat else 0) < _
    by_cases e : i < lb
    · rw [if_pos e]; have := hbg i e; omega
    · rw [if_neg e]; omega
  let I : (Value × Value × Int × Unit) → H → Nat → Prop := fun s g z => ∃ (j : Nat) (ow : Own) (u : Nat → Nat), s.2.2.1 = j ∧ j ≤ m ∧ z = m - j ∧ Bs q6 ow g ∧ S1 ow g 2 s.1 (floV j f) ∧ S1 ow g 3 s.2.1 (floV j u) ∧ ∀ i, i < j → LdP (f i) y (u i)
  refine ⟨fun p q => ∃ k, I p q k, rk I, rk_wf I, ⟨_, 0, fun _ => 0, fun _ => 0, rfl, by omega, rfl, Bs.start, S1.nil, S1.nil, fun i hi => by omega⟩, ?_⟩
  intro lv uv s g hI
  obtain ⟨j, ow, u, e1, hj, hz, bs, k2, k3, hu⟩ := mu_spec hI
  generalize hkk : mu I ((lv, uv, s, ()), g) = km at *
  change s = (j : Int) at e1
  subst e1
  change S1 ow g 2 lv _ at k2
  change S1 ow g 3 uv _ at k3
  have hlt : j < m → m - (j + 1) < mu I ((lv, uv, (j : Int), ()), g) := fun h => by rw [hkk, hz]; exact sub_dec h
  clear hI
  refine ifP_of (fun h1 => ?_) (fun h1 => ?_)
  · have hjm : j < m := by have := of_decide_eq_true h1; omega
    refine ⟨fun p q => q = g ∧ p.1 = flo (f j), ?_, ?_⟩
    · have B3g := B3.ext bs.ext
      have Zg := Zb.ext (x.trans' bs.ext)
      refine ⟨_, B3g.ld (i := 0) rfl, Zg.len (va_length _ _) fun _ _ => ifP_of (fun h2 => ?_) (fun h2 => ?_)⟩
      · have h2 : j < lb := by have := of_decide_eq_true h2; omega
        refine ⟨_, B3g.ld (i := 0) rfl, Zg.at (va_get h2) fun a26 e26 => ⟨bg j, e26, fromb_P ⟨rfl, ?_⟩⟩⟩
        show flo (bg j).toNat = flo (if j < lb then (bg j).toNat else 0)
        rw [if_pos h2]
      · have h2 : ¬ j < lb := by have := of_decide_eq_false h2; omega
        refine ⟨rfl, ?_⟩
        show flo 0 = flo (if j < lb then (bg j).toNat else 0)
        rw [if_neg h2]
    rintro x20 g' ⟨rfl, e⟩
    change x20 = flo (f j) at e
    subst e
    have l2 : (floV j f).length ≤ 17592186044416 := by unfold floV; rw [va_length]; omega
    refine oneP_flo ?_
    refine S1.push1 (x := flo (f j)) k2 (by simp [Value.oneCell']) (by omega) l2 ?_
    intro _ _ lv2 ow2 g2 _ _ F2 k2
    have bs := bs.fm F2 (by simp <;> omega)
    have k3 := k3.fm F2 (by simp <;> omega)
    have B3g := B3.ext bs.ext
    refine ⟨_, B3g.ld (i := 2) rfl, (ldexp_T (hf j) hy).mono ?_⟩
    rintro _ g3 ⟨r, rfl, L, rfl⟩
    refine rt_ret ?_
    have l3 : (floV j u).length ≤ 17592186044416 := by unfold floV; rw [va_length]; omega
    refine oneP_flo ?_
    refine S1.push1 (x := flo r) k3 (by simp [Value.oneCell']) (by omega) l3 ?_
    intro _ _ uv2 ow3 g4 _ _ F3 k3
    have bs := bs.fm F3 (by simp <;> omega)
    have k2 := k2.fm F3 (by simp <;> omega)
    rw [i64_inc (by omega)]
    refine mu_next (I := I) (k := m - (j + 1)) ⟨j + 1, ow3, fun i => if i = j then r else u i, rfl, hjm, rfl, bs, ?_, ?_, fun i hi => ?_⟩ (hlt hjm)
    · show S1 ow3 g4 2 lv2 (va (j + 1) fun i => flo (f i))
      unfold va
      rw [List.range_succ, List.map_append]; exact k2
    · show S1 ow3 g4 3 uv2 (va (j + 1) fun i => flo (if i = j then r else u i))
      unfold va
      rw [List.range_succ, List.map_append]
      have : List.map (fun i => flo (if i = j then r else u i)) (List.range j) = List.map (fun i => flo (u i)) (List.range j) := List.map_congr_left fun i hi => by
        rw [if_neg (by have := List.mem_range.1 hi; omega)]
      rw [this]
      simpa [floV, va] using k3
    · show LdP (f i) y (if i = j then r else u i)
      by_cases e : i = j
      · subst e; rw [if_pos rfl]; exact L
      · rw [if_neg e]; exact hu i (by omega)
  have hjm : j = m := by have := of_decide_eq_false h1; omega
  subst hjm
  clear hlt hkk hz h1 hj
  have Zl := RS.of_S1 k2
  have Zu := RS.of_S1 k3
  have B1_ := B1_.ext bs.ext
  have B3 := B3.ext bs.ext
  have x := x.trans' bs.ext
  clear k2 k3 bs
  clear_value f
  refine (Admit_T (fun i hi => x.cell (tb i hi)) Zl (fun i _ => hf i) hm (by omega) (by omega)).mono ?_
  intro r q7 hA
  rcases hA with ⟨c, a, rfl, hc, _, x7⟩ | ⟨ow7, nv, nn, ex, rfl, bs7, k20, ad⟩
  · refine rt_ret ⟨_, _, _, rfl, rfl, new_bl_st rfl rfl (by simp [Value.oneCell']) ?_⟩
    intro b50 q8 hb50 x8 B50
    have x := (x.trans' x7).trans' x8
    refine ⟨_, B50.ld (i := 0) rfl, ifP_of (fun _ => slcP_mk (ifP_of (fun _ => ?_) (fun h => by simp at h))) (fun h => by simp at h; omega)⟩
    refine ⟨_, B50.ld (i := 0) rfl, ifP_of (fun _ => ⟨rfl, x⟩) (fun h2 => ⟨_, B50.ld (i := 0) rfl, ifP_of (fun _ => ⟨rfl, x⟩) (fun h3 => ⟨_, B50.ld (i := 0) rfl, ?_, x⟩)⟩)⟩
    have h2 := of_decide_eq_false h2
    have h3 := of_decide_eq_false h3
    rw [decide_eq_true (by omega)]
  obtain ⟨rep, ex1, ex2, dd⟩ := ad
  refine rt_ret ⟨_, _, _, rfl, rfl, new_bl_st rfl rfl (by simp [Value.oneCell']) ?_⟩
  intro b50 q8 hb50 x8 B50
  refine ⟨_, B50.ld (i := 0) rfl, ifP_of (fun h => by simp at h) (fun _ => ?_)⟩
  have xa := bs7.ext.trans' x8
  have Zn := (RS.of_S1 k20).ext x8
  have Zl := Zl.ext xa
  have Zu := Zu.ext xa
  have B1_ := B1_.ext xa
  have B3 := B3.ext xa
  have x := x.trans' xa
  clear k20 bs7 x8 hb50 B50 xa
  refine B1_.ldN rfl ((Copy_R ((Gv.ext x).gr n) (by omega)).mono ?_)
  rintro _ q9 ⟨cv, ow, rfl, bs, k1⟩
  refine rt_ret ⟨_, rfl, rfl, new_bl_st rfl rfl (by
    intro z hz
    simp only [List.mem_cons, List.not_mem_nil, or_false] at hz
    rcases hz with rfl | rfl
    · rfl
    · exact slc_one k1.isS) ?_⟩
  intro b64 q10 hb64 x10 B64
  have k14 : B1 (own1 ow b64 14) q10 14 b64 _ := B1.new B64
  have bs := bs.nw (j := 14) x10 hb64
  have k1 := k1.nw (j := 14) x10 hb64
  generalize own1 ow b64 14 = ow at *
  clear hb64 x10 B64
  refine (Zn.ext bs.ext).len (ints_length _ _) fun _ _ => ?_
  let I2 : (Int × Unit) → H → Nat → Prop := fun s g z => ∃ (i : Nat) (ow : Own), s.1 = i ∧ i ≤ j ∧ z = j - i ∧ Bs q8 ow g ∧ B1 ow g 14 b64 [.int .i64 n, cv] ∧ S4 ow g 1 cv j (fun q => if q < i then nE nn es q else es q)
  refine ⟨fun p q => ∃ k, I2 p q k, rk I2, rk_wf I2, ⟨_, 0, ow, rfl, by omega, rfl, bs, k14, k1.congr fun i hi => by rw [if_neg (by omega)]⟩, ?_⟩
  clear bs k14 k1
  intro s g11 hI
  obtain ⟨i, ow, e1, hi, hz, bs, k14, k1⟩ := mu_spec hI
  generalize hkk : mu I2 ((s, ()), g11) = km at *
  change s = (i : Int) at e1
  subst e1
  have hlt : i < j → j - (i + 1) < mu I2 (((i : Int), ()), g11) := fun h => by rw [hkk, hz]; exact sub_dec h
  clear hI
  refine ifP_of (fun h1 => ?_) (fun h1 => ?_)
  · have hij : i < j := by have := of_decide_eq_true h1; omega
    obtain ⟨s, k, e1, e2, e3⟩ := rep.at_ (by omega) hij
    refine (Zn.ext bs.ext).rdI hij ((Zl.ext bs.ext).at (va_get hij) fun a76 e76 => ⟨_, e76, ?_⟩)
    rw [e1]
    refine (Back_T (s := s) (by omega) (by omega) (by omega) (fun h0 => by
      rcases e3 with ⟨e3, _⟩ | ⟨_, M, P, _, c, _, ev⟩
      · exact absurd e3 h0
      · exact ⟨M, P, c, ev.symm⟩)).mono ?_
    rintro _ g12 ⟨wb, rfl, b0, b1, rfl⟩
    refine rt_ret ⟨same_self, fne_P ?_⟩
    have e : Ieee.double.order wb (f i) = some .eq := by
      rcases e3 with ⟨e3, t, Q, ef, d⟩ | ⟨e3, M, P, ef, c, hM, ev⟩
      · rw [b0 e3, ef]
        exact order_same (s := false) (⟨by omega, by omega, by omega, .inr rfl⟩ : Can 0 (-1074)) (by unfold vE; rw [Nat.zero_mul, Nat.zero_mul]) d (fun h => absurd rfl h)
      · rw [b1 M P e3 c ev.symm, ef]
        exact order_same c rfl c (fun _ => rfl)
    rw [e]
    refine ⟨_, k14.ld (j := 1) rfl, k1.setK hij fun g13 F13 k1 => ?_⟩
    have bs := bs.fm F13 (by simp <;> omega)
    have k14 := k14.fm F13 (by simp <;> omega)
    rw [i64_inc (by omega)]
    refine mu_next (I := I2) (k := j - (i + 1)) ⟨i + 1, ow, rfl, hij, rfl, bs, k14, k1.congr fun q hq => ?_⟩ (hlt hij)
    unfold cstE
    dsimp only
    by_cases e : q = i
    · subst e
      rw [if_pos rfl, if_pos (by omega), if_neg (by omega)]
      unfold nE
      rw [e1]
    · rw [if_neg e]
      by_cases e4 : q < i
      · rw [if_pos e4, if_pos (by omega)]
      · rw [if_neg e4, if_neg (by omega)]
  have hij : i = j := by have := of_decide_eq_false h1; omega
  have k1 : S4 ow g11 1 cv j (nE nn es) := k1.congr fun q hq => by rw [if_pos (by omega)]
  clear hlt hkk hz h1 hi hij
  have B3 := B3.ext bs.ext
  have Zn := Zn.ext bs.ext
  have Zl := Zl.ext bs.ext
  have Zu := Zu.ext bs.ext
  have x := x.trans' bs.ext
  have Gh := k1.gs
  refine k14.ldN rfl ⟨_, B3.ld (i := 1) rfl, (MSolve_T (Gh.gr n) (Zs.ext x) kind).mono ?_⟩
  rintro _ q12 ⟨x12, hr⟩
  have B3 := B3.ext x12
  have Zn := Zn.ext x12
  have Zl := Zl.ext x12
  have Zu := Zu.ext x12
  have x := x.trans' x12
  clear Gh k14 k1 bs B1_
  rcases hr with ⟨hw2, rfl⟩ | ⟨hw2, rfl, gd2, hr⟩
  · refine rt_ret ⟨_, rfl, _, _, _, rfl, new_bl_st rfl rfl plZ_one ?_⟩
    intro b95 q13 hb95 x13 B95
    exact ifP_of (fun _ => ⟨rfl, x.trans' x13⟩) (fun h => absurd (by simpa using h) hw2)
  rcases hr with ⟨own, vs_, von, vp, fl, p, rfl, bs2, Pl⟩ | ⟨_, sd2, rfl, _, _, _⟩
  rotate_left
  · refine rt_ret ⟨_, rfl, _, _, _, rfl, new_bl_st rfl rfl plZ_one ?_⟩
    intro b95 q13 hb95 x13 B95
    exact ifP_of (fun _ => ⟨rfl, x.trans' x13⟩) (fun h => by simp at h)
  refine rt_ret ⟨_, rfl, _, _, _, rfl, new_bl_st rfl rfl Pl.one ?_⟩
  intro b95 q13 hb95 x13 B95
  refine ifP_of (fun h => by simp at h) (fun _ => ?_)
  have Zo := (RS.of_S1 Pl.o).ext x13
  have B3 := B3.ext x13
  have Zn := Zn.ext x13
  have Zl := Zl.ext x13
  have Zu := Zu.ext x13
  have x := x.trans' x13
  have m1 := gd2.m1
  have kb : ∀ i, i < j → -1048576 ≤ ckE (nE nn es) i ∧ ckE (nE nn es) i ≤ 1048576 := fun i hi => gd2.k i hi
  have fb : ∀ i, i < j → 0 ≤ fl i ∧ fl i ≤ 1048576 := fun i hi => by
    have a := Pl.pl.cp i hi
    have b := (gd2.c i hi).2
    have : cpE (nE nn es) i ≤ 1048576 := b
    omega
  have tbd : ∀ q, q ≤ j → -(q * (1048576 * 1048576) : Int) ≤ totC q (ckE (nE nn es)) fl ∧ totC q (ckE (nE nn es)) fl ≤ q * (1048576 * 1048576) := fun q hq =>
    totC_bd (by omega) (by omega) (fun i hi => kb i (by omega)) (fun i hi => fb i (by omega))
  refine Zn.len (ints_length _ _) fun _ _ => ?_
  let I3 : (Int × Int × Unit) → H → Nat → Prop := fun s g z => ∃ q : Nat, s.2.1 = q ∧ q ≤ j ∧ z = j - q ∧ s.1 = totC q (ckE (nE nn es)) fl ∧ g = q13
  refine ⟨fun p q => ∃ k, I3 p q k, rk I3, rk_wf I3, ⟨_, 0, rfl, by omega, rfl, rfl, rfl⟩, ?_⟩
  intro sm s g14 hI
  obtain ⟨q, e1, hq, hz, e2, e3⟩ := mu_spec hI
  generalize hkk : mu I3 ((sm, s, ()), g14) = km at *
  change s = (q : Int) at e1
  change sm = totC q (ckE (nE nn es)) fl at e2
  subst e1 e2 e3
  have hlt : q < j → j - (q + 1) < mu I3 ((totC q (ckE (nE nn es)) fl, (q : Int), ()), g14) := fun h => by rw [hkk, hz]; exact sub_dec h
  clear hI
  refine ifP_of (fun h1 => ?_) (fun h1 => ?_)
  · have hqj : q < j := by have := of_decide_eq_true h1; omega
    have t1 := tbd q (by omega)
    have t2 := tbd (q + 1) (by omega)
    have p1 := kb q hqj
    have p2 := fb q hqj
    refine Zn.rdI hqj ⟨_, B95.ld (i := 1) rfl, Zo.rdI hqj ?_⟩
    have ep : ∀ (a b : Int), -1048576 ≤ a ∧ a ≤ 1048576 → 0 ≤ b ∧ b ≤ 1048576 → -1099511627776 ≤ a * b ∧ a * b ≤ 1099511627776 := fun a b ha hb => by
      have h1 : a * b ≤ 1048576 * b := Int.mul_le_mul_of_nonneg_right ha.2 hb.1
      have h2 : -1048576 * b ≤ a * b := Int.mul_le_mul_of_nonneg_right ha.1 hb.1
      omega
    have ew : IntKind.i64.wrap (totC q (ckE (nE nn es)) fl + IntKind.i64.wrap (nn q * fl q)) = totC (q + 1) (ckE (nE nn es)) fl := by
      have h1 := ep (nn q) (fl q) p1 p2
      have e : totC (q + 1) (ckE (nE nn es)) fl = totC q (ckE (nE nn es)) fl + nn q * fl q := rfl
      rw [wi64 (x := nn q * fl q) (by omega) (by omega), e]
      exact wi64 (by omega) (by omega)
    rw [ew, i64_inc (by omega)]
    exact mu_next (I := I3) (k := j - (q + 1)) ⟨q + 1, rfl, hqj, rfl, rfl, rfl⟩ (hlt hqj)
  have hqj : q = j := by have := of_decide_eq_false h1; omega
  subst hqj
  clear hlt hkk hz h1 hq
  have tt := tbd q (Nat.le_refl q)
  generalize totC q (ckE (nE nn es)) fl = c at *
  refine ⟨fun _ g => g = g14 ∧ -900 ≤ ex ∧ ex ≤ 900 ∧ -60 ≤ y ∧ y ≤ 60, ?_, ?_⟩
  · have dn : (fun (r : Res) (h' : H) => r = .ret (.bool true) ∧ Ext h h') (.ret (.bool (decide (c = c)))) g14 := ⟨by rw [decide_eq_true rfl], x⟩
    refine ifP_of (fun h => by simp at h) (fun _ => ifP_of (fun _ => dn) (fun h2 => ifP_of (fun _ => dn) (fun h3 => ⟨_, B3.ld (i := 2) rfl, ifP_of (fun _ => dn) (fun h4 => ⟨_, B3.ld (i := 2) rfl, ifP_of (fun _ => dn) (fun h5 => ?_)⟩)⟩)))
    have h2 := of_decide_eq_false h2
    have h3 := of_decide_eq_false h3
    have h4 := of_decide_eq_false h4
    have h5 := of_decide_eq_false h5
    exact ⟨rfl, by omega, by omega, by omega, by omega⟩
  rintro g15 ⟨rfl, g1, g2, g3, g4⟩
  have rep2 := rep.up g1 g2 g3 g4 hu
  refine (Admit_T (fun i hi => x.cell (tb i hi)) Zu (fun i hi => (hu i hi).lt) hm (by omega) (by omega)).mono ?_
  intro r q16 hA
  rcases hA with ⟨_, _, _, _, no, _⟩ | ⟨ow16, mv, mm, exu, rfl, bs16, k20, ad2⟩
  · exact absurd ⟨nn, ex + y, by omega, rep2⟩ no
  obtain ⟨rep3, ex3, ex4, dd2⟩ := ad2
  refine rt_ret ⟨_, _, _, rfl, rfl, new_bl_st rfl rfl (by simp [Value.oneCell']) ?_⟩
  intro b120 q17 hb120 x17 B120
  have xa := bs16.ext.trans' x17
  have Zm := (RS.of_S1 k20).ext x17
  have Zn := Zn.ext xa
  have B3 := B3.ext xa
  have x := x.trans' xa
  obtain ⟨same, samex⟩ := rep2.same rep3 (by omega) (by omega) (by omega) (dd.imp (fun h => h.2) id) (dd2.imp (fun h => h.2) id)
  refine ⟨_, B120.ld (i := 0) rfl, ifP_of (fun h => by simp at h) (fun _ => Zm.len (ints_length _ _) fun _ _ => Zn.len (ints_length _ _) fun _ _ => ifP_of (fun h => by simp at h) (fun _ => Zm.len (ints_length _ _) fun _ _ => ?_))⟩
  let I4 : (Bool × Int × Unit) → H → Nat → Prop := fun s g z => ∃ i : Nat, s.2.1 = i ∧ i ≤ q ∧ z = q - i ∧ g = q17 ∧ (s.1 = true → ∃ i, i < q ∧ nn i ≠ 0)
  refine ⟨fun p q => ∃ k, I4 p q k, rk I4, rk_wf I4, ⟨_, 0, rfl, by omega, rfl, rfl, fun h => (by cases h)⟩, ?_⟩
  intro any s g18 hI
  obtain ⟨i, e1, hi, hz, e2, ha⟩ := mu_spec hI
  generalize hkk : mu I4 ((any, s, ()), g18) = km at *
  change s = (i : Int) at e1
  subst e1 e2
  change any = true → _ at ha
  have hlt : i < q → q - (i + 1) < mu I4 ((any, (i : Int), ()), g18) := fun h => by rw [hkk, hz]; exact sub_dec h
  clear hI
  refine ifP_of (fun h1 => ?_) (fun h1 => ?_)
  · have hiq : i < q := by have := of_decide_eq_true h1; omega
    have es_ := same i hiq
    refine Zm.at (ints_get hiq) fun a138 e138 => Zn.at (ints_get hiq) fun a139 e139 => ⟨_, e138, _, e139, ?_⟩
    rw [i64_inc (by omega), es_]
    refine ifP_of (fun h => by simp at h) (fun _ => ifP_of (fun h3 => ?_) (fun h3 => ?_))
    · exact mu_next (I := I4) (k := q - (i + 1)) ⟨i + 1, rfl, hiq, rfl, rfl, fun _ => ha h3⟩ (hlt hiq)
    · refine Zm.rdI hiq ?_
      refine mu_next (I := I4) (k := q - (i + 1)) ⟨i + 1, rfl, hiq, rfl, rfl, fun h4 => ⟨i, hiq, ?_⟩⟩ (hlt hiq)
      have h4 : (!decide (mm i = 0)) = true := h4
      rw [es_] at h4
      simpa using h4
  have cb : -4503599627370496 ≤ c ∧ c ≤ 4503599627370496 := by omega
  refine ifP_of (fun h3 => ?_) (fun h3 => ?_)
  · have fin : SclF b3 c ex (fun r h' => r = .ret (.bool true) ∧ Ext h h') g18 := sclF B3 cb g1 g2 g3 g4 ⟨rfl, x⟩
    exact fin
  · have h3 : any = true := by simpa using h3
    have e := samex (ha h3)
    refine ⟨_, B3.ld (i := 2) rfl, ?_⟩
    have ew : IntKind.i64.wrap (ex + y) = ex + y := wi64 (by omega) (by omega)
    refine ifP_of (fun _ => ?_) (fun h => absurd (e.trans ew.symm) (of_decide_eq_false h))
    have fin : SclF b3 c ex (fun r h' => r = .ret (.bool true) ∧ Ext h h') g18 := sclF B3 cb g1 g2 g3 g4 ⟨rfl, x⟩
    exact fin
end

end Go.Proofs.YtjlojokockfapaaGreatDoor

namespace Go.Proofs.YtjlojokockfapaaGreatDoor
open Go Go.ChangeShapes Go.WideShapes Go.Deep Go.RowKit
set_option linter.unusedVariables false

/-- What a world's heap holds, all of it. -/
def hOf (w : World) : H := fun b => w.heap[b]?
theorem hOf_sub (w : World) : Sub (hOf w) w := fun _ _ h => h
theorem hOf_cell {w : World} {a : Addr} {v : Value} (h : w.cell? a = some v) : hcell (hOf w) a = some v := by
  exact h

theorem T.row {P : Program} {f : FuncId} {args : List Value} {w : World} (t : T P f args (hOf w) fun r h' => r = .ret (.bool true) ∧ Ext (hOf w) h') :
    Calls P f args.toArray w fun e w' => e = .returned (.bool true) ∧ Below w.heap.size w w' := by
  refine (t.2 w (hOf_sub w)).mono ?_
  rintro e w' ⟨h', hs, st, hq⟩
  have hr : e = .returned (.bool true) ∧ Ext (hOf w) h' := by
    split at hq
    · obtain ⟨h1, h2⟩ := hq
      cases h1
      exact ⟨rfl, h2⟩
    · obtain ⟨h1, _⟩ := hq
      cases h1
    · exact hq.elim
  refine ⟨hr.1, ⟨st.same.1, st.same.2.1, st.same.2.2, st.size, fun k hk => ?_⟩⟩
  have e1 : w.heap[k]? = some (w.heap[k]'hk) := Array.getElem?_eq_getElem hk
  rw [e1]
  exact hs k _ (hr.2 k _ e1)

def intFields (P : Program) (fs : Array Field) : Bool := (List.range fs.size).all fun i => match fs[i]? with
  | some f => match P.underlying f.type with
    | some (.int .i64) => true
    | _ => false
  | none => false
theorem intFields_of {P : Program} {fs : Array Field} (h : intFields P fs = true) : ∀ (i : Nat) (f : Field), fs[i]? = some f → P.underlying f.type = some (.int .i64) := by
  intro i f hi
  have hlt : i < fs.size := (Array.getElem?_eq_some_iff.1 hi).1
  have := List.all_eq_true.1 h i (List.mem_range.2 hlt)
  simp only [hi] at this
  split at this
  · assumption
  · cases this

end Go.Proofs.YtjlojokockfapaaGreatDoor

namespace Go.Proofs.YtjlojokockfapaaGreatDoor
open Go Go.ChangeShapes Go.WideShapes Go.Deep Go.RowKit
set_option linter.unusedVariables false

section
variable {K : Type} {enc : TypeId × Value → K} {P : Program} {w : World} {base : Nat} {spare : Nat → Bool} {held : Bool}

theorem okWide_array {r : Reach} {b0 : Nat} {t e : TypeId} {v : Value} {n : Nat} (ht : P.underlying t = some (.array n e)) (h : Value.okWide P w r b0 t v) : ∃ cs, v = .agg cs ∧ cs.size = P.cellsOf t := by
  simp only [Value.okWide, ht] at h
  obtain ⟨cs, h1, h2, _⟩ := h
  exact ⟨cs, h1, h2⟩

/-- A slice of records of whole numbers, wherever it lies. -/
theorem open_recsN {t e : TypeId} {fs : Array Field} {B fuel : Nat} {cs : List Value} {x : DataW K × List MemPlace}
    (ht : P.underlying t = some (.slice e)) (he : P.underlying e = some (.struct fs)) (hone : oneCellFields P fs = true) (hint : intFields P fs = true) (hC : P.cellsOf e = fs.size) (hB : P.bytesOf e = B)
    (hsz : ∀ el sp, x.1 = .slice el sp → (el.length + sp.length) * B ≤ 140737488351232)
    (hf : DataW.trod enc P w base spare held fuel t cs = some x) :
    ∃ a len cap, cs = [.slice a len cap] ∧ len * B ≤ 140737488351232 ∧ ∀ i, i < len → ∃ ad, a = some ad ∧ ∀ j, j < fs.size → ∃ n : Int, w.cell? (ad.add (i * fs.size + j)) = some (.int .i64 n) := by
  rcases open_slice ht hf with ⟨hcs, _⟩ | ⟨x', l, c, m, n, D, Pl, hcs, _, hl, _, hm, hx, hi⟩
  · exact ⟨none, 0, 0, hcs, by simp, fun i hi => by omega⟩
  · have hlm : l ≤ m := by
      rw [hm]
      split
      · exact hl
      · exact Nat.le_refl _
    refine ⟨some x', l, c, hcs, ?_, fun i hil => ⟨x', rfl, fun j hj => ?_⟩⟩
    · have z := hsz _ _ (by rw [hx])
      simp only [List.length_map, List.length_range] at z
      calc l * B ≤ (l + (m - l)) * B := Nat.mul_le_mul_right _ (by omega)
        _ ≤ _ := z
    · obtain ⟨cs', hc, ht'⟩ := hi i (by omega)
      rw [hC] at hc
      obtain ⟨ys, n', _, _, hlen, hyl, hg⟩ := DataW.trod_struct he ht'
      obtain ⟨_, hcl, hat⟩ := World.cells?_some hc
      have hfj : fs[j]? = some (fs[j]'hj) := Array.getElem?_eq_getElem hj
      obtain ⟨ho, hk⟩ := hone_of hone j _ hfj
      have hw1 := hg j _ hfj
      rw [ho, hk] at hw1
      have one : (cs'.drop j).take 1 = [cs'[j]'(by omega)] := by
        rw [List.drop_eq_getElem_cons (by omega)]
        rfl
      rw [one, List.getElem?_eq_getElem (by omega)] at hw1
      obtain ⟨z, hz, _, _⟩ := DataW.trod_int (intFields_of hint j _ hfj) hw1
      refine ⟨z, ?_⟩
      rw [← Go.Deep.add_add, hat j hj, List.getElem?_eq_getElem (by omega)]
      simpa using hz

theorem open_pair {r : Reach} {b0 : Nat} {t e : TypeId} {v : Value} {d : DataW K} {ps : List MemPlace} (ht : P.underlying t = some (.array 2 e)) (he : P.underlying e = some (.int .i64)) (hC : P.cellsOf t = 2) (hCe : P.cellsOf e = 1)
    (hv : Value.okWide P w r b0 t v) (h : DataW.Trod enc P w base spare held t v d ps) : ∃ s u : Int, v = .agg ⟨[.int .i64 s, .int .i64 u]⟩ := by
  obtain ⟨cs, rfl, hsz⟩ := okWide_array ht hv
  obtain ⟨l⟩ := cs
  match l, hsz.trans hC with
  | [c0, c1], _ =>
    obtain ⟨fuel, hf⟩ := h
    obtain ⟨xs, m, _, _, _, hl, hg⟩ := DataW.trod_array ht hf
    have h0 := hg 0 (by omega)
    have h1 := hg 1 (by omega)
    rw [hCe] at h0 h1
    rw [List.getElem?_eq_getElem (by omega)] at h0 h1
    have h0 : DataW.trod enc P w base spare held m e [c0] = _ := h0
    have h1 : DataW.trod enc P w base spare held m e [c1] = _ := h1
    obtain ⟨s, hs, _⟩ := DataW.trod_int he h0
    obtain ⟨u, hu, _⟩ := DataW.trod_int he h1
    simp only [List.cons.injEq, and_true] at hs hu
    subst hs hu
    exact ⟨s, u, rfl⟩

theorem open_struct2 {r : Reach} {b0 : Nat} {t : TypeId} {f0 f1 : Field} {v : Value} {d : DataW K} {p : List MemPlace} (hs : P.underlying t = some (.struct #[f0, f1])) (hone : oneCellFields P #[f0, f1] = true) (hC : P.cellsOf t = 2)
    (hv : Value.okWide P w r b0 t v) (h : DataW.Trod enc P w base spare held t v d p) :
    ∃ (v0 v1 : Value) (y0 y1 : DataW K × List MemPlace) (n : Nat), v = .agg ⟨[v0, v1]⟩ ∧ d = .agg [y0.1, y1.1] ∧
      DataW.trod enc P w base spare held n f0.type [v0] = some y0 ∧ DataW.trod enc P w base spare held n f1.type [v1] = some y1 := by
  obtain ⟨cs, rfl, hsz⟩ := okWide_struct hs hv
  obtain ⟨l⟩ := cs
  match l, hsz.trans hC with
  | [c0, c1], _ =>
    obtain ⟨fuel, hf⟩ := h
    obtain ⟨xs, n, _, hx, _, hlen, hg⟩ := DataW.trod_struct hs hf
    obtain ⟨o0, k0⟩ := hone_of hone 0 f0 rfl
    obtain ⟨o1, k1⟩ := hone_of hone 1 f1 rfl
    match xs, hlen with
    | [y0, y1], _ =>
      simp only [Prod.mk.injEq] at hx
      exact ⟨c0, c1, y0, y1, n, rfl, by simpa using hx.1, by simpa [Value.cells, o0, k0] using hg 0 f0 rfl, by simpa [Value.cells, o1, k1] using hg 1 f1 rfl⟩
end

/-- Edges read are edges. -/
theorem Gs.of_cells {W : World} {a : Option Addr} {len cap : Nat} (h : ∀ i, i < len → ∃ ad, a = some ad ∧ ∀ j, j < 4 → ∃ n : Int, W.cell? (ad.add (i * 4 + j)) = some (.int .i64 n)) :
    ∃ es, Gs (hOf W) (.slice a len cap) len es := by
  have h2 : ∀ i, ∃ o : Ed, i < len → ∃ ad, a = some ad ∧ hcells (hOf W) (ad.add (i * 4)) o.vs := by
    intro i
    by_cases hi : i < len
    · obtain ⟨ad, rfl, hc⟩ := h i hi
      obtain ⟨n0, h0⟩ := hc 0 (by decide)
      obtain ⟨n1, h1⟩ := hc 1 (by decide)
      obtain ⟨n2, h2⟩ := hc 2 (by decide)
      obtain ⟨n3, h3⟩ := hc 3 (by decide)
      refine ⟨⟨n0, n1, n2, n3⟩, fun _ => ⟨ad, rfl, fun j v hj => ?_⟩⟩
      rw [Go.Deep.add_add]
      match j, hj with
      | 0, hj => cases hj; exact hOf_cell h0
      | 1, hj => cases hj; exact hOf_cell h1
      | 2, hj => cases hj; exact hOf_cell h2
      | 3, hj => cases hj; exact hOf_cell h3
    · exact ⟨⟨0, 0, 0, 0⟩, fun h => absurd h hi⟩
  exact ⟨fun i => Classical.choose (h2 i), a, cap, rfl, fun i hi => Classical.choose_spec (h2 i) hi⟩

end Go.Proofs.YtjlojokockfapaaGreatDoor

namespace Go.Proofs.YtjlojokockfapaaGreatDoor
open Go Go.ChangeShapes Go.WideShapes Go.Deep Go.RowKit
set_option linter.unusedVariables false

theorem wf_rng {n : Int} (h : (Lit.int .i64 n).wf = true) : -9223372036854775808 ≤ n ∧ n ≤ 9223372036854775807 := by
  have h2 : (decide (IntKind.i64.min ≤ n) && decide (n ≤ IntKind.i64.max)) = true := h
  rw [Bool.and_eq_true] at h2
  have a := of_decide_eq_true h2.1
  have b := of_decide_eq_true h2.2
  exact ⟨a, b⟩
section
variable {K : Type} {enc : TypeId × Value → K} {P : Program} {w : World} {base : Nat} {spare : Nat → Bool} {held : Bool}

/-- A slice of whole numbers, wherever it lies. -/
theorem open_intsN {t e : TypeId} {B fuel : Nat} {cs : List Value} {x : DataW K × List MemPlace}
    (ht : P.underlying t = some (.slice e)) (he : P.underlying e = some (.int .i64)) (hC : P.cellsOf e = 1) (hB : P.bytesOf e = B)
    (hsz : ∀ el sp, x.1 = .slice el sp → (el.length + sp.length) * B ≤ 140737488351232)
    (hf : DataW.trod enc P w base spare held fuel t cs = some x) :
    ∃ a len cap, cs = [.slice a len cap] ∧ len * B ≤ 140737488351232 ∧ ∀ i, i < len → ∃ ad, a = some ad ∧ ∃ n : Int, w.cell? (ad.add (i * 1)) = some (.int .i64 n) ∧ -9223372036854775808 ≤ n ∧ n ≤ 9223372036854775807 := by
  rcases open_slice ht hf with ⟨hcs, _⟩ | ⟨x', l, c, m, n, D, Pl, hcs, _, hl, _, hm, hx, hi⟩
  · exact ⟨none, 0, 0, hcs, by simp, fun i hi => by omega⟩
  · have hlm : l ≤ m := by
      rw [hm]
      split
      · exact hl
      · exact Nat.le_refl _
    refine ⟨some x', l, c, hcs, ?_, fun i hil => ⟨x', rfl, ?_⟩⟩
    · have z := hsz _ _ (by rw [hx])
      simp only [List.length_map, List.length_range] at z
      calc l * B ≤ (l + (m - l)) * B := Nat.mul_le_mul_right _ (by omega)
        _ ≤ _ := z
    · obtain ⟨cs', hc, ht'⟩ := hi i (by omega)
      rw [hC] at hc
      obtain ⟨z, hz, _, hwf⟩ := DataW.trod_int he ht'
      obtain ⟨_, hcl, hat⟩ := World.cells?_some hc
      refine ⟨z, ?_, wf_rng hwf⟩
      have := hat 0 (by omega)
      rw [hz] at this
      simpa [Addr.add] using this
end

/-- Numbers read are numbers. -/
theorem RS.of_cells {W : World} {a : Option Addr} {len cap : Nat} (h : ∀ i, i < len → ∃ ad, a = some ad ∧ ∃ n : Int, W.cell? (ad.add (i * 1)) = some (.int .i64 n) ∧ -9223372036854775808 ≤ n ∧ n ≤ 9223372036854775807) :
    ∃ bf : Nat → Int, RS (hOf W) (.slice a len cap) (ints len bf) ∧ ∀ i, i < len → -9223372036854775808 ≤ bf i ∧ bf i ≤ 9223372036854775807 := by
  have h2 : ∀ i, ∃ o : Int, i < len → ∃ ad, a = some ad ∧ hcell (hOf W) (ad.add (i * 1)) = some (.int .i64 o) ∧ -9223372036854775808 ≤ o ∧ o ≤ 9223372036854775807 := by
    intro i
    by_cases hi : i < len
    · obtain ⟨ad, rfl, n, hn, hr⟩ := h i hi
      exact ⟨n, fun _ => ⟨ad, rfl, hOf_cell hn, hr⟩⟩
    · exact ⟨0, fun h => absurd h hi⟩
  refine ⟨fun i => Classical.choose (h2 i), ⟨a, cap, by rw [ints_length], fun j x hj => ?_⟩, fun i hi => by obtain ⟨_, _, _, hr⟩ := Classical.choose_spec (h2 i) hi; exact hr⟩
  have hl := (List.getElem?_eq_some_iff.1 hj).1
  rw [ints_length] at hl
  rw [ints_get hl] at hj
  cases hj
  obtain ⟨ad, e, hc, _⟩ := Classical.choose_spec (h2 j) hl
  exact ⟨ad, e, hc⟩

section
variable {K : Type} {enc : TypeId × Value → K} {P : Program} {w : World} {base : Nat} {spare : Nat → Bool} {held : Bool}
theorem open_struct3 {r : Reach} {b0 : Nat} {t : TypeId} {f0 f1 f2 : Field} {v : Value} {d : DataW K} {p : List MemPlace} (hs : P.underlying t = some (.struct #[f0, f1, f2])) (hone : oneCellFields P #[f0, f1, f2] = true) (hC : P.cellsOf t = 3)
    (hv : Value.okWide P w r b0 t v) (h : DataW.Trod enc P w base spare held t v d p) :
    ∃ (v0 v1 v2 : Value) (y0 y1 y2 : DataW K × List MemPlace) (n : Nat), v = .agg ⟨[v0, v1, v2]⟩ ∧ d = .agg [y0.1, y1.1, y2.1] ∧
      DataW.trod enc P w base spare held n f0.type [v0] = some y0 ∧ DataW.trod enc P w base spare held n f1.type [v1] = some y1 ∧ DataW.trod enc P w base spare held n f2.type [v2] = some y2 := by
  obtain ⟨cs, rfl, hsz⟩ := okWide_struct hs hv
  obtain ⟨l⟩ := cs
  match l, hsz.trans hC with
  | [c0, c1, c2], _ =>
    obtain ⟨fuel, hf⟩ := h
    obtain ⟨xs, n, _, hx, _, hlen, hg⟩ := DataW.trod_struct hs hf
    obtain ⟨o0, k0⟩ := hone_of hone 0 f0 rfl
    obtain ⟨o1, k1⟩ := hone_of hone 1 f1 rfl
    obtain ⟨o2, k2⟩ := hone_of hone 2 f2 rfl
    match xs, hlen with
    | [y0, y1, y2], _ =>
      simp only [Prod.mk.injEq] at hx
      exact ⟨c0, c1, c2, y0, y1, y2, n, rfl, by simpa using hx.1, by simpa [Value.cells, o0, k0] using hg 0 f0 rfl, by simpa [Value.cells, o1, k1] using hg 1 f1 rfl, by simpa [Value.cells, o2, k2] using hg 2 f2 rfl⟩
end

end Go.Proofs.YtjlojokockfapaaGreatDoor

namespace Go.Proofs.YtjlojokockfapaaGreatDoor
open Go Go.ChangeShapes Go.WideShapes Go.Deep Go.RowKit
set_option linter.unusedVariables false

theorem wf_rngU {n : Int} (h : (Lit.int .u64 n).wf = true) : 0 ≤ n ∧ n < 18446744073709551616 := by
  have h2 : (decide (IntKind.u64.min ≤ n) && decide (n ≤ IntKind.u64.max)) = true := h
  rw [Bool.and_eq_true] at h2
  have a : (0 : Int) ≤ n := of_decide_eq_true h2.1
  have b : n ≤ 18446744073709551615 := of_decide_eq_true h2.2
  omega
section
variable {K : Type} {enc : TypeId × Value → K} {P : Program} {w : World} {base : Nat} {spare : Nat → Bool} {held : Bool}
theorem open_words {t e : TypeId} {fuel : Nat} {cs : List Value} {x : DataW K × List MemPlace}
    (ht : P.underlying t = some (.slice e)) (he : P.underlying e = some (.int .u64)) (hC : P.cellsOf e = 1)
    (hf : DataW.trod enc P w base spare held fuel t cs = some x) :
    ∃ a len cap, cs = [.slice a len cap] ∧ ∀ i, i < len → ∃ ad, a = some ad ∧ ∃ n : Int, w.cell? (ad.add (i * 1)) = some (.int .u64 n) ∧ 0 ≤ n ∧ n < 18446744073709551616 := by
  rcases open_slice ht hf with ⟨hcs, _⟩ | ⟨x', l, c, m, n, D, Pl, hcs, _, hl, _, hm, hx, hi⟩
  · exact ⟨none, 0, 0, hcs, fun i hi => by omega⟩
  · have hlm : l ≤ m := by
      rw [hm]
      split
      · exact hl
      · exact Nat.le_refl _
    refine ⟨some x', l, c, hcs, fun i hil => ⟨x', rfl, ?_⟩⟩
    obtain ⟨cs', hc, ht'⟩ := hi i (by omega)
    rw [hC] at hc
    obtain ⟨z, hz, _, hwf⟩ := DataW.trod_int he ht'
    obtain ⟨_, hcl, hat⟩ := World.cells?_some hc
    refine ⟨z, ?_, wf_rngU hwf⟩
    have := hat 0 (by omega)
    rw [hz] at this
    simpa [Addr.add] using this
end
/-- Words read are words. -/
theorem RS.of_words {W : World} {a : Option Addr} {len cap : Nat} (h : ∀ i, i < len → ∃ ad, a = some ad ∧ ∃ n : Int, W.cell? (ad.add (i * 1)) = some (.int .u64 n) ∧ 0 ≤ n ∧ n < 18446744073709551616) :
    ∃ bg : Nat → Int, RS (hOf W) (.slice a len cap) (va len fun i => .int .u64 (bg i)) ∧ ∀ i, i < len → 0 ≤ bg i ∧ bg i < 18446744073709551616 := by
  have h2 : ∀ i, ∃ o : Int, i < len → ∃ ad, a = some ad ∧ hcell (hOf W) (ad.add (i * 1)) = some (.int .u64 o) ∧ 0 ≤ o ∧ o < 18446744073709551616 := by
    intro i
    by_cases hi : i < len
    · obtain ⟨ad, rfl, n, hn, hr⟩ := h i hi
      exact ⟨n, fun _ => ⟨ad, rfl, hOf_cell hn, hr⟩⟩
    · exact ⟨0, fun h => absurd h hi⟩
  refine ⟨fun i => Classical.choose (h2 i), ⟨a, cap, by rw [va_length], fun j x hj => ?_⟩, fun i hi => by obtain ⟨_, _, _, hr⟩ := Classical.choose_spec (h2 i) hi; exact hr⟩
  have hl := (List.getElem?_eq_some_iff.1 hj).1
  rw [va_length] at hl
  rw [va_get hl] at hj
  cases hj
  obtain ⟨ad, e, hc, _⟩ := Classical.choose_spec (h2 j) hl
  exact ⟨ad, e, hc⟩

end Go.Proofs.YtjlojokockfapaaGreatDoor

