/- Each operation comes to what 'opt' says of it: append, and all together. -/
import Derived.Test.YtgbmkfifjijoiaaV5
namespace Go.Proofs.Ytgbmkfifjijoiaa
open Go
set_option linter.unusedVariables false
set_option linter.unusedSimpArgs false

theorem run_firstCells' {P : Program} {h : H} {w : World} (hs : Sub h w) {a : Option Addr} {n size l c : Nat} {new : List Value} (hsrc : srcP h a (n * size) new) :
    (Builtin.firstCells size n (.slice a l c)).run P w = .ok ⟨new⟩ w := by
  obtain ⟨hl, ha⟩ := hsrc
  cases a with
  | none => simp only at ha; subst ha; rfl
  | some a =>
    have := run_loadCells_list (P := P) w a new (hcells_sub hs ha)
    rw [hl] at this
    simpa [Builtin.firstCells] using this

theorem nextcap_le {need sc : Nat} (h : sc < need) : Builtin.nextslicecap need sc ≤ 2 * need + 192 := by
  unfold Builtin.nextslicecap
  split
  · omega
  · split
    · omega
    · simp only [Builtin.growBy]
      repeat' split
      all_goals omega

theorem appendP_run {P : Program} {ts tx ty : TypeId} {s x : Value} {h : H} {K : Value → H → Prop} (hb : appendP P ts tx s x h K) (w : World) (hs : Sub h w) :
    ∃ r h' w', K r h' ∧ (Builtin.append_ #[ts, tx] ty #[s, x]).run P w = .ok r w' ∧ Sub h' w' ∧ Stp h w h' w' := by
  unfold appendP at hb
  split at hb
  case h_2 => exact hb.elim
  rename_i e e2 hu hu2
  obtain ⟨z, hz, hb1⟩ := on_spec hb
  clear hb
  obtain ⟨i, v, hi, hv, hvc, hsz⟩ := zeroOf_spec hz
  cases hc : (Nat.beq z.length (P.cellsOf e) && !Nat.beq (P.bytesOf e) 0 && !Nat.beq (P.cellsOf e) 0) with
  | false => rw [hc] at hb1; exact hb1.elim
  | true =>
  rw [hc, cond_true] at hb1
  simp only [Bool.and_eq_true, Bool.not_eq_true'] at hc
  obtain ⟨⟨hc1, hc2⟩, hc3⟩ := hc
  have hzl : z.length = P.cellsOf e := Nat.eq_of_beq_eq_true hc1
  have hby : P.bytesOf e = i.bytes := by simp [Program.bytesOf, hi]
  have hb0 : i.bytes ≠ 0 := by rw [← hby]; intro h0; rw [h0] at hc2; simp at hc2
  obtain ⟨base, sl, sc, e1, hb2⟩ := slcP_spec hb1
  obtain ⟨xa, n, xc, e2', new, hsrc, happ⟩ := slcP_spec hb2
  clear hb1 hb2
  subst e1; subst e2'
  have hf := fun w' (hs' : Sub h w') => run_firstCells' (P := P) hs' (l := n) (c := xc) hsrc
  have hs1 : ∀ w, (sizeOf e).run P w = .ok (P.cellsOf e) w := run_sizeOf_info (show (P.info? e).isSome = true by simp [hi])
  have hlen : ∀ (l c : Nat) (a : Option Addr), Builtin.lenOf (.slice a l c) = pure l := fun _ _ _ => rfl
  by_cases hroom : sl + n ≤ sc
  · have h1 := happ.1 hroom
    cases base with
    | none =>
      obtain ⟨hn, hk⟩ := h1
      refine ⟨_, h, w, hk, ?_, hs, Stp.refl h w⟩
      simp [Builtin.append_, run_underlying hu, run_underlying hu2, hs1, hlen, hroom, hf w hs]
    | some a =>
      obtain ⟨hw, hone, hk⟩ := h1
      by_cases hnew : new = []
      · subst hnew
        have hset : hset h (a.add (sl * P.cellsOf e)) [] = h := by
          funext b
          unfold hset
          split
          · cases h b with
            | none => rfl
            | some o => cases o <;> rfl
          · rfl
        rw [hset] at hk
        refine ⟨_, h, w, hk, ?_, hs, Stp.refl h w⟩
        simp [Builtin.append_, run_underlying hu, run_underlying hu2, hs1, hlen, hroom, hf w hs, storeCells]
      · obtain ⟨w', hr, hs', hm⟩ := hset_sub (P := P) hs (hw hnew) hone
        refine ⟨_, _, w', hk, ?_, hs', hm⟩
        simp [Builtin.append_, run_underlying hu, run_underlying hu2, hs1, hlen, hroom, hf w hs, hr]
  · obtain ⟨hcap, old, hold, hk⟩ := happ.2 (by omega)
    have hfo := fun w' (hs' : Sub h w') => run_firstCells' (P := P) hs' (l := sl) (c := sc) hold
    have hcap' : ¬ (2 ^ 48 < Builtin.nextslicecap (sl + n) sc * i.bytes) := by rw [← hby]; omega
    have hge : sl + n ≤ (Question.appendCap (sl + n) sc e).cut (w.tape w.drawn (.appendCap (sl + n) sc e)) := by simp [Question.cut]
    have hs2 : Sub h w.drew := hs
    have hk' := hk _ hge
    obtain ⟨hk2, hs'⟩ := newP_run (P := P) hk' w.drew hs2
    refine ⟨_, _, w.drew.alloc (.cells ⟨old ++ new ++ zrep z ((Question.appendCap (sl + n) sc e).cut (w.tape w.drawn (.appendCap (sl + n) sc e)) - (sl + n))⟩ e), hk2, ?_, hs', ⟨⟨rfl, rfl, rfl⟩, (hs2.put_stp _).size, (hs2.put_stp _).frame⟩⟩
    have hzc : ∀ m, Builtin.zeroCells v.cells m = (⟨zrep z m⟩ : Array Value) := fun m => by
      unfold Builtin.zeroCells
      rw [hvc]
      have := zrow_eq z m
      simpa using this
    have hcap2 : ¬ (281474976710656 < Builtin.nextslicecap (sl + n) sc * i.bytes) := by omega
    simp [Builtin.append_, run_underlying hu, run_underlying hu2, hs1, hlen, hroom, typeInfo, hi, hb0, hcap2, Question.forced, hfo _ hs2, hf _ hs2, run_zeroValue' hi hv, hzc, newRow]

end Go.Proofs.Ytgbmkfifjijoiaa
