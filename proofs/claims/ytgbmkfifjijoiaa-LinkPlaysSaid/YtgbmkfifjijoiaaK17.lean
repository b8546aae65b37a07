import Derived.Test.YtgbmkfifjijoiaaK16
/-! The laws' helpers: awake and grown. -/
namespace Go.Proofs.Ytgbmkfifjijoiaa
open Go
set_option linter.unusedVariables false

theorem ptrO_mk {a : Option Addr} {K : Option Addr → Prop} (k : K a) : ptrO (.pointer a) K := k
theorem Forest.kp {h h' : H} {bf bn n : Nat} {par tv : Nat → Int} {b : Nat} (P : Forest h bf bn n par tv) (k : Kp b h h') (h1 : b ≠ bf) (h2 : b ≠ bn) : Forest h' bf bn n par tv := by
  obtain ⟨e, st, L, pd, f, I⟩ := P.ex
  exact ⟨P.small, P.fst, e, st, L, pd, f.kp k h1 h2, I⟩
theorem Forest.ext {h h' : H} {bf bn n : Nat} {par tv : Nat → Int} (P : Forest h bf bn n par tv) (x : Ext h h') : Forest h' bf bn n par tv := by
  obtain ⟨e, st, L, pd, f, I⟩ := P.ex
  obtain ⟨⟨ne, ef, hf⟩, ha⟩ := f
  exact ⟨P.small, P.fst, e, st, L, pd, ⟨⟨ne, ef, x _ _ hf⟩, x _ _ ha⟩, I⟩

/-- Values within b of 0. -/
def Bd (n : Nat) (tv : Nat → Int) (b : Int) : Prop := ∀ w, w < n → -b ≤ tv w ∧ tv w ≤ b

theorem awake_T (h : H) : T Try.prog F.compasslaw07_awake [] h fun r h' => r = .ret (.bool true) ∧ Ext h h' := by
  refine E_compasslaw07_awake ?_
  unfold B_compasslaw07_awake
  refine (New_T h 3).mono ?_
  rintro _ h1 ⟨x1, ⟨hbad, _⟩ | ⟨_, _, bf, bn, rfl, hbf, hbn, P1⟩⟩
  · omega
  refine ⟨_, _, rfl, ?_⟩
  have p0 : ∀ v : Nat, (fun _ : Nat => (-1 : Int)) v = -1 := fun _ => rfl
  refine ⟨fun _ g => Ext h g ∧ Forest g bf bn 3 (upd (upd (fun _ => -1) 2 1) 1 0) (fun w => if w = 0 then 0 else if w = 1 then 8 else if w = 2 then 9 else 0), ?_, ?_⟩
  · refine ptrO_mk ?_
    refine ifP_of (fun hh => by cases hh) (fun _ => ?_)
    refine ifP_of (fun hh => by simp at hh) (fun _ => ?_)
    refine (Link_T P1 2 1 4).mono ?_
    rintro _ h2 ⟨kp2, c, par2, tv2, rfl, S2, P2⟩
    refine ⟨_, rfl, ?_⟩
    have hS2 : c = 0 ∧ par2 = upd (fun _ => -1) 2 1 ∧ tv2 = upd (fun _ => 0) 2 4 := by
      cases S2 with
      | node h => exact absurd (by decide) h
      | label _ _ h => exact absurd (by decide) h
      | root _ _ _ h => exact absurd rfl h
      | cycle _ _ _ _ h => exact absurd (h.uniq (Rt.self (v := 1) rfl)) (by decide)
      | ok => exact ⟨rfl, rfl, rfl⟩
    obtain ⟨rfl, rfl, rfl⟩ := hS2
    refine ifP_of (fun hh => by simp at hh) (fun _ => ?_)
    refine (Link_T P2 1 0 3).mono ?_
    rintro _ h3 ⟨kp3, c, par3, tv3, rfl, S3, P3⟩
    refine ⟨_, rfl, ?_⟩
    have hS3 : c = 0 ∧ par3 = upd (upd (fun _ => -1) 2 1) 1 0 ∧ tv3 = upd (upd (fun _ => 0) 2 4) 1 3 := by
      cases S3 with
      | node h => exact absurd (by decide) h
      | label _ _ h => exact absurd (by decide) h
      | root _ _ _ h => exact absurd rfl h
      | cycle _ _ _ _ h => exact absurd (h.uniq (Rt.self (v := 0) rfl)) (by decide)
      | ok => exact ⟨rfl, rfl, rfl⟩
    obtain ⟨rfl, rfl, rfl⟩ := hS3
    refine ifP_of (fun hh => by simp at hh) (fun _ => ?_)
    refine (Add_T P3 2 5 (fun _ w hw => ?_)).mono ?_
    · have : w = 0 ∨ w = 1 ∨ w = 2 := by omega
      rcases this with rfl | rfl | rfl <;> decide
    rintro _ h4 ⟨kp4, c, tv4, rfl, S4, P4⟩
    refine ⟨_, rfl, ?_⟩
    have hS4 : c = 0 ∧ tv4 = fun w => if w = 0 then 0 else if w = 1 then 8 else if w = 2 then 9 else 0 := by
      cases S4 with
      | node h => exact absurd (by decide) h
      | label _ h => exact absurd (by decide) h
      | @ok l _ _ hu =>
        have hu' : UpW (upd (upd (fun _ => -1) 2 1) 1 0) 2 [2, 1, 0] := .step (u := 1) rfl (.step (u := 0) rfl (.root rfl))
        have e := hu.uniq hu'
        subst e
        refine ⟨rfl, ?_⟩
        funext w
        unfold addT
        have ee : edges (upd (upd (fun _ => -1) 2 1) 1 0) [2, 1, 0] = [2, 1] := by decide
        rw [ee]
        by_cases w0 : w = 0
        · subst w0; rfl
        · by_cases w1 : w = 1
          · subst w1; rfl
          · by_cases w2 : w = 2
            · subst w2; rfl
            · simp [w0, w1, w2, upd]
    obtain ⟨rfl, rfl⟩ := hS4
    refine ifP_of (fun hh => by simp at hh) (fun _ => ?_)
    exact ⟨(x1.of_kp ((kp2.trans kp3).trans kp4) hbn), P4⟩
  · rintro h6 ⟨x6, P6⟩
    refine (Least_T P6 2).mono ?_
    rintro _ h7 ⟨kp7, P7, a, m, c, rfl, S⟩
    refine ⟨_, _, _, rfl, ?_⟩
    refine (Root_T P7 2).mono ?_
    rintro _ h8 ⟨kp8, P8, hr⟩
    have hu' : UpW (upd (upd (fun _ => -1) 2 1) 1 0) 2 [2, 1, 0] := .step (u := 1) rfl (.step (u := 0) rfl (.root rfl))
    have hS : a = 1 ∧ m = 8 ∧ c = 0 := by
      cases S with
      | bad h => exact absurd (by decide) h
      | @ok A B a' r h0 hu hA hB =>
        have e := hu.uniq hu'
        match A, B, e with
        | [], [], e => exact absurd (congrArg List.length e) (by simp <;> omega)
        | [], [b], e =>
          simp at e
          obtain ⟨rfl, rfl, rfl⟩ := e
          have := hB 1 (by simp)
          simp at this
        | [], b :: c :: d, e => exact absurd (congrArg List.length e) (by simp <;> omega)
        | [b], [], e =>
          simp at e
          obtain ⟨rfl, rfl, rfl⟩ := e
          exact ⟨rfl, rfl, rfl⟩
        | [b], c :: d, e => exact absurd (congrArg List.length e) (by simp <;> omega)
        | b :: c :: d, _, e => exact absurd (congrArg List.length e) (by simp <;> omega)
    obtain ⟨rfl, rfl, rfl⟩ := hS
    rcases hr with ⟨hn, _⟩ | ⟨w, x, hw, _, hrt, _, rfl⟩
    · exact absurd (by decide) hn
    have hw : w = 2 := by omega
    subst hw
    have hx : x = 0 := hrt.uniq ⟨_, hu', rfl⟩
    subst hx
    refine ⟨_, _, rfl, ?_⟩
    exact ⟨rfl, x6.of_kp (kp7.trans kp8) hbn⟩

end Go.Proofs.Ytgbmkfifjijoiaa
