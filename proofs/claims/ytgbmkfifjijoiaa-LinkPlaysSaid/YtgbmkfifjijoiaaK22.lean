import Derived.Test.YtgbmkfifjijoiaaK21
/-! The document's forest: copies, New, Link, Cut, Add, Least. -/
namespace Go.Proofs.Ytgbmkfifjijoiaa
open Go
set_option linter.unusedVariables false

/-- A slice of n whole numbers in a block of its own, new to h. -/
def SN (h g : H) (v : Value) (n : Nat) (f : Nat → Int) (b : Nat) : Prop := (n = 0 ∧ v = .slice none 0 0) ∨ (h b = none ∧ Sl g b v (ints n f))

theorem SI.src {ok : Nat → Prop} {h : H} {v : Value} {n : Nat} {f : Nat → Int} (s : SI ok h v n f) : ∃ a c, v = .slice a n c ∧ srcP h a (n * 1) (ints n f) := by
  rcases s with ⟨rfl, rfl⟩ | ⟨b, hb, s⟩
  · exact ⟨none, 0, rfl, rfl, rfl⟩
  · have g := fun i v (hi : (ints n f)[i]? = some v) => s.get hi
    obtain ⟨c, e, zs, h1, h2, h3⟩ := s
    rw [ints_length] at h1
    refine ⟨_, c, h1, by rw [ints_length, Nat.mul_one], ?_⟩
    intro i v hi
    have := g i v hi
    rwa [Nat.mul_one] at this

/-- Behind append(nil, v...). -/
theorem ap_copy {ok : Nat → Prop} {h : H} {v z : Value} {n e bytes : Nat} {f : Nat → Int} {K : Value → H → Prop} (s : SI ok h v n f) (hn : n ≤ 1024) (hb : bytes ≤ 8)
    (k : ∀ p b g, Ext h g → SN h g p n f b → K p g) : apP (.slice none 0 0) v h 1 e bytes [z] K := by
  obtain ⟨a, c, rfl, hs⟩ := s.src
  refine ⟨_, hs, fun hle => ?_, fun hlt => ⟨?_, [], ⟨rfl, rfl⟩, fun cap hcap => ?_⟩⟩
  · have hn0 : n = 0 := by omega
    subst hn0
    exact ⟨rfl, k _ 0 h (Ext.refl h) (.inl ⟨rfl, rfl⟩)⟩
  · have := nextcap_le hlt
    calc _ ≤ (2 * (0 + n) + 192) * bytes := Nat.mul_le_mul_right _ this
      _ ≤ (2 * (0 + n) + 192) * 8 := Nat.mul_le_mul_left _ hb
      _ ≤ _ := by omega
  · refine new_put ?_
    intro b g hbn x e1
    rw [Nat.zero_add] at e1 hcap ⊢
    refine k _ b g x (.inr ⟨hbn, cap, e, zrep [z] (cap - n), by rw [ints_length], by rw [e1]; rfl, ?_⟩)
    have : ∀ m, (zrep [z] m).length = m := by intro m; simp [zrep]
    rw [this, ints_length]; omega

theorem Bl.stC {h : H} {b i : Nat} {vs : List Value} {x : Value} {K : H → Prop} (B : Bl h b vs) (hi : i < vs.length)
    (k : ∀ g, Kp b h g → Bl g b (vs.set i x) → K g) : stC h ((bk b).add i) x K := by
  obtain ⟨e, hb⟩ := B
  rw [bk_add]
  refine ⟨⟨_, _, hb, rfl, by simp; omega⟩, k _ ?_ ⟨e, ?_⟩⟩
  · intro j o hj hh
    unfold hset
    rw [if_neg hj]; exact hh
  · unfold hset
    rw [if_pos rfl, hb]
    simp only [Option.map_some, setR]
    rw [List.setIfInBounds_toArray]
theorem SN.ext {h g g' : H} {v : Value} {n : Nat} {f : Nat → Int} {b : Nat} (s : SN h g v n f b) (x : Ext g g') : SN h g' v n f b := by
  rcases s with s | ⟨hb, c, e, zs, h1, h2, h3⟩
  · exact .inl s
  · exact .inr ⟨hb, c, e, zs, h1, x _ _ h2, h3⟩
theorem SN.kp {h g g' : H} {v : Value} {n : Nat} {f : Nat → Int} {b c : Nat} (s : SN h g v n f b) (k : Kp c g g') (hc : h c ≠ none) : SN h g' v n f b := by
  rcases s with s | ⟨hb, s⟩
  · exact .inl s
  · exact .inr ⟨hb, s.kp k (by rintro rfl; exact hc hb)⟩
theorem SN.weak {h0 h g : H} {v : Value} {n : Nat} {f : Nat → Int} {b : Nat} (s : SN h g v n f b) (x : Ext h0 h) : SN h0 g v n f b := by
  rcases s with s | ⟨hb, s⟩
  · exact .inl s
  · refine .inr ⟨?_, s⟩
    cases e : h0 b with
    | none => rfl
    | some o => rw [x _ _ e] at hb; cases hb
theorem SN.isS {h g : H} {v : Value} {n : Nat} {f : Nat → Int} {b : Nat} (s : SN h g v n f b) : ∃ a l c, v = .slice a l c := by
  rcases s with ⟨_, rfl⟩ | ⟨_, c, e, zs, h1, _, _⟩
  · exact ⟨_, _, _, rfl⟩
  · subst h1; exact ⟨_, _, _, rfl⟩
theorem oneP_slc {v : Value} {K : Prop} (h : ∃ a l c, v = .slice a l c) (k : K) : oneP v K := by
  obtain ⟨_, _, _, rfl⟩ := h
  exact k
theorem slc_one {v : Value} (h : ∃ a l c, v = .slice a l c) : v.oneCell' = true := by
  obtain ⟨_, _, _, rfl⟩ := h
  rfl

theorem Sl.setI {h : H} {b : Nat} {v : Value} {n i : Nat} {f : Nat → Int} {x : Int} {K : H → Prop} (s : Sl h b v (ints n f)) (hi : i < n)
    (k : ∀ g, Kp b h g → Sl g b v (ints n (upd f i x)) → K g) : ixS v (i : Int) 1 fun a => stC h a (.int .i64 x) K := by
  obtain ⟨c, e, zs, h1, h2, h3⟩ := s
  subst h1
  rw [ints_length] at h3 ⊢
  refine nx hi ?_
  rw [bk_add]
  refine ⟨⟨_, _, h2, rfl, ?_⟩, k _ ?_ ⟨c, e, zs, by rw [ints_length, ints_length], ?_, by rw [ints_length]; exact h3⟩⟩
  · simp only [List.size_toArray, List.length_append, ints_length]; omega
  · intro j o hj hh
    unfold hset
    rw [if_neg hj]; exact hh
  · unfold hset
    rw [if_pos rfl, h2]
    simp only [Option.map_some, setR, Nat.mul_one]
    rw [List.setIfInBounds_toArray, List.set_append_left _ _ (by rw [ints_length]; exact hi), ints_set]

section
variable {ok : Nat → Prop} {h : H} {w : List Value} {n : Nat} {par tv : Nat → Int}

/-- A copy: two slices in new blocks of their own. -/
structure Cp (h g : H) (w : List Value) (n : Nat) (par tv : Nat → Int) : Prop where
  ex : ∃ pv vv b c, w = [pv, vv] ∧ SN h g pv n par b ∧ SN h g vv n tv c ∧ b ≠ c

theorem Copy_R (r : RF ok h w n par tv) (hn : n ≤ 1024) : T Try.prog F.compassref07_Copy [.agg ⟨w⟩] h fun r h' => Ext h h' ∧ ∃ w', r = .ret (.agg ⟨w'⟩) ∧ Cp h h' w' n par tv := by
  refine E_compassref07_Copy ?_
  unfold B_compassref07_Copy
  refine new_bl ?_
  intro b1 g1 hb1 x1 B1
  refine new_bl ?_
  intro b3 g3 hb3 x3 B3
  refine new_bl_st rfl rfl (by simp [Value.oneCell']) ?_
  intro b5 g5 hb5 x5 B5
  have xx := (x1.trans' x3).trans' x5
  obtain ⟨pv, vv, rfl, a, b⟩ := (r.ext xx).ex
  have B1' := (B1.ext x3).ext x5
  refine ⟨_, B5.ld rfl, _, B1'.ld rfl, ?_⟩
  refine ap_copy a hn (by decide) ?_
  intro p bp g6 x6 sp
  refine oneP_slc sp.isS ?_
  have B5a := B5.ext x6
  refine B5a.stC (by simp) ?_
  intro g7 k7 B7
  have known : ∀ {g : H} {c : Nat} {vs : List Value}, Bl g c vs → g c ≠ none := by
    rintro g c vs ⟨e, he⟩ hn
    rw [he] at hn; cases hn
  have x7 : Ext g3 g7 := (x5.trans' x6).of_kp k7 hb5
  refine ⟨_, B7.ld rfl, _, ((B1.ext x3).ext x7).ld rfl, ?_⟩
  have b7 : SI ok g7 vv n tv := by
    obtain ⟨pv', vv', e, _, b'⟩ := (r.ext ((x1.trans' x3).trans' x7)).ex
    cases e
    exact b'
  refine ap_copy b7 hn (by decide) ?_
  intro q bq g8 x8 sq
  refine oneP_slc sq.isS ?_
  refine (B7.ext x8).stC (by simp) ?_
  intro g9 k9 B9
  have x9 : Ext g3 g9 := (x7.trans' x8).of_kp k9 hb5
  refine B9.ldN (by simp) ?_
  have B3' : Bl g9 b3 [.slice none 0 0, .slice none 0 0] := B3.ext x9
  have onel : ∀ v ∈ List.set (List.set [.slice none 0 0, .slice none 0 0] 0 p) 1 q, v.oneCell' = true := by
    intro v hv
    simp only [List.set_cons_zero, List.set_cons_succ, List.mem_cons, List.mem_nil_iff, or_false] at hv
    rcases hv with rfl | rfl
    · exact slc_one sp.isS
    · exact slc_one sq.isS
  refine B3'.stN (by simp) rfl onel ?_
  intro g10 k10 B10
  refine B10.ldN (by simp) ?_
  have sp5 : SN h g10 p n par bp := by
    have s1 := sp.kp k7 (known B5)
    have s2 := (s1.ext x8).kp k9 (known B5)
    have s3 := s2.kp k10 (known (B3.ext x5))
    exact s3.weak xx
  have sq5 : SN h g10 q n tv bq := by
    have s1 := sq.kp k9 (known B7)
    have s2 := s1.kp k10 (known (B3.ext x7))
    exact s2.weak ((x1.trans' x3).trans' x7)
  refine ⟨((x1.trans' x3).trans' x9).of_kp k10 ?_, _, rfl, ?_⟩
  · cases e : h b3 with
    | none => rfl
    | some o => rw [x1 _ _ e] at hb3; cases hb3
  show Cp h g10 [p, q] n par tv
  rcases sp5 with hl | hr
  · exact ⟨p, q, bq + 1, bq, rfl, .inl hl, sq5, by omega⟩
  · rcases sq with hl | hr2
    · exact ⟨p, q, bp, bp + 1, rfl, .inr hr, .inl hl, by omega⟩
    · refine ⟨p, q, bp, bq, rfl, .inr hr, sq5, ?_⟩
      rintro rfl
      rcases sp with ⟨_, rfl⟩ | ⟨h5, s⟩
      · obtain ⟨_, c, e, zs, h1, _, _⟩ := hr
        cases h1
      · obtain ⟨c, e, zs, h1, h2, h3⟩ := s.kp k7 (by rintro rfl; obtain ⟨e, he⟩ := B5; rw [he] at h5; cases h5)
        rw [hr2.1] at h2; cases h2
end

end Go.Proofs.Ytgbmkfifjijoiaa
