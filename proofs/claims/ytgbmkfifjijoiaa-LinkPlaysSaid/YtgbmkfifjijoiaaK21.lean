import Derived.Test.YtgbmkfifjijoiaaK20
/-! The document's forest (compassref07): its variables and slices. -/
namespace Go.Proofs.Ytgbmkfifjijoiaa
open Go
set_option linter.unusedVariables false

/-- The block b holds vs. -/
def Bl (h : H) (b : Nat) (vs : List Value) : Prop := ∃ e, h b = some (.cells ⟨vs⟩ e (0, 0))
theorem Bl.ext {h h' : H} {b : Nat} {vs : List Value} (B : Bl h b vs) (x : Ext h h') : Bl h' b vs := by
  obtain ⟨e, k⟩ := B; exact ⟨e, x _ _ k⟩
theorem Bl.kp {h h' : H} {b c : Nat} {vs : List Value} (B : Bl h b vs) (x : Kp c h h') (ne : b ≠ c) : Bl h' b vs := by
  obtain ⟨e, k⟩ := B; exact ⟨e, x _ _ ne k⟩
theorem Bl.ne {h : H} {b c : Nat} {vs : List Value} (B : Bl h b vs) (hc : h c = none) : b ≠ c := by
  rintro rfl; obtain ⟨e, k⟩ := B; rw [hc] at k; cases k
theorem new_bl {h : H} {vs : List Value} {e : Nat} {K : Nat → H → Prop} (k : ∀ b g, h b = none → Ext h g → Bl g b vs → K b g) :
    newP h (.cells ⟨vs⟩ e (0, 0)) K := fun b hb => k b _ hb (Ext.put hb _) ⟨e, by simp [hput]⟩
theorem Bl.ld {h : H} {b i : Nat} {vs : List Value} {v : Value} (B : Bl h b vs) (hi : vs[i]? = some v) : hcell h ((bk b).add i) = some v := by
  obtain ⟨e, k⟩ := B
  rw [bk_add, hcell_at k, List.getElem?_toArray]
  exact hi
theorem Bl.ldN {h : H} {b n : Nat} {vs : List Value} {K : List Value → Prop} (B : Bl h b vs) (hn : vs.length = n) (k : K vs) : ldN h (bk b) n K :=
  ⟨vs, hn, fun _ _ hi => B.ld hi, k⟩
theorem Bl.stN {h : H} {b n : Nat} {vs ws : List Value} {K : H → Prop} (B : Bl h b vs) (hn : ws.length = n) (hv : vs.length = n) (one : ∀ v ∈ ws, v.oneCell' = true)
    (k : ∀ g, Kp b h g → Bl g b ws → K g) : stN h (bk b) ws n K := by
  obtain ⟨e, hb⟩ := B
  refine ⟨hn, one, ⟨_, _, hb, rfl, by simp; omega⟩, k _ ?_ ⟨e, ?_⟩⟩
  · intro j o hj hh
    unfold hset
    rw [if_neg hj]; exact hh
  · unfold hset
    rw [if_pos rfl, hb]
    simp only [Option.map_some]
    rw [setR_list ws vs 0 (by omega)]
    simp [hn, hv]
theorem new_bl_st {h : H} {zs ws : List Value} {e n : Nat} {K : Nat → H → Prop} (hn : ws.length = n) (hz : zs.length = n) (one : ∀ v ∈ ws, v.oneCell' = true)
    (k : ∀ b g, h b = none → Ext h g → Bl g b ws → K b g) : newP h (.cells ⟨zs⟩ e (0, 0)) fun b h1 => stN h1 (bk b) ws n (K b) := by
  refine new_st hn hz one ?_
  intro b g hb kp e2 _
  exact k b g hb (fun j o hj => kp (j + 1) j o (by omega) hj) ⟨e, e2⟩
theorem add_block (a : Addr) (i : Nat) : (a.add i).block = a.block := by unfold Addr.add; split <;> rfl
theorem sameAt_of {h h' : H} {a : Addr} {n : Nat} (e : h' a.block = h a.block) : sameAt n a h h' := by
  intro i _
  unfold hcell
  rw [add_block, e]

/-- v is a slice of n whole numbers, in a block that is ok. -/
def SI (ok : Nat → Prop) (h : H) (v : Value) (n : Nat) (f : Nat → Int) : Prop :=
  (n = 0 ∧ v = .slice none 0 0) ∨ ∃ b, ok b ∧ Sl h b v (ints n f)
theorem SI.ext {ok : Nat → Prop} {h h' : H} {v : Value} {n : Nat} {f : Nat → Int} (s : SI ok h v n f) (x : Ext h h') : SI ok h' v n f := by
  rcases s with s | ⟨b, hb, c, e, zs, h1, h2, h3⟩
  · exact .inl s
  · exact .inr ⟨b, hb, c, e, zs, h1, x _ _ h2, h3⟩
theorem SI.kp {h h' : H} {c : Nat} {v : Value} {n : Nat} {f : Nat → Int} (s : SI (· ≠ c) h v n f) (k : Kp c h h') : SI (· ≠ c) h' v n f := by
  rcases s with s | ⟨b, hb, s⟩
  · exact .inl s
  · exact .inr ⟨b, hb, s.kp k hb⟩
theorem SI.shape {ok : Nat → Prop} {h : H} {v : Value} {n : Nat} {f : Nat → Int} (s : SI ok h v n f) : ∃ a c, v = .slice a n c := by
  rcases s with ⟨rfl, rfl⟩ | ⟨b, hb, c, e, zs, h1, h2, h3⟩
  · exact ⟨_, _, rfl⟩
  · rw [ints_length] at h1; exact ⟨_, _, h1⟩
theorem SI.ix {ok : Nat → Prop} {h : H} {v : Value} {n i : Nat} {f : Nat → Int} {K : Addr → Prop} (s : SI ok h v n f) (hi : i < n)
    (k : ∀ a : Addr, hcell h a = some (.int .i64 (f i)) → K a) : ixS v (i : Int) 1 K := by
  rcases s with ⟨rfl, rfl⟩ | ⟨b, hb, s⟩
  · omega
  · have g := s.get (ints_get hi)
    obtain ⟨c, e, zs, h1, h2, h3⟩ := s
    subst h1
    rw [ints_length]
    exact nx hi (k _ g)

/-- The document's forest. -/
structure RF (ok : Nat → Prop) (h : H) (w : List Value) (n : Nat) (par tv : Nat → Int) : Prop where
  ex : ∃ pv vv, w = [pv, vv] ∧ SI ok h pv n par ∧ SI ok h vv n tv
theorem RF.ext {ok : Nat → Prop} {h h' : H} {w : List Value} {n : Nat} {par tv : Nat → Int} (r : RF ok h w n par tv) (x : Ext h h') : RF ok h' w n par tv := by
  obtain ⟨pv, vv, e, a, b⟩ := r.ex
  exact ⟨pv, vv, e, a.ext x, b.ext x⟩
theorem RF.kp {h h' : H} {c : Nat} {w : List Value} {n : Nat} {par tv : Nat → Int} (r : RF (· ≠ c) h w n par tv) (k : Kp c h h') : RF (· ≠ c) h' w n par tv := by
  obtain ⟨pv, vv, e, a, b⟩ := r.ex
  exact ⟨pv, vv, e, a.kp k, b.kp k⟩
theorem RF.one {ok : Nat → Prop} {h : H} {w : List Value} {n : Nat} {par tv : Nat → Int} (r : RF ok h w n par tv) : w.length = 2 ∧ ∀ v ∈ w, v.oneCell' = true := by
  obtain ⟨pv, vv, rfl, a, b⟩ := r.ex
  obtain ⟨_, _, rfl⟩ := a.shape
  obtain ⟨_, _, rfl⟩ := b.shape
  refine ⟨rfl, ?_⟩
  intro v hv
  simp only [List.mem_cons, List.mem_nil_iff, or_false] at hv
  rcases hv with rfl | rfl <;> rfl

section
variable {ok : Nat → Prop} {h : H} {w : List Value} {n : Nat} {par tv : Nat → Int}

theorem slcP_mk {a : Option Addr} {l c : Nat} {K : Option Addr → Nat → Nat → Prop} (k : K a l c) : slcP (.slice a l c) K := k
theorem node_R (r : RF ok h w n par tv) (v : Int) : T Try.prog F.compassref07_node [.agg ⟨w⟩, .int .i64 v] h fun r h' => r = .ret (.bool (decide (isN n v))) ∧ Ext h h' := by
  refine E_compassref07_node ?_
  unfold B_compassref07_node
  refine new_bl ?_
  intro b1 g hb x B
  obtain ⟨pv, vv, rfl, a, b⟩ := r.ex
  obtain ⟨_, _, rfl⟩ := a.shape
  refine ifP_of (fun h0 => ?_) (fun h0 => ?_)
  · have h0 := of_decide_eq_true h0
    refine ⟨_, B.ld rfl, ?_⟩
    refine ⟨?_, x⟩
    unfold isN
    simp [h0]
  · have h0 := of_decide_eq_false h0
    refine ⟨?_, x⟩
    unfold isN
    simp [h0]

theorem Child_R (r : RF ok h w n par tv) (Fo : Fst n par tv) (v : Int) : T Try.prog F.compassref07_Child [.agg ⟨w⟩, .int .i64 v] h fun r h' => r = .ret (.int .i64 (childC n par v)) ∧ Ext h h' := by
  refine E_compassref07_Child ?_
  unfold B_compassref07_Child
  refine new_bl ?_
  intro b1 g hb x B
  refine B.ldN r.one.1 ?_
  refine (node_R (r.ext x) v).mono ?_
  rintro _ g2 ⟨rfl, x2⟩
  refine ⟨_, rfl, ifP_of (fun h0 => ?_) (fun h0 => ?_)⟩
  · have h0 : ¬ isN n v := by simpa using h0
    refine ⟨?_, x.trans' x2⟩
    unfold childC
    rw [if_neg h0]
  · have h0 : isN n v := by simpa using h0
    obtain ⟨v, rfl, hv⟩ := h0.nat
    have r2 := (r.ext x).ext x2
    obtain ⟨pv, vv, rfl, a, b⟩ := r2.ex
    refine ⟨_, (B.ext x2).ld rfl, ?_⟩
    refine a.ix hv ?_
    intro ad hc
    refine ⟨_, hc, ?_⟩
    rw [childC_nat hv]
    refine ifP_of (fun h1 => ?_) (fun h1 => ?_)
    · have h1 := of_decide_eq_true h1
      rcases Fo.pt v hv with e | ⟨u, e, _⟩
      · rw [if_pos e]; exact ⟨rfl, x.trans' x2⟩
      · omega
    · have h1 := of_decide_eq_false h1
      rw [if_neg (by omega)]
      exact ⟨rfl, x.trans' x2⟩

theorem up_nat (Fo : Fst n par tv) {v : Nat} (hv : v < n) (h : 0 ≤ par v) : ∃ u : Nat, par v = u ∧ u < n := by
  rcases Fo.pt v hv with e | e
  · omega
  · exact e

theorem Way_R (r : RF ok h w n par tv) (Fo : Fst n par tv) (hn : n ≤ 1024) {v : Nat} (hv : v < n) :
    T Try.prog F.compassref07_Way [.agg ⟨w⟩, vi v] h fun r h' => Ext h h' ∧ ∃ p b l, r = .ret p ∧ UpW par v l ∧ Sl h' b p (ints l.length fun i => l.getD i 0) := by
  refine E_compassref07_Way ?_
  unfold B_compassref07_Way
  refine new_bl ?_
  intro b1 g1 hb1 x1 B1
  refine new_bl ?_
  intro b3 g3 hb3 x3 B3
  have hb3h : h b3 = none := by
    cases e : h b3 with
    | none => rfl
    | some o => rw [x1 _ _ e] at hb3; cases hb3
  obtain ⟨lst, hup, hlt⟩ := UpW.exists Fo v hv
  have hlen := hup.len Fo hv
  let I5 : (Int × Value × Unit) → H → Nat → Prop := fun s g k => ∃ (done rest : List Nat) (u b : Nat), lst = done ++ u :: rest ∧ UpW par u (u :: rest) ∧ u < n ∧ s.1 = u ∧ k = rest.length ∧
    Ext h g ∧ Bl g b1 w ∧ (h b = none ∧ b ≠ b1) ∧ Sl g b s.2.1 (ints (done.length + 1) fun i => lst.getD i 0)
  refine ⟨fun s g => ∃ k, I5 s g k, rk I5, rk_wf I5, ?_, ?_⟩
  · obtain ⟨m, hm⟩ := hup.head
    refine ⟨_, [], m, v, b3, hm, by rw [← hm]; exact hup, hv, rfl, rfl, x1.trans' x3, B1.ext x3, ⟨hb3h, fun e => B1.ne hb3 e.symm⟩, 1, ?_⟩
    obtain ⟨e, he⟩ := B3
    refine ⟨e, [], rfl, ?_, rfl⟩
    rw [he, hm]
    rfl
  · intro v' way g hI
    obtain ⟨done, rest, u, b, hsplit, hur, hun, e1, hk, xg, Bg, hbn, sl⟩ := mu_spec hI
    generalize hkk : mu I5 ((v', way, ()), g) = k at *
    change v' = (u : Int) at e1
    subst e1
    have rg := r.ext xg
    obtain ⟨pv, vv, rfl, a, bb⟩ := rg.ex
    refine ⟨_, Bg.ld rfl, ?_⟩
    refine a.ix hun ?_
    intro ad hc
    refine ⟨_, hc, ?_⟩
    refine ifP_of (fun h0 => ?_) (fun h0 => ?_)
    · have h0 := of_decide_eq_true h0
      obtain ⟨y, hy, hyn⟩ := up_nat Fo hun h0
      refine ⟨_, Bg.ld rfl, ?_⟩
      refine a.ix hun ?_
      intro ad2 hc2
      refine ⟨_, hc2, ?_⟩
      rw [hy]
      refine new_bl ?_
      intro b16 g16 hb16 x16 B16
      obtain ⟨e16, B16⟩ := B16
      have sl16 := sl.kp (Ext.kp x16 b16) (by
        rintro rfl
        obtain ⟨c, e, zs, _, h2, _⟩ := sl
        rw [hb16] at h2; cases h2)
      cases hur with
      | root hp => omega
      | @step _ q rest' hq hur' =>
        have hqy : q = y := by omega
        subst hqy
        obtain ⟨m, hm⟩ := hur'.head
        subst hm
        have hdl : done.length + 2 + m.length ≤ n := by
          rw [hsplit] at hlen; simp at hlen; omega
        refine sl16.app1 B16 rfl (by decide) (by rw [ints_length]; omega) ?_
        intro b' p' g' sl' kp' hb'
        have xg' : Ext h g' := (xg.trans' x16).of_kp kp' hbn.1
        have b1ne : b1 ≠ b := fun e => hbn.2 e.symm
        have hb'n : h b' = none ∧ b' ≠ b1 := by
          rcases hb' with rfl | hb'
          · exact hbn
          · refine ⟨?_, fun e => (Bg.ext x16).ne hb' e.symm⟩
            cases e : h b' with
            | none => rfl
            | some o => rw [(xg.trans' x16) _ _ e] at hb'; cases hb'
        refine mu_next (I := I5) (k := m.length) ⟨done ++ [u], m, q, b', by rw [hsplit]; simp, hur', hyn, rfl, rfl, xg', (Bg.ext x16).kp kp' b1ne, hb'n, ?_⟩ (by rw [hkk, hk]; simp)
        have e2 : ints ((done ++ [u]).length + 1) (fun i => ((lst.getD i 0 : Nat) : Int)) = ints (done.length + 1) (fun i => ((lst.getD i 0 : Nat) : Int)) ++ [vi q] := by
          unfold ints
          rw [List.length_append, List.length_singleton, List.range_succ, List.map_append]
          congr 1
          simp only [List.map_cons, List.map_nil]
          rw [hsplit]
          simp [List.getD]
        rw [e2]
        exact sl'
    · have h0 := of_decide_eq_false h0
      have hr := hur.uniq (.root (by rcases Fo.pt u hun with e | ⟨y, e, _⟩ <;> omega))
      have hrest : rest = [] := by simpa using hr
      subst hrest
      refine ⟨xg, way, b, lst, rfl, hup, ?_⟩
      have : lst.length = done.length + 1 := by rw [hsplit]; simp
      rw [this]
      exact sl

theorem Root_R (r : RF ok h w n par tv) (Fo : Fst n par tv) (hn : n ≤ 1024) (v : Int) :
    T Try.prog F.compassref07_Root [.agg ⟨w⟩, .int .i64 v] h fun r h' => Ext h h' ∧
      ((¬ isN n v ∧ r = .ret (.tuple ⟨[.int .i64 0, .int .i64 30]⟩)) ∨ ∃ u x : Nat, v = u ∧ u < n ∧ Rt par u x ∧ r = .ret (.tuple ⟨[vi x, .int .i64 0]⟩)) := by
  refine E_compassref07_Root ?_
  unfold B_compassref07_Root
  refine new_bl ?_
  intro b1 g1 hb1 x1 B1
  refine B1.ldN r.one.1 ?_
  refine (node_R (r.ext x1) v).mono ?_
  rintro _ g2 ⟨rfl, x2⟩
  refine ⟨_, rfl, ifP_of (fun h0 => ?_) (fun h0 => ?_)⟩
  · exact ⟨x1.trans' x2, .inl ⟨by simpa using h0, rfl⟩⟩
  · have h0 : isN n v := by simpa using h0
    obtain ⟨v, rfl, hv⟩ := h0.nat
    refine (B1.ext x2).ldN r.one.1 ?_
    refine (Way_R ((r.ext x1).ext x2) Fo hn hv).mono ?_
    rintro _ g3 ⟨x3, p, b, l, rfl, hup, sl⟩
    obtain ⟨m, hm⟩ := hup.head
    have hlen := hup.len Fo hv
    have sg := sl.get (i := l.length - 1) (v := .int .i64 (l.getD (l.length - 1) 0 : Nat)) (ints_get (by rw [hm]; simp))
    obtain ⟨c, e, zs, hp, h2, h3⟩ := sl
    subst hp
    rw [ints_length]
    have wl : IntKind.i64.wrap (((l.length : Nat) : Int) - 1) = ((l.length - 1 : Nat) : Int) := by
      have : IntKind.i64.wrap (((l.length : Nat) : Int) - 1) = ((l.length : Nat) : Int) - 1 := w64_in (by omega) (by omega)
      rw [this, hm]; simp
    refine rt_ret (slcP_mk ?_)
    rw [wl]
    refine nx (by rw [hm]; simp) ?_
    refine ⟨_, sg, (x1.trans' x2).trans' x3, .inr ⟨v, _, rfl, hv, ⟨l, hup, ?_⟩, rfl⟩⟩
    rw [List.getLast?_eq_getElem?, List.getD, List.getElem?_eq_getElem (by rw [hm]; simp)]
    rfl
end

end Go.Proofs.Ytgbmkfifjijoiaa
