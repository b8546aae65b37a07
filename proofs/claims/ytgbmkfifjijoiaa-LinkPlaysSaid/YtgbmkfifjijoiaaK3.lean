import Derived.Test.YtgbmkfifjijoiaaK2
/-! rotate, by what it does to the array of nodes. -/
namespace Go.Proofs.Ytgbmkfifjijoiaa
open Go
set_option linter.unusedVariables false

def rot1 (st : St) (v u : Nat) : St :=
  if topS st u then st else if st (st u 2).toNat 0 = u then upd2 st (st u 2).toNat 0 v else upd2 st (st u 2).toNat 1 v
def rot2 (st : St) (v u : Nat) : St := upd2 (upd2 st v 2 (st u 2)) u 2 v
def inner (st : St) (v u : Nat) : Int := if st u 0 = v then st v 1 else st v 0
def rot3 (st : St) (v u : Nat) : St :=
  if st u 0 = v then upd2 (upd2 st u 0 (st v 1)) v 1 u else upd2 (upd2 st u 1 (st v 0)) v 0 u
def rot4 (st : St) (c : Int) (u : Nat) : St := if 0 ≤ c then upd2 st c.toNat 2 u else st
def rotL (st : St) (v u : Nat) : St :=
  let s2 := rot2 (rot1 st v u) v u
  rot4 (rot3 s2 v u) (inner s2 v u) u
def rotateS (st : St) (v u : Nat) : St := pullS (pullS (rotL st v u) u) v

section
variable {bf bn n e : Nat} {h0 : H} {st : St}

theorem rotate_T (hd : Hd h0 bf bn n) {v u : Nat} (hv : v < n) (hun : u < n) (ne : v ≠ u) (hu : st v 2 = u) (hg : Pt n (st u 2))
    (hi : Pt n (inner (rot2 (rot1 st v u) v u) v u))
    (p1 : Pc n u (rotL st v u u 0)) (p2 : Pc n u (rotL st v u u 1)) (p3 : Pc n v (rotL st v u v 0)) (p4 : Pc n v (rotL st v u v 1)) :
    T Try.prog F.links_Forest_rotate [fo bf, vi v] (fp h0 bn e n 6 st) fun r h => r = .ret unit0 ∧ h = fp h0 bn e n 6 (rotateS st v u) := by
  refine E_links_Forest_rotate ?_
  unfold B_links_Forest_rotate
  refine nd hd.fp hv ?_
  refine ⟨_, fp_ld hv (by decide), ?_⟩
  rw [hu]
  refine ⟨_, hd.fp.ld, ?_⟩
  refine nx hv ?_
  refine ⟨_, hd.fp.ld, ?_⟩
  refine nx hun ?_
  refine ⟨fun _ h => h = fp h0 bn e n 6 (rot1 st v u), ?_, ?_⟩
  · refine (top_T hd hun hg).mono ?_
    rintro _ _ ⟨rfl, rfl⟩
    refine ⟨_, rfl, ?_⟩
    refine ifP_of (fun h => ?_) (fun h => ?_)
    · have h' : topS st u = false := by simpa using h
      rcases hg with hg | ⟨g, hg, hgn⟩
      · simp [topS, hg] at h'
      · refine ⟨_, hd.fp.ld, _, fp_ld hun (by decide), ?_⟩
        rw [hg]
        refine nx hgn ?_
        refine ⟨_, fp_ld hgn (by decide), ?_⟩
        have e1 : rot1 st v u = if st g 0 = u then upd2 st g 0 v else upd2 st g 1 v := by
          unfold rot1; rw [h', hg, Int.toNat_natCast]; rfl
        rw [e1]
        refine ifP_of (fun h2 => ?_) (fun h2 => ?_)
        · refine ⟨fp_wr hgn (by decide), ?_⟩
          rw [fp_set hgn (by decide), if_pos (of_decide_eq_true h2)]
        · refine ⟨fp_wr hgn (by decide), ?_⟩
          rw [fp_set hgn (by decide), if_neg (of_decide_eq_false h2)]
    · have h' : topS st u = true := by simpa using h
      show _ = _
      unfold rot1
      rw [h']; rfl
  · rintro _ rfl
    refine ⟨_, fp_ld hun (by decide), fp_wr hv (by decide), ?_⟩
    rw [fp_set hv (by decide)]
    refine ⟨fp_wr hun (by decide), ?_⟩
    rw [fp_set hun (by decide)]
    show ∃ J28 : (Int × Unit) → H → Prop, _
    have hs : upd2 (upd2 (rot1 st v u) v 2 (rot1 st v u u 2)) u 2 ((v : Nat) : Int) = rot2 (rot1 st v u) v u := rfl
    rw [hs]
    generalize hs2 : rot2 (rot1 st v u) v u = s2 at *
    refine ⟨fun x h => x.1 = inner s2 v u ∧ h = fp h0 bn e n 6 (rot3 s2 v u), ?_, ?_⟩
    · refine ⟨_, fp_ld hun (by decide), ?_⟩
      refine ifP_of (fun h2 => ?_) (fun h2 => ?_)
      · have h2 := of_decide_eq_true h2
        refine ⟨_, fp_ld hv (by decide), _, fp_ld hv (by decide), fp_wr hun (by decide), ?_⟩
        rw [fp_set hun (by decide)]
        refine ⟨fp_wr hv (by decide), ?_⟩
        rw [fp_set hv (by decide)]
        exact ⟨by unfold inner; rw [if_pos h2], by unfold rot3; rw [if_pos h2]⟩
      · have h2 := of_decide_eq_false h2
        refine ⟨_, fp_ld hv (by decide), _, fp_ld hv (by decide), fp_wr hun (by decide), ?_⟩
        rw [fp_set hun (by decide)]
        refine ⟨fp_wr hv (by decide), ?_⟩
        rw [fp_set hv (by decide)]
        exact ⟨by unfold inner; rw [if_neg h2], by unfold rot3; rw [if_neg h2]⟩
    · rintro c _ ⟨rfl, rfl⟩
      have e4 : rotL st v u = rot4 (rot3 s2 v u) (inner s2 v u) u := by unfold rotL; rw [hs2]
      have fin : ∀ s, s = rotL st v u → T Try.prog F.links_Forest_pull [fo bf, vi u] (fp h0 bn e n 6 s) (rt (fun v44 h45 =>
          v44 = .tuple ⟨[]⟩ ∧ T Try.prog F.links_Forest_pull [fo bf, vi v] h45 (rt (fun v46 h47 => v46 = .tuple ⟨[]⟩ ∧
            ((Res.ret (.tuple ⟨[]⟩) = Res.ret unit0) ∧ h47 = fp h0 bn e n 6 (rotateS st v u)))
            (fun v48 h49 => Res.pan v48 = Res.ret unit0 ∧ h49 = fp h0 bn e n 6 (rotateS st v u)))) (fun v48 h49 => Res.pan v48 = Res.ret unit0 ∧ h49 = fp h0 bn e n 6 (rotateS st v u))) := by
        rintro s rfl
        refine (pull_T hd hun p1 p2).mono ?_
        rintro _ _ ⟨rfl, rfl⟩
        refine ⟨rfl, ?_⟩
        have q : ∀ k, k < 3 → pullS (rotL st v u) u v k = rotL st v u v k := by
          intro k hk
          unfold pullS upd2
          rw [if_neg (fun h => ne h.1)]
        refine (pull_T hd hv (by rw [q _ (by decide)]; exact p3) (by rw [q _ (by decide)]; exact p4)).mono ?_
        rintro _ _ ⟨rfl, rfl⟩
        exact ⟨rfl, rfl, rfl⟩
      refine ifP_of (fun h2 => ?_) (fun h2 => ?_)
      · have h2 := of_decide_eq_true h2
        rcases hi with hi | ⟨w, hi, hw⟩
        · omega
        · rw [hi]
          refine nd hd.fp hw ?_
          refine ⟨fp_wr hw (by decide), ?_⟩
          rw [fp_set hw (by decide)]
          refine fin _ ?_
          rw [e4, hi]
          unfold rot4
          rw [if_pos (Int.natCast_nonneg w), Int.toNat_natCast]
      · have h2 := of_decide_eq_false h2
        refine fin _ ?_
        rw [e4]
        unfold rot4
        rw [if_neg h2]

end
end Go.Proofs.Ytgbmkfifjijoiaa
