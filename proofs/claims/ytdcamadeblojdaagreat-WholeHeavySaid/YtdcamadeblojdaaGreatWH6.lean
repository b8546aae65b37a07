import Derived.Test.YtdcamadeblojdaaGreatProg
import Derived.Shelf.Sort.Plain
import Derived.Shelf.Slices.In.SortNone
import Derived.Deep.Slices
import Derived.Deep.Fields
import Derived.ChangeSame
import Derived.SizedLaws
import Derived.WalkKit
import Derived.ProofKit
import Derived.OpenShut
import Derived.ShutString
import Derived.ChangeOld
import Derived.Below
import Derived.Test.YtdcamadeblojdaaGreatWH5
namespace Go.Proofs.YtdcamadeblojdaaGreat
open Go
def ZS.lays189_ren : Go.Shelf.Ren := ⟨fun | 189 => 16 | 125 => 28 | 257 => 27 | 128 => 46 | 129 => 47 | 294 => 37 | 295 => 38 | 296 => 39 | 297 => 40 | 298 => 41 | 299 => 42 | 216 => 43 | 300 => 44 | 301 => 45 | 328 => 50 | 329 => 51 | 330 => 52 | 331 => 53 | 332 => 54 | 215 => 55 | 343 => 56 | n => n, fun | 28 => 27 | 3 => 3 | 46 => 116 | 0 => 0 | 51 => 136 | 53 => 138 | 4 => 4 | 183 => 128 | 182 => 127 | 131 => 133 | 5 => 5 | 9 => 9 | 218 => 162 | 222 => 56 | 228 => 169 | 229 => 170 | n => n, fun | n => n⟩
theorem ZS.lays189 : Go.Proofs.Lays.n189 Tryz.prog ZS.lays189_ren := {
  mixed := by kernel_rfl,
  f125 := Tryz.func28.trans (congrArg some (by kernel_rfl)),
  f128 := Tryz.func46.trans (congrArg some (by kernel_rfl)),
  f129 := Tryz.func47.trans (congrArg some (by kernel_rfl)),
  f189 := Tryz.func16.trans (congrArg some (by kernel_rfl)),
  f215 := Tryz.func55.trans (congrArg some (by kernel_rfl)),
  f216 := Tryz.func43.trans (congrArg some (by kernel_rfl)),
  f257 := Tryz.func27.trans (congrArg some (by kernel_rfl)),
  f294 := Tryz.func37.trans (congrArg some (by kernel_rfl)),
  f295 := Tryz.func38.trans (congrArg some (by kernel_rfl)),
  f296 := Tryz.func39.trans (congrArg some (by kernel_rfl)),
  f297 := Tryz.func40.trans (congrArg some (by kernel_rfl)),
  f298 := Tryz.func41.trans (congrArg some (by kernel_rfl)),
  f299 := Tryz.func42.trans (congrArg some (by kernel_rfl)),
  f300 := Tryz.func44.trans (congrArg some (by kernel_rfl)),
  f301 := Tryz.func45.trans (congrArg some (by kernel_rfl)),
  f328 := Tryz.func50.trans (congrArg some (by kernel_rfl)),
  f329 := Tryz.func51.trans (congrArg some (by kernel_rfl)),
  f330 := Tryz.func52.trans (congrArg some (by kernel_rfl)),
  f331 := Tryz.func53.trans (congrArg some (by kernel_rfl)),
  f332 := Tryz.func54.trans (congrArg some (by kernel_rfl)),
  f343 := Tryz.func56.trans (congrArg some (by kernel_rfl)),
  t0 := Tryz.underlying0,
  a0 := Tryz.isAgg0,
  z0 := Tryz.sizeOf0,
  v0 := Tryz.zeroValue0,
  t3 := Tryz.underlying3,
  a3 := Tryz.isAgg3,
  z3 := Tryz.sizeOf3,
  v3 := Tryz.zeroValue3,
  t4 := Tryz.underlying4,
  a4 := Tryz.isAgg4,
  z4 := Tryz.sizeOf4,
  v4 := Tryz.zeroValue4,
  t5 := Tryz.underlying5,
  a5 := Tryz.isAgg5,
  z5 := Tryz.sizeOf5,
  v5 := Tryz.zeroValue5,
  t9 := Tryz.underlying9,
  a9 := Tryz.isAgg9,
  z9 := Tryz.sizeOf9,
  v9 := Tryz.zeroValue9,
  t28 := Tryz.underlying27,
  a28 := Tryz.isAgg27,
  z28 := Tryz.sizeOf27,
  v28 := Tryz.zeroValue27,
  t46 := Tryz.underlying116,
  a46 := Tryz.isAgg116,
  z46 := Tryz.sizeOf116,
  v46 := Tryz.zeroValue116,
  t51 := Tryz.underlying136,
  a51 := Tryz.isAgg136,
  z51 := Tryz.sizeOf136,
  v51 := Tryz.zeroValue136,
  t53 := Tryz.underlying138,
  a53 := Tryz.isAgg138,
  z53 := Tryz.sizeOf138,
  v53 := Tryz.zeroValue138,
  t131 := Tryz.underlying133,
  a131 := Tryz.isAgg133,
  z131 := Tryz.sizeOf133,
  v131 := Tryz.zeroValue133,
  t182 := Tryz.underlying127,
  a182 := Tryz.isAgg127,
  z182 := Tryz.sizeOf127,
  v182 := Tryz.zeroValue127,
  t183 := Tryz.underlying128,
  a183 := Tryz.isAgg128,
  z183 := Tryz.sizeOf128,
  v183 := Tryz.zeroValue128,
  t218 := Tryz.underlying162,
  a218 := Tryz.isAgg162,
  z218 := Tryz.sizeOf162,
  v218 := Tryz.zeroValue162,
  t222 := Tryz.underlying56,
  a222 := Tryz.isAgg56,
  z222 := Tryz.sizeOf56,
  v222 := Tryz.zeroValue56,
  t228 := Tryz.underlying169,
  a228 := Tryz.isAgg169,
  z228 := Tryz.sizeOf169,
  v228 := Tryz.zeroValue169,
  t229 := Tryz.underlying170,
  a229 := Tryz.isAgg170,
  z229 := Tryz.sizeOf170,
  v229 := Tryz.zeroValue170 }
end Go.Proofs.YtdcamadeblojdaaGreat

namespace Go.Proofs.YtdcamadeblojdaaGreat
open Go Go.Sort
set_option linter.unusedVariables false
set_option linter.unusedSimpArgs false

/-- Rising. -/
def sortL (L : List Nat) : List Nat := L.mergeSort fun x y => decide (x ≤ y)
theorem sortL_perm (L : List Nat) : (sortL L).Perm L := List.mergeSort_perm _ _
theorem sortL_len (L : List Nat) : (sortL L).length = L.length := (sortL_perm L).length_eq
theorem sortL_int (L : List Nat) : ((L.map fun a : Nat => (a : Int)).mergeSort fun x y => decide (x ≤ y)) = (sortL L).map fun a : Nat => (a : Int) := by
  unfold sortL
  rw [List.map_mergeSort (s := fun x y : Int => decide (x ≤ y))]
  intro a _ b _
  exact decide_eq_decide.2 (by omega)
theorem sort_T {own : Own} {h : H} {i : Nat} {v : Value} {L : List Nat} (s : S1 own h i v (natV L)) (hl : L.length < 1000000) :
    T Tryz.prog F.slices_Sort [v] h fun r h' => r = .ret (.tuple ⟨[]⟩) ∧ Fm [i] own h own h' ∧ S1 own h' i v (natV (sortL L)) := by
  refine ⟨⟨Tryz.f16, Tryz.func16, by kernel_rfl, by kernel_rfl⟩, fun w hw => ?_⟩
  rcases s with ⟨e1, rfl⟩ | ⟨b, hb, c, e, zs, rfl, h2, h3⟩
  · have hL : L = [] := by
      cases L with
      | nil => rfl
      | cons a l => simp [natV] at e1
    subst hL
    refine (Any.slices_Sort_int_none ZS.lays189 none 0 w).mono ?_
    rintro e w' ⟨rfl, rfl⟩
    exact ⟨h, hw, Stp.refl h w', rfl, Fm.refl, .inl ⟨by simp [sortL, natV], rfl⟩⟩
  · have hwb := hw b _ h2
    have hbs : b < w.heap.size := (Array.getElem?_eq_some_iff.1 hwb).1
    have cell : ∀ j, j < L.length → ((natV L ++ zs)[j]? : Option Value) = some (.int .i64 ((L.map fun a : Nat => (a : Int)).toArray[j]!)) := fun j hj => by
      rw [List.getElem?_append_left (by rw [natV_length]; exact hj), natV_get hj]
      simp [hj]
    have hH : Holds (Value.int .i64) w b 0 (L.map fun a : Nat => (a : Int)).toArray := fun j hj => by
      have hj : j < L.length := by simpa using hj
      constructor
      · unfold World.cell?
        rw [hwb]
        show (⟨natV L ++ zs⟩ : Array Value)[0 + j]? = _
        rw [Nat.zero_add, List.getElem?_toArray]
        exact cell j hj
      · unfold World.frozen?
        rw [hwb]
        simp
    have put : putCells (Value.int .i64) 0 ((sortL L).map fun a : Nat => (a : Int)).toArray ⟨natV L ++ zs⟩ = ⟨natV (sortL L) ++ zs⟩ := by
      have sl := sortL_len L
      apply Array.ext_getElem?
      intro k
      unfold putCells
      rw [Array.getElem?_mapIdx, List.getElem?_toArray, List.getElem?_toArray]
      by_cases hk : k < L.length
      · rw [cell k hk, List.getElem?_append_left (by rw [natV_length]; omega), natV_get (by omega)]
        simp [show k < (sortL L).length by omega]
      · rw [List.getElem?_append_right (by rw [natV_length]; omega), List.getElem?_append_right (by rw [natV_length]; omega), natV_length, natV_length, sl]
        cases zs[k - L.length]? with
        | none => rfl
        | some y => simp [show ¬ k < (sortL L).length by omega]
    rw [natV_length]
    have := Any.slices_Sort_int ZS.lays189 b 0 c (L.map fun a : Nat => (a : Int)) w hH hbs (by rw [List.length_map]; omega)
    rw [List.length_map, sortL_int] at this
    refine this.mono ?_
    rintro e' w' ⟨rfl, n, os, rfl⟩
    refine ⟨fun x => if x = b then some (.cells ⟨natV (sortL L) ++ zs⟩ e (0, 0)) else h x, fun x o hx => ?_, ⟨⟨rfl, rfl, rfl⟩, ?_, fun x hx hn => ?_⟩, rfl, ?_, ?_⟩
    · have hsz : x < w.heap.size → (grow (putRow (Value.int .i64) (Go.Sort.ahead w n) b 0 ((sortL L).map fun a : Nat => (a : Int)).toArray) os).heap[x]? = (w.heap.modify b (onCells (putCells (Value.int .i64) 0 ((sortL L).map fun a : Nat => (a : Int)).toArray)))[x]? := fun hlt => by
        show ((w.heap.modify b _) ++ os)[x]? = _
        rw [Array.getElem?_append_left (by simpa using hlt)]
      (try dsimp only at hx)
      by_cases e1 : x = b
      · subst e1
        rw [if_pos rfl] at hx
        rw [hsz hbs, Array.getElem?_modify, if_pos rfl, hwb, ← hx]
        show some (Obj.cells _ e (0, 0)) = _
        rw [put]
      · rw [if_neg e1] at hx
        have hwx := hw x o hx
        rw [hsz (Array.getElem?_eq_some_iff.1 hwx).1, Array.getElem?_modify, if_neg (Ne.symm e1)]
        exact hwx
    · simp
    · have e1 : x ≠ b := by rintro rfl; rw [h2] at hn; cases hn
      refine ⟨?_, by rw [if_neg e1]; exact hn⟩
      show ((w.heap.modify b _) ++ os)[x]? = _
      rw [Array.getElem?_append_left (by simpa using hx), Array.getElem?_modify, if_neg (Ne.symm e1)]
    · refine Fm.kp (b := b) (fun x o hne hx => ?_) hb ⟨_, if_pos rfl⟩
      rw [if_neg hne]; exact hx
    · refine .inr ⟨b, hb, c, e, zs, by rw [natV_length, sortL_len], if_pos rfl, ?_⟩
      rw [natV_length] at h3 ⊢
      rw [sortL_len]; exact h3

end Go.Proofs.YtdcamadeblojdaaGreat

namespace Go.Proofs.YtdcamadeblojdaaGreat
open Go
set_option linter.unusedVariables false
set_option linter.unusedSimpArgs false
set_option maxHeartbeats 1000000

def sidesFrom (left : Int) (es : Nat → Ed) : Nat → Nat → Int × Int
  | _, 0 => (0, 0)
  | i, k + 1 => if (decide ((es i).f < left) == decide ((es i).t < left)) = true then (140, (i : Int)) else sidesFrom left es (i + 1) k
/-- The fault of a graph and a number of nodes of its left side. -/
def sidesG (n : Int) (m : Nat) (es : Nat → Ed) (left : Int) : Int × Int :=
  if (faultG n m es).1 ≠ 0 then faultG n m es else if left < 0 ∨ n < left then (140, 0) else sidesFrom left es 0 m
theorem sidesFrom_0 {left : Int} {es : Nat → Ed} : ∀ {k i : Nat}, (sidesFrom left es i k).1 = 0 → ∀ j, i ≤ j → j < i + k → (decide ((es j).f < left) == decide ((es j).t < left)) = false
  | 0, i, _, j, h1, h2 => by omega
  | k + 1, i, h, j, h1, h2 => by
    unfold sidesFrom at h
    split at h
    · cases h
    · rename_i hh
      by_cases e : j = i
      · subst e; simpa using hh
      · exact sidesFrom_0 h j (by omega) (by omega)
/-- Two sides. -/
structure Sd (l wd m : Nat) (es : Nat → Ed) : Prop where
  gd : Gd (l + wd) m es
  sd : ∀ i, i < m → lfE es i < l ∧ l ≤ rtE es i ∧ rtE es i < l + wd
theorem Sd.of {n left : Int} {m : Nat} {es : Nat → Ed} (h : (sidesG n m es left).1 = 0) : ∃ l wd : Nat, left = l ∧ n = ((l + wd : Nat) : Int) ∧ Sd l wd m es := by
  unfold sidesG at h
  split at h
  · rename_i h1; exact absurd h h1
  · rename_i h1
    have h1 : (faultG n m es).1 = 0 := by omega
    obtain ⟨n', rfl, gd⟩ := Gd.of h1
    split at h
    · cases h
    · rename_i h2
      refine ⟨left.toNat, n' - left.toNat, by omega, by omega, ?_⟩
      have e : left.toNat + (n' - left.toNat) = n' := by omega
      rw [← e] at gd
      refine ⟨gd, fun i hi => ?_⟩
      have k := sidesFrom_0 h i (by omega) (by omega)
      obtain ⟨f1, f2⟩ := gd.fr hi
      obtain ⟨t1, t2⟩ := gd.to hi
      rw [f1, t1] at k
      have k2 : ¬ ((decide (((frE es i : Nat) : Int) < left)) = (decide (((toE es i : Nat) : Int) < left))) := fun e => by rw [e] at k; simp at k
      rw [decide_eq_decide] at k2
      unfold lfE rtE
      omega
section
variable {h : H} {w : List Value} {n : Int} {m : Nat} {es : Nat → Ed}
theorem Sides_T (G : GrA h w n m es) (left : Int) : T Tryz.prog F.bimatch_Sides [.agg ⟨w⟩, .int .i64 left] h fun r h' =>
    r = .ret (.agg ⟨[.int .i64 (sidesG n m es left).1, .int .i64 (sidesG n m es left).2]⟩) ∧ Ext h h' := by
  refine E_bimatch_Sides ?_
  unfold B_bimatch_Sides
  refine new_bl ?_
  intro b1 g hb x B
  refine new_bl ?_
  intro b3 g3 hb3 x3 B3
  have B1_ := B.ext x3
  have hb3h := x.new hb3
  have xh := x.trans' x3
  have out : ∀ {q : H} {p : Int × Int}, Ext g3 q → (∃ z, z.length = 2 ∧ Bl q b3 z) → sidesG n m es left = p → stN q (bk b3) [.int .i64 p.1, .int .i64 p.2] 2 fun h8 => ldN h8 (bk b3) 2 fun x9 =>
      Res.ret (.agg ⟨x9⟩) = .ret (.agg ⟨[.int .i64 (sidesG n m es left).1, .int .i64 (sidesG n m es left).2]⟩) ∧ Ext h h8 := by
    rintro q p xq ⟨z, hz, Bz⟩ rfl
    refine Bz.stN rfl hz (by simp [Value.oneCell']) ?_
    intro q2 kp B2
    refine B2.ldN rfl ⟨rfl, (xh.trans' xq).of_kp kp hb3h⟩
  refine B1_.ldN G.one.1 ((Check_T (G.ext xh)).mono ?_)
  rintro _ g7 ⟨rfl, x7⟩
  refine rt_ret ⟨_, rfl, rfl, new_bl_st rfl rfl (by simp [Value.oneCell']) ?_⟩
  intro b9 g9 hb9 x9 B9
  have x79 := x7.trans' x9
  have B3_ : Bl g9 b3 _ := B3.ext x79
  refine ⟨_, B9.ld rfl, ifP_of (fun h1 => ?_) (fun h1 => ?_)⟩
  · have h1 : (faultG n m es).1 ≠ 0 := by simpa using h1
    have e : sidesG n m es left = faultG n m es := if_pos h1
    refine B9.ldN rfl (out (p := (faultG n m es)) x79 ⟨_, rfl, B3_⟩ e)
  have h1 : (faultG n m es).1 = 0 := by simpa using h1
  have B1_ := B1_.ext x79
  obtain ⟨gv, rfl, Gv⟩ := G.gs
  have hm : m ≤ 4096 := by obtain ⟨_, _, gd⟩ := Gd.of h1; exact gd.m1
  have bad : (left < 0 ∨ n < left) → sidesG n m es left = (140, 0) := fun hh => by unfold sidesG; rw [if_neg (by omega), if_pos hh]
  refine ifP_of (fun h2 => out (p := (140, 0)) x79 ⟨_, rfl, B3_⟩ (bad (.inl (of_decide_eq_true h2)))) (fun h2 => ?_)
  have h2 := of_decide_eq_false h2
  refine ⟨_, B1_.ld rfl, ifP_of (fun h3 => out (p := (140, 0)) x79 ⟨_, rfl, B3_⟩ (bad (.inr (of_decide_eq_true h3)))) (fun h3 => ?_)⟩
  have h3 := of_decide_eq_false h3
  have e : sidesG n m es left = sidesFrom left es 0 m := by unfold sidesG; rw [if_neg (by omega), if_neg (by omega)]
  have Gx := Gv.ext (xh.trans' x79)
  refine ⟨_, B1_.ld rfl, Gx.len fun _ _ => ?_⟩
  let I : (Int × Unit) → H → Nat → Prop := fun s g2 k => ∃ i : Nat, s.1 = i ∧ i ≤ m ∧ k = m - i ∧ Ext g9 g2 ∧ sidesFrom left es i (m - i) = sidesFrom left es 0 m
  refine ⟨fun s g2 => ∃ k, I s g2 k, rk I, rk_wf I, ⟨_, 0, rfl, by omega, rfl, Ext.refl _, rfl⟩, ?_⟩
  intro s g2 hI
  obtain ⟨i, e1, hi, hz, xq, hf⟩ := mu_spec hI
  generalize hkk : mu I ((s, ()), g2) = km at *
  change s = (i : Int) at e1
  subst e1
  refine ifP_of (fun h4 => ?_) (fun h4 => ?_)
  · have him : i < m := by have := of_decide_eq_true h4; omega
    refine (Gx.ext xq).at him fun a29 e29 => ⟨(es i).vs, rfl, e29, ?_⟩
    refine new_bl_st rfl rfl (ed_one _) ?_
    intro b31 g31 hb31 x31 B31
    obtain ⟨j, hj⟩ : ∃ j, m - i = j + 1 := ⟨m - i - 1, by omega⟩
    refine ⟨_, B31.ed.1, _, B31.ed.2.1, ifP_of (fun h5 => ?_) (fun h5 => ?_)⟩
    · refine out (p := (140, (i : Int))) (x79.trans' (xq.trans' x31)) ⟨_, rfl, B3_.ext (xq.trans' x31)⟩ ?_
      rw [e, ← hf, hj]
      unfold sidesFrom
      rw [if_pos h5]
    · rw [i64_inc (by omega)]
      refine mu_next (I := I) (k := m - (i + 1)) ⟨i + 1, rfl, him, rfl, xq.trans' x31, ?_⟩ (by rw [hkk, hz]; omega)
      rw [← hf, hj, show m - (i + 1) = j by omega]
      conv => rhs; unfold sidesFrom
      rw [if_neg (by rw [h5]; simp)]
  · have him : i = m := by have := of_decide_eq_false h4; omega
    subst him
    refine out (p := (0, 0)) (x79.trans' xq) ⟨_, rfl, B3_.ext xq⟩ ?_
    rw [e, ← hf, Nat.sub_self]
    rfl
end

end Go.Proofs.YtdcamadeblojdaaGreat

namespace Go.Proofs.YtdcamadeblojdaaGreat
open Go
set_option linter.unusedVariables false
set_option linter.unusedSimpArgs false
set_option maxHeartbeats 2000000

theorem S1.ad {own : Own} {h : H} {i n j : Nat} {v : Value} {f : Nat → Int} {K : Addr → Prop} (s : S1 own h i v (ints n f)) (hj : j < n)
    (k : ∀ a : Addr, hcell h a = some (.int .i64 (f j)) → (∀ (x : Int) (K' : H → Prop), (∀ g, Fm [i] own h own g → S1 own g i v (ints n (upd f j x)) → K' g) → stC h a (.int .i64 x) K') → K a) : ixS v (j : Int) 1 K := by
  have A := fun K' k' => s.at (K := K') (ints_get hj) k'
  have S := fun x (K' : H → Prop) k' => s.setI (x := x) (K := K') hj k'
  rcases s with ⟨e, rfl⟩ | ⟨b, hb, c, e, zs, rfl, h2, h3⟩
  · have := congrArg List.length e
    rw [ints_length] at this
    simp at this; omega
  · have A1 := A (fun a => hcell h a = some (.int .i64 (f j))) (fun a e => e)
    exact ⟨A1.1, A1.2.1, k _ A1.2.2 fun x K' k' => (S x K' k').2.2⟩
section
variable {l wd m j v c : Nat} {es : Nat → Ed} {bs : Nat → Nat → Nat}
theorem BsP.zero : BsP l wd 0 es (fun _ _ => 0) := ⟨fun _ _ _ _ => Nat.le_refl _, fun _ _ i _ _ h => by omega, fun i _ _ h => by omega⟩
theorem BsP.no (B : BsP l wd j es bs) (hv : lfE es j = v) (hc : rtE es j = l + c) (h : (es j).k ≤ 0 ∨ (0 < bs v c ∧ (es j).k ≤ (es (bs v c - 1)).k)) : BsP l wd (j + 1) es bs := by
  refine ⟨fun v c hv hc => by have := B.bm v c hv hc; omega, B.bw, fun i v' c' hi hv' hc' e1 e2 e3 => ?_⟩
  by_cases e : i = j
  · subst e
    have ev : v' = v := by omega
    have ec : c' = c := by omega
    rw [ev, ec]
    rcases h with h | h
    · omega
    · exact h
  · exact B.le i v' c' (by omega) hv' hc' e1 e2 e3
/-- A heavier edge. -/
def upBs (bs : Nat → Nat → Nat) (v c j : Nat) (v' c' : Nat) : Nat := if v' = v ∧ c' = c then j + 1 else bs v' c'
theorem BsP.yes (B : BsP l wd j es bs) (hv : lfE es j = v) (hc : rtE es j = l + c) (hk : 0 < (es j).k) (h : bs v c = 0 ∨ (es (bs v c - 1)).k < (es j).k) : BsP l wd (j + 1) es (upBs bs v c j) := by
  refine ⟨fun v' c' hv' hc' => ?_, fun v' c' i hv' hc' hb => ?_, fun i v' c' hi hv' hc' e1 e2 e3 => ?_⟩
  · unfold upBs; split
    · omega
    · have := B.bm v' c' hv' hc'; omega
  · unfold upBs at hb; split at hb
    · rename_i e
      have : i = j := by omega
      subst this
      exact ⟨by omega, by omega, hk⟩
    · exact B.bw v' c' i hv' hc' hb
  · unfold upBs; split
    · rename_i e
      obtain ⟨rfl, rfl⟩ := e
      refine ⟨by omega, ?_⟩
      rw [Nat.add_sub_cancel]
      by_cases e : i = j
      · subst e; exact Int.le_refl _
      · have := B.le i v' c' (by omega) hv' hc' e1 e2 e3
        rcases h with h | h <;> omega
    · rename_i e
      by_cases e4 : i = j
      · subst e4; exact absurd ⟨by omega, by omega⟩ e
      · exact B.le i v' c' (by omega) hv' hc' e1 e2 e3
theorem lkE_bd (gd : ∀ i, i < m → -1048576 ≤ (es i).k ∧ (es i).k ≤ 1048576) : ∀ {L : List Nat}, (∀ i, i ∈ L → i < m) → -((L.length : Int) * 1048576) ≤ lkE es L ∧ lkE es L ≤ (L.length : Int) * 1048576
  | [], _ => by show -(((0 : Nat) : Int) * 1048576) ≤ (0 : Int) ∧ (0 : Int) ≤ ((0 : Nat) : Int) * 1048576; omega
  | i :: L, h => by
    have a := lkE_bd gd (L := L) fun x hx => h x (List.mem_cons_of_mem _ hx)
    have b := gd i (h i List.mem_cons_self)
    show -(((L.length + 1 : Nat) : Int) * 1048576) ≤ (es i).k + lkE es L ∧ (es i).k + lkE es L ≤ ((L.length + 1 : Nat) : Int) * 1048576
    omega
theorem lkE_take {L : List Nat} {j : Nat} (hj : j < L.length) : lkE es (L.take (j + 1)) = lkE es (L.take j) + (es L[j]).k := by
  rw [List.take_add_one, List.getElem?_eq_getElem hj, lkE_app]
  show _ + ((es L[j]).k + 0) = _
  omega
end
/-- What is done for two sides. -/
def BAs (p1_left p2_kind : Int) (b1 : Nat) (R : Res → H → Prop) (h9 : H) : Prop :=
  ldI h9 ((bk b1).add 0) .i64 fun x12 =>
  mkS p1_left p1_left 24 [.slice none 0 0] 27 h9 fun b13 h14 =>
  newP h14 (.cells ⟨[.int .i64 p1_left, .int .i64 x12, .slice (some (bk b13)) p1_left.toNat p1_left.toNat, .slice none 0 0]⟩ 55 (0, 0)) fun b15 h16 =>
  ldV h16 ((bk b15).add 2) fun x17 =>
  slcP x17 fun a18 l19 c20 =>
  ∃ (I21 : (Int × Unit) → H → Prop) (r22 : (Int × Unit) × H → (Int × Unit) × H → Prop), WellFounded r22 ∧ I21 (0, ()) h16 ∧
  ∀ (s24 : Int) (h23 : H), I21 (s24, ()) h23 →
  ifP (decide (s24 < ((l19 : Nat) : Int))) (ldV h23 ((bk b15).add 2) fun x25 =>
  ldI h23 ((bk b1).add 0) .i64 fun x26 =>
  mkS (IntKind.i64.wrap (x26 - p1_left)) (IntKind.i64.wrap (x26 - p1_left)) 8 [.int .i64 0] 3 h23 fun b27 h28 =>
  ixS x25 s24 1 fun a29 =>
  stC h28 a29 (.slice (some (bk b27)) ((IntKind.i64.wrap (x26 - p1_left)).toNat) ((IntKind.i64.wrap (x26 - p1_left)).toNat)) fun h30 =>
  I21 ((IntKind.i64.wrap (s24 + 1)), ()) h30 ∧ r22 (((IntKind.i64.wrap (s24 + 1)), ()), h30) ((s24, ()), h23))
  (ldV h23 ((bk b1).add 1) fun x31 =>
  slcP x31 fun a32 l33 c34 =>
  ∃ (I35 : (Int × Unit) → H → Prop) (r36 : (Int × Unit) × H → (Int × Unit) × H → Prop), WellFounded r36 ∧ I35 (0, ()) h23 ∧
  ∀ (s38 : Int) (h37 : H), I35 (s38, ()) h37 →
  ifP (decide (s38 < ((l33 : Nat) : Int))) (ixS x31 s38 4 fun a39 =>
  ldN h37 a39 4 fun x40 =>
  newP h37 (.cells ⟨[.int .i64 0, .int .i64 0, .int .i64 0, .int .i64 0]⟩ 44 (0, 0)) fun b41 h42 =>
  stN h42 (bk b41) x40 4 fun h43 =>
  ldV h43 ((bk b15).add 3) fun x44 =>
  ldI h43 ((bk b41).add 3) .i64 fun x45 =>
  newP h43 (.cells ⟨[.int .i64 x45]⟩ 2 (0, 0)) fun b46 h47 =>
  apP x44 (.slice (some (bk b46)) 1 1) h47 1 2 8 [.int .i64 0] fun s48 h49 =>
  oneP s48 (stC h49 ((bk b15).add 3) s48 fun h50 =>
  ldI h50 ((bk b41).add 0) .i64 fun x51 =>
  ldI h50 ((bk b41).add 1) .i64 fun x52 =>
  ldI h50 ((bk b41).add 0) .i64 fun x53 =>
  ldI h50 ((bk b41).add 1) .i64 fun x54 =>
  ldV h50 ((bk b15).add 2) fun x55 =>
  ixS x55 (if x52 < x51 then x52 else x51) 1 fun a56 =>
  ldV h50 a56 fun x57 =>
  ixS x57 (IntKind.i64.wrap ((if x53 < x54 then x54 else x53) - p1_left)) 1 fun a58 =>
  ldI h50 ((bk b41).add 3) .i64 fun x59 =>
  ifP (decide (0 < x59)) (ldI h50 a58 .i64 fun x60 =>
  ifP (decide (x60 = 0)) (stC h50 a58 (.int .i64 (IntKind.i64.wrap (s38 + 1))) fun h61 =>
  I35 ((IntKind.i64.wrap (s38 + 1)), ()) h61 ∧ r36 (((IntKind.i64.wrap (s38 + 1)), ()), h61) ((s38, ()), h37)) (ldI h50 ((bk b41).add 3) .i64 fun x62 =>
  ldV h50 ((bk b15).add 3) fun x63 =>
  ldI h50 a58 .i64 fun x64 =>
  ixS x63 (IntKind.i64.wrap (x64 - 1)) 1 fun a65 =>
  ldI h50 a65 .i64 fun x66 =>
  ifP (decide (x66 < x62)) (stC h50 a58 (.int .i64 (IntKind.i64.wrap (s38 + 1))) fun h67 =>
  I35 ((IntKind.i64.wrap (s38 + 1)), ()) h67 ∧ r36 (((IntKind.i64.wrap (s38 + 1)), ()), h67) ((s38, ()), h37))
  (I35 ((IntKind.i64.wrap (s38 + 1)), ()) h50 ∧ r36 (((IntKind.i64.wrap (s38 + 1)), ()), h50) ((s38, ()), h37)))) (I35 ((IntKind.i64.wrap (s38 + 1)), ()) h50 ∧ r36 (((IntKind.i64.wrap (s38 + 1)), ()), h50) ((s38, ()), h37))))
  (∃ J68 : (Value × Value × Unit) → H → Prop, (ifP (decide (p2_kind = 1)) (T Tryz.prog F.assign_table_byRows [.pointer (some (bk b15))] h37 (rt (fun v72 h73 =>
  ∃ r74 : Value, ∃ r75 : Value, v72 = .tuple ⟨[r74, r75]⟩ ∧
  J68 (r74, r75, ()) h73) (fun v76 h77 => R (.pan v76) h77)))
  (T Tryz.prog F.assign_table_byTrees [.pointer (some (bk b15))] h37 (rt (fun v78 h79 =>
  ∃ r80 : Value, ∃ r81 : Value, v78 = .tuple ⟨[r80, r81]⟩ ∧
  J68 (r80, r81, ()) h79) (fun v82 h83 => R (.pan v82) h83)))) ∧
  (∀ (match_70 : Value) (pot_71 : Value) (h69 : H), J68 (match_70, pot_71, ()) h69 →
  T Tryz.prog F.slices_Sort [match_70] h69 (rt (fun v84 h85 =>
  v84 = .tuple ⟨[]⟩ ∧
  slcP match_70 fun a86 l87 c88 =>
  ∃ (I89 : (Int × Int × Unit) → H → Prop) (r90 : (Int × Int × Unit) × H → (Int × Int × Unit) × H → Prop), WellFounded r90 ∧ I89 (0, 0, ()) h85 ∧
  ∀ (cost_92 : Int) (s93 : Int) (h91 : H), I89 (cost_92, s93, ()) h91 →
  ifP (decide (s93 < ((l87 : Nat) : Int))) (ixS match_70 s93 1 fun a94 =>
  ldI h91 a94 .i64 fun x95 =>
  ldV h91 ((bk b15).add 3) fun x96 =>
  ixS x96 x95 1 fun a97 =>
  ldI h91 a97 .i64 fun x98 =>
  I89 ((IntKind.i64.wrap (cost_92 + x98)), (IntKind.i64.wrap (s93 + 1)), ()) h91 ∧ r90 (((IntKind.i64.wrap (cost_92 + x98)), (IntKind.i64.wrap (s93 + 1)), ()), h91) ((cost_92, s93, ()), h91))
  (R (.ret (.tuple ⟨[match_70, pot_71, .int .i64 cost_92, .int .i64 0]⟩)) h91)) (fun v99 h100 => R (.pan v99) h100)))))
section
variable {own : Own} {h0 h9 : H} {b1 l wd m : Nat} {gv : Value} {es : Nat → Ed} {R : Res → H → Prop} {kind : Int}
theorem solveAs (bs : Bs h0 own h9) (k15 : B1 own h9 15 b1 [.int .i64 ((l + wd : Nat) : Int), gv]) (Gv : Gs h0 gv m es) (sd : Sd l wd m es) (hk : kind = 1 ∨ kind = 2)
    (hR : ∀ (own' : Own) (h' : H) (mv pv : Value) (L : List Nat) (pt : Nat → Int), Bs h0 own' h' → S1 own' h' 12 mv (natV (sortL L)) → S1 own' h' 5 pv (ints (l + wd) pt) → MaR (l + wd) m l es L pt →
      R (.ret (.tuple ⟨[mv, pv, .int .i64 (lkE es L), .int .i64 0]⟩)) h') : BAs (l : Int) kind b1 R h9 := by
  have hl := sd.gd.n1
  have hm := sd.gd.m1
  unfold BAs
  refine k15.rI rfl ?_
  refine mk_S1 2 (by omega) (by omega) ?_
  intro b13 h14 hb13 x13 k2
  have bs := bs.nw (j := 2) x13 hb13
  have k15 := k15.nw (j := 2) x13 hb13
  have k2 := k2 own
  generalize own1 own b13 2 = ow at *
  refine new_bl ?_
  intro b15 h16 hb15 x15 B15
  have k1 : B1 (own1 ow b15 1) h16 1 b15 _ := B1.new B15
  have bs := bs.nw (j := 1) x15 hb15
  have k15 := k15.nw (j := 1) x15 hb15
  have k2 := k2.nw (j := 1) x15 hb15
  generalize own1 ow b15 1 = ow at *
  simp only [Int.toNat_natCast] at k1 ⊢
  clear hb13 x13 hb15 x15 B15
  refine k1.rV rfl (slcP_mk ?_)
  -- the rows of the table
  let I1 : (Int × Unit) → H → Nat → Prop := fun s g z => ∃ (j : Nat) (ow : Own) (vals : Nat → Value), s.1 = j ∧ j ≤ l ∧ z = l - j ∧ Bs h0 ow g ∧ B1 ow g 15 b1 [.int .i64 ((l + wd : Nat) : Int), gv] ∧
    B1 ow g 1 b15 [.int .i64 l, .int .i64 ((l + wd : Nat) : Int), .slice (some (bk b13)) l l, .slice none 0 0] ∧ S1 ow g 2 (.slice (some (bk b13)) l l) (va l vals) ∧ ∀ v, v < j → S1 ow g (40 + v) (vals v) (ints wd fun _ => 0)
  refine ⟨fun p q => ∃ k, I1 p q k, rk I1, rk_wf I1, ⟨_, 0, ow, _, rfl, by omega, rfl, bs, k15, k1, k2, fun v hv => by omega⟩, ?_⟩
  clear bs k15 k1 k2
  intro s g hI
  obtain ⟨j, ow, vals, e1, hj, hz, bs, k15, k1, k2, kv⟩ := mu_spec hI
  generalize hkk : mu I1 ((s, ()), g) = km at *
  change s = (j : Int) at e1
  subst e1
  have hlt : j < l → l - (j + 1) < mu I1 (((j : Int), ()), g) := fun h => by rw [hkk, hz]; exact sub_dec h
  clear hI
  refine ifP_of (fun h1 => ?_) (fun h1 => ?_)
  · have hjl : j < l := by have := of_decide_eq_true h1; omega
    have ew : IntKind.i64.wrap (((l + wd : Nat) : Int) - l) = (wd : Int) := by rw [show ((l + wd : Nat) : Int) - l = wd by omega]; exact w64_in (by omega) (by omega)
    refine k1.rV rfl (k15.rI rfl ?_)
    simp only [ew]
    refine mk_ints (40 + j) (by omega) (by omega) ?_
    intro b27 h28 hb27 x27 kj
    have kv : ∀ v, v < j → S1 (own1 ow b27 (40 + j)) h28 (40 + v) (vals v) (ints wd fun _ => 0) := fun v hv => (kv v hv).nw x27 hb27
    have bs := bs.nw (j := 40 + j) x27 hb27
    have k15 := k15.nw (j := 40 + j) x27 hb27
    have k1 := k1.nw (j := 40 + j) x27 hb27
    have k2 := k2.nw (j := 40 + j) x27 hb27
    have kj := kj ow
    generalize own1 ow b27 (40 + j) = ow at *
    simp only [Int.toNat_natCast]
    refine k2.setV hjl fun g2 F2 k2 => ?_
    have bs := bs.fm F2 (by simp <;> omega)
    have k15 := k15.fm F2 (by simp <;> omega)
    have k1 := k1.fm F2 (by simp <;> omega)
    have kj := kj.fm F2 (by simp; omega)
    rw [i64_inc (by omega)]
    refine mu_next (I := I1) (k := l - (j + 1)) ⟨j + 1, ow, _, rfl, hjl, rfl, bs, k15, k1, k2, fun v hv => ?_⟩ (hlt hjl)
    by_cases e : v = j
    · subst e
      unfold updV; rw [if_pos rfl]; exact kj
    · unfold updV; rw [if_neg e]
      exact (kv v (by omega)).fm F2 (by simp; omega)
  have hjl : j = l := by have := of_decide_eq_false h1; omega
  rw [hjl] at kv
  clear hlt hkk hz h1 hj hjl
  refine k15.rV rfl ((Gv.ext bs.ext).len fun _ _ => ?_)
  -- the heaviest edges
  let I2 : (Int × Unit) → H → Nat → Prop := fun s g z => ∃ (j : Nat) (ow : Own) (vc : Value) (tb : Nat → Nat → Nat), s.1 = j ∧ j ≤ m ∧ z = m - j ∧ Bs h0 ow g ∧ 
    B1 ow g 1 b15 [.int .i64 l, .int .i64 ((l + wd : Nat) : Int), .slice (some (bk b13)) l l, vc] ∧ S1 ow g 2 (.slice (some (bk b13)) l l) (va l vals) ∧ S1 ow g 3 vc (ints j (ckE es)) ∧
    (∀ v, v < l → S1 ow g (40 + v) (vals v) (ints wd fun c => (tb v c : Nat))) ∧ BsP l wd j es tb ∧ ∀ v c i, tb v c = i + 1 → i < j ∧ 0 < (es i).k
  refine ⟨fun p q => ∃ k, I2 p q k, rk I2, rk_wf I2, ⟨_, 0, ow, .slice none 0 0, fun _ _ => 0, rfl, by omega, rfl, bs, k1, k2, S1.nil, kv, BsP.zero, fun v c i h => absurd (show 0 = i + 1 from h) (by omega)⟩, ?_⟩
  clear bs k1 k2 kv k15
  intro s g hI
  obtain ⟨j, ow, vc, tb, e1, hj, hz, bs, k1, k2, k3, kv, B, hb0⟩ := mu_spec hI
  generalize hkk : mu I2 ((s, ()), g) = km at *
  change s = (j : Int) at e1
  subst e1
  have hlt : j < m → m - (j + 1) < mu I2 (((j : Int), ()), g) := fun h => by rw [hkk, hz]; exact sub_dec h
  clear hI
  refine ifP_of (fun h1 => ?_) (fun h1 => ?_)
  · have hjm : j < m := by have := of_decide_eq_true h1; omega
    refine (Gv.ext bs.ext).at hjm fun a39 e39 => ⟨(es j).vs, rfl, e39, ?_⟩
    refine new_bl_st rfl rfl (ed_one _) ?_
    intro b41 g41 hb41 x41 B41
    have k16 : B1 (own1 ow b41 16) g41 16 b41 _ := B1.new B41
    have kv : ∀ v, v < l → S1 (own1 ow b41 16) g41 (40 + v) (vals v) (ints wd fun c => (tb v c : Nat)) := fun v hv => (kv v hv).nw x41 hb41
    have bs := bs.nw (j := 16) x41 hb41
    have k1 := k1.nw (j := 16) x41 hb41
    have k2 := k2.nw (j := 16) x41 hb41
    have k3 := k3.nw (j := 16) x41 hb41
    generalize own1 ow b41 16 = ow at *
    clear hb41 x41 B41
    refine k1.rV rfl (k16.rI rfl ?_)
    refine k3.push (l := 1) rfl (by simp [Value.oneCell']) (by simp) (by omega) (by rw [ints_length]; show _ + 1 < 1000000; omega) ?_
    intro bx gm vc' ow' g4 hbx xm F4 k3
    have bs := bs.fm F4 (by simp <;> omega)
    have k1 := k1.fm F4 (by simp <;> omega)
    have k2 := k2.fm F4 (by simp <;> omega)
    have k16 := k16.fm F4 (by simp <;> omega)
    have kv : ∀ v, v < l → S1 ow' g4 (40 + v) (vals v) (ints wd fun c => (tb v c : Nat)) := fun v hv => (kv v hv).fm F4 (by simp; omega)
    obtain ⟨sa, sl, sc, rfl⟩ := k3.isS
    refine oneP_mk (k1.st (j := 3) (by simp) fun g5 F5 k1 => ?_)
    simp only [List.set] at k1
    have bs := bs.fm F5 (by simp <;> omega)
    have k2 := k2.fm F5 (by simp <;> omega)
    have k3 := k3.fm F5 (by simp <;> omega)
    have k16 := k16.fm F5 (by simp <;> omega)
    have kv : ∀ v, v < l → S1 ow' g5 (40 + v) (vals v) (ints wd fun c => (tb v c : Nat)) := fun v hv => (kv v hv).fm F5 (by simp; omega)
    have k3 : S1 ow' g5 3 (.slice sa sl sc) (ints (j + 1) (ckE es)) := by rw [ints_push_]; exact k3
    clear F4 F5 hbx xm
    generalize (.slice sa sl sc : Value) = vc1 at *
    obtain ⟨f1, f2⟩ := sd.gd.fr hjm
    obtain ⟨t1, t2⟩ := sd.gd.to hjm
    obtain ⟨s1, s2, s3⟩ := sd.sd j hjm
    have kb := sd.gd.k j hjm
    obtain ⟨c, hc⟩ : ∃ c, rtE es j = l + c := ⟨rtE es j - l, by omega⟩
    have hcw : c < wd := by omega
    refine k16.rI rfl (k16.rI rfl (k16.rI rfl (k16.rI rfl (k1.rV rfl ?_))))
    have ea : (if (es j).t < (es j).f then (es j).t else (es j).f) = ((lfE es j : Nat) : Int) := by rw [f1, t1]; unfold lfE; split <;> omega
    have eb : IntKind.i64.wrap ((if (es j).f < (es j).t then (es j).t else (es j).f) - l) = (c : Int) := by
      have : (if (es j).f < (es j).t then (es j).t else (es j).f) = ((l + c : Nat) : Int) := by rw [← hc, f1, t1]; unfold rtE; split <;> omega
      rw [this, show ((l + c : Nat) : Int) - l = c by omega]; exact w64_in (by omega) (by omega)
    rw [ea, eb]
    refine k2.rdV s1 ((kv _ s1).ad hcw fun a58 e58 st58 => ?_)
    have bm := B.bm _ c s1 hcw
    have ei : IntKind.i64.wrap ((j : Int) + 1) = ((j + 1 : Nat) : Int) := i64_inc (by omega)
    rw [ei]
    have keep : ((es j).k ≤ 0 ∨ (0 < tb (lfE es j) c ∧ (es j).k ≤ (es (tb (lfE es j) c - 1)).k)) → (∃ k, I2 (((j + 1 : Nat) : Int), ()) g5 k) ∧ rk I2 ((((j + 1 : Nat) : Int), ()), g5) (((j : Int), ()), g) := fun hno =>
      mu_next (I := I2) (k := m - (j + 1)) ⟨j + 1, ow', vc1, tb, rfl, hjm, rfl, bs, k1, k2, k3, kv, B.no rfl hc hno, fun v c i h => by have := hb0 v c i h; exact ⟨by omega, this.2⟩⟩ (hlt hjm)
    have take : 0 < (es j).k → (tb (lfE es j) c = 0 ∨ (es (tb (lfE es j) c - 1)).k < (es j).k) → stC g5 a58 (.int .i64 ((j + 1 : Nat) : Int)) fun h61 => (∃ k, I2 (((j + 1 : Nat) : Int), ()) h61 k) ∧ rk I2 ((((j + 1 : Nat) : Int), ()), h61) (((j : Int), ()), g) := fun h0 hh => by
      refine st58 _ _ fun g6 F6 kl => ?_
      have bs := bs.fm F6 (by simp <;> omega)
      have k1 := k1.fm F6 (by simp <;> omega)
      have k2 := k2.fm F6 (by simp <;> omega)
      have k3 := k3.fm F6 (by simp <;> omega)
      refine mu_next (I := I2) (k := m - (j + 1)) ⟨j + 1, ow', vc1, upBs tb (lfE es j) c j, rfl, hjm, rfl, bs, k1, k2, k3, fun v hv => ?_, B.yes rfl hc h0 hh, fun v c' i h => ?_⟩ (hlt hjm)
      · by_cases e : v = lfE es j
        · subst e
          refine kl.cg fun c' _ => ?_
          unfold upd upBs
          by_cases e : c' = c
          · rw [if_pos e, if_pos ⟨rfl, e⟩]
          · rw [if_neg e, if_neg (fun k => e k.2)]
        · refine ((kv v hv).fm F6 (by simp; omega)).cg fun c' _ => ?_
          unfold upBs; rw [if_neg (fun k => e k.1)]
      · unfold upBs at h
        split at h
        · have : i = j := by omega
          subst this
          exact ⟨by omega, h0⟩
        · have := hb0 v c' i h; exact ⟨by omega, this.2⟩
    refine k16.rI rfl (ifP_of (fun h2 => ?_) (fun h2 => keep (.inl (by have := of_decide_eq_false h2; omega))))
    have h2 : 0 < (es j).k := of_decide_eq_true h2
    refine ⟨_, e58, ifP_of (fun h3 => take h2 (.inl (by have := of_decide_eq_true h3; omega))) (fun h3 => ?_)⟩
    have h3 : 0 < tb (lfE es j) c := by have := of_decide_eq_false h3; omega
    refine k16.rI rfl (k1.rV rfl ⟨_, e58, ?_⟩)
    have e2 : IntKind.i64.wrap (((tb (lfE es j) c : Nat) : Int) - 1) = ((tb (lfE es j) c - 1 : Nat) : Int) := by rw [show (((tb (lfE es j) c : Nat) : Int) - 1) = ((tb (lfE es j) c - 1 : Nat) : Int) by omega]; exact w64_in (by omega) (by omega)
    show ixS vc1 (IntKind.i64.wrap (((tb (lfE es j) c : Nat) : Int) - 1)) 1 _
    rw [e2]
    refine k3.rdI (by omega) (ifP_of (fun h4 => take h2 (.inr (of_decide_eq_true h4))) (fun h4 => keep (.inr ⟨h3, ?_⟩)))
    have h4 := of_decide_eq_false h4
    have h4 : ¬ (es (tb (lfE es j) c - 1)).k < (es j).k := h4
    omega
  have hjm : j = m := by have := of_decide_eq_false h1; omega
  subst hjm
  clear hlt hkk hz h1 hj
  have Tt : Tb ow g b15 l wd j es tb := ⟨_, vc, vals, k1, k2, k3, kv⟩
  have hw : ∀ v c, 0 ≤ wgE es tb v c ∧ wgE es tb v c ≤ 1048576 := fun v c => by
    unfold wgE
    split
    · rename_i h
      obtain ⟨i, hi⟩ : ∃ i, tb v c = i + 1 := ⟨tb v c - 1, by omega⟩
      have a := hb0 v c i hi
      have b := sd.gd.k i a.1
      rw [hi, Nat.add_sub_cancel]
      omega
    · omega
  -- the way
  refine ⟨fun s g' => ∃ (own' : Own) (L : List Nat) (pt : Nat → Int), Fm [4, 5, 6, 7, 8, 9, 10, 11, 12, 31, 32, 33, 34, 35, 36] ow g own' g' ∧ S1 own' g' 12 s.1 (natV L) ∧ S1 own' g' 5 s.2.1 (ints (l + wd) pt) ∧ MaR (l + wd) j l es L pt, ?_, ?_⟩
  · refine ifP_of (fun h2 => ?_) (fun h2 => ?_)
    · refine (byRows_T Tt B sd.sd hl hm hw).mono ?_
      rintro _ g' ⟨own', mv, pv, L, pt, rfl, F1, k12, k5, M⟩
      exact rt_ret ⟨_, _, rfl, own', L, pt, F1, k12, k5, M⟩
    · refine (byTrees_T Tt B sd.sd hl hm hw).mono ?_
      rintro _ g' ⟨own', mv, pv, L, pt, rfl, F1, k12, k5, M⟩
      exact rt_ret ⟨_, _, rfl, own', L, pt, F1, k12, k5, M⟩
  rintro mv pv g3 ⟨own', L, pt, F1, k12, k5, M⟩
  change S1 own' g3 12 mv _ at k12
  change S1 own' g3 5 pv _ at k5
  have bs := bs.fm F1 (by simp <;> omega)
  have k1 := k1.fm F1 (by simp <;> omega)
  have k3 := k3.fm F1 (by simp <;> omega)
  have Ln := M.ln
  refine (sort_T k12 (by omega)).mono ?_
  rintro _ g4 ⟨rfl, F2, k12⟩
  have bs := bs.fm F2 (by simp <;> omega)
  have k1 := k1.fm F2 (by simp <;> omega)
  have k3 := k3.fm F2 (by simp <;> omega)
  have k5 := k5.fm F2 (by simp <;> omega)
  refine rt_ret ⟨rfl, k12.len (natV_length _) fun _ _ => ?_⟩
  have hS : ∀ i, i ∈ sortL L → i < j := fun i hi => M.lt i ((sortL_perm L).mem_iff.1 hi)
  have hSl := sortL_len L
  generalize hSS : sortL L = Ls at *
  let I3 : (Int × Int × Unit) → H → Nat → Prop := fun s g z => ∃ i : Nat, s.2.1 = i ∧ i ≤ Ls.length ∧ z = Ls.length - i ∧ s.1 = lkE es (Ls.take i) ∧ g = g4
  refine ⟨fun p q => ∃ k, I3 p q k, rk I3, rk_wf I3, ⟨_, 0, rfl, by omega, rfl, rfl, rfl⟩, ?_⟩
  intro cost s g5 hI
  obtain ⟨i, e1, hi, hz, e2, e3⟩ := mu_spec hI
  generalize hkk : mu I3 ((cost, s, ()), g5) = km at *
  change s = (i : Int) at e1
  change cost = _ at e2
  subst e1 e2 e3
  have hlt : i < Ls.length → Ls.length - (i + 1) < mu I3 ((lkE es (Ls.take i), (i : Int), ()), g5) := fun h => by rw [hkk, hz]; exact sub_dec h
  clear hI
  have bd := lkE_bd (es := es) (fun i hi => sd.gd.k i hi) (L := Ls.take i) fun x hx => hS x (List.mem_of_mem_take hx)
  have tl : (Ls.take i).length ≤ 1024 := by rw [List.length_take]; omega
  refine ifP_of (fun h1 => ?_) (fun h1 => ?_)
  · have hil : i < Ls.length := by have := of_decide_eq_true h1; omega
    have him := hS _ (List.getElem_mem hil)
    have kb := sd.gd.k _ him
    refine k12.rd (natV_get hil) (k1.rV rfl (k3.rdI him ?_))
    have ew : IntKind.i64.wrap (lkE es (Ls.take i) + ckE es Ls[i]) = lkE es (Ls.take (i + 1)) := by
      rw [lkE_take hil]
      show IntKind.i64.wrap (lkE es (Ls.take i) + (es Ls[i]).k) = _
      exact w64_in (by omega) (by omega)
    rw [ew, i64_inc (by omega)]
    exact mu_next (I := I3) (k := Ls.length - (i + 1)) ⟨i + 1, rfl, hil, rfl, rfl, rfl⟩ (hlt hil)
  · have hil : i = Ls.length := by have := of_decide_eq_false h1; omega
    have e : lkE es (Ls.take i) = lkE es L := by rw [hil, List.take_length, ← hSS]; exact lkE_perm es (sortL_perm L)
    rw [e]
    exact hR own' g5 mv pv L pt bs (by rw [hSS]; exact k12) k5 M
/-- What Solve refuses. -/
def codeA (n : Int) (m : Nat) (es : Nat → Ed) (left kind : Int) : Int := if (sidesG n m es left).1 ≠ 0 then (sidesG n m es left).1 else if kind = 1 ∨ kind = 2 then 0 else 50
/-- What Solve comes to. -/
def SolAs (h : H) (n : Int) (m : Nat) (es : Nat → Ed) (left kind : Int) (r : Res) (h' : H) : Prop :=
  (codeA n m es left kind ≠ 0 ∧ r = .ret (.tuple ⟨[.slice none 0 0, .slice none 0 0, .int .i64 0, .int .i64 (codeA n m es left kind)]⟩) ∧ Ext h h') ∨
  (codeA n m es left kind = 0 ∧ ∃ (l wd : Nat) (own' : Own) (mv pv : Value) (L : List Nat) (pt : Nat → Int), left = l ∧ n = ((l + wd : Nat) : Int) ∧ Sd l wd m es ∧ (kind = 1 ∨ kind = 2) ∧ Bs h own' h' ∧
    S1 own' h' 12 mv (natV (sortL L)) ∧ S1 own' h' 5 pv (ints (l + wd) pt) ∧ MaR (l + wd) m l es L pt ∧ r = .ret (.tuple ⟨[mv, pv, .int .i64 (lkE es L), .int .i64 0]⟩))
theorem ASolve_T {h : H} {w : List Value} {n : Int} (G : GrA h w n m es) (left kind : Int) : T Tryz.prog F.assign_Solve [.agg ⟨w⟩, .int .i64 left, .int .i64 kind] h (SolAs h n m es left kind) := by
  refine E_assign_Solve ?_
  unfold B_assign_Solve
  refine new_bl ?_
  intro b1 h2 hb1 x1 B1_
  have k15 : B1 (own1 (fun _ => 0) b1 15) h2 15 b1 w := B1.new B1_
  have bs : Bs h (own1 (fun _ => 0) b1 15) h2 := Bs.start.new x1 hb1
  generalize own1 (fun _ => 0) b1 15 = ow at *
  refine k15.ldN G.one.1 ((Sides_T (G.ext bs.ext) left).mono ?_)
  rintro _ g5 ⟨rfl, x5⟩
  have k15 := k15.ext x5
  have bs := bs.ext_ x5
  refine rt_ret ⟨_, rfl, rfl, new_bl_st rfl rfl (by simp [Value.oneCell']) ?_⟩
  intro b7 g9 hb7 x7 B7
  have k17 : B1 (own1 ow b7 17) g9 17 b7 _ := B1.new B7
  have bs := bs.nw (j := 17) x7 hb7
  have k15 := k15.nw (j := 17) x7 hb7
  generalize own1 ow b7 17 = ow at *
  refine k17.rI rfl (ifP_of (fun h1 => ?_) (fun h1 => ?_))
  · have h1 : (sidesG n m es left).1 ≠ 0 := by simpa using h1
    have e : codeA n m es left kind = (sidesG n m es left).1 := if_pos h1
    exact k17.rI rfl (.inl ⟨by rw [e]; exact h1, by rw [e], bs.ext⟩)
  have h1 : (sidesG n m es left).1 = 0 := by simpa using h1
  obtain ⟨l, wd, rfl, rfl, sd⟩ := Sd.of h1
  obtain ⟨gv, rfl, Gv⟩ := G.gs
  have go : kind = 1 ∨ kind = 2 → BAs (l : Int) kind b1 (SolAs h ((l + wd : Nat) : Int) m es l kind) g9 := fun hk =>
    solveAs bs k15 Gv sd hk fun own' h' mv pv L pt bs' k12 k5 M => .inr ⟨by unfold codeA; rw [if_neg (by omega), if_pos hk], l, wd, own', mv, pv, L, pt, rfl, rfl, sd, hk, bs', k12, k5, M, rfl⟩
  refine ifP_of (fun h2 => ?_) (fun h2 => ?_)
  · have h2 : ¬ kind = 1 := by simpa using h2
    refine ifP_of (fun h3 => ?_) (fun h3 => ?_)
    · have h3 : ¬ kind = 2 := by simpa using h3
      have e : codeA ((l + wd : Nat) : Int) m es l kind = 50 := by unfold codeA; rw [if_neg (by omega), if_neg (by omega)]
      exact .inl ⟨by rw [e]; omega, by rw [e], bs.ext⟩
    · have h3 : kind = 2 := by simpa using h3
      exact go (.inr h3)
  · have h2 : kind = 1 := by simpa using h2
    exact go (.inl h2)
end

end Go.Proofs.YtdcamadeblojdaaGreat

namespace Go.Proofs.YtdcamadeblojdaaGreat
open Go
set_option linter.unusedVariables false
set_option linter.unusedSimpArgs false
set_option maxHeartbeats 1000000

/-- The graph of the flow round. -/
def edW (n l : Nat) (es : Nat → Ed) (i : Nat) : Ed :=
  if i < n then (if i < l then ⟨(n : Nat), (i : Nat), 1, 0⟩ else ⟨(i : Nat), (n : Nat), 1, 0⟩) else ⟨(lfE es (i - n) : Nat), (rtE es (i - n) : Nat), 1, -(es (i - n)).k⟩
section
variable {n l wd m : Nat} {es : Nat → Ed} {L : List Nat} {pt f : Nat → Int}
theorem edW_1 {i : Nat} (h : i < l) (hn : l ≤ n) : edW n l es i = ⟨(n : Nat), (i : Nat), 1, 0⟩ := by unfold edW; rw [if_pos (by omega), if_pos h]
theorem edW_2 {i : Nat} (h : ¬ i < l) (hn : i < n) : edW n l es i = ⟨(i : Nat), (n : Nat), 1, 0⟩ := by unfold edW; rw [if_pos hn, if_neg h]
theorem edW_3 {j : Nat} : edW n l es (n + j) = ⟨(lfE es j : Nat), (rtE es j : Nat), 1, -(es j).k⟩ := by unfold edW; rw [if_neg (by omega), show n + j - n = j by omega]
theorem Sd.gmW (sd : Sd l wd m es) : Gm (l + wd + 1) (l + wd + m) (edW (l + wd) l es) := by
  have n1 := sd.gd.n1
  have m1 := sd.gd.m1
  have key : ∀ i, i < l + wd + m → (i < l) ∨ (¬ i < l ∧ i < l + wd) ∨ ∃ j, j < m ∧ i = l + wd + j := fun i hi => by
    by_cases h1 : i < l
    · exact .inl h1
    · by_cases h2 : i < l + wd
      · exact .inr (.inl ⟨h1, h2⟩)
      · exact .inr (.inr ⟨i - (l + wd), by omega, by omega⟩)
  refine ⟨by omega, by omega, fun i hi => ?_, fun i hi => ?_, fun i hi => ?_, fun i hi => ?_⟩
  · rcases key i hi with h | ⟨h1, h2⟩ | ⟨j, hj, rfl⟩
    · rw [edW_1 h (by omega)]; exact ⟨l + wd, rfl, by omega⟩
    · rw [edW_2 h1 h2]; exact ⟨i, rfl, by omega⟩
    · rw [edW_3]; have := sd.sd j hj; exact ⟨_, rfl, by omega⟩
  · rcases key i hi with h | ⟨h1, h2⟩ | ⟨j, hj, rfl⟩
    · rw [edW_1 h (by omega)]; exact ⟨i, rfl, by omega⟩
    · rw [edW_2 h1 h2]; exact ⟨l + wd, rfl, by omega⟩
    · rw [edW_3]; have := sd.sd j hj; exact ⟨_, rfl, by omega⟩
  · rcases key i hi with h | ⟨h1, h2⟩ | ⟨j, hj, rfl⟩
    · rw [edW_1 h (by omega)]; show (0 : Int) ≤ 1 ∧ (1 : Int) ≤ 1048576; omega
    · rw [edW_2 h1 h2]; show (0 : Int) ≤ 1 ∧ (1 : Int) ≤ 1048576; omega
    · rw [edW_3]; show (0 : Int) ≤ 1 ∧ (1 : Int) ≤ 1048576; omega
  · rcases key i hi with h | ⟨h1, h2⟩ | ⟨j, hj, rfl⟩
    · rw [edW_1 h (by omega)]; show (-1048576 : Int) ≤ 0 ∧ (0 : Int) ≤ 1048576; omega
    · rw [edW_2 h1 h2]; show (-1048576 : Int) ≤ 0 ∧ (0 : Int) ≤ 1048576; omega
    · rw [edW_3]; have := sd.gd.k j hj; show (-1048576 : Int) ≤ -(es j).k ∧ -(es j).k ≤ 1048576; omega
theorem fr_1 {i : Nat} (h : i < l) (hn : l ≤ n) : frE (edW n l es) i = n ∧ toE (edW n l es) i = i ∧ ckE (edW n l es) i = 0 ∧ cpE (edW n l es) i = 1 := by
  unfold frE toE ckE cpE; rw [edW_1 h hn]; exact ⟨by simp, by simp, rfl, rfl⟩
theorem fr_2 {i : Nat} (h : ¬ i < l) (hn : i < n) : frE (edW n l es) i = i ∧ toE (edW n l es) i = n ∧ ckE (edW n l es) i = 0 ∧ cpE (edW n l es) i = 1 := by
  unfold frE toE ckE cpE; rw [edW_2 h hn]; exact ⟨by simp, by simp, rfl, rfl⟩
theorem fr_3 {j : Nat} : frE (edW n l es) (n + j) = lfE es j ∧ toE (edW n l es) (n + j) = rtE es j ∧ ckE (edW n l es) (n + j) = -(es j).k ∧ cpE (edW n l es) (n + j) = 1 := by
  have e := edW_3 (n := n) (l := l) (es := es) (j := j)
  refine ⟨?_, ?_, ?_, ?_⟩
  · show (edW n l es (n + j)).f.toNat = _
    rw [e]; exact Int.toNat_natCast _
  · show (edW n l es (n + j)).t.toNat = _
    rw [e]; exact Int.toNat_natCast _
  · show (edW n l es (n + j)).k = _
    rw [e]
  · show (edW n l es (n + j)).c = _
    rw [e]
/-- The ends of an edge, either way. -/
theorem pt_ends (pt : Nat → Int) (i : Nat) : pt (frE es i) + pt (toE es i) = pt (lfE es i) + pt (rtE es i) := by
  unfold lfE rtE
  rcases Nat.le_total (frE es i) (toE es i) with h | h
  · rw [Nat.min_eq_left h, Nat.max_eq_right h]
  · rw [Nat.min_eq_right h, Nat.max_eq_left h]; omega
/-- No flow round is cheaper. -/
theorem best_ge0 (sd : Sd l wd m es) (po : ∀ v, v < l + wd → 0 ≤ pt v) (co : ∀ i, i < m → (es i).k ≤ pt (frE es i) + pt (toE es i))
    (c0 : ∀ i, i < l + wd + m → 0 ≤ f i) (p1 : ∀ i, i < l + wd → f i ≤ 1) (o : ∀ v, v < l + wd + 1 → OutF (l + wd + m) (frE (edW (l + wd) l es)) (toE (edW (l + wd) l es)) f v = 0) :
    -sumN (l + wd) pt ≤ totC (l + wd + m) (ckE (edW (l + wd) l es)) f := by
  have gm := sd.gmW
  have hn : ∀ i, i < l + wd + m → frE (edW (l + wd) l es) i < l + wd + 1 ∧ toE (edW (l + wd) l es) i < l + wd + 1 := fun i hi => ⟨(gm.fr hi).2, (gm.to hi).2⟩
  have z := pot_out hn (fun v => if v < l then pt v else if v < l + wd then -pt v else 0) f
  rw [sumN_zero (f := fun v => _ * OutF _ _ _ _ _) (fun v hv => by rw [o v hv]; simp), sumN_split] at z
  have z1 : (sumN (l + wd) fun i => ((if frE (edW (l + wd) l es) i < l then pt (frE (edW (l + wd) l es) i) else if frE (edW (l + wd) l es) i < l + wd then -pt (frE (edW (l + wd) l es) i) else 0) -
      (if toE (edW (l + wd) l es) i < l then pt (toE (edW (l + wd) l es) i) else if toE (edW (l + wd) l es) i < l + wd then -pt (toE (edW (l + wd) l es) i) else 0)) * f i) = sumN (l + wd) fun i => -(pt i * f i) := sumN_congr fun i hi => by
    by_cases h : i < l
    · obtain ⟨a, b, _⟩ := fr_1 (es := es) h (Nat.le_add_right l wd)
      rw [a, b, if_neg (by omega), if_neg (by omega), if_pos h, Int.zero_sub, Int.neg_mul]
    · obtain ⟨a, b, _⟩ := fr_2 (es := es) h hi
      rw [a, b, if_neg h, if_pos hi, if_neg (by omega), if_neg (by omega), Int.sub_zero, Int.neg_mul]
  have z2 : (sumN m fun j => ((if frE (edW (l + wd) l es) (l + wd + j) < l then pt (frE (edW (l + wd) l es) (l + wd + j)) else if frE (edW (l + wd) l es) (l + wd + j) < l + wd then -pt (frE (edW (l + wd) l es) (l + wd + j)) else 0) -
      (if toE (edW (l + wd) l es) (l + wd + j) < l then pt (toE (edW (l + wd) l es) (l + wd + j)) else if toE (edW (l + wd) l es) (l + wd + j) < l + wd then -pt (toE (edW (l + wd) l es) (l + wd + j)) else 0)) * f (l + wd + j)) =
      sumN m fun j => (pt (lfE es j) + pt (rtE es j)) * f (l + wd + j) := sumN_congr fun j hj => by
    obtain ⟨a, b, _⟩ := fr_3 (n := l + wd) (l := l) (es := es) (j := j)
    have s := sd.sd j hj
    rw [a, b, if_pos s.1, if_neg (by omega), if_pos s.2.2, Int.sub_neg]
  rw [z1, z2] at z
  unfold totC
  rw [sumN_split (a := l + wd) (b := m)]
  have c1 : (sumN (l + wd) fun i => ckE (edW (l + wd) l es) i * f i) = 0 := sumN_zero fun i hi => by
    by_cases h : i < l
    · rw [(fr_1 (es := es) h (Nat.le_add_right l wd)).2.2.1, Int.zero_mul]
    · rw [(fr_2 (es := es) h hi).2.2.1, Int.zero_mul]
  have c2 : -(sumN m fun j => (pt (lfE es j) + pt (rtE es j)) * f (l + wd + j)) ≤ sumN m fun j => ckE (edW (l + wd) l es) (l + wd + j) * f (l + wd + j) := by
    rw [show -(sumN m fun j => (pt (lfE es j) + pt (rtE es j)) * f (l + wd + j)) = (-1) * (sumN m fun j => (pt (lfE es j) + pt (rtE es j)) * f (l + wd + j)) by omega, ← sumN_mul]
    refine sumN_le fun j hj => ?_
    rw [(fr_3 (n := l + wd) (l := l) (es := es) (j := j)).2.2.1]
    have a := c0 (l + wd + j) (by omega)
    have b := co j hj
    rw [pt_ends] at b
    have := Int.mul_nonneg (show 0 ≤ pt (lfE es j) + pt (rtE es j) - (es j).k by omega) a
    rw [Int.sub_mul] at this
    have h2 := Int.neg_mul (es j).k (f (l + wd + j))
    omega
  have c3 : (sumN (l + wd) fun i => pt i * f i) ≤ sumN (l + wd) pt := sumN_le fun i hi => by
    have a := p1 i hi
    have := Int.mul_nonneg (po i hi) (show 0 ≤ 1 - f i by omega)
    rw [Int.mul_sub] at this
    omega
  have c4 : (sumN (l + wd) fun i => -(pt i * f i)) = -(sumN (l + wd) fun i => pt i * f i) := by
    rw [show -(sumN (l + wd) fun i => pt i * f i) = (-1) * (sumN (l + wd) fun i => pt i * f i) by omega, ← sumN_mul]
    exact sumN_congr fun i _ => by omega
  rw [c4] at z
  rw [c1]
  omega
def lsm (F : Nat → Int) : List Nat → Int
  | [] => 0
  | i :: L => F i + lsm F L
theorem lkE_lsm : ∀ {L : List Nat}, lkE es L = lsm (fun i => (es i).k) L
  | [] => rfl
  | i :: L => by show (es i).k + lkE es L = (es i).k + lsm _ L; rw [lkE_lsm]
theorem lsm_congr {F G : Nat → Int} : ∀ {L : List Nat}, (∀ i, i ∈ L → F i = G i) → lsm F L = lsm G L
  | [], _ => rfl
  | i :: L, h => by
    show F i + lsm F L = G i + lsm G L
    rw [h i List.mem_cons_self, lsm_congr fun j hj => h j (List.mem_cons_of_mem _ hj)]
theorem lsm_mul {F : Nat → Int} {c : Int} : ∀ {L : List Nat}, lsm (fun i => c * F i) L = c * lsm F L
  | [] => by show (0 : Int) = c * 0; omega
  | i :: L => by show c * F i + lsm _ L = c * (F i + lsm F L); rw [lsm_mul, Int.mul_add]
theorem lsm_zero {F : Nat → Int} {L : List Nat} (h : ∀ i, i ∈ L → F i = 0) : lsm F L = 0 := by
  rw [lsm_congr (G := fun i => 0 * 0) fun i hi => by rw [h i hi]; rfl, lsm_mul, Int.zero_mul]
theorem lsm_mem {F : Nat → Int} : ∀ {L : List Nat}, L.Nodup → (∀ i, i ∈ L → i < m) → (sumN m fun j => if j ∈ L then F j else 0) = lsm F L
  | [], _, _ => sumN_zero fun i _ => if_neg (by simp)
  | x :: L, nd, h => by
    rw [List.nodup_cons] at nd
    have hx := h x List.mem_cons_self
    have e : (sumN m fun j => if j ∈ x :: L then F j else 0) = sumN m fun j => (if x = j then F j else 0) + (if j ∈ L then F j else 0) := sumN_congr fun j _ => by
      by_cases e1 : x = j
      · subst e1; rw [if_pos List.mem_cons_self, if_pos rfl, if_neg nd.1, Int.add_zero]
      · rw [if_neg e1, Int.zero_add]
        by_cases e2 : j ∈ L
        · rw [if_pos (List.mem_cons_of_mem _ e2), if_pos e2]
        · rw [if_neg (fun k => by rcases List.mem_cons.1 k with k | k; exact e1 k.symm; exact e2 k), if_neg e2]
    rw [e, sumN_add, sumN_ptf hx, lsm_mem nd.2 fun i hi => h i (List.mem_cons_of_mem _ hi)]
    rfl
/-- How many of a list's edges end at a node. -/
def ftE (es : Nat → Ed) (L : List Nat) (v : Nat) : Int := lsm (fun i => (if lfE es i = v then 1 else 0) + (if rtE es i = v then 1 else 0)) L
theorem ftE_le (hs : ∀ i, i < m → lfE es i < l ∧ l ≤ rtE es i ∧ rtE es i < l + wd) (v : Nat) : ∀ {L : List Nat}, (∀ i, i ∈ L → i < m) → L.Pairwise (fun i j => lfE es i ≠ lfE es j ∧ rtE es i ≠ rtE es j) → 0 ≤ ftE es L v ∧ ftE es L v ≤ 1
  | [], _, _ => by show (0 : Int) ≤ 0 ∧ (0 : Int) ≤ 1; omega
  | x :: L, h, p => by
    rw [List.pairwise_cons] at p
    have ih := ftE_le hs v (fun i hi => h i (List.mem_cons_of_mem _ hi)) p.2
    have sx := hs x (h x List.mem_cons_self)
    show 0 ≤ ((if lfE es x = v then 1 else 0) + (if rtE es x = v then 1 else 0)) + ftE es L v ∧ ((if lfE es x = v then 1 else 0) + (if rtE es x = v then 1 else 0)) + ftE es L v ≤ 1
    by_cases e1 : lfE es x = v ∨ rtE es x = v
    · have z : ftE es L v = 0 := lsm_zero fun i hi => by
        have a := p.1 i hi
        have b := hs i (h i (List.mem_cons_of_mem _ hi))
        rw [if_neg (by omega), if_neg (by omega)]; rfl
      rw [z]
      by_cases e2 : lfE es x = v
      · rw [if_pos e2, if_neg (by omega)]; omega
      · rw [if_neg e2]; split <;> omega
    · rw [if_neg (fun k => e1 (.inl k)), if_neg (fun k => e1 (.inr k))]; omega
/-- The flow round of a matching. -/
def pfE (n : Nat) (es : Nat → Ed) (L : List Nat) (i : Nat) : Int := if i < n then ftE es L i else if i - n ∈ L then 1 else 0
theorem best_plan (sd : Sd l wd m es) (hlt : ∀ i, i ∈ L → i < m) (hnd : L.Pairwise fun i j => lfE es i ≠ lfE es j ∧ rtE es i ≠ rtE es j) :
    PlanP (l + wd + 1) (l + wd + m) (frE (edW (l + wd) l es)) (toE (edW (l + wd) l es)) (cpE (edW (l + wd) l es)) (fun _ => 0) (pfE (l + wd) es L) ∧
    totC (l + wd + m) (ckE (edW (l + wd) l es)) (pfE (l + wd) es L) = -lkE es L := by
  have gm := sd.gmW
  have nod : L.Nodup := hnd.imp fun {a b} h e => h.1 (by rw [e])
  have hn : ∀ i, i < l + wd + m → frE (edW (l + wd) l es) i < l + wd + 1 ∧ toE (edW (l + wd) l es) i < l + wd + 1 := fun i hi => ⟨(gm.fr hi).2, (gm.to hi).2⟩
  have p1 : ∀ {i}, i < l + wd → pfE (l + wd) es L i = ftE es L i := fun h => if_pos h
  have p2 : ∀ j, pfE (l + wd) es L (l + wd + j) = if j ∈ L then 1 else 0 := fun j => by unfold pfE; rw [if_neg (by omega), show l + wd + j - (l + wd) = j by omega]
  have o1 : ∀ v, v < l + wd → OutF (l + wd + m) (frE (edW (l + wd) l es)) (toE (edW (l + wd) l es)) (pfE (l + wd) es L) v = 0 := fun v hv => by
    unfold OutF
    rw [sumN_split]
    by_cases hl : v < l
    · have a1 : (sumN (l + wd) fun i => (if frE (edW (l + wd) l es) i = v then pfE (l + wd) es L i else 0) - (if toE (edW (l + wd) l es) i = v then pfE (l + wd) es L i else 0)) = sumN (l + wd) fun i => if v = i then -ftE es L v else 0 := sumN_congr fun i hi => by
        rw [p1 hi]
        by_cases h : i < l
        · obtain ⟨a, b, _⟩ := fr_1 (es := es) h (Nat.le_add_right l wd)
          rw [a, b, if_neg (by omega)]
          by_cases e : v = i
          · subst e; rw [if_pos rfl, if_pos rfl]; omega
          · rw [if_neg (fun k => e k.symm), if_neg e]; rfl
        · obtain ⟨a, b, _⟩ := fr_2 (es := es) h hi
          rw [a, b, if_neg (by omega), if_neg (by omega), if_neg (by omega)]; rfl
      have a2 : (sumN m fun j => (if frE (edW (l + wd) l es) (l + wd + j) = v then pfE (l + wd) es L (l + wd + j) else 0) - (if toE (edW (l + wd) l es) (l + wd + j) = v then pfE (l + wd) es L (l + wd + j) else 0)) = ftE es L v := by
        unfold ftE
        rw [← lsm_mem nod hlt]
        refine sumN_congr fun j hj => ?_
        obtain ⟨a, b, _⟩ := fr_3 (n := l + wd) (l := l) (es := es) (j := j)
        have s := sd.sd j hj
        rw [a, b, p2, if_neg (show ¬ rtE es j = v by omega), if_neg (show ¬ rtE es j = v by omega)]
        by_cases e1 : j ∈ L
        · rw [if_pos e1, if_pos e1]; omega
        · rw [if_neg e1, if_neg e1]; split <;> rfl
      rw [a1, a2, sumN_pt, if_pos hv]; omega
    · have a1 : (sumN (l + wd) fun i => (if frE (edW (l + wd) l es) i = v then pfE (l + wd) es L i else 0) - (if toE (edW (l + wd) l es) i = v then pfE (l + wd) es L i else 0)) = sumN (l + wd) fun i => if v = i then ftE es L v else 0 := sumN_congr fun i hi => by
        rw [p1 hi]
        by_cases h : i < l
        · obtain ⟨a, b, _⟩ := fr_1 (es := es) h (Nat.le_add_right l wd)
          rw [a, b, if_neg (by omega), if_neg (by omega), if_neg (by omega)]; rfl
        · obtain ⟨a, b, _⟩ := fr_2 (es := es) h hi
          rw [a, b, if_neg (show ¬ l + wd = v by omega)]
          by_cases e : v = i
          · subst e; simp
          · rw [if_neg (fun k => e k.symm), if_neg e]; rfl
      have a2 : (sumN m fun j => (if frE (edW (l + wd) l es) (l + wd + j) = v then pfE (l + wd) es L (l + wd + j) else 0) - (if toE (edW (l + wd) l es) (l + wd + j) = v then pfE (l + wd) es L (l + wd + j) else 0)) = -ftE es L v := by
        unfold ftE
        rw [show -lsm (fun i => (if lfE es i = v then 1 else 0) + (if rtE es i = v then 1 else 0)) L = (-1) * lsm (fun i => (if lfE es i = v then 1 else 0) + (if rtE es i = v then 1 else 0)) L by omega, ← lsm_mul, ← lsm_mem nod hlt]
        refine sumN_congr fun j hj => ?_
        obtain ⟨a, b, _⟩ := fr_3 (n := l + wd) (l := l) (es := es) (j := j)
        have s := sd.sd j hj
        rw [a, b, p2, if_neg (show ¬ lfE es j = v by omega), if_neg (show ¬ lfE es j = v by omega)]
        by_cases e1 : j ∈ L
        · rw [if_pos e1, if_pos e1]; split <;> rfl
        · rw [if_neg e1, if_neg e1]; split <;> rfl
      rw [a1, a2, sumN_pt, if_pos hv]; omega
  refine ⟨⟨fun i hi => ?_, fun v hv => ?_⟩, ?_⟩
  · have e : cpE (edW (l + wd) l es) i = 1 := by
      by_cases h2 : i < l + wd
      · by_cases h : i < l
        · exact (fr_1 (es := es) h (Nat.le_add_right l wd)).2.2.2
        · exact (fr_2 (es := es) h h2).2.2.2
      · rw [show i = l + wd + (i - (l + wd)) by omega]
        exact fr_3.2.2.2
    rw [e]
    unfold pfE
    split
    · exact ftE_le sd.sd i hlt hnd
    · split <;> omega
  · by_cases h : v < l + wd
    · exact o1 v h
    · have z := pot_out hn (fun _ => 1) (pfE (l + wd) es L)
      rw [sumN_zero (f := fun i => ((1 : Int) - 1) * _) (fun i _ => by rw [Int.sub_self, Int.zero_mul])] at z
      have e : (sumN (l + wd + 1) fun v => 1 * OutF (l + wd + m) (frE (edW (l + wd) l es)) (toE (edW (l + wd) l es)) (pfE (l + wd) es L) v) = (sumN (l + wd) fun v => 1 * OutF (l + wd + m) (frE (edW (l + wd) l es)) (toE (edW (l + wd) l es)) (pfE (l + wd) es L) v) + 1 * OutF (l + wd + m) (frE (edW (l + wd) l es)) (toE (edW (l + wd) l es)) (pfE (l + wd) es L) (l + wd) := rfl
      rw [e, sumN_zero (f := fun v => 1 * OutF _ _ _ _ v) (fun v hv => by rw [o1 v hv]; rfl)] at z
      have : v = l + wd := by omega
      subst this
      omega
  · unfold totC
    rw [sumN_split, sumN_zero (k := l + wd) (fun i hi => by
      by_cases h : i < l
      · rw [(fr_1 (es := es) h (Nat.le_add_right l wd)).2.2.1, Int.zero_mul]
      · rw [(fr_2 (es := es) h hi).2.2.1, Int.zero_mul]), Int.zero_add, lkE_lsm, show -lsm (fun i => (es i).k) L = (-1) * lsm (fun i => (es i).k) L by omega, ← lsm_mul, ← lsm_mem nod hlt]
    refine sumN_congr fun j hj => ?_
    rw [(fr_3 (n := l + wd) (l := l) (es := es) (j := j)).2.2.1, p2]
    by_cases e1 : j ∈ L
    · rw [if_pos e1, if_pos e1]; omega
    · rw [if_neg e1, if_neg e1]; omega
end

end Go.Proofs.YtdcamadeblojdaaGreat

namespace Go.Proofs.YtdcamadeblojdaaGreat
open Go
set_option linter.unusedVariables false
set_option linter.unusedSimpArgs false
set_option maxHeartbeats 1000000

section
variable {n left kind c d e f : Int} {m l wd : Nat} {es es' : Nat → Ed} {L L' : List Nat} {pt pt' : Nat → Int}
/-- The code and the cost that Solve answers. -/
def OutAs (n : Int) (m : Nat) (es : Nat → Ed) (left kind : Int) (c e : Int) : Prop :=
  (codeA n m es left kind ≠ 0 ∧ c = 0 ∧ e = codeA n m es left kind) ∨
  (codeA n m es left kind = 0 ∧ e = 0 ∧ ∃ (l wd : Nat) (L : List Nat) (pt : Nat → Int), left = l ∧ n = ((l + wd : Nat) : Int) ∧ Sd l wd m es ∧ (kind = 1 ∨ kind = 2) ∧ MaR (l + wd) m l es L pt ∧ c = lkE es L)
theorem SolAs.out {h h' : H} {r : Res} (S : SolAs h n m es left kind r h') : ∃ mv pv c e, r = .ret (.tuple ⟨[mv, pv, .int .i64 c, .int .i64 e]⟩) ∧ Ext h h' ∧ OutAs n m es left kind c e := by
  rcases S with ⟨hc, rfl, x⟩ | ⟨hc, l, wd, own', mv, pv, L, pt, e1, e2, sd, hk, bs, k12, k5, M, rfl⟩
  · exact ⟨_, _, _, _, rfl, x, .inl ⟨hc, rfl, rfl⟩⟩
  · exact ⟨_, _, _, _, rfl, bs.ext, .inr ⟨hc, rfl, l, wd, L, pt, e1, e2, sd, hk, M, rfl⟩⟩
theorem OutAs.c0 (O : OutAs n m es left kind c e) (h : e ≠ 0) : c = 0 := by
  rcases O with ⟨_, h, _⟩ | ⟨_, h2, _⟩
  · exact h
  · exact absurd h2 h
end

end Go.Proofs.YtdcamadeblojdaaGreat

namespace Go.Proofs.YtdcamadeblojdaaGreat
open Go
set_option linter.unusedVariables false
set_option linter.unusedSimpArgs false
set_option maxHeartbeats 2000000

theorem st2 {own : Own} {h : H} {i b : Nat} {vs : List Value} {x y : Value} {K : H → Prop} (B : B1 own h i b vs) (hv : vs.length = 2) (hx : x.oneCell' = true) (hy : y.oneCell' = true) (k : ∀ g, Fm [i] own h own g → B1 own g i b [x, y] → K g) : stN h (bk b) [x, y] 2 K :=
  B.stN rfl hv (by
    intro z hz
    simp only [List.mem_cons, List.not_mem_nil, or_false] at hz
    rcases hz with rfl | rfl <;> assumption) k
end Go.Proofs.YtdcamadeblojdaaGreat

namespace Go.Proofs.YtdcamadeblojdaaGreat
open Go
set_option linter.unusedVariables false
set_option linter.unusedSimpArgs false
set_option maxHeartbeats 1000000

/-- The graph with a hub. -/
def edH (m l n : Nat) (es : Nat → Ed) (t : Int) (i : Nat) : Ed :=
  if i < m then ⟨(lfE es i : Nat), (rtE es i : Nat), 2, (es i).k * t⟩ else (if i - m < l then ⟨(n : Nat), (i - m : Nat), 1, 0⟩ else ⟨(i - m : Nat), (n : Nat), 1, 0⟩)
section
variable {n l wd m : Nat} {es : Nat → Ed} {L : List Nat} {pt f : Nat → Int} {t : Int}
theorem edH_0 {i : Nat} (h : i < m) : edH m l n es t i = ⟨(lfE es i : Nat), (rtE es i : Nat), 2, (es i).k * t⟩ := if_pos h
theorem edH_1 {i : Nat} (h : i < l) : edH m l n es t (m + i) = ⟨(n : Nat), (i : Nat), 1, 0⟩ := by unfold edH; rw [if_neg (by omega), Nat.add_sub_cancel_left, if_pos h]
theorem edH_2 {i : Nat} (h : ¬ i < l) : edH m l n es t (m + i) = ⟨(i : Nat), (n : Nat), 1, 0⟩ := by unfold edH; rw [if_neg (by omega), Nat.add_sub_cancel_left, if_neg h]
theorem fh_0 {i : Nat} (h : i < m) : frE (edH m l n es t) i = lfE es i ∧ toE (edH m l n es t) i = rtE es i ∧ ckE (edH m l n es t) i = (es i).k * t ∧ cpE (edH m l n es t) i = 2 := by
  have e := edH_0 (l := l) (n := n) (es := es) (t := t) h
  refine ⟨?_, ?_, ?_, ?_⟩
  · show (edH m l n es t i).f.toNat = _
    rw [e]; exact Int.toNat_natCast _
  · show (edH m l n es t i).t.toNat = _
    rw [e]; exact Int.toNat_natCast _
  · show (edH m l n es t i).k = _
    rw [e]
  · show (edH m l n es t i).c = _
    rw [e]
theorem fh_1 {i : Nat} (h : i < l) : frE (edH m l n es t) (m + i) = n ∧ toE (edH m l n es t) (m + i) = i ∧ ckE (edH m l n es t) (m + i) = 0 ∧ cpE (edH m l n es t) (m + i) = 1 := by
  have e := edH_1 (m := m) (n := n) (es := es) (t := t) h
  refine ⟨?_, ?_, ?_, ?_⟩
  · show (edH m l n es t (m + i)).f.toNat = _
    rw [e]; exact Int.toNat_natCast _
  · show (edH m l n es t (m + i)).t.toNat = _
    rw [e]; exact Int.toNat_natCast _
  · show (edH m l n es t (m + i)).k = _
    rw [e]
  · show (edH m l n es t (m + i)).c = _
    rw [e]
theorem fh_2 {i : Nat} (h : ¬ i < l) : frE (edH m l n es t) (m + i) = i ∧ toE (edH m l n es t) (m + i) = n ∧ ckE (edH m l n es t) (m + i) = 0 ∧ cpE (edH m l n es t) (m + i) = 1 := by
  have e := edH_2 (m := m) (n := n) (es := es) (t := t) h
  refine ⟨?_, ?_, ?_, ?_⟩
  · show (edH m l n es t (m + i)).f.toNat = _
    rw [e]; exact Int.toNat_natCast _
  · show (edH m l n es t (m + i)).t.toNat = _
    rw [e]; exact Int.toNat_natCast _
  · show (edH m l n es t (m + i)).k = _
    rw [e]
  · show (edH m l n es t (m + i)).c = _
    rw [e]
/-- The nodes' edges first. -/
def swF (n m : Nat) (f : Nat → Int) (i : Nat) : Int := if i < n then f (m + i) else f (i - n)
theorem swF_1 {i : Nat} (h : i < n) : swF n m f i = f (m + i) := if_pos h
theorem swF_2 {j : Nat} : swF n m f (n + j) = f j := by unfold swF; rw [if_neg (by omega), Nat.add_sub_cancel_left]
theorem out_HW (v : Nat) : OutF (m + (l + wd)) (frE (edH m l (l + wd) es t)) (toE (edH m l (l + wd) es t)) f v = OutF (l + wd + m) (frE (edW (l + wd) l es)) (toE (edW (l + wd) l es)) (swF (l + wd) m f) v := by
  unfold OutF
  rw [sumN_split (a := m) (b := l + wd), sumN_split (a := l + wd) (b := m), Int.add_comm]
  congr 1
  · refine sumN_congr fun i hi => ?_
    rw [swF_1 hi]
    by_cases h : i < l
    · obtain ⟨a, b, _⟩ := fh_1 (m := m) (n := l + wd) (es := es) (t := t) h
      obtain ⟨c, d, _⟩ := fr_1 (es := es) h (Nat.le_add_right l wd)
      rw [a, b, c, d]
    · obtain ⟨a, b, _⟩ := fh_2 (m := m) (n := l + wd) (es := es) (t := t) h
      obtain ⟨c, d, _⟩ := fr_2 (es := es) h hi
      rw [a, b, c, d]
  · refine sumN_congr fun j hj => ?_
    rw [swF_2]
    obtain ⟨a, b, _⟩ := fh_0 (l := l) (n := l + wd) (es := es) (t := t) hj
    obtain ⟨c, d, _⟩ := fr_3 (n := l + wd) (l := l) (es := es) (j := j)
    rw [a, b, c, d]
theorem tot_HW : totC (m + (l + wd)) (ckE (edH m l (l + wd) es (-1))) f = totC (l + wd + m) (ckE (edW (l + wd) l es)) (swF (l + wd) m f) := by
  unfold totC
  rw [sumN_split (a := m) (b := l + wd), sumN_split (a := l + wd) (b := m), Int.add_comm]
  congr 1
  · refine sumN_congr fun i hi => ?_
    rw [swF_1 hi]
    by_cases h : i < l
    · rw [(fh_1 (m := m) (n := l + wd) (es := es) (t := -1) h).2.2.1, (fr_1 (es := es) h (Nat.le_add_right l wd)).2.2.1]
    · rw [(fh_2 (m := m) (n := l + wd) (es := es) (t := -1) h).2.2.1, (fr_2 (es := es) h hi).2.2.1]
  · refine sumN_congr fun j hj => ?_
    rw [swF_2, (fh_0 (l := l) (n := l + wd) (es := es) (t := -1) hj).2.2.1, fr_3.2.2.1]
    congr 1; omega
theorem hub_ge (sd : Sd l wd m es) (po : ∀ v, v < l + wd → 0 ≤ pt v) (co : ∀ i, i < m → (es i).k ≤ pt (frE es i) + pt (toE es i))
    (P : PlanP (l + wd + 1) (m + (l + wd)) (frE (edH m l (l + wd) es (-1))) (toE (edH m l (l + wd) es (-1))) (cpE (edH m l (l + wd) es (-1))) (fun _ => 0) f) :
    -sumN (l + wd) pt ≤ totC (m + (l + wd)) (ckE (edH m l (l + wd) es (-1))) f := by
  rw [tot_HW]
  refine best_ge0 sd po co (fun i hi => ?_) (fun i hi => ?_) fun v hv => by rw [← out_HW (t := -1)]; exact P.out v hv
  · by_cases h : i < l + wd
    · rw [swF_1 h]; exact (P.cp _ (by omega)).1
    · rw [show i = l + wd + (i - (l + wd)) by omega, swF_2]; exact (P.cp _ (by omega)).1
  · rw [swF_1 hi]
    have a := (P.cp (m + i) (by omega)).2
    by_cases h : i < l
    · rwa [(fh_1 (m := m) (n := l + wd) (es := es) (t := -1) h).2.2.2] at a
    · rwa [(fh_2 (m := m) (n := l + wd) (es := es) (t := -1) h).2.2.2] at a
/-- The flow round of a matching, through the hub. -/
def phE (m : Nat) (es : Nat → Ed) (L : List Nat) (i : Nat) : Int := if i < m then (if i ∈ L then 1 else 0) else ftE es L (i - m)
theorem hub_plan (sd : Sd l wd m es) (hlt : ∀ i, i ∈ L → i < m) (hnd : L.Pairwise fun i j => lfE es i ≠ lfE es j ∧ rtE es i ≠ rtE es j) :
    PlanP (l + wd + 1) (m + (l + wd)) (frE (edH m l (l + wd) es (-1))) (toE (edH m l (l + wd) es (-1))) (cpE (edH m l (l + wd) es (-1))) (fun _ => 0) (phE m es L) ∧
    totC (m + (l + wd)) (ckE (edH m l (l + wd) es (-1))) (phE m es L) = -lkE es L := by
  obtain ⟨P, e⟩ := best_plan sd hlt hnd
  have sw : ∀ i, i < l + wd + m → swF (l + wd) m (phE m es L) i = pfE (l + wd) es L i := fun i hi => by
    by_cases h : i < l + wd
    · rw [swF_1 h]; unfold phE pfE; rw [if_neg (by omega), Nat.add_sub_cancel_left, if_pos h]
    · obtain ⟨q, rfl⟩ : ∃ q, i = l + wd + q := ⟨i - (l + wd), by omega⟩
      rw [swF_2]; unfold phE pfE; rw [if_pos (show q < m by omega), if_neg (show ¬ l + wd + q < l + wd by omega), Nat.add_sub_cancel_left]
  refine ⟨⟨fun i hi => ?_, fun v hv => ?_⟩, ?_⟩
  · by_cases h : i < m
    · rw [(fh_0 (l := l) (n := l + wd) (es := es) (t := -1) h).2.2.2]
      unfold phE; rw [if_pos h]; split <;> omega
    · have e : i = m + (i - m) := by omega
      have c : cpE (edH m l (l + wd) es (-1)) i = 1 := by
        rw [e]
        by_cases h2 : i - m < l
        · exact (fh_1 h2).2.2.2
        · exact (fh_2 h2).2.2.2
      rw [c]
      unfold phE; rw [if_neg h]
      exact ftE_le sd.sd _ hlt hnd
  · rw [out_HW]
    have := P.out v hv
    rw [← this]
    unfold OutF
    exact sumN_congr fun i hi => by rw [sw i hi]
  · rw [tot_HW, ← e]
    unfold totC
    exact sumN_congr fun i hi => by rw [sw i hi]
/-- The cheapest round through the hub. -/
theorem hub_eq (sd : Sd l wd m es) (M : MaR (l + wd) m l es L pt)
    (P : PlanP (l + wd + 1) (m + (l + wd)) (frE (edH m l (l + wd) es (-1))) (toE (edH m l (l + wd) es (-1))) (cpE (edH m l (l + wd) es (-1))) (fun _ => 0) f)
    (hm : totC (m + (l + wd)) (ckE (edH m l (l + wd) es (-1))) f ≤ totC (m + (l + wd)) (ckE (edH m l (l + wd) es (-1))) (phE m es L)) :
    totC (m + (l + wd)) (ckE (edH m l (l + wd) es (-1))) f = -lkE es L := by
  have a := hub_ge sd (fun v hv => (M.po v hv).1) M.co P
  obtain ⟨b, c⟩ := hub_plan sd M.lt M.nd
  have := M.su
  omega
end

end Go.Proofs.YtdcamadeblojdaaGreat

namespace Go.Proofs.YtdcamadeblojdaaGreat
open Go
set_option linter.unusedVariables false
set_option linter.unusedSimpArgs false
set_option maxHeartbeats 2000000

section
variable {h h' : H} {w : List Value} {l wd m : Nat} {es : Nat → Ed} {L : List Nat} {pt : Nat → Int}
theorem Sd.gdH (sd : Sd l wd m es) {t : Int} (ht : t = -1 ∨ t = 0) (h1 : l + wd + 1 ≤ 1024) (h2 : m + (l + wd) ≤ 4096) : Gd (l + wd + 1) (m + (l + wd)) (edH m l (l + wd) es t) := by
  have key : ∀ i, i < m + (l + wd) → i < m ∨ ∃ j, j < l + wd ∧ i = m + j := fun i hi => by
    by_cases h : i < m
    · exact .inl h
    · exact .inr ⟨i - m, by omega, by omega⟩
  refine ⟨h1, h2, fun i hi => ?_, fun i hi => ?_, fun i hi => ?_, fun i hi => ?_⟩
  · rcases key i hi with h | ⟨j, hj, rfl⟩
    · rw [edH_0 h]; have := sd.sd i h; exact ⟨_, rfl, by omega⟩
    · by_cases h : j < l
      · rw [edH_1 h]; exact ⟨_, rfl, by omega⟩
      · rw [edH_2 h]; exact ⟨_, rfl, by omega⟩
  · rcases key i hi with h | ⟨j, hj, rfl⟩
    · rw [edH_0 h]; have := sd.sd i h; exact ⟨_, rfl, by omega⟩
    · by_cases h : j < l
      · rw [edH_1 h]; exact ⟨_, rfl, by omega⟩
      · rw [edH_2 h]; exact ⟨_, rfl, by omega⟩
  · rcases key i hi with h | ⟨j, hj, rfl⟩
    · rw [edH_0 h]; show (0 : Int) ≤ 2 ∧ (2 : Int) ≤ 1048576; omega
    · by_cases h : j < l
      · rw [edH_1 h]; show (0 : Int) ≤ 1 ∧ (1 : Int) ≤ 1048576; omega
      · rw [edH_2 h]; show (0 : Int) ≤ 1 ∧ (1 : Int) ≤ 1048576; omega
  · rcases key i hi with h | ⟨j, hj, rfl⟩
    · rw [edH_0 h]
      have := sd.gd.k i h
      show -1048576 ≤ (es i).k * t ∧ (es i).k * t ≤ 1048576
      rcases ht with rfl | rfl <;> omega
    · by_cases h : j < l
      · rw [edH_1 h]; show (-1048576 : Int) ≤ 0 ∧ (0 : Int) ≤ 1048576; omega
      · rw [edH_2 h]; show (-1048576 : Int) ≤ 0 ∧ (0 : Int) ≤ 1048576; omega
theorem hub_R (G : GrA h w ((l + wd : Nat) : Int) m es) (sd : Sd l wd m es) {t : Int} (ht : t = -1 ∨ t = 0) :
    T Tryz.prog F.compasstop_hub [.agg ⟨w⟩, .int .i64 l, .int .i64 t] h fun r h' => ∃ v own, r = .ret (.agg ⟨[.int .i64 ((l + wd + 1 : Nat) : Int), v]⟩) ∧ Bs h own h' ∧ S4 own h' 1 v (m + (l + wd)) (edH m l (l + wd) es t) := by
  have n1 := sd.gd.n1
  have m1 := sd.gd.m1
  refine E_compasstop_hub ?_
  unfold B_compasstop_hub
  obtain ⟨gv, rfl, Gv⟩ := G.gs
  refine new_bl ?_
  intro b1 q1 hb1 x1 B1_
  have k15 : B1 (own1 (fun _ => 0) b1 15) q1 15 b1 _ := B1.new B1_
  have bs : Bs h (own1 (fun _ => 0) b1 15) q1 := Bs.start.new x1 hb1
  generalize own1 (fun _ => 0) b1 15 = ow at *
  clear x1 B1_
  refine new_bl ?_
  intro b3 q4 hb3 x3 B3
  have k3 : B1 (own1 ow b3 3) q4 3 b3 _ := B1.new B3
  have bs := bs.nw (j := 3) x3 hb3
  have k15 := k15.nw (j := 3) x3 hb3
  generalize own1 ow b3 3 = ow at *
  refine k15.rI rfl ?_
  have ew : IntKind.i64.wrap (((l + wd : Nat) : Int) + 1) = ((l + wd + 1 : Nat) : Int) := i64_inc (by omega)
  simp only [ew]
  refine new_bl_st rfl rfl (by simp [Value.oneCell']) ?_
  intro b6 q8 hb6 x6 B6
  have k4 : B1 (own1 ow b6 4) q8 4 b6 _ := B1.new B6
  have bs := bs.nw (j := 4) x6 hb6
  have k15 := k15.nw (j := 4) x6 hb6
  have k3 := k3.nw (j := 4) x6 hb6
  generalize own1 ow b6 4 = ow at *
  clear hb1 hb3 x3 B3 hb6 x6 B6
  refine k15.rV rfl ((Gv.ext bs.ext).len fun _ _ => ?_)
  let I : (Int × Unit) → H → Nat → Prop := fun p q z => ∃ (i : Nat) (ow : Own) (ev : Value), p.1 = i ∧ i ≤ m ∧ z = m - i ∧ Bs h ow q ∧ B1 ow q 15 b1 [.int .i64 ((l + wd : Nat) : Int), gv] ∧ B1 ow q 3 b3 [.int .i64 0, .slice none 0 0] ∧
    B1 ow q 4 b6 [.int .i64 ((l + wd + 1 : Nat) : Int), ev] ∧ S4 ow q 1 ev i (edH m l (l + wd) es t)
  refine ⟨fun p q => ∃ k, I p q k, rk I, rk_wf I, ⟨_, 0, ow, _, rfl, by omega, rfl, bs, k15, k3, k4, S4.nil⟩, ?_⟩
  clear bs k15 k3 k4
  intro p q hI
  obtain ⟨i, ow, ev, e1, hi, hz, bs, k15, k3, k4, k1⟩ := mu_spec hI
  generalize hkk : mu I ((p, ()), q) = km at *
  change p = (i : Int) at e1
  subst e1
  have hlt : i < m → m - (i + 1) < mu I (((i : Int), ()), q) := fun h => by rw [hkk, hz]; exact sub_dec h
  clear hI
  refine ifP_of (fun h1 => ?_) (fun h1 => ?_)
  · have him : i < m := by have := of_decide_eq_true h1; omega
    obtain ⟨f1, f2⟩ := sd.gd.fr him
    obtain ⟨t1, t2⟩ := sd.gd.to him
    have kb := sd.gd.k i him
    refine (Gv.ext bs.ext).at him fun a32 e32 => ⟨(es i).vs, rfl, e32, new_bl_st rfl rfl (ed_one _) ?_⟩
    intro b34 g36 hb34 x34 B34
    have k16 : B1 (own1 ow b34 16) g36 16 b34 (es i).vs := B1.new B34
    have bs := bs.nw (j := 16) x34 hb34
    have k15 := k15.nw (j := 16) x34 hb34
    have k3 := k3.nw (j := 16) x34 hb34
    have k4 := k4.nw (j := 16) x34 hb34
    have k1 := k1.nw (j := 16) x34 hb34
    generalize own1 ow b34 16 = ow at *
    rw [i64_inc (by omega)]
    refine k4.rV rfl (k16.rI rfl (k16.rI rfl (k16.rI rfl (k16.rI rfl (k16.rI rfl ⟨rfl, ?_⟩)))))
    have ea : (if (es i).t < (es i).f then (es i).t else (es i).f) = ((lfE es i : Nat) : Int) := by rw [f1, t1]; unfold lfE; split <;> omega
    have eb : (if (es i).f < (es i).t then (es i).t else (es i).f) = ((rtE es i : Nat) : Int) := by rw [f1, t1]; unfold rtE; split <;> omega
    have ek : IntKind.i64.wrap ((es i).k * t) = (es i).k * t := by rcases ht with rfl | rfl <;> exact w64_in (by omega) (by omega)
    rw [ea, eb, ek]
    refine S4.push (ed := ⟨(lfE es i : Nat), (rtE es i : Nat), 2, (es i).k * t⟩) k1 (by omega) ?_
    intro _ _ v2 own2 q33 _ _ F1 k1
    have bs := bs.fm F1 (by simp <;> omega)
    have k15 := k15.fm F1 (by simp <;> omega)
    have k3 := k3.fm F1 (by simp <;> omega)
    have k4 := k4.fm F1 (by simp <;> omega)
    refine oneP_slc k1.isS (k4.st (by simp) ?_)
    intro q34 F2 k4
    simp only [List.set] at k4
    have bs := bs.fm F2 (by simp <;> omega)
    have k15 := k15.fm F2 (by simp <;> omega)
    have k3 := k3.fm F2 (by simp <;> omega)
    have k1 := k1.fm F2 (by simp <;> omega)
    refine mu_next (I := I) (k := m - (i + 1)) ⟨i + 1, own2, v2, rfl, him, rfl, bs, k15, k3, k4, k1.congr fun j hj => ?_⟩ (hlt him)
    by_cases e : j = i
    · subst e; rw [if_pos rfl, edH_0 him]
    · rw [if_neg e]
  have him : i = m := by have := of_decide_eq_false h1; omega
  rw [him] at k1
  clear hlt hkk hz h1 hi him
  let I2 : (Int × Unit) → H → Nat → Prop := fun p q z => ∃ (j : Nat) (ow : Own) (ev : Value), p.1 = j ∧ j ≤ l + wd ∧ z = l + wd - j ∧ Bs h ow q ∧ B1 ow q 15 b1 [.int .i64 ((l + wd : Nat) : Int), gv] ∧ B1 ow q 3 b3 [.int .i64 0, .slice none 0 0] ∧
    B1 ow q 4 b6 [.int .i64 ((l + wd + 1 : Nat) : Int), ev] ∧ S4 ow q 1 ev (m + j) (edH m l (l + wd) es t)
  refine ⟨fun p q => ∃ k, I2 p q k, rk I2, rk_wf I2, ⟨_, 0, ow, ev, rfl, by omega, rfl, bs, k15, k3, k4, k1⟩, ?_⟩
  clear bs k15 k3 k4 k1
  intro p q hI
  obtain ⟨j, ow, ev, e1, hj, hz, bs, k15, k3, k4, k1⟩ := mu_spec hI
  generalize hkk : mu I2 ((p, ()), q) = km at *
  change p = (j : Int) at e1
  subst e1
  have hlt : j < l + wd → l + wd - (j + 1) < mu I2 (((j : Int), ()), q) := fun h => by rw [hkk, hz]; exact sub_dec h
  clear hI
  refine k15.rI rfl (ifP_of (fun h1 => ?_) (fun h1 => ?_))
  · have hjn : j < l + wd := by have := of_decide_eq_true h1; omega
    rw [i64_inc (by omega)]
    refine ifP_of (fun h2 => ?_) (fun h2 => ?_)
    · have h2 : j < l := by have := of_decide_eq_true h2; omega
      refine k4.rV rfl (k15.rI rfl ⟨rfl, S4.push (ed := ⟨((l + wd : Nat) : Int), (j : Nat), 1, 0⟩) k1 (by omega) ?_⟩)
      intro _ _ v2 own2 q33 _ _ F1 k1
      have bs := bs.fm F1 (by simp <;> omega)
      have k15 := k15.fm F1 (by simp <;> omega)
      have k3 := k3.fm F1 (by simp <;> omega)
      have k4 := k4.fm F1 (by simp <;> omega)
      refine oneP_slc k1.isS (k4.st (by simp) ?_)
      intro q34 F2 k4
      simp only [List.set] at k4
      have bs := bs.fm F2 (by simp <;> omega)
      have k15 := k15.fm F2 (by simp <;> omega)
      have k3 := k3.fm F2 (by simp <;> omega)
      have k1 := k1.fm F2 (by simp <;> omega)
      refine mu_next (I := I2) (k := l + wd - (j + 1)) ⟨j + 1, own2, v2, rfl, hjn, rfl, bs, k15, k3, k4, k1.congr fun i hi => ?_⟩ (hlt hjn)
      by_cases e : i = m + j
      · subst e; rw [if_pos rfl, edH_1 h2]
      · rw [if_neg e]
    · have h2 : ¬ j < l := by have := of_decide_eq_false h2; omega
      refine k4.rV rfl (k15.rI rfl ⟨rfl, S4.push (ed := ⟨(j : Nat), ((l + wd : Nat) : Int), 1, 0⟩) k1 (by omega) ?_⟩)
      intro _ _ v2 own2 q33 _ _ F1 k1
      have bs := bs.fm F1 (by simp <;> omega)
      have k15 := k15.fm F1 (by simp <;> omega)
      have k3 := k3.fm F1 (by simp <;> omega)
      have k4 := k4.fm F1 (by simp <;> omega)
      refine oneP_slc k1.isS (k4.st (by simp) ?_)
      intro q34 F2 k4
      simp only [List.set] at k4
      have bs := bs.fm F2 (by simp <;> omega)
      have k15 := k15.fm F2 (by simp <;> omega)
      have k3 := k3.fm F2 (by simp <;> omega)
      have k1 := k1.fm F2 (by simp <;> omega)
      refine mu_next (I := I2) (k := l + wd - (j + 1)) ⟨j + 1, own2, v2, rfl, hjn, rfl, bs, k15, k3, k4, k1.congr fun i hi => ?_⟩ (hlt hjn)
      by_cases e : i = m + j
      · subst e; rw [if_pos rfl, edH_2 h2]
      · rw [if_neg e]
  have hjn : j = l + wd := by have := of_decide_eq_false h1; omega
  rw [hjn] at k1
  refine k4.ldN rfl (st2 k3 rfl rfl (slc_one k1.isS) fun q53 F1 k3 => ?_)
  have bs := bs.fm F1 (by simp <;> omega)
  have k1 := k1.fm F1 (by simp <;> omega)
  exact k3.ldN rfl ⟨ev, ow, rfl, bs, k1⟩
theorem WholeHeavy_T {n : Int} (G : GrA h w n m es) (left k1 k2 : Int) : T Tryz.prog F.compasstop_WholeHeavy [.agg ⟨w⟩, .int .i64 left, .agg ⟨[.int .i64 k1, .int .i64 k2]⟩] h fun r h' => r = .ret (.bool true) ∧ Ext h h' := by
  refine E_compasstop_WholeHeavy ?_
  unfold B_compasstop_WholeHeavy
  refine new_bl ?_
  intro b1 q1 hb1 x1 B1_
  refine new_bl ?_
  intro b3 q3 hb3 x3 B3
  refine flows1_R.mono ?_
  rintro _ q6 ⟨rfl, x6⟩
  refine rt_ret ⟨_, rfl, ifP_of (fun h => by simp at h) (fun _ => ?_)⟩
  have B1_ := (B1_.ext x3).ext x6
  have B3 := B3.ext x6
  have x := (x1.trans' x3).trans' x6
  clear x1 x3 x6
  refine B1_.ldN G.one.1 (end0 B3 ((ASolve_T (G.ext x) left k1).mono ?_))
  intro r q7 hS
  obtain ⟨mv, pv, c, e, rfl, x7, O⟩ := hS.out
  have B1_ := B1_.ext x7
  have B3 := B3.ext x7
  have x := x.trans' x7
  refine rt_ret ⟨_, _, _, _, rfl, ifP_of (fun h1 => ?_) (fun h1 => ?_)⟩
  · have h1 : e ≠ 0 := by simpa using h1
    rw [O.c0 h1]
    exact ⟨by simp, x⟩
  have h1 : e = 0 := by simpa using h1
  subst h1
  rcases O with ⟨h0, _, h1⟩ | ⟨_, _, l, wd, L, pt, rfl, rfl, sd, hk, M, rfl⟩
  · exact absurd h1.symm h0
  clear hS
  have n1 := sd.gd.n1
  have m1 := sd.gd.m1
  refine B1_.ldN G.one.1 ((hub_R (G.ext x) sd (.inl rfl)).mono ?_)
  rintro _ q19 ⟨hv, ow, rfl, bs, k4⟩
  refine rt_ret ⟨_, rfl, rfl, new_bl_st rfl rfl (by
    intro z hz
    simp only [List.mem_cons, List.not_mem_nil, or_false] at hz
    rcases hz with rfl | rfl
    · rfl
    · exact slc_one k4.isS) ?_⟩
  intro b21 q23 hb21 x21 B21
  have B3 := (B3.ext bs.ext).ext x21
  have B1_ := (B1_.ext bs.ext).ext x21
  have x := (x.trans' bs.ext).trans' x21
  have Gh := k4.gs.ext x21
  refine ⟨by omega, by omega, B21.ldN rfl ⟨_, B21.ld rfl, _, B3.ld (i := 1) rfl, mk_ints 3 (by omega) (by omega) ?_⟩⟩
  intro b28 q29 hb28 x28 S28
  rw [Int.toNat_natCast]
  have Zs := RS.of_S1 (S28 fun _ => 0)
  refine (MSolve_T ((Gh.ext x28).gr ((l + wd + 1 : Nat) : Int)) (l := l + wd + 1) (bf := fun _ => 0) Zs k2).mono ?_
  rintro _ q31 ⟨x31, hr⟩
  have xa := x28.trans' x31
  have B21 := B21.ext xa
  have B1_ := B1_.ext xa
  have x := x.trans' xa
  have Gh := Gh.ext xa
  have sup0 : supOK ((l + wd + 1 : Nat) : Int) (l + wd + 1) (fun _ => 0) := ⟨rfl, fun v _ => by show (-1048576 : Int) ≤ 0 ∧ (0 : Int) ≤ 1048576; omega, sumN_zero fun _ _ => rfl⟩
  rcases hr with ⟨hw2, rfl⟩ | ⟨hw2, _, gd2, hr⟩
  · refine rt_ret ⟨_, rfl, _, _, _, rfl, new_bl_st rfl rfl plZ_one ?_⟩
    intro b36 q38 hb36 x36 B36
    refine ifP_of (fun _ => ?_) (fun h => absurd (by simpa using h) hw2)
    by_cases hsz : l + wd + 1 ≤ 1024 ∧ m + (l + wd) ≤ 4096
    · have g2 := sd.gdH (t := -1) (.inl rfl) hsz.1 hsz.2
      have e50 : wrong14 ((l + wd + 1 : Nat) : Int) (m + (l + wd)) (edH m l (l + wd) es (-1)) (l + wd + 1) (fun _ => 0) k2 = 50 := by
        unfold wrong14 at hw2 ⊢
        rw [if_pos (Gd.iff.2 g2), if_pos sup0] at hw2 ⊢
        split at hw2
        · exact absurd rfl hw2
        · rename_i h; rw [if_neg h]
      rw [e50]
      exact ifP_of (fun _ => ⟨rfl, x.trans' x36⟩) (fun h => by simp at h)
    · have e3 : wrong14 ((l + wd + 1 : Nat) : Int) (m + (l + wd)) (edH m l (l + wd) es (-1)) (l + wd + 1) (fun _ => 0) k2 = 3 := by
        have : faultG ((l + wd + 1 : Nat) : Int) (m + (l + wd)) (edH m l (l + wd) es (-1)) = (3, 0) := if_pos (by omega)
        unfold wrong14
        rw [this, if_neg (by simp)]
      rw [e3]
      refine ifP_of (fun h => by simp at h) (fun _ => ifP_of (fun _ => ⟨_, (B21.ext x36).ld rfl, ifP_of (fun _ => ⟨rfl, x.trans' x36⟩) (fun h4 => ⟨_, (B21.ext x36).ld rfl, (Gh.ext x36).len fun _ _ => ⟨?_, x.trans' x36⟩⟩)⟩) (fun h => by simp at h))
      have h4 := of_decide_eq_false h4
      rw [decide_eq_true (by omega)]
  · obtain ⟨P0, _⟩ := hub_plan sd M.lt M.nd
    rcases hr with ⟨own, vs, von, vp, f, p, rfl, bs2, P⟩ | ⟨_, sd2, rfl, _, Sd_, hl⟩
    · have e := hub_eq sd M P.pl (P.pl.best P0 gd2.ends P.pt)
      have bd := lkE_bd (es := es) (fun i hi => sd.gd.k i hi) M.lt
      have ln := M.ln
      refine rt_ret ⟨_, rfl, _, _, _, rfl, new_bl_st rfl rfl P.one ?_⟩
      intro b36 q38 hb36 x36 B36
      have x := x.trans' x36
      have B1_ := B1_.ext x36
      have ew : IntKind.i64.wrap (0 - lkE es L) = -lkE es L := by rw [show (0 : Int) - lkE es L = -lkE es L by omega]; exact w64_in (by omega) (by omega)
      rw [e, ew]
      refine ifP_of (fun h => by simp at h) (fun _ => ifP_of (fun _ => ?_) (fun h => by simp at h))
      refine B1_.ldN G.one.1 (B1_.ldN G.one.1 ((Copy_R (G.ext x) (by omega)).mono ?_))
      rintro _ q47 ⟨cv, ow2, rfl, bs3, k1⟩
      refine rt_ret ⟨_, rfl, rfl, sameAt_of (by obtain ⟨e, hb⟩ := B1_; exact (bs3.ext _ _ hb).trans hb.symm), (Same_R (G.ext (x.trans' bs3.ext)) (k1.gs.gr _) (by omega)).mono ?_⟩
      rintro _ q50 ⟨rfl, x50⟩
      exact rt_ret ⟨_, rfl, rfl, (x.trans' bs3.ext).trans' x50⟩
    · exact (P0.none_ gd2 hl).elim
end

end Go.Proofs.YtdcamadeblojdaaGreat

namespace Go.Proofs.YtdcamadeblojdaaGreat
open Go Go.ChangeShapes Go.WideShapes Go.Deep Go.RowKit
set_option linter.unusedVariables false

/-- What a world's heap holds, all of it. -/
def hOf (w : World) : H := fun b => w.heap[b]?
theorem hOf_sub (w : World) : Sub (hOf w) w := fun _ _ h => h
theorem hOf_cell {w : World} {a : Addr} {v : Value} (h : w.cell? a = some v) : hcell (hOf w) a = some v := by
  exact h

theorem T.row {P : Program} {f : FuncId} {args : List Value} {w : World} (t : T P f args (hOf w) fun r h' => r = .ret (.bool true) ∧ Ext (hOf w) h') :
    Calls P f args.toArray w fun e w' => e = .returned (.bool true) ∧ Below w.heap.size w w' := by
  refine (t.2 w (hOf_sub w)).mono ?_
  rintro e w' ⟨h', hs, st, hq⟩
  have hr : e = .returned (.bool true) ∧ Ext (hOf w) h' := by
    split at hq
    · obtain ⟨h1, h2⟩ := hq
      cases h1
      exact ⟨rfl, h2⟩
    · obtain ⟨h1, _⟩ := hq
      cases h1
    · exact hq.elim
  refine ⟨hr.1, ⟨st.same.1, st.same.2.1, st.same.2.2, st.size, fun k hk => ?_⟩⟩
  have e1 : w.heap[k]? = some (w.heap[k]'hk) := Array.getElem?_eq_getElem hk
  rw [e1]
  exact hs k _ (hr.2 k _ e1)

def intFields (P : Program) (fs : Array Field) : Bool := (List.range fs.size).all fun i => match fs[i]? with
  | some f => match P.underlying f.type with
    | some (.int .i64) => true
    | _ => false
  | none => false
theorem intFields_of {P : Program} {fs : Array Field} (h : intFields P fs = true) : ∀ (i : Nat) (f : Field), fs[i]? = some f → P.underlying f.type = some (.int .i64) := by
  intro i f hi
  have hlt : i < fs.size := (Array.getElem?_eq_some_iff.1 hi).1
  have := List.all_eq_true.1 h i (List.mem_range.2 hlt)
  simp only [hi] at this
  split at this
  · assumption
  · cases this

end Go.Proofs.YtdcamadeblojdaaGreat

namespace Go.Proofs.YtdcamadeblojdaaGreat
open Go Go.ChangeShapes Go.WideShapes Go.Deep Go.RowKit
set_option linter.unusedVariables false

section
variable {K : Type} {enc : TypeId × Value → K} {P : Program} {w : World} {base : Nat} {spare : Nat → Bool} {held : Bool}

theorem okWide_array {r : Reach} {b0 : Nat} {t e : TypeId} {v : Value} {n : Nat} (ht : P.underlying t = some (.array n e)) (h : Value.okWide P w r b0 t v) : ∃ cs, v = .agg cs ∧ cs.size = P.cellsOf t := by
  simp only [Value.okWide, ht] at h
  obtain ⟨cs, h1, h2, _⟩ := h
  exact ⟨cs, h1, h2⟩

/-- A slice of records of whole numbers, wherever it lies. -/
theorem open_recsN {t e : TypeId} {fs : Array Field} {B fuel : Nat} {cs : List Value} {x : DataW K × List MemPlace}
    (ht : P.underlying t = some (.slice e)) (he : P.underlying e = some (.struct fs)) (hone : oneCellFields P fs = true) (hint : intFields P fs = true) (hC : P.cellsOf e = fs.size) (hB : P.bytesOf e = B)
    (hsz : ∀ el sp, x.1 = .slice el sp → (el.length + sp.length) * B ≤ 140737488351232)
    (hf : DataW.trod enc P w base spare held fuel t cs = some x) :
    ∃ a len cap, cs = [.slice a len cap] ∧ len * B ≤ 140737488351232 ∧ ∀ i, i < len → ∃ ad, a = some ad ∧ ∀ j, j < fs.size → ∃ n : Int, w.cell? (ad.add (i * fs.size + j)) = some (.int .i64 n) := by
  rcases open_slice ht hf with ⟨hcs, _⟩ | ⟨x', l, c, m, n, D, Pl, hcs, _, hl, _, hm, hx, hi⟩
  · exact ⟨none, 0, 0, hcs, by simp, fun i hi => by omega⟩
  · have hlm : l ≤ m := by
      rw [hm]
      split
      · exact hl
      · exact Nat.le_refl _
    refine ⟨some x', l, c, hcs, ?_, fun i hil => ⟨x', rfl, fun j hj => ?_⟩⟩
    · have z := hsz _ _ (by rw [hx])
      simp only [List.length_map, List.length_range] at z
      calc l * B ≤ (l + (m - l)) * B := Nat.mul_le_mul_right _ (by omega)
        _ ≤ _ := z
    · obtain ⟨cs', hc, ht'⟩ := hi i (by omega)
      rw [hC] at hc
      obtain ⟨ys, n', _, _, hlen, hyl, hg⟩ := DataW.trod_struct he ht'
      obtain ⟨_, hcl, hat⟩ := World.cells?_some hc
      have hfj : fs[j]? = some (fs[j]'hj) := Array.getElem?_eq_getElem hj
      obtain ⟨ho, hk⟩ := hone_of hone j _ hfj
      have hw1 := hg j _ hfj
      rw [ho, hk] at hw1
      have one : (cs'.drop j).take 1 = [cs'[j]'(by omega)] := by
        rw [List.drop_eq_getElem_cons (by omega)]
        rfl
      rw [one, List.getElem?_eq_getElem (by omega)] at hw1
      obtain ⟨z, hz, _, _⟩ := DataW.trod_int (intFields_of hint j _ hfj) hw1
      refine ⟨z, ?_⟩
      rw [← Go.Deep.add_add, hat j hj, List.getElem?_eq_getElem (by omega)]
      simpa using hz

theorem open_pair {r : Reach} {b0 : Nat} {t e : TypeId} {v : Value} {d : DataW K} {ps : List MemPlace} (ht : P.underlying t = some (.array 2 e)) (he : P.underlying e = some (.int .i64)) (hC : P.cellsOf t = 2) (hCe : P.cellsOf e = 1)
    (hv : Value.okWide P w r b0 t v) (h : DataW.Trod enc P w base spare held t v d ps) : ∃ s u : Int, v = .agg ⟨[.int .i64 s, .int .i64 u]⟩ := by
  obtain ⟨cs, rfl, hsz⟩ := okWide_array ht hv
  obtain ⟨l⟩ := cs
  match l, hsz.trans hC with
  | [c0, c1], _ =>
    obtain ⟨fuel, hf⟩ := h
    obtain ⟨xs, m, _, _, _, hl, hg⟩ := DataW.trod_array ht hf
    have h0 := hg 0 (by omega)
    have h1 := hg 1 (by omega)
    rw [hCe] at h0 h1
    rw [List.getElem?_eq_getElem (by omega)] at h0 h1
    have h0 : DataW.trod enc P w base spare held m e [c0] = _ := h0
    have h1 : DataW.trod enc P w base spare held m e [c1] = _ := h1
    obtain ⟨s, hs, _⟩ := DataW.trod_int he h0
    obtain ⟨u, hu, _⟩ := DataW.trod_int he h1
    simp only [List.cons.injEq, and_true] at hs hu
    subst hs hu
    exact ⟨s, u, rfl⟩

theorem open_struct2 {r : Reach} {b0 : Nat} {t : TypeId} {f0 f1 : Field} {v : Value} {d : DataW K} {p : List MemPlace} (hs : P.underlying t = some (.struct #[f0, f1])) (hone : oneCellFields P #[f0, f1] = true) (hC : P.cellsOf t = 2)
    (hv : Value.okWide P w r b0 t v) (h : DataW.Trod enc P w base spare held t v d p) :
    ∃ (v0 v1 : Value) (y0 y1 : DataW K × List MemPlace) (n : Nat), v = .agg ⟨[v0, v1]⟩ ∧ d = .agg [y0.1, y1.1] ∧
      DataW.trod enc P w base spare held n f0.type [v0] = some y0 ∧ DataW.trod enc P w base spare held n f1.type [v1] = some y1 := by
  obtain ⟨cs, rfl, hsz⟩ := okWide_struct hs hv
  obtain ⟨l⟩ := cs
  match l, hsz.trans hC with
  | [c0, c1], _ =>
    obtain ⟨fuel, hf⟩ := h
    obtain ⟨xs, n, _, hx, _, hlen, hg⟩ := DataW.trod_struct hs hf
    obtain ⟨o0, k0⟩ := hone_of hone 0 f0 rfl
    obtain ⟨o1, k1⟩ := hone_of hone 1 f1 rfl
    match xs, hlen with
    | [y0, y1], _ =>
      simp only [Prod.mk.injEq] at hx
      exact ⟨c0, c1, y0, y1, n, rfl, by simpa using hx.1, by simpa [Value.cells, o0, k0] using hg 0 f0 rfl, by simpa [Value.cells, o1, k1] using hg 1 f1 rfl⟩
end

/-- Edges read are edges. -/
theorem Gs.of_cells {W : World} {a : Option Addr} {len cap : Nat} (h : ∀ i, i < len → ∃ ad, a = some ad ∧ ∀ j, j < 4 → ∃ n : Int, W.cell? (ad.add (i * 4 + j)) = some (.int .i64 n)) :
    ∃ es, Gs (hOf W) (.slice a len cap) len es := by
  have h2 : ∀ i, ∃ o : Ed, i < len → ∃ ad, a = some ad ∧ hcells (hOf W) (ad.add (i * 4)) o.vs := by
    intro i
    by_cases hi : i < len
    · obtain ⟨ad, rfl, hc⟩ := h i hi
      obtain ⟨n0, h0⟩ := hc 0 (by decide)
      obtain ⟨n1, h1⟩ := hc 1 (by decide)
      obtain ⟨n2, h2⟩ := hc 2 (by decide)
      obtain ⟨n3, h3⟩ := hc 3 (by decide)
      refine ⟨⟨n0, n1, n2, n3⟩, fun _ => ⟨ad, rfl, fun j v hj => ?_⟩⟩
      rw [Go.Deep.add_add]
      match j, hj with
      | 0, hj => cases hj; exact hOf_cell h0
      | 1, hj => cases hj; exact hOf_cell h1
      | 2, hj => cases hj; exact hOf_cell h2
      | 3, hj => cases hj; exact hOf_cell h3
    · exact ⟨⟨0, 0, 0, 0⟩, fun h => absurd h hi⟩
  exact ⟨fun i => Classical.choose (h2 i), a, cap, rfl, fun i hi => Classical.choose_spec (h2 i) hi⟩

end Go.Proofs.YtdcamadeblojdaaGreat

namespace Go.Proofs.YtdcamadeblojdaaGreat
open Go Go.ChangeShapes Go.WideShapes Go.ChangeAt Go.RowKit
set_option linter.unusedVariables false

theorem own : ownKnob Tryz.prog.godebug = none := by kernel_rfl
theorem laidOut : laidOutB Tryz.prog = true := by kernel_rfl

end Go.Proofs.YtdcamadeblojdaaGreat

