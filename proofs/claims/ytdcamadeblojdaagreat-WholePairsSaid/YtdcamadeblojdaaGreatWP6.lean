import Derived.Test.YtdcamadeblojdaaGreatProg
import Derived.Shelf.Sort.Plain
import Derived.Shelf.Slices.In.SortNone
import Derived.Deep.Slices
import Derived.Deep.Fields
import Derived.ChangeSame
import Derived.SizedLaws
import Derived.WalkKit
import Derived.ProofKit
import Derived.OpenShut
import Derived.ShutString
import Derived.ChangeOld
import Derived.Below
import Derived.Test.YtdcamadeblojdaaGreatWP5
namespace Go.Proofs.YtdcamadeblojdaaGreat
open Go
def ZS.lays189_ren : Go.Shelf.Ren := ⟨fun | 189 => 16 | 125 => 28 | 257 => 27 | 128 => 46 | 129 => 47 | 294 => 37 | 295 => 38 | 296 => 39 | 297 => 40 | 298 => 41 | 299 => 42 | 216 => 43 | 300 => 44 | 301 => 45 | 328 => 50 | 329 => 51 | 330 => 52 | 331 => 53 | 332 => 54 | 215 => 55 | 343 => 56 | n => n, fun | 28 => 27 | 3 => 3 | 46 => 116 | 0 => 0 | 51 => 136 | 53 => 138 | 4 => 4 | 183 => 128 | 182 => 127 | 131 => 133 | 5 => 5 | 9 => 9 | 218 => 162 | 222 => 56 | 228 => 169 | 229 => 170 | n => n, fun | n => n⟩
theorem ZS.lays189 : Go.Proofs.Lays.n189 Tryz.prog ZS.lays189_ren := {
  mixed := by kernel_rfl,
  f125 := Tryz.func28.trans (congrArg some (by kernel_rfl)),
  f128 := Tryz.func46.trans (congrArg some (by kernel_rfl)),
  f129 := Tryz.func47.trans (congrArg some (by kernel_rfl)),
  f189 := Tryz.func16.trans (congrArg some (by kernel_rfl)),
  f215 := Tryz.func55.trans (congrArg some (by kernel_rfl)),
  f216 := Tryz.func43.trans (congrArg some (by kernel_rfl)),
  f257 := Tryz.func27.trans (congrArg some (by kernel_rfl)),
  f294 := Tryz.func37.trans (congrArg some (by kernel_rfl)),
  f295 := Tryz.func38.trans (congrArg some (by kernel_rfl)),
  f296 := Tryz.func39.trans (congrArg some (by kernel_rfl)),
  f297 := Tryz.func40.trans (congrArg some (by kernel_rfl)),
  f298 := Tryz.func41.trans (congrArg some (by kernel_rfl)),
  f299 := Tryz.func42.trans (congrArg some (by kernel_rfl)),
  f300 := Tryz.func44.trans (congrArg some (by kernel_rfl)),
  f301 := Tryz.func45.trans (congrArg some (by kernel_rfl)),
  f328 := Tryz.func50.trans (congrArg some (by kernel_rfl)),
  f329 := Tryz.func51.trans (congrArg some (by kernel_rfl)),
  f330 := Tryz.func52.trans (congrArg some (by kernel_rfl)),
  f331 := Tryz.func53.trans (congrArg some (by kernel_rfl)),
  f332 := Tryz.func54.trans (congrArg some (by kernel_rfl)),
  f343 := Tryz.func56.trans (congrArg some (by kernel_rfl)),
  t0 := Tryz.underlying0,
  a0 := Tryz.isAgg0,
  z0 := Tryz.sizeOf0,
  v0 := Tryz.zeroValue0,
  t3 := Tryz.underlying3,
  a3 := Tryz.isAgg3,
  z3 := Tryz.sizeOf3,
  v3 := Tryz.zeroValue3,
  t4 := Tryz.underlying4,
  a4 := Tryz.isAgg4,
  z4 := Tryz.sizeOf4,
  v4 := Tryz.zeroValue4,
  t5 := Tryz.underlying5,
  a5 := Tryz.isAgg5,
  z5 := Tryz.sizeOf5,
  v5 := Tryz.zeroValue5,
  t9 := Tryz.underlying9,
  a9 := Tryz.isAgg9,
  z9 := Tryz.sizeOf9,
  v9 := Tryz.zeroValue9,
  t28 := Tryz.underlying27,
  a28 := Tryz.isAgg27,
  z28 := Tryz.sizeOf27,
  v28 := Tryz.zeroValue27,
  t46 := Tryz.underlying116,
  a46 := Tryz.isAgg116,
  z46 := Tryz.sizeOf116,
  v46 := Tryz.zeroValue116,
  t51 := Tryz.underlying136,
  a51 := Tryz.isAgg136,
  z51 := Tryz.sizeOf136,
  v51 := Tryz.zeroValue136,
  t53 := Tryz.underlying138,
  a53 := Tryz.isAgg138,
  z53 := Tryz.sizeOf138,
  v53 := Tryz.zeroValue138,
  t131 := Tryz.underlying133,
  a131 := Tryz.isAgg133,
  z131 := Tryz.sizeOf133,
  v131 := Tryz.zeroValue133,
  t182 := Tryz.underlying127,
  a182 := Tryz.isAgg127,
  z182 := Tryz.sizeOf127,
  v182 := Tryz.zeroValue127,
  t183 := Tryz.underlying128,
  a183 := Tryz.isAgg128,
  z183 := Tryz.sizeOf128,
  v183 := Tryz.zeroValue128,
  t218 := Tryz.underlying162,
  a218 := Tryz.isAgg162,
  z218 := Tryz.sizeOf162,
  v218 := Tryz.zeroValue162,
  t222 := Tryz.underlying56,
  a222 := Tryz.isAgg56,
  z222 := Tryz.sizeOf56,
  v222 := Tryz.zeroValue56,
  t228 := Tryz.underlying169,
  a228 := Tryz.isAgg169,
  z228 := Tryz.sizeOf169,
  v228 := Tryz.zeroValue169,
  t229 := Tryz.underlying170,
  a229 := Tryz.isAgg170,
  z229 := Tryz.sizeOf170,
  v229 := Tryz.zeroValue170 }
end Go.Proofs.YtdcamadeblojdaaGreat

namespace Go.Proofs.YtdcamadeblojdaaGreat
open Go Go.Sort
set_option linter.unusedVariables false
set_option linter.unusedSimpArgs false

/-- Rising. -/
def sortL (L : List Nat) : List Nat := L.mergeSort fun x y => decide (x ≤ y)
theorem sortL_perm (L : List Nat) : (sortL L).Perm L := List.mergeSort_perm _ _
theorem sortL_len (L : List Nat) : (sortL L).length = L.length := (sortL_perm L).length_eq
theorem sortL_int (L : List Nat) : ((L.map fun a : Nat => (a : Int)).mergeSort fun x y => decide (x ≤ y)) = (sortL L).map fun a : Nat => (a : Int) := by
  unfold sortL
  rw [List.map_mergeSort (s := fun x y : Int => decide (x ≤ y))]
  intro a _ b _
  exact decide_eq_decide.2 (by omega)
theorem sort_T {own : Own} {h : H} {i : Nat} {v : Value} {L : List Nat} (s : S1 own h i v (natV L)) (hl : L.length < 1000000) :
    T Tryz.prog F.slices_Sort [v] h fun r h' => r = .ret (.tuple ⟨[]⟩) ∧ Fm [i] own h own h' ∧ S1 own h' i v (natV (sortL L)) := by
  refine ⟨⟨Tryz.f16, Tryz.func16, by kernel_rfl, by kernel_rfl⟩, fun w hw => ?_⟩
  rcases s with ⟨e1, rfl⟩ | ⟨b, hb, c, e, zs, rfl, h2, h3⟩
  · have hL : L = [] := by
      cases L with
      | nil => rfl
      | cons a l => simp [natV] at e1
    subst hL
    refine (Any.slices_Sort_int_none ZS.lays189 none 0 w).mono ?_
    rintro e w' ⟨rfl, rfl⟩
    exact ⟨h, hw, Stp.refl h w', rfl, Fm.refl, .inl ⟨by simp [sortL, natV], rfl⟩⟩
  · have hwb := hw b _ h2
    have hbs : b < w.heap.size := (Array.getElem?_eq_some_iff.1 hwb).1
    have cell : ∀ j, j < L.length → ((natV L ++ zs)[j]? : Option Value) = some (.int .i64 ((L.map fun a : Nat => (a : Int)).toArray[j]!)) := fun j hj => by
      rw [List.getElem?_append_left (by rw [natV_length]; exact hj), natV_get hj]
      simp [hj]
    have hH : Holds (Value.int .i64) w b 0 (L.map fun a : Nat => (a : Int)).toArray := fun j hj => by
      have hj : j < L.length := by simpa using hj
      constructor
      · unfold World.cell?
        rw [hwb]
        show (⟨natV L ++ zs⟩ : Array Value)[0 + j]? = _
        rw [Nat.zero_add, List.getElem?_toArray]
        exact cell j hj
      · unfold World.frozen?
        rw [hwb]
        simp
    have put : putCells (Value.int .i64) 0 ((sortL L).map fun a : Nat => (a : Int)).toArray ⟨natV L ++ zs⟩ = ⟨natV (sortL L) ++ zs⟩ := by
      have sl := sortL_len L
      apply Array.ext_getElem?
      intro k
      unfold putCells
      rw [Array.getElem?_mapIdx, List.getElem?_toArray, List.getElem?_toArray]
      by_cases hk : k < L.length
      · rw [cell k hk, List.getElem?_append_left (by rw [natV_length]; omega), natV_get (by omega)]
        simp [show k < (sortL L).length by omega]
      · rw [List.getElem?_append_right (by rw [natV_length]; omega), List.getElem?_append_right (by rw [natV_length]; omega), natV_length, natV_length, sl]
        cases zs[k - L.length]? with
        | none => rfl
        | some y => simp [show ¬ k < (sortL L).length by omega]
    rw [natV_length]
    have := Any.slices_Sort_int ZS.lays189 b 0 c (L.map fun a : Nat => (a : Int)) w hH hbs (by rw [List.length_map]; omega)
    rw [List.length_map, sortL_int] at this
    refine this.mono ?_
    rintro e' w' ⟨rfl, n, os, rfl⟩
    refine ⟨fun x => if x = b then some (.cells ⟨natV (sortL L) ++ zs⟩ e (0, 0)) else h x, fun x o hx => ?_, ⟨⟨rfl, rfl, rfl⟩, ?_, fun x hx hn => ?_⟩, rfl, ?_, ?_⟩
    · have hsz : x < w.heap.size → (grow (putRow (Value.int .i64) (Go.Sort.ahead w n) b 0 ((sortL L).map fun a : Nat => (a : Int)).toArray) os).heap[x]? = (w.heap.modify b (onCells (putCells (Value.int .i64) 0 ((sortL L).map fun a : Nat => (a : Int)).toArray)))[x]? := fun hlt => by
        show ((w.heap.modify b _) ++ os)[x]? = _
        rw [Array.getElem?_append_left (by simpa using hlt)]
      (try dsimp only at hx)
      by_cases e1 : x = b
      · subst e1
        rw [if_pos rfl] at hx
        rw [hsz hbs, Array.getElem?_modify, if_pos rfl, hwb, ← hx]
        show some (Obj.cells _ e (0, 0)) = _
        rw [put]
      · rw [if_neg e1] at hx
        have hwx := hw x o hx
        rw [hsz (Array.getElem?_eq_some_iff.1 hwx).1, Array.getElem?_modify, if_neg (Ne.symm e1)]
        exact hwx
    · simp
    · have e1 : x ≠ b := by rintro rfl; rw [h2] at hn; cases hn
      refine ⟨?_, by rw [if_neg e1]; exact hn⟩
      show ((w.heap.modify b _) ++ os)[x]? = _
      rw [Array.getElem?_append_left (by simpa using hx), Array.getElem?_modify, if_neg (Ne.symm e1)]
    · refine Fm.kp (b := b) (fun x o hne hx => ?_) hb ⟨_, if_pos rfl⟩
      rw [if_neg hne]; exact hx
    · refine .inr ⟨b, hb, c, e, zs, by rw [natV_length, sortL_len], if_pos rfl, ?_⟩
      rw [natV_length] at h3 ⊢
      rw [sortL_len]; exact h3

end Go.Proofs.YtdcamadeblojdaaGreat

namespace Go.Proofs.YtdcamadeblojdaaGreat
open Go
set_option linter.unusedVariables false
set_option linter.unusedSimpArgs false
set_option maxHeartbeats 1000000

def sidesFrom (left : Int) (es : Nat → Ed) : Nat → Nat → Int × Int
  | _, 0 => (0, 0)
  | i, k + 1 => if (decide ((es i).f < left) == decide ((es i).t < left)) = true then (140, (i : Int)) else sidesFrom left es (i + 1) k
/-- The fault of a graph and a number of nodes of its left side. -/
def sidesG (n : Int) (m : Nat) (es : Nat → Ed) (left : Int) : Int × Int :=
  if (faultG n m es).1 ≠ 0 then faultG n m es else if left < 0 ∨ n < left then (140, 0) else sidesFrom left es 0 m
theorem sidesFrom_0 {left : Int} {es : Nat → Ed} : ∀ {k i : Nat}, (sidesFrom left es i k).1 = 0 → ∀ j, i ≤ j → j < i + k → (decide ((es j).f < left) == decide ((es j).t < left)) = false
  | 0, i, _, j, h1, h2 => by omega
  | k + 1, i, h, j, h1, h2 => by
    unfold sidesFrom at h
    split at h
    · cases h
    · rename_i hh
      by_cases e : j = i
      · subst e; simpa using hh
      · exact sidesFrom_0 h j (by omega) (by omega)
/-- Two sides. -/
structure Sd (l wd m : Nat) (es : Nat → Ed) : Prop where
  gd : Gd (l + wd) m es
  sd : ∀ i, i < m → lfE es i < l ∧ l ≤ rtE es i ∧ rtE es i < l + wd
theorem Sd.of {n left : Int} {m : Nat} {es : Nat → Ed} (h : (sidesG n m es left).1 = 0) : ∃ l wd : Nat, left = l ∧ n = ((l + wd : Nat) : Int) ∧ Sd l wd m es := by
  unfold sidesG at h
  split at h
  · rename_i h1; exact absurd h h1
  · rename_i h1
    have h1 : (faultG n m es).1 = 0 := by omega
    obtain ⟨n', rfl, gd⟩ := Gd.of h1
    split at h
    · cases h
    · rename_i h2
      refine ⟨left.toNat, n' - left.toNat, by omega, by omega, ?_⟩
      have e : left.toNat + (n' - left.toNat) = n' := by omega
      rw [← e] at gd
      refine ⟨gd, fun i hi => ?_⟩
      have k := sidesFrom_0 h i (by omega) (by omega)
      obtain ⟨f1, f2⟩ := gd.fr hi
      obtain ⟨t1, t2⟩ := gd.to hi
      rw [f1, t1] at k
      have k2 : ¬ ((decide (((frE es i : Nat) : Int) < left)) = (decide (((toE es i : Nat) : Int) < left))) := fun e => by rw [e] at k; simp at k
      rw [decide_eq_decide] at k2
      unfold lfE rtE
      omega
section
variable {h : H} {w : List Value} {n : Int} {m : Nat} {es : Nat → Ed}
theorem Sides_T (G : GrA h w n m es) (left : Int) : T Tryz.prog F.bimatch_Sides [.agg ⟨w⟩, .int .i64 left] h fun r h' =>
    r = .ret (.agg ⟨[.int .i64 (sidesG n m es left).1, .int .i64 (sidesG n m es left).2]⟩) ∧ Ext h h' := by
  refine E_bimatch_Sides ?_
  unfold B_bimatch_Sides
  refine new_bl ?_
  intro b1 g hb x B
  refine new_bl ?_
  intro b3 g3 hb3 x3 B3
  have B1_ := B.ext x3
  have hb3h := x.new hb3
  have xh := x.trans' x3
  have out : ∀ {q : H} {p : Int × Int}, Ext g3 q → (∃ z, z.length = 2 ∧ Bl q b3 z) → sidesG n m es left = p → stN q (bk b3) [.int .i64 p.1, .int .i64 p.2] 2 fun h8 => ldN h8 (bk b3) 2 fun x9 =>
      Res.ret (.agg ⟨x9⟩) = .ret (.agg ⟨[.int .i64 (sidesG n m es left).1, .int .i64 (sidesG n m es left).2]⟩) ∧ Ext h h8 := by
    rintro q p xq ⟨z, hz, Bz⟩ rfl
    refine Bz.stN rfl hz (by simp [Value.oneCell']) ?_
    intro q2 kp B2
    refine B2.ldN rfl ⟨rfl, (xh.trans' xq).of_kp kp hb3h⟩
  refine B1_.ldN G.one.1 ((Check_T (G.ext xh)).mono ?_)
  rintro _ g7 ⟨rfl, x7⟩
  refine rt_ret ⟨_, rfl, rfl, new_bl_st rfl rfl (by simp [Value.oneCell']) ?_⟩
  intro b9 g9 hb9 x9 B9
  have x79 := x7.trans' x9
  have B3_ : Bl g9 b3 _ := B3.ext x79
  refine ⟨_, B9.ld rfl, ifP_of (fun h1 => ?_) (fun h1 => ?_)⟩
  · have h1 : (faultG n m es).1 ≠ 0 := by simpa using h1
    have e : sidesG n m es left = faultG n m es := if_pos h1
    refine B9.ldN rfl (out (p := (faultG n m es)) x79 ⟨_, rfl, B3_⟩ e)
  have h1 : (faultG n m es).1 = 0 := by simpa using h1
  have B1_ := B1_.ext x79
  obtain ⟨gv, rfl, Gv⟩ := G.gs
  have hm : m ≤ 4096 := by obtain ⟨_, _, gd⟩ := Gd.of h1; exact gd.m1
  have bad : (left < 0 ∨ n < left) → sidesG n m es left = (140, 0) := fun hh => by unfold sidesG; rw [if_neg (by omega), if_pos hh]
  refine ifP_of (fun h2 => out (p := (140, 0)) x79 ⟨_, rfl, B3_⟩ (bad (.inl (of_decide_eq_true h2)))) (fun h2 => ?_)
  have h2 := of_decide_eq_false h2
  refine ⟨_, B1_.ld rfl, ifP_of (fun h3 => out (p := (140, 0)) x79 ⟨_, rfl, B3_⟩ (bad (.inr (of_decide_eq_true h3)))) (fun h3 => ?_)⟩
  have h3 := of_decide_eq_false h3
  have e : sidesG n m es left = sidesFrom left es 0 m := by unfold sidesG; rw [if_neg (by omega), if_neg (by omega)]
  have Gx := Gv.ext (xh.trans' x79)
  refine ⟨_, B1_.ld rfl, Gx.len fun _ _ => ?_⟩
  let I : (Int × Unit) → H → Nat → Prop := fun s g2 k => ∃ i : Nat, s.1 = i ∧ i ≤ m ∧ k = m - i ∧ Ext g9 g2 ∧ sidesFrom left es i (m - i) = sidesFrom left es 0 m
  refine ⟨fun s g2 => ∃ k, I s g2 k, rk I, rk_wf I, ⟨_, 0, rfl, by omega, rfl, Ext.refl _, rfl⟩, ?_⟩
  intro s g2 hI
  obtain ⟨i, e1, hi, hz, xq, hf⟩ := mu_spec hI
  generalize hkk : mu I ((s, ()), g2) = km at *
  change s = (i : Int) at e1
  subst e1
  refine ifP_of (fun h4 => ?_) (fun h4 => ?_)
  · have him : i < m := by have := of_decide_eq_true h4; omega
    refine (Gx.ext xq).at him fun a29 e29 => ⟨(es i).vs, rfl, e29, ?_⟩
    refine new_bl_st rfl rfl (ed_one _) ?_
    intro b31 g31 hb31 x31 B31
    obtain ⟨j, hj⟩ : ∃ j, m - i = j + 1 := ⟨m - i - 1, by omega⟩
    refine ⟨_, B31.ed.1, _, B31.ed.2.1, ifP_of (fun h5 => ?_) (fun h5 => ?_)⟩
    · refine out (p := (140, (i : Int))) (x79.trans' (xq.trans' x31)) ⟨_, rfl, B3_.ext (xq.trans' x31)⟩ ?_
      rw [e, ← hf, hj]
      unfold sidesFrom
      rw [if_pos h5]
    · rw [i64_inc (by omega)]
      refine mu_next (I := I) (k := m - (i + 1)) ⟨i + 1, rfl, him, rfl, xq.trans' x31, ?_⟩ (by rw [hkk, hz]; omega)
      rw [← hf, hj, show m - (i + 1) = j by omega]
      conv => rhs; unfold sidesFrom
      rw [if_neg (by rw [h5]; simp)]
  · have him : i = m := by have := of_decide_eq_false h4; omega
    subst him
    refine out (p := (0, 0)) (x79.trans' xq) ⟨_, rfl, B3_.ext xq⟩ ?_
    rw [e, ← hf, Nat.sub_self]
    rfl
end

end Go.Proofs.YtdcamadeblojdaaGreat

namespace Go.Proofs.YtdcamadeblojdaaGreat
open Go
set_option linter.unusedVariables false
set_option linter.unusedSimpArgs false
set_option maxHeartbeats 2000000

section
variable {own : Own} {h0 h9 : H} {b1 l wd m : Nat} {gv : Value} {es : Nat → Ed} {R : Res → H → Prop} {kind : Int}
/-- What Solve refuses. -/
def codeA (n : Int) (m : Nat) (es : Nat → Ed) (left kind : Int) : Int := if (sidesG n m es left).1 ≠ 0 then (sidesG n m es left).1 else if kind = 1 ∨ kind = 2 then 0 else 50
end

end Go.Proofs.YtdcamadeblojdaaGreat

namespace Go.Proofs.YtdcamadeblojdaaGreat
open Go
set_option linter.unusedVariables false
set_option linter.unusedSimpArgs false
set_option maxHeartbeats 1000000

/-- The graph of the flow round. -/
def edW (n l : Nat) (es : Nat → Ed) (i : Nat) : Ed :=
  if i < n then (if i < l then ⟨(n : Nat), (i : Nat), 1, 0⟩ else ⟨(i : Nat), (n : Nat), 1, 0⟩) else ⟨(lfE es (i - n) : Nat), (rtE es (i - n) : Nat), 1, -(es (i - n)).k⟩
section
variable {n l wd m : Nat} {es : Nat → Ed} {L : List Nat} {pt f : Nat → Int}
theorem edW_1 {i : Nat} (h : i < l) (hn : l ≤ n) : edW n l es i = ⟨(n : Nat), (i : Nat), 1, 0⟩ := by unfold edW; rw [if_pos (by omega), if_pos h]
theorem edW_2 {i : Nat} (h : ¬ i < l) (hn : i < n) : edW n l es i = ⟨(i : Nat), (n : Nat), 1, 0⟩ := by unfold edW; rw [if_pos hn, if_neg h]
theorem edW_3 {j : Nat} : edW n l es (n + j) = ⟨(lfE es j : Nat), (rtE es j : Nat), 1, -(es j).k⟩ := by unfold edW; rw [if_neg (by omega), show n + j - n = j by omega]
theorem Sd.gmW (sd : Sd l wd m es) : Gm (l + wd + 1) (l + wd + m) (edW (l + wd) l es) := by
  have n1 := sd.gd.n1
  have m1 := sd.gd.m1
  have key : ∀ i, i < l + wd + m → (i < l) ∨ (¬ i < l ∧ i < l + wd) ∨ ∃ j, j < m ∧ i = l + wd + j := fun i hi => by
    by_cases h1 : i < l
    · exact .inl h1
    · by_cases h2 : i < l + wd
      · exact .inr (.inl ⟨h1, h2⟩)
      · exact .inr (.inr ⟨i - (l + wd), by omega, by omega⟩)
  refine ⟨by omega, by omega, fun i hi => ?_, fun i hi => ?_, fun i hi => ?_, fun i hi => ?_⟩
  · rcases key i hi with h | ⟨h1, h2⟩ | ⟨j, hj, rfl⟩
    · rw [edW_1 h (by omega)]; exact ⟨l + wd, rfl, by omega⟩
    · rw [edW_2 h1 h2]; exact ⟨i, rfl, by omega⟩
    · rw [edW_3]; have := sd.sd j hj; exact ⟨_, rfl, by omega⟩
  · rcases key i hi with h | ⟨h1, h2⟩ | ⟨j, hj, rfl⟩
    · rw [edW_1 h (by omega)]; exact ⟨i, rfl, by omega⟩
    · rw [edW_2 h1 h2]; exact ⟨l + wd, rfl, by omega⟩
    · rw [edW_3]; have := sd.sd j hj; exact ⟨_, rfl, by omega⟩
  · rcases key i hi with h | ⟨h1, h2⟩ | ⟨j, hj, rfl⟩
    · rw [edW_1 h (by omega)]; show (0 : Int) ≤ 1 ∧ (1 : Int) ≤ 1048576; omega
    · rw [edW_2 h1 h2]; show (0 : Int) ≤ 1 ∧ (1 : Int) ≤ 1048576; omega
    · rw [edW_3]; show (0 : Int) ≤ 1 ∧ (1 : Int) ≤ 1048576; omega
  · rcases key i hi with h | ⟨h1, h2⟩ | ⟨j, hj, rfl⟩
    · rw [edW_1 h (by omega)]; show (-1048576 : Int) ≤ 0 ∧ (0 : Int) ≤ 1048576; omega
    · rw [edW_2 h1 h2]; show (-1048576 : Int) ≤ 0 ∧ (0 : Int) ≤ 1048576; omega
    · rw [edW_3]; have := sd.gd.k j hj; show (-1048576 : Int) ≤ -(es j).k ∧ -(es j).k ≤ 1048576; omega
theorem fr_1 {i : Nat} (h : i < l) (hn : l ≤ n) : frE (edW n l es) i = n ∧ toE (edW n l es) i = i ∧ ckE (edW n l es) i = 0 ∧ cpE (edW n l es) i = 1 := by
  unfold frE toE ckE cpE; rw [edW_1 h hn]; exact ⟨by simp, by simp, rfl, rfl⟩
theorem fr_2 {i : Nat} (h : ¬ i < l) (hn : i < n) : frE (edW n l es) i = i ∧ toE (edW n l es) i = n ∧ ckE (edW n l es) i = 0 ∧ cpE (edW n l es) i = 1 := by
  unfold frE toE ckE cpE; rw [edW_2 h hn]; exact ⟨by simp, by simp, rfl, rfl⟩
theorem fr_3 {j : Nat} : frE (edW n l es) (n + j) = lfE es j ∧ toE (edW n l es) (n + j) = rtE es j ∧ ckE (edW n l es) (n + j) = -(es j).k ∧ cpE (edW n l es) (n + j) = 1 := by
  have e := edW_3 (n := n) (l := l) (es := es) (j := j)
  refine ⟨?_, ?_, ?_, ?_⟩
  · show (edW n l es (n + j)).f.toNat = _
    rw [e]; exact Int.toNat_natCast _
  · show (edW n l es (n + j)).t.toNat = _
    rw [e]; exact Int.toNat_natCast _
  · show (edW n l es (n + j)).k = _
    rw [e]
  · show (edW n l es (n + j)).c = _
    rw [e]
/-- The ends of an edge, either way. -/
theorem pt_ends (pt : Nat → Int) (i : Nat) : pt (frE es i) + pt (toE es i) = pt (lfE es i) + pt (rtE es i) := by
  unfold lfE rtE
  rcases Nat.le_total (frE es i) (toE es i) with h | h
  · rw [Nat.min_eq_left h, Nat.max_eq_right h]
  · rw [Nat.min_eq_right h, Nat.max_eq_left h]; omega
/-- No flow round is cheaper. -/
theorem best_ge0 (sd : Sd l wd m es) (po : ∀ v, v < l + wd → 0 ≤ pt v) (co : ∀ i, i < m → (es i).k ≤ pt (frE es i) + pt (toE es i))
    (c0 : ∀ i, i < l + wd + m → 0 ≤ f i) (p1 : ∀ i, i < l + wd → f i ≤ 1) (o : ∀ v, v < l + wd + 1 → OutF (l + wd + m) (frE (edW (l + wd) l es)) (toE (edW (l + wd) l es)) f v = 0) :
    -sumN (l + wd) pt ≤ totC (l + wd + m) (ckE (edW (l + wd) l es)) f := by
  have gm := sd.gmW
  have hn : ∀ i, i < l + wd + m → frE (edW (l + wd) l es) i < l + wd + 1 ∧ toE (edW (l + wd) l es) i < l + wd + 1 := fun i hi => ⟨(gm.fr hi).2, (gm.to hi).2⟩
  have z := pot_out hn (fun v => if v < l then pt v else if v < l + wd then -pt v else 0) f
  rw [sumN_zero (f := fun v => _ * OutF _ _ _ _ _) (fun v hv => by rw [o v hv]; simp), sumN_split] at z
  have z1 : (sumN (l + wd) fun i => ((if frE (edW (l + wd) l es) i < l then pt (frE (edW (l + wd) l es) i) else if frE (edW (l + wd) l es) i < l + wd then -pt (frE (edW (l + wd) l es) i) else 0) -
      (if toE (edW (l + wd) l es) i < l then pt (toE (edW (l + wd) l es) i) else if toE (edW (l + wd) l es) i < l + wd then -pt (toE (edW (l + wd) l es) i) else 0)) * f i) = sumN (l + wd) fun i => -(pt i * f i) := sumN_congr fun i hi => by
    by_cases h : i < l
    · obtain ⟨a, b, _⟩ := fr_1 (es := es) h (Nat.le_add_right l wd)
      rw [a, b, if_neg (by omega), if_neg (by omega), if_pos h, Int.zero_sub, Int.neg_mul]
    · obtain ⟨a, b, _⟩ := fr_2 (es := es) h hi
      rw [a, b, if_neg h, if_pos hi, if_neg (by omega), if_neg (by omega), Int.sub_zero, Int.neg_mul]
  have z2 : (sumN m fun j => ((if frE (edW (l + wd) l es) (l + wd + j) < l then pt (frE (edW (l + wd) l es) (l + wd + j)) else if frE (edW (l + wd) l es) (l + wd + j) < l + wd then -pt (frE (edW (l + wd) l es) (l + wd + j)) else 0) -
      (if toE (edW (l + wd) l es) (l + wd + j) < l then pt (toE (edW (l + wd) l es) (l + wd + j)) else if toE (edW (l + wd) l es) (l + wd + j) < l + wd then -pt (toE (edW (l + wd) l es) (l + wd + j)) else 0)) * f (l + wd + j)) =
      sumN m fun j => (pt (lfE es j) + pt (rtE es j)) * f (l + wd + j) := sumN_congr fun j hj => by
    obtain ⟨a, b, _⟩ := fr_3 (n := l + wd) (l := l) (es := es) (j := j)
    have s := sd.sd j hj
    rw [a, b, if_pos s.1, if_neg (by omega), if_pos s.2.2, Int.sub_neg]
  rw [z1, z2] at z
  unfold totC
  rw [sumN_split (a := l + wd) (b := m)]
  have c1 : (sumN (l + wd) fun i => ckE (edW (l + wd) l es) i * f i) = 0 := sumN_zero fun i hi => by
    by_cases h : i < l
    · rw [(fr_1 (es := es) h (Nat.le_add_right l wd)).2.2.1, Int.zero_mul]
    · rw [(fr_2 (es := es) h hi).2.2.1, Int.zero_mul]
  have c2 : -(sumN m fun j => (pt (lfE es j) + pt (rtE es j)) * f (l + wd + j)) ≤ sumN m fun j => ckE (edW (l + wd) l es) (l + wd + j) * f (l + wd + j) := by
    rw [show -(sumN m fun j => (pt (lfE es j) + pt (rtE es j)) * f (l + wd + j)) = (-1) * (sumN m fun j => (pt (lfE es j) + pt (rtE es j)) * f (l + wd + j)) by omega, ← sumN_mul]
    refine sumN_le fun j hj => ?_
    rw [(fr_3 (n := l + wd) (l := l) (es := es) (j := j)).2.2.1]
    have a := c0 (l + wd + j) (by omega)
    have b := co j hj
    rw [pt_ends] at b
    have := Int.mul_nonneg (show 0 ≤ pt (lfE es j) + pt (rtE es j) - (es j).k by omega) a
    rw [Int.sub_mul] at this
    have h2 := Int.neg_mul (es j).k (f (l + wd + j))
    omega
  have c3 : (sumN (l + wd) fun i => pt i * f i) ≤ sumN (l + wd) pt := sumN_le fun i hi => by
    have a := p1 i hi
    have := Int.mul_nonneg (po i hi) (show 0 ≤ 1 - f i by omega)
    rw [Int.mul_sub] at this
    omega
  have c4 : (sumN (l + wd) fun i => -(pt i * f i)) = -(sumN (l + wd) fun i => pt i * f i) := by
    rw [show -(sumN (l + wd) fun i => pt i * f i) = (-1) * (sumN (l + wd) fun i => pt i * f i) by omega, ← sumN_mul]
    exact sumN_congr fun i _ => by omega
  rw [c4] at z
  rw [c1]
  omega
def lsm (F : Nat → Int) : List Nat → Int
  | [] => 0
  | i :: L => F i + lsm F L
theorem lkE_lsm : ∀ {L : List Nat}, lkE es L = lsm (fun i => (es i).k) L
  | [] => rfl
  | i :: L => by show (es i).k + lkE es L = (es i).k + lsm _ L; rw [lkE_lsm]
theorem lsm_congr {F G : Nat → Int} : ∀ {L : List Nat}, (∀ i, i ∈ L → F i = G i) → lsm F L = lsm G L
  | [], _ => rfl
  | i :: L, h => by
    show F i + lsm F L = G i + lsm G L
    rw [h i List.mem_cons_self, lsm_congr fun j hj => h j (List.mem_cons_of_mem _ hj)]
theorem lsm_mul {F : Nat → Int} {c : Int} : ∀ {L : List Nat}, lsm (fun i => c * F i) L = c * lsm F L
  | [] => by show (0 : Int) = c * 0; omega
  | i :: L => by show c * F i + lsm _ L = c * (F i + lsm F L); rw [lsm_mul, Int.mul_add]
theorem lsm_zero {F : Nat → Int} {L : List Nat} (h : ∀ i, i ∈ L → F i = 0) : lsm F L = 0 := by
  rw [lsm_congr (G := fun i => 0 * 0) fun i hi => by rw [h i hi]; rfl, lsm_mul, Int.zero_mul]
theorem lsm_mem {F : Nat → Int} : ∀ {L : List Nat}, L.Nodup → (∀ i, i ∈ L → i < m) → (sumN m fun j => if j ∈ L then F j else 0) = lsm F L
  | [], _, _ => sumN_zero fun i _ => if_neg (by simp)
  | x :: L, nd, h => by
    rw [List.nodup_cons] at nd
    have hx := h x List.mem_cons_self
    have e : (sumN m fun j => if j ∈ x :: L then F j else 0) = sumN m fun j => (if x = j then F j else 0) + (if j ∈ L then F j else 0) := sumN_congr fun j _ => by
      by_cases e1 : x = j
      · subst e1; rw [if_pos List.mem_cons_self, if_pos rfl, if_neg nd.1, Int.add_zero]
      · rw [if_neg e1, Int.zero_add]
        by_cases e2 : j ∈ L
        · rw [if_pos (List.mem_cons_of_mem _ e2), if_pos e2]
        · rw [if_neg (fun k => by rcases List.mem_cons.1 k with k | k; exact e1 k.symm; exact e2 k), if_neg e2]
    rw [e, sumN_add, sumN_ptf hx, lsm_mem nd.2 fun i hi => h i (List.mem_cons_of_mem _ hi)]
    rfl
/-- How many of a list's edges end at a node. -/
def ftE (es : Nat → Ed) (L : List Nat) (v : Nat) : Int := lsm (fun i => (if lfE es i = v then 1 else 0) + (if rtE es i = v then 1 else 0)) L
theorem ftE_le (hs : ∀ i, i < m → lfE es i < l ∧ l ≤ rtE es i ∧ rtE es i < l + wd) (v : Nat) : ∀ {L : List Nat}, (∀ i, i ∈ L → i < m) → L.Pairwise (fun i j => lfE es i ≠ lfE es j ∧ rtE es i ≠ rtE es j) → 0 ≤ ftE es L v ∧ ftE es L v ≤ 1
  | [], _, _ => by show (0 : Int) ≤ 0 ∧ (0 : Int) ≤ 1; omega
  | x :: L, h, p => by
    rw [List.pairwise_cons] at p
    have ih := ftE_le hs v (fun i hi => h i (List.mem_cons_of_mem _ hi)) p.2
    have sx := hs x (h x List.mem_cons_self)
    show 0 ≤ ((if lfE es x = v then 1 else 0) + (if rtE es x = v then 1 else 0)) + ftE es L v ∧ ((if lfE es x = v then 1 else 0) + (if rtE es x = v then 1 else 0)) + ftE es L v ≤ 1
    by_cases e1 : lfE es x = v ∨ rtE es x = v
    · have z : ftE es L v = 0 := lsm_zero fun i hi => by
        have a := p.1 i hi
        have b := hs i (h i (List.mem_cons_of_mem _ hi))
        rw [if_neg (by omega), if_neg (by omega)]; rfl
      rw [z]
      by_cases e2 : lfE es x = v
      · rw [if_pos e2, if_neg (by omega)]; omega
      · rw [if_neg e2]; split <;> omega
    · rw [if_neg (fun k => e1 (.inl k)), if_neg (fun k => e1 (.inr k))]; omega
/-- The flow round of a matching. -/
def pfE (n : Nat) (es : Nat → Ed) (L : List Nat) (i : Nat) : Int := if i < n then ftE es L i else if i - n ∈ L then 1 else 0
theorem best_plan (sd : Sd l wd m es) (hlt : ∀ i, i ∈ L → i < m) (hnd : L.Pairwise fun i j => lfE es i ≠ lfE es j ∧ rtE es i ≠ rtE es j) :
    PlanP (l + wd + 1) (l + wd + m) (frE (edW (l + wd) l es)) (toE (edW (l + wd) l es)) (cpE (edW (l + wd) l es)) (fun _ => 0) (pfE (l + wd) es L) ∧
    totC (l + wd + m) (ckE (edW (l + wd) l es)) (pfE (l + wd) es L) = -lkE es L := by
  have gm := sd.gmW
  have nod : L.Nodup := hnd.imp fun {a b} h e => h.1 (by rw [e])
  have hn : ∀ i, i < l + wd + m → frE (edW (l + wd) l es) i < l + wd + 1 ∧ toE (edW (l + wd) l es) i < l + wd + 1 := fun i hi => ⟨(gm.fr hi).2, (gm.to hi).2⟩
  have p1 : ∀ {i}, i < l + wd → pfE (l + wd) es L i = ftE es L i := fun h => if_pos h
  have p2 : ∀ j, pfE (l + wd) es L (l + wd + j) = if j ∈ L then 1 else 0 := fun j => by unfold pfE; rw [if_neg (by omega), show l + wd + j - (l + wd) = j by omega]
  have o1 : ∀ v, v < l + wd → OutF (l + wd + m) (frE (edW (l + wd) l es)) (toE (edW (l + wd) l es)) (pfE (l + wd) es L) v = 0 := fun v hv => by
    unfold OutF
    rw [sumN_split]
    by_cases hl : v < l
    · have a1 : (sumN (l + wd) fun i => (if frE (edW (l + wd) l es) i = v then pfE (l + wd) es L i else 0) - (if toE (edW (l + wd) l es) i = v then pfE (l + wd) es L i else 0)) = sumN (l + wd) fun i => if v = i then -ftE es L v else 0 := sumN_congr fun i hi => by
        rw [p1 hi]
        by_cases h : i < l
        · obtain ⟨a, b, _⟩ := fr_1 (es := es) h (Nat.le_add_right l wd)
          rw [a, b, if_neg (by omega)]
          by_cases e : v = i
          · subst e; rw [if_pos rfl, if_pos rfl]; omega
          · rw [if_neg (fun k => e k.symm), if_neg e]; rfl
        · obtain ⟨a, b, _⟩ := fr_2 (es := es) h hi
          rw [a, b, if_neg (by omega), if_neg (by omega), if_neg (by omega)]; rfl
      have a2 : (sumN m fun j => (if frE (edW (l + wd) l es) (l + wd + j) = v then pfE (l + wd) es L (l + wd + j) else 0) - (if toE (edW (l + wd) l es) (l + wd + j) = v then pfE (l + wd) es L (l + wd + j) else 0)) = ftE es L v := by
        unfold ftE
        rw [← lsm_mem nod hlt]
        refine sumN_congr fun j hj => ?_
        obtain ⟨a, b, _⟩ := fr_3 (n := l + wd) (l := l) (es := es) (j := j)
        have s := sd.sd j hj
        rw [a, b, p2, if_neg (show ¬ rtE es j = v by omega), if_neg (show ¬ rtE es j = v by omega)]
        by_cases e1 : j ∈ L
        · rw [if_pos e1, if_pos e1]; omega
        · rw [if_neg e1, if_neg e1]; split <;> rfl
      rw [a1, a2, sumN_pt, if_pos hv]; omega
    · have a1 : (sumN (l + wd) fun i => (if frE (edW (l + wd) l es) i = v then pfE (l + wd) es L i else 0) - (if toE (edW (l + wd) l es) i = v then pfE (l + wd) es L i else 0)) = sumN (l + wd) fun i => if v = i then ftE es L v else 0 := sumN_congr fun i hi => by
        rw [p1 hi]
        by_cases h : i < l
        · obtain ⟨a, b, _⟩ := fr_1 (es := es) h (Nat.le_add_right l wd)
          rw [a, b, if_neg (by omega), if_neg (by omega), if_neg (by omega)]; rfl
        · obtain ⟨a, b, _⟩ := fr_2 (es := es) h hi
          rw [a, b, if_neg (show ¬ l + wd = v by omega)]
          by_cases e : v = i
          · subst e; simp
          · rw [if_neg (fun k => e k.symm), if_neg e]; rfl
      have a2 : (sumN m fun j => (if frE (edW (l + wd) l es) (l + wd + j) = v then pfE (l + wd) es L (l + wd + j) else 0) - (if toE (edW (l + wd) l es) (l + wd + j) = v then pfE (l + wd) es L (l + wd + j) else 0)) = -ftE es L v := by
        unfold ftE
        rw [show -lsm (fun i => (if lfE es i = v then 1 else 0) + (if rtE es i = v then 1 else 0)) L = (-1) * lsm (fun i => (if lfE es i = v then 1 else 0) + (if rtE es i = v then 1 else 0)) L by omega, ← lsm_mul, ← lsm_mem nod hlt]
        refine sumN_congr fun j hj => ?_
        obtain ⟨a, b, _⟩ := fr_3 (n := l + wd) (l := l) (es := es) (j := j)
        have s := sd.sd j hj
        rw [a, b, p2, if_neg (show ¬ lfE es j = v by omega), if_neg (show ¬ lfE es j = v by omega)]
        by_cases e1 : j ∈ L
        · rw [if_pos e1, if_pos e1]; split <;> rfl
        · rw [if_neg e1, if_neg e1]; split <;> rfl
      rw [a1, a2, sumN_pt, if_pos hv]; omega
  refine ⟨⟨fun i hi => ?_, fun v hv => ?_⟩, ?_⟩
  · have e : cpE (edW (l + wd) l es) i = 1 := by
      by_cases h2 : i < l + wd
      · by_cases h : i < l
        · exact (fr_1 (es := es) h (Nat.le_add_right l wd)).2.2.2
        · exact (fr_2 (es := es) h h2).2.2.2
      · rw [show i = l + wd + (i - (l + wd)) by omega]
        exact fr_3.2.2.2
    rw [e]
    unfold pfE
    split
    · exact ftE_le sd.sd i hlt hnd
    · split <;> omega
  · by_cases h : v < l + wd
    · exact o1 v h
    · have z := pot_out hn (fun _ => 1) (pfE (l + wd) es L)
      rw [sumN_zero (f := fun i => ((1 : Int) - 1) * _) (fun i _ => by rw [Int.sub_self, Int.zero_mul])] at z
      have e : (sumN (l + wd + 1) fun v => 1 * OutF (l + wd + m) (frE (edW (l + wd) l es)) (toE (edW (l + wd) l es)) (pfE (l + wd) es L) v) = (sumN (l + wd) fun v => 1 * OutF (l + wd + m) (frE (edW (l + wd) l es)) (toE (edW (l + wd) l es)) (pfE (l + wd) es L) v) + 1 * OutF (l + wd + m) (frE (edW (l + wd) l es)) (toE (edW (l + wd) l es)) (pfE (l + wd) es L) (l + wd) := rfl
      rw [e, sumN_zero (f := fun v => 1 * OutF _ _ _ _ v) (fun v hv => by rw [o1 v hv]; rfl)] at z
      have : v = l + wd := by omega
      subst this
      omega
  · unfold totC
    rw [sumN_split, sumN_zero (k := l + wd) (fun i hi => by
      by_cases h : i < l
      · rw [(fr_1 (es := es) h (Nat.le_add_right l wd)).2.2.1, Int.zero_mul]
      · rw [(fr_2 (es := es) h hi).2.2.1, Int.zero_mul]), Int.zero_add, lkE_lsm, show -lsm (fun i => (es i).k) L = (-1) * lsm (fun i => (es i).k) L by omega, ← lsm_mul, ← lsm_mem nod hlt]
    refine sumN_congr fun j hj => ?_
    rw [(fr_3 (n := l + wd) (l := l) (es := es) (j := j)).2.2.1, p2]
    by_cases e1 : j ∈ L
    · rw [if_pos e1, if_pos e1]; omega
    · rw [if_neg e1, if_neg e1]; omega
end

end Go.Proofs.YtdcamadeblojdaaGreat

namespace Go.Proofs.YtdcamadeblojdaaGreat
open Go
set_option linter.unusedVariables false
set_option linter.unusedSimpArgs false
set_option maxHeartbeats 2000000

theorem st2 {own : Own} {h : H} {i b : Nat} {vs : List Value} {x y : Value} {K : H → Prop} (B : B1 own h i b vs) (hv : vs.length = 2) (hx : x.oneCell' = true) (hy : y.oneCell' = true) (k : ∀ g, Fm [i] own h own g → B1 own g i b [x, y] → K g) : stN h (bk b) [x, y] 2 K :=
  B.stN rfl hv (by
    intro z hz
    simp only [List.mem_cons, List.not_mem_nil, or_false] at hz
    rcases hz with rfl | rfl <;> assumption) k
end Go.Proofs.YtdcamadeblojdaaGreat

namespace Go.Proofs.YtdcamadeblojdaaGreat
open Go
set_option linter.unusedVariables false
set_option linter.unusedSimpArgs false
set_option maxHeartbeats 1000000

section
variable {n k l wd m : Nat} {es : Nat → Ed} {L : List Nat} {pt f : Nat → Int}
/-- Every cost is 1. -/
def onE (es : Nat → Ed) (i : Nat) : Ed := ⟨(es i).f, (es i).t, (es i).c, 1⟩
theorem Sd.on (sd : Sd l wd m es) : Sd l wd m (onE es) := ⟨⟨sd.gd.n1, sd.gd.m1, sd.gd.f, sd.gd.t, sd.gd.c, fun i _ => by show (-1048576 : Int) ≤ 1 ∧ (1 : Int) ≤ 1048576; omega⟩, sd.sd⟩
theorem lkE_on : ∀ {L : List Nat}, lkE (onE es) L = (L.length : Nat)
  | [] => rfl
  | i :: L => by show (1 : Int) + lkE (onE es) L = ((L.length + 1 : Nat) : Int); rw [lkE_on]; omega
end

end Go.Proofs.YtdcamadeblojdaaGreat

namespace Go.Proofs.YtdcamadeblojdaaGreat
open Go
set_option linter.unusedVariables false
set_option linter.unusedSimpArgs false
set_option maxHeartbeats 1000000

/-- The graph with a hub. -/
def edH (m l n : Nat) (es : Nat → Ed) (t : Int) (i : Nat) : Ed :=
  if i < m then ⟨(lfE es i : Nat), (rtE es i : Nat), 2, (es i).k * t⟩ else (if i - m < l then ⟨(n : Nat), (i - m : Nat), 1, 0⟩ else ⟨(i - m : Nat), (n : Nat), 1, 0⟩)
section
variable {n l wd m : Nat} {es : Nat → Ed} {L : List Nat} {pt f : Nat → Int} {t : Int}
theorem edH_0 {i : Nat} (h : i < m) : edH m l n es t i = ⟨(lfE es i : Nat), (rtE es i : Nat), 2, (es i).k * t⟩ := if_pos h
theorem edH_1 {i : Nat} (h : i < l) : edH m l n es t (m + i) = ⟨(n : Nat), (i : Nat), 1, 0⟩ := by unfold edH; rw [if_neg (by omega), Nat.add_sub_cancel_left, if_pos h]
theorem edH_2 {i : Nat} (h : ¬ i < l) : edH m l n es t (m + i) = ⟨(i : Nat), (n : Nat), 1, 0⟩ := by unfold edH; rw [if_neg (by omega), Nat.add_sub_cancel_left, if_neg h]
theorem fh_0 {i : Nat} (h : i < m) : frE (edH m l n es t) i = lfE es i ∧ toE (edH m l n es t) i = rtE es i ∧ ckE (edH m l n es t) i = (es i).k * t ∧ cpE (edH m l n es t) i = 2 := by
  have e := edH_0 (l := l) (n := n) (es := es) (t := t) h
  refine ⟨?_, ?_, ?_, ?_⟩
  · show (edH m l n es t i).f.toNat = _
    rw [e]; exact Int.toNat_natCast _
  · show (edH m l n es t i).t.toNat = _
    rw [e]; exact Int.toNat_natCast _
  · show (edH m l n es t i).k = _
    rw [e]
  · show (edH m l n es t i).c = _
    rw [e]
theorem fh_1 {i : Nat} (h : i < l) : frE (edH m l n es t) (m + i) = n ∧ toE (edH m l n es t) (m + i) = i ∧ ckE (edH m l n es t) (m + i) = 0 ∧ cpE (edH m l n es t) (m + i) = 1 := by
  have e := edH_1 (m := m) (n := n) (es := es) (t := t) h
  refine ⟨?_, ?_, ?_, ?_⟩
  · show (edH m l n es t (m + i)).f.toNat = _
    rw [e]; exact Int.toNat_natCast _
  · show (edH m l n es t (m + i)).t.toNat = _
    rw [e]; exact Int.toNat_natCast _
  · show (edH m l n es t (m + i)).k = _
    rw [e]
  · show (edH m l n es t (m + i)).c = _
    rw [e]
theorem fh_2 {i : Nat} (h : ¬ i < l) : frE (edH m l n es t) (m + i) = i ∧ toE (edH m l n es t) (m + i) = n ∧ ckE (edH m l n es t) (m + i) = 0 ∧ cpE (edH m l n es t) (m + i) = 1 := by
  have e := edH_2 (m := m) (n := n) (es := es) (t := t) h
  refine ⟨?_, ?_, ?_, ?_⟩
  · show (edH m l n es t (m + i)).f.toNat = _
    rw [e]; exact Int.toNat_natCast _
  · show (edH m l n es t (m + i)).t.toNat = _
    rw [e]; exact Int.toNat_natCast _
  · show (edH m l n es t (m + i)).k = _
    rw [e]
  · show (edH m l n es t (m + i)).c = _
    rw [e]
/-- The nodes' edges first. -/
def swF (n m : Nat) (f : Nat → Int) (i : Nat) : Int := if i < n then f (m + i) else f (i - n)
theorem swF_1 {i : Nat} (h : i < n) : swF n m f i = f (m + i) := if_pos h
theorem swF_2 {j : Nat} : swF n m f (n + j) = f j := by unfold swF; rw [if_neg (by omega), Nat.add_sub_cancel_left]
theorem out_HW (v : Nat) : OutF (m + (l + wd)) (frE (edH m l (l + wd) es t)) (toE (edH m l (l + wd) es t)) f v = OutF (l + wd + m) (frE (edW (l + wd) l es)) (toE (edW (l + wd) l es)) (swF (l + wd) m f) v := by
  unfold OutF
  rw [sumN_split (a := m) (b := l + wd), sumN_split (a := l + wd) (b := m), Int.add_comm]
  congr 1
  · refine sumN_congr fun i hi => ?_
    rw [swF_1 hi]
    by_cases h : i < l
    · obtain ⟨a, b, _⟩ := fh_1 (m := m) (n := l + wd) (es := es) (t := t) h
      obtain ⟨c, d, _⟩ := fr_1 (es := es) h (Nat.le_add_right l wd)
      rw [a, b, c, d]
    · obtain ⟨a, b, _⟩ := fh_2 (m := m) (n := l + wd) (es := es) (t := t) h
      obtain ⟨c, d, _⟩ := fr_2 (es := es) h hi
      rw [a, b, c, d]
  · refine sumN_congr fun j hj => ?_
    rw [swF_2]
    obtain ⟨a, b, _⟩ := fh_0 (l := l) (n := l + wd) (es := es) (t := t) hj
    obtain ⟨c, d, _⟩ := fr_3 (n := l + wd) (l := l) (es := es) (j := j)
    rw [a, b, c, d]
theorem tot_HW : totC (m + (l + wd)) (ckE (edH m l (l + wd) es (-1))) f = totC (l + wd + m) (ckE (edW (l + wd) l es)) (swF (l + wd) m f) := by
  unfold totC
  rw [sumN_split (a := m) (b := l + wd), sumN_split (a := l + wd) (b := m), Int.add_comm]
  congr 1
  · refine sumN_congr fun i hi => ?_
    rw [swF_1 hi]
    by_cases h : i < l
    · rw [(fh_1 (m := m) (n := l + wd) (es := es) (t := -1) h).2.2.1, (fr_1 (es := es) h (Nat.le_add_right l wd)).2.2.1]
    · rw [(fh_2 (m := m) (n := l + wd) (es := es) (t := -1) h).2.2.1, (fr_2 (es := es) h hi).2.2.1]
  · refine sumN_congr fun j hj => ?_
    rw [swF_2, (fh_0 (l := l) (n := l + wd) (es := es) (t := -1) hj).2.2.1, fr_3.2.2.1]
    congr 1; omega
theorem hub_ge (sd : Sd l wd m es) (po : ∀ v, v < l + wd → 0 ≤ pt v) (co : ∀ i, i < m → (es i).k ≤ pt (frE es i) + pt (toE es i))
    (P : PlanP (l + wd + 1) (m + (l + wd)) (frE (edH m l (l + wd) es (-1))) (toE (edH m l (l + wd) es (-1))) (cpE (edH m l (l + wd) es (-1))) (fun _ => 0) f) :
    -sumN (l + wd) pt ≤ totC (m + (l + wd)) (ckE (edH m l (l + wd) es (-1))) f := by
  rw [tot_HW]
  refine best_ge0 sd po co (fun i hi => ?_) (fun i hi => ?_) fun v hv => by rw [← out_HW (t := -1)]; exact P.out v hv
  · by_cases h : i < l + wd
    · rw [swF_1 h]; exact (P.cp _ (by omega)).1
    · rw [show i = l + wd + (i - (l + wd)) by omega, swF_2]; exact (P.cp _ (by omega)).1
  · rw [swF_1 hi]
    have a := (P.cp (m + i) (by omega)).2
    by_cases h : i < l
    · rwa [(fh_1 (m := m) (n := l + wd) (es := es) (t := -1) h).2.2.2] at a
    · rwa [(fh_2 (m := m) (n := l + wd) (es := es) (t := -1) h).2.2.2] at a
/-- The flow round of a matching, through the hub. -/
def phE (m : Nat) (es : Nat → Ed) (L : List Nat) (i : Nat) : Int := if i < m then (if i ∈ L then 1 else 0) else ftE es L (i - m)
theorem hub_plan (sd : Sd l wd m es) (hlt : ∀ i, i ∈ L → i < m) (hnd : L.Pairwise fun i j => lfE es i ≠ lfE es j ∧ rtE es i ≠ rtE es j) :
    PlanP (l + wd + 1) (m + (l + wd)) (frE (edH m l (l + wd) es (-1))) (toE (edH m l (l + wd) es (-1))) (cpE (edH m l (l + wd) es (-1))) (fun _ => 0) (phE m es L) ∧
    totC (m + (l + wd)) (ckE (edH m l (l + wd) es (-1))) (phE m es L) = -lkE es L := by
  obtain ⟨P, e⟩ := best_plan sd hlt hnd
  have sw : ∀ i, i < l + wd + m → swF (l + wd) m (phE m es L) i = pfE (l + wd) es L i := fun i hi => by
    by_cases h : i < l + wd
    · rw [swF_1 h]; unfold phE pfE; rw [if_neg (by omega), Nat.add_sub_cancel_left, if_pos h]
    · obtain ⟨q, rfl⟩ : ∃ q, i = l + wd + q := ⟨i - (l + wd), by omega⟩
      rw [swF_2]; unfold phE pfE; rw [if_pos (show q < m by omega), if_neg (show ¬ l + wd + q < l + wd by omega), Nat.add_sub_cancel_left]
  refine ⟨⟨fun i hi => ?_, fun v hv => ?_⟩, ?_⟩
  · by_cases h : i < m
    · rw [(fh_0 (l := l) (n := l + wd) (es := es) (t := -1) h).2.2.2]
      unfold phE; rw [if_pos h]; split <;> omega
    · have e : i = m + (i - m) := by omega
      have c : cpE (edH m l (l + wd) es (-1)) i = 1 := by
        rw [e]
        by_cases h2 : i - m < l
        · exact (fh_1 h2).2.2.2
        · exact (fh_2 h2).2.2.2
      rw [c]
      unfold phE; rw [if_neg h]
      exact ftE_le sd.sd _ hlt hnd
  · rw [out_HW]
    have := P.out v hv
    rw [← this]
    unfold OutF
    exact sumN_congr fun i hi => by rw [sw i hi]
  · rw [tot_HW, ← e]
    unfold totC
    exact sumN_congr fun i hi => by rw [sw i hi]
/-- The cheapest round through the hub. -/
theorem hub_eq (sd : Sd l wd m es) (M : MaR (l + wd) m l es L pt)
    (P : PlanP (l + wd + 1) (m + (l + wd)) (frE (edH m l (l + wd) es (-1))) (toE (edH m l (l + wd) es (-1))) (cpE (edH m l (l + wd) es (-1))) (fun _ => 0) f)
    (hm : totC (m + (l + wd)) (ckE (edH m l (l + wd) es (-1))) f ≤ totC (m + (l + wd)) (ckE (edH m l (l + wd) es (-1))) (phE m es L)) :
    totC (m + (l + wd)) (ckE (edH m l (l + wd) es (-1))) f = -lkE es L := by
  have a := hub_ge sd (fun v hv => (M.po v hv).1) M.co P
  obtain ⟨b, c⟩ := hub_plan sd M.lt M.nd
  have := M.su
  omega
end

end Go.Proofs.YtdcamadeblojdaaGreat

namespace Go.Proofs.YtdcamadeblojdaaGreat
open Go
set_option linter.unusedVariables false
set_option linter.unusedSimpArgs false
set_option maxHeartbeats 2000000

section
variable {h h' : H} {w : List Value} {l wd m : Nat} {es : Nat → Ed} {L : List Nat} {pt : Nat → Int}
theorem hub_R (G : GrA h w ((l + wd : Nat) : Int) m es) (sd : Sd l wd m es) {t : Int} (ht : t = -1 ∨ t = 0) :
    T Tryz.prog F.compasstop_hub [.agg ⟨w⟩, .int .i64 l, .int .i64 t] h fun r h' => ∃ v own, r = .ret (.agg ⟨[.int .i64 ((l + wd + 1 : Nat) : Int), v]⟩) ∧ Bs h own h' ∧ S4 own h' 1 v (m + (l + wd)) (edH m l (l + wd) es t) := by
  have n1 := sd.gd.n1
  have m1 := sd.gd.m1
  refine E_compasstop_hub ?_
  unfold B_compasstop_hub
  obtain ⟨gv, rfl, Gv⟩ := G.gs
  refine new_bl ?_
  intro b1 q1 hb1 x1 B1_
  have k15 : B1 (own1 (fun _ => 0) b1 15) q1 15 b1 _ := B1.new B1_
  have bs : Bs h (own1 (fun _ => 0) b1 15) q1 := Bs.start.new x1 hb1
  generalize own1 (fun _ => 0) b1 15 = ow at *
  clear x1 B1_
  refine new_bl ?_
  intro b3 q4 hb3 x3 B3
  have k3 : B1 (own1 ow b3 3) q4 3 b3 _ := B1.new B3
  have bs := bs.nw (j := 3) x3 hb3
  have k15 := k15.nw (j := 3) x3 hb3
  generalize own1 ow b3 3 = ow at *
  refine k15.rI rfl ?_
  have ew : IntKind.i64.wrap (((l + wd : Nat) : Int) + 1) = ((l + wd + 1 : Nat) : Int) := i64_inc (by omega)
  simp only [ew]
  refine new_bl_st rfl rfl (by simp [Value.oneCell']) ?_
  intro b6 q8 hb6 x6 B6
  have k4 : B1 (own1 ow b6 4) q8 4 b6 _ := B1.new B6
  have bs := bs.nw (j := 4) x6 hb6
  have k15 := k15.nw (j := 4) x6 hb6
  have k3 := k3.nw (j := 4) x6 hb6
  generalize own1 ow b6 4 = ow at *
  clear hb1 hb3 x3 B3 hb6 x6 B6
  refine k15.rV rfl ((Gv.ext bs.ext).len fun _ _ => ?_)
  let I : (Int × Unit) → H → Nat → Prop := fun p q z => ∃ (i : Nat) (ow : Own) (ev : Value), p.1 = i ∧ i ≤ m ∧ z = m - i ∧ Bs h ow q ∧ B1 ow q 15 b1 [.int .i64 ((l + wd : Nat) : Int), gv] ∧ B1 ow q 3 b3 [.int .i64 0, .slice none 0 0] ∧
    B1 ow q 4 b6 [.int .i64 ((l + wd + 1 : Nat) : Int), ev] ∧ S4 ow q 1 ev i (edH m l (l + wd) es t)
  refine ⟨fun p q => ∃ k, I p q k, rk I, rk_wf I, ⟨_, 0, ow, _, rfl, by omega, rfl, bs, k15, k3, k4, S4.nil⟩, ?_⟩
  clear bs k15 k3 k4
  intro p q hI
  obtain ⟨i, ow, ev, e1, hi, hz, bs, k15, k3, k4, k1⟩ := mu_spec hI
  generalize hkk : mu I ((p, ()), q) = km at *
  change p = (i : Int) at e1
  subst e1
  have hlt : i < m → m - (i + 1) < mu I (((i : Int), ()), q) := fun h => by rw [hkk, hz]; exact sub_dec h
  clear hI
  refine ifP_of (fun h1 => ?_) (fun h1 => ?_)
  · have him : i < m := by have := of_decide_eq_true h1; omega
    obtain ⟨f1, f2⟩ := sd.gd.fr him
    obtain ⟨t1, t2⟩ := sd.gd.to him
    have kb := sd.gd.k i him
    refine (Gv.ext bs.ext).at him fun a32 e32 => ⟨(es i).vs, rfl, e32, new_bl_st rfl rfl (ed_one _) ?_⟩
    intro b34 g36 hb34 x34 B34
    have k16 : B1 (own1 ow b34 16) g36 16 b34 (es i).vs := B1.new B34
    have bs := bs.nw (j := 16) x34 hb34
    have k15 := k15.nw (j := 16) x34 hb34
    have k3 := k3.nw (j := 16) x34 hb34
    have k4 := k4.nw (j := 16) x34 hb34
    have k1 := k1.nw (j := 16) x34 hb34
    generalize own1 ow b34 16 = ow at *
    rw [i64_inc (by omega)]
    refine k4.rV rfl (k16.rI rfl (k16.rI rfl (k16.rI rfl (k16.rI rfl (k16.rI rfl ⟨rfl, ?_⟩)))))
    have ea : (if (es i).t < (es i).f then (es i).t else (es i).f) = ((lfE es i : Nat) : Int) := by rw [f1, t1]; unfold lfE; split <;> omega
    have eb : (if (es i).f < (es i).t then (es i).t else (es i).f) = ((rtE es i : Nat) : Int) := by rw [f1, t1]; unfold rtE; split <;> omega
    have ek : IntKind.i64.wrap ((es i).k * t) = (es i).k * t := by rcases ht with rfl | rfl <;> exact w64_in (by omega) (by omega)
    rw [ea, eb, ek]
    refine S4.push (ed := ⟨(lfE es i : Nat), (rtE es i : Nat), 2, (es i).k * t⟩) k1 (by omega) ?_
    intro _ _ v2 own2 q33 _ _ F1 k1
    have bs := bs.fm F1 (by simp <;> omega)
    have k15 := k15.fm F1 (by simp <;> omega)
    have k3 := k3.fm F1 (by simp <;> omega)
    have k4 := k4.fm F1 (by simp <;> omega)
    refine oneP_slc k1.isS (k4.st (by simp) ?_)
    intro q34 F2 k4
    simp only [List.set] at k4
    have bs := bs.fm F2 (by simp <;> omega)
    have k15 := k15.fm F2 (by simp <;> omega)
    have k3 := k3.fm F2 (by simp <;> omega)
    have k1 := k1.fm F2 (by simp <;> omega)
    refine mu_next (I := I) (k := m - (i + 1)) ⟨i + 1, own2, v2, rfl, him, rfl, bs, k15, k3, k4, k1.congr fun j hj => ?_⟩ (hlt him)
    by_cases e : j = i
    · subst e; rw [if_pos rfl, edH_0 him]
    · rw [if_neg e]
  have him : i = m := by have := of_decide_eq_false h1; omega
  rw [him] at k1
  clear hlt hkk hz h1 hi him
  let I2 : (Int × Unit) → H → Nat → Prop := fun p q z => ∃ (j : Nat) (ow : Own) (ev : Value), p.1 = j ∧ j ≤ l + wd ∧ z = l + wd - j ∧ Bs h ow q ∧ B1 ow q 15 b1 [.int .i64 ((l + wd : Nat) : Int), gv] ∧ B1 ow q 3 b3 [.int .i64 0, .slice none 0 0] ∧
    B1 ow q 4 b6 [.int .i64 ((l + wd + 1 : Nat) : Int), ev] ∧ S4 ow q 1 ev (m + j) (edH m l (l + wd) es t)
  refine ⟨fun p q => ∃ k, I2 p q k, rk I2, rk_wf I2, ⟨_, 0, ow, ev, rfl, by omega, rfl, bs, k15, k3, k4, k1⟩, ?_⟩
  clear bs k15 k3 k4 k1
  intro p q hI
  obtain ⟨j, ow, ev, e1, hj, hz, bs, k15, k3, k4, k1⟩ := mu_spec hI
  generalize hkk : mu I2 ((p, ()), q) = km at *
  change p = (j : Int) at e1
  subst e1
  have hlt : j < l + wd → l + wd - (j + 1) < mu I2 (((j : Int), ()), q) := fun h => by rw [hkk, hz]; exact sub_dec h
  clear hI
  refine k15.rI rfl (ifP_of (fun h1 => ?_) (fun h1 => ?_))
  · have hjn : j < l + wd := by have := of_decide_eq_true h1; omega
    rw [i64_inc (by omega)]
    refine ifP_of (fun h2 => ?_) (fun h2 => ?_)
    · have h2 : j < l := by have := of_decide_eq_true h2; omega
      refine k4.rV rfl (k15.rI rfl ⟨rfl, S4.push (ed := ⟨((l + wd : Nat) : Int), (j : Nat), 1, 0⟩) k1 (by omega) ?_⟩)
      intro _ _ v2 own2 q33 _ _ F1 k1
      have bs := bs.fm F1 (by simp <;> omega)
      have k15 := k15.fm F1 (by simp <;> omega)
      have k3 := k3.fm F1 (by simp <;> omega)
      have k4 := k4.fm F1 (by simp <;> omega)
      refine oneP_slc k1.isS (k4.st (by simp) ?_)
      intro q34 F2 k4
      simp only [List.set] at k4
      have bs := bs.fm F2 (by simp <;> omega)
      have k15 := k15.fm F2 (by simp <;> omega)
      have k3 := k3.fm F2 (by simp <;> omega)
      have k1 := k1.fm F2 (by simp <;> omega)
      refine mu_next (I := I2) (k := l + wd - (j + 1)) ⟨j + 1, own2, v2, rfl, hjn, rfl, bs, k15, k3, k4, k1.congr fun i hi => ?_⟩ (hlt hjn)
      by_cases e : i = m + j
      · subst e; rw [if_pos rfl, edH_1 h2]
      · rw [if_neg e]
    · have h2 : ¬ j < l := by have := of_decide_eq_false h2; omega
      refine k4.rV rfl (k15.rI rfl ⟨rfl, S4.push (ed := ⟨(j : Nat), ((l + wd : Nat) : Int), 1, 0⟩) k1 (by omega) ?_⟩)
      intro _ _ v2 own2 q33 _ _ F1 k1
      have bs := bs.fm F1 (by simp <;> omega)
      have k15 := k15.fm F1 (by simp <;> omega)
      have k3 := k3.fm F1 (by simp <;> omega)
      have k4 := k4.fm F1 (by simp <;> omega)
      refine oneP_slc k1.isS (k4.st (by simp) ?_)
      intro q34 F2 k4
      simp only [List.set] at k4
      have bs := bs.fm F2 (by simp <;> omega)
      have k15 := k15.fm F2 (by simp <;> omega)
      have k3 := k3.fm F2 (by simp <;> omega)
      have k1 := k1.fm F2 (by simp <;> omega)
      refine mu_next (I := I2) (k := l + wd - (j + 1)) ⟨j + 1, own2, v2, rfl, hjn, rfl, bs, k15, k3, k4, k1.congr fun i hi => ?_⟩ (hlt hjn)
      by_cases e : i = m + j
      · subst e; rw [if_pos rfl, edH_2 h2]
      · rw [if_neg e]
  have hjn : j = l + wd := by have := of_decide_eq_false h1; omega
  rw [hjn] at k1
  refine k4.ldN rfl (st2 k3 rfl rfl (slc_one k1.isS) fun q53 F1 k3 => ?_)
  have bs := bs.fm F1 (by simp <;> omega)
  have k1 := k1.fm F1 (by simp <;> omega)
  exact k3.ldN rfl ⟨ev, ow, rfl, bs, k1⟩
end

end Go.Proofs.YtdcamadeblojdaaGreat

namespace Go.Proofs.YtdcamadeblojdaaGreat
open Go
open Classical
set_option linter.unusedVariables false
set_option linter.unusedSimpArgs false
set_option maxHeartbeats 1000000

/-- The edges out of a node of the left side. -/
def outL (es : Nat → Ed) : Nat → Nat → List Nat
  | 0, _ => []
  | i + 1, v => outL es i v ++ if lfE es i = v then [i] else []
theorem outL_mem {es : Nat → Ed} {v x : Nat} : ∀ {m : Nat}, x ∈ outL es m v ↔ x < m ∧ lfE es x = v
  | 0 => by simp [outL]
  | m + 1 => by
    show x ∈ outL es m v ++ (if lfE es m = v then [m] else []) ↔ _
    rw [List.mem_append, outL_mem]
    by_cases h : lfE es m = v
    · rw [if_pos h, List.mem_singleton]
      constructor
      · rintro (a | rfl)
        · exact ⟨by omega, a.2⟩
        · exact ⟨by omega, h⟩
      · rintro ⟨a, b⟩
        by_cases e : x = m
        · exact .inr e
        · exact .inl ⟨by omega, b⟩
    · rw [if_neg h]
      constructor
      · rintro (a | a)
        · exact ⟨by omega, a.2⟩
        · cases a
      · rintro ⟨a, b⟩
        by_cases e : x = m
        · subst e; exact absurd b h
        · exact .inl ⟨by omega, b⟩
theorem outL_len {es : Nat → Ed} {v : Nat} : ∀ {m : Nat}, (outL es m v).length ≤ m
  | 0 => Nat.le_refl _
  | m + 1 => by
    have := outL_len (es := es) (v := v) (m := m)
    show (outL es m v ++ if lfE es m = v then [m] else []).length ≤ m + 1
    rw [List.length_append]
    split <;> simp <;> omega
/-- Which edge matches each node; x: a node of the right side that is being given away. -/
structure BmP (l wd m : Nat) (es : Nat → Ed) (x : Nat) (by_ : Nat → Int) : Prop where
  ml : ∀ v, v < l → by_ v = -1 ∨ ∃ i, i < m ∧ by_ v = (i : Int) ∧ lfE es i = v ∧ rtE es i ≠ x ∧ by_ (rtE es i) = (i : Int)
  mr : ∀ w, l ≤ w → w < l + wd → w ≠ x → by_ w = -1 ∨ ∃ i, i < m ∧ by_ w = (i : Int) ∧ rtE es i = w ∧ by_ (lfE es i) = (i : Int)
/-- An edge matches both its ends. -/
def tkE (es : Nat → Ed) (by_ : Nat → Int) (i : Nat) (u : Nat) : Int := if u = lfE es i ∨ u = rtE es i then (i : Int) else by_ u
/-- A closed set of matched nodes of the right side. -/
def ClP (l wd m : Nat) (es : Nat → Ed) (by_ : Nat → Int) (C : Nat → Prop) : Prop :=
  ∀ w, C w → l ≤ w ∧ w < l + wd ∧ ∃ k, k < m ∧ by_ w = (k : Int) ∧ rtE es k = w ∧ by_ (lfE es k) = (k : Int) ∧ ∀ i, i < m → lfE es i = lfE es k → C (rtE es i)
section
variable {l wd m x : Nat} {es : Nat → Ed} {by_ by' : Nat → Int}
theorem BmP.zero : BmP l wd m es x (fun _ => -1) := ⟨fun v hv => .inl rfl, fun w _ _ _ => .inl rfl⟩
theorem BmP.open_ (G : BmP l wd m es (l + wd) by_) {w : Nat} (hw : w < l + wd) (hb : by_ w = -1) : BmP l wd m es w by_ := by
  refine ⟨fun v hv => ?_, fun u h1 h2 _ => G.mr u h1 h2 (by omega)⟩
  rcases G.ml v hv with h | ⟨i, h1, h2, h3, h4, h5⟩
  · exact .inl h
  · exact .inr ⟨i, h1, h2, h3, fun e => by rw [e, hb] at h5; omega, h5⟩
theorem BmP.take (G : BmP l wd m es x by_) {i x' : Nat} (sd : ∀ i, i < m → lfE es i < l ∧ l ≤ rtE es i ∧ rtE es i < l + wd) (hi : i < m) (hx : rtE es i = x)
    (hx' : by_ (lfE es i) = -1 ∧ x' = l + wd ∨ ∃ k, k < m ∧ by_ (lfE es i) = (k : Int) ∧ x' = rtE es k) : BmP l wd m es x' (tkE es by_ i) := by
  obtain ⟨s1, s2, s3⟩ := sd i hi
  have tl : tkE es by_ i (lfE es i) = i := if_pos (.inl rfl)
  have tr : tkE es by_ i (rtE es i) = i := if_pos (.inr rfl)
  have to : ∀ u, u ≠ lfE es i → u ≠ rtE es i → tkE es by_ i u = by_ u := fun u h1 h2 => if_neg (by rintro (h | h); exact h1 h; exact h2 h)
  generalize tkE es by_ i = b at *
  have xx : rtE es i ≠ x' := by
    rcases hx' with ⟨_, h⟩ | ⟨k, k1, k2, k3⟩
    · omega
    · rcases G.ml _ s1 with h | ⟨j, j1, j2, j3, j4, j5⟩
      · omega
      · have : j = k := by omega
        subst this
        rw [k3, hx]; exact fun h => j4 h.symm
  refine ⟨fun v hv => ?_, fun w h1 h2 h3 => ?_⟩
  · by_cases e : v = lfE es i
    · subst e; exact .inr ⟨i, hi, tl, rfl, xx, tr⟩
    · rw [to v e (by omega)]
      rcases G.ml v hv with h | ⟨j, j1, j2, j3, j4, j5⟩
      · exact .inl h
      · refine .inr ⟨j, j1, j2, j3, fun h => ?_, ?_⟩
        · rcases hx' with ⟨_, h'⟩ | ⟨k, k1, k2, k3⟩
          · have := (sd j j1).2.2; omega
          · have h6 : rtE es j = rtE es k := h.trans k3
            rcases G.ml _ s1 with h7 | ⟨q, q1, q2, q3, q4, q5⟩
            · omega
            · have : q = k := by omega
              subst this
              rw [h6, q5] at j5
              have : q = j := by omega
              subst this
              exact e (j3.symm.trans q3)
        · rw [to _ (by have := (sd j j1).2.1; omega) (by rw [hx]; exact j4)]; exact j5
  · by_cases e : w = rtE es i
    · subst e; exact .inr ⟨i, hi, tr, rfl, tl⟩
    · rw [to w (by omega) e]
      rcases G.mr w h1 h2 (by omega) with h | ⟨j, j1, j2, j3, j4⟩
      · exact .inl h
      · refine .inr ⟨j, j1, j2, j3, ?_⟩
        by_cases e2 : lfE es j = lfE es i
        · exfalso
          rw [e2] at j4
          rcases hx' with ⟨h, _⟩ | ⟨k, k1, k2, k3⟩
          · omega
          · have : k = j := by omega
            subst this
            exact h3 (j3.symm.trans k3.symm)
        · rw [to _ e2 (by have := (sd j j1).1; omega)]; exact j4
/-- A search from v, by seeing nodes of the right side: what it comes to. -/
structure TyR (l wd m : Nat) (es : Nat → Ed) (C : Nat → Prop) (by_ : Nat → Int) (seen : Nat → Bool) (by' : Nat → Int) (seen' : Nat → Bool) (v : Nat) (r : Bool) : Prop where
  sm : ∀ w, seen w = true → seen' w = true
  no : r = false → by' = by_ ∧ (∀ i, i < m → lfE es i = v → seen' (rtE es i) = true) ∧ ∀ w, seen' w = true → seen w = true ∨
    (l ≤ w ∧ w < l + wd ∧ ∃ k, k < m ∧ by_ w = (k : Int) ∧ rtE es k = w ∧ by_ (lfE es k) = (k : Int) ∧ ∀ i, i < m → lfE es i = lfE es k → seen' (rtE es i) = true)
  yes : r = true → ∃ x, (by_ v = -1 ∧ x = l + wd ∨ ∃ k, k < m ∧ by_ v = (k : Int) ∧ x = rtE es k) ∧ BmP l wd m es x by' ∧ 0 ≤ by' v ∧ (∀ u, u < l → u ≠ v → (by' u = -1 ↔ by_ u = -1)) ∧
    (∀ w, l ≤ w → w < l + wd → seen w = true → by' w = by_ w) ∧ ∀ w k : Nat, C w → by_ w = (k : Int) → by' w = (k : Int) ∧ by' (lfE es k) = (k : Int)
  cl : (∀ i, i < m → lfE es i = v → C (rtE es i)) → r = false
/-- Where all is done: no way is left. -/
def MxP (l wd m : Nat) (es : Nat → Ed) (by_ : Nat → Int) : Prop :=
  BmP l wd m es (l + wd) by_ ∧ ∃ C : Nat → Prop, ClP l wd m es by_ C ∧ ∀ v, v < l → by_ v = -1 → ∀ i, i < m → lfE es i = v → C (rtE es i)
/-- The first k nodes of the left side have been looked at. -/
def SmI (l wd m : Nat) (es : Nat → Ed) (by_ : Nat → Int) (k : Nat) : Prop :=
  BmP l wd m es (l + wd) by_ ∧ ∃ C : Nat → Prop, ClP l wd m es by_ C ∧ ∀ v, v < k → v < l → by_ v = -1 → ∀ i, i < m → lfE es i = v → C (rtE es i)
theorem SmI.next {C : Nat → Prop} {seen' : Nat → Bool} {v : Nat} {r : Bool} (G : BmP l wd m es (l + wd) by_) (hC : ClP l wd m es by_ C) (hu : ∀ u, u < v → u < l → by_ u = -1 → ∀ i, i < m → lfE es i = u → C (rtE es i))
    (sd : ∀ i, i < m → lfE es i < l ∧ l ≤ rtE es i ∧ rtE es i < l + wd) (hv : v < l) (hb : by_ v = -1) (R : TyR l wd m es C by_ (fun _ => false) by' seen' v r) : SmI l wd m es by' (v + 1) := by
  cases r with
  | false =>
    obtain ⟨rfl, h2, h3⟩ := R.no rfl
    refine ⟨G, fun w => C w ∨ seen' w = true, fun w hw => ?_, fun u h4 h5 h6 i hi e => ?_⟩
    · rcases hw with hw | hw
      · obtain ⟨a, b, k, k1, k2, k3, k4, k5⟩ := hC w hw
        exact ⟨a, b, k, k1, k2, k3, k4, fun i hi e => .inl (k5 i hi e)⟩
      · rcases h3 w hw with h | ⟨a, b, k, k1, k2, k3, k4, k5⟩
        · cases h
        · exact ⟨a, b, k, k1, k2, k3, k4, fun i hi e => .inr (k5 i hi e)⟩
    · by_cases e1 : u = v
      · subst e1; exact .inr (h2 i hi e)
      · exact .inl (hu u (by omega) h5 h6 i hi e)
  | true =>
    obtain ⟨x, hx, G2, h0, h1, h2, h3⟩ := R.yes rfl
    have : x = l + wd := by
      rcases hx with ⟨_, h⟩ | ⟨k, _, h, _⟩
      · exact h
      · omega
    subst this
    refine ⟨G2, C, fun w hw => ?_, fun u h4 h5 h6 i hi e => ?_⟩
    · obtain ⟨a, b, k, k1, k2, k3, k4, k5⟩ := hC w hw
      obtain ⟨c1, c2⟩ := h3 w k hw k2
      exact ⟨a, b, k, k1, c1, k3, c2, k5⟩
    · by_cases e1 : u = v
      · subst e1; omega
      · exact hu u (by omega) h5 ((h1 u h5 e1).1 h6) i hi e
/-- The edges of the first j nodes. -/
def mlB (by_ : Nat → Int) : Nat → List Nat
  | 0 => []
  | j + 1 => mlB by_ j ++ if 0 ≤ by_ j then [(by_ j).toNat] else []
theorem mlB_mem {q : Nat} : ∀ {j : Nat}, q ∈ mlB by_ j → ∃ v, v < j ∧ by_ v = (q : Int)
  | 0, h => by cases h
  | j + 1, h => by
    have h : q ∈ mlB by_ j ++ (if 0 ≤ by_ j then [(by_ j).toNat] else []) := h
    rw [List.mem_append] at h
    rcases h with h | h
    · obtain ⟨v, hv, e⟩ := mlB_mem h
      exact ⟨v, by omega, e⟩
    · split at h
      · rw [List.mem_singleton] at h; exact ⟨j, by omega, by omega⟩
      · cases h
theorem mlB_len : ∀ {j : Nat}, (mlB by_ j).length ≤ j ∧ ((mlB by_ j).length : Int) = sumN j fun v => if 0 ≤ by_ v then 1 else 0
  | 0 => ⟨Nat.le_refl _, rfl⟩
  | j + 1 => by
    obtain ⟨a, b⟩ := mlB_len (j := j)
    show (mlB by_ j ++ if 0 ≤ by_ j then [(by_ j).toNat] else []).length ≤ j + 1 ∧ ((mlB by_ j ++ if 0 ≤ by_ j then [(by_ j).toNat] else []).length : Int) = sumN j _ + (if 0 ≤ by_ j then 1 else 0)
    rw [List.length_append]
    split
    · refine ⟨by simp; omega, ?_⟩
      rw [← b]; simp
    · refine ⟨by simp; omega, ?_⟩
      rw [← b]; simp
/-- The potentials of a cover. -/
noncomputable def cvP (l : Nat) (es : Nat → Ed) (by_ : Nat → Int) (C : Nat → Prop) (v : Nat) : Int :=
  if v < l then (if 0 ≤ by_ v ∧ ¬ C (rtE es (by_ v).toNat) then 1 else 0) else (if C v then 1 else 0)
theorem MxP.res (X : MxP l wd m es by_) (sd : ∀ i, i < m → lfE es i < l ∧ l ≤ rtE es i ∧ rtE es i < l + wd) (hl : l + wd ≤ 1024) : ∃ pt, MaR (l + wd) m l (onE es) (mlB by_ l) pt := by
  obtain ⟨G, C, hC, hu⟩ := X
  have ends : ∀ (pt : Nat → Int) i, pt (frE (onE es) i) + pt (toE (onE es) i) = pt (lfE es i) + pt (rtE es i) := fun pt i => pt_ends (es := es) pt i
  have at_ : ∀ v, v < l → 0 ≤ by_ v → ∃ i, i < m ∧ by_ v = (i : Int) ∧ lfE es i = v ∧ by_ (rtE es i) = (i : Int) := fun v hv h => by
    rcases G.ml v hv with h1 | ⟨i, h1, h2, h3, _, h5⟩
    · omega
    · exact ⟨i, h1, h2, h3, h5⟩
  refine ⟨cvP l es by_ C, fun i hi => ?_, ?_, fun v hv => ?_, fun i hi => ?_, ?_, by have := (mlB_len (by_ := by_) (j := l)).1; omega⟩
  · obtain ⟨v, hv, e⟩ := mlB_mem hi
    obtain ⟨q, q1, q2, _⟩ := at_ v hv (by omega)
    omega
  · have key : ∀ j, j ≤ l → (mlB by_ j).Pairwise fun a b => lfE es a ≠ lfE es b ∧ rtE es a ≠ rtE es b := by
      intro j
      induction j with
      | zero => exact fun _ => List.Pairwise.nil
      | succ j ih =>
        intro hj
        show (mlB by_ j ++ if 0 ≤ by_ j then [(by_ j).toNat] else []).Pairwise _
        rw [List.pairwise_append]
        refine ⟨ih (by omega), ?_, fun a ha b hb => ?_⟩
        · split
          · exact List.pairwise_singleton _ _
          · exact List.Pairwise.nil
        · split at hb
          · rw [List.mem_singleton] at hb
            obtain ⟨v, hv, e⟩ := mlB_mem ha
            obtain ⟨q, q1, q2, q3, q4⟩ := at_ v (by omega) (by omega)
            obtain ⟨p, p1, p2, p3, p4⟩ := at_ j (by omega) (by omega)
            have e1 : q = a := by omega
            have e2 : p = b := by omega
            subst e1 e2
            refine ⟨by omega, fun e => ?_⟩
            rw [e, p4] at q4
            have : p = q := by omega
            subst this
            omega
          · cases hb
    exact key l (Nat.le_refl _)
  · unfold cvP; split <;> split <;> omega
  · rw [ends]
    obtain ⟨a1, a2, a3⟩ := sd i hi
    show (1 : Int) ≤ _
    unfold cvP
    rw [if_pos a1, if_neg (show ¬ rtE es i < l by omega)]
    by_cases h : C (rtE es i)
    · rw [if_pos h]; split <;> omega
    · rw [if_pos ?_]
      · split <;> omega
      · refine ⟨?_, fun h2 => ?_⟩
        · rcases G.ml _ a1 with h1 | ⟨q, _, h1, _⟩
          · exact absurd (hu _ a1 h1 i hi rfl) h
          · omega
        · obtain ⟨_, _, k, k1, k2, k3, k4, k5⟩ := hC _ h2
          rcases G.ml _ a1 with h1 | ⟨q, q1, q2, q3, _, q5⟩
          · exact h (hu _ a1 h1 i hi rfl)
          · rw [q2, Int.toNat_natCast] at k2 k3 h2
            rw [q5] at k2
            have : k = q := by omega
            subst this
            exact h (k5 i hi q3.symm)
  · rw [lkE_on, (mlB_len (by_ := by_) (j := l)).2, sumN_split]
    have e1 : (sumN wd fun c => cvP l es by_ C (l + c)) = sumN wd fun c => sumN l fun v => if 0 ≤ by_ v ∧ rtE es (by_ v).toNat = l + c then (if C (l + c) then (1 : Int) else 0) else 0 := sumN_congr fun c hc => by
      unfold cvP
      rw [if_neg (by omega)]
      by_cases h : C (l + c)
      · rw [if_pos h]
        obtain ⟨_, _, k, k1, k2, k3, k4, _⟩ := hC _ h
        refine Eq.trans (show (1 : Int) = sumN l fun v => if lfE es k = v then 1 else 0 by rw [sumN_pt, if_pos (sd k k1).1]) (sumN_congr fun v hv => ?_)
        by_cases e : lfE es k = v
        · subst e
          rw [if_pos rfl, k4, if_pos ⟨by omega, by rw [Int.toNat_natCast]; exact k3⟩]
        · rw [if_neg e, if_neg]
          rintro ⟨h1, h2⟩
          obtain ⟨q, q1, q2, q3, q4⟩ := at_ v hv h1
          rw [q2, Int.toNat_natCast] at h2
          rw [h2, k2] at q4
          have : k = q := by omega
          subst this
          exact e q3
      · rw [if_neg h]
        exact (sumN_zero fun v _ => by split <;> rfl).symm
    have e2 : (sumN l fun v => sumN wd fun c => if 0 ≤ by_ v ∧ rtE es (by_ v).toNat = l + c then (if C (l + c) then (1 : Int) else 0) else 0) = sumN l fun v => if 0 ≤ by_ v ∧ C (rtE es (by_ v).toNat) then 1 else 0 := sumN_congr fun v hv => by
      by_cases h : 0 ≤ by_ v
      · obtain ⟨q, q1, q2, q3, q4⟩ := at_ v hv h
        obtain ⟨s1, s2, s3⟩ := sd q q1
        rw [q2, Int.toNat_natCast]
        obtain ⟨c0, hc0⟩ : ∃ c0, rtE es q = l + c0 := ⟨rtE es q - l, by omega⟩
        rw [hc0]
        refine Eq.trans (sumN_congr fun c _ => ?_) (sumN_ptf (f := fun c => if C (l + c) then (1 : Int) else 0) (show c0 < wd by omega) |>.trans ?_)
        · by_cases e : c0 = c
          · subst e; rw [if_pos ⟨by omega, rfl⟩, if_pos rfl]
          · rw [if_neg (by omega), if_neg e]
        · by_cases h2 : C (l + c0)
          · rw [if_pos h2, if_pos ⟨by omega, h2⟩]
          · rw [if_neg h2, if_neg (fun k => h2 k.2)]
      · rw [if_neg (fun k => h k.1)]
        exact sumN_zero fun c _ => if_neg (fun k => h k.1)
    rw [e1, sumN_swap, e2, ← sumN_add]
    refine sumN_congr fun v hv => ?_
    unfold cvP
    rw [if_pos hv]
    by_cases h : 0 ≤ by_ v
    · by_cases h2 : C (rtE es (by_ v).toNat)
      · rw [if_neg (fun k => k.2 h2), if_pos ⟨h, h2⟩, if_pos h]; rfl
      · rw [if_pos ⟨h, h2⟩, if_neg (fun k => h2 k.2), if_pos h]; rfl
    · rw [if_neg (fun k => h k.1), if_neg (fun k => h k.1), if_neg h]; rfl
end

end Go.Proofs.YtdcamadeblojdaaGreat

namespace Go.Proofs.YtdcamadeblojdaaGreat
open Go
open Classical
set_option linter.unusedVariables false
set_option linter.unusedSimpArgs false
set_option maxHeartbeats 1000000

/-- How far each node of the left side is from one that isn't matched. -/
structure LyP (l wd m : Nat) (es : Nat → Ed) (by_ lev : Nat → Int) (found : Bool) : Prop where
  ge : ∀ v, v < l → -1 ≤ lev v ∧ lev v ≤ (l : Int)
  rt : ∀ v, v < l → by_ v = -1 → lev v = 0
  z0 : ∀ v, v < l → lev v = 0 → by_ v = -1
  pr : ∀ v, v < l → 0 < lev v → ∃ u i k, u < l ∧ lev u + 1 = lev v ∧ i < m ∧ lfE es i = u ∧ k < m ∧ by_ (rtE es i) = ((k : Nat) : Int) ∧ lfE es k = v
  nf : found = false → ∀ i, i < m → 0 ≤ lev (lfE es i) → ∃ k, k < m ∧ by_ (rtE es i) = ((k : Nat) : Int) ∧ 0 ≤ lev (lfE es k)
  fd : found = true → ∃ i, i < m ∧ 0 ≤ lev (lfE es i) ∧ by_ (rtE es i) = -1
/-- The levels so far: Q has been reached, the first j of it have been looked at; of the one behind them, the first p edges. -/
structure LbI (l wd m : Nat) (es : Nat → Ed) (by_ lev : Nat → Int) (found : Bool) (Q : List Nat) (j p : Nat) : Prop where
  nd : Q.Nodup
  lt : ∀ v, v ∈ Q → v < l
  on : ∀ v, v < l → (v ∈ Q ↔ 0 ≤ lev v)
  ge : ∀ v, v < l → -1 ≤ lev v
  ix : ∀ i (h : i < Q.length), lev Q[i] ≤ (i : Int)
  rt : ∀ v, v < l → by_ v = -1 → lev v = 0
  z0 : ∀ v, v < l → lev v = 0 → by_ v = -1
  pr : ∀ v, v < l → 0 < lev v → ∃ u i k, u < l ∧ lev u + 1 = lev v ∧ i < m ∧ lfE es i = u ∧ k < m ∧ by_ (rtE es i) = ((k : Nat) : Int) ∧ lfE es k = v
  dn : ∀ i, i < m → (∃ q, ∃ h : q < Q.length, q < j ∧ Q[q] = lfE es i) ∨ (∃ h : j < Q.length, Q[j] = lfE es i ∧ i ∈ (outL es m (lfE es i)).take p) → (found = true ∧ by_ (rtE es i) = -1) ∨ ∃ k, k < m ∧ by_ (rtE es i) = ((k : Nat) : Int) ∧ 0 ≤ lev (lfE es k)
  fd : found = true → ∃ i, i < m ∧ 0 ≤ lev (lfE es i) ∧ by_ (rtE es i) = -1
section
variable {l wd m x : Nat} {es : Nat → Ed} {by_ by' lev lev' L0 nxt nxt' : Nat → Int} {found : Bool} {Q : List Nat} {j p : Nat}
theorem LbI.done (I : LbI l wd m es by_ lev found Q j 0) (hj : j = Q.length) (sd : ∀ i, i < m → lfE es i < l ∧ l ≤ rtE es i ∧ rtE es i < l + wd) : LyP l wd m es by_ lev found := by
  have key : ∀ i, i < m → 0 ≤ lev (lfE es i) → (found = true ∧ by_ (rtE es i) = -1) ∨ ∃ k, k < m ∧ by_ (rtE es i) = ((k : Nat) : Int) ∧ 0 ≤ lev (lfE es k) := fun i hi h => by
    obtain ⟨q, hq, e⟩ := List.getElem_of_mem ((I.on _ (sd i hi).1).2 h)
    exact I.dn i hi (.inl ⟨q, hq, by omega, e⟩)
  refine ⟨fun v hv => ⟨I.ge v hv, ?_⟩, I.rt, I.z0, I.pr, fun hf i hi h => ?_, I.fd⟩
  · by_cases h : 0 ≤ lev v
    · obtain ⟨q, hq, e⟩ := List.getElem_of_mem ((I.on v hv).2 h)
      have := I.ix q hq
      have := short I.nd I.lt
      rw [e] at *
      omega
    · omega
  · rcases key i hi h with ⟨h1, _⟩ | h1
    · rw [hf] at h1; cases h1
    · exact h1
theorem LbI.nextv (I : LbI l wd m es by_ lev found Q j p) (hj : j < Q.length) (hp : p = (outL es m Q[j]).length) : LbI l wd m es by_ lev found Q (j + 1) 0 := by
  refine ⟨I.nd, I.lt, I.on, I.ge, I.ix, I.rt, I.z0, I.pr, fun i hi h => I.dn i hi ?_, I.fd⟩
  rcases h with ⟨q, hq, h1, e⟩ | ⟨_, _, h1⟩
  · by_cases e1 : q = j
    · subst e1
      refine .inr ⟨hq, e, ?_⟩
      rw [hp, e, List.take_length]
      exact outL_mem.2 ⟨hi, rfl⟩
    · exact .inl ⟨q, hq, by omega, e⟩
  · simp at h1
theorem take_one {L : List Nat} {p : Nat} (hp : p < L.length) {i : Nat} (h : i ∈ L.take (p + 1)) : i ∈ L.take p ∨ i = L[p] := by
  rw [List.take_add_one, List.getElem?_eq_getElem hp] at h
  rcases List.mem_append.1 h with h | h
  · exact .inl h
  · exact .inr (by simpa using h)
theorem LbI.found_ (I : LbI l wd m es by_ lev found Q j p) (hj : j < Q.length) (hp : p < (outL es m Q[j]).length) (hb : by_ (rtE es (outL es m Q[j])[p]) = -1) : LbI l wd m es by_ lev true Q j (p + 1) := by
  have ho := outL_mem.1 (List.getElem_mem hp)
  refine ⟨I.nd, I.lt, I.on, I.ge, I.ix, I.rt, I.z0, I.pr, fun i hi h => ?_, fun _ => ⟨_, ho.1, ?_, hb⟩⟩
  · have old : ((∃ q, ∃ h : q < Q.length, q < j ∧ Q[q] = lfE es i) ∨ (∃ h : j < Q.length, Q[j] = lfE es i ∧ i ∈ (outL es m (lfE es i)).take p)) → ((true : Bool) = true ∧ by_ (rtE es i) = -1) ∨ ∃ k, k < m ∧ by_ (rtE es i) = ((k : Nat) : Int) ∧ 0 ≤ lev (lfE es k) := fun h => by
      rcases I.dn i hi h with ⟨_, h1⟩ | h1
      · exact .inl ⟨rfl, h1⟩
      · exact .inr h1
    rcases h with h | ⟨h1, e, h2⟩
    · exact old (.inl h)
    · rcases take_one (by rw [← e]; exact hp) h2 with h3 | h3
      · exact old (.inr ⟨h1, e, h3⟩)
      · refine .inl ⟨rfl, ?_⟩
        have : i = (outL es m Q[j])[p] := by rw [h3]; congr 1; rw [e]
        rw [this]; exact hb
  · rw [ho.2]; exact (I.on _ (I.lt _ (List.getElem_mem hj))).1 (List.getElem_mem hj)
theorem LbI.skip (I : LbI l wd m es by_ lev found Q j p) (hj : j < Q.length) (hp : p < (outL es m Q[j]).length) {k : Nat} (hk : k < m) (hb : by_ (rtE es (outL es m Q[j])[p]) = (k : Int)) (hl : 0 ≤ lev (lfE es k)) : LbI l wd m es by_ lev found Q j (p + 1) := by
  refine ⟨I.nd, I.lt, I.on, I.ge, I.ix, I.rt, I.z0, I.pr, fun i hi h => ?_, I.fd⟩
  rcases h with h | ⟨h1, e, h2⟩
  · exact I.dn i hi (.inl h)
  · rcases take_one (by rw [← e]; exact hp) h2 with h3 | h3
    · exact I.dn i hi (.inr ⟨h1, e, h3⟩)
    · have : i = (outL es m Q[j])[p] := by rw [h3]; congr 1; rw [e]
      rw [this]; exact .inr ⟨k, hk, hb, hl⟩
theorem LbI.push (I : LbI l wd m es by_ lev found Q j p) (hj : j < Q.length) (hp : p < (outL es m Q[j]).length) {k : Nat} (hk : k < m) (hkl : lfE es k < l) (hb : by_ (rtE es (outL es m Q[j])[p]) = (k : Int)) (hbl : by_ (lfE es k) ≠ -1) (hl : ¬ 0 ≤ lev (lfE es k)) :
    LbI l wd m es by_ (upd lev (lfE es k) (lev Q[j] + 1)) found (Q ++ [lfE es k]) j (p + 1) := by
  have ho := outL_mem.1 (List.getElem_mem hp)
  have hjm := List.getElem_mem hj
  have hj0 := (I.on _ (I.lt _ hjm)).1 hjm
  have hn : lfE es k ∉ Q := fun h => hl ((I.on _ hkl).1 h)
  have la : upd lev (lfE es k) (lev Q[j] + 1) (lfE es k) = lev Q[j] + 1 := upd_at
  have lo : ∀ v, v ≠ lfE es k → upd lev (lfE es k) (lev Q[j] + 1) v = lev v := fun v h => upd_ne h
  have lq : ∀ v, v ∈ Q → upd lev (lfE es k) (lev Q[j] + 1) v = lev v := fun v h => lo v fun e => hn (e ▸ h)
  have lm : ∀ v, 0 ≤ lev v → 0 ≤ upd lev (lfE es k) (lev Q[j] + 1) v := fun v h => by
    by_cases e : v = lfE es k
    · rw [e, la]; omega
    · rw [lo v e]; exact h
  generalize upd lev (lfE es k) (lev Q[j] + 1) = lev' at *
  refine ⟨?_, fun v hv => ?_, fun v hv => ?_, fun v hv => ?_, fun i h => ?_, fun v hv hb2 => ?_, fun v hv h => ?_, fun v hv h => ?_, fun i hi h => ?_, fun hf => ?_⟩
  · rw [List.nodup_append]
    exact ⟨I.nd, by simp, fun a ha b hb => by
      rw [List.mem_singleton] at hb
      rw [hb]; exact fun e => hn (e ▸ ha)⟩
  · rcases List.mem_append.1 hv with hv | hv
    · exact I.lt v hv
    · rw [List.mem_singleton] at hv; rw [hv]; exact hkl
  · rw [List.mem_append, List.mem_singleton]
    by_cases e : v = lfE es k
    · rw [e, la]; exact ⟨fun _ => by omega, fun _ => .inr rfl⟩
    · rw [lo v e, ← I.on v hv]; exact ⟨fun h => h.resolve_right e, .inl⟩
  · by_cases e : v = lfE es k
    · rw [e, la]; omega
    · rw [lo v e]; exact I.ge v hv
  · by_cases h2 : i < Q.length
    · rw [List.getElem_append_left h2, lq _ (List.getElem_mem h2)]; exact I.ix i h2
    · have e1 : i = Q.length := by rw [List.length_append] at h; simp at h; omega
      subst e1
      rw [List.getElem_append_right (Nat.le_refl _)]
      simp only [Nat.sub_self, List.getElem_cons_zero]
      rw [la]
      have := I.ix j hj
      omega
  · by_cases e : v = lfE es k
    · subst e; exact absurd hb2 hbl
    · rw [lo v e]; exact I.rt v hv hb2
  · by_cases e : v = lfE es k
    · rw [e, la] at h; omega
    · rw [lo v e] at h; exact I.z0 v hv h
  · by_cases e : v = lfE es k
    · refine ⟨Q[j], (outL es m Q[j])[p], k, I.lt _ hjm, ?_, ho.1, ho.2, hk, hb, e.symm⟩
      rw [e, la, lq _ hjm]
    · rw [lo v e] at h ⊢
      obtain ⟨u, i, k', a1, a2, a3, a4, a5, a6, a7⟩ := I.pr v hv h
      refine ⟨u, i, k', a1, ?_, a3, a4, a5, a6, a7⟩
      by_cases e2 : u = lfE es k
      · subst e2; have := I.ge _ hkl; omega
      · rw [lo u e2]; exact a2
  · have old : ((∃ q, ∃ h : q < Q.length, q < j ∧ Q[q] = lfE es i) ∨ (∃ h : j < Q.length, Q[j] = lfE es i ∧ i ∈ (outL es m (lfE es i)).take p)) → (found = true ∧ by_ (rtE es i) = -1) ∨ ∃ k, k < m ∧ by_ (rtE es i) = ((k : Nat) : Int) ∧ 0 ≤ lev' (lfE es k) := fun h => by
      rcases I.dn i hi h with h1 | ⟨k', h1, h2, h3⟩
      · exact .inl h1
      · exact .inr ⟨k', h1, h2, lm _ h3⟩
    rcases h with ⟨q, hq, h1, e⟩ | ⟨h1, e, h2⟩
    · refine old (.inl ⟨q, by omega, h1, ?_⟩)
      rwa [List.getElem_append_left (by omega)] at e
    · rw [List.getElem_append_left hj] at e
      rcases take_one (by rw [← e]; exact hp) h2 with h3 | h3
      · exact old (.inr ⟨hj, e, h3⟩)
      · have : i = (outL es m Q[j])[p] := by rw [h3]; congr 1; rw [e]
        rw [this]; exact .inr ⟨k, hk, hb, by rw [la]; omega⟩
  · obtain ⟨i, h1, h2, h3⟩ := I.fd hf
    exact ⟨i, h1, lm _ h2, h3⟩
/-- Where no way is found. -/
theorem LyP.max (Y : LyP l wd m es by_ lev false) (G : BmP l wd m es (l + wd) by_) (sd : ∀ i, i < m → lfE es i < l ∧ l ≤ rtE es i ∧ rtE es i < l + wd) : MxP l wd m es by_ := by
  refine ⟨G, fun w => l ≤ w ∧ w < l + wd ∧ ∃ k, k < m ∧ by_ w = ((k : Nat) : Int) ∧ 0 ≤ lev (lfE es k), fun w hw => ?_, fun v hv hb i hi e => ?_⟩
  · obtain ⟨h1, h2, k, h3, h4, h5⟩ := hw
    rcases G.mr w h1 h2 (by omega) with h | ⟨q, q1, q2, q3, q4⟩
    · omega
    · have : q = k := by omega
      subst this
      refine ⟨h1, h2, q, h3, h4, q3, q4, fun i hi e => ?_⟩
      have s := sd i hi
      obtain ⟨k', a, b, c⟩ := Y.nf rfl i hi (by rw [e]; exact h5)
      exact ⟨s.2.1, s.2.2, k', a, b, c⟩
  · have s := sd i hi
    obtain ⟨k', a, b, c⟩ := Y.nf rfl i hi (by rw [e, Y.rt v hv hb]; omega)
    exact ⟨s.2.1, s.2.2, k', a, b, c⟩
/-- An edge that can't lead on. -/
def NoE (m : Nat) (es : Nat → Ed) (by_ L0 lev : Nat → Int) (i : Nat) : Prop := ∃ k, k < m ∧ by_ (rtE es i) = ((k : Nat) : Int) ∧ (L0 (lfE es k) ≠ L0 (lfE es i) + 1 ∨ lev (lfE es k) = -1)
/-- What has been skipped can't lead on. -/
def DdE (l m : Nat) (es : Nat → Ed) (by_ L0 lev nxt : Nat → Int) : Prop :=
  (∀ i, i < m → 0 ≤ L0 (lfE es i) → lev (lfE es i) = -1 → NoE m es by_ L0 lev i) ∧ ∀ u i, u < l → i ∈ (outL es m u).take (nxt u).toNat → NoE m es by_ L0 lev i
/-- What a search along levels comes to. -/
structure AgR (l wd m : Nat) (es : Nat → Ed) (L0 by_ lev nxt by' lev' nxt' : Nat → Int) (v : Nat) (r : Bool) : Prop where
  lv : ∀ u, u < l → lev' u = lev u ∨ lev' u = -1
  nx : ∀ u, u < l → 0 ≤ nxt' u ∧ nxt' u ≤ (outL es m u).length
  lo : ∀ u, u < l → L0 u ≤ L0 v → u ≠ v → lev' u = lev u ∧ nxt' u = nxt u
  yes : r = true → ∃ x, (by_ v = -1 ∧ x = l + wd ∨ ∃ k, k < m ∧ by_ v = ((k : Nat) : Int) ∧ x = rtE es k) ∧ BmP l wd m es x by' ∧ 0 ≤ by' v ∧ (∀ u, u < l → u ≠ v → (by' u = -1 ↔ by_ u = -1)) ∧
    ∀ w k, l ≤ w → w < l + wd → by_ w = ((k : Nat) : Int) → rtE es k = w → k < m → L0 (lfE es k) ≤ L0 v → by' w = (k : Int)
  no : r = false → by' = by_ ∧ lev' v = -1 ∧ (DdE l m es by_ L0 lev nxt → DdE l m es by_ L0 lev' nxt')
/-- A phase in which nothing was gained can't be. -/
theorem LyP.gain (Y : LyP l wd m es by_ L0 true) (sd : ∀ i, i < m → lfE es i < l ∧ l ≤ rtE es i ∧ rtE es i < l + wd) (D : DdE l m es by_ L0 lev nxt) (h0 : ∀ u, u < l → L0 u = 0 → lev u = -1) : False := by
  have all : ∀ d u, u < l → L0 u = ((d : Nat) : Int) → lev u = -1 := by
    intro d
    induction d with
    | zero => exact fun u hu h => h0 u hu h
    | succ d ih =>
      intro u hu h
      obtain ⟨p, i, k, a1, a2, a3, a4, a5, a6, a7⟩ := Y.pr u hu (by omega)
      have dp := ih p a1 (by omega)
      obtain ⟨k', b1, b2, b3⟩ := D.1 i a3 (by rw [a4]; omega) (by rw [a4]; exact dp)
      have : k' = k := by omega
      subst this
      rw [a7, a4] at b3
      rcases b3 with b3 | b3
      · omega
      · exact b3
  obtain ⟨i, h1, h2, h3⟩ := Y.fd rfl
  obtain ⟨k, b1, b2, _⟩ := D.1 i h1 h2 (all (L0 (lfE es i)).toNat _ (sd i h1).1 (by omega))
  omega
/-- How many nodes of the left side aren't matched. -/
def unM (by_ : Nat → Int) (l : Nat) : Int := sumN l fun v => if by_ v = -1 then 1 else 0
theorem unM_lt (h1 : ∀ u, u < l → by' u = -1 → by_ u = -1) {v : Nat} (hv : v < l) (h2 : by_ v = -1) (h3 : by' v ≠ -1) : unM by' l < unM by_ l := by
  have e : (sumN l fun u => if by' u = -1 then (1 : Int) else 0) + (sumN l fun u => if v = u then 1 else 0) ≤ sumN l fun u => if by_ u = -1 then 1 else 0 := by
    rw [← sumN_add]
    refine sumN_le fun u hu => ?_
    by_cases e : v = u
    · subst e; rw [if_neg h3, if_pos rfl, if_pos h2]; omega
    · rw [if_neg e]
      by_cases e2 : by' u = -1
      · rw [if_pos e2, if_pos (h1 u hu e2)]; omega
      · rw [if_neg e2]; split <;> omega
  rw [sumN_pt, if_pos hv] at e
  unfold unM
  omega
theorem unM_nn : 0 ≤ unM by_ l := sumN_nonneg fun i _ => by split <;> omega
end

end Go.Proofs.YtdcamadeblojdaaGreat

namespace Go.Proofs.YtdcamadeblojdaaGreat
open Go
open Classical
set_option linter.unusedVariables false
set_option linter.unusedSimpArgs false
set_option maxHeartbeats 2000000

/-- A search from v, the first j edges looked at. -/
structure TyI (l wd m : Nat) (es : Nat → Ed) (by_ : Nat → Int) (seen sn : Nat → Bool) (v j : Nat) : Prop where
  sm : ∀ w, seen w = true → sn w = true
  dn : ∀ i, i ∈ (outL es m v).take j → sn (rtE es i) = true
  cl : ∀ w, sn w = true → seen w = true ∨
    (l ≤ w ∧ w < l + wd ∧ ∃ k, k < m ∧ by_ w = (k : Int) ∧ rtE es k = w ∧ by_ (lfE es k) = (k : Int) ∧ ∀ i, i < m → lfE es i = lfE es k → sn (rtE es i) = true)
section
variable {l wd m v j i k u : Nat} {es : Nat → Ed} {by_ by' : Nat → Int} {seen sn sn' : Nat → Bool} {C : Nat → Prop}
theorem TyI.start : TyI l wd m es by_ seen seen v 0 := ⟨fun _ h => h, fun i h => by simp at h, fun _ h => .inl h⟩
theorem TyI.skip (I : TyI l wd m es by_ seen sn v j) (hj : j < (outL es m v).length) (h : sn (rtE es (outL es m v)[j]) = true) : TyI l wd m es by_ seen sn v (j + 1) :=
  ⟨I.sm, fun i hi => by
    rcases take_one hj hi with h1 | rfl
    · exact I.dn i h1
    · exact h, I.cl⟩
theorem TyI.fail (I : TyI l wd m es by_ seen sn v j) (hj : j < (outL es m v).length) (sd : ∀ i, i < m → lfE es i < l ∧ l ≤ rtE es i ∧ rtE es i < l + wd) {w : Nat} (ew : rtE es (outL es m v)[j] = w) (hk : k < m) (hb : by_ w = (k : Int)) (hr : rtE es k = w)
    (hl : by_ (lfE es k) = (k : Int)) (R : TyR l wd m es C by_ (updB sn w true) by' sn' (lfE es k) false) : TyI l wd m es by_ seen sn' v (j + 1) := by
  obtain ⟨_, r2, r3⟩ := R.no rfl
  have mono : ∀ x, sn x = true → sn' x = true := fun x h => R.sm x (updB_mono h)
  have hw : sn' w = true := R.sm w (by unfold updB; simp)
  refine ⟨fun x h => mono x (I.sm x h), fun i hi => ?_, fun x hx => ?_⟩
  · rcases take_one hj hi with h1 | rfl
    · exact mono _ (I.dn i h1)
    · rw [ew]; exact hw
  · rcases r3 x hx with h | h
    · by_cases e : x = w
      · subst e
        have := (sd k hk).2
        exact .inr ⟨by omega, by omega, k, hk, hb, hr, hl, r2⟩
      · rcases I.cl x (by unfold updB at h; rwa [if_neg e] at h) with h1 | ⟨a, b, q, q1, q2, q3, q4, q5⟩
        · exact .inl h1
        · exact .inr ⟨a, b, q, q1, q2, q3, q4, fun i hi e => mono _ (q5 i hi e)⟩
    · exact .inr h
theorem TyI.no (I : TyI l wd m es by_ seen sn v j) (hj : j = (outL es m v).length) : TyR l wd m es C by_ seen by_ sn v false := by
  refine ⟨I.sm, fun _ => ⟨rfl, fun i hi e => I.dn i ?_, I.cl⟩, fun h => (by cases h), fun _ => rfl⟩
  rw [hj, List.take_length]
  exact outL_mem.2 ⟨hi, e⟩
theorem tkE_l : tkE es by_ i (lfE es i) = i := if_pos (.inl rfl)
theorem tkE_o (h1 : u ≠ lfE es i) (h2 : u ≠ rtE es i) : tkE es by_ i u = by_ u := if_neg (by rintro (h | h); exact h1 h; exact h2 h)
theorem TyI.direct (I : TyI l wd m es by_ seen sn v j) (G : BmP l wd m es (l + wd) by_) (hC : ClP l wd m es by_ C) (sd : ∀ i, i < m → lfE es i < l ∧ l ≤ rtE es i ∧ rtE es i < l + wd) (hi : i < m) (e : lfE es i = v)
    (hs : sn (rtE es i) = false) (hb : by_ (rtE es i) = -1) : TyR l wd m es C by_ seen (tkE es by_ i) (updB sn (rtE es i) true) v true := by
  obtain ⟨s1, s2, s3⟩ := sd i hi
  subst e
  have nC : ¬ C (rtE es i) := fun h => by obtain ⟨_, _, k, _, h1, _⟩ := hC _ h; omega
  refine ⟨fun x h => updB_mono (I.sm x h), fun h => (by cases h), fun _ => ?_, fun h => absurd (h i hi rfl) nC⟩
  have hx : ∃ x', (by_ (lfE es i) = -1 ∧ x' = l + wd ∨ ∃ k, k < m ∧ by_ (lfE es i) = (k : Int) ∧ x' = rtE es k) := by
    rcases G.ml _ s1 with h | ⟨k, h1, h2, _⟩
    · exact ⟨_, .inl ⟨h, rfl⟩⟩
    · exact ⟨_, .inr ⟨k, h1, h2, rfl⟩⟩
  obtain ⟨x', hx⟩ := hx
  refine ⟨x', hx, (G.open_ s3 hb).take sd hi rfl hx, by rw [tkE_l]; omega, fun u hu hn => by rw [tkE_o hn (by omega)], fun w h1 h2 h3 => tkE_o (by omega) ?_, fun w k hw hk => ?_⟩
  · rintro rfl
    rw [I.sm _ h3] at hs; cases hs
  · obtain ⟨c1, c2, k', c3, c4, c5, c6, c7⟩ := hC w hw
    have : k' = k := by omega
    subst this
    have := sd _ c3
    rw [tkE_o (by omega) (by rintro rfl; exact nC hw), tkE_o (fun e => nC (c7 i hi e.symm)) (by omega)]
    exact ⟨c4, c6⟩
theorem TyI.through (I : TyI l wd m es by_ seen sn v j) (G : BmP l wd m es (l + wd) by_) (hC : ClP l wd m es by_ C) (sd : ∀ i, i < m → lfE es i < l ∧ l ≤ rtE es i ∧ rtE es i < l + wd) (hi : i < m) (e : lfE es i = v)
    (hs : sn (rtE es i) = false) (hsn : ∀ k, k < m → by_ v = (k : Int) → seen (rtE es k) = true) (hk : k < m) (hb : by_ (rtE es i) = (k : Int)) (hr : rtE es k = rtE es i) (hl : by_ (lfE es k) = (k : Int))
    (R : TyR l wd m es C by_ (updB sn (rtE es i) true) by' sn' (lfE es k) true) : TyR l wd m es C by_ seen (tkE es by' i) sn' v true := by
  obtain ⟨s1, s2, s3⟩ := sd i hi
  obtain ⟨t1, t2, t3⟩ := sd k hk
  subst e
  obtain ⟨x, hx, G', y0, y1, y2, y3⟩ := R.yes rfl
  have ex : x = rtE es i := by
    rcases hx with ⟨h, _⟩ | ⟨q, h1, h2, h3⟩
    · omega
    · have : q = k := by omega
      subst this
      rw [h3, hr]
  subst ex
  have mono : ∀ x, seen x = true → updB sn (rtE es i) true x = true := fun x h => updB_mono (I.sm x h)
  have nC : ¬ C (rtE es i) := fun h => by
    obtain ⟨_, _, q, q1, q2, q3, q4, q5⟩ := hC _ h
    have : q = k := by omega
    subst this
    have := R.cl q5
    cases this
  have hne : lfE es k ≠ lfE es i := fun e => by
    have := hsn k hk (by rw [← e]; exact hl)
    rw [hr] at this
    rw [I.sm _ this] at hs; cases hs
  have hx' : ∃ x', (by_ (lfE es i) = -1 ∧ x' = l + wd ∨ ∃ k, k < m ∧ by_ (lfE es i) = (k : Int) ∧ x' = rtE es k) ∧ (by' (lfE es i) = -1 ∧ x' = l + wd ∨ ∃ k, k < m ∧ by' (lfE es i) = (k : Int) ∧ x' = rtE es k) := by
    rcases G.ml _ s1 with h | ⟨q, q1, q2, q3, q4, q5⟩
    · exact ⟨_, .inl ⟨h, rfl⟩, .inl ⟨(y1 _ s1 (fun e => hne e.symm)).2 h, rfl⟩⟩
    · have hq := hsn q q1 q2
      obtain ⟨u1, u2, u3⟩ := sd q q1
      have z := y2 _ u2 u3 (mono _ hq)
      rw [q5] at z
      refine ⟨_, .inr ⟨q, q1, q2, rfl⟩, .inr ⟨q, q1, ?_, rfl⟩⟩
      rcases G'.mr _ u2 u3 (by intro e; rw [e] at hq; rw [I.sm _ hq] at hs; cases hs) with h | ⟨p, p1, p2, p3, p4⟩
      · omega
      · have : p = q := by omega
        subst this
        rw [← q3]; exact p4
  obtain ⟨x', hx1, hx2⟩ := hx'
  refine ⟨fun x h => R.sm x (mono x h), fun h => (by cases h), fun _ => ⟨x', hx1, G'.take sd hi rfl hx2, by rw [tkE_l]; omega, fun u hu hn => ?_, fun w h1 h2 h3 => ?_, fun w q hw hq => ?_⟩, fun h => absurd (h i hi rfl) nC⟩
  · rw [tkE_o hn (by omega)]
    by_cases e : u = lfE es k
    · subst e; omega
    · exact y1 u hu e
  · rw [tkE_o (by omega) (by rintro rfl; rw [I.sm _ h3] at hs; cases hs)]
    exact y2 w h1 h2 (mono w h3)
  · obtain ⟨c1, c2, k', c3, c4, c5, c6, c7⟩ := hC w hw
    have : k' = q := by omega
    subst this
    have := sd _ c3
    rw [tkE_o (by omega) (by rintro rfl; exact nC hw), tkE_o (fun e => nC (c7 i hi e.symm)) (by omega)]
    exact y3 w k' hw hq
end

/-- The pairs in the heap: owners 1 the struct, 2 out, 3 by, 40 + v the edges out of v. -/
structure Pr (h0 : H) (own : Own) (h : H) (bp l wd m : Nat) (es : Nat → Ed) (gv vo vy : Value) (outs : Nat → Value) (by_ : Nat → Int) : Prop where
  bs : Bs h0 own h
  gs : Gs h0 gv m es
  k1 : B1 own h 1 bp [.int .i64 ((l + wd : Nat) : Int), gv, .int .i64 (l : Nat), vo, vy]
  k2 : S1 own h 2 vo (va l outs)
  k3 : S1 own h 3 vy (ints (l + wd) by_)
  ko : ∀ v, v < l → S1 own h (40 + v) (outs v) (natV (outL es m v))
section
variable {h0 h h' : H} {own own' : Own} {M : List Nat} {bp l wd m : Nat} {es : Nat → Ed} {gv vo vy : Value} {outs : Nat → Value} {by_ : Nat → Int}
theorem Pr.fm (p : Pr h0 own h bp l wd m es gv vo vy outs by_) (Fr : Fm M own h own' h') (hM : ∀ i, i ∈ M → 3 < i ∧ i < 40) : Pr h0 own' h' bp l wd m es gv vo vy outs by_ := by
  have no : ∀ j, (j ≤ 3 ∨ 40 ≤ j) → j ∉ M := fun j hj hm => by have := hM j hm; omega
  exact ⟨p.bs.fm Fr (no _ (by omega)), p.gs, p.k1.fm Fr (no _ (by omega)), p.k2.fm Fr (no _ (by omega)), p.k3.fm Fr (no _ (by omega)), fun v hv => (p.ko v hv).fm Fr (no _ (by omega))⟩
theorem Pr.nw {b j : Nat} (p : Pr h0 own h bp l wd m es gv vo vy outs by_) (x : Ext h h') (hb : h b = none) : Pr h0 (own1 own b j) h' bp l wd m es gv vo vy outs by_ := p.fm (M := []) (Fm.new x hb) (by simp)
theorem Pr.by3 (p : Pr h0 own h bp l wd m es gv vo vy outs by_) {by' : Nat → Int} (Fr : Fm [3] own h own' h') (k : S1 own' h' 3 vy (ints (l + wd) by')) : Pr h0 own' h' bp l wd m es gv vo vy outs by' :=
  ⟨p.bs.fm Fr (by simp), p.gs, p.k1.fm Fr (by simp), p.k2.fm Fr (by simp), k, fun v hv => (p.ko v hv).fm Fr (by simp; omega)⟩
theorem oth_T (p : Pr h0 own h bp l wd m es gv vo vy outs by_) (sd : Sd l wd m es) {i v u : Nat} (hi : i < m) (hv : v = lfE es i ∧ u = rtE es i ∨ v = rtE es i ∧ u = lfE es i) :
    T Tryz.prog F.bimatch_pairs_other [.pointer (some (bk bp)), .int .i64 (i : Nat), .int .i64 (v : Nat)] h fun r h' => r = .ret (.int .i64 (u : Nat)) ∧ h' = h := by
  refine E_bimatch_pairs_other ?_
  unfold B_bimatch_pairs_other
  obtain ⟨f1, f2⟩ := sd.gd.fr hi
  obtain ⟨t1, t2⟩ := sd.gd.to hi
  have n1 := sd.gd.n1
  have Gv := p.gs.ext p.bs.ext
  refine ptrP_mk (ptrP_mk (p.k1.rV (j := 1) rfl (Gv.at hi fun a e => ⟨_, e 0 _ rfl, p.k1.rV (j := 1) rfl (Gv.at hi fun a2 e2 => ⟨_, e2 1 _ rfl, ?_⟩)⟩)))
  have : IntKind.i64.wrap (IntKind.i64.wrap ((es i).f + (es i).t) - (v : Int)) = (u : Int) := by
    unfold lfE rtE at hv
    have e1 : IntKind.i64.wrap ((es i).f + (es i).t) = (es i).f + (es i).t := w64_in (by omega) (by omega)
    rw [e1, f1, t1]
    have e2 : IntKind.i64.wrap (((frE es i : Nat) : Int) + ((toE es i : Nat) : Int) - (v : Int)) = ((frE es i : Nat) : Int) + ((toE es i : Nat) : Int) - (v : Int) := w64_in (by omega) (by omega)
    rw [e2]; omega
  exact ⟨by rw [this], rfl⟩
theorem ptake_T (p : Pr h0 own h bp l wd m es gv vo vy outs by_) (sd : Sd l wd m es) {i : Nat} (hi : i < m) :
    T Tryz.prog F.bimatch_pairs_take [.pointer (some (bk bp)), .int .i64 (i : Nat)] h fun r h' => r = .ret (.tuple ⟨[]⟩) ∧ Fm [3] own h own h' ∧ Pr h0 own h' bp l wd m es gv vo vy outs (tkE es by_ i) := by
  refine E_bimatch_pairs_take ?_
  unfold B_bimatch_pairs_take
  obtain ⟨f1, f2⟩ := sd.gd.fr hi
  obtain ⟨t1, t2⟩ := sd.gd.to hi
  have Gv := p.gs.ext p.bs.ext
  refine ptrP_mk (ptrP_mk (ptrP_mk (ptrP_mk (p.k1.rV (j := 4) rfl (p.k1.rV (j := 1) rfl (Gv.at hi fun a e => ⟨_, e 0 _ rfl, p.k1.rV (j := 4) rfl (p.k1.rV (j := 1) rfl (Gv.at hi fun a2 e2 => ⟨_, e2 1 _ rfl, ?_⟩))⟩))))))
  rw [f1, t1]
  refine p.k3.setI f2 fun g1 F1 k3 => k3.setI t2 fun g2 F2 k3 => ?_
  have Fr := F1.trans F2
  refine ⟨rfl, Fr, p.by3 Fr (k3.cg fun c _ => ?_)⟩
  unfold upd tkE lfE rtE
  by_cases h1 : c = toE es i
  · rw [if_pos h1, if_pos (by omega)]
  · rw [if_neg h1]
    by_cases h2 : c = frE es i
    · rw [if_pos h2, if_pos (by omega)]
    · rw [if_neg h2, if_neg (by omega)]
theorem try_T (sd : Sd l wd m es) {bx : Nat} {sv : Value} {C : Nat → Prop} : ∀ (z : Nat) {own : Own} {h : H} {by_ : Nat → Int} {seen : Nat → Bool} {v : Nat}, unm (l + wd) seen < (z : Int) → Pr h0 own h bp l wd m es gv vo vy outs by_ → B1 own h 4 bx [.pointer (some (bk bp)), sv] →
    S1 own h 5 sv (bools (l + wd) seen) → BmP l wd m es (l + wd) by_ → ClP l wd m es by_ C → v < l → (∀ k, k < m → by_ v = (k : Int) → seen (rtE es k) = true) →
    T Tryz.prog F.bimatch_simple_try [.pointer (some (bk bx)), .int .i64 (v : Nat)] h fun r h' => ∃ (b : Bool) (by' : Nat → Int) (seen' : Nat → Bool), r = .ret (.bool b) ∧ Fm [3, 5] own h own h' ∧ Pr h0 own h' bp l wd m es gv vo vy outs by' ∧ B1 own h' 4 bx [.pointer (some (bk bp)), sv] ∧
      S1 own h' 5 sv (bools (l + wd) seen') ∧ TyR l wd m es C by_ seen by' seen' v b := by
  have n1 := sd.gd.n1
  have m1 := sd.gd.m1
  intro z
  induction z with
  | zero =>
    intro own h by_ seen v hz
    have : 0 ≤ unm (l + wd) seen := cntP_nn
    omega
  | succ z ih =>
    intro own h by_ seen v hz p k4 k5 G hC hv hsn
    have ol := outL_len (es := es) (v := v) (m := m)
    refine E_bimatch_simple_try ?_
    unfold B_bimatch_simple_try
    refine ptrP_mk (k4.rV rfl (ptrP_mk (p.k1.rV rfl (p.k2.rdV hv ((p.ko v hv).len (natV_length _) fun _ _ => ?_)))))
    let I : (Int × Unit) → H → Nat → Prop := fun s g zz => ∃ (j : Nat) (sn : Nat → Bool), s.1 = j ∧ j ≤ (outL es m v).length ∧ zz = (outL es m v).length - j ∧ Fm [3, 5] own h own g ∧ Pr h0 own g bp l wd m es gv vo vy outs by_ ∧ B1 own g 4 bx [.pointer (some (bk bp)), sv] ∧
      S1 own g 5 sv (bools (l + wd) sn) ∧ TyI l wd m es by_ seen sn v j ∧ unm (l + wd) sn ≤ unm (l + wd) seen
    refine ⟨fun p q => ∃ k, I p q k, rk I, rk_wf I, ⟨_, 0, seen, rfl, by omega, rfl, Fm.refl, p, k4, k5, TyI.start, Int.le_refl _⟩, ?_⟩
    clear p k4 k5
    intro s g hI
    obtain ⟨j, sn, e1, hj, hzz, Ft, p, k4, k5, Ti, hun⟩ := mu_spec hI
    generalize hkk : mu I ((s, ()), g) = km at *
    change s = (j : Int) at e1
    subst e1
    have hlt : j < (outL es m v).length → (outL es m v).length - (j + 1) < mu I (((j : Int), ()), g) := fun h => by rw [hkk, hzz]; exact sub_dec h
    clear hI
    refine ifP_of (fun h1 => ?_) (fun h1 => ?_)
    rotate_left
    · have hjl : j = (outL es m v).length := by have := of_decide_eq_false h1; omega
      exact ⟨false, by_, sn, rfl, Ft, p, k4, k5, Ti.no hjl⟩
    have hjl : j < (outL es m v).length := by have := of_decide_eq_true h1; omega
    have ho := outL_mem.1 (List.getElem_mem hjl)
    obtain ⟨s1, s2, s3⟩ := sd.sd _ ho.1
    refine (p.ko v hv).rd (natV_get hjl) (ptrP_mk (k4.rV rfl ((oth_T p sd ho.1 (.inl ⟨ho.2.symm, rfl⟩)).mono ?_)))
    rintro _ _ ⟨rfl, rfl⟩
    refine rt_ret ⟨_, rfl, ptrP_mk (k4.rV rfl (k5.rdB s3 (ifP_of (fun h2 => ?_) (fun h2 => ?_))))⟩
    · rw [i64_inc (by omega)]
      exact mu_next (I := I) (k := (outL es m v).length - (j + 1)) ⟨j + 1, sn, rfl, hjl, rfl, Ft, p, k4, k5, Ti.skip hjl h2, hun⟩ (hlt hjl)
    have hs : sn (rtE es (outL es m v)[j]) = false := by simpa using h2
    have hu := unm_set s3 hs
    refine ptrP_mk (k4.rV rfl (k5.setB s3 fun g1 F1 k5 => ?_))
    have p := p.fm F1 (by simp <;> omega)
    have k4 := k4.fm F1 (by simp <;> omega)
    have Ft := Ft.trans (F1.mono (by simp))
    clear F1
    refine ptrP_mk (k4.rV rfl (ptrP_mk (p.k1.rV rfl (p.k3.rdI s3 (ifP_of (fun h3 => ?_) (fun h3 => ?_))))))
    · have hb : by_ (rtE es (outL es m v)[j]) = -1 := by
        have h3 := of_decide_eq_true h3
        rcases G.mr _ s2 s3 (by omega) with h | ⟨k, _, h, _⟩
        · exact h
        · omega
      refine ptrP_mk (k4.rV rfl ((ptake_T p sd ho.1).mono ?_))
      rintro _ g2 ⟨rfl, F2, p⟩
      have k4 := k4.fm F2 (by simp <;> omega)
      have k5 := k5.fm F2 (by simp <;> omega)
      exact rt_ret ⟨rfl, true, _, _, rfl, Ft.trans (F2.mono (by simp)), p, k4, k5, Ti.direct G hC sd.sd ho.1 ho.2 hs hb⟩
    have h3 := of_decide_eq_false h3
    rcases G.mr _ s2 s3 (by omega) with h | ⟨k, hk, hb, hr, hl⟩
    · omega
    obtain ⟨t1, t2, t3⟩ := sd.sd k hk
    rw [hb]
    refine ptrP_mk (k4.rV rfl ((oth_T p sd hk (.inr ⟨hr.symm, rfl⟩)).mono ?_))
    rintro _ _ ⟨rfl, rfl⟩
    refine rt_ret ⟨_, rfl, (ih (seen := updB sn (rtE es (outL es m v)[j]) true) (by omega) p k4 k5 G hC t1 fun q hq e => ?_).mono ?_⟩
    · have : q = k := by omega
      subst this
      rw [hr]; unfold updB; simp
    rintro _ g2 ⟨b, by', sn', rfl, F2, p, k4, k5, R⟩
    have Ft := Ft.trans F2
    refine rt_ret ⟨_, rfl, ifP_of (fun h4 => ?_) (fun h4 => ?_)⟩
    · subst h4
      refine ptrP_mk (k4.rV rfl ((ptake_T p sd ho.1).mono ?_))
      rintro _ g3 ⟨rfl, F3, p⟩
      have k4 := k4.fm F3 (by simp <;> omega)
      have k5 := k5.fm F3 (by simp <;> omega)
      exact rt_ret ⟨rfl, true, _, _, rfl, Ft.trans (F3.mono (by simp)), p, k4, k5, Ti.through G hC sd.sd ho.1 ho.2 hs hsn hk hb hr hl R⟩
    · subst h4
      have e := (R.no rfl).1
      rw [e] at p
      rw [i64_inc (by omega)]
      refine mu_next (I := I) (k := (outL es m v).length - (j + 1)) ⟨j + 1, sn', rfl, hjl, rfl, Ft, p, k4, k5, Ti.fail hjl sd.sd rfl hk hb hr hl R, ?_⟩ (hlt hjl)
      refine Int.le_trans ?_ hun
      exact cntP_le fun x hx h => by
        cases e : sn x
        · rfl
        · rw [R.sm x (updB_mono e)] at h; cases h
theorem simple_T (sd : Sd l wd m es) {bx : Nat} {sv : Value} (p : Pr h0 own h bp l wd m es gv vo vy outs fun _ => -1) (k4 : B1 own h 4 bx [.pointer (some (bk bp)), sv]) :
    T Tryz.prog F.bimatch_simple_match [.pointer (some (bk bx))] h fun r h' => ∃ (own' : Own) (by' : Nat → Int), r = .ret (.tuple ⟨[]⟩) ∧ Fm [3, 4, 5] own h own' h' ∧ Pr h0 own' h' bp l wd m es gv vo vy outs by' ∧ MxP l wd m es by' := by
  have n1 := sd.gd.n1
  refine E_bimatch_simple_match ?_
  unfold B_bimatch_simple_match
  refine ptrP_mk (k4.rV rfl (ptrP_mk (p.k1.rI rfl ?_)))
  let I : (Int × Unit) → H → Nat → Prop := fun s g z => ∃ (j : Nat) (ow : Own) (sv : Value) (by_ : Nat → Int), s.1 = j ∧ j ≤ l ∧ z = l - j ∧ Fm [3, 4, 5] own h ow g ∧ Pr h0 ow g bp l wd m es gv vo vy outs by_ ∧ B1 ow g 4 bx [.pointer (some (bk bp)), sv] ∧
    SmI l wd m es by_ j ∧ ∀ u, j ≤ u → u < l → by_ u = -1
  refine ⟨fun p q => ∃ k, I p q k, rk I, rk_wf I, ⟨_, 0, own, sv, _, rfl, by omega, rfl, Fm.refl, p, k4, ⟨BmP.zero, fun _ => False, fun w h => h.elim, fun v hv => by omega⟩, fun u _ _ => rfl⟩, ?_⟩
  clear p k4
  intro s g hI
  obtain ⟨j, ow, sv, by_, e1, hj, hz, Ft, p, k4, ⟨G, C, hC, hu⟩, hn⟩ := mu_spec hI
  generalize hkk : mu I ((s, ()), g) = km at *
  change s = (j : Int) at e1
  subst e1
  have hlt : j < l → l - (j + 1) < mu I (((j : Int), ()), g) := fun h => by rw [hkk, hz]; exact sub_dec h
  clear hI
  refine ifP_of (fun h1 => ?_) (fun h1 => ?_)
  · have hjl : j < l := by have := of_decide_eq_true h1; omega
    refine ptrP_mk (k4.rV rfl (ptrP_mk (p.k1.rI (j := 0) rfl (mk_bools 5 (by omega) (by omega) ?_))))
    intro b13 g14 hb13 x14 S5
    have k5 := S5 ow
    have Ft := Ft.trans (Fm.new (i := 5) x14 hb13)
    have p := p.nw (j := 5) x14 hb13
    have k4 := k4.nw (j := 5) x14 hb13
    generalize own1 ow b13 5 = ow1 at *
    rw [Int.toNat_natCast]
    refine ptrP_mk (k4.st (by simp) fun g2 F2 k4 => ?_)
    simp only [List.set] at k4
    have p := p.fm F2 (by simp <;> omega)
    have k5 := k5.fm F2 (by simp <;> omega)
    have Ft := Ft.trans (F2.mono (by simp))
    refine (try_T sd (C := C) ((unm (l + wd) fun _ => false).toNat + 1) (by omega) p k4 k5 G hC hjl fun k hk e => ?_).mono ?_
    · rw [hn j (Nat.le_refl _) hjl] at e; omega
    rintro _ g3 ⟨b, by', sn', rfl, F3, p, k4, k5, R⟩
    rw [i64_inc (by omega)]
    refine rt_ret ⟨_, rfl, mu_next (I := I) (k := l - (j + 1)) ⟨j + 1, ow1, _, by', rfl, hjl, rfl, Ft.trans (F3.mono (by simp)), p, k4, SmI.next G hC hu sd.sd hjl (hn j (Nat.le_refl _) hjl) R, fun u h2 h3 => ?_⟩ (hlt hjl)⟩
    cases b with
    | false => rw [(R.no rfl).1]; exact hn u (by omega) h3
    | true =>
      obtain ⟨_, _, _, _, y, _⟩ := R.yes rfl
      exact (y u h3 (by omega)).2 (hn u (by omega) h3)
  · have hjl : j = l := by have := of_decide_eq_false h1; omega
    subst hjl
    exact ⟨ow, by_, rfl, Ft, p, G, C, hC, fun v hv => hu v hv hv⟩
end

end Go.Proofs.YtdcamadeblojdaaGreat

namespace Go.Proofs.YtdcamadeblojdaaGreat
open Go
open Classical
set_option linter.unusedVariables false
set_option linter.unusedSimpArgs false
set_option maxHeartbeats 2000000

section
variable {l wd m v j i k u : Nat} {es : Nat → Ed} {by_ by' by1 lev lev1 lev2 L0 nxt nxt1 nxt2 : Nat → Int}
/-- A search along levels, so far without a way. -/
structure AlI (l m : Nat) (es : Nat → Ed) (L0 by_ lev nxt lev1 nxt1 : Nat → Int) (v : Nat) : Prop where
  lv : ∀ u, u < l → lev1 u = lev u ∨ lev1 u = -1
  me : lev1 v = lev v
  nx : ∀ u, u < l → 0 ≤ nxt1 u ∧ nxt1 u ≤ (outL es m u).length
  lo : ∀ u, u < l → L0 u ≤ L0 v → u ≠ v → lev1 u = lev u ∧ nxt1 u = nxt u
  dd : DdE l m es by_ L0 lev nxt → DdE l m es by_ L0 lev1 nxt1
theorem AlI.start (hN : ∀ u, u < l → 0 ≤ nxt u ∧ nxt u ≤ (outL es m u).length) : AlI l m es L0 by_ lev nxt lev nxt v :=
  ⟨fun u _ => .inl rfl, rfl, hN, fun u _ _ _ => ⟨rfl, rfl⟩, fun h => h⟩
theorem NoE.mono (h : NoE m es by_ L0 lev i) (hm : ∀ k, k < m → lev (lfE es k) = -1 → lev1 (lfE es k) = -1) : NoE m es by_ L0 lev1 i := by
  obtain ⟨k, h1, h2, h3⟩ := h
  exact ⟨k, h1, h2, h3.imp id (hm k h1)⟩
/-- One edge more that can't lead on. -/
theorem AlI.step (A : AlI l m es L0 by_ lev nxt lev1 nxt1 v) (hv : v < l) (hj : (nxt1 v).toNat < (outL es m v).length) (n0 : 0 ≤ nxt1 v) (hL : ∀ u, u < l → lev2 u = lev1 u ∨ lev2 u = -1) (me : lev2 v = lev1 v)
    (nx : ∀ u, u < l → 0 ≤ nxt2 u ∧ nxt2 u ≤ (outL es m u).length) (lo : ∀ u, u < l → L0 u ≤ L0 v → lev2 u = lev1 u ∧ nxt2 u = nxt1 u)
    (dd : DdE l m es by_ L0 lev1 nxt1 → DdE l m es by_ L0 lev2 nxt2) (no : NoE m es by_ L0 lev2 (outL es m v)[(nxt1 v).toNat]) : AlI l m es L0 by_ lev nxt lev2 (upd nxt2 v (nxt1 v + 1)) v := by
  have ev := (lo v hv (Int.le_refl _)).2
  refine ⟨fun u hu => ?_, me.trans A.me, fun u hu => ?_, fun u hu h1 h2 => ?_, fun h => ?_⟩
  · rcases hL u hu with h | h
    · rw [h]; exact A.lv u hu
    · exact .inr h
  · by_cases e : u = v
    · subst e; rw [upd_at]; omega
    · rw [upd_ne e]; exact nx u hu
  · rw [upd_ne h2, (lo u hu h1).1, (lo u hu h1).2]; exact A.lo u hu h1 h2
  · have D := dd (A.dd h)
    refine ⟨D.1, fun u q hu hq => ?_⟩
    by_cases e : u = v
    · subst e
      rw [upd_at, show (nxt1 u + 1).toNat = (nxt1 u).toNat + 1 by omega] at hq
      rcases take_one hj hq with h1 | rfl
      · exact D.2 u q hu (by rw [ev]; exact h1)
      · exact no
    · rw [upd_ne e] at hq; exact D.2 u q hu hq
theorem AlI.none (A : AlI l m es L0 by_ lev nxt lev1 nxt1 v) (hn : (nxt1 v).toNat = (outL es m v).length) (hv : v < l) (sd : ∀ i, i < m → lfE es i < l ∧ l ≤ rtE es i ∧ rtE es i < l + wd) : AgR l wd m es L0 by_ lev nxt by_ (upd lev1 v (-1)) nxt1 v false := by
  refine ⟨fun u hu => ?_, A.nx, fun u hu h1 h2 => by rw [upd_ne h2]; exact A.lo u hu h1 h2, fun h => (by cases h), fun _ => ⟨rfl, upd_at, fun h => ?_⟩⟩
  · by_cases e : u = v
    · subst e; exact .inr upd_at
    · rw [upd_ne e]; exact A.lv u hu
  · have D := A.dd h
    have mono : ∀ k, k < m → lev1 (lfE es k) = -1 → upd lev1 v (-1) (lfE es k) = -1 := fun k _ h => by
      by_cases e : lfE es k = v
      · rw [e]; exact upd_at
      · rw [upd_ne e]; exact h
    refine ⟨fun q hq h0 hl => ?_, fun u q hu hq => (D.2 u q hu hq).mono mono⟩
    by_cases e : lfE es q = v
    · refine (D.2 v q hv ?_).mono mono
      rw [hn, List.take_length]
      exact outL_mem.2 ⟨hq, e⟩
    · rw [upd_ne e] at hl
      exact (D.1 q hq h0 hl).mono mono
theorem AlI.direct (A : AlI l m es L0 by_ lev nxt lev1 nxt1 v) (G : BmP l wd m es (l + wd) by_) (sd : ∀ i, i < m → lfE es i < l ∧ l ≤ rtE es i ∧ rtE es i < l + wd) (hi : i < m) (e : lfE es i = v) (hb : by_ (rtE es i) = -1) :
    AgR l wd m es L0 by_ lev nxt (tkE es by_ i) lev1 nxt1 v true := by
  obtain ⟨s1, s2, s3⟩ := sd i hi
  subst e
  refine ⟨A.lv, A.nx, A.lo, fun _ => ?_, fun h => (by cases h)⟩
  have hx : ∃ x', (by_ (lfE es i) = -1 ∧ x' = l + wd ∨ ∃ k, k < m ∧ by_ (lfE es i) = (k : Int) ∧ x' = rtE es k) := by
    rcases G.ml _ s1 with h | ⟨k, h1, h2, _⟩
    · exact ⟨_, .inl ⟨h, rfl⟩⟩
    · exact ⟨_, .inr ⟨k, h1, h2, rfl⟩⟩
  obtain ⟨x', hx⟩ := hx
  refine ⟨x', hx, (G.open_ s3 hb).take sd hi rfl hx, by rw [tkE_l]; omega, fun u hu hn => by rw [tkE_o hn (by omega)], fun w q h1 h2 h3 h4 h5 h6 => ?_⟩
  rw [tkE_o (by omega) (by rintro rfl; omega)]; exact h3
theorem AlI.through (A : AlI l m es L0 by_ lev nxt lev1 nxt1 v) (G : BmP l wd m es (l + wd) by_) (sd : ∀ i, i < m → lfE es i < l ∧ l ≤ rtE es i ∧ rtE es i < l + wd) (hi : i < m) (e : lfE es i = v) (hk : k < m) (hb : by_ (rtE es i) = (k : Int)) (hr : rtE es k = rtE es i)
    (hl : by_ (lfE es k) = (k : Int)) (hL : L0 (lfE es k) = L0 v + 1) (R : AgR l wd m es L0 by_ lev1 nxt1 by' lev2 nxt2 (lfE es k) true) : AgR l wd m es L0 by_ lev nxt (tkE es by' i) lev2 nxt2 v true := by
  obtain ⟨s1, s2, s3⟩ := sd i hi
  obtain ⟨t1, t2, t3⟩ := sd k hk
  subst e
  obtain ⟨x, hx, G', y0, y1, y2⟩ := R.yes rfl
  have ex : x = rtE es i := by
    rcases hx with ⟨h, _⟩ | ⟨q, h1, h2, h3⟩
    · omega
    · have : q = k := by omega
      subst this
      rw [h3, hr]
  subst ex
  have hne : lfE es i ≠ lfE es k := fun e => by rw [← e] at hL; omega
  have hx' : ∃ x', (by_ (lfE es i) = -1 ∧ x' = l + wd ∨ ∃ k, k < m ∧ by_ (lfE es i) = (k : Int) ∧ x' = rtE es k) ∧ (by' (lfE es i) = -1 ∧ x' = l + wd ∨ ∃ k, k < m ∧ by' (lfE es i) = (k : Int) ∧ x' = rtE es k) := by
    rcases G.ml _ s1 with h | ⟨q, q1, q2, q3, q4, q5⟩
    · exact ⟨_, .inl ⟨h, rfl⟩, .inl ⟨(y1 _ s1 hne).2 h, rfl⟩⟩
    · obtain ⟨u1, u2, u3⟩ := sd q q1
      have z := y2 _ q u2 u3 q5 rfl q1 (by rw [q3]; omega)
      refine ⟨_, .inr ⟨q, q1, q2, rfl⟩, .inr ⟨q, q1, ?_, rfl⟩⟩
      have hw : rtE es q ≠ rtE es i := fun e => by
        rw [e] at q5
        have : q = k := by omega
        subst this
        exact hne q3.symm
      rcases G'.mr _ u2 u3 hw with h | ⟨p, p1, p2, p3, p4⟩
      · omega
      · have : p = q := by omega
        subst this
        rw [← q3]; exact p4
  obtain ⟨x', hx1, hx2⟩ := hx'
  refine ⟨fun u hu => ?_, R.nx, fun u hu h1 h2 => ?_, fun _ => ⟨x', hx1, G'.take sd hi rfl hx2, by rw [tkE_l]; omega, fun u hu hn => ?_, fun w q h1 h2 h3 h4 h5 h6 => ?_⟩, fun h => (by cases h)⟩
  · rcases R.lv u hu with h | h
    · rw [h]; exact A.lv u hu
    · exact .inr h
  · obtain ⟨a, b⟩ := R.lo u hu (by omega) (by rintro rfl; omega)
    rw [a, b]; exact A.lo u hu h1 h2
  · rw [tkE_o hn (by omega)]
    by_cases e : u = lfE es k
    · subst e; omega
    · exact y1 u hu e
  · rw [tkE_o (by omega) ?_]
    · exact y2 w q h1 h2 h3 h4 h5 (by omega)
    · rintro rfl
      have : q = k := by omega
      subst this
      omega
end

section
variable {h0 h h' : H} {own own' : Own} {M : List Nat} {bp bx l wd m : Nat} {es : Nat → Ed} {gv vo vy : Value} {outs : Nat → Value} {by_ : Nat → Int}
theorem layer_T (sd : Sd l wd m es) {lv nv : Value} (p : Pr h0 own h bp l wd m es gv vo vy outs by_) (k4 : B1 own h 4 bx [.pointer (some (bk bp)), lv, nv]) (G : BmP l wd m es (l + wd) by_) :
    T Tryz.prog F.bimatch_phases_layer [.pointer (some (bk bx))] h fun r h' => ∃ (own' : Own) (lv nv : Value) (lev : Nat → Int) (found : Bool), r = .ret (.bool found) ∧ Fm [4, 5, 6, 7] own h own' h' ∧ Pr h0 own' h' bp l wd m es gv vo vy outs by_ ∧
      B1 own' h' 4 bx [.pointer (some (bk bp)), lv, nv] ∧ S1 own' h' 5 lv (ints (l + wd) lev) ∧ S1 own' h' 6 nv (ints (l + wd) fun _ => 0) ∧ LyP l wd m es by_ lev found := by
  have n1 := sd.gd.n1
  have m1 := sd.gd.m1
  refine E_bimatch_phases_layer ?_
  unfold B_bimatch_phases_layer
  refine ptrP_mk (k4.rV rfl (ptrP_mk (p.k1.rI (j := 0) rfl (mk_ints 5 (by omega) (by omega) ?_))))
  intro b5 h6 hb5 x5 S5
  have k5 := S5 own
  have Ft : Fm [4, 5, 6, 7] own h (own1 own b5 5) h6 := Fm.new x5 hb5
  have p := p.nw (j := 5) x5 hb5
  have k4 := k4.nw (j := 5) x5 hb5
  generalize own1 own b5 5 = ow at *
  refine ptrP_mk (k4.st (by simp) fun g2 F2 k4 => ?_)
  simp only [List.set] at k4
  have p := p.fm F2 (by simp <;> omega)
  have k5 := k5.fm F2 (by simp <;> omega)
  have Ft := Ft.trans (F2.mono (by simp))
  clear F2 S5 x5 hb5
  refine ptrP_mk (k4.rV rfl (ptrP_mk (p.k1.rI (j := 0) rfl (mk_ints 6 (by omega) (by omega) ?_))))
  intro b6 h7 hb6 x6 S6
  have k6 := S6 ow
  have Ft := Ft.trans (Fm.new (i := 6) x6 hb6)
  have p := p.nw (j := 6) x6 hb6
  have k4 := k4.nw (j := 6) x6 hb6
  have k5 := k5.nw (j := 6) x6 hb6
  generalize own1 ow b6 6 = ow at *
  refine ptrP_mk (k4.st (by simp) fun g2 F2 k4 => ?_)
  simp only [List.set] at k4
  have p := p.fm F2 (by simp <;> omega)
  have k5 := k5.fm F2 (by simp <;> omega)
  have k6 := k6.fm F2 (by simp <;> omega)
  have Ft := Ft.trans (F2.mono (by simp))
  clear F2 S6 x6 hb6
  simp only [Int.toNat_natCast] at *
  generalize (Value.slice (some (bk b5)) (l + wd) (l + wd)) = lv at *
  generalize (Value.slice (some (bk b6)) (l + wd) (l + wd)) = nv at *
  refine ptrP_mk (k4.rV rfl (k5.len (ints_length _ _) fun _ _ => ?_))
  let lv0 : Nat → Int := fun c => if c < l ∧ by_ c < 0 then 0 else -1
  let I : (Value × Int × Unit) → H → Nat → Prop := fun s g z => ∃ (j : Nat) (ow : Own) (Q : List Nat), s.2.1 = j ∧ j ≤ l + wd ∧ z = l + wd - j ∧ Fm [4, 5, 6, 7] own h ow g ∧ Pr h0 ow g bp l wd m es gv vo vy outs by_ ∧ B1 ow g 4 bx [.pointer (some (bk bp)), lv, nv] ∧
    S1 ow g 5 lv (ints (l + wd) fun c => if c < j then lv0 c else 0) ∧ S1 ow g 6 nv (ints (l + wd) fun _ => 0) ∧ S1 ow g 7 s.1 (natV Q) ∧ Q.Nodup ∧ ∀ v, v ∈ Q ↔ v < j ∧ v < l ∧ by_ v < 0
  refine ⟨fun p q => ∃ k, I p q k, rk I, rk_wf I, ⟨_, 0, ow, [], rfl, by omega, rfl, Ft, p, k4, k5.cg fun c _ => (if_neg (by omega)).symm, k6, S1.nil, List.nodup_nil, fun v => by simp⟩, ?_⟩
  clear p k4 k5 k6 Ft
  intro qv s g hI
  obtain ⟨j, ow, Q, e1, hj, hz, Ft, p, k4, k5, k6, k7, hnd, hQ⟩ := mu_spec hI
  generalize hkk : mu I ((qv, s, ()), g) = km at *
  change s = (j : Int) at e1
  subst e1
  change S1 ow g 7 qv _ at k7
  have hlt : j < l + wd → l + wd - (j + 1) < mu I ((qv, (j : Int), ()), g) := fun h => by rw [hkk, hz]; exact sub_dec h
  clear hI
  have hQl : Q.length ≤ l := short hnd fun v hv => ((hQ v).1 hv).2.1
  refine ifP_of (fun h1 => ?_) (fun h1 => ?_)
  · have hjn : j < l + wd := by have := of_decide_eq_true h1; omega
    rw [i64_inc (by omega)]
    refine ptrP_mk (k4.rV rfl (k5.setI hjn fun g1 F1 k5 => ?_))
    have p := p.fm F1 (by simp <;> omega)
    have k4 := k4.fm F1 (by simp <;> omega)
    have k6 := k6.fm F1 (by simp <;> omega)
    have k7 := k7.fm F1 (by simp <;> omega)
    have Ft := Ft.trans (F1.mono (by simp))
    have keep : lv0 j = -1 → I (qv, ((j + 1 : Nat) : Int), ()) g1 (l + wd - (j + 1)) := fun e => by
      refine ⟨j + 1, ow, Q, rfl, hjn, rfl, Ft, p, k4, k5.cg fun c _ => upd_to (g := lv0) (f := fun _ => 0) e.symm c, k6, k7, hnd, fun v => ?_⟩
      rw [hQ v]
      constructor
      · rintro ⟨a, b, c⟩; exact ⟨by omega, b, c⟩
      · rintro ⟨a, b, c⟩
        refine ⟨?_, b, c⟩
        by_cases e2 : v = j
        · subst e2
          have : lv0 v = 0 := if_pos ⟨b, c⟩
          omega
        · omega
    refine ptrP_mk (k4.rV rfl (ptrP_mk (p.k1.rI rfl (ifP_of (fun h2 => ?_) (fun h2 => ?_)))))
    · have h2 : j < l := by have := of_decide_eq_true h2; omega
      refine ptrP_mk (k4.rV rfl (ptrP_mk (p.k1.rV rfl (p.k3.rdI hjn (ifP_of (fun h3 => ?_) (fun h3 => ?_))))))
      · have h3 := of_decide_eq_true h3
        have e0 : lv0 j = 0 := if_pos ⟨h2, h3⟩
        refine ptrP_mk (k4.rV rfl (k5.setI hjn fun g2 F2 k5 => ?_))
        have p := p.fm F2 (by simp <;> omega)
        have k4 := k4.fm F2 (by simp <;> omega)
        have k6 := k6.fm F2 (by simp <;> omega)
        have k7 := k7.fm F2 (by simp <;> omega)
        have Ft := Ft.trans (F2.mono (by simp))
        refine k7.push (l := 1) rfl (by simp [Value.oneCell']) (by simp) (by omega) (by rw [natV_length]; omega) ?_
        intro _ _ qv2 ow2 g3 _ _ F3 k7
        have p := p.fm F3 (by simp <;> omega)
        have k4 := k4.fm F3 (by simp <;> omega)
        have k5 := k5.fm F3 (by simp <;> omega)
        have k6 := k6.fm F3 (by simp <;> omega)
        refine mu_next (I := I) (k := l + wd - (j + 1)) ⟨j + 1, ow2, Q ++ [j], rfl, hjn, rfl, Ft.trans (F3.mono (by simp)), p, k4, k5.cg fun c _ => ?_, k6, by simpa [natV] using k7, ?_, fun v => ?_⟩ (hlt hjn)
        · unfold upd
          by_cases e : c = j
          · subst e; rw [if_pos rfl, if_pos (by omega), e0]
          · rw [if_neg e, if_neg e]
            show (if c < j then lv0 c else 0) = _
            by_cases e2 : c < j
            · rw [if_pos e2, if_pos (by omega)]
            · rw [if_neg e2, if_neg (by omega)]
        · rw [List.nodup_append]
          exact ⟨hnd, by simp, fun a ha b hb => by
            rw [List.mem_singleton] at hb
            have := ((hQ a).1 ha).1
            omega⟩
        · rw [List.mem_append, List.mem_singleton, hQ v]
          constructor
          · rintro (⟨a, b, c⟩ | rfl)
            · exact ⟨by omega, b, c⟩
            · exact ⟨by omega, h2, h3⟩
          · rintro ⟨a, b, c⟩
            by_cases e : v = j
            · exact .inr e
            · exact .inl ⟨by omega, b, c⟩
      · have h3 := of_decide_eq_false h3
        exact mu_next (I := I) (keep (if_neg (by omega))) (hlt hjn)
    · have h2 : ¬ j < l := by have := of_decide_eq_false h2; omega
      exact mu_next (I := I) (keep (if_neg (by omega))) (hlt hjn)
  have hjn : j = l + wd := by have := of_decide_eq_false h1; omega
  have k5 : S1 ow g 5 lv (ints (l + wd) lv0) := k5.cg fun c hc => if_pos (by omega)
  have neg : ∀ v, v < l → (by_ v < 0 ↔ by_ v = -1) := fun v hv => by
    rcases G.ml v hv with h | ⟨i, _, h, _⟩ <;> omega
  have L0 : LbI l wd m es by_ lv0 false Q 0 0 := by
    refine ⟨hnd, fun v hv => ((hQ v).1 hv).2.1, fun v hv => ?_, fun v hv => ?_, fun i hi => ?_, fun v hv hb => ?_, fun v hv h => ?_, fun v hv h => ?_, fun i hi h => ?_, fun h => (by cases h)⟩
    · rw [hQ v]
      show _ ↔ 0 ≤ (if v < l ∧ by_ v < 0 then (0 : Int) else -1)
      by_cases e : v < l ∧ by_ v < 0
      · rw [if_pos e]; exact ⟨fun _ => by omega, fun _ => ⟨by omega, e⟩⟩
      · rw [if_neg e]; exact ⟨fun h => absurd h.2 e, fun h => by omega⟩
    · show -1 ≤ (if v < l ∧ by_ v < 0 then (0 : Int) else -1)
      split <;> omega
    · show (if _ then (0 : Int) else -1) ≤ _
      split <;> omega
    · exact if_pos ⟨hv, (neg v hv).2 hb⟩
    · apply Classical.byContradiction
      intro hn
      have : lv0 v = -1 := if_neg fun e => hn ((neg v hv).1 e.2)
      omega
    · have : lv0 v ≤ 0 := by show (if _ then (0 : Int) else -1) ≤ _; split <;> omega
      omega
    · rcases h with ⟨q, _, h, _⟩ | ⟨_, _, h⟩
      · omega
      · simp at h
  clear hlt hkk hz h1 hj hQ hnd
  let I2 : (Value × Bool × Int × Unit) → H → Nat → Prop := fun s g z => ∃ (j : Nat) (ow : Own) (Q : List Nat) (lev : Nat → Int), s.2.2.1 = j ∧ j ≤ Q.length ∧ z = l - j ∧ Fm [4, 5, 6, 7] own h ow g ∧ Pr h0 ow g bp l wd m es gv vo vy outs by_ ∧ B1 ow g 4 bx [.pointer (some (bk bp)), lv, nv] ∧
    S1 ow g 5 lv (ints (l + wd) lev) ∧ S1 ow g 6 nv (ints (l + wd) fun _ => 0) ∧ S1 ow g 7 s.1 (natV Q) ∧ LbI l wd m es by_ lev s.2.1 Q j 0
  refine ⟨fun p q => ∃ k, I2 p q k, rk I2, rk_wf I2, ⟨_, 0, ow, Q, lv0, rfl, by omega, rfl, Ft, p, k4, k5, k6, k7, L0⟩, ?_⟩
  clear p k4 k5 k6 k7 Ft L0 hQl
  intro qv fnd s g hI
  obtain ⟨j, ow, Q, lev, e1, hj, hz, Ft, p, k4, k5, k6, k7, Lb⟩ := mu_spec hI
  generalize hkk : mu I2 ((qv, fnd, s, ()), g) = km at *
  change s = (j : Int) at e1
  subst e1
  change S1 ow g 7 qv _ at k7
  change LbI l wd m es by_ lev fnd Q j 0 at Lb
  have hQl : Q.length ≤ l := short Lb.nd Lb.lt
  have hlt : j < l → l - (j + 1) < mu I2 ((qv, fnd, (j : Int), ()), g) := fun h => by rw [hkk, hz]; exact sub_dec h
  clear hI
  refine k7.len (natV_length _) fun _ _ => ifP_of (fun h1 => ?_) (fun h1 => ?_)
  rotate_left
  · have hjl : j = Q.length := by have := of_decide_eq_false h1; omega
    exact ⟨ow, lv, nv, lev, fnd, rfl, Ft, p, k4, k5, k6, Lb.done hjl sd.sd⟩
  have hjl : j < Q.length := by have := of_decide_eq_true h1; omega
  obtain ⟨v, hv⟩ : ∃ v, Q[j] = v := ⟨_, rfl⟩
  have hvl : v < l := by rw [← hv]; exact Lb.lt _ (List.getElem_mem hjl)
  have ol := outL_len (es := es) (v := v) (m := m)
  refine k7.rd (natV_get hjl) ?_
  rw [hv]
  refine ptrP_mk (k4.rV rfl (ptrP_mk (p.k1.rV rfl (p.k2.rdV hvl ((p.ko v hvl).len (natV_length _) fun _ _ => ?_)))))
  let I3 : (Value × Bool × Int × Unit) → H → Nat → Prop := fun s g z => ∃ (c : Nat) (ow : Own) (Q : List Nat) (lev : Nat → Int), s.2.2.1 = c ∧ c ≤ (outL es m v).length ∧ z = (outL es m v).length - c ∧ (∃ hj : j < Q.length, Q[j] = v) ∧ Fm [4, 5, 6, 7] own h ow g ∧ Pr h0 ow g bp l wd m es gv vo vy outs by_ ∧
    B1 ow g 4 bx [.pointer (some (bk bp)), lv, nv] ∧ S1 ow g 5 lv (ints (l + wd) lev) ∧ S1 ow g 6 nv (ints (l + wd) fun _ => 0) ∧ S1 ow g 7 s.1 (natV Q) ∧ LbI l wd m es by_ lev s.2.1 Q j c
  refine ⟨fun p q => ∃ k, I3 p q k, rk I3, rk_wf I3, ⟨_, 0, ow, Q, lev, rfl, by omega, rfl, ⟨hjl, hv⟩, Ft, p, k4, k5, k6, k7, Lb⟩, ?_⟩
  have hjl0 : j < l := by omega
  clear p k4 k5 k6 k7 Ft Lb hQl hv hj
  have hltj := hlt
  clear hlt
  intro qv3 fnd3 s g3 hI
  obtain ⟨c, ow, Q, lev, e1, hc, hz3, ⟨hjl, hv⟩, Ft, p, k4, k5, k6, k7, Lb⟩ := mu_spec hI
  generalize hkk3 : mu I3 ((qv3, fnd3, s, ()), g3) = km3 at *
  change s = (c : Int) at e1
  subst e1
  change S1 ow g3 7 qv3 _ at k7
  change LbI l wd m es by_ lev fnd3 Q j c at Lb
  have hQl : Q.length ≤ l := short Lb.nd Lb.lt
  have hlt : c < (outL es m v).length → (outL es m v).length - (c + 1) < mu I3 ((qv3, fnd3, (c : Int), ()), g3) := fun h => by rw [hkk3, hz3]; exact sub_dec h
  clear hI
  refine ifP_of (fun h2 => ?_) (fun h2 => ?_)
  rotate_left
  · have hcl : c = (outL es m v).length := by have := of_decide_eq_false h2; omega
    rw [show IntKind.i64.wrap ((j : Int) + 1) = ((j + 1 : Nat) : Int) from i64_inc (by omega)]
    exact mu_next (I := I2) (k := l - (j + 1)) ⟨j + 1, ow, Q, lev, rfl, hjl, rfl, Ft, p, k4, k5, k6, k7, Lb.nextv hjl (by rw [hv]; exact hcl)⟩ (hltj hjl0)
  have hcl : c < (outL es m v).length := by have := of_decide_eq_true h2; omega
  have hcl' : c < (outL es m Q[j]).length := by rw [hv]; exact hcl
  have eo : (outL es m Q[j])[c] = (outL es m v)[c] := by congr 1; rw [hv]
  have ho := outL_mem.1 (List.getElem_mem hcl)
  obtain ⟨s1, s2, s3⟩ := sd.sd _ ho.1
  have l0 := (Lb.on v hvl).1 (by rw [← hv]; exact List.getElem_mem hjl)
  have l1 : lev v ≤ j := by have := Lb.ix j hjl; rwa [hv] at this
  refine (p.ko v hvl).rd (natV_get hcl) (ptrP_mk (ptrP_mk (k4.rV rfl (ptrP_mk (p.k1.rV rfl (k4.rV rfl ((oth_T p sd ho.1 (.inl ⟨ho.2.symm, rfl⟩)).mono ?_)))))))
  rintro _ _ ⟨rfl, rfl⟩
  refine rt_ret ⟨_, rfl, sameAt_b1 (j := 4) p.k1 p.k1, sameAt_b1 (j := 0) k4 k4, p.k3.rdI s3 ?_⟩
  rw [i64_inc (by omega)]
  refine ifP_of (fun h3 => ?_) (fun h3 => ?_)
  · have h3 := of_decide_eq_true h3
    have hb : by_ (rtE es (outL es m v)[c]) = -1 := by
      rcases G.mr _ s2 s3 (by omega) with h | ⟨k, _, h, _⟩
      · exact h
      · omega
    exact mu_next (I := I3) (k := (outL es m v).length - (c + 1)) ⟨c + 1, ow, Q, lev, rfl, hcl, rfl, ⟨hjl, hv⟩, Ft, p, k4, k5, k6, k7, Lb.found_ hjl hcl' (by rw [eo]; exact hb)⟩ (hlt hcl)
  have h3 := of_decide_eq_false h3
  rcases G.mr _ s2 s3 (by omega) with h | ⟨k, hk, hb, hr, hl⟩
  · omega
  obtain ⟨t1, t2, t3⟩ := sd.sd k hk
  rw [hb]
  refine ptrP_mk (ptrP_mk (k4.rV rfl (k4.rV rfl ((oth_T p sd ho.1 (.inl ⟨ho.2.symm, rfl⟩)).mono ?_))))
  rintro _ _ ⟨rfl, rfl⟩
  refine rt_ret ⟨_, rfl, sameAt_b1 (j := 0) k4 k4, (oth_T p sd hk (.inr ⟨hr.symm, rfl⟩)).mono ?_⟩
  rintro _ _ ⟨rfl, rfl⟩
  refine rt_ret ⟨_, rfl, ptrP_mk (k4.rV rfl (k5.rdI (by omega) (ifP_of (fun h4 => ?_) (fun h4 => ?_))))⟩
  · have h4 := of_decide_eq_true h4
    refine ptrP_mk (ptrP_mk (k4.rV rfl (k4.rV rfl (k5.rdI (by omega) ?_))))
    rw [show IntKind.i64.wrap (lev v + 1) = lev v + 1 from w64_in (by omega) (by omega)]
    refine k5.setI (by omega) fun g4 F4 k5 => ?_
    have p := p.fm F4 (by simp <;> omega)
    have k4 := k4.fm F4 (by simp <;> omega)
    have k6 := k6.fm F4 (by simp <;> omega)
    have k7 := k7.fm F4 (by simp <;> omega)
    have Ft := Ft.trans (F4.mono (by simp))
    refine k7.push (l := 1) rfl (by simp [Value.oneCell']) (by simp) (by omega) (by rw [natV_length]; omega) ?_
    intro _ _ qv5 ow5 g5 _ _ F5 k7
    have p := p.fm F5 (by simp <;> omega)
    have k4 := k4.fm F5 (by simp <;> omega)
    have k5 := k5.fm F5 (by simp <;> omega)
    have k6 := k6.fm F5 (by simp <;> omega)
    have Lb2 := Lb.push hjl hcl' hk t1 (by rw [eo]; exact hb) (by omega) (by omega)
    rw [hv] at Lb2
    refine mu_next (I := I3) (k := (outL es m v).length - (c + 1)) ⟨c + 1, ow5, Q ++ [lfE es k], _, rfl, hcl, rfl, ⟨by rw [List.length_append]; omega, by rw [List.getElem_append_left hjl]; exact hv⟩, Ft.trans (F5.mono (by simp)), p, k4, k5, k6, by simpa [natV] using k7, Lb2⟩ (hlt hcl)
  · have h4 := of_decide_eq_false h4
    exact mu_next (I := I3) (k := (outL es m v).length - (c + 1)) ⟨c + 1, ow, Q, lev, rfl, hcl, rfl, ⟨hjl, hv⟩, Ft, p, k4, k5, k6, k7, Lb.skip hjl hcl' hk (by rw [eo]; exact hb) (by omega)⟩ (hlt hcl)
theorem along_T' (sd : Sd l wd m es) {lv nv : Value} {L0 : Nat → Int} (hL0 : ∀ u, u < l → -1 ≤ L0 u ∧ L0 u ≤ (l : Int)) : ∀ (z : Nat) {own : Own} {h : H} {by_ lev nxt : Nat → Int} {v : Nat}, (l : Int) - L0 v < (z : Int) → Pr h0 own h bp l wd m es gv vo vy outs by_ →
    B1 own h 4 bx [.pointer (some (bk bp)), lv, nv] → S1 own h 5 lv (ints (l + wd) lev) → S1 own h 6 nv (ints (l + wd) nxt) → BmP l wd m es (l + wd) by_ → v < l → 0 ≤ L0 v → lev v = L0 v → (∀ u, u < l → lev u = L0 u ∨ lev u = -1) →
    (∀ u, u < l → 0 ≤ nxt u ∧ nxt u ≤ (outL es m u).length) →
    T Tryz.prog F.bimatch_phases_along [.pointer (some (bk bx)), .int .i64 (v : Nat)] h fun r h' => ∃ (b : Bool) (by' lev' nxt' : Nat → Int), r = .ret (.bool b) ∧ Fm [3, 5, 6] own h own h' ∧ Pr h0 own h' bp l wd m es gv vo vy outs by' ∧ B1 own h' 4 bx [.pointer (some (bk bp)), lv, nv] ∧
      S1 own h' 5 lv (ints (l + wd) lev') ∧ S1 own h' 6 nv (ints (l + wd) nxt') ∧ AgR l wd m es L0 by_ lev nxt by' lev' nxt' v b := by
  have n1 := sd.gd.n1
  have m1 := sd.gd.m1
  intro z
  induction z with
  | zero =>
    intro own h by_ lev nxt v hz p k4 k5 k6 G hv
    have := hL0 v hv
    omega
  | succ z ih =>
    intro own h by_ lev nxt v hz p k4 k5 k6 G hv hv0 hlv hL hN
    have ol := outL_len (es := es) (v := v) (m := m)
    have Lv := hL0 v hv
    refine E_bimatch_phases_along ?_
    unfold B_bimatch_phases_along
    let I : Unit → H → Nat → Prop := fun _ g zz => ∃ (lev1 nxt1 : Nat → Int), zz = (outL es m v).length - (nxt1 v).toNat ∧ Fm [3, 5, 6] own h own g ∧ Pr h0 own g bp l wd m es gv vo vy outs by_ ∧ B1 own g 4 bx [.pointer (some (bk bp)), lv, nv] ∧
      S1 own g 5 lv (ints (l + wd) lev1) ∧ S1 own g 6 nv (ints (l + wd) nxt1) ∧ AlI l m es L0 by_ lev nxt lev1 nxt1 v
    refine ⟨fun p q => ∃ k, I p q k, rk I, rk_wf I, ⟨_, lev, nxt, rfl, Fm.refl, p, k4, k5, k6, AlI.start hN⟩, ?_⟩
    clear p k4 k5 k6
    intro g hI
    obtain ⟨lev1, nxt1, hzz, Ft, p, k4, k5, k6, A⟩ := mu_spec hI
    generalize hkk : mu I ((), g) = km at *
    clear hI
    obtain ⟨n0, n2⟩ := A.nx v hv
    have ev := A.me
    refine ptrP_mk (ptrP_mk (k4.rV rfl (k6.rdI (by omega) (k4.rV rfl (ptrP_mk (p.k1.rV rfl (p.k2.rdV hv ((p.ko v hv).len (natV_length _) fun _ _ => ifP_of (fun h1 => ?_) (fun h1 => ?_)))))))))
    rotate_left
    · have h1 := of_decide_eq_false h1
      refine ptrP_mk (k4.rV rfl (k5.setI (by omega) fun g2 F2 k5 => ?_))
      have p := p.fm F2 (by simp <;> omega)
      have k4 := k4.fm F2 (by simp <;> omega)
      have k6 := k6.fm F2 (by simp <;> omega)
      exact ⟨false, by_, _, nxt1, rfl, Ft.trans (F2.mono (by simp)), p, k4, k5, k6, A.none (by omega) hv sd.sd⟩
    have h1 := of_decide_eq_true h1
    have hc : (nxt1 v).toNat < (outL es m v).length := by omega
    have en : nxt1 v = (((nxt1 v).toNat : Nat) : Int) := by omega
    have hltc : ∀ q : Int, q = nxt1 v + 1 → (outL es m v).length - q.toNat < mu I ((), g) := fun q hq => by rw [hkk, hzz]; omega
    have ho := outL_mem.1 (List.getElem_mem hc)
    obtain ⟨s1, s2, s3⟩ := sd.sd _ ho.1
    have ew : IntKind.i64.wrap (nxt1 v + 1) = nxt1 v + 1 := w64_in (by omega) (by omega)
    refine ptrP_mk (ptrP_mk (k4.rV rfl (ptrP_mk (p.k1.rV rfl (p.k2.rdV hv (k4.rV rfl (k6.rdI (by omega) ?_)))))))
    rw [en]
    refine (p.ko v hv).rd (natV_get hc) (ptrP_mk (ptrP_mk (k4.rV rfl (ptrP_mk (p.k1.rV rfl (k4.rV rfl ((oth_T p sd ho.1 (.inl ⟨ho.2.symm, rfl⟩)).mono ?_)))))))
    rintro _ _ ⟨rfl, rfl⟩
    refine rt_ret ⟨_, rfl, sameAt_b1 (j := 4) p.k1 p.k1, sameAt_b1 (j := 0) k4 k4, p.k3.rdI s3 ?_⟩
    refine ⟨fun _ g' => ∃ (by1 lev2 nxt2 : Nat → Int), Fm [3, 5, 6] own h own g' ∧ Pr h0 own g' bp l wd m es gv vo vy outs by1 ∧ B1 own g' 4 bx [.pointer (some (bk bp)), lv, nv] ∧ S1 own g' 5 lv (ints (l + wd) lev2) ∧ S1 own g' 6 nv (ints (l + wd) nxt2) ∧
      AgR l wd m es L0 by_ lev nxt (tkE es by1 (outL es m v)[(nxt1 v).toNat]) lev2 nxt2 v true, ?_, ?_⟩
    rotate_left
    · rintro g' ⟨by1, lev2, nxt2, Ft, p, k4, k5, k6, R⟩
      refine ptrP_mk (k4.rV rfl ((ptake_T p sd ho.1).mono ?_))
      rintro _ g2 ⟨rfl, F2, p⟩
      have k4 := k4.fm F2 (by simp <;> omega)
      have k5 := k5.fm F2 (by simp <;> omega)
      have k6 := k6.fm F2 (by simp <;> omega)
      exact rt_ret ⟨rfl, true, _, lev2, nxt2, rfl, Ft.trans (F2.mono (by simp)), p, k4, k5, k6, R⟩
    refine ifP_of (fun h2 => ?_) (fun h2 => ?_)
    rotate_left
    · have h2 := of_decide_eq_false h2
      have hb : by_ (rtE es (outL es m v)[(nxt1 v).toNat]) = -1 := by
        rcases G.mr _ s2 s3 (by omega) with h | ⟨k, _, h, _⟩
        · exact h
        · omega
      exact ⟨by_, lev1, nxt1, Ft, p, k4, k5, k6, A.direct G sd.sd ho.1 ho.2 hb⟩
    have h2 := of_decide_eq_true h2
    rcases G.mr _ s2 s3 (by omega) with h | ⟨k, hk, hb, hr, hl⟩
    · omega
    obtain ⟨t1, t2, t3⟩ := sd.sd k hk
    rw [hb]
    refine ptrP_mk (ptrP_mk (k4.rV rfl (k4.rV rfl ((oth_T p sd ho.1 (.inl ⟨ho.2.symm, rfl⟩)).mono ?_))))
    rintro _ _ ⟨rfl, rfl⟩
    refine rt_ret ⟨_, rfl, sameAt_b1 (j := 0) k4 k4, (oth_T p sd hk (.inr ⟨hr.symm, rfl⟩)).mono ?_⟩
    rintro _ _ ⟨rfl, rfl⟩
    refine rt_ret ⟨_, rfl, ptrP_mk (ptrP_mk (k4.rV rfl (k5.rdI (by omega) (k4.rV rfl (k5.rdI (by omega) ?_)))))⟩
    rw [show IntKind.i64.wrap (lev1 v + 1) = lev1 v + 1 from w64_in (by omega) (by omega)]
    have lu : lev1 (lfE es k) = L0 (lfE es k) ∨ lev1 (lfE es k) = -1 := by
      rcases A.lv _ t1 with h | h
      · rw [h]; exact hL _ t1
      · exact .inr h
    refine ifP_of (fun h3 => ?_) (fun h3 => ?_)
    · have h3 : ¬ lev1 (lfE es k) = lev1 v + 1 := by simpa using h3
      refine ptrP_mk (k4.rV rfl (k6.rdI (by omega) (k6.setI (by omega) fun g2 F2 k6 => ?_)))
      have p := p.fm F2 (by simp <;> omega)
      have k4 := k4.fm F2 (by simp <;> omega)
      have k5 := k5.fm F2 (by simp <;> omega)
      rw [ew] at k6
      refine mu_next (I := I) ⟨lev1, _, rfl, Ft.trans (F2.mono (by simp)), p, k4, k5, k6, A.step hv hc n0 (fun u _ => .inl rfl) rfl A.nx (fun u _ _ => ⟨rfl, rfl⟩) (fun h => h) ⟨k, hk, hb, ?_⟩⟩ (hltc _ upd_at)
      rw [ho.2]
      rcases lu with h | h
      · exact .inl (by omega)
      · exact .inr h
    have h3 : lev1 (lfE es k) = lev1 v + 1 := by simpa using h3
    have hLu : L0 (lfE es k) = L0 v + 1 := by omega
    have hne : v ≠ lfE es k := by intro e; rw [← e] at hLu; omega
    refine (ih (by omega) p k4 k5 k6 G t1 (by omega) (by omega) (fun u hu => ?_) A.nx).mono ?_
    · rcases A.lv u hu with h | h
      · rw [h]; exact hL u hu
      · exact .inr h
    rintro _ g3 ⟨b, by', lev2, nxt2, rfl, F3, p, k4, k5, k6, R⟩
    have Ft := Ft.trans F3
    refine rt_ret ⟨_, rfl, ifP_of (fun h4 => ?_) (fun h4 => ?_)⟩
    · have h4 : b = false := by simpa using h4
      subst h4
      obtain ⟨eb, r1, r2⟩ := R.no rfl
      rw [eb] at p
      have lo := R.lo v hv (by omega) hne
      refine ptrP_mk (k4.rV rfl (k6.rdI (by omega) (k6.setI (by omega) fun g4 F4 k6 => ?_)))
      have p := p.fm F4 (by simp <;> omega)
      have k4 := k4.fm F4 (by simp <;> omega)
      have k5 := k5.fm F4 (by simp <;> omega)
      rw [lo.2, ew] at k6
      exact mu_next (I := I) ⟨lev2, _, rfl, Ft.trans (F4.mono (by simp)), p, k4, k5, k6, A.step hv hc n0 R.lv lo.1 R.nx (fun u hu h => R.lo u hu (by omega) (by rintro rfl; omega)) r2 ⟨k, hk, hb, .inr r1⟩⟩ (hltc _ upd_at)
    · have h4 : b = true := by simpa using h4
      subst h4
      exact ⟨by', lev2, nxt2, Ft, p, k4, k5, k6, A.through G sd.sd ho.1 ho.2 hk hb hr hl hLu R⟩
theorem phases_T (sd : Sd l wd m es) {lv nv : Value} (p : Pr h0 own h bp l wd m es gv vo vy outs fun _ => -1) (k4 : B1 own h 4 bx [.pointer (some (bk bp)), lv, nv]) :
    T Tryz.prog F.bimatch_phases_match [.pointer (some (bk bx))] h fun r h' => ∃ (own' : Own) (by' : Nat → Int), r = .ret (.tuple ⟨[]⟩) ∧ Fm [3, 4, 5, 6, 7] own h own' h' ∧ Pr h0 own' h' bp l wd m es gv vo vy outs by' ∧ MxP l wd m es by' := by
  have n1 := sd.gd.n1
  refine E_bimatch_phases_match ?_
  unfold B_bimatch_phases_match
  let I : Unit → H → Nat → Prop := fun _ g z => ∃ (ow : Own) (lv nv : Value) (by_ : Nat → Int), z = (unM by_ l).toNat ∧ Fm [3, 4, 5, 6, 7] own h ow g ∧ Pr h0 ow g bp l wd m es gv vo vy outs by_ ∧ B1 ow g 4 bx [.pointer (some (bk bp)), lv, nv] ∧ BmP l wd m es (l + wd) by_
  refine ⟨fun p q => ∃ k, I p q k, rk I, rk_wf I, ⟨_, own, lv, nv, _, rfl, Fm.refl, p, k4, BmP.zero⟩, ?_⟩
  clear p k4
  intro g hI
  obtain ⟨ow, lv, nv, by_, hz, Ft, p, k4, G⟩ := mu_spec hI
  generalize hkk : mu I ((), g) = km at *
  clear hI
  have u0 := unM_nn (by_ := by_) (l := l)
  refine (layer_T sd p k4 G).mono ?_
  rintro _ g1 ⟨ow, lv, nv, L0, fnd, rfl, F1, p, k4, k5, k6, Y⟩
  have Ft := Ft.trans (F1.mono (by simp))
  clear F1
  refine rt_ret ⟨_, rfl, ifP_of (fun h1 => ?_) (fun h1 => ?_)⟩
  rotate_left
  · subst h1
    exact ⟨ow, by_, rfl, Ft, p, Y.max G sd.sd⟩
  subst h1
  refine ptrP_mk (k4.rV rfl (ptrP_mk (p.k1.rI rfl ?_)))
  let I2 : (Int × Unit) → H → Nat → Prop := fun s g z => ∃ (j : Nat) (by1 lev nxt : Nat → Int), s.1 = j ∧ j ≤ l ∧ z = l - j ∧ Fm [3, 4, 5, 6, 7] own h ow g ∧ Pr h0 ow g bp l wd m es gv vo vy outs by1 ∧ B1 ow g 4 bx [.pointer (some (bk bp)), lv, nv] ∧
    S1 ow g 5 lv (ints (l + wd) lev) ∧ S1 ow g 6 nv (ints (l + wd) nxt) ∧ BmP l wd m es (l + wd) by1 ∧ (∀ u, u < l → lev u = L0 u ∨ lev u = -1) ∧ (∀ u, u < l → 0 ≤ nxt u ∧ nxt u ≤ (outL es m u).length) ∧
    (∀ u, j ≤ u → u < l → L0 u = 0 → lev u = 0) ∧ (∀ u, u < l → by1 u = -1 → by_ u = -1) ∧ ((by1 = by_ ∧ DdE l m es by_ L0 lev nxt ∧ ∀ u, u < j → L0 u = 0 → lev u = -1) ∨ unM by1 l < unM by_ l)
  refine ⟨fun p q => ∃ k, I2 p q k, rk I2, rk_wf I2, ⟨_, 0, by_, L0, _, rfl, by omega, rfl, Ft, p, k4, k5, k6, G, fun u _ => .inl rfl, fun u _ => ⟨Int.le_refl _, by omega⟩, fun u _ _ h => h, fun u _ h => h, .inl ⟨rfl, ⟨fun i _ a b => by omega, fun u i _ hi => by simp at hi⟩, fun u hu => by omega⟩⟩, ?_⟩
  clear p k4 k5 k6 Ft
  intro s g2 hI
  obtain ⟨j, by1, lev, nxt, e1, hj, hz2, Ft, p, k4, k5, k6, G1, hL, hN, hR, hB, hD⟩ := mu_spec hI
  generalize hkk2 : mu I2 ((s, ()), g2) = km2 at *
  change s = (j : Int) at e1
  subst e1
  have hlt : j < l → l - (j + 1) < mu I2 (((j : Int), ()), g2) := fun h => by rw [hkk2, hz2]; exact sub_dec h
  clear hI
  refine ifP_of (fun h1 => ?_) (fun h1 => ?_)
  rotate_left
  · have hjl : j = l := by have := of_decide_eq_false h1; omega
    subst hjl
    rcases hD with ⟨_, D, d0⟩ | hlt
    · exact (Y.gain sd.sd D fun u hu h => d0 u hu h).elim
    · have := unM_nn (by_ := by1) (l := j)
      exact mu_next (I := I) ⟨ow, lv, nv, by1, rfl, Ft, p, k4, G1⟩ (by rw [hkk, hz]; omega)
  have hjl : j < l := by have := of_decide_eq_true h1; omega
  rw [i64_inc (by omega)]
  refine ptrP_mk (k4.rV rfl (ptrP_mk (p.k1.rV rfl (p.k3.rdI (by omega) (ifP_of (fun h2 => ?_) (fun h2 => ?_))))))
  rotate_left
  · have h2 := of_decide_eq_false h2
    refine mu_next (I := I2) (k := l - (j + 1)) ⟨j + 1, by1, lev, nxt, rfl, hjl, rfl, Ft, p, k4, k5, k6, G1, hL, hN, fun u h3 => hR u (by omega), hB, hD.imp (fun ⟨a, b, c⟩ => ⟨a, b, fun u hu h3 => ?_⟩) id⟩ (hlt hjl)
    by_cases e : u = j
    · subst e
      have := Y.z0 u hjl h3
      rw [a] at h2; omega
    · exact c u (by omega) h3
  have h2 := of_decide_eq_true h2
  have hb1 : by1 j = -1 := by
    rcases G1.ml j hjl with h | ⟨i, _, h, _⟩
    · exact h
    · omega
  have hLj := Y.rt j hjl (hB j hjl hb1)
  have hlj := hR j (Nat.le_refl _) hjl hLj
  refine (along_T' sd Y.ge (l + 1) (by omega) p k4 k5 k6 G1 hjl (by omega) (by omega) hL hN).mono ?_
  rintro _ g3 ⟨b, by2, lev2, nxt2, rfl, F3, p, k4, k5, k6, R⟩
  refine rt_ret ⟨_, rfl, ?_⟩
  have hL2 : ∀ u, u < l → lev2 u = L0 u ∨ lev2 u = -1 := fun u hu => by
    rcases R.lv u hu with h | h
    · rw [h]; exact hL u hu
    · exact .inr h
  have hR2 : ∀ u, j + 1 ≤ u → u < l → L0 u = 0 → lev2 u = 0 := fun u h3 h4 h5 => by
    rw [(R.lo u h4 (by omega) (by omega)).1]; exact hR u (by omega) h4 h5
  cases b with
  | true =>
    obtain ⟨x, hx, G2, y0, y1, _⟩ := R.yes rfl
    have ex : x = l + wd := by
      rcases hx with ⟨_, h⟩ | ⟨q, _, h, _⟩
      · exact h
      · omega
    subst ex
    have hB2 : ∀ u, u < l → by2 u = -1 → by1 u = -1 := fun u hu h => by
      by_cases e : u = j
      · subst e; exact hb1
      · exact (y1 u hu e).1 h
    have hd := unM_lt hB2 hjl hb1 (by omega)
    refine mu_next (I := I2) (k := l - (j + 1)) ⟨j + 1, by2, lev2, nxt2, rfl, hjl, rfl, Ft.trans (F3.mono (by simp)), p, k4, k5, k6, G2, hL2, R.nx, hR2, fun u hu h => hB u hu (hB2 u hu h), .inr ?_⟩ (hlt hjl)
    rcases hD with ⟨a, _⟩ | h
    · rw [a] at hd; exact hd
    · omega
  | false =>
    obtain ⟨eb, r1, r2⟩ := R.no rfl
    rw [eb] at p
    refine mu_next (I := I2) (k := l - (j + 1)) ⟨j + 1, by1, lev2, nxt2, rfl, hjl, rfl, Ft.trans (F3.mono (by simp)), p, k4, k5, k6, G1, hL2, R.nx, hR2, hB, hD.imp (fun ⟨a, b, c⟩ => ?_) id⟩ (hlt hjl)
    subst a
    refine ⟨rfl, r2 b, fun u hu h3 => ?_⟩
    by_cases e : u = j
    · subst e; exact r1
    · rw [(R.lo u (by omega) (by omega) e).1]; exact c u (by omega) h3
end

end Go.Proofs.YtdcamadeblojdaaGreat

namespace Go.Proofs.YtdcamadeblojdaaGreat
open Go
open Classical
set_option linter.unusedVariables false
set_option linter.unusedSimpArgs false
set_option maxHeartbeats 2000000

section
variable {h0 h h' : H} {own own' : Own} {M : List Nat} {bp bx l wd m : Nat} {es : Nat → Ed} {gv vo vy : Value} {outs : Nat → Value} {by_ : Nat → Int}
theorem cover_T (sd : Sd l wd m es) (p : Pr h0 own h bp l wd m es gv vo vy outs by_) (X : MxP l wd m es by_) :
    T Tryz.prog F.bimatch_pairs_cover [.pointer (some (bk bp))] h fun r h' => ∃ (own' : Own) (v : Value), r = .ret v ∧ Fm [8, 9, 10] own h own' h' := by
  have n1 := sd.gd.n1
  have m1 := sd.gd.m1
  obtain ⟨G, C, hC, hu⟩ := X
  have neg : ∀ v, v < l → by_ v < 0 → by_ v = -1 := fun v hv hb => by
    rcases G.ml v hv with h | ⟨i, _, h, _⟩ <;> omega
  refine E_bimatch_pairs_cover ?_
  unfold B_bimatch_pairs_cover
  refine ptrP_mk (p.k1.rI (j := 0) rfl (mk_bools 8 (by omega) (by omega) ?_))
  intro b3 h4 hb3 x3 S8
  have k8 := S8 own
  have Ft : Fm [8, 9, 10] own h (own1 own b3 8) h4 := Fm.new x3 hb3
  have p := p.nw (j := 8) x3 hb3
  generalize own1 own b3 8 = ow at *
  clear S8
  rw [Int.toNat_natCast]
  refine ptrP_mk (p.k1.rI rfl ?_)
  let I : (Value × Int × Unit) → H → Nat → Prop := fun s q z => ∃ (j : Nat) (ow : Own) (sn : Nat → Bool) (S : List Nat), s.2.1 = j ∧ j ≤ l ∧ z = l - j ∧ Fm [8, 9, 10] own h ow q ∧ Pr h0 ow q bp l wd m es gv vo vy outs by_ ∧ S1 ow q 8 (slV b3 (l + wd)) (bools (l + wd) sn) ∧ S1 ow q 9 s.1 (natV S) ∧
    (S.length : Int) + unm (l + wd) sn ≤ ((l + wd : Nat) : Int) ∧ (∀ v, j ≤ v → sn v = false) ∧ ∀ v, v ∈ S → v < l ∧ ∀ i, i < m → lfE es i = v → C (rtE es i)
  refine ⟨fun p q => ∃ k, I p q k, rk I, rk_wf I, ⟨_, 0, ow, _, [], rfl, by omega, rfl, Ft, p, k8, S1.nil, ?_, fun v _ => rfl, fun v hv => (by cases hv)⟩, ?_⟩
  · have := cntP_all (n := l + wd) (P := fun v => (fun _ => false) v = false)
    unfold unm; simpa using this
  clear p k8 Ft
  intro stk s q hI
  obtain ⟨j, ow, sn, S, e1, hj, hz, Ft, p, k8, k9, hlen, hsn, hS⟩ := mu_spec hI
  generalize hkk : mu I ((stk, s, ()), q) = km at *
  change s = (j : Int) at e1
  subst e1
  change S1 ow q 9 stk _ at k9
  have hlt : j < l → l - (j + 1) < mu I ((stk, (j : Int), ()), q) := fun h => by rw [hkk, hz]; exact sub_dec h
  clear hI
  have hun : 0 ≤ unm (l + wd) sn := cntP_nn
  refine ifP_of (fun h1 => ?_) (fun h1 => ?_)
  · have hjl : j < l := by have := of_decide_eq_true h1; omega
    refine ptrP_mk (p.k1.rV rfl (p.k3.rdI (by omega) ?_))
    rw [i64_inc (by omega)]
    refine ifP_of (fun h2 => ?_) (fun h2 => ?_)
    · have h2 := neg j hjl (of_decide_eq_true h2)
      have hu1 := unm_set (n := l + wd) (by omega) (hsn j (Nat.le_refl _))
      refine k8.setB (by omega) fun g F1 k8 => ?_
      have p := p.fm F1 (by simp <;> omega)
      have k9 := k9.fm F1 (by simp <;> omega)
      have Ft := Ft.trans (F1.mono (by simp))
      refine k9.push (l := 1) rfl (by simp [Value.oneCell']) (by simp) (by omega) (by rw [natV_length]; omega) ?_
      intro _ _ p' ow' q' _ _ F2 k9
      have p := p.fm F2 (by simp <;> omega)
      have k8 := k8.fm F2 (by simp <;> omega)
      refine mu_next (I := I) (k := l - (j + 1)) ⟨j + 1, ow', _, S ++ [j], rfl, hjl, rfl, Ft.trans (F2.mono (by simp)), p, k8, by simpa [natV] using k9, ?_, fun v hv => ?_, fun v hv => ?_⟩ (hlt hjl)
      · simp only [List.length_append, List.length_cons, List.length_nil]; omega
      · unfold updB; rw [if_neg (by omega)]; exact hsn v (by omega)
      · rcases List.mem_append.1 hv with hv | hv
        · exact hS v hv
        · rw [List.mem_singleton] at hv
          subst hv
          exact ⟨hjl, hu v hjl h2⟩
    · exact mu_next (I := I) (k := l - (j + 1)) ⟨j + 1, ow, sn, S, rfl, hjl, rfl, Ft, p, k8, k9, hlen, fun v hv => hsn v (by omega), hS⟩ (hlt hjl)
  clear hlt hkk hz h1 hj hsn
  let I2 : (Value × Unit) → H → Nat → Prop := fun s q z => ∃ (ow : Own) (sn : Nat → Bool) (S : List Nat), (z : Int) = 2 * unm (l + wd) sn + S.length ∧ Fm [8, 9, 10] own h ow q ∧ Pr h0 ow q bp l wd m es gv vo vy outs by_ ∧ S1 ow q 8 (slV b3 (l + wd)) (bools (l + wd) sn) ∧ S1 ow q 9 s.1 (natV S) ∧
    (S.length : Int) + unm (l + wd) sn ≤ ((l + wd : Nat) : Int) ∧ ∀ v, v ∈ S → v < l ∧ ∀ i, i < m → lfE es i = v → C (rtE es i)
  refine ⟨fun p q => ∃ k, I2 p q k, rk I2, rk_wf I2, ⟨(2 * unm (l + wd) sn + S.length).toNat, ow, sn, S, by omega, Ft, p, k8, k9, hlen, hS⟩, ?_⟩
  clear p k8 k9 Ft hlen hS hun
  intro stk q hI
  obtain ⟨ow, sn, S, hz, Ft, p, k8, k9, hlen, hS⟩ := mu_spec hI
  generalize hkk : mu I2 ((stk, ()), q) = km at *
  change S1 ow q 9 stk _ at k9
  clear hI
  refine k9.len (natV_length S) fun _ _ => ?_
  refine ifP_of (fun h1 => ?_) (fun h1 => ?_)
  rotate_left
  · -- what it comes to
    let I4 : (Value × Int × Unit) → H → Nat → Prop := fun s q z => ∃ (j : Nat) (ow : Own) (S : List Nat), s.2.1 = j ∧ j ≤ l + wd ∧ z = l + wd - j ∧ Fm [8, 9, 10] own h ow q ∧ Pr h0 ow q bp l wd m es gv vo vy outs by_ ∧ S1 ow q 8 (slV b3 (l + wd)) (bools (l + wd) sn) ∧ S1 ow q 10 s.1 (natV S) ∧ S.length ≤ j
    refine ⟨fun p q => ∃ k, I4 p q k, rk I4, rk_wf I4, ⟨_, 0, ow, [], rfl, by omega, rfl, Ft, p, k8, S1.nil, by simp⟩, ?_⟩
    clear p k8 k9 Ft
    intro ov s q hI
    obtain ⟨j, ow, S, e1, hj, hz4, Ft, p, k8, k10, hSj⟩ := mu_spec hI
    generalize hkk4 : mu I4 ((ov, s, ()), q) = km4 at *
    change s = (j : Int) at e1
    subst e1
    change S1 ow q 10 ov _ at k10
    have hlt : j < l + wd → l + wd - (j + 1) < mu I4 ((ov, (j : Int), ()), q) := fun h => by rw [hkk4, hz4]; exact sub_dec h
    clear hI
    refine ifP_of (fun h3 => ?_) (fun h3 => ⟨ow, ov, rfl, Ft⟩)
    have hjn : j < l + wd := by have := of_decide_eq_true h3; omega
    rw [i64_inc (by omega)]
    refine k8.rdB hjn (ptrP_mk (p.k1.rI rfl (ifP_of (fun h4 => ?_) (fun h4 => ?_))))
    · refine k10.push (l := 1) rfl (by simp [Value.oneCell']) (by simp) (by omega) (by rw [natV_length]; omega) ?_
      intro _ _ p' ow' q' _ _ F2 k10
      have p := p.fm F2 (by simp <;> omega)
      have k8 := k8.fm F2 (by simp <;> omega)
      exact mu_next (I := I4) (k := l + wd - (j + 1)) ⟨j + 1, ow', S ++ [j], rfl, hjn, rfl, Ft.trans (F2.mono (by simp)), p, k8, by simpa [natV] using k10, by simp; omega⟩ (hlt hjn)
    · exact mu_next (I := I4) (k := l + wd - (j + 1)) ⟨j + 1, ow, S, rfl, hjn, rfl, Ft, p, k8, k10, by omega⟩ (hlt hjn)
  obtain ⟨S', v, rfl⟩ : ∃ S' v, S = S' ++ [v] := by
    rcases List.eq_nil_or_concat S with e | ⟨u, z, e⟩
    · subst e; simp at h1
    · exact ⟨u, z, by simpa using e⟩
  obtain ⟨hvl, hvC⟩ := hS v (by simp)
  have eT : natV (S' ++ [v]) = natV S' ++ [.int .i64 (v : Nat)] := by simp [natV]
  rw [eT] at k9
  have kT0 := k9
  obtain ⟨bt, c, rfl, hc, kP⟩ := k9.pop
  have hl9 : (natV S').length = S'.length := natV_length _
  have hun : 0 ≤ unm (l + wd) sn := cntP_nn
  simp only [List.length_append, List.length_cons, List.length_nil] at hz hlen
  have ew : IntKind.i64.wrap ((((natV S').length + 1 : Nat) : Int) - 1) = (natV S').length := by
    rw [show ((((natV S').length + 1 : Nat) : Int) - 1) = (natV S').length by omega]; exact w64_in (by omega) (by omega)
  have ol := outL_len (es := es) (v := v) (m := m)
  refine slcP_mk ?_
  rw [ew]
  refine kT0.rd (j := (natV S').length) (x := (v : Nat)) (by simp) ?_
  refine slcP_mk (slcP_mk ?_)
  rw [ew]
  refine ⟨by omega, by omega, by omega, by omega, ptrP_mk (p.k1.rV rfl (p.k2.rdV hvl ((p.ko v hvl).len (natV_length _) fun _ _ => ?_)))⟩
  let I3 : (Value × Int × Unit) → H → Nat → Prop := fun s q z => ∃ (j : Nat) (ow : Own) (sn2 : Nat → Bool) (S : List Nat), s.2.1 = j ∧ j ≤ (outL es m v).length ∧ z = (outL es m v).length - j ∧ 2 * unm (l + wd) sn2 + S.length ≤ 2 * unm (l + wd) sn + S'.length ∧
    Fm [8, 9, 10] own h ow q ∧ Pr h0 ow q bp l wd m es gv vo vy outs by_ ∧ S1 ow q 8 (slV b3 (l + wd)) (bools (l + wd) sn2) ∧ S1 ow q 9 s.1 (natV S) ∧ (S.length : Int) + unm (l + wd) sn2 ≤ ((l + wd : Nat) : Int) ∧ ∀ v, v ∈ S → v < l ∧ ∀ i, i < m → lfE es i = v → C (rtE es i)
  refine ⟨fun p q => ∃ k, I3 p q k, rk I3, rk_wf I3, ⟨_, 0, ow, sn, S', rfl, by omega, rfl, by omega, Ft, p, k8, kP, by omega, fun w hw => hS w (by simp [hw])⟩, ?_⟩
  clear p k8 k9 kT0 kP Ft hS
  intro stk2 s q2 hI
  obtain ⟨j, ow, sn2, S, e1, hj, hz2, hle, Ft, p, k8, k9, hlen2, hS⟩ := mu_spec hI
  generalize hkk2 : mu I3 ((stk2, s, ()), q2) = km2 at *
  change s = (j : Int) at e1
  subst e1
  change S1 ow q2 9 stk2 _ at k9
  have hlt2 : j < (outL es m v).length → (outL es m v).length - (j + 1) < mu I3 ((stk2, (j : Int), ()), q2) := fun h => by rw [hkk2, hz2]; exact sub_dec h
  clear hI
  have hun2 : 0 ≤ unm (l + wd) sn2 := cntP_nn
  refine ifP_of (fun h3 => ?_) (fun h3 => ?_)
  rotate_left
  · have : j = (outL es m v).length := by have := of_decide_eq_false h3; omega
    exact mu_next (I := I2) (k := (2 * unm (l + wd) sn2 + S.length).toNat) ⟨ow, sn2, S, by omega, Ft, p, k8, k9, hlen2, hS⟩ (by omega)
  have hjl : j < (outL es m v).length := by have := of_decide_eq_true h3; omega
  have ho := outL_mem.1 (List.getElem_mem hjl)
  obtain ⟨s1, s2, s3⟩ := sd.sd _ ho.1
  refine (p.ko v hvl).rd (natV_get hjl) ((oth_T p sd ho.1 (.inl ⟨ho.2.symm, rfl⟩)).mono ?_)
  rintro _ _ ⟨rfl, rfl⟩
  rw [i64_inc (by omega)]
  refine rt_ret ⟨_, rfl, k8.rdB s3 (ifP_of (fun h4 => ?_) (fun h4 => ?_))⟩
  · exact mu_next (I := I3) (k := (outL es m v).length - (j + 1)) ⟨j + 1, ow, sn2, S, rfl, hjl, rfl, hle, Ft, p, k8, k9, hlen2, hS⟩ (hlt2 hjl)
  have hf : sn2 (rtE es (outL es m v)[j]) = false := by simpa using h4
  have hu1 := unm_set s3 hf
  obtain ⟨_, _, k, hk, hb, hr, hl, hkC⟩ := hC _ (hvC _ ho.1 ho.2)
  obtain ⟨t1, t2, t3⟩ := sd.sd k hk
  refine k8.setB s3 fun g1 F1 k8 => ?_
  have p := p.fm F1 (by simp <;> omega)
  have k9 := k9.fm F1 (by simp <;> omega)
  have Ft := Ft.trans (F1.mono (by simp))
  generalize updB sn2 (rtE es (outL es m v)[j]) true = sn3 at *
  have hun3 : 0 ≤ unm (l + wd) sn3 := cntP_nn
  refine ptrP_mk (p.k1.rV rfl (p.k3.rdI s3 ?_))
  rw [hb]
  refine (oth_T p sd hk (.inr ⟨hr.symm, rfl⟩)).mono ?_
  rintro _ _ ⟨rfl, rfl⟩
  refine rt_ret ⟨_, rfl, k8.rdB (by omega) (ifP_of (fun h5 => ?_) (fun h5 => ?_))⟩
  · have hf2 : sn3 (lfE es k) = false := by simpa using h5
    have hu2 := unm_set (n := l + wd) (by omega) hf2
    refine k8.setB (by omega) fun g2 F2 k8 => ?_
    have p := p.fm F2 (by simp <;> omega)
    have k9 := k9.fm F2 (by simp <;> omega)
    have Ft := Ft.trans (F2.mono (by simp))
    refine k9.push (l := 1) rfl (by simp [Value.oneCell']) (by simp) (by omega) (by rw [natV_length]; omega) ?_
    intro _ _ p' ow' q' _ _ F3 k9
    have p := p.fm F3 (by simp <;> omega)
    have k8 := k8.fm F3 (by simp <;> omega)
    refine mu_next (I := I3) (k := (outL es m v).length - (j + 1)) ⟨j + 1, ow', _, S ++ [lfE es k], rfl, hjl, rfl, ?_, Ft.trans (F3.mono (by simp)), p, k8, by simpa [natV] using k9, ?_, fun w hw => ?_⟩ (hlt2 hjl)
    · simp only [List.length_append, List.length_cons, List.length_nil]; omega
    · simp only [List.length_append, List.length_cons, List.length_nil]; omega
    · rcases List.mem_append.1 hw with hw | hw
      · exact hS w hw
      · rw [List.mem_singleton] at hw
        subst hw
        exact ⟨t1, hkC⟩
  · exact mu_next (I := I3) (k := (outL es m v).length - (j + 1)) ⟨j + 1, ow, sn3, S, rfl, hjl, rfl, by omega, Ft, p, k8, k9, by omega, hS⟩ (hlt2 hjl)
end

end Go.Proofs.YtdcamadeblojdaaGreat

namespace Go.Proofs.YtdcamadeblojdaaGreat
open Go
open Classical
set_option linter.unusedVariables false
set_option linter.unusedSimpArgs false
set_option maxHeartbeats 4000000

theorem methBs (a : Addr) (w : World) : (method (Tryz.prog.types.size + Made.depth) 82 (.pointer (some a)) "compass/bimatch.match").run Tryz.prog w = .ok (F.bimatch_simple_match, .pointer (some a)) w := by
  kernel_rfl
theorem methBp (a : Addr) (w : World) : (method (Tryz.prog.types.size + Made.depth) 85 (.pointer (some a)) "compass/bimatch.match").run Tryz.prog w = .ok (F.bimatch_phases_match, .pointer (some a)) w := by
  kernel_rfl
theorem S1.rdPre {own : Own} {h : H} {i b n l j c c' : Nat} {f : Nat → Int} {K : Int → Prop} (s : S1 own h i (.slice (some (bk b)) n c') (ints n f)) (hl : l ≤ n) (hj : j < l) (k : K (f j)) : ixS (.slice (some (bk b)) l c) (j : Int) 1 fun a => ldI h a .i64 K := by
  have := s.rdI (j := j) (K := fun x => x = f j) (by omega) rfl
  obtain ⟨_, _, x, e, rfl⟩ := this
  exact ⟨by omega, by omega, _, e, k⟩
/-- What bimatch.Solve comes to. -/
def SolBm (h : H) (n : Int) (m : Nat) (es : Nat → Ed) (left kind : Int) (r : Res) (h' : H) : Prop :=
  (codeA n m es left kind ≠ 0 ∧ r = .ret (.tuple ⟨[.slice none 0 0, .slice none 0 0, .int .i64 (codeA n m es left kind)]⟩) ∧ Ext h h') ∨
  (codeA n m es left kind = 0 ∧ ∃ (l wd : Nat) (own' : Own) (mv cv : Value) (L : List Nat) (pt : Nat → Int), left = l ∧ n = ((l + wd : Nat) : Int) ∧ Sd l wd m es ∧ (kind = 1 ∨ kind = 2) ∧ Bs h own' h' ∧
    S1 own' h' 12 mv (natV (sortL L)) ∧ MaR (l + wd) m l (onE es) L pt ∧ r = .ret (.tuple ⟨[mv, cv, .int .i64 0]⟩))
section
variable {h : H} {w : List Value} {n : Int} {m : Nat} {es : Nat → Ed}
theorem BSolve_T (G : GrA h w n m es) (left kind : Int) : T Tryz.prog F.bimatch_Solve [.agg ⟨w⟩, .int .i64 left, .int .i64 kind] h (SolBm h n m es left kind) := by
  refine E_bimatch_Solve ?_
  unfold B_bimatch_Solve
  refine new_bl ?_
  intro b1 h2 hb1 x1 B1_
  have k15 : B1 (own1 (fun _ => 0) b1 15) h2 15 b1 w := B1.new B1_
  have bs : Bs h (own1 (fun _ => 0) b1 15) h2 := Bs.start.new x1 hb1
  generalize own1 (fun _ => 0) b1 15 = ow at *
  refine k15.ldN G.one.1 ((Sides_T (G.ext bs.ext) left).mono ?_)
  rintro _ g5 ⟨rfl, x5⟩
  have k15 := k15.ext x5
  have bs := bs.ext_ x5
  refine rt_ret ⟨_, rfl, rfl, new_bl_st rfl rfl (by simp [Value.oneCell']) ?_⟩
  intro b7 g9 hb7 x7 B7
  have k17 : B1 (own1 ow b7 17) g9 17 b7 _ := B1.new B7
  have bs := bs.nw (j := 17) x7 hb7
  have k15 := k15.nw (j := 17) x7 hb7
  generalize own1 ow b7 17 = ow at *
  clear hb1 x1 B1_ x5 hb7 x7 B7
  refine k17.rI rfl (ifP_of (fun h1 => ?_) (fun h1 => ?_))
  · have h1 : (sidesG n m es left).1 ≠ 0 := by simpa using h1
    have e : codeA n m es left kind = (sidesG n m es left).1 := if_pos h1
    exact k17.rI rfl (.inl ⟨by rw [e]; exact h1, by rw [e], bs.ext⟩)
  have h1 : (sidesG n m es left).1 = 0 := by simpa using h1
  obtain ⟨l, wd, rfl, rfl, sd⟩ := Sd.of h1
  obtain ⟨gv, rfl, Gv⟩ := G.gs
  have n1 := sd.gd.n1
  have m1 := sd.gd.m1
  clear k17
  refine k15.ldN rfl (k15.rI rfl (mk_S1 2 (by omega) (by omega) ?_))
  intro b14 h15 hb14 x14 S2
  have k2 := S2 ow
  have bs := bs.nw (j := 2) x14 hb14
  have k15 := k15.nw (j := 2) x14 hb14
  generalize own1 ow b14 2 = ow at *
  clear S2 hb14 x14
  refine mk_ints 3 (by omega) (by omega) ?_
  intro b16 h17 hb16 x16 S3
  have k3 := S3 ow
  have bs := bs.nw (j := 3) x16 hb16
  have k15 := k15.nw (j := 3) x16 hb16
  have k2 := k2.nw (j := 3) x16 hb16
  generalize own1 ow b16 3 = ow at *
  clear S3 hb16 x16
  simp only [Int.toNat_natCast]
  refine ⟨rfl, ?_⟩
  show newP h17 (.cells ⟨[.int .i64 ((l + wd : Nat) : Int), gv, .int .i64 (l : Nat), .slice (some (bk b14)) l l, .slice (some (bk b16)) (l + wd) (l + wd)]⟩ 79 (0, 0)) _
  refine new_bl ?_
  intro b18 g19 hb18 x18 B18
  have k1 : B1 (own1 ow b18 1) g19 1 b18 _ := B1.new B18
  have bs := bs.nw (j := 1) x18 hb18
  have k15 := k15.nw (j := 1) x18 hb18
  have k2 := k2.nw (j := 1) x18 hb18
  have k3 := k3.nw (j := 1) x18 hb18
  generalize own1 ow b18 1 = ow at *
  clear B18 hb18 x18
  refine k15.rV rfl ((Gv.ext bs.ext).len fun _ _ => ?_)
  -- the edges out of each
  let I : (Int × Unit) → H → Nat → Prop := fun s g z => ∃ (j : Nat) (ow : Own) (outs : Nat → Value), s.1 = j ∧ j ≤ m ∧ z = m - j ∧ Bs h ow g ∧
    B1 ow g 1 b18 [.int .i64 ((l + wd : Nat) : Int), gv, .int .i64 (l : Nat), .slice (some (bk b14)) l l, .slice (some (bk b16)) (l + wd) (l + wd)] ∧ S1 ow g 2 (.slice (some (bk b14)) l l) (va l outs) ∧ S1 ow g 3 (.slice (some (bk b16)) (l + wd) (l + wd)) (ints (l + wd) fun _ => 0) ∧
    ∀ v, v < l → S1 ow g (40 + v) (outs v) (natV (outL es j v))
  refine ⟨fun p q => ∃ k, I p q k, rk I, rk_wf I, ⟨_, 0, ow, _, rfl, by omega, rfl, bs, k1, k2, k3, fun v hv => S1.nil⟩, ?_⟩
  clear bs k1 k2 k3 k15
  intro s g hI
  obtain ⟨j, ow, outs, e1, hj, hz, bs, k1, k2, k3, ko⟩ := mu_spec hI
  generalize hkk : mu I ((s, ()), g) = km at *
  change s = (j : Int) at e1
  subst e1
  have hlt : j < m → m - (j + 1) < mu I (((j : Int), ()), g) := fun h => by rw [hkk, hz]; exact sub_dec h
  clear hI
  refine ifP_of (fun h2 => ?_) (fun h2 => ?_)
  · have hjm : j < m := by have := of_decide_eq_true h2; omega
    obtain ⟨f1, f2⟩ := sd.gd.fr hjm
    obtain ⟨t1, t2⟩ := sd.gd.to hjm
    obtain ⟨s1, s2, s3⟩ := sd.sd j hjm
    refine (Gv.ext bs.ext).at hjm fun a28 e28 => ⟨(es j).vs, rfl, e28, ?_⟩
    refine new_bl_st rfl rfl (ed_one _) ?_
    intro b30 g32 hb30 x30 B30
    have k16 : B1 (own1 ow b30 16) g32 16 b30 (es j).vs := B1.new B30
    have bs := bs.nw (j := 16) x30 hb30
    have k1 := k1.nw (j := 16) x30 hb30
    have k2 := k2.nw (j := 16) x30 hb30
    have k3 := k3.nw (j := 16) x30 hb30
    have ko := fun v hv => (ko v hv).nw (j := 16) x30 hb30
    generalize own1 ow b30 16 = ow at *
    clear B30 hb30 x30
    have ea : (if (es j).t < (es j).f then (es j).t else (es j).f) = ((lfE es j : Nat) : Int) := by rw [f1, t1]; unfold lfE; split <;> omega
    refine k16.rI rfl (k16.rI rfl (k1.rV rfl (k1.rV rfl ?_)))
    rw [ea]
    refine k2.rdV s1 ?_
    have ol := outL_len (es := es) (v := lfE es j) (m := j)
    refine (ko _ s1).push (l := 1) rfl (by simp [Value.oneCell']) (by simp) (by omega) (by rw [natV_length]; omega) ?_
    intro _ g40 so ow2 g42 _ x40 F6 kn
    have k1' := k1
    have bs := bs.fm F6 (by simp <;> omega)
    have k1 := k1.fm F6 (by simp <;> omega)
    have k2 := k2.fm F6 (by simp <;> omega)
    have k3 := k3.fm F6 (by simp <;> omega)
    have ko := fun v hv (hne : v ≠ lfE es j) => (ko v hv).fm F6 (by simp <;> omega)
    refine ⟨sameAt_b1 (j := 3) (k1'.ext x40) k1, ?_⟩
    clear k1'
    refine k2.setO s1 kn.isS ?_
    intro g44 F7 k2
    have bs := bs.fm F7 (by simp <;> omega)
    have k1 := k1.fm F7 (by simp <;> omega)
    have k3 := k3.fm F7 (by simp <;> omega)
    have kn := kn.fm F7 (by simp <;> omega)
    rw [i64_inc (by omega)]
    refine mu_next (I := I) (k := m - (j + 1)) ⟨j + 1, ow2, _, rfl, hjm, rfl, bs, k1, k2, k3, fun v hv => ?_⟩ (hlt hjm)
    unfold updV
    show S1 _ _ _ _ (natV (outL es j v ++ if lfE es j = v then [j] else []))
    rw [natV_append]
    by_cases e : v = lfE es j
    · rw [if_pos e, if_pos e.symm, e]; exact kn
    · rw [if_neg e, if_neg (fun h => e h.symm)]
      have := (ko v hv e).fm F7 (by simp <;> omega)
      simpa [natV] using this
  have hjm : j = m := by have := of_decide_eq_false h2; omega
  subst hjm
  clear hlt hkk hz h2 hj
  refine k1.rV rfl (slcP_mk ?_)
  -- none is matched
  let I2 : (Int × Unit) → H → Nat → Prop := fun s g z => ∃ (c : Nat) (ow : Own), s.1 = c ∧ c ≤ l + wd ∧ z = l + wd - c ∧ Bs h ow g ∧
    B1 ow g 1 b18 [.int .i64 ((l + wd : Nat) : Int), gv, .int .i64 (l : Nat), .slice (some (bk b14)) l l, .slice (some (bk b16)) (l + wd) (l + wd)] ∧ S1 ow g 2 (.slice (some (bk b14)) l l) (va l outs) ∧ S1 ow g 3 (.slice (some (bk b16)) (l + wd) (l + wd)) (ints (l + wd) fun u => if u < c then -1 else 0) ∧
    ∀ v, v < l → S1 ow g (40 + v) (outs v) (natV (outL es j v))
  refine ⟨fun p q => ∃ k, I2 p q k, rk I2, rk_wf I2, ⟨_, 0, ow, rfl, by omega, rfl, bs, k1, k2, k3.cg fun c _ => (if_neg (by omega)).symm, ko⟩, ?_⟩
  clear bs k1 k2 k3 ko
  intro s g hI
  obtain ⟨c, ow, e1, hc, hz, bs, k1, k2, k3, ko⟩ := mu_spec hI
  generalize hkk : mu I2 ((s, ()), g) = km at *
  change s = (c : Int) at e1
  subst e1
  have hlt : c < l + wd → l + wd - (c + 1) < mu I2 (((c : Int), ()), g) := fun h => by rw [hkk, hz]; exact sub_dec h
  clear hI
  refine ifP_of (fun h2 => ?_) (fun h2 => ?_)
  · have hcn : c < l + wd := by have := of_decide_eq_true h2; omega
    refine k1.rV rfl (k3.setI hcn fun g1 F1 k3 => ?_)
    have bs := bs.fm F1 (by simp <;> omega)
    have k1 := k1.fm F1 (by simp <;> omega)
    have k2 := k2.fm F1 (by simp <;> omega)
    have ko := fun v hv => (ko v hv).fm F1 (by simp <;> omega)
    rw [i64_inc (by omega)]
    exact mu_next (I := I2) (k := l + wd - (c + 1)) ⟨c + 1, ow, rfl, hcn, rfl, bs, k1, k2, k3.cg fun u _ => upd_to (g := fun _ => -1) (f := fun _ => 0) rfl u, ko⟩ (hlt hcn)
  have hcn : c = l + wd := by have := of_decide_eq_false h2; omega
  have p : Pr h ow g b18 l wd j es gv (.slice (some (bk b14)) l l) (.slice (some (bk b16)) (l + wd) (l + wd)) outs (fun _ => -1) := ⟨bs, Gv, k1, k2, k3.cg fun u hu => if_pos (by omega), ko⟩
  clear hlt hkk hz h2 hc hcn bs k1 k2 k3 ko
  generalize hvo : (Value.slice (some (bk b14)) l l) = vo at *
  clear hvo
  -- the way
  refine ⟨fun s q => (kind = 1 ∨ kind = 2) ∧ s.1 = .slice none 0 0 ∧ ∃ ty f bo, s.2.1 = .iface ty (.pointer (some (bk bo))) ∧
    (∀ w, (method (Tryz.prog.types.size + Made.depth) ty (.pointer (some (bk bo))) "compass/bimatch.match").run Tryz.prog w = .ok (f, .pointer (some (bk bo))) w) ∧
    T Tryz.prog f [.pointer (some (bk bo))] q fun r h' => ∃ (own' : Own) (by' : Nat → Int), r = .ret (.tuple ⟨[]⟩) ∧ Pr h own' h' b18 l wd j es gv vo (.slice (some (bk b16)) (l + wd) (l + wd)) outs by' ∧ MxP l wd j es by', ?_, ?_⟩
  · refine ifP_of (fun h2 => ?_) (fun h2 => ?_)
    · have h2 := of_decide_eq_true h2
      refine new_bl ?_
      intro b60 q hb60 x60 B60
      refine ⟨.inl h2, rfl, 82, F.bimatch_simple_match, b60, rfl, methBs _, ?_⟩
      have k4 : B1 (own1 ow b60 4) q 4 b60 _ := B1.new B60
      refine (simple_T sd (p.nw (j := 4) x60 hb60) k4).mono ?_
      rintro _ q2 ⟨own', by', rfl, _, p, X⟩
      exact ⟨own', by', rfl, p, X⟩
    have h2 := of_decide_eq_false h2
    refine ifP_of (fun h3 => ?_) (fun h3 => ?_)
    · have h3 := of_decide_eq_true h3
      refine new_bl ?_
      intro b60 q hb60 x60 B60
      refine ⟨.inr h3, rfl, 85, F.bimatch_phases_match, b60, rfl, methBp _, ?_⟩
      have k4 : B1 (own1 ow b60 4) q 4 b60 _ := B1.new B60
      refine (phases_T sd (p.nw (j := 4) x60 hb60) k4).mono ?_
      rintro _ q2 ⟨own', by', rfl, _, p, X⟩
      exact ⟨own', by', rfl, p, X⟩
    have h3 := of_decide_eq_false h3
    have e : codeA ((l + wd : Nat) : Int) j es l kind = 50 := by unfold codeA; rw [if_neg (by omega), if_neg (by omega)]
    exact .inl ⟨by rw [e]; omega, by rw [e], p.bs.ext⟩
  rintro m58 w59 q ⟨hk, hm58, ty, f, bo, hw59, hm, hT⟩
  change m58 = _ at hm58
  change w59 = _ at hw59
  subst hm58 hw59
  clear p
  refine ⟨f, _, fun w _ => hm w, ?_⟩
  refine hT.mono ?_
  rintro _ g67 ⟨ow, by', rfl, p, X⟩
  clear hT hm
  refine rt_ret ⟨rfl, p.k1.rV rfl (slcP_mk ⟨by omega, by omega, by omega, by omega, ?_⟩)⟩
  rw [sliceV1_n]
  refine slcP_mk ?_
  let I3 : (Value × Int × Unit) → H → Nat → Prop := fun s g z => ∃ (c : Nat) (ow : Own), s.2.1 = c ∧ c ≤ l ∧ z = l - c ∧ Pr h ow g b18 l wd j es gv vo (.slice (some (bk b16)) (l + wd) (l + wd)) outs by' ∧ S1 ow g 12 s.1 (natV (mlB by' c))
  refine ⟨fun p q => ∃ k, I3 p q k, rk I3, rk_wf I3, ⟨_, 0, ow, rfl, by omega, rfl, p, S1.nil⟩, ?_⟩
  clear p
  intro mv s g hI
  obtain ⟨c, ow, e1, hc, hz, p, k12⟩ := mu_spec hI
  generalize hkk : mu I3 ((mv, s, ()), g) = km at *
  change s = (c : Int) at e1
  subst e1
  change S1 ow g 12 mv _ at k12
  have hlt : c < l → l - (c + 1) < mu I3 ((mv, (c : Int), ()), g) := fun h => by rw [hkk, hz]; exact sub_dec h
  clear hI
  have ml := (mlB_len (by_ := by') (j := c)).1
  refine ifP_of (fun h2 => ?_) (fun h2 => ?_)
  · have hcl : c < l := by have := of_decide_eq_true h2; omega
    rw [i64_inc (by omega)]
    refine p.k3.rdPre (by omega) hcl (ifP_of (fun h3 => ?_) (fun h3 => ?_))
    · have h3 := of_decide_eq_true h3
      have eb : by' c = (((by' c).toNat : Nat) : Int) := by omega
      rw [eb]
      refine k12.push (l := 1) rfl (by simp [Value.oneCell']) (by simp) (by omega) (by rw [natV_length]; omega) ?_
      intro _ _ mv2 ow2 g2 _ _ F2 k12
      have p := p.fm F2 (by simp <;> omega)
      refine mu_next (I := I3) (k := l - (c + 1)) ⟨c + 1, ow2, rfl, hcl, rfl, p, ?_⟩ (hlt hcl)
      show S1 ow2 g2 12 mv2 (natV (mlB by' c ++ if 0 ≤ by' c then [(by' c).toNat] else []))
      rw [if_pos h3, natV_append]; exact k12
    · have h3 := of_decide_eq_false h3
      refine mu_next (I := I3) (k := l - (c + 1)) ⟨c + 1, ow, rfl, hcl, rfl, p, ?_⟩ (hlt hcl)
      show S1 ow g 12 mv (natV (mlB by' c ++ if 0 ≤ by' c then [(by' c).toNat] else []))
      rw [if_neg h3, List.append_nil]; exact k12
  have hcl : c = l := by have := of_decide_eq_false h2; omega
  rw [hcl] at k12 ml
  clear hlt hkk hz h2 hc hcl
  refine (sort_T k12 (by omega)).mono ?_
  rintro _ g4 ⟨rfl, F2, k12⟩
  have p := p.fm F2 (by simp <;> omega)
  refine rt_ret ⟨rfl, (cover_T sd p X).mono ?_⟩
  rintro _ g5 ⟨ow2, cv, rfl, F3⟩
  have p := p.fm F3 (by simp <;> omega)
  have k12 := k12.fm F3 (by simp <;> omega)
  obtain ⟨pt, Mr⟩ := X.res sd.sd n1
  exact rt_ret (.inr ⟨by unfold codeA; rw [if_neg (by omega), if_pos hk], l, wd, ow2, mv, cv, _, pt, rfl, rfl, sd, hk, p.bs, k12, Mr, rfl⟩)
end

end Go.Proofs.YtdcamadeblojdaaGreat

namespace Go.Proofs.YtdcamadeblojdaaGreat
open Go
set_option linter.unusedVariables false
set_option linter.unusedSimpArgs false
set_option maxHeartbeats 1000000

/-- What runs to a node runs to the one behind it. -/
def edT (E : Nat → Ed) (n c : Nat) (i : Nat) : Ed := if i < c ∧ (E i).t = (n : Int) then ⟨(E i).f, (n + 1 : Nat), (E i).c, (E i).k⟩ else E i
/-- The graph from side to side. -/
abbrev edP (m l n : Nat) (es : Nat → Ed) : Nat → Ed := edT (edH m l n es 0) n (m + n)
section
variable {l wd m : Nat} {es : Nat → Ed} {L : List Nat} {pt f : Nat → Int}
theorem edP_0 (sd : Sd l wd m es) {i : Nat} (h : i < m) : edP m l (l + wd) es i = ⟨(lfE es i : Nat), (rtE es i : Nat), 2, (es i).k * 0⟩ := by
  have := sd.sd i h
  unfold edP edT
  rw [edH_0 h, if_neg]
  rintro ⟨_, e⟩
  have e : ((rtE es i : Nat) : Int) = ((l + wd : Nat) : Int) := e
  omega
theorem edP_1 {j : Nat} (h : j < l) : edP m l (l + wd) es (m + j) = ⟨((l + wd : Nat) : Int), (j : Nat), 1, 0⟩ := by
  unfold edP edT
  rw [edH_1 h, if_neg]
  rintro ⟨_, e⟩
  have e : ((j : Nat) : Int) = ((l + wd : Nat) : Int) := e
  omega
theorem edP_2 {j : Nat} (h : ¬ j < l) (hj : j < l + wd) : edP m l (l + wd) es (m + j) = ⟨(j : Nat), ((l + wd + 1 : Nat) : Int), 1, 0⟩ := by
  unfold edP edT
  rw [edH_2 h, if_pos ⟨by omega, rfl⟩]
theorem fp_0 (sd : Sd l wd m es) {i : Nat} (h : i < m) : frE (edP m l (l + wd) es) i = lfE es i ∧ toE (edP m l (l + wd) es) i = rtE es i ∧ cpE (edP m l (l + wd) es) i = 2 := by
  have e := edP_0 sd h
  refine ⟨?_, ?_, ?_⟩
  · show (edP m l (l + wd) es i).f.toNat = _
    rw [e]; exact Int.toNat_natCast _
  · show (edP m l (l + wd) es i).t.toNat = _
    rw [e]; exact Int.toNat_natCast _
  · show (edP m l (l + wd) es i).c = _
    rw [e]
theorem fp_1 {j : Nat} (h : j < l) : frE (edP m l (l + wd) es) (m + j) = l + wd ∧ toE (edP m l (l + wd) es) (m + j) = j ∧ cpE (edP m l (l + wd) es) (m + j) = 1 := by
  have e := edP_1 (m := m) (wd := wd) (es := es) h
  refine ⟨?_, ?_, ?_⟩
  · show (edP m l (l + wd) es (m + j)).f.toNat = _
    rw [e]; exact Int.toNat_natCast _
  · show (edP m l (l + wd) es (m + j)).t.toNat = _
    rw [e]; exact Int.toNat_natCast _
  · show (edP m l (l + wd) es (m + j)).c = _
    rw [e]
theorem fp_2 {j : Nat} (h : ¬ j < l) (hj : j < l + wd) : frE (edP m l (l + wd) es) (m + j) = j ∧ toE (edP m l (l + wd) es) (m + j) = l + wd + 1 ∧ cpE (edP m l (l + wd) es) (m + j) = 1 := by
  have e := edP_2 (m := m) (es := es) h hj
  refine ⟨?_, ?_, ?_⟩
  · show (edP m l (l + wd) es (m + j)).f.toNat = _
    rw [e]; exact Int.toNat_natCast _
  · show (edP m l (l + wd) es (m + j)).t.toNat = _
    rw [e]; exact Int.toNat_natCast _
  · show (edP m l (l + wd) es (m + j)).c = _
    rw [e]
theorem ek3 {i : Nat} (hi : i < m + (l + wd)) : i < m ∨ ∃ j, i = m + j ∧ j < l + wd ∧ (j < l ∨ ¬ j < l) := by
  by_cases h : i < m
  · exact .inl h
  · exact .inr ⟨i - m, by omega, by omega, by omega⟩
theorem Sd.endP (sd : Sd l wd m es) : ∀ i, i < m + (l + wd) → frE (edP m l (l + wd) es) i < l + wd + 2 ∧ toE (edP m l (l + wd) es) i < l + wd + 2 := fun i hi => by
  rcases ek3 hi with h | ⟨j, rfl, hj, h | h⟩
  · obtain ⟨a, b, _⟩ := fp_0 sd h
    have := sd.sd i h
    omega
  · obtain ⟨a, b, _⟩ := fp_1 (m := m) (wd := wd) (es := es) h
    omega
  · obtain ⟨a, b, _⟩ := fp_2 (m := m) (es := es) h hj
    omega
theorem Sd.gdP (sd : Sd l wd m es) (h1 : l + wd + 2 ≤ 1024) (h2 : m + (l + wd) ≤ 4096) : Gd (l + wd + 2) (m + (l + wd)) (edP m l (l + wd) es) := by
  refine ⟨h1, h2, fun i hi => ?_, fun i hi => ?_, fun i hi => ?_, fun i hi => ?_⟩
  · rcases ek3 hi with h | ⟨j, rfl, hj, h | h⟩
    · rw [edP_0 sd h]; have := sd.sd i h; exact ⟨_, rfl, by omega⟩
    · rw [edP_1 h]; exact ⟨_, rfl, by omega⟩
    · rw [edP_2 h hj]; exact ⟨_, rfl, by omega⟩
  · rcases ek3 hi with h | ⟨j, rfl, hj, h | h⟩
    · rw [edP_0 sd h]; have := sd.sd i h; exact ⟨_, rfl, by omega⟩
    · rw [edP_1 h]; exact ⟨_, rfl, by omega⟩
    · rw [edP_2 h hj]; exact ⟨_, rfl, by omega⟩
  · rcases ek3 hi with h | ⟨j, rfl, hj, h | h⟩
    · rw [edP_0 sd h]; show (0 : Int) ≤ 2 ∧ (2 : Int) ≤ 1048576; omega
    · rw [edP_1 h]; show (0 : Int) ≤ 1 ∧ (1 : Int) ≤ 1048576; omega
    · rw [edP_2 h hj]; show (0 : Int) ≤ 1 ∧ (1 : Int) ≤ 1048576; omega
  · rcases ek3 hi with h | ⟨j, rfl, hj, h | h⟩
    · rw [edP_0 sd h]; show -1048576 ≤ (es i).k * 0 ∧ (es i).k * 0 ≤ 1048576; omega
    · rw [edP_1 h]; show (-1048576 : Int) ≤ 0 ∧ (0 : Int) ≤ 1048576; omega
    · rw [edP_2 h hj]; show (-1048576 : Int) ≤ 0 ∧ (0 : Int) ≤ 1048576; omega
/-- Both graphs are alike but for the ends. -/
theorem out_PH (sd : Sd l wd m es) {v : Nat} (hv : v < l + wd) : OutF (m + (l + wd)) (frE (edP m l (l + wd) es)) (toE (edP m l (l + wd) es)) f v = OutF (m + (l + wd)) (frE (edH m l (l + wd) (onE es) (-1))) (toE (edH m l (l + wd) (onE es) (-1))) f v := by
  unfold OutF
  refine sumN_congr fun i hi => ?_
  rcases ek3 hi with h | ⟨j, rfl, hj, h | h⟩
  · obtain ⟨a, b, _⟩ := fp_0 sd h
    obtain ⟨c, d, _⟩ := fh_0 (l := l) (n := l + wd) (es := onE es) (t := -1) h
    rw [a, b, c, d]; rfl
  · obtain ⟨a, b, _⟩ := fp_1 (m := m) (wd := wd) (es := es) h
    obtain ⟨c, d, _⟩ := fh_1 (m := m) (n := l + wd) (es := onE es) (t := -1) h
    rw [a, b, c, d]
  · obtain ⟨a, b, _⟩ := fp_2 (m := m) (es := es) h hj
    obtain ⟨c, d, _⟩ := fh_2 (m := m) (n := l + wd) (es := onE es) (t := -1) h
    rw [a, b, c, d, if_neg (show ¬ l + wd + 1 = v by omega), if_neg (show ¬ l + wd = v by omega)]
theorem cp_PH (sd : Sd l wd m es) {i : Nat} (hi : i < m + (l + wd)) : cpE (edP m l (l + wd) es) i = cpE (edH m l (l + wd) (onE es) (-1)) i := by
  rcases ek3 hi with h | ⟨j, rfl, hj, h | h⟩
  · rw [(fp_0 sd h).2.2, (fh_0 h).2.2.2]
  · rw [(fp_1 h).2.2, (fh_1 h).2.2.2]
  · rw [(fp_2 h hj).2.2, (fh_2 h).2.2.2]
/-- A flow from side to side is a flow round. -/
theorem FlowP.planH (sd : Sd l wd m es) (P : FlowP (l + wd + 2) (m + (l + wd)) (frE (edP m l (l + wd) es)) (toE (edP m l (l + wd) es)) (cpE (edP m l (l + wd) es)) (l + wd) (l + wd + 1) f) :
    PlanP (l + wd + 1) (m + (l + wd)) (frE (edH m l (l + wd) (onE es) (-1))) (toE (edH m l (l + wd) (onE es) (-1))) (cpE (edH m l (l + wd) (onE es) (-1))) (fun _ => 0) f := by
  have o1 : ∀ v, v < l + wd → OutF (m + (l + wd)) (frE (edH m l (l + wd) (onE es) (-1))) (toE (edH m l (l + wd) (onE es) (-1))) f v = 0 := fun v hv => by
    rw [← out_PH sd hv]; exact P.cons v (by omega) (by omega) (by omega)
  have eh : ∀ i, i < m + (l + wd) → frE (edH m l (l + wd) (onE es) (-1)) i < l + wd + 1 ∧ toE (edH m l (l + wd) (onE es) (-1)) i < l + wd + 1 := fun i hi => by
    rcases ek3 hi with h | ⟨j, rfl, hj, h | h⟩
    · obtain ⟨a, b, _⟩ := fh_0 (l := l) (n := l + wd) (es := onE es) (t := -1) h
      have := sd.on.sd i h
      omega
    · obtain ⟨a, b, _⟩ := fh_1 (m := m) (n := l + wd) (es := onE es) (t := -1) h
      omega
    · obtain ⟨a, b, _⟩ := fh_2 (m := m) (n := l + wd) (es := onE es) (t := -1) h
      omega
  refine ⟨fun i hi => by rw [← cp_PH sd hi]; exact P.cp i hi, fun v hv => ?_⟩
  by_cases h : v < l + wd
  · exact o1 v h
  · have z := pot_out (n := l + wd + 1) eh (fun _ => 1) f
    rw [sumN_zero (f := fun i => ((1 : Int) - 1) * _) (fun i _ => by rw [Int.sub_self, Int.zero_mul])] at z
    have e : (sumN (l + wd + 1) fun v => 1 * OutF (m + (l + wd)) (frE (edH m l (l + wd) (onE es) (-1))) (toE (edH m l (l + wd) (onE es) (-1))) f v) = (sumN (l + wd) fun v => 1 * OutF (m + (l + wd)) (frE (edH m l (l + wd) (onE es) (-1))) (toE (edH m l (l + wd) (onE es) (-1))) f v) + 1 * OutF (m + (l + wd)) (frE (edH m l (l + wd) (onE es) (-1))) (toE (edH m l (l + wd) (onE es) (-1))) f (l + wd) := rfl
    rw [e, sumN_zero (f := fun v => 1 * OutF _ _ _ _ v) (fun v hv => by rw [o1 v hv]; rfl)] at z
    have : v = l + wd := by omega
    subst this
    omega
theorem PlanP.flowH (sd : Sd l wd m es) (P : PlanP (l + wd + 1) (m + (l + wd)) (frE (edH m l (l + wd) (onE es) (-1))) (toE (edH m l (l + wd) (onE es) (-1))) (cpE (edH m l (l + wd) (onE es) (-1))) (fun _ => 0) f) :
    FlowP (l + wd + 2) (m + (l + wd)) (frE (edP m l (l + wd) es)) (toE (edP m l (l + wd) es)) (cpE (edP m l (l + wd) es)) (l + wd) (l + wd + 1) f :=
  ⟨fun i hi => by rw [cp_PH sd hi]; exact P.cp i hi, fun v hv h1 h2 => by rw [out_PH sd (by omega)]; exact P.out v (by omega)⟩
/-- What flows from side to side is what the edges between take. -/
theorem FlowP.valH (sd : Sd l wd m es) (P : FlowP (l + wd + 2) (m + (l + wd)) (frE (edP m l (l + wd) es)) (toE (edP m l (l + wd) es)) (cpE (edP m l (l + wd) es)) (l + wd) (l + wd + 1) f) :
    OutF (m + (l + wd)) (frE (edP m l (l + wd) es)) (toE (edP m l (l + wd) es)) f (l + wd) = -totC (m + (l + wd)) (ckE (edH m l (l + wd) (onE es) (-1))) f := by
  have z := pot_out (n := l + wd + 2) sd.endP (fun v => if v < l ∨ v = l + wd then 1 else 0) f
  have e1 : (sumN (l + wd + 2) fun v => (if v < l ∨ v = l + wd then (1 : Int) else 0) * OutF (m + (l + wd)) (frE (edP m l (l + wd) es)) (toE (edP m l (l + wd) es)) f v) = OutF (m + (l + wd)) (frE (edP m l (l + wd) es)) (toE (edP m l (l + wd) es)) f (l + wd) := by
    rw [← sumN_ptf (f := fun v => OutF (m + (l + wd)) (frE (edP m l (l + wd) es)) (toE (edP m l (l + wd) es)) f v) (show l + wd < l + wd + 2 by omega)]
    refine sumN_congr fun v hv => ?_
    by_cases h : l + wd = v
    · subst h; rw [if_pos (.inr rfl), if_pos rfl]; omega
    · rw [if_neg h]
      by_cases h2 : v < l
      · rw [P.cons v hv (by omega) (by omega), Int.mul_zero]
      · rw [if_neg (by omega), Int.zero_mul]
  rw [e1, sumN_split (a := m) (b := l + wd), sumN_zero (k := l + wd) (fun i hi => ?_), Int.add_zero] at z
  · rw [← z]
    unfold totC
    rw [sumN_split (a := m) (b := l + wd), sumN_zero (k := l + wd) (fun i hi => by
      by_cases h : i < l
      · rw [(fh_1 h).2.2.1, Int.zero_mul]
      · rw [(fh_2 h).2.2.1, Int.zero_mul]), Int.add_zero]
    rw [show -(sumN m fun i => ckE (edH m l (l + wd) (onE es) (-1)) i * f i) = (-1) * (sumN m fun i => ckE (edH m l (l + wd) (onE es) (-1)) i * f i) by omega, ← sumN_mul]
    refine sumN_congr fun j hj => ?_
    obtain ⟨a, b, _⟩ := fp_0 sd hj
    have s := sd.sd j hj
    rw [a, b, (fh_0 hj).2.2.1, if_pos (.inl s.1), if_neg (by omega)]
    show ((1 : Int) - 0) * _ = -1 * (1 * (-1) * _)
    omega
  · by_cases h : i < l
    · obtain ⟨a, b, _⟩ := fp_1 (m := m) (wd := wd) (es := es) h
      rw [a, b, if_pos (.inr rfl), if_pos (.inl h), Int.sub_self, Int.zero_mul]
    · obtain ⟨a, b, _⟩ := fp_2 (m := m) (es := es) h hi
      rw [a, b, if_neg (by omega), if_neg (by omega), Int.sub_self, Int.zero_mul]
/-- As much flows as a best matching has edges. -/
theorem pairs_eq (sd : Sd l wd m es) (M : MaR (l + wd) m l (onE es) L pt)
    (X : MaxP (l + wd + 2) (m + (l + wd)) (frE (edP m l (l + wd) es)) (toE (edP m l (l + wd) es)) (cpE (edP m l (l + wd) es)) (l + wd) (l + wd + 1) f) :
    OutF (m + (l + wd)) (frE (edP m l (l + wd) es)) (toE (edP m l (l + wd) es)) f (l + wd) = (L.length : Nat) := by
  have P : FlowP (l + wd + 2) (m + (l + wd)) (frE (edP m l (l + wd) es)) (toE (edP m l (l + wd) es)) (cpE (edP m l (l + wd) es)) (l + wd) (l + wd + 1) f := X.1
  obtain ⟨Q, _⟩ := hub_plan sd.on M.lt M.nd
  have Qf := Q.flowH sd
  have l1 := Qf.le_cut sd.endP (by omega) .refl X.nr
  have l2 := X.cut sd.endP (by omega)
  have e := hub_eq sd.on M (P.planH sd) (by
    have a := P.valH sd
    have b := Qf.valH sd
    omega)
  rw [P.valH sd, e, lkE_on]; omega
end

end Go.Proofs.YtdcamadeblojdaaGreat

namespace Go.Proofs.YtdcamadeblojdaaGreat
open Go
set_option linter.unusedVariables false
set_option linter.unusedSimpArgs false
set_option maxHeartbeats 2000000

/-- Another end at a place. -/
def toJ (es : Nat → Ed) (j : Nat) (x : Int) (i : Nat) : Ed := if i = j then ⟨(es i).f, x, (es i).c, (es i).k⟩ else es i
theorem S4.setT {own : Own} {h : H} {i m : Nat} {v : Value} {es : Nat → Ed} {j : Nat} {x : Int} {K : H → Prop} (s : S4 own h i v m es) (hj : j < m)
    (k : ∀ g, Fm [i] own h own g → S4 own g i v m (toJ es j x) → K g) : ixS v (j : Int) 4 fun a => stC h (a.add 1) (.int .i64 x) K := by
  rcases s with ⟨rfl, _⟩ | ⟨b, c, e, zs, hb, rfl, h2, h3⟩
  · omega
  · refine nx hj ?_
    rw [bk_add, bk_add2]
    have hlt : j * 4 + 1 < m * 4 := at_lt hj (by omega)
    have e2 : hset h ⟨b, j * 4 + 1, none⟩ [.int .i64 x] b = some (.cells ⟨recs m 4 (edF (toJ es j x)) ++ zs⟩ e (0, 0)) := by
      unfold hset
      rw [if_pos rfl, h2]
      simp only [Option.map_some, setR]
      rw [List.setIfInBounds_toArray, List.set_append_left _ _ (by rw [recs_length]; exact hlt), recs_set hj (by omega)]
      congr 4
      refine recs_ext fun l hl q => ?_
      unfold upd2 edF toJ
      by_cases e1 : l = j
      · subst e1
        rw [if_pos rfl]
        match q with
        | 0 => rw [if_neg (fun h => by cases h.2)]; rfl
        | 1 => rw [if_pos ⟨rfl, rfl⟩]; rfl
        | 2 => rw [if_neg (fun h => by cases h.2)]; rfl
        | q + 3 => rw [if_neg (fun h => by omega)]; rfl
      · rw [if_neg (fun h => e1 h.1), if_neg e1]
    refine ⟨⟨_, _, h2, rfl, ?_⟩, k _ (Fm.kp (b := b) ?_ hb ⟨_, e2⟩) (.inr ⟨b, c, e, zs, hb, rfl, e2, h3⟩)⟩
    · simp only [List.size_toArray, List.length_append, recs_length]; omega
    · intro k o hk hh
      unfold hset
      rw [if_neg hk]; exact hh
section
variable {h h' : H} {w : List Value} {l wd m : Nat} {es : Nat → Ed} {L : List Nat} {pt : Nat → Int}
theorem WholePairs_T {n : Int} (G : GrA h w n m es) (left k1 k2 : Int) : T Tryz.prog F.compasstop_WholePairs [.agg ⟨w⟩, .int .i64 left, .agg ⟨[.int .i64 k1, .int .i64 k2]⟩] h fun r h' => r = .ret (.bool true) ∧ Ext h h' := by
  refine E_compasstop_WholePairs ?_
  unfold B_compasstop_WholePairs
  refine new_bl ?_
  intro b1 q1 hb1 x1 B1_
  refine new_bl ?_
  intro b3 q3 hb3 x3 B3
  refine flows2_R.mono ?_
  rintro _ q6 ⟨rfl, x6⟩
  refine rt_ret ⟨_, rfl, ifP_of (fun h => by simp at h) (fun _ => ?_)⟩
  have B1_ := (B1_.ext x3).ext x6
  have B3 := B3.ext x6
  have x := (x1.trans' x3).trans' x6
  clear x1 x3 x6
  refine B1_.ldN G.one.1 (end0 B3 ((BSolve_T (G.ext x) left k1).mono ?_))
  intro r q7 hS
  rcases hS with ⟨hc, rfl, x7⟩ | ⟨hc, l, wd, ow, mv, cv, L, pt, rfl, rfl, sd, hk, bs, k12, M, rfl⟩
  · exact rt_ret ⟨_, _, _, rfl, ifP_of (fun _ => ⟨by simp, x.trans' x7⟩) (fun h => by simp at h; exact absurd h hc)⟩
  have n1 := sd.gd.n1
  have m1 := sd.gd.m1
  refine rt_ret ⟨_, _, _, rfl, ifP_of (fun h => by simp at h) (fun _ => ?_)⟩
  have B1_ := B1_.ext bs.ext
  have B3 := B3.ext bs.ext
  have x := x.trans' bs.ext
  refine B1_.ldN G.one.1 ((hub_R (G.ext x) sd (t := 0) (.inr rfl)).mono ?_)
  rintro _ q19 ⟨hv, ow2, rfl, bs2, k4⟩
  obtain ⟨gv, rfl, Gv⟩ := G.gs
  refine rt_ret ⟨_, rfl, rfl, new_bl_st rfl rfl (by
    intro z hz
    simp only [List.mem_cons, List.not_mem_nil, or_false] at hz
    rcases hz with rfl | rfl
    · rfl
    · exact slc_one k4.isS) ?_⟩
  intro b21 q23 hb21 x21 B21
  have k14 : B1 (own1 ow2 b21 14) q23 14 b21 _ := B1.new B21
  have bs2 := bs2.nw (j := 14) x21 hb21
  have k4 := k4.nw (j := 14) x21 hb21
  generalize own1 ow2 b21 14 = ow2 at *
  clear B21 hb21 x21
  refine k14.rI (j := 0) rfl ?_
  rw [show IntKind.i64.wrap (((l + wd + 1 : Nat) : Int) + 1) = ((l + wd + 2 : Nat) : Int) from i64_inc (by omega)]
  refine k14.st (j := 0) (by simp) fun q27 F27 k14 => ?_
  simp only [List.set] at k14
  have bs2 := bs2.fm F27 (by simp <;> omega)
  have k4 := k4.fm F27 (by simp <;> omega)
  have x27 := x.trans' bs2.ext
  have x12 := bs2.ext
  refine ⟨_, (B1_.ext x12).ld (i := 1) rfl, (Gv.ext x27).len fun _ _ => ?_⟩
  clear x27 x12
  let I : (Int × Unit) → H → Nat → Prop := fun s g z => ∃ (j : Nat) (ow : Own), s.1 = j ∧ m ≤ j ∧ j ≤ m + (l + wd) ∧ z = m + (l + wd) - j ∧ Bs q7 ow g ∧ B1 ow g 14 b21 [.int .i64 ((l + wd + 2 : Nat) : Int), hv] ∧ S4 ow g 1 hv (m + (l + wd)) (edT (edH m l (l + wd) es 0) (l + wd) j)
  refine ⟨fun p q => ∃ k, I p q k, rk I, rk_wf I, ⟨_, m, ow2, rfl, by omega, by omega, rfl, bs2, k14, k4.congr fun i hi => ?_⟩, ?_⟩
  · unfold edT
    rw [if_neg]
    rintro ⟨h1, h2⟩
    rw [edH_0 h1] at h2
    have := sd.sd i h1
    have h2 : ((rtE es i : Nat) : Int) = ((l + wd : Nat) : Int) := h2
    omega
  clear bs2 k14 k4 F27
  intro s g hI
  obtain ⟨j, ow2, e1, hjm, hj, hz, bs2, k14, k4⟩ := mu_spec hI
  generalize hkk : mu I ((s, ()), g) = km at *
  change s = (j : Int) at e1
  subst e1
  have hlt : j < m + (l + wd) → m + (l + wd) - (j + 1) < mu I (((j : Int), ()), g) := fun h => by rw [hkk, hz]; exact sub_dec h
  clear hI
  have xg := bs2.ext
  have B1g := B1_.ext xg
  refine k14.rV rfl (k4.gs.len fun _ _ => ifP_of (fun h1 => ?_) (fun h1 => ?_))
  · have hjn : j < m + (l + wd) := by have := of_decide_eq_true h1; omega
    rw [i64_inc (by omega)]
    refine k14.rV rfl (k4.gs.at hjn fun a41 e41 => ⟨_, e41 1 _ rfl, _, B1g.ld (i := 0) rfl, ifP_of (fun h2 => ?_) (fun h2 => ?_)⟩)
    · have h2 : (edT (edH m l (l + wd) es 0) (l + wd) j j).t = ((l + wd : Nat) : Int) := of_decide_eq_true h2
      refine k14.rV rfl ⟨_, B1g.ld (i := 0) rfl, ?_⟩
      show ixS hv (j : Int) 4 fun a46 => stC g (a46.add 1) (.int .i64 (IntKind.i64.wrap (((l + wd : Nat) : Int) + 1))) _
      rw [show IntKind.i64.wrap (((l + wd : Nat) : Int) + 1) = ((l + wd + 1 : Nat) : Int) from i64_inc (by omega)]
      refine k4.setT hjn fun g2 F2 k4 => ?_
      have bs2 := bs2.fm F2 (by simp <;> omega)
      have k14 := k14.fm F2 (by simp <;> omega)
      refine mu_next (I := I) (k := m + (l + wd) - (j + 1)) ⟨j + 1, ow2, rfl, by omega, hjn, rfl, bs2, k14, k4.congr fun i hi => ?_⟩ (hlt hjn)
      unfold toJ
      by_cases e : i = j
      · subst e
        have h2' : (edH m l (l + wd) es 0 i).t = ((l + wd : Nat) : Int) := by
          unfold edT at h2; rwa [if_neg (by omega)] at h2
        rw [if_pos rfl]
        unfold edT
        rw [if_neg (c := i < i ∧ _) (by omega), if_pos ⟨by omega, h2'⟩]
      · rw [if_neg e]
        unfold edT
        by_cases e2 : i < j ∧ (edH m l (l + wd) es 0 i).t = ((l + wd : Nat) : Int)
        · rw [if_pos e2, if_pos ⟨by omega, e2.2⟩]
        · rw [if_neg e2, if_neg (fun h => e2 ⟨by omega, h.2⟩)]
    · have h2 : ¬ (edT (edH m l (l + wd) es 0) (l + wd) j j).t = ((l + wd : Nat) : Int) := of_decide_eq_false h2
      refine mu_next (I := I) (k := m + (l + wd) - (j + 1)) ⟨j + 1, ow2, rfl, by omega, hjn, rfl, bs2, k14, k4.congr fun i hi => ?_⟩ (hlt hjn)
      unfold edT at h2 ⊢
      rw [if_neg (c := j < j ∧ _) (by omega)] at h2
      by_cases e2 : i < j ∧ (edH m l (l + wd) es 0 i).t = ((l + wd : Nat) : Int)
      · rw [if_pos e2, if_pos ⟨by omega, e2.2⟩]
      · rw [if_neg e2, if_neg]
        rintro ⟨h3, h4⟩
        by_cases e : i = j
        · subst e; exact h2 h4
        · exact e2 ⟨by omega, h4⟩
  have hjn : j = m + (l + wd) := by have := of_decide_eq_false h1; omega
  rw [hjn] at k4
  clear hlt hkk hz h1 hj hjn hjm
  have Gh := k4.gs
  have B21 := k14.bl
  have B3g := B3.ext xg
  refine k14.ldN rfl ⟨_, B1g.ld (i := 0) rfl, _, B1g.ld (i := 0) rfl, end1 B3g ?_⟩
  rw [show IntKind.i64.wrap (((l + wd : Nat) : Int) + 1) = ((l + wd + 1 : Nat) : Int) from i64_inc (by omega)]
  refine (Solve_T (Gh.gr ((l + wd + 2 : Nat) : Int)) ((l + wd : Nat) : Int) ((l + wd + 1 : Nat) : Int) k2).mono ?_
  rintro r q54 ⟨x54, hA⟩
  have xx := (x.trans' xg).trans' x54
  have B21 := B21.ext x54
  have Gh := Gh.ext x54
  rcases hA with ⟨hw, rfl⟩ | ⟨_, n', s', t', c1, c2, f, sd2, en, e_s, e_t, hs, ht, hst, gd, rfl, S⟩
  · refine rt_ret ⟨_, rfl, _, _, rfl, new_bl_st rfl rfl (by simp [Value.oneCell']) ?_⟩
    intro b58 q60 hb58 x58 B58
    have xx := xx.trans' x58
    refine ifP_of (fun _ => ?_) (fun h => absurd (by simpa using h) hw)
    by_cases hsz : l + wd + 2 ≤ 1024 ∧ m + (l + wd) ≤ 4096
    · have g2 := sd.gdP hsz.1 hsz.2
      have e50 : wrong13 ((l + wd + 2 : Nat) : Int) (m + (l + wd)) (edP m l (l + wd) es) ((l + wd : Nat) : Int) ((l + wd + 1 : Nat) : Int) k2 = 50 := by
        have z := Gd.iff.2 g2
        have c1 : wrongC ((l + wd + 2 : Nat) : Int) (m + (l + wd)) (edP m l (l + wd) es) ((l + wd : Nat) : Int) = 0 := by unfold wrongC; rw [if_pos z, if_pos (by omega)]
        have c2 : wrongC ((l + wd + 2 : Nat) : Int) (m + (l + wd)) (edP m l (l + wd) es) ((l + wd + 1 : Nat) : Int) = 0 := by unfold wrongC; rw [if_pos z, if_pos (by omega)]
        have c3 : endsC ((l + wd + 2 : Nat) : Int) (m + (l + wd)) (edP m l (l + wd) es) ((l + wd : Nat) : Int) ((l + wd + 1 : Nat) : Int) = 0 := by unfold endsC; rw [if_pos c1, if_pos c2, if_neg (by omega)]
        unfold wrong13 at hw ⊢
        rw [if_pos c3] at hw ⊢
        split at hw
        · exact absurd rfl hw
        · rename_i h; rw [if_neg h]
      rw [e50]
      exact ifP_of (fun _ => ⟨rfl, xx⟩) (fun h => by simp at h)
    · have e3 : wrong13 ((l + wd + 2 : Nat) : Int) (m + (l + wd)) (edP m l (l + wd) es) ((l + wd : Nat) : Int) ((l + wd + 1 : Nat) : Int) k2 = 3 := by
        have z : faultG ((l + wd + 2 : Nat) : Int) (m + (l + wd)) (edP m l (l + wd) es) = (3, 0) := if_pos (by omega)
        have c1 : wrongC ((l + wd + 2 : Nat) : Int) (m + (l + wd)) (edP m l (l + wd) es) ((l + wd : Nat) : Int) = 3 := by unfold wrongC; rw [z, if_neg (by simp)]
        unfold wrong13 endsC
        rw [c1]; simp
      rw [e3]
      refine ifP_of (fun h => by simp at h) (fun _ => ifP_of (fun _ => ⟨_, (B21.ext x58).ld (i := 0) rfl, ifP_of (fun _ => ⟨rfl, xx⟩) (fun h4 => ⟨_, (B21.ext x58).ld rfl, (Gh.ext x58).len fun _ _ => ⟨?_, xx⟩⟩)⟩) (fun h => by simp at h))
      have h4 := of_decide_eq_false h4
      rw [decide_eq_true (by omega)]
  · have : n' = l + wd + 2 := by omega
    subst this
    have : s' = l + wd := by omega
    subst this
    have : t' = l + wd + 1 := by omega
    subst this
    have e := pairs_eq sd M S.mx
    rw [e]
    refine rt_ret ⟨_, rfl, _, _, rfl, new_bl_st rfl rfl (by simp [Value.oneCell']) ?_⟩
    intro b58 q60 hb58 x58 B58
    refine ifP_of (fun h => by simp at h) (fun _ => k12.len (natV_length _) fun _ _ => ⟨?_, xx.trans' x58⟩)
    rw [sortL_len]; simp
end

end Go.Proofs.YtdcamadeblojdaaGreat

namespace Go.Proofs.YtdcamadeblojdaaGreat
open Go Go.ChangeShapes Go.WideShapes Go.Deep Go.RowKit
set_option linter.unusedVariables false

/-- What a world's heap holds, all of it. -/
def hOf (w : World) : H := fun b => w.heap[b]?
theorem hOf_sub (w : World) : Sub (hOf w) w := fun _ _ h => h
theorem hOf_cell {w : World} {a : Addr} {v : Value} (h : w.cell? a = some v) : hcell (hOf w) a = some v := by
  exact h

theorem T.row {P : Program} {f : FuncId} {args : List Value} {w : World} (t : T P f args (hOf w) fun r h' => r = .ret (.bool true) ∧ Ext (hOf w) h') :
    Calls P f args.toArray w fun e w' => e = .returned (.bool true) ∧ Below w.heap.size w w' := by
  refine (t.2 w (hOf_sub w)).mono ?_
  rintro e w' ⟨h', hs, st, hq⟩
  have hr : e = .returned (.bool true) ∧ Ext (hOf w) h' := by
    split at hq
    · obtain ⟨h1, h2⟩ := hq
      cases h1
      exact ⟨rfl, h2⟩
    · obtain ⟨h1, _⟩ := hq
      cases h1
    · exact hq.elim
  refine ⟨hr.1, ⟨st.same.1, st.same.2.1, st.same.2.2, st.size, fun k hk => ?_⟩⟩
  have e1 : w.heap[k]? = some (w.heap[k]'hk) := Array.getElem?_eq_getElem hk
  rw [e1]
  exact hs k _ (hr.2 k _ e1)

def intFields (P : Program) (fs : Array Field) : Bool := (List.range fs.size).all fun i => match fs[i]? with
  | some f => match P.underlying f.type with
    | some (.int .i64) => true
    | _ => false
  | none => false
theorem intFields_of {P : Program} {fs : Array Field} (h : intFields P fs = true) : ∀ (i : Nat) (f : Field), fs[i]? = some f → P.underlying f.type = some (.int .i64) := by
  intro i f hi
  have hlt : i < fs.size := (Array.getElem?_eq_some_iff.1 hi).1
  have := List.all_eq_true.1 h i (List.mem_range.2 hlt)
  simp only [hi] at this
  split at this
  · assumption
  · cases this

end Go.Proofs.YtdcamadeblojdaaGreat

namespace Go.Proofs.YtdcamadeblojdaaGreat
open Go Go.ChangeShapes Go.WideShapes Go.Deep Go.RowKit
set_option linter.unusedVariables false

section
variable {K : Type} {enc : TypeId × Value → K} {P : Program} {w : World} {base : Nat} {spare : Nat → Bool} {held : Bool}

theorem okWide_array {r : Reach} {b0 : Nat} {t e : TypeId} {v : Value} {n : Nat} (ht : P.underlying t = some (.array n e)) (h : Value.okWide P w r b0 t v) : ∃ cs, v = .agg cs ∧ cs.size = P.cellsOf t := by
  simp only [Value.okWide, ht] at h
  obtain ⟨cs, h1, h2, _⟩ := h
  exact ⟨cs, h1, h2⟩

/-- A slice of records of whole numbers, wherever it lies. -/
theorem open_recsN {t e : TypeId} {fs : Array Field} {B fuel : Nat} {cs : List Value} {x : DataW K × List MemPlace}
    (ht : P.underlying t = some (.slice e)) (he : P.underlying e = some (.struct fs)) (hone : oneCellFields P fs = true) (hint : intFields P fs = true) (hC : P.cellsOf e = fs.size) (hB : P.bytesOf e = B)
    (hsz : ∀ el sp, x.1 = .slice el sp → (el.length + sp.length) * B ≤ 140737488351232)
    (hf : DataW.trod enc P w base spare held fuel t cs = some x) :
    ∃ a len cap, cs = [.slice a len cap] ∧ len * B ≤ 140737488351232 ∧ ∀ i, i < len → ∃ ad, a = some ad ∧ ∀ j, j < fs.size → ∃ n : Int, w.cell? (ad.add (i * fs.size + j)) = some (.int .i64 n) := by
  rcases open_slice ht hf with ⟨hcs, _⟩ | ⟨x', l, c, m, n, D, Pl, hcs, _, hl, _, hm, hx, hi⟩
  · exact ⟨none, 0, 0, hcs, by simp, fun i hi => by omega⟩
  · have hlm : l ≤ m := by
      rw [hm]
      split
      · exact hl
      · exact Nat.le_refl _
    refine ⟨some x', l, c, hcs, ?_, fun i hil => ⟨x', rfl, fun j hj => ?_⟩⟩
    · have z := hsz _ _ (by rw [hx])
      simp only [List.length_map, List.length_range] at z
      calc l * B ≤ (l + (m - l)) * B := Nat.mul_le_mul_right _ (by omega)
        _ ≤ _ := z
    · obtain ⟨cs', hc, ht'⟩ := hi i (by omega)
      rw [hC] at hc
      obtain ⟨ys, n', _, _, hlen, hyl, hg⟩ := DataW.trod_struct he ht'
      obtain ⟨_, hcl, hat⟩ := World.cells?_some hc
      have hfj : fs[j]? = some (fs[j]'hj) := Array.getElem?_eq_getElem hj
      obtain ⟨ho, hk⟩ := hone_of hone j _ hfj
      have hw1 := hg j _ hfj
      rw [ho, hk] at hw1
      have one : (cs'.drop j).take 1 = [cs'[j]'(by omega)] := by
        rw [List.drop_eq_getElem_cons (by omega)]
        rfl
      rw [one, List.getElem?_eq_getElem (by omega)] at hw1
      obtain ⟨z, hz, _, _⟩ := DataW.trod_int (intFields_of hint j _ hfj) hw1
      refine ⟨z, ?_⟩
      rw [← Go.Deep.add_add, hat j hj, List.getElem?_eq_getElem (by omega)]
      simpa using hz

theorem open_pair {r : Reach} {b0 : Nat} {t e : TypeId} {v : Value} {d : DataW K} {ps : List MemPlace} (ht : P.underlying t = some (.array 2 e)) (he : P.underlying e = some (.int .i64)) (hC : P.cellsOf t = 2) (hCe : P.cellsOf e = 1)
    (hv : Value.okWide P w r b0 t v) (h : DataW.Trod enc P w base spare held t v d ps) : ∃ s u : Int, v = .agg ⟨[.int .i64 s, .int .i64 u]⟩ := by
  obtain ⟨cs, rfl, hsz⟩ := okWide_array ht hv
  obtain ⟨l⟩ := cs
  match l, hsz.trans hC with
  | [c0, c1], _ =>
    obtain ⟨fuel, hf⟩ := h
    obtain ⟨xs, m, _, _, _, hl, hg⟩ := DataW.trod_array ht hf
    have h0 := hg 0 (by omega)
    have h1 := hg 1 (by omega)
    rw [hCe] at h0 h1
    rw [List.getElem?_eq_getElem (by omega)] at h0 h1
    have h0 : DataW.trod enc P w base spare held m e [c0] = _ := h0
    have h1 : DataW.trod enc P w base spare held m e [c1] = _ := h1
    obtain ⟨s, hs, _⟩ := DataW.trod_int he h0
    obtain ⟨u, hu, _⟩ := DataW.trod_int he h1
    simp only [List.cons.injEq, and_true] at hs hu
    subst hs hu
    exact ⟨s, u, rfl⟩

theorem open_struct2 {r : Reach} {b0 : Nat} {t : TypeId} {f0 f1 : Field} {v : Value} {d : DataW K} {p : List MemPlace} (hs : P.underlying t = some (.struct #[f0, f1])) (hone : oneCellFields P #[f0, f1] = true) (hC : P.cellsOf t = 2)
    (hv : Value.okWide P w r b0 t v) (h : DataW.Trod enc P w base spare held t v d p) :
    ∃ (v0 v1 : Value) (y0 y1 : DataW K × List MemPlace) (n : Nat), v = .agg ⟨[v0, v1]⟩ ∧ d = .agg [y0.1, y1.1] ∧
      DataW.trod enc P w base spare held n f0.type [v0] = some y0 ∧ DataW.trod enc P w base spare held n f1.type [v1] = some y1 := by
  obtain ⟨cs, rfl, hsz⟩ := okWide_struct hs hv
  obtain ⟨l⟩ := cs
  match l, hsz.trans hC with
  | [c0, c1], _ =>
    obtain ⟨fuel, hf⟩ := h
    obtain ⟨xs, n, _, hx, _, hlen, hg⟩ := DataW.trod_struct hs hf
    obtain ⟨o0, k0⟩ := hone_of hone 0 f0 rfl
    obtain ⟨o1, k1⟩ := hone_of hone 1 f1 rfl
    match xs, hlen with
    | [y0, y1], _ =>
      simp only [Prod.mk.injEq] at hx
      exact ⟨c0, c1, y0, y1, n, rfl, by simpa using hx.1, by simpa [Value.cells, o0, k0] using hg 0 f0 rfl, by simpa [Value.cells, o1, k1] using hg 1 f1 rfl⟩
end

/-- Edges read are edges. -/
theorem Gs.of_cells {W : World} {a : Option Addr} {len cap : Nat} (h : ∀ i, i < len → ∃ ad, a = some ad ∧ ∀ j, j < 4 → ∃ n : Int, W.cell? (ad.add (i * 4 + j)) = some (.int .i64 n)) :
    ∃ es, Gs (hOf W) (.slice a len cap) len es := by
  have h2 : ∀ i, ∃ o : Ed, i < len → ∃ ad, a = some ad ∧ hcells (hOf W) (ad.add (i * 4)) o.vs := by
    intro i
    by_cases hi : i < len
    · obtain ⟨ad, rfl, hc⟩ := h i hi
      obtain ⟨n0, h0⟩ := hc 0 (by decide)
      obtain ⟨n1, h1⟩ := hc 1 (by decide)
      obtain ⟨n2, h2⟩ := hc 2 (by decide)
      obtain ⟨n3, h3⟩ := hc 3 (by decide)
      refine ⟨⟨n0, n1, n2, n3⟩, fun _ => ⟨ad, rfl, fun j v hj => ?_⟩⟩
      rw [Go.Deep.add_add]
      match j, hj with
      | 0, hj => cases hj; exact hOf_cell h0
      | 1, hj => cases hj; exact hOf_cell h1
      | 2, hj => cases hj; exact hOf_cell h2
      | 3, hj => cases hj; exact hOf_cell h3
    · exact ⟨⟨0, 0, 0, 0⟩, fun h => absurd h hi⟩
  exact ⟨fun i => Classical.choose (h2 i), a, cap, rfl, fun i hi => Classical.choose_spec (h2 i) hi⟩

end Go.Proofs.YtdcamadeblojdaaGreat

namespace Go.Proofs.YtdcamadeblojdaaGreat
open Go Go.ChangeShapes Go.WideShapes Go.ChangeAt Go.RowKit
set_option linter.unusedVariables false

theorem own : ownKnob Tryz.prog.godebug = none := by kernel_rfl
theorem laidOut : laidOutB Tryz.prog = true := by kernel_rfl

end Go.Proofs.YtdcamadeblojdaaGreat

