import Derived.Test.YtdblngaacnpgmaaProg
import Derived.Shelf.Sort.Plain
import Derived.Shelf.Slices.In.SortNone
import Derived.Deep.Slices
import Derived.Deep.Fields
import Derived.ChangeSame
import Derived.SizedLaws
import Derived.WalkKit
import Derived.ProofKit
import Derived.OpenShut
import Derived.ShutString
import Derived.ChangeOld
import Derived.Below
import Derived.Test.YtdblngaacnpgmaaAK4
namespace Go.Proofs.Ytdblngaacnpgmaa
open Go
def ZS.lays189_ren : Go.Shelf.Ren := ⟨fun | 189 => 24 | 125 => 47 | 257 => 46 | 128 => 76 | 129 => 77 | 294 => 67 | 295 => 68 | 296 => 69 | 297 => 70 | 298 => 71 | 299 => 72 | 216 => 73 | 300 => 74 | 301 => 75 | 328 => 82 | 329 => 83 | 330 => 84 | 331 => 85 | 332 => 86 | 215 => 87 | 343 => 88 | n => n, fun | 28 => 26 | 3 => 3 | 46 => 92 | 0 => 0 | 51 => 125 | 53 => 127 | 4 => 4 | 183 => 117 | 182 => 116 | 131 => 122 | 5 => 5 | 9 => 9 | 218 => 152 | 222 => 59 | 228 => 159 | 229 => 31 | n => n, fun | n => n⟩
theorem ZS.lays189 : Go.Proofs.Lays.n189 Try.prog ZS.lays189_ren := {
  mixed := by kernel_rfl,
  f125 := Try.func47.trans (congrArg some (by kernel_rfl)),
  f128 := Try.func76.trans (congrArg some (by kernel_rfl)),
  f129 := Try.func77.trans (congrArg some (by kernel_rfl)),
  f189 := Try.func24.trans (congrArg some (by kernel_rfl)),
  f215 := Try.func87.trans (congrArg some (by kernel_rfl)),
  f216 := Try.func73.trans (congrArg some (by kernel_rfl)),
  f257 := Try.func46.trans (congrArg some (by kernel_rfl)),
  f294 := Try.func67.trans (congrArg some (by kernel_rfl)),
  f295 := Try.func68.trans (congrArg some (by kernel_rfl)),
  f296 := Try.func69.trans (congrArg some (by kernel_rfl)),
  f297 := Try.func70.trans (congrArg some (by kernel_rfl)),
  f298 := Try.func71.trans (congrArg some (by kernel_rfl)),
  f299 := Try.func72.trans (congrArg some (by kernel_rfl)),
  f300 := Try.func74.trans (congrArg some (by kernel_rfl)),
  f301 := Try.func75.trans (congrArg some (by kernel_rfl)),
  f328 := Try.func82.trans (congrArg some (by kernel_rfl)),
  f329 := Try.func83.trans (congrArg some (by kernel_rfl)),
  f330 := Try.func84.trans (congrArg some (by kernel_rfl)),
  f331 := Try.func85.trans (congrArg some (by kernel_rfl)),
  f332 := Try.func86.trans (congrArg some (by kernel_rfl)),
  f343 := Try.func88.trans (congrArg some (by kernel_rfl)),
  t0 := Try.underlying0,
  a0 := Try.isAgg0,
  z0 := Try.sizeOf0,
  v0 := Try.zeroValue0,
  t3 := Try.underlying3,
  a3 := Try.isAgg3,
  z3 := Try.sizeOf3,
  v3 := Try.zeroValue3,
  t4 := Try.underlying4,
  a4 := Try.isAgg4,
  z4 := Try.sizeOf4,
  v4 := Try.zeroValue4,
  t5 := Try.underlying5,
  a5 := Try.isAgg5,
  z5 := Try.sizeOf5,
  v5 := Try.zeroValue5,
  t9 := Try.underlying9,
  a9 := Try.isAgg9,
  z9 := Try.sizeOf9,
  v9 := Try.zeroValue9,
  t28 := Try.underlying26,
  a28 := Try.isAgg26,
  z28 := Try.sizeOf26,
  v28 := Try.zeroValue26,
  t46 := Try.underlying92,
  a46 := Try.isAgg92,
  z46 := Try.sizeOf92,
  v46 := Try.zeroValue92,
  t51 := Try.underlying125,
  a51 := Try.isAgg125,
  z51 := Try.sizeOf125,
  v51 := Try.zeroValue125,
  t53 := Try.underlying127,
  a53 := Try.isAgg127,
  z53 := Try.sizeOf127,
  v53 := Try.zeroValue127,
  t131 := Try.underlying122,
  a131 := Try.isAgg122,
  z131 := Try.sizeOf122,
  v131 := Try.zeroValue122,
  t182 := Try.underlying116,
  a182 := Try.isAgg116,
  z182 := Try.sizeOf116,
  v182 := Try.zeroValue116,
  t183 := Try.underlying117,
  a183 := Try.isAgg117,
  z183 := Try.sizeOf117,
  v183 := Try.zeroValue117,
  t218 := Try.underlying152,
  a218 := Try.isAgg152,
  z218 := Try.sizeOf152,
  v218 := Try.zeroValue152,
  t222 := Try.underlying59,
  a222 := Try.isAgg59,
  z222 := Try.sizeOf59,
  v222 := Try.zeroValue59,
  t228 := Try.underlying159,
  a228 := Try.isAgg159,
  z228 := Try.sizeOf159,
  v228 := Try.zeroValue159,
  t229 := Try.underlying31,
  a229 := Try.isAgg31,
  z229 := Try.sizeOf31,
  v229 := Try.zeroValue31 }
end Go.Proofs.Ytdblngaacnpgmaa

namespace Go.Proofs.Ytdblngaacnpgmaa
open Go Go.Sort
set_option linter.unusedVariables false
set_option linter.unusedSimpArgs false

/-- Rising. -/
def sortL (L : List Nat) : List Nat := L.mergeSort fun x y => decide (x ≤ y)
theorem sortL_perm (L : List Nat) : (sortL L).Perm L := List.mergeSort_perm _ _
theorem sortL_le (L : List Nat) : (sortL L).Pairwise (· ≤ ·) := by
  have := List.pairwise_mergeSort (le := fun x y : Nat => decide (x ≤ y)) (fun a b c h1 h2 => by simp at *; omega) (fun a b => by simp; omega) L
  exact this.imp fun h => by simpa using h
theorem sortL_len (L : List Nat) : (sortL L).length = L.length := (sortL_perm L).length_eq
theorem sortL_int (L : List Nat) : ((L.map fun a : Nat => (a : Int)).mergeSort fun x y => decide (x ≤ y)) = (sortL L).map fun a : Nat => (a : Int) := by
  unfold sortL
  rw [List.map_mergeSort (s := fun x y : Int => decide (x ≤ y))]
  intro a _ b _
  exact decide_eq_decide.2 (by omega)
theorem sort_T {own : Own} {h : H} {i : Nat} {v : Value} {L : List Nat} (s : S1 own h i v (natV L)) (hl : L.length < 1000000) :
    T Try.prog F.slices_Sort [v] h fun r h' => r = .ret (.tuple ⟨[]⟩) ∧ Fm [i] own h own h' ∧ S1 own h' i v (natV (sortL L)) := by
  refine ⟨⟨Try.f24, Try.func24, by kernel_rfl, by kernel_rfl⟩, fun w hw => ?_⟩
  rcases s with ⟨e1, rfl⟩ | ⟨b, hb, c, e, zs, rfl, h2, h3⟩
  · have hL : L = [] := by
      cases L with
      | nil => rfl
      | cons a l => simp [natV] at e1
    subst hL
    refine (Any.slices_Sort_int_none ZS.lays189 none 0 w).mono ?_
    rintro e w' ⟨rfl, rfl⟩
    exact ⟨h, hw, Stp.refl h w', rfl, Fm.refl, .inl ⟨by simp [sortL, natV], rfl⟩⟩
  · have hwb := hw b _ h2
    have hbs : b < w.heap.size := (Array.getElem?_eq_some_iff.1 hwb).1
    have cell : ∀ j, j < L.length → ((natV L ++ zs)[j]? : Option Value) = some (.int .i64 ((L.map fun a : Nat => (a : Int)).toArray[j]!)) := fun j hj => by
      rw [List.getElem?_append_left (by rw [natV_length]; exact hj), natV_get hj]
      simp [hj]
    have hH : Holds (Value.int .i64) w b 0 (L.map fun a : Nat => (a : Int)).toArray := fun j hj => by
      have hj : j < L.length := by simpa using hj
      constructor
      · unfold World.cell?
        rw [hwb]
        show (⟨natV L ++ zs⟩ : Array Value)[0 + j]? = _
        rw [Nat.zero_add, List.getElem?_toArray]
        exact cell j hj
      · unfold World.frozen?
        rw [hwb]
        simp
    have put : putCells (Value.int .i64) 0 ((sortL L).map fun a : Nat => (a : Int)).toArray ⟨natV L ++ zs⟩ = ⟨natV (sortL L) ++ zs⟩ := by
      have sl := sortL_len L
      apply Array.ext_getElem?
      intro k
      unfold putCells
      rw [Array.getElem?_mapIdx, List.getElem?_toArray, List.getElem?_toArray]
      by_cases hk : k < L.length
      · rw [cell k hk, List.getElem?_append_left (by rw [natV_length]; omega), natV_get (by omega)]
        simp [show k < (sortL L).length by omega]
      · rw [List.getElem?_append_right (by rw [natV_length]; omega), List.getElem?_append_right (by rw [natV_length]; omega), natV_length, natV_length, sl]
        cases zs[k - L.length]? with
        | none => rfl
        | some y => simp [show ¬ k < (sortL L).length by omega]
    rw [natV_length]
    have := Any.slices_Sort_int ZS.lays189 b 0 c (L.map fun a : Nat => (a : Int)) w hH hbs (by rw [List.length_map]; omega)
    rw [List.length_map, sortL_int] at this
    refine this.mono ?_
    rintro e' w' ⟨rfl, n, os, rfl⟩
    refine ⟨fun x => if x = b then some (.cells ⟨natV (sortL L) ++ zs⟩ e (0, 0)) else h x, fun x o hx => ?_, ⟨⟨rfl, rfl, rfl⟩, ?_, fun x hx hn => ?_⟩, rfl, ?_, ?_⟩
    · have hsz : x < w.heap.size → (grow (putRow (Value.int .i64) (Go.Sort.ahead w n) b 0 ((sortL L).map fun a : Nat => (a : Int)).toArray) os).heap[x]? = (w.heap.modify b (onCells (putCells (Value.int .i64) 0 ((sortL L).map fun a : Nat => (a : Int)).toArray)))[x]? := fun hlt => by
        show ((w.heap.modify b _) ++ os)[x]? = _
        rw [Array.getElem?_append_left (by simpa using hlt)]
      (try dsimp only at hx)
      by_cases e1 : x = b
      · subst e1
        rw [if_pos rfl] at hx
        rw [hsz hbs, Array.getElem?_modify, if_pos rfl, hwb, ← hx]
        show some (Obj.cells _ e (0, 0)) = _
        rw [put]
      · rw [if_neg e1] at hx
        have hwx := hw x o hx
        rw [hsz (Array.getElem?_eq_some_iff.1 hwx).1, Array.getElem?_modify, if_neg (Ne.symm e1)]
        exact hwx
    · simp
    · have e1 : x ≠ b := by rintro rfl; rw [h2] at hn; cases hn
      refine ⟨?_, by rw [if_neg e1]; exact hn⟩
      show ((w.heap.modify b _) ++ os)[x]? = _
      rw [Array.getElem?_append_left (by simpa using hx), Array.getElem?_modify, if_neg (Ne.symm e1)]
    · refine Fm.kp (b := b) (fun x o hne hx => ?_) hb ⟨_, if_pos rfl⟩
      rw [if_neg hne]; exact hx
    · refine .inr ⟨b, hb, c, e, zs, by rw [natV_length, sortL_len], if_pos rfl, ?_⟩
      rw [natV_length] at h3 ⊢
      rw [sortL_len]; exact h3

end Go.Proofs.Ytdblngaacnpgmaa

namespace Go.Proofs.Ytdblngaacnpgmaa
open Go
set_option linter.unusedVariables false
set_option linter.unusedSimpArgs false
set_option maxHeartbeats 1000000

def sidesFrom (left : Int) (es : Nat → Ed) : Nat → Nat → Int × Int
  | _, 0 => (0, 0)
  | i, k + 1 => if (decide ((es i).f < left) == decide ((es i).t < left)) = true then (140, (i : Int)) else sidesFrom left es (i + 1) k
/-- The fault of a graph and a number of nodes of its left side. -/
def sidesG (n : Int) (m : Nat) (es : Nat → Ed) (left : Int) : Int × Int :=
  if (faultG n m es).1 ≠ 0 then faultG n m es else if left < 0 ∨ n < left then (140, 0) else sidesFrom left es 0 m
theorem sidesFrom_0 {left : Int} {es : Nat → Ed} : ∀ {k i : Nat}, (sidesFrom left es i k).1 = 0 → ∀ j, i ≤ j → j < i + k → (decide ((es j).f < left) == decide ((es j).t < left)) = false
  | 0, i, _, j, h1, h2 => by omega
  | k + 1, i, h, j, h1, h2 => by
    unfold sidesFrom at h
    split at h
    · cases h
    · rename_i hh
      by_cases e : j = i
      · subst e; simpa using hh
      · exact sidesFrom_0 h j (by omega) (by omega)
theorem sidesFrom_of {left : Int} {es : Nat → Ed} : ∀ {k i : Nat}, (∀ j, i ≤ j → j < i + k → (decide ((es j).f < left) == decide ((es j).t < left)) = false) → sidesFrom left es i k = (0, 0)
  | 0, i, _ => rfl
  | k + 1, i, h => by
    unfold sidesFrom
    rw [h i (by omega) (by omega), if_neg (by simp)]
    exact sidesFrom_of fun j h1 h2 => h j (by omega) (by omega)
/-- Two sides. -/
structure Sd (l wd m : Nat) (es : Nat → Ed) : Prop where
  gd : Gd (l + wd) m es
  sd : ∀ i, i < m → lfE es i < l ∧ l ≤ rtE es i ∧ rtE es i < l + wd
theorem Sd.of {n left : Int} {m : Nat} {es : Nat → Ed} (h : (sidesG n m es left).1 = 0) : ∃ l wd : Nat, left = l ∧ n = ((l + wd : Nat) : Int) ∧ Sd l wd m es := by
  unfold sidesG at h
  split at h
  · rename_i h1; exact absurd h h1
  · rename_i h1
    have h1 : (faultG n m es).1 = 0 := by omega
    obtain ⟨n', rfl, gd⟩ := Gd.of h1
    split at h
    · cases h
    · rename_i h2
      refine ⟨left.toNat, n' - left.toNat, by omega, by omega, ?_⟩
      have e : left.toNat + (n' - left.toNat) = n' := by omega
      rw [← e] at gd
      refine ⟨gd, fun i hi => ?_⟩
      have k := sidesFrom_0 h i (by omega) (by omega)
      obtain ⟨f1, f2⟩ := gd.fr hi
      obtain ⟨t1, t2⟩ := gd.to hi
      rw [f1, t1] at k
      have k2 : ¬ ((decide (((frE es i : Nat) : Int) < left)) = (decide (((toE es i : Nat) : Int) < left))) := fun e => by rw [e] at k; simp at k
      rw [decide_eq_decide] at k2
      unfold lfE rtE
      omega
theorem Sd.no {l wd m : Nat} {es : Nat → Ed} (s : Sd l wd m es) : sidesG ((l + wd : Nat) : Int) m es l = (0, 0) := by
  unfold sidesG
  rw [s.gd.no, if_neg (by simp), if_neg (by omega)]
  refine sidesFrom_of fun j _ hj => ?_
  obtain ⟨f1, f2⟩ := s.gd.fr (i := j) (by omega)
  obtain ⟨t1, t2⟩ := s.gd.to (i := j) (by omega)
  have k := s.sd j (by omega)
  unfold lfE rtE at k
  rw [f1, t1]
  rcases Nat.lt_or_ge (frE es j) l with a | a
  · rw [decide_eq_true (by omega), decide_eq_false (by omega)]; rfl
  · rw [decide_eq_false (by omega), decide_eq_true (by omega)]; rfl
section
variable {h : H} {w : List Value} {n : Int} {m : Nat} {es : Nat → Ed}
theorem Sides_T (G : GrA h w n m es) (left : Int) : T Try.prog F.bimatch_Sides [.agg ⟨w⟩, .int .i64 left] h fun r h' =>
    r = .ret (.agg ⟨[.int .i64 (sidesG n m es left).1, .int .i64 (sidesG n m es left).2]⟩) ∧ Ext h h' := by
  refine E_bimatch_Sides ?_
  unfold B_bimatch_Sides
  refine new_bl ?_
  intro b1 g hb x B
  refine new_bl ?_
  intro b3 g3 hb3 x3 B3
  have B1_ := B.ext x3
  have hb3h := x.new hb3
  have xh := x.trans' x3
  have out : ∀ {q : H} {p : Int × Int}, Ext g3 q → (∃ z, z.length = 2 ∧ Bl q b3 z) → sidesG n m es left = p → stN q (bk b3) [.int .i64 p.1, .int .i64 p.2] 2 fun h8 => ldN h8 (bk b3) 2 fun x9 =>
      Res.ret (.agg ⟨x9⟩) = .ret (.agg ⟨[.int .i64 (sidesG n m es left).1, .int .i64 (sidesG n m es left).2]⟩) ∧ Ext h h8 := by
    rintro q p xq ⟨z, hz, Bz⟩ rfl
    refine Bz.stN rfl hz (by simp [Value.oneCell']) ?_
    intro q2 kp B2
    refine B2.ldN rfl ⟨rfl, (xh.trans' xq).of_kp kp hb3h⟩
  refine B1_.ldN G.one.1 ((Check_T (G.ext xh)).mono ?_)
  rintro _ g7 ⟨rfl, x7⟩
  refine rt_ret ⟨_, rfl, rfl, new_bl_st rfl rfl (by simp [Value.oneCell']) ?_⟩
  intro b9 g9 hb9 x9 B9
  have x79 := x7.trans' x9
  have B3_ : Bl g9 b3 _ := B3.ext x79
  refine ⟨_, B9.ld rfl, ifP_of (fun h1 => ?_) (fun h1 => ?_)⟩
  · have h1 : (faultG n m es).1 ≠ 0 := by simpa using h1
    have e : sidesG n m es left = faultG n m es := if_pos h1
    refine B9.ldN rfl (out (p := (faultG n m es)) x79 ⟨_, rfl, B3_⟩ e)
  have h1 : (faultG n m es).1 = 0 := by simpa using h1
  have B1_ := B1_.ext x79
  obtain ⟨gv, rfl, Gv⟩ := G.gs
  have hm : m ≤ 4096 := by obtain ⟨_, _, gd⟩ := Gd.of h1; exact gd.m1
  have bad : (left < 0 ∨ n < left) → sidesG n m es left = (140, 0) := fun hh => by unfold sidesG; rw [if_neg (by omega), if_pos hh]
  refine ifP_of (fun h2 => out (p := (140, 0)) x79 ⟨_, rfl, B3_⟩ (bad (.inl (of_decide_eq_true h2)))) (fun h2 => ?_)
  have h2 := of_decide_eq_false h2
  refine ⟨_, B1_.ld rfl, ifP_of (fun h3 => out (p := (140, 0)) x79 ⟨_, rfl, B3_⟩ (bad (.inr (of_decide_eq_true h3)))) (fun h3 => ?_)⟩
  have h3 := of_decide_eq_false h3
  have e : sidesG n m es left = sidesFrom left es 0 m := by unfold sidesG; rw [if_neg (by omega), if_neg (by omega)]
  have Gx := Gv.ext (xh.trans' x79)
  refine ⟨_, B1_.ld rfl, Gx.len fun _ _ => ?_⟩
  let I : (Int × Unit) → H → Nat → Prop := fun s g2 k => ∃ i : Nat, s.1 = i ∧ i ≤ m ∧ k = m - i ∧ Ext g9 g2 ∧ sidesFrom left es i (m - i) = sidesFrom left es 0 m
  refine ⟨fun s g2 => ∃ k, I s g2 k, rk I, rk_wf I, ⟨_, 0, rfl, by omega, rfl, Ext.refl _, rfl⟩, ?_⟩
  intro s g2 hI
  obtain ⟨i, e1, hi, hz, xq, hf⟩ := mu_spec hI
  generalize hkk : mu I ((s, ()), g2) = km at *
  change s = (i : Int) at e1
  subst e1
  refine ifP_of (fun h4 => ?_) (fun h4 => ?_)
  · have him : i < m := by have := of_decide_eq_true h4; omega
    refine (Gx.ext xq).at him fun a29 e29 => ⟨(es i).vs, rfl, e29, ?_⟩
    refine new_bl_st rfl rfl (ed_one _) ?_
    intro b31 g31 hb31 x31 B31
    obtain ⟨j, hj⟩ : ∃ j, m - i = j + 1 := ⟨m - i - 1, by omega⟩
    refine ⟨_, B31.ed.1, _, B31.ed.2.1, ifP_of (fun h5 => ?_) (fun h5 => ?_)⟩
    · refine out (p := (140, (i : Int))) (x79.trans' (xq.trans' x31)) ⟨_, rfl, B3_.ext (xq.trans' x31)⟩ ?_
      rw [e, ← hf, hj]
      unfold sidesFrom
      rw [if_pos h5]
    · rw [i64_inc (by omega)]
      refine mu_next (I := I) (k := m - (i + 1)) ⟨i + 1, rfl, him, rfl, xq.trans' x31, ?_⟩ (by rw [hkk, hz]; omega)
      rw [← hf, hj, show m - (i + 1) = j by omega]
      conv => rhs; unfold sidesFrom
      rw [if_neg (by rw [h5]; simp)]
  · have him : i = m := by have := of_decide_eq_false h4; omega
    subst him
    refine out (p := (0, 0)) (x79.trans' xq) ⟨_, rfl, B3_.ext xq⟩ ?_
    rw [e, ← hf, Nat.sub_self]
    rfl
end

end Go.Proofs.Ytdblngaacnpgmaa

namespace Go.Proofs.Ytdblngaacnpgmaa
open Go
set_option linter.unusedVariables false
set_option linter.unusedSimpArgs false
set_option maxHeartbeats 2000000

theorem S1.ad {own : Own} {h : H} {i n j : Nat} {v : Value} {f : Nat → Int} {K : Addr → Prop} (s : S1 own h i v (ints n f)) (hj : j < n)
    (k : ∀ a : Addr, hcell h a = some (.int .i64 (f j)) → (∀ (x : Int) (K' : H → Prop), (∀ g, Fm [i] own h own g → S1 own g i v (ints n (upd f j x)) → K' g) → stC h a (.int .i64 x) K') → K a) : ixS v (j : Int) 1 K := by
  have A := fun K' k' => s.at (K := K') (ints_get hj) k'
  have S := fun x (K' : H → Prop) k' => s.setI (x := x) (K := K') hj k'
  rcases s with ⟨e, rfl⟩ | ⟨b, hb, c, e, zs, rfl, h2, h3⟩
  · have := congrArg List.length e
    rw [ints_length] at this
    simp at this; omega
  · have A1 := A (fun a => hcell h a = some (.int .i64 (f j))) (fun a e => e)
    exact ⟨A1.1, A1.2.1, k _ A1.2.2 fun x K' k' => (S x K' k').2.2⟩
section
variable {l wd m j v c : Nat} {es : Nat → Ed} {bs : Nat → Nat → Nat}
theorem BsP.zero : BsP l wd 0 es (fun _ _ => 0) := ⟨fun _ _ _ _ => Nat.le_refl _, fun _ _ i _ _ h => by omega, fun i _ _ h => by omega⟩
theorem BsP.no (B : BsP l wd j es bs) (hv : lfE es j = v) (hc : rtE es j = l + c) (h : (es j).k ≤ 0 ∨ (0 < bs v c ∧ (es j).k ≤ (es (bs v c - 1)).k)) : BsP l wd (j + 1) es bs := by
  refine ⟨fun v c hv hc => by have := B.bm v c hv hc; omega, B.bw, fun i v' c' hi hv' hc' e1 e2 e3 => ?_⟩
  by_cases e : i = j
  · subst e
    have ev : v' = v := by omega
    have ec : c' = c := by omega
    rw [ev, ec]
    rcases h with h | h
    · omega
    · exact h
  · exact B.le i v' c' (by omega) hv' hc' e1 e2 e3
/-- A heavier edge. -/
def upBs (bs : Nat → Nat → Nat) (v c j : Nat) (v' c' : Nat) : Nat := if v' = v ∧ c' = c then j + 1 else bs v' c'
theorem BsP.yes (B : BsP l wd j es bs) (hv : lfE es j = v) (hc : rtE es j = l + c) (hk : 0 < (es j).k) (h : bs v c = 0 ∨ (es (bs v c - 1)).k < (es j).k) : BsP l wd (j + 1) es (upBs bs v c j) := by
  refine ⟨fun v' c' hv' hc' => ?_, fun v' c' i hv' hc' hb => ?_, fun i v' c' hi hv' hc' e1 e2 e3 => ?_⟩
  · unfold upBs; split
    · omega
    · have := B.bm v' c' hv' hc'; omega
  · unfold upBs at hb; split at hb
    · rename_i e
      have : i = j := by omega
      subst this
      exact ⟨by omega, by omega, hk⟩
    · exact B.bw v' c' i hv' hc' hb
  · unfold upBs; split
    · rename_i e
      obtain ⟨rfl, rfl⟩ := e
      refine ⟨by omega, ?_⟩
      rw [Nat.add_sub_cancel]
      by_cases e : i = j
      · subst e; exact Int.le_refl _
      · have := B.le i v' c' (by omega) hv' hc' e1 e2 e3
        rcases h with h | h <;> omega
    · rename_i e
      by_cases e4 : i = j
      · subst e4; exact absurd ⟨by omega, by omega⟩ e
      · exact B.le i v' c' (by omega) hv' hc' e1 e2 e3
theorem lkE_bd (gd : ∀ i, i < m → -1048576 ≤ (es i).k ∧ (es i).k ≤ 1048576) : ∀ {L : List Nat}, (∀ i, i ∈ L → i < m) → -((L.length : Int) * 1048576) ≤ lkE es L ∧ lkE es L ≤ (L.length : Int) * 1048576
  | [], _ => by show -(((0 : Nat) : Int) * 1048576) ≤ (0 : Int) ∧ (0 : Int) ≤ ((0 : Nat) : Int) * 1048576; omega
  | i :: L, h => by
    have a := lkE_bd gd (L := L) fun x hx => h x (List.mem_cons_of_mem _ hx)
    have b := gd i (h i List.mem_cons_self)
    show -(((L.length + 1 : Nat) : Int) * 1048576) ≤ (es i).k + lkE es L ∧ (es i).k + lkE es L ≤ ((L.length + 1 : Nat) : Int) * 1048576
    omega
theorem lkE_take {L : List Nat} {j : Nat} (hj : j < L.length) : lkE es (L.take (j + 1)) = lkE es (L.take j) + (es L[j]).k := by
  rw [List.take_add_one, List.getElem?_eq_getElem hj, lkE_app]
  show _ + ((es L[j]).k + 0) = _
  omega
end
/-- What is done for two sides. -/
def BAs (p1_left p2_kind : Int) (b1 : Nat) (R : Res → H → Prop) (h9 : H) : Prop :=
  ldI h9 ((bk b1).add 0) .i64 fun x12 =>
  mkS p1_left p1_left 24 [.slice none 0 0] 26 h9 fun b13 h14 =>
  newP h14 (.cells ⟨[.int .i64 p1_left, .int .i64 x12, .slice (some (bk b13)) p1_left.toNat p1_left.toNat, .slice none 0 0]⟩ 58 (0, 0)) fun b15 h16 =>
  ldV h16 ((bk b15).add 2) fun x17 =>
  slcP x17 fun a18 l19 c20 =>
  ∃ (I21 : (Int × Unit) → H → Prop) (r22 : (Int × Unit) × H → (Int × Unit) × H → Prop), WellFounded r22 ∧ I21 (0, ()) h16 ∧
  ∀ (s24 : Int) (h23 : H), I21 (s24, ()) h23 →
  ifP (decide (s24 < ((l19 : Nat) : Int))) (ldV h23 ((bk b15).add 2) fun x25 =>
  ldI h23 ((bk b1).add 0) .i64 fun x26 =>
  mkS (IntKind.i64.wrap (x26 - p1_left)) (IntKind.i64.wrap (x26 - p1_left)) 8 [.int .i64 0] 3 h23 fun b27 h28 =>
  ixS x25 s24 1 fun a29 =>
  stC h28 a29 (.slice (some (bk b27)) ((IntKind.i64.wrap (x26 - p1_left)).toNat) ((IntKind.i64.wrap (x26 - p1_left)).toNat)) fun h30 =>
  I21 ((IntKind.i64.wrap (s24 + 1)), ()) h30 ∧ r22 (((IntKind.i64.wrap (s24 + 1)), ()), h30) ((s24, ()), h23))
  (ldV h23 ((bk b1).add 1) fun x31 =>
  slcP x31 fun a32 l33 c34 =>
  ∃ (I35 : (Int × Unit) → H → Prop) (r36 : (Int × Unit) × H → (Int × Unit) × H → Prop), WellFounded r36 ∧ I35 (0, ()) h23 ∧
  ∀ (s38 : Int) (h37 : H), I35 (s38, ()) h37 →
  ifP (decide (s38 < ((l33 : Nat) : Int))) (ixS x31 s38 4 fun a39 =>
  ldN h37 a39 4 fun x40 =>
  newP h37 (.cells ⟨[.int .i64 0, .int .i64 0, .int .i64 0, .int .i64 0]⟩ 41 (0, 0)) fun b41 h42 =>
  stN h42 (bk b41) x40 4 fun h43 =>
  ldV h43 ((bk b15).add 3) fun x44 =>
  ldI h43 ((bk b41).add 3) .i64 fun x45 =>
  newP h43 (.cells ⟨[.int .i64 x45]⟩ 2 (0, 0)) fun b46 h47 =>
  apP x44 (.slice (some (bk b46)) 1 1) h47 1 2 8 [.int .i64 0] fun s48 h49 =>
  oneP s48 (stC h49 ((bk b15).add 3) s48 fun h50 =>
  ldI h50 ((bk b41).add 0) .i64 fun x51 =>
  ldI h50 ((bk b41).add 1) .i64 fun x52 =>
  ldI h50 ((bk b41).add 0) .i64 fun x53 =>
  ldI h50 ((bk b41).add 1) .i64 fun x54 =>
  ldV h50 ((bk b15).add 2) fun x55 =>
  ixS x55 (if x52 < x51 then x52 else x51) 1 fun a56 =>
  ldV h50 a56 fun x57 =>
  ixS x57 (IntKind.i64.wrap ((if x53 < x54 then x54 else x53) - p1_left)) 1 fun a58 =>
  ldI h50 ((bk b41).add 3) .i64 fun x59 =>
  ifP (decide (0 < x59)) (ldI h50 a58 .i64 fun x60 =>
  ifP (decide (x60 = 0)) (stC h50 a58 (.int .i64 (IntKind.i64.wrap (s38 + 1))) fun h61 =>
  I35 ((IntKind.i64.wrap (s38 + 1)), ()) h61 ∧ r36 (((IntKind.i64.wrap (s38 + 1)), ()), h61) ((s38, ()), h37)) (ldI h50 ((bk b41).add 3) .i64 fun x62 =>
  ldV h50 ((bk b15).add 3) fun x63 =>
  ldI h50 a58 .i64 fun x64 =>
  ixS x63 (IntKind.i64.wrap (x64 - 1)) 1 fun a65 =>
  ldI h50 a65 .i64 fun x66 =>
  ifP (decide (x66 < x62)) (stC h50 a58 (.int .i64 (IntKind.i64.wrap (s38 + 1))) fun h67 =>
  I35 ((IntKind.i64.wrap (s38 + 1)), ()) h67 ∧ r36 (((IntKind.i64.wrap (s38 + 1)), ()), h67) ((s38, ()), h37))
  (I35 ((IntKind.i64.wrap (s38 + 1)), ()) h50 ∧ r36 (((IntKind.i64.wrap (s38 + 1)), ()), h50) ((s38, ()), h37)))) (I35 ((IntKind.i64.wrap (s38 + 1)), ()) h50 ∧ r36 (((IntKind.i64.wrap (s38 + 1)), ()), h50) ((s38, ()), h37))))
  (∃ J68 : (Value × Value × Unit) → H → Prop, (ifP (decide (p2_kind = 1)) (T Try.prog F.assign_table_byRows [.pointer (some (bk b15))] h37 (rt (fun v72 h73 =>
  ∃ r74 : Value, ∃ r75 : Value, v72 = .tuple ⟨[r74, r75]⟩ ∧
  J68 (r74, r75, ()) h73) (fun v76 h77 => R (.pan v76) h77)))
  (T Try.prog F.assign_table_byTrees [.pointer (some (bk b15))] h37 (rt (fun v78 h79 =>
  ∃ r80 : Value, ∃ r81 : Value, v78 = .tuple ⟨[r80, r81]⟩ ∧
  J68 (r80, r81, ()) h79) (fun v82 h83 => R (.pan v82) h83)))) ∧
  (∀ (match_70 : Value) (pot_71 : Value) (h69 : H), J68 (match_70, pot_71, ()) h69 →
  T Try.prog F.slices_Sort [match_70] h69 (rt (fun v84 h85 =>
  v84 = .tuple ⟨[]⟩ ∧
  slcP match_70 fun a86 l87 c88 =>
  ∃ (I89 : (Int × Int × Unit) → H → Prop) (r90 : (Int × Int × Unit) × H → (Int × Int × Unit) × H → Prop), WellFounded r90 ∧ I89 (0, 0, ()) h85 ∧
  ∀ (cost_92 : Int) (s93 : Int) (h91 : H), I89 (cost_92, s93, ()) h91 →
  ifP (decide (s93 < ((l87 : Nat) : Int))) (ixS match_70 s93 1 fun a94 =>
  ldI h91 a94 .i64 fun x95 =>
  ldV h91 ((bk b15).add 3) fun x96 =>
  ixS x96 x95 1 fun a97 =>
  ldI h91 a97 .i64 fun x98 =>
  I89 ((IntKind.i64.wrap (cost_92 + x98)), (IntKind.i64.wrap (s93 + 1)), ()) h91 ∧ r90 (((IntKind.i64.wrap (cost_92 + x98)), (IntKind.i64.wrap (s93 + 1)), ()), h91) ((cost_92, s93, ()), h91))
  (R (.ret (.tuple ⟨[match_70, pot_71, .int .i64 cost_92, .int .i64 0]⟩)) h91)) (fun v99 h100 => R (.pan v99) h100)))))
section
variable {own : Own} {h0 h9 : H} {b1 l wd m : Nat} {gv : Value} {es : Nat → Ed} {R : Res → H → Prop} {kind : Int}
theorem solveAs (bs : Bs h0 own h9) (k15 : B1 own h9 15 b1 [.int .i64 ((l + wd : Nat) : Int), gv]) (Gv : Gs h0 gv m es) (sd : Sd l wd m es) (hk : kind = 1 ∨ kind = 2)
    (hR : ∀ (own' : Own) (h' : H) (mv pv : Value) (L : List Nat) (pt : Nat → Int), Bs h0 own' h' → S1 own' h' 12 mv (natV (sortL L)) → S1 own' h' 5 pv (ints (l + wd) pt) → MaR (l + wd) m l es L pt →
      R (.ret (.tuple ⟨[mv, pv, .int .i64 (lkE es L), .int .i64 0]⟩)) h') : BAs (l : Int) kind b1 R h9 := by
  have hl := sd.gd.n1
  have hm := sd.gd.m1
  unfold BAs
  refine k15.rI rfl ?_
  refine mk_S1 2 (by omega) (by omega) ?_
  intro b13 h14 hb13 x13 k2
  have bs := bs.nw (j := 2) x13 hb13
  have k15 := k15.nw (j := 2) x13 hb13
  have k2 := k2 own
  generalize own1 own b13 2 = ow at *
  refine new_bl ?_
  intro b15 h16 hb15 x15 B15
  have k1 : B1 (own1 ow b15 1) h16 1 b15 _ := B1.new B15
  have bs := bs.nw (j := 1) x15 hb15
  have k15 := k15.nw (j := 1) x15 hb15
  have k2 := k2.nw (j := 1) x15 hb15
  generalize own1 ow b15 1 = ow at *
  simp only [Int.toNat_natCast] at k1 ⊢
  clear hb13 x13 hb15 x15 B15
  refine k1.rV rfl (slcP_mk ?_)
  -- the rows of the table
  let I1 : (Int × Unit) → H → Nat → Prop := fun s g z => ∃ (j : Nat) (ow : Own) (vals : Nat → Value), s.1 = j ∧ j ≤ l ∧ z = l - j ∧ Bs h0 ow g ∧ B1 ow g 15 b1 [.int .i64 ((l + wd : Nat) : Int), gv] ∧
    B1 ow g 1 b15 [.int .i64 l, .int .i64 ((l + wd : Nat) : Int), .slice (some (bk b13)) l l, .slice none 0 0] ∧ S1 ow g 2 (.slice (some (bk b13)) l l) (va l vals) ∧ ∀ v, v < j → S1 ow g (40 + v) (vals v) (ints wd fun _ => 0)
  refine ⟨fun p q => ∃ k, I1 p q k, rk I1, rk_wf I1, ⟨_, 0, ow, _, rfl, by omega, rfl, bs, k15, k1, k2, fun v hv => by omega⟩, ?_⟩
  clear bs k15 k1 k2
  intro s g hI
  obtain ⟨j, ow, vals, e1, hj, hz, bs, k15, k1, k2, kv⟩ := mu_spec hI
  generalize hkk : mu I1 ((s, ()), g) = km at *
  change s = (j : Int) at e1
  subst e1
  have hlt : j < l → l - (j + 1) < mu I1 (((j : Int), ()), g) := fun h => by rw [hkk, hz]; exact sub_dec h
  clear hI
  refine ifP_of (fun h1 => ?_) (fun h1 => ?_)
  · have hjl : j < l := by have := of_decide_eq_true h1; omega
    have ew : IntKind.i64.wrap (((l + wd : Nat) : Int) - l) = (wd : Int) := by rw [show ((l + wd : Nat) : Int) - l = wd by omega]; exact w64_in (by omega) (by omega)
    refine k1.rV rfl (k15.rI rfl ?_)
    simp only [ew]
    refine mk_ints (40 + j) (by omega) (by omega) ?_
    intro b27 h28 hb27 x27 kj
    have kv : ∀ v, v < j → S1 (own1 ow b27 (40 + j)) h28 (40 + v) (vals v) (ints wd fun _ => 0) := fun v hv => (kv v hv).nw x27 hb27
    have bs := bs.nw (j := 40 + j) x27 hb27
    have k15 := k15.nw (j := 40 + j) x27 hb27
    have k1 := k1.nw (j := 40 + j) x27 hb27
    have k2 := k2.nw (j := 40 + j) x27 hb27
    have kj := kj ow
    generalize own1 ow b27 (40 + j) = ow at *
    simp only [Int.toNat_natCast]
    refine k2.setV hjl fun g2 F2 k2 => ?_
    have bs := bs.fm F2 (by simp <;> omega)
    have k15 := k15.fm F2 (by simp <;> omega)
    have k1 := k1.fm F2 (by simp <;> omega)
    have kj := kj.fm F2 (by simp; omega)
    rw [i64_inc (by omega)]
    refine mu_next (I := I1) (k := l - (j + 1)) ⟨j + 1, ow, _, rfl, hjl, rfl, bs, k15, k1, k2, fun v hv => ?_⟩ (hlt hjl)
    by_cases e : v = j
    · subst e
      unfold updV; rw [if_pos rfl]; exact kj
    · unfold updV; rw [if_neg e]
      exact (kv v (by omega)).fm F2 (by simp; omega)
  have hjl : j = l := by have := of_decide_eq_false h1; omega
  rw [hjl] at kv
  clear hlt hkk hz h1 hj hjl
  refine k15.rV rfl ((Gv.ext bs.ext).len fun _ _ => ?_)
  -- the heaviest edges
  let I2 : (Int × Unit) → H → Nat → Prop := fun s g z => ∃ (j : Nat) (ow : Own) (vc : Value) (tb : Nat → Nat → Nat), s.1 = j ∧ j ≤ m ∧ z = m - j ∧ Bs h0 ow g ∧ 
    B1 ow g 1 b15 [.int .i64 l, .int .i64 ((l + wd : Nat) : Int), .slice (some (bk b13)) l l, vc] ∧ S1 ow g 2 (.slice (some (bk b13)) l l) (va l vals) ∧ S1 ow g 3 vc (ints j (ckE es)) ∧
    (∀ v, v < l → S1 ow g (40 + v) (vals v) (ints wd fun c => (tb v c : Nat))) ∧ BsP l wd j es tb ∧ ∀ v c i, tb v c = i + 1 → i < j ∧ 0 < (es i).k
  refine ⟨fun p q => ∃ k, I2 p q k, rk I2, rk_wf I2, ⟨_, 0, ow, .slice none 0 0, fun _ _ => 0, rfl, by omega, rfl, bs, k1, k2, S1.nil, kv, BsP.zero, fun v c i h => absurd (show 0 = i + 1 from h) (by omega)⟩, ?_⟩
  clear bs k1 k2 kv k15
  intro s g hI
  obtain ⟨j, ow, vc, tb, e1, hj, hz, bs, k1, k2, k3, kv, B, hb0⟩ := mu_spec hI
  generalize hkk : mu I2 ((s, ()), g) = km at *
  change s = (j : Int) at e1
  subst e1
  have hlt : j < m → m - (j + 1) < mu I2 (((j : Int), ()), g) := fun h => by rw [hkk, hz]; exact sub_dec h
  clear hI
  refine ifP_of (fun h1 => ?_) (fun h1 => ?_)
  · have hjm : j < m := by have := of_decide_eq_true h1; omega
    refine (Gv.ext bs.ext).at hjm fun a39 e39 => ⟨(es j).vs, rfl, e39, ?_⟩
    refine new_bl_st rfl rfl (ed_one _) ?_
    intro b41 g41 hb41 x41 B41
    have k16 : B1 (own1 ow b41 16) g41 16 b41 _ := B1.new B41
    have kv : ∀ v, v < l → S1 (own1 ow b41 16) g41 (40 + v) (vals v) (ints wd fun c => (tb v c : Nat)) := fun v hv => (kv v hv).nw x41 hb41
    have bs := bs.nw (j := 16) x41 hb41
    have k1 := k1.nw (j := 16) x41 hb41
    have k2 := k2.nw (j := 16) x41 hb41
    have k3 := k3.nw (j := 16) x41 hb41
    generalize own1 ow b41 16 = ow at *
    clear hb41 x41 B41
    refine k1.rV rfl (k16.rI rfl ?_)
    refine k3.push (l := 1) rfl (by simp [Value.oneCell']) (by simp) (by omega) (by rw [ints_length]; show _ + 1 < 1000000; omega) ?_
    intro bx gm vc' ow' g4 hbx xm F4 k3
    have bs := bs.fm F4 (by simp <;> omega)
    have k1 := k1.fm F4 (by simp <;> omega)
    have k2 := k2.fm F4 (by simp <;> omega)
    have k16 := k16.fm F4 (by simp <;> omega)
    have kv : ∀ v, v < l → S1 ow' g4 (40 + v) (vals v) (ints wd fun c => (tb v c : Nat)) := fun v hv => (kv v hv).fm F4 (by simp; omega)
    obtain ⟨sa, sl, sc, rfl⟩ := k3.isS
    refine oneP_mk (k1.st (j := 3) (by simp) fun g5 F5 k1 => ?_)
    simp only [List.set] at k1
    have bs := bs.fm F5 (by simp <;> omega)
    have k2 := k2.fm F5 (by simp <;> omega)
    have k3 := k3.fm F5 (by simp <;> omega)
    have k16 := k16.fm F5 (by simp <;> omega)
    have kv : ∀ v, v < l → S1 ow' g5 (40 + v) (vals v) (ints wd fun c => (tb v c : Nat)) := fun v hv => (kv v hv).fm F5 (by simp; omega)
    have k3 : S1 ow' g5 3 (.slice sa sl sc) (ints (j + 1) (ckE es)) := by rw [ints_push_]; exact k3
    clear F4 F5 hbx xm
    generalize (.slice sa sl sc : Value) = vc1 at *
    obtain ⟨f1, f2⟩ := sd.gd.fr hjm
    obtain ⟨t1, t2⟩ := sd.gd.to hjm
    obtain ⟨s1, s2, s3⟩ := sd.sd j hjm
    have kb := sd.gd.k j hjm
    obtain ⟨c, hc⟩ : ∃ c, rtE es j = l + c := ⟨rtE es j - l, by omega⟩
    have hcw : c < wd := by omega
    refine k16.rI rfl (k16.rI rfl (k16.rI rfl (k16.rI rfl (k1.rV rfl ?_))))
    have ea : (if (es j).t < (es j).f then (es j).t else (es j).f) = ((lfE es j : Nat) : Int) := by rw [f1, t1]; unfold lfE; split <;> omega
    have eb : IntKind.i64.wrap ((if (es j).f < (es j).t then (es j).t else (es j).f) - l) = (c : Int) := by
      have : (if (es j).f < (es j).t then (es j).t else (es j).f) = ((l + c : Nat) : Int) := by rw [← hc, f1, t1]; unfold rtE; split <;> omega
      rw [this, show ((l + c : Nat) : Int) - l = c by omega]; exact w64_in (by omega) (by omega)
    rw [ea, eb]
    refine k2.rdV s1 ((kv _ s1).ad hcw fun a58 e58 st58 => ?_)
    have bm := B.bm _ c s1 hcw
    have ei : IntKind.i64.wrap ((j : Int) + 1) = ((j + 1 : Nat) : Int) := i64_inc (by omega)
    rw [ei]
    have keep : ((es j).k ≤ 0 ∨ (0 < tb (lfE es j) c ∧ (es j).k ≤ (es (tb (lfE es j) c - 1)).k)) → (∃ k, I2 (((j + 1 : Nat) : Int), ()) g5 k) ∧ rk I2 ((((j + 1 : Nat) : Int), ()), g5) (((j : Int), ()), g) := fun hno =>
      mu_next (I := I2) (k := m - (j + 1)) ⟨j + 1, ow', vc1, tb, rfl, hjm, rfl, bs, k1, k2, k3, kv, B.no rfl hc hno, fun v c i h => by have := hb0 v c i h; exact ⟨by omega, this.2⟩⟩ (hlt hjm)
    have take : 0 < (es j).k → (tb (lfE es j) c = 0 ∨ (es (tb (lfE es j) c - 1)).k < (es j).k) → stC g5 a58 (.int .i64 ((j + 1 : Nat) : Int)) fun h61 => (∃ k, I2 (((j + 1 : Nat) : Int), ()) h61 k) ∧ rk I2 ((((j + 1 : Nat) : Int), ()), h61) (((j : Int), ()), g) := fun h0 hh => by
      refine st58 _ _ fun g6 F6 kl => ?_
      have bs := bs.fm F6 (by simp <;> omega)
      have k1 := k1.fm F6 (by simp <;> omega)
      have k2 := k2.fm F6 (by simp <;> omega)
      have k3 := k3.fm F6 (by simp <;> omega)
      refine mu_next (I := I2) (k := m - (j + 1)) ⟨j + 1, ow', vc1, upBs tb (lfE es j) c j, rfl, hjm, rfl, bs, k1, k2, k3, fun v hv => ?_, B.yes rfl hc h0 hh, fun v c' i h => ?_⟩ (hlt hjm)
      · by_cases e : v = lfE es j
        · subst e
          refine kl.cg fun c' _ => ?_
          unfold upd upBs
          by_cases e : c' = c
          · rw [if_pos e, if_pos ⟨rfl, e⟩]
          · rw [if_neg e, if_neg (fun k => e k.2)]
        · refine ((kv v hv).fm F6 (by simp; omega)).cg fun c' _ => ?_
          unfold upBs; rw [if_neg (fun k => e k.1)]
      · unfold upBs at h
        split at h
        · have : i = j := by omega
          subst this
          exact ⟨by omega, h0⟩
        · have := hb0 v c' i h; exact ⟨by omega, this.2⟩
    refine k16.rI rfl (ifP_of (fun h2 => ?_) (fun h2 => keep (.inl (by have := of_decide_eq_false h2; omega))))
    have h2 : 0 < (es j).k := of_decide_eq_true h2
    refine ⟨_, e58, ifP_of (fun h3 => take h2 (.inl (by have := of_decide_eq_true h3; omega))) (fun h3 => ?_)⟩
    have h3 : 0 < tb (lfE es j) c := by have := of_decide_eq_false h3; omega
    refine k16.rI rfl (k1.rV rfl ⟨_, e58, ?_⟩)
    have e2 : IntKind.i64.wrap (((tb (lfE es j) c : Nat) : Int) - 1) = ((tb (lfE es j) c - 1 : Nat) : Int) := by rw [show (((tb (lfE es j) c : Nat) : Int) - 1) = ((tb (lfE es j) c - 1 : Nat) : Int) by omega]; exact w64_in (by omega) (by omega)
    show ixS vc1 (IntKind.i64.wrap (((tb (lfE es j) c : Nat) : Int) - 1)) 1 _
    rw [e2]
    refine k3.rdI (by omega) (ifP_of (fun h4 => take h2 (.inr (of_decide_eq_true h4))) (fun h4 => keep (.inr ⟨h3, ?_⟩)))
    have h4 := of_decide_eq_false h4
    have h4 : ¬ (es (tb (lfE es j) c - 1)).k < (es j).k := h4
    omega
  have hjm : j = m := by have := of_decide_eq_false h1; omega
  subst hjm
  clear hlt hkk hz h1 hj
  have Tt : Tb ow g b15 l wd j es tb := ⟨_, vc, vals, k1, k2, k3, kv⟩
  have hw : ∀ v c, 0 ≤ wgE es tb v c ∧ wgE es tb v c ≤ 1048576 := fun v c => by
    unfold wgE
    split
    · rename_i h
      obtain ⟨i, hi⟩ : ∃ i, tb v c = i + 1 := ⟨tb v c - 1, by omega⟩
      have a := hb0 v c i hi
      have b := sd.gd.k i a.1
      rw [hi, Nat.add_sub_cancel]
      omega
    · omega
  -- the way
  refine ⟨fun s g' => ∃ (own' : Own) (L : List Nat) (pt : Nat → Int), Fm [4, 5, 6, 7, 8, 9, 10, 11, 12, 31, 32, 33, 34, 35, 36] ow g own' g' ∧ S1 own' g' 12 s.1 (natV L) ∧ S1 own' g' 5 s.2.1 (ints (l + wd) pt) ∧ MaR (l + wd) j l es L pt, ?_, ?_⟩
  · refine ifP_of (fun h2 => ?_) (fun h2 => ?_)
    · refine (byRows_T Tt B sd.sd hl hm hw).mono ?_
      rintro _ g' ⟨own', mv, pv, L, pt, rfl, F1, k12, k5, M⟩
      exact rt_ret ⟨_, _, rfl, own', L, pt, F1, k12, k5, M⟩
    · refine (byTrees_T Tt B sd.sd hl hm hw).mono ?_
      rintro _ g' ⟨own', mv, pv, L, pt, rfl, F1, k12, k5, M⟩
      exact rt_ret ⟨_, _, rfl, own', L, pt, F1, k12, k5, M⟩
  rintro mv pv g3 ⟨own', L, pt, F1, k12, k5, M⟩
  change S1 own' g3 12 mv _ at k12
  change S1 own' g3 5 pv _ at k5
  have bs := bs.fm F1 (by simp <;> omega)
  have k1 := k1.fm F1 (by simp <;> omega)
  have k3 := k3.fm F1 (by simp <;> omega)
  have Ln := M.ln
  refine (sort_T k12 (by omega)).mono ?_
  rintro _ g4 ⟨rfl, F2, k12⟩
  have bs := bs.fm F2 (by simp <;> omega)
  have k1 := k1.fm F2 (by simp <;> omega)
  have k3 := k3.fm F2 (by simp <;> omega)
  have k5 := k5.fm F2 (by simp <;> omega)
  refine rt_ret ⟨rfl, k12.len (natV_length _) fun _ _ => ?_⟩
  have hS : ∀ i, i ∈ sortL L → i < j := fun i hi => M.lt i ((sortL_perm L).mem_iff.1 hi)
  have hSl := sortL_len L
  generalize hSS : sortL L = Ls at *
  let I3 : (Int × Int × Unit) → H → Nat → Prop := fun s g z => ∃ i : Nat, s.2.1 = i ∧ i ≤ Ls.length ∧ z = Ls.length - i ∧ s.1 = lkE es (Ls.take i) ∧ g = g4
  refine ⟨fun p q => ∃ k, I3 p q k, rk I3, rk_wf I3, ⟨_, 0, rfl, by omega, rfl, rfl, rfl⟩, ?_⟩
  intro cost s g5 hI
  obtain ⟨i, e1, hi, hz, e2, e3⟩ := mu_spec hI
  generalize hkk : mu I3 ((cost, s, ()), g5) = km at *
  change s = (i : Int) at e1
  change cost = _ at e2
  subst e1 e2 e3
  have hlt : i < Ls.length → Ls.length - (i + 1) < mu I3 ((lkE es (Ls.take i), (i : Int), ()), g5) := fun h => by rw [hkk, hz]; exact sub_dec h
  clear hI
  have bd := lkE_bd (es := es) (fun i hi => sd.gd.k i hi) (L := Ls.take i) fun x hx => hS x (List.mem_of_mem_take hx)
  have tl : (Ls.take i).length ≤ 1024 := by rw [List.length_take]; omega
  refine ifP_of (fun h1 => ?_) (fun h1 => ?_)
  · have hil : i < Ls.length := by have := of_decide_eq_true h1; omega
    have him := hS _ (List.getElem_mem hil)
    have kb := sd.gd.k _ him
    refine k12.rd (natV_get hil) (k1.rV rfl (k3.rdI him ?_))
    have ew : IntKind.i64.wrap (lkE es (Ls.take i) + ckE es Ls[i]) = lkE es (Ls.take (i + 1)) := by
      rw [lkE_take hil]
      show IntKind.i64.wrap (lkE es (Ls.take i) + (es Ls[i]).k) = _
      exact w64_in (by omega) (by omega)
    rw [ew, i64_inc (by omega)]
    exact mu_next (I := I3) (k := Ls.length - (i + 1)) ⟨i + 1, rfl, hil, rfl, rfl, rfl⟩ (hlt hil)
  · have hil : i = Ls.length := by have := of_decide_eq_false h1; omega
    have e : lkE es (Ls.take i) = lkE es L := by rw [hil, List.take_length, ← hSS]; exact lkE_perm es (sortL_perm L)
    rw [e]
    exact hR own' g5 mv pv L pt bs (by rw [hSS]; exact k12) k5 M
/-- What Solve refuses. -/
def codeA (n : Int) (m : Nat) (es : Nat → Ed) (left kind : Int) : Int := if (sidesG n m es left).1 ≠ 0 then (sidesG n m es left).1 else if kind = 1 ∨ kind = 2 then 0 else 50
/-- What Solve comes to. -/
def SolAs (h : H) (n : Int) (m : Nat) (es : Nat → Ed) (left kind : Int) (r : Res) (h' : H) : Prop :=
  (codeA n m es left kind ≠ 0 ∧ r = .ret (.tuple ⟨[.slice none 0 0, .slice none 0 0, .int .i64 0, .int .i64 (codeA n m es left kind)]⟩) ∧ Ext h h') ∨
  (codeA n m es left kind = 0 ∧ ∃ (l wd : Nat) (own' : Own) (mv pv : Value) (L : List Nat) (pt : Nat → Int), left = l ∧ n = ((l + wd : Nat) : Int) ∧ Sd l wd m es ∧ (kind = 1 ∨ kind = 2) ∧ Bs h own' h' ∧
    S1 own' h' 12 mv (natV (sortL L)) ∧ S1 own' h' 5 pv (ints (l + wd) pt) ∧ MaR (l + wd) m l es L pt ∧ r = .ret (.tuple ⟨[mv, pv, .int .i64 (lkE es L), .int .i64 0]⟩))
theorem ASolve_T {h : H} {w : List Value} {n : Int} (G : GrA h w n m es) (left kind : Int) : T Try.prog F.assign_Solve [.agg ⟨w⟩, .int .i64 left, .int .i64 kind] h (SolAs h n m es left kind) := by
  refine E_assign_Solve ?_
  unfold B_assign_Solve
  refine new_bl ?_
  intro b1 h2 hb1 x1 B1_
  have k15 : B1 (own1 (fun _ => 0) b1 15) h2 15 b1 w := B1.new B1_
  have bs : Bs h (own1 (fun _ => 0) b1 15) h2 := Bs.start.new x1 hb1
  generalize own1 (fun _ => 0) b1 15 = ow at *
  refine k15.ldN G.one.1 ((Sides_T (G.ext bs.ext) left).mono ?_)
  rintro _ g5 ⟨rfl, x5⟩
  have k15 := k15.ext x5
  have bs := bs.ext_ x5
  refine rt_ret ⟨_, rfl, rfl, new_bl_st rfl rfl (by simp [Value.oneCell']) ?_⟩
  intro b7 g9 hb7 x7 B7
  have k17 : B1 (own1 ow b7 17) g9 17 b7 _ := B1.new B7
  have bs := bs.nw (j := 17) x7 hb7
  have k15 := k15.nw (j := 17) x7 hb7
  generalize own1 ow b7 17 = ow at *
  refine k17.rI rfl (ifP_of (fun h1 => ?_) (fun h1 => ?_))
  · have h1 : (sidesG n m es left).1 ≠ 0 := by simpa using h1
    have e : codeA n m es left kind = (sidesG n m es left).1 := if_pos h1
    exact k17.rI rfl (.inl ⟨by rw [e]; exact h1, by rw [e], bs.ext⟩)
  have h1 : (sidesG n m es left).1 = 0 := by simpa using h1
  obtain ⟨l, wd, rfl, rfl, sd⟩ := Sd.of h1
  obtain ⟨gv, rfl, Gv⟩ := G.gs
  have go : kind = 1 ∨ kind = 2 → BAs (l : Int) kind b1 (SolAs h ((l + wd : Nat) : Int) m es l kind) g9 := fun hk =>
    solveAs bs k15 Gv sd hk fun own' h' mv pv L pt bs' k12 k5 M => .inr ⟨by unfold codeA; rw [if_neg (by omega), if_pos hk], l, wd, own', mv, pv, L, pt, rfl, rfl, sd, hk, bs', k12, k5, M, rfl⟩
  refine ifP_of (fun h2 => ?_) (fun h2 => ?_)
  · have h2 : ¬ kind = 1 := by simpa using h2
    refine ifP_of (fun h3 => ?_) (fun h3 => ?_)
    · have h3 : ¬ kind = 2 := by simpa using h3
      have e : codeA ((l + wd : Nat) : Int) m es l kind = 50 := by unfold codeA; rw [if_neg (by omega), if_neg (by omega)]
      exact .inl ⟨by rw [e]; omega, by rw [e], bs.ext⟩
    · have h3 : kind = 2 := by simpa using h3
      exact go (.inr h3)
  · have h2 : kind = 1 := by simpa using h2
    exact go (.inl h2)
end

end Go.Proofs.Ytdblngaacnpgmaa

namespace Go.Proofs.Ytdblngaacnpgmaa
open Go
set_option linter.unusedVariables false
set_option linter.unusedSimpArgs false
set_option maxHeartbeats 1000000

/-- The graph of the flow round. -/
def edW (n l : Nat) (es : Nat → Ed) (i : Nat) : Ed :=
  if i < n then (if i < l then ⟨(n : Nat), (i : Nat), 1, 0⟩ else ⟨(i : Nat), (n : Nat), 1, 0⟩) else ⟨(lfE es (i - n) : Nat), (rtE es (i - n) : Nat), 1, -(es (i - n)).k⟩
section
variable {n l wd m : Nat} {es : Nat → Ed} {L : List Nat} {pt f : Nat → Int}
theorem edW_1 {i : Nat} (h : i < l) (hn : l ≤ n) : edW n l es i = ⟨(n : Nat), (i : Nat), 1, 0⟩ := by unfold edW; rw [if_pos (by omega), if_pos h]
theorem edW_2 {i : Nat} (h : ¬ i < l) (hn : i < n) : edW n l es i = ⟨(i : Nat), (n : Nat), 1, 0⟩ := by unfold edW; rw [if_pos hn, if_neg h]
theorem edW_3 {j : Nat} : edW n l es (n + j) = ⟨(lfE es j : Nat), (rtE es j : Nat), 1, -(es j).k⟩ := by unfold edW; rw [if_neg (by omega), show n + j - n = j by omega]
theorem Sd.gmW (sd : Sd l wd m es) : Gm (l + wd + 1) (l + wd + m) (edW (l + wd) l es) := by
  have n1 := sd.gd.n1
  have m1 := sd.gd.m1
  have key : ∀ i, i < l + wd + m → (i < l) ∨ (¬ i < l ∧ i < l + wd) ∨ ∃ j, j < m ∧ i = l + wd + j := fun i hi => by
    by_cases h1 : i < l
    · exact .inl h1
    · by_cases h2 : i < l + wd
      · exact .inr (.inl ⟨h1, h2⟩)
      · exact .inr (.inr ⟨i - (l + wd), by omega, by omega⟩)
  refine ⟨by omega, by omega, fun i hi => ?_, fun i hi => ?_, fun i hi => ?_, fun i hi => ?_⟩
  · rcases key i hi with h | ⟨h1, h2⟩ | ⟨j, hj, rfl⟩
    · rw [edW_1 h (by omega)]; exact ⟨l + wd, rfl, by omega⟩
    · rw [edW_2 h1 h2]; exact ⟨i, rfl, by omega⟩
    · rw [edW_3]; have := sd.sd j hj; exact ⟨_, rfl, by omega⟩
  · rcases key i hi with h | ⟨h1, h2⟩ | ⟨j, hj, rfl⟩
    · rw [edW_1 h (by omega)]; exact ⟨i, rfl, by omega⟩
    · rw [edW_2 h1 h2]; exact ⟨l + wd, rfl, by omega⟩
    · rw [edW_3]; have := sd.sd j hj; exact ⟨_, rfl, by omega⟩
  · rcases key i hi with h | ⟨h1, h2⟩ | ⟨j, hj, rfl⟩
    · rw [edW_1 h (by omega)]; show (0 : Int) ≤ 1 ∧ (1 : Int) ≤ 1048576; omega
    · rw [edW_2 h1 h2]; show (0 : Int) ≤ 1 ∧ (1 : Int) ≤ 1048576; omega
    · rw [edW_3]; show (0 : Int) ≤ 1 ∧ (1 : Int) ≤ 1048576; omega
  · rcases key i hi with h | ⟨h1, h2⟩ | ⟨j, hj, rfl⟩
    · rw [edW_1 h (by omega)]; show (-1048576 : Int) ≤ 0 ∧ (0 : Int) ≤ 1048576; omega
    · rw [edW_2 h1 h2]; show (-1048576 : Int) ≤ 0 ∧ (0 : Int) ≤ 1048576; omega
    · rw [edW_3]; have := sd.gd.k j hj; show (-1048576 : Int) ≤ -(es j).k ∧ -(es j).k ≤ 1048576; omega
theorem fr_1 {i : Nat} (h : i < l) (hn : l ≤ n) : frE (edW n l es) i = n ∧ toE (edW n l es) i = i ∧ ckE (edW n l es) i = 0 ∧ cpE (edW n l es) i = 1 := by
  unfold frE toE ckE cpE; rw [edW_1 h hn]; exact ⟨by simp, by simp, rfl, rfl⟩
theorem fr_2 {i : Nat} (h : ¬ i < l) (hn : i < n) : frE (edW n l es) i = i ∧ toE (edW n l es) i = n ∧ ckE (edW n l es) i = 0 ∧ cpE (edW n l es) i = 1 := by
  unfold frE toE ckE cpE; rw [edW_2 h hn]; exact ⟨by simp, by simp, rfl, rfl⟩
theorem fr_3 {j : Nat} : frE (edW n l es) (n + j) = lfE es j ∧ toE (edW n l es) (n + j) = rtE es j ∧ ckE (edW n l es) (n + j) = -(es j).k ∧ cpE (edW n l es) (n + j) = 1 := by
  have e := edW_3 (n := n) (l := l) (es := es) (j := j)
  refine ⟨?_, ?_, ?_, ?_⟩
  · show (edW n l es (n + j)).f.toNat = _
    rw [e]; exact Int.toNat_natCast _
  · show (edW n l es (n + j)).t.toNat = _
    rw [e]; exact Int.toNat_natCast _
  · show (edW n l es (n + j)).k = _
    rw [e]
  · show (edW n l es (n + j)).c = _
    rw [e]
/-- The ends of an edge, either way. -/
theorem pt_ends (pt : Nat → Int) (i : Nat) : pt (frE es i) + pt (toE es i) = pt (lfE es i) + pt (rtE es i) := by
  unfold lfE rtE
  rcases Nat.le_total (frE es i) (toE es i) with h | h
  · rw [Nat.min_eq_left h, Nat.max_eq_right h]
  · rw [Nat.min_eq_right h, Nat.max_eq_left h]; omega
/-- No flow round is cheaper. -/
theorem best_ge (sd : Sd l wd m es) (po : ∀ v, v < l + wd → 0 ≤ pt v) (co : ∀ i, i < m → (es i).k ≤ pt (frE es i) + pt (toE es i))
    (P : PlanP (l + wd + 1) (l + wd + m) (frE (edW (l + wd) l es)) (toE (edW (l + wd) l es)) (cpE (edW (l + wd) l es)) (fun _ => 0) f) :
    -sumN (l + wd) pt ≤ totC (l + wd + m) (ckE (edW (l + wd) l es)) f := by
  have gm := sd.gmW
  have hn : ∀ i, i < l + wd + m → frE (edW (l + wd) l es) i < l + wd + 1 ∧ toE (edW (l + wd) l es) i < l + wd + 1 := fun i hi => ⟨(gm.fr hi).2, (gm.to hi).2⟩
  have z := pot_out hn (fun v => if v < l then pt v else if v < l + wd then -pt v else 0) f
  rw [sumN_zero (f := fun v => _ * OutF _ _ _ _ _) (fun v hv => by rw [P.out v hv]; simp), sumN_split] at z
  have z1 : (sumN (l + wd) fun i => ((if frE (edW (l + wd) l es) i < l then pt (frE (edW (l + wd) l es) i) else if frE (edW (l + wd) l es) i < l + wd then -pt (frE (edW (l + wd) l es) i) else 0) -
      (if toE (edW (l + wd) l es) i < l then pt (toE (edW (l + wd) l es) i) else if toE (edW (l + wd) l es) i < l + wd then -pt (toE (edW (l + wd) l es) i) else 0)) * f i) = sumN (l + wd) fun i => -(pt i * f i) := sumN_congr fun i hi => by
    by_cases h : i < l
    · obtain ⟨a, b, _⟩ := fr_1 (es := es) h (Nat.le_add_right l wd)
      rw [a, b, if_neg (by omega), if_neg (by omega), if_pos h, Int.zero_sub, Int.neg_mul]
    · obtain ⟨a, b, _⟩ := fr_2 (es := es) h hi
      rw [a, b, if_neg h, if_pos hi, if_neg (by omega), if_neg (by omega), Int.sub_zero, Int.neg_mul]
  have z2 : (sumN m fun j => ((if frE (edW (l + wd) l es) (l + wd + j) < l then pt (frE (edW (l + wd) l es) (l + wd + j)) else if frE (edW (l + wd) l es) (l + wd + j) < l + wd then -pt (frE (edW (l + wd) l es) (l + wd + j)) else 0) -
      (if toE (edW (l + wd) l es) (l + wd + j) < l then pt (toE (edW (l + wd) l es) (l + wd + j)) else if toE (edW (l + wd) l es) (l + wd + j) < l + wd then -pt (toE (edW (l + wd) l es) (l + wd + j)) else 0)) * f (l + wd + j)) =
      sumN m fun j => (pt (lfE es j) + pt (rtE es j)) * f (l + wd + j) := sumN_congr fun j hj => by
    obtain ⟨a, b, _⟩ := fr_3 (n := l + wd) (l := l) (es := es) (j := j)
    have s := sd.sd j hj
    rw [a, b, if_pos s.1, if_neg (by omega), if_pos s.2.2, Int.sub_neg]
  rw [z1, z2] at z
  unfold totC
  rw [sumN_split (a := l + wd) (b := m)]
  have c1 : (sumN (l + wd) fun i => ckE (edW (l + wd) l es) i * f i) = 0 := sumN_zero fun i hi => by
    by_cases h : i < l
    · rw [(fr_1 (es := es) h (Nat.le_add_right l wd)).2.2.1, Int.zero_mul]
    · rw [(fr_2 (es := es) h hi).2.2.1, Int.zero_mul]
  have c2 : -(sumN m fun j => (pt (lfE es j) + pt (rtE es j)) * f (l + wd + j)) ≤ sumN m fun j => ckE (edW (l + wd) l es) (l + wd + j) * f (l + wd + j) := by
    rw [show -(sumN m fun j => (pt (lfE es j) + pt (rtE es j)) * f (l + wd + j)) = (-1) * (sumN m fun j => (pt (lfE es j) + pt (rtE es j)) * f (l + wd + j)) by omega, ← sumN_mul]
    refine sumN_le fun j hj => ?_
    rw [(fr_3 (n := l + wd) (l := l) (es := es) (j := j)).2.2.1]
    have a := P.cp (l + wd + j) (by omega)
    have b := co j hj
    rw [pt_ends] at b
    have := Int.mul_nonneg (show 0 ≤ pt (lfE es j) + pt (rtE es j) - (es j).k by omega) a.1
    rw [Int.sub_mul] at this
    have h2 := Int.neg_mul (es j).k (f (l + wd + j))
    omega
  have c3 : (sumN (l + wd) fun i => pt i * f i) ≤ sumN (l + wd) pt := sumN_le fun i hi => by
    have a := P.cp i (by omega)
    have e : cpE (edW (l + wd) l es) i = 1 := by
      by_cases h : i < l
      · exact (fr_1 (es := es) h (Nat.le_add_right l wd)).2.2.2
      · exact (fr_2 (es := es) h hi).2.2.2
    have := Int.mul_nonneg (po i hi) (show 0 ≤ 1 - f i by omega)
    rw [Int.mul_sub] at this
    omega
  have c4 : (sumN (l + wd) fun i => -(pt i * f i)) = -(sumN (l + wd) fun i => pt i * f i) := by
    rw [show -(sumN (l + wd) fun i => pt i * f i) = (-1) * (sumN (l + wd) fun i => pt i * f i) by omega, ← sumN_mul]
    exact sumN_congr fun i _ => by omega
  rw [c4] at z
  rw [c1]
  omega

def lsm (F : Nat → Int) : List Nat → Int
  | [] => 0
  | i :: L => F i + lsm F L
theorem lkE_lsm : ∀ {L : List Nat}, lkE es L = lsm (fun i => (es i).k) L
  | [] => rfl
  | i :: L => by show (es i).k + lkE es L = (es i).k + lsm _ L; rw [lkE_lsm]
theorem lsm_congr {F G : Nat → Int} : ∀ {L : List Nat}, (∀ i, i ∈ L → F i = G i) → lsm F L = lsm G L
  | [], _ => rfl
  | i :: L, h => by
    show F i + lsm F L = G i + lsm G L
    rw [h i List.mem_cons_self, lsm_congr fun j hj => h j (List.mem_cons_of_mem _ hj)]
theorem lsm_mul {F : Nat → Int} {c : Int} : ∀ {L : List Nat}, lsm (fun i => c * F i) L = c * lsm F L
  | [] => by show (0 : Int) = c * 0; omega
  | i :: L => by show c * F i + lsm _ L = c * (F i + lsm F L); rw [lsm_mul, Int.mul_add]
theorem lsm_zero {F : Nat → Int} {L : List Nat} (h : ∀ i, i ∈ L → F i = 0) : lsm F L = 0 := by
  rw [lsm_congr (G := fun i => 0 * 0) fun i hi => by rw [h i hi]; rfl, lsm_mul, Int.zero_mul]
theorem lsm_mem {F : Nat → Int} : ∀ {L : List Nat}, L.Nodup → (∀ i, i ∈ L → i < m) → (sumN m fun j => if j ∈ L then F j else 0) = lsm F L
  | [], _, _ => sumN_zero fun i _ => if_neg (by simp)
  | x :: L, nd, h => by
    rw [List.nodup_cons] at nd
    have hx := h x List.mem_cons_self
    have e : (sumN m fun j => if j ∈ x :: L then F j else 0) = sumN m fun j => (if x = j then F j else 0) + (if j ∈ L then F j else 0) := sumN_congr fun j _ => by
      by_cases e1 : x = j
      · subst e1; rw [if_pos List.mem_cons_self, if_pos rfl, if_neg nd.1, Int.add_zero]
      · rw [if_neg e1, Int.zero_add]
        by_cases e2 : j ∈ L
        · rw [if_pos (List.mem_cons_of_mem _ e2), if_pos e2]
        · rw [if_neg (fun k => by rcases List.mem_cons.1 k with k | k; exact e1 k.symm; exact e2 k), if_neg e2]
    rw [e, sumN_add, sumN_ptf hx, lsm_mem nd.2 fun i hi => h i (List.mem_cons_of_mem _ hi)]
    rfl
/-- How many of a list's edges end at a node. -/
def ftE (es : Nat → Ed) (L : List Nat) (v : Nat) : Int := lsm (fun i => (if lfE es i = v then 1 else 0) + (if rtE es i = v then 1 else 0)) L
theorem ftE_le (hs : ∀ i, i < m → lfE es i < l ∧ l ≤ rtE es i ∧ rtE es i < l + wd) (v : Nat) : ∀ {L : List Nat}, (∀ i, i ∈ L → i < m) → L.Pairwise (fun i j => lfE es i ≠ lfE es j ∧ rtE es i ≠ rtE es j) → 0 ≤ ftE es L v ∧ ftE es L v ≤ 1
  | [], _, _ => by show (0 : Int) ≤ 0 ∧ (0 : Int) ≤ 1; omega
  | x :: L, h, p => by
    rw [List.pairwise_cons] at p
    have ih := ftE_le hs v (fun i hi => h i (List.mem_cons_of_mem _ hi)) p.2
    have sx := hs x (h x List.mem_cons_self)
    show 0 ≤ ((if lfE es x = v then 1 else 0) + (if rtE es x = v then 1 else 0)) + ftE es L v ∧ ((if lfE es x = v then 1 else 0) + (if rtE es x = v then 1 else 0)) + ftE es L v ≤ 1
    by_cases e1 : lfE es x = v ∨ rtE es x = v
    · have z : ftE es L v = 0 := lsm_zero fun i hi => by
        have a := p.1 i hi
        have b := hs i (h i (List.mem_cons_of_mem _ hi))
        rw [if_neg (by omega), if_neg (by omega)]; rfl
      rw [z]
      by_cases e2 : lfE es x = v
      · rw [if_pos e2, if_neg (by omega)]; omega
      · rw [if_neg e2]; split <;> omega
    · rw [if_neg (fun k => e1 (.inl k)), if_neg (fun k => e1 (.inr k))]; omega
theorem MaR.nodup (M : MaR n m l es L pt) : L.Nodup := M.nd.imp fun {a b} h e => h.1 (by rw [e])
/-- The flow round of a matching. -/
def pfE (n : Nat) (es : Nat → Ed) (L : List Nat) (i : Nat) : Int := if i < n then ftE es L i else if i - n ∈ L then 1 else 0
theorem best_plan (sd : Sd l wd m es) (hlt : ∀ i, i ∈ L → i < m) (hnd : L.Pairwise fun i j => lfE es i ≠ lfE es j ∧ rtE es i ≠ rtE es j) :
    PlanP (l + wd + 1) (l + wd + m) (frE (edW (l + wd) l es)) (toE (edW (l + wd) l es)) (cpE (edW (l + wd) l es)) (fun _ => 0) (pfE (l + wd) es L) ∧
    totC (l + wd + m) (ckE (edW (l + wd) l es)) (pfE (l + wd) es L) = -lkE es L := by
  have gm := sd.gmW
  have nod : L.Nodup := hnd.imp fun {a b} h e => h.1 (by rw [e])
  have hn : ∀ i, i < l + wd + m → frE (edW (l + wd) l es) i < l + wd + 1 ∧ toE (edW (l + wd) l es) i < l + wd + 1 := fun i hi => ⟨(gm.fr hi).2, (gm.to hi).2⟩
  have p1 : ∀ {i}, i < l + wd → pfE (l + wd) es L i = ftE es L i := fun h => if_pos h
  have p2 : ∀ j, pfE (l + wd) es L (l + wd + j) = if j ∈ L then 1 else 0 := fun j => by unfold pfE; rw [if_neg (by omega), show l + wd + j - (l + wd) = j by omega]
  have o1 : ∀ v, v < l + wd → OutF (l + wd + m) (frE (edW (l + wd) l es)) (toE (edW (l + wd) l es)) (pfE (l + wd) es L) v = 0 := fun v hv => by
    unfold OutF
    rw [sumN_split]
    by_cases hl : v < l
    · have a1 : (sumN (l + wd) fun i => (if frE (edW (l + wd) l es) i = v then pfE (l + wd) es L i else 0) - (if toE (edW (l + wd) l es) i = v then pfE (l + wd) es L i else 0)) = sumN (l + wd) fun i => if v = i then -ftE es L v else 0 := sumN_congr fun i hi => by
        rw [p1 hi]
        by_cases h : i < l
        · obtain ⟨a, b, _⟩ := fr_1 (es := es) h (Nat.le_add_right l wd)
          rw [a, b, if_neg (by omega)]
          by_cases e : v = i
          · subst e; rw [if_pos rfl, if_pos rfl]; omega
          · rw [if_neg (fun k => e k.symm), if_neg e]; rfl
        · obtain ⟨a, b, _⟩ := fr_2 (es := es) h hi
          rw [a, b, if_neg (by omega), if_neg (by omega), if_neg (by omega)]; rfl
      have a2 : (sumN m fun j => (if frE (edW (l + wd) l es) (l + wd + j) = v then pfE (l + wd) es L (l + wd + j) else 0) - (if toE (edW (l + wd) l es) (l + wd + j) = v then pfE (l + wd) es L (l + wd + j) else 0)) = ftE es L v := by
        unfold ftE
        rw [← lsm_mem nod hlt]
        refine sumN_congr fun j hj => ?_
        obtain ⟨a, b, _⟩ := fr_3 (n := l + wd) (l := l) (es := es) (j := j)
        have s := sd.sd j hj
        rw [a, b, p2, if_neg (show ¬ rtE es j = v by omega), if_neg (show ¬ rtE es j = v by omega)]
        by_cases e1 : j ∈ L
        · rw [if_pos e1, if_pos e1]; omega
        · rw [if_neg e1, if_neg e1]; split <;> rfl
      rw [a1, a2, sumN_pt, if_pos hv]; omega
    · have a1 : (sumN (l + wd) fun i => (if frE (edW (l + wd) l es) i = v then pfE (l + wd) es L i else 0) - (if toE (edW (l + wd) l es) i = v then pfE (l + wd) es L i else 0)) = sumN (l + wd) fun i => if v = i then ftE es L v else 0 := sumN_congr fun i hi => by
        rw [p1 hi]
        by_cases h : i < l
        · obtain ⟨a, b, _⟩ := fr_1 (es := es) h (Nat.le_add_right l wd)
          rw [a, b, if_neg (by omega), if_neg (by omega), if_neg (by omega)]; rfl
        · obtain ⟨a, b, _⟩ := fr_2 (es := es) h hi
          rw [a, b, if_neg (show ¬ l + wd = v by omega)]
          by_cases e : v = i
          · subst e; simp
          · rw [if_neg (fun k => e k.symm), if_neg e]; rfl
      have a2 : (sumN m fun j => (if frE (edW (l + wd) l es) (l + wd + j) = v then pfE (l + wd) es L (l + wd + j) else 0) - (if toE (edW (l + wd) l es) (l + wd + j) = v then pfE (l + wd) es L (l + wd + j) else 0)) = -ftE es L v := by
        unfold ftE
        rw [show -lsm (fun i => (if lfE es i = v then 1 else 0) + (if rtE es i = v then 1 else 0)) L = (-1) * lsm (fun i => (if lfE es i = v then 1 else 0) + (if rtE es i = v then 1 else 0)) L by omega, ← lsm_mul, ← lsm_mem nod hlt]
        refine sumN_congr fun j hj => ?_
        obtain ⟨a, b, _⟩ := fr_3 (n := l + wd) (l := l) (es := es) (j := j)
        have s := sd.sd j hj
        rw [a, b, p2, if_neg (show ¬ lfE es j = v by omega), if_neg (show ¬ lfE es j = v by omega)]
        by_cases e1 : j ∈ L
        · rw [if_pos e1, if_pos e1]; split <;> rfl
        · rw [if_neg e1, if_neg e1]; split <;> rfl
      rw [a1, a2, sumN_pt, if_pos hv]; omega
  refine ⟨⟨fun i hi => ?_, fun v hv => ?_⟩, ?_⟩
  · have e : cpE (edW (l + wd) l es) i = 1 := by
      by_cases h2 : i < l + wd
      · by_cases h : i < l
        · exact (fr_1 (es := es) h (Nat.le_add_right l wd)).2.2.2
        · exact (fr_2 (es := es) h h2).2.2.2
      · rw [show i = l + wd + (i - (l + wd)) by omega]
        exact fr_3.2.2.2
    rw [e]
    unfold pfE
    split
    · exact ftE_le sd.sd i hlt hnd
    · split <;> omega
  · by_cases h : v < l + wd
    · exact o1 v h
    · have z := pot_out hn (fun _ => 1) (pfE (l + wd) es L)
      rw [sumN_zero (f := fun i => ((1 : Int) - 1) * _) (fun i _ => by rw [Int.sub_self, Int.zero_mul])] at z
      have e : (sumN (l + wd + 1) fun v => 1 * OutF (l + wd + m) (frE (edW (l + wd) l es)) (toE (edW (l + wd) l es)) (pfE (l + wd) es L) v) = (sumN (l + wd) fun v => 1 * OutF (l + wd + m) (frE (edW (l + wd) l es)) (toE (edW (l + wd) l es)) (pfE (l + wd) es L) v) + 1 * OutF (l + wd + m) (frE (edW (l + wd) l es)) (toE (edW (l + wd) l es)) (pfE (l + wd) es L) (l + wd) := rfl
      rw [e, sumN_zero (f := fun v => 1 * OutF _ _ _ _ v) (fun v hv => by rw [o1 v hv]; rfl)] at z
      have : v = l + wd := by omega
      subst this
      omega
  · unfold totC
    rw [sumN_split, sumN_zero (k := l + wd) (fun i hi => by
      by_cases h : i < l
      · rw [(fr_1 (es := es) h (Nat.le_add_right l wd)).2.2.1, Int.zero_mul]
      · rw [(fr_2 (es := es) h hi).2.2.1, Int.zero_mul]), Int.zero_add, lkE_lsm, show -lsm (fun i => (es i).k) L = (-1) * lsm (fun i => (es i).k) L by omega, ← lsm_mul, ← lsm_mem nod hlt]
    refine sumN_congr fun j hj => ?_
    rw [(fr_3 (n := l + wd) (l := l) (es := es) (j := j)).2.2.1, p2]
    by_cases e1 : j ∈ L
    · rw [if_pos e1, if_pos e1]; omega
    · rw [if_neg e1, if_neg e1]; omega
end

end Go.Proofs.Ytdblngaacnpgmaa

namespace Go.Proofs.Ytdblngaacnpgmaa
open Go
set_option linter.unusedVariables false
set_option linter.unusedSimpArgs false
set_option maxHeartbeats 1000000

def RisP (n : Int) (f : Nat → Int) (k : Nat) : Prop := ∀ i, i < k → 0 ≤ f i ∧ f i < n ∧ (0 < i → f (i - 1) < f i)
theorem RisP.ge {n : Int} {f : Nat → Int} {k : Nat} (r : RisP n f k) : ∀ {i : Nat}, i < k → (i : Int) ≤ f i
  | 0, h => by have := r 0 h; omega
  | i + 1, h => by
    have a := r.ge (i := i) (by omega)
    have b := (r (i + 1) h).2.2 (by omega)
    rw [Nat.add_sub_cancel] at b
    omega
theorem RisP.le {n : Nat} {f : Nat → Int} {k : Nat} (r : RisP n f k) : k ≤ n := by
  cases k with
  | zero => omega
  | succ k =>
    have a := r.ge (i := k) (by omega)
    have b := r k (by omega)
    omega
/-- How many ends the first k edges of a list have at a node. -/
def atS (es : Nat → Ed) (f : Nat → Int) (k : Nat) (v : Int) : Int := sumN k fun i => (if (es (f i).toNat).f = v then 1 else 0) + (if (es (f i).toNat).t = v then 1 else 0)
theorem atS_bd {es : Nat → Ed} {f : Nat → Int} {v : Int} : ∀ {k : Nat}, 0 ≤ atS es f k v ∧ atS es f k v ≤ 2 * (k : Int)
  | 0 => by show (0 : Int) ≤ 0 ∧ (0 : Int) ≤ 2 * ((0 : Nat) : Int); omega
  | k + 1 => by
    have := atS_bd (es := es) (f := f) (v := v) (k := k)
    show 0 ≤ atS es f k v + ((if (es (f k).toNat).f = v then 1 else 0) + (if (es (f k).toNat).t = v then 1 else 0)) ∧ atS es f k v + ((if (es (f k).toNat).f = v then 1 else 0) + (if (es (f k).toNat).t = v then 1 else 0)) ≤ _
    split <;> split <;> omega
/-- A matching. -/
structure MtP (n m k : Nat) (es : Nat → Ed) (f : Nat → Int) : Prop where
  ri : RisP m f k
  lo : ∀ i, i < k → (es (f i).toNat).f ≠ (es (f i).toNat).t
  at_ : ∀ v, v < n → atS es f k (v : Nat) ≤ 1
/-- What the edges of a list cost. -/
def coS (es : Nat → Ed) (f : Nat → Int) (k : Nat) : Int := sumN k fun i => (es (f i).toNat).k
section
variable {h h' : H} {w : List Value} {n m k : Nat} {es : Nat → Ed} {f pt : Nat → Int} {v vo vp : Value}
theorem coS_bd (gd : ∀ i, i < m → -1048576 ≤ (es i).k ∧ (es i).k ≤ 1048576) (hf : ∀ i, i < k → 0 ≤ f i ∧ f i < m) : ∀ {j : Nat}, j ≤ k → -((j : Int) * 1048576) ≤ coS es f j ∧ coS es f j ≤ (j : Int) * 1048576
  | 0, _ => by show -(((0 : Nat) : Int) * 1048576) ≤ (0 : Int) ∧ (0 : Int) ≤ ((0 : Nat) : Int) * 1048576; omega
  | j + 1, hj => by
    have a := coS_bd gd hf (j := j) (by omega)
    have b := hf j (by omega)
    have c := gd (f j).toNat (by omega)
    show -(((j + 1 : Nat) : Int) * 1048576) ≤ coS es f j + (es (f j).toNat).k ∧ coS es f j + (es (f j).toNat).k ≤ ((j + 1 : Nat) : Int) * 1048576
    omega
end

end Go.Proofs.Ytdblngaacnpgmaa

namespace Go.Proofs.Ytdblngaacnpgmaa
open Go
set_option linter.unusedVariables false
set_option linter.unusedSimpArgs false
set_option maxHeartbeats 1000000

theorem sumN_hd {g : Nat → Int} : ∀ {k : Nat}, sumN (k + 1) g = g 0 + sumN k fun i => g (i + 1)
  | 0 => by show (0 : Int) + g 0 = g 0 + 0; omega
  | k + 1 => by
    show sumN (k + 1) g + g (k + 1) = g 0 + (sumN k (fun i => g (i + 1)) + g (k + 1))
    rw [sumN_hd (k := k)]; omega
theorem lsm_ix {F : Nat → Int} : ∀ {L : List Nat}, (sumN L.length fun i => F (L.getD i 0)) = lsm F L
  | [] => rfl
  | x :: L => by
    show sumN (L.length + 1) _ = F x + lsm F L
    rw [sumN_hd, ← lsm_ix (F := F) (L := L)]
    rfl
theorem lsm_perm {F : Nat → Int} {a b : List Nat} (h : a.Perm b) : lsm F a = lsm F b := by
  induction h with
  | nil => rfl
  | cons x _ ih => show _ + _ = _ + _; rw [ih]
  | swap x y l => show F y + (F x + lsm F l) = F x + (F y + lsm F l); omega
  | trans _ _ ih1 ih2 => exact ih1.trans ih2
/-- A list as a function. -/
abbrev lfn (L : List Nat) (i : Nat) : Int := ((L.getD i 0 : Nat) : Int)
theorem natV_fn (L : List Nat) : natV L = ints L.length (lfn L) := by
  refine List.ext_getElem? fun i => ?_
  by_cases h : i < L.length
  · rw [natV_get h, ints_get h]
    simp [lfn, h]
  · rw [List.getElem?_eq_none (by rw [natV_length]; omega), List.getElem?_eq_none (by rw [ints_length]; omega)]
section
variable {n l wd m : Nat} {es : Nat → Ed} {L : List Nat} {pt : Nat → Int}
theorem getD_mem {i : Nat} (h : i < L.length) : L.getD i 0 ∈ L := by
  rw [List.getD_eq_getElem?_getD, List.getElem?_eq_getElem h]; exact List.getElem_mem h
theorem MaR.mt (sd : Sd l wd m es) (M : MaR n m l es L pt) : MtP n m (sortL L).length es (lfn (sortL L)) ∧ coS es (lfn (sortL L)) (sortL L).length = lkE es L := by
  have pm := sortL_perm L
  have hlt : ∀ i, i ∈ sortL L → i < m := fun i hi => M.lt i (pm.mem_iff.1 hi)
  have nd : (sortL L).Pairwise fun i j => lfE es i ≠ lfE es j ∧ rtE es i ≠ rtE es j := (pm.pairwise_iff (fun {a b} h => ⟨Ne.symm h.1, Ne.symm h.2⟩)).2 M.nd
  have nod : (sortL L).Nodup := pm.nodup_iff.2 M.nodup
  have gi : ∀ i, i < (sortL L).length → (sortL L).getD i 0 < m := fun i hi => hlt _ (getD_mem hi)
  refine ⟨⟨fun i hi => ⟨by show (0 : Int) ≤ ((_ : Nat) : Int); omega, by have := gi i hi; show ((_ : Nat) : Int) < _; omega, fun h0 => ?_⟩, fun i hi => ?_, fun v hv => ?_⟩, ?_⟩
  · have a := List.pairwise_iff_getElem.1 (sortL_le L) (i - 1) i (by omega) hi (by omega)
    have b := List.pairwise_iff_getElem.1 nod (i - 1) i (by omega) hi (by omega)
    have e1 : (sortL L).getD i 0 = (sortL L)[i] := by rw [List.getD_eq_getElem?_getD, List.getElem?_eq_getElem hi]; rfl
    have e2 : (sortL L).getD (i - 1) 0 = (sortL L)[i - 1]'(by omega) := by rw [List.getD_eq_getElem?_getD, List.getElem?_eq_getElem (by omega)]; rfl
    show (((sortL L).getD (i - 1) 0 : Nat) : Int) < (((sortL L).getD i 0 : Nat) : Int)
    rw [e1, e2]; omega
  · have a := gi i hi
    rw [Int.toNat_natCast]
    have s := sd.sd _ a
    obtain ⟨f1, f2⟩ := sd.gd.fr a
    obtain ⟨t1, t2⟩ := sd.gd.to a
    rw [f1, t1]
    unfold lfE rtE at s
    omega
  · have e : atS es (lfn (sortL L)) (sortL L).length (v : Nat) = ftE es (sortL L) v := by
      unfold atS ftE
      rw [← lsm_ix]
      refine sumN_congr fun i hi => ?_
      have a := gi i hi
      rw [Int.toNat_natCast]
      obtain ⟨f1, f2⟩ := sd.gd.fr a
      obtain ⟨t1, t2⟩ := sd.gd.to a
      rw [f1, t1]
      generalize (sortL L).getD i 0 = q at *
      unfold lfE rtE
      rcases Nat.le_total (frE es q) (toE es q) with h | h
      · rw [Nat.min_eq_left h, Nat.max_eq_right h]
        simp only [Int.natCast_inj]
      · rw [Nat.min_eq_right h, Nat.max_eq_left h]
        simp only [Int.natCast_inj]
        omega
    rw [e]
    exact (ftE_le sd.sd v hlt nd).2
  · unfold coS
    rw [lkE_lsm, ← lsm_perm pm, ← lsm_ix]
    exact sumN_congr fun i hi => by rw [Int.toNat_natCast]
end
end Go.Proofs.Ytdblngaacnpgmaa

namespace Go.Proofs.Ytdblngaacnpgmaa
open Go
set_option linter.unusedVariables false
set_option linter.unusedSimpArgs false
set_option maxHeartbeats 1000000

theorem pw_ne {R : Nat → Nat → Prop} (sym : ∀ {a b}, R a b → R b a) : ∀ {L : List Nat}, L.Pairwise R → ∀ {i j}, i ∈ L → j ∈ L → i ≠ j → R i j
  | [], _, _, _, h, _, _ => by cases h
  | x :: L, p, i, j, hi, hj, ne => by
    rw [List.pairwise_cons] at p
    rcases List.mem_cons.1 hi with e1 | hi2
    · rcases List.mem_cons.1 hj with e2 | hj2
      · exact absurd (e1.trans e2.symm) ne
      · rw [e1]; exact p.1 j hj2
    · rcases List.mem_cons.1 hj with e2 | hj2
      · rw [e2]; exact sym (p.1 i hi2)
      · exact pw_ne sym p.2 hi2 hj2 ne
/-- The graph of awake. -/
def esP (i : Nat) : Ed := match i with
  | 0 => ⟨0, 2, 0, 3⟩
  | 1 => ⟨2, 1, 0, 7⟩
  | _ => ⟨1, 3, 0, 3⟩
theorem esP_sd : (sidesG 4 3 esP 2).1 = 0 := by decide
theorem esP_L {L : List Nat} {pt : Nat → Int} (M : MaR 4 3 2 esP L pt) : L = [1] := by
  have nod := M.nodup
  have ne := fun {i j} (hi : i ∈ L) (hj : j ∈ L) (h : i ≠ j) => pw_ne (R := fun i j => lfE esP i ≠ lfE esP j ∧ rtE esP i ≠ rtE esP j) (fun {a b} h => ⟨Ne.symm h.1, Ne.symm h.2⟩) M.nd hi hj h
  have s := M.su
  rw [lkE_lsm, ← lsm_mem nod M.lt] at s
  have p0 := M.po 0 (by omega)
  have p1 := M.po 1 (by omega)
  have p2 := M.po 2 (by omega)
  have p3 := M.po 3 (by omega)
  have c1 := M.co 1 (by omega)
  change (7 : Int) ≤ pt 2 + pt 1 at c1
  change (((0 + pt 0) + pt 1) + pt 2) + pt 3 = ((0 + (if 0 ∈ L then (3 : Int) else 0)) + (if 1 ∈ L then (7 : Int) else 0)) + (if 2 ∈ L then (3 : Int) else 0) at s
  have h1 : 1 ∈ L := by
    refine Classical.byContradiction fun h => ?_
    rw [if_neg h] at s
    split at s <;> split at s <;> omega
  have h0 : 0 ∉ L := fun h => (ne h h1 (by omega)).2 rfl
  have h2 : 2 ∉ L := fun h => (ne h h1 (by omega)).1 rfl
  have all : ∀ x, x ∈ L → x = 1 := fun x hx => by
    have := M.lt x hx
    rcases (show x = 0 ∨ x = 1 ∨ x = 2 by omega) with rfl | rfl | rfl
    · exact absurd hx h0
    · rfl
    · exact absurd hx h2
  cases L with
  | nil => cases h1
  | cons x L' =>
    have e := all x List.mem_cons_self
    subst e
    cases L' with
    | nil => rfl
    | cons y L'' =>
      have e2 := all y (by simp)
      subst e2
      simp at nod
section
variable {h : H} {w : List Value} {n : Int} {m : Nat} {es : Nat → Ed}
theorem path16_R : T Try.prog F.compasslaw16_path [] h fun r h' => ∃ v, r = .ret (.agg ⟨[.int .i64 4, v]⟩) ∧ Gs h' v 3 esP ∧ Ext h h' := by
  refine E_compasslaw16_path ?_
  unfold B_compasslaw16_path
  refine new_bl ?_
  intro b1 q1 hb1 x1 B1_
  refine ⟨rfl, rfl, rfl, new_bl ?_⟩
  intro b3 q3 hb3 x3 B3
  have Gv : Gs q3 (.slice (some (bk b3)) 3 3) 3 esP := by
    refine ⟨_, _, rfl, fun i hi => ⟨_, rfl, fun j v hj => ?_⟩⟩
    rw [bk_add, bk_add2, ← bk_add]
    refine B3.ld ?_
    match i, hi with
    | 0, _ => match j, hj with
      | 0, hj => exact hj
      | 1, hj => exact hj
      | 2, hj => exact hj
      | 3, hj => exact hj
    | 1, _ => match j, hj with
      | 0, hj => exact hj
      | 1, hj => exact hj
      | 2, hj => exact hj
      | 3, hj => exact hj
    | 2, _ => match j, hj with
      | 0, hj => exact hj
      | 1, hj => exact hj
      | 2, hj => exact hj
      | 3, hj => exact hj
  refine (B1_.ext x3).stN rfl rfl (by simp [Value.oneCell']) fun g kp B => B.ldN rfl ⟨_, rfl, ?_, (x1.trans' x3).of_kp kp hb1⟩
  refine ⟨_, _, rfl, fun i hi => ?_⟩
  obtain ⟨a, c, e, k⟩ := Gv
  rw [Value.slice.injEq] at e
  obtain ⟨rfl, _, rfl⟩ := e
  obtain ⟨ad, e2, hc⟩ := k i hi
  have ne : b3 ≠ b1 := by
    rintro rfl
    obtain ⟨e, hb⟩ := B1_
    rw [hb] at hb3; cases hb3
  refine ⟨ad, e2, fun j v hj => ?_⟩
  rw [Option.some.injEq] at e2
  subst e2
  have hc := hc j v hj
  rw [bk_add, bk_add2, ← bk_add] at hc ⊢
  obtain ⟨e, hb⟩ := B3
  have e1 := kp b3 _ ne hb
  rw [bk_add, hcell_at e1]
  rw [bk_add, hcell_at hb] at hc
  exact hc
theorem awake16_R : T Try.prog F.compasslaw16_awake [] h fun r h' => r = .ret (.bool true) ∧ Ext h h' := by
  refine E_compasslaw16_awake ?_
  unfold B_compasslaw16_awake
  let I : (Int × Unit) → H → Nat → Prop := fun p q z => ∃ j : Nat, p.1 = j ∧ 1 ≤ j ∧ j ≤ 3 ∧ z = 3 - j ∧ Ext h q
  refine ⟨fun p q => ∃ k, I p q k, rk I, rk_wf I, ⟨_, 1, rfl, by omega, by omega, rfl, Ext.refl _⟩, ?_⟩
  intro p q hI
  obtain ⟨j, e1, hj1, hj, hk2, xq⟩ := mu_spec hI
  generalize hkk : mu I ((p, ()), q) = km at *
  change p = (j : Int) at e1
  subst e1
  refine ifP_of (fun h1 => ?_) (fun _ => ⟨rfl, xq⟩)
  have hj3 : j < 3 := by have := of_decide_eq_true h1; omega
  refine path16_R.mono ?_
  rintro _ q2 ⟨v, rfl, Gv, x2⟩
  refine rt_ret ⟨_, rfl, rfl, (ASolve_T (Gv.gr 4) 2 (j : Int)).mono ?_⟩
  have c0 : codeA 4 3 esP 2 (j : Int) = 0 := by
    unfold codeA; rw [esP_sd, if_neg (by simp), if_pos (by omega)]
  rintro _ q3 (⟨hc, _⟩ | ⟨_, l, wd, own', mv, pv, L, pt, e1, e2, sd, _, bs, k12, k5, M, rfl⟩)
  · exact absurd c0 hc
  have el : l = 2 := by omega
  have ew : wd = 2 := by omega
  subst el ew
  have hL := esP_L M
  subst hL
  have es1 : sortL [1] = [1] := by simp [sortL]
  rw [es1] at k12
  refine rt_ret ⟨_, _, _, _, rfl, ifP_of (fun h => by simp at h) (fun _ => k12.len (l := 1) rfl fun _ _ => ifP_of (fun h => by simp at h) (fun _ => ?_))⟩
  refine k12.rd (j := 0) (x := 1) rfl (ifP_of (fun h => by simp at h) (fun _ => ifP_of (fun h => ?_) (fun _ => k5.len (l := 4) (ints_length _ _) fun _ _ => ifP_of (fun h => by simp at h) (fun _ => ?_))))
  · have e7 : lkE esP [1] = 7 := by decide
    rw [e7] at h; simp at h
  · rw [i64_inc (by omega)]
    exact mu_next (I := I) (k := 3 - (j + 1)) ⟨j + 1, rfl, by omega, hj3, rfl, (xq.trans' x2).trans' bs.ext⟩ (by rw [hkk, hk2]; omega)
end

end Go.Proofs.Ytdblngaacnpgmaa

namespace Go.Proofs.Ytdblngaacnpgmaa
open Go
set_option linter.unusedVariables false
set_option linter.unusedSimpArgs false
set_option maxHeartbeats 1000000

section
variable {n left kind c d e f : Int} {m l wd : Nat} {es es' : Nat → Ed} {L L' : List Nat} {pt pt' : Nat → Int}
/-- No matching costs more than potentials. -/
theorem ma_le (sd : Sd l wd m es) (hlt : ∀ i, i ∈ L → i < m) (hnd : L.Pairwise fun i j => lfE es i ≠ lfE es j ∧ rtE es i ≠ rtE es j) (po : ∀ v, v < l + wd → 0 ≤ pt v) (co : ∀ i, i < m → (es i).k ≤ pt (frE es i) + pt (toE es i)) :
    lkE es L ≤ sumN (l + wd) pt := by
  obtain ⟨P, e⟩ := best_plan sd hlt hnd
  have := best_ge sd po co P
  omega
/-- The code and the cost that Solve answers. -/
def OutAs (n : Int) (m : Nat) (es : Nat → Ed) (left kind : Int) (c e : Int) : Prop :=
  (codeA n m es left kind ≠ 0 ∧ c = 0 ∧ e = codeA n m es left kind) ∨
  (codeA n m es left kind = 0 ∧ e = 0 ∧ ∃ (l wd : Nat) (L : List Nat) (pt : Nat → Int), left = l ∧ n = ((l + wd : Nat) : Int) ∧ Sd l wd m es ∧ (kind = 1 ∨ kind = 2) ∧ MaR (l + wd) m l es L pt ∧ c = lkE es L)
theorem SolAs.out {h h' : H} {r : Res} (S : SolAs h n m es left kind r h') : ∃ mv pv c e, r = .ret (.tuple ⟨[mv, pv, .int .i64 c, .int .i64 e]⟩) ∧ Ext h h' ∧ OutAs n m es left kind c e := by
  rcases S with ⟨hc, rfl, x⟩ | ⟨hc, l, wd, own', mv, pv, L, pt, e1, e2, sd, hk, bs, k12, k5, M, rfl⟩
  · exact ⟨_, _, _, _, rfl, x, .inl ⟨hc, rfl, rfl⟩⟩
  · exact ⟨_, _, _, _, rfl, bs.ext, .inr ⟨hc, rfl, l, wd, L, pt, e1, e2, sd, hk, M, rfl⟩⟩
theorem OutAs.c0 (O : OutAs n m es left kind c e) (h : e ≠ 0) : c = 0 := by
  rcases O with ⟨_, h, _⟩ | ⟨_, h2, _⟩
  · exact h
  · exact absurd h2 h
theorem codeA_sd (sd : Sd l wd m es) (hk : kind = 1 ∨ kind = 2) : codeA ((l + wd : Nat) : Int) m es l kind = 0 := by
  unfold codeA; rw [sd.no, if_neg (by simp), if_pos hk]
theorem OutAs.ok (O : OutAs ((l + wd : Nat) : Int) m es l kind c e) (sd : Sd l wd m es) (hk : kind = 1 ∨ kind = 2) : e = 0 ∧ ∃ (L : List Nat) (pt : Nat → Int), MaR (l + wd) m l es L pt ∧ c = lkE es L := by
  rcases O with ⟨h, _⟩ | ⟨_, h, l', wd', L, pt, e1, e2, sd', _, M, hc⟩
  · exact absurd (codeA_sd sd hk) h
  · have el : l' = l := by omega
    have ew : wd' = wd := by omega
    subst el ew
    exact ⟨h, L, pt, M, hc⟩
theorem badFrom_z31 {n : Int} : ∀ {k i : Nat}, (∀ j, i ≤ j → j < i + k → badE n (es j) = 0 ∨ badE n (es j) = 31) → (badFrom n es i k).1 = 0 ∨ (badFrom n es i k).1 = 31
  | 0, i, _ => .inl rfl
  | k + 1, i, h => by
    by_cases e : badE n (es i) = 0
    · rw [badFrom_good e]; exact badFrom_z31 fun j h1 h2 => h j (by omega) (by omega)
    · rw [badFrom_bad e]
      rcases h i (by omega) (by omega) with h | h
      · exact absurd h e
      · exact .inr h
/-- Only costs differ. -/
def SmC (m : Nat) (es es' : Nat → Ed) : Prop := ∀ i, i < m → (es' i).f = (es i).f ∧ (es' i).t = (es i).t ∧ (es' i).c = (es i).c
theorem SmC.lf (S : SmC m es es') {i : Nat} (hi : i < m) : lfE es' i = lfE es i ∧ rtE es' i = rtE es i ∧ frE es' i = frE es i ∧ toE es' i = toE es i := by
  obtain ⟨a, b, _⟩ := S i hi
  unfold lfE rtE frE toE
  rw [a, b]; exact ⟨rfl, rfl, rfl, rfl⟩
theorem OutAs.costs (sd : Sd l wd m es) (hk : kind = 1 ∨ kind = 2) (S : SmC m es es') (O : OutAs ((l + wd : Nat) : Int) m es' l kind c e) : e = 31 ∨ (e = 0 ∧ Sd l wd m es' ∧ ∃ (L : List Nat) (pt : Nat → Int), MaR (l + wd) m l es' L pt ∧ c = lkE es' L) := by
  have n1 := sd.gd.n1
  have m1 := sd.gd.m1
  have h31 : (faultG ((l + wd : Nat) : Int) m es').1 = 0 ∨ (faultG ((l + wd : Nat) : Int) m es').1 = 31 := by
    unfold faultG
    rw [if_neg (by omega)]
    refine badFrom_z31 fun j _ hj => ?_
    obtain ⟨a, b, c⟩ := S j (by omega)
    obtain ⟨f1, f2⟩ := sd.gd.fr (i := j) (by omega)
    obtain ⟨t1, t2⟩ := sd.gd.to (i := j) (by omega)
    unfold badE
    rw [a, b, f1, t1, if_neg (by omega)]
    split
    · exact .inr rfl
    · exact .inl rfl
  rcases h31 with h | h
  · have sd' : Sd l wd m es' := by
      obtain ⟨n', e1, gd⟩ := Gd.of h
      have : n' = l + wd := by omega
      subst this
      refine ⟨gd, fun i hi => ?_⟩
      obtain ⟨a, b, _⟩ := S.lf hi
      rw [a, b]; exact sd.sd i hi
    obtain ⟨h0, L, pt, M, hc⟩ := O.ok sd' hk
    exact .inr ⟨h0, sd', L, pt, M, hc⟩
  · left
    have hc : codeA ((l + wd : Nat) : Int) m es' l kind = 31 := by
      have : (sidesG ((l + wd : Nat) : Int) m es' l).1 = 31 := by
        unfold sidesG; rw [if_pos (by omega)]; exact h
      unfold codeA; rw [this, if_pos (by omega)]
    rcases O with ⟨_, _, h⟩ | ⟨h, _⟩
    · rw [h, hc]
    · omega
/-- The edges that cost more than nothing. -/
def poL (es : Nat → Ed) : Nat → List Nat
  | 0 => []
  | i + 1 => poL es i ++ if 0 < (es i).k then [i] else []
theorem poL_mem {x : Nat} : ∀ {i : Nat}, x ∈ poL es i ↔ x < i ∧ 0 < (es x).k
  | 0 => by simp [poL]
  | i + 1 => by
    show x ∈ poL es i ++ (if 0 < (es i).k then [i] else []) ↔ _
    rw [List.mem_append, poL_mem]
    by_cases h : 0 < (es i).k
    · rw [if_pos h, List.mem_singleton]
      constructor
      · rintro (a | rfl)
        · exact ⟨by omega, a.2⟩
        · exact ⟨by omega, h⟩
      · rintro ⟨a, b⟩
        by_cases e : x = i
        · exact .inr e
        · exact .inl ⟨by omega, b⟩
    · rw [if_neg h]
      constructor
      · rintro (a | a)
        · exact ⟨by omega, a.2⟩
        · cases a
      · rintro ⟨a, b⟩
        by_cases e : x = i
        · subst e; exact absurd b h
        · exact .inl ⟨by omega, b⟩
theorem poL_len : ∀ {i : Nat}, (poL es i).length ≤ i
  | 0 => Nat.le_refl _
  | i + 1 => by
    have := poL_len (i := i)
    show (poL es i ++ if 0 < (es i).k then [i] else []).length ≤ i + 1
    rw [List.length_append]
    split <;> simp <;> omega
def poE (es : Nat → Ed) (m : Nat) (j : Nat) : Ed := es ((poL es m).getD j 0)
theorem poE_ix {j : Nat} (hj : j < (poL es m).length) : (poL es m).getD j 0 < m ∧ 0 < (es ((poL es m).getD j 0)).k := poL_mem.1 (getD_mem hj)
theorem Sd.po (sd : Sd l wd m es) : Sd l wd (poL es m).length (poE es m) := by
  have hl := poL_len (es := es) (i := m)
  have m1 := sd.gd.m1
  refine ⟨⟨sd.gd.n1, by omega, fun j hj => sd.gd.f _ (poE_ix hj).1, fun j hj => sd.gd.t _ (poE_ix hj).1, fun j hj => sd.gd.c _ (poE_ix hj).1, fun j hj => sd.gd.k _ (poE_ix hj).1⟩, fun j hj => sd.sd _ (poE_ix hj).1⟩
theorem OutAs.pos (sd : Sd l wd m es) (hk : kind = 1 ∨ kind = 2) (M : MaR (l + wd) m l es L pt) (O : OutAs ((l + wd : Nat) : Int) (poL es m).length (poE es m) l kind c e) : e = 0 ∧ c = lkE es L := by
  obtain ⟨h, L', pt', M', hc⟩ := O.ok sd.po hk
  refine ⟨h, ?_⟩
  have a := ma_le sd (L := L) M.lt M.nd (fun v hv => (M'.po v hv).1) (fun i hi => by
    by_cases h0 : 0 < (es i).k
    · obtain ⟨j, hj, e⟩ := List.getElem_of_mem (poL_mem.2 ⟨hi, h0⟩)
      have e2 : (poL es m).getD j 0 = i := by rw [List.getD_eq_getElem?_getD, List.getElem?_eq_getElem hj, e]; rfl
      have := M'.co j hj
      have e3 : poE es m j = es i := by unfold poE; rw [e2]
      unfold frE toE at this ⊢
      rw [e3] at this
      exact this
    · have a := (M'.po _ (sd.gd.fr hi).2).1
      have b := (M'.po _ (sd.gd.to hi).2).1
      omega)
  have b := ma_le sd.po (L := L') M'.lt M'.nd (fun v hv => (M.po v hv).1) (fun j hj => M.co _ (poE_ix hj).1)
  rw [M'.su] at a
  rw [M.su] at b
  omega
end

end Go.Proofs.Ytdblngaacnpgmaa

namespace Go.Proofs.Ytdblngaacnpgmaa
open Go
set_option linter.unusedVariables false
set_option linter.unusedSimpArgs false
set_option maxHeartbeats 2000000

/-- Owners renamed. -/
def shO (n : Nat) (own : Own) : Own := fun c => if own c = 0 then 0 else own c + n
theorem Bs.sh {h h' : H} {own : Own} (n : Nat) (bs : Bs h own h') : Bs h (shO n own) h' := ⟨bs.ext, fun b o e => by unfold shO; rw [bs.old b o e]; rfl⟩
theorem S4.sh {own : Own} {h : H} {i m : Nat} {v : Value} {es : Nat → Ed} (n : Nat) (s : S4 own h i v m es) (hi : i ≠ 0) : S4 (shO n own) h (i + n) v m es := s.rel fun b hb => by unfold shO; rw [hb, if_neg hi]
theorem S4.mg {g g' : H} {own own' : Own} {i m : Nat} {v : Value} {es : Nat → Ed} (s : S4 own' g' i v m es) (bs : Bs g own' g') (hi : i ≠ 0) : S4 (mgO g own own') g' i v m es :=
  s.rel fun b hb => by rw [mgO_new (bs.new_ (by omega))]; exact hb
end Go.Proofs.Ytdblngaacnpgmaa

namespace Go.Proofs.Ytdblngaacnpgmaa
open Go
set_option linter.unusedVariables false
set_option linter.unusedSimpArgs false
set_option maxHeartbeats 1000000

section
variable {n k l wd m : Nat} {es : Nat → Ed} {L : List Nat} {pt f : Nat → Int}
/-- No raw matching costs more. -/
theorem MtP.le (M : MtP n m k es f) (gd : Gd n m es) (po : ∀ v, v < n → 0 ≤ pt v) (co : ∀ i, i < m → (es i).k ≤ pt (frE es i) + pt (toE es i)) : coS es f k ≤ sumN n pt := by
  have hq : ∀ i, i < k → (f i).toNat < m := fun i hi => by have := M.ri i hi; omega
  have e1 : coS es f k ≤ sumN k fun i => pt (frE es (f i).toNat) + pt (toE es (f i).toNat) := sumN_le fun i hi => co _ (hq i hi)
  have e2 : (sumN k fun i => pt (frE es (f i).toNat) + pt (toE es (f i).toNat)) = sumN k fun i => sumN n fun v => (if frE es (f i).toNat = v then pt v else 0) + (if toE es (f i).toNat = v then pt v else 0) := sumN_congr fun i hi => by
    rw [sumN_add, sumN_ptf (gd.fr (hq i hi)).2, sumN_ptf (gd.to (hq i hi)).2]
  have e3 : (sumN n fun v => sumN k fun i => (if frE es (f i).toNat = v then pt v else 0) + (if toE es (f i).toNat = v then pt v else 0)) = sumN n fun v => pt v * atS es f k (v : Nat) := sumN_congr fun v hv => by
    unfold atS
    rw [← sumN_mul]
    refine sumN_congr fun i hi => ?_
    rw [(gd.fr (hq i hi)).1, (gd.to (hq i hi)).1]
    simp only [Int.natCast_inj]
    split <;> split <;> omega
  rw [e2, sumN_swap, e3] at e1
  refine Int.le_trans e1 (sumN_le fun v hv => ?_)
  have := Int.mul_nonneg (po v hv) (show 0 ≤ 1 - atS es f k (v : Nat) by have := M.at_ v hv; omega)
  rw [Int.mul_sub] at this
  omega
/-- Every cost is 1. -/
def onE (es : Nat → Ed) (i : Nat) : Ed := ⟨(es i).f, (es i).t, (es i).c, 1⟩
theorem Sd.on (sd : Sd l wd m es) : Sd l wd m (onE es) := ⟨⟨sd.gd.n1, sd.gd.m1, sd.gd.f, sd.gd.t, sd.gd.c, fun i _ => by show (-1048576 : Int) ≤ 1 ∧ (1 : Int) ≤ 1048576; omega⟩, sd.sd⟩
/-- The graph of the flow from side to side. -/
def edM (n l : Nat) (es : Nat → Ed) (i : Nat) : Ed :=
  if i < n then (if i < l then ⟨(n : Nat), (i : Nat), 1, 0⟩ else ⟨(i : Nat), (n + 1 : Nat), 1, 0⟩) else ⟨(lfE es (i - n) : Nat), (rtE es (i - n) : Nat), 1, 0⟩
theorem edM_1 {i : Nat} (h : i < l) (hn : l ≤ n) : edM n l es i = ⟨(n : Nat), (i : Nat), 1, 0⟩ := by unfold edM; rw [if_pos (by omega), if_pos h]
theorem edM_2 {i : Nat} (h : ¬ i < l) (hn : i < n) : edM n l es i = ⟨(i : Nat), (n + 1 : Nat), 1, 0⟩ := by unfold edM; rw [if_pos hn, if_neg h]
theorem edM_3 {j : Nat} : edM n l es (n + j) = ⟨(lfE es j : Nat), (rtE es j : Nat), 1, 0⟩ := by unfold edM; rw [if_neg (by omega), show n + j - n = j by omega]
theorem fm_1 {i : Nat} (h : i < l) (hn : l ≤ n) : frE (edM n l es) i = n ∧ toE (edM n l es) i = i ∧ cpE (edM n l es) i = 1 := by
  unfold frE toE cpE; rw [edM_1 h hn]; exact ⟨by simp, by simp, rfl⟩
theorem fm_2 {i : Nat} (h : ¬ i < l) (hn : i < n) : frE (edM n l es) i = i ∧ toE (edM n l es) i = n + 1 ∧ cpE (edM n l es) i = 1 := by
  unfold frE toE cpE; rw [edM_2 h hn]; exact ⟨by simp, Int.toNat_natCast _, rfl⟩
theorem fm_3 {j : Nat} : frE (edM n l es) (n + j) = lfE es j ∧ toE (edM n l es) (n + j) = rtE es j ∧ cpE (edM n l es) (n + j) = 1 := by
  have e := edM_3 (n := n) (l := l) (es := es) (j := j)
  refine ⟨?_, ?_, ?_⟩
  · show (edM n l es (n + j)).f.toNat = _
    rw [e]; exact Int.toNat_natCast _
  · show (edM n l es (n + j)).t.toNat = _
    rw [e]; exact Int.toNat_natCast _
  · show (edM n l es (n + j)).c = _
    rw [e]
theorem ed3 {l n m i : Nat} (hi : i < n + m) : i < l ∨ (¬ i < l ∧ i < n) ∨ ∃ j, j < m ∧ i = n + j := by
  by_cases h1 : i < l
  · exact .inl h1
  · by_cases h2 : i < n
    · exact .inr (.inl ⟨h1, h2⟩)
    · exact .inr (.inr ⟨i - n, by omega, by omega⟩)
theorem Sd.gwM (sd : Sd l wd m es) : Gw (l + wd + 2) (l + wd + m) (edM (l + wd) l es) := by
  have n1 := sd.gd.n1
  have m1 := sd.gd.m1
  refine ⟨by omega, by omega, fun i hi => ?_, fun i hi => ?_, fun i hi => ?_, fun i hi => ?_⟩
  · rcases ed3 (l := l) hi with h | ⟨h1, h2⟩ | ⟨j, hj, rfl⟩
    · rw [(fm_1 (es := es) h (Nat.le_add_right l wd)).1, edM_1 h (by omega)]; exact ⟨rfl, by omega⟩
    · rw [(fm_2 (es := es) h1 h2).1, edM_2 h1 h2]; exact ⟨rfl, by omega⟩
    · rw [fm_3.1, edM_3]; have := sd.sd j hj; exact ⟨rfl, by omega⟩
  · rcases ed3 (l := l) hi with h | ⟨h1, h2⟩ | ⟨j, hj, rfl⟩
    · rw [(fm_1 (es := es) h (Nat.le_add_right l wd)).2.1, edM_1 h (by omega)]; exact ⟨rfl, by omega⟩
    · rw [(fm_2 (es := es) h1 h2).2.1, edM_2 h1 h2]; exact ⟨rfl, by omega⟩
    · rw [fm_3.2.1, edM_3]; have := sd.sd j hj; exact ⟨rfl, by omega⟩
  · rcases ed3 (l := l) hi with h | ⟨h1, h2⟩ | ⟨j, hj, rfl⟩
    · rw [edM_1 h (by omega)]; show (0 : Int) ≤ 1 ∧ (1 : Int) ≤ 1048576; omega
    · rw [edM_2 h1 h2]; show (0 : Int) ≤ 1 ∧ (1 : Int) ≤ 1048576; omega
    · rw [edM_3]; show (0 : Int) ≤ 1 ∧ (1 : Int) ≤ 1048576; omega
  · rcases ed3 (l := l) hi with h | ⟨h1, h2⟩ | ⟨j, hj, rfl⟩
    · rw [edM_1 h (by omega)]; show (-1048576 : Int) ≤ 0 ∧ (0 : Int) ≤ 1048576; omega
    · rw [edM_2 h1 h2]; show (-1048576 : Int) ≤ 0 ∧ (0 : Int) ≤ 1048576; omega
    · rw [edM_3]; show (-1048576 : Int) ≤ 0 ∧ (0 : Int) ≤ 1048576; omega
/-- Both graphs are alike but for the ends. -/
theorem out_MW {v : Nat} (hv : v < l + wd) : OutF (l + wd + m) (frE (edM (l + wd) l es)) (toE (edM (l + wd) l es)) f v = OutF (l + wd + m) (frE (edW (l + wd) l (onE es))) (toE (edW (l + wd) l (onE es))) f v := by
  unfold OutF
  refine sumN_congr fun i hi => ?_
  rcases ed3 (l := l) hi with h | ⟨h1, h2⟩ | ⟨j, hj, rfl⟩
  · obtain ⟨a, b, _⟩ := fm_1 (es := es) h (Nat.le_add_right l wd)
    obtain ⟨c, d, _⟩ := fr_1 (es := onE es) h (Nat.le_add_right l wd)
    rw [a, b, c, d]
  · obtain ⟨a, b, _⟩ := fm_2 (es := es) h1 h2
    obtain ⟨c, d, _⟩ := fr_2 (es := onE es) h1 h2
    rw [a, b, c, d, if_neg (show ¬ l + wd + 1 = v by omega), if_neg (show ¬ l + wd = v by omega)]
  · obtain ⟨a, b, _⟩ := fm_3 (n := l + wd) (l := l) (es := es) (j := j)
    obtain ⟨c, d, _⟩ := fr_3 (n := l + wd) (l := l) (es := onE es) (j := j)
    rw [a, b, c, d]; rfl
theorem cp_M {i : Nat} (hi : i < l + wd + m) : cpE (edM (l + wd) l es) i = 1 ∧ cpE (edW (l + wd) l (onE es)) i = 1 := by
  rcases ed3 (l := l) hi with h | ⟨h1, h2⟩ | ⟨j, hj, rfl⟩
  · exact ⟨(fm_1 (es := es) h (Nat.le_add_right l wd)).2.2, (fr_1 (es := onE es) h (Nat.le_add_right l wd)).2.2.2⟩
  · exact ⟨(fm_2 (es := es) h1 h2).2.2, (fr_2 (es := onE es) h1 h2).2.2.2⟩
  · exact ⟨fm_3.2.2, fr_3.2.2.2⟩
/-- A flow from side to side is a flow round. -/
theorem FlowP.plan (sd : Sd l wd m es) (P : FlowP (l + wd + 2) (l + wd + m) (frE (edM (l + wd) l es)) (toE (edM (l + wd) l es)) (cpE (edM (l + wd) l es)) (l + wd) (l + wd + 1) f) :
    PlanP (l + wd + 1) (l + wd + m) (frE (edW (l + wd) l (onE es))) (toE (edW (l + wd) l (onE es))) (cpE (edW (l + wd) l (onE es))) (fun _ => 0) f := by
  have o1 : ∀ v, v < l + wd → OutF (l + wd + m) (frE (edW (l + wd) l (onE es))) (toE (edW (l + wd) l (onE es))) f v = 0 := fun v hv => by
    rw [← out_MW hv]; exact P.cons v (by omega) (by omega) (by omega)
  refine ⟨fun i hi => by rw [(cp_M (es := es) hi).2]; have := P.cp i hi; rw [(cp_M (es := es) hi).1] at this; exact this, fun v hv => ?_⟩
  by_cases h : v < l + wd
  · exact o1 v h
  · have gm := sd.on.gmW
    have z := pot_out (n := l + wd + 1) (fun i (hi : i < l + wd + m) => ⟨(gm.fr hi).2, (gm.to hi).2⟩) (fun _ => 1) f
    rw [sumN_zero (f := fun i => ((1 : Int) - 1) * _) (fun i _ => by rw [Int.sub_self, Int.zero_mul])] at z
    have e : (sumN (l + wd + 1) fun v => 1 * OutF (l + wd + m) (frE (edW (l + wd) l (onE es))) (toE (edW (l + wd) l (onE es))) f v) = (sumN (l + wd) fun v => 1 * OutF (l + wd + m) (frE (edW (l + wd) l (onE es))) (toE (edW (l + wd) l (onE es))) f v) + 1 * OutF (l + wd + m) (frE (edW (l + wd) l (onE es))) (toE (edW (l + wd) l (onE es))) f (l + wd) := rfl
    rw [e, sumN_zero (f := fun v => 1 * OutF _ _ _ _ v) (fun v hv => by rw [o1 v hv]; rfl)] at z
    have : v = l + wd := by omega
    subst this
    omega
theorem PlanP.flow (P : PlanP (l + wd + 1) (l + wd + m) (frE (edW (l + wd) l (onE es))) (toE (edW (l + wd) l (onE es))) (cpE (edW (l + wd) l (onE es))) (fun _ => 0) f) :
    FlowP (l + wd + 2) (l + wd + m) (frE (edM (l + wd) l es)) (toE (edM (l + wd) l es)) (cpE (edM (l + wd) l es)) (l + wd) (l + wd + 1) f :=
  ⟨fun i hi => by rw [(cp_M (es := es) hi).1]; have := P.cp i hi; rw [(cp_M (es := es) hi).2] at this; exact this, fun v hv h1 h2 => by rw [out_MW (by omega)]; exact P.out v (by omega)⟩
/-- What flows from side to side is what the edges between take. -/
theorem FlowP.val (sd : Sd l wd m es) (P : FlowP (l + wd + 2) (l + wd + m) (frE (edM (l + wd) l es)) (toE (edM (l + wd) l es)) (cpE (edM (l + wd) l es)) (l + wd) (l + wd + 1) f) :
    OutF (l + wd + m) (frE (edM (l + wd) l es)) (toE (edM (l + wd) l es)) f (l + wd) = -totC (l + wd + m) (ckE (edW (l + wd) l (onE es))) f := by
  have gw := sd.gwM
  have z := pot_out (n := l + wd + 2) gw.ends (fun v => if v < l ∨ v = l + wd then 1 else 0) f
  have e1 : (sumN (l + wd + 2) fun v => (if v < l ∨ v = l + wd then (1 : Int) else 0) * OutF (l + wd + m) (frE (edM (l + wd) l es)) (toE (edM (l + wd) l es)) f v) = OutF (l + wd + m) (frE (edM (l + wd) l es)) (toE (edM (l + wd) l es)) f (l + wd) := by
    rw [← sumN_ptf (f := fun v => OutF (l + wd + m) (frE (edM (l + wd) l es)) (toE (edM (l + wd) l es)) f v) (show l + wd < l + wd + 2 by omega)]
    refine sumN_congr fun v hv => ?_
    by_cases h : l + wd = v
    · subst h; rw [if_pos (.inr rfl), if_pos rfl]; omega
    · rw [if_neg h]
      by_cases h2 : v < l
      · rw [P.cons v hv (by omega) (by omega), Int.mul_zero]
      · rw [if_neg (by omega), Int.zero_mul]
  rw [e1, sumN_split (a := l + wd) (b := m), sumN_zero (k := l + wd) (fun i hi => ?_), Int.zero_add] at z
  · rw [← z]
    unfold totC
    rw [sumN_split (a := l + wd) (b := m), sumN_zero (k := l + wd) (fun i hi => by
      by_cases h : i < l
      · rw [(fr_1 (es := onE es) h (Nat.le_add_right l wd)).2.2.1, Int.zero_mul]
      · rw [(fr_2 (es := onE es) h hi).2.2.1, Int.zero_mul]), Int.zero_add]
    rw [show -(sumN m fun i => ckE (edW (l + wd) l (onE es)) (l + wd + i) * f (l + wd + i)) = (-1) * (sumN m fun i => ckE (edW (l + wd) l (onE es)) (l + wd + i) * f (l + wd + i)) by omega, ← sumN_mul]
    refine sumN_congr fun j hj => ?_
    obtain ⟨a, b, _⟩ := fm_3 (n := l + wd) (l := l) (es := es) (j := j)
    have s := sd.sd j hj
    rw [a, b, fr_3.2.2.1, if_pos (.inl s.1), if_neg (by omega)]
    show ((1 : Int) - 0) * _ = -1 * (-1 * _)
    omega
  · by_cases h : i < l
    · obtain ⟨a, b, _⟩ := fm_1 (es := es) h (Nat.le_add_right l wd)
      rw [a, b, if_pos (.inr rfl), if_pos (.inl h), Int.sub_self, Int.zero_mul]
    · obtain ⟨a, b, _⟩ := fm_2 (es := es) h hi
      rw [a, b, if_neg (by omega), if_neg (by omega), Int.sub_self, Int.zero_mul]
end

end Go.Proofs.Ytdblngaacnpgmaa

namespace Go.Proofs.Ytdblngaacnpgmaa
open Go
set_option linter.unusedVariables false
set_option linter.unusedSimpArgs false
set_option maxRecDepth 100000

/-- What is given up with. -/
abbrev gwV (c : Int) : Value := .iface 104 (.agg ⟨[.int .i64 c]⟩)

theorem ta_givev (c : Int) (w : World) : (Instr.typeAssert (gwV c) 20 104 true).run Try.prog w = .ok (.tuple ⟨[.agg ⟨[.int .i64 c]⟩, .bool true]⟩) w := by kernel_rfl
theorem ta_nilv (w : World) : (Instr.typeAssert .nilIface 20 104 true).run Try.prog w = .ok (.tuple ⟨[.agg ⟨[.int .i64 0]⟩, .bool false]⟩) w := by kernel_rfl

theorem f41_seqv : bodyOf Try.f58 = .seq (.region 0 (firstOps (bodyOf Try.f58)) false) (restOf (bodyOf Try.f58)) := by kernel_rfl

/-- The rest of the closure's first region. -/
def Bvl41 (v : Value) (h : H) (K : Fr → H → Prop) (b : Nat) : Prop :=
  runP Try.prog h (Instr.typeAssert v 20 104 true) fun v5 => tupP v5 fun vs => on (vs[0]?) fun v6 => tupP v5 fun vs => on (vs[1]?) fun v7 =>
    newP h (.cells ⟨[.int .i64 0]⟩ 104 (0, 0)) fun b1 h1 => aggP v6 fun ws => stN h1 (bk b1) ws 1 fun h2 => K [(2, v7), (1, .pointer (some (bk b1))), (7, v7), (6, v6), (3, v5), (5, v5), (4, v), (0, .pointer (some (bk b)))] h2
theorem Evl41 {v : Value} {h : H} {K : Fr → H → Prop} {X : Value → H → Prop} {b : Nat} (H0 : Bvl41 v h K b) :
    rpt Try.prog (firstOps (bodyOf Try.f58)).toList (fun _ => []) [] [1, 2, 3, 4, 5, 6, 7] [(4, v), (0, .pointer (some (bk b)))] h K X := cast_of (by kernel_rfl) H0
theorem Evl41r {v7 : Bool} {h : H} {Q : Ex → Fr → H → Prop} {b b1 : Nat} {v5 v6 v : Value}
    (H0 : ifP v7 (ldI h ((bk b1).add 0) .i64 fun x => stC h (bk b) (.int .i64 x) fun h' => Q .normal [(10, .int .i64 x), (9, .pointer (some ((bk b1).add 0))), (8, .bool v7), (2, .bool v7), (1, .pointer (some (bk b1))), (7, .bool v7), (6, v6), (3, v5), (5, v5), (4, v), (0, .pointer (some (bk b)))] h')
      (Q .normal [(8, .bool v7), (2, .bool v7), (1, .pointer (some (bk b1))), (7, .bool v7), (6, v6), (3, v5), (5, v5), (4, v), (0, .pointer (some (bk b)))] h)) :
    cpt Try.prog 11 ⟨fun i => match i with
      | 1 => ⟨[0], fun _ => []⟩
      | _ => ⟨[0, 1, 2], fun _ => []⟩, fun _ => [], fun _ => none⟩ (restOf (bodyOf Try.f58)) [(2, .bool v7), (1, .pointer (some (bk b1))), (7, .bool v7), (6, v6), (3, v5), (5, v5), (4, v), (0, .pointer (some (bk b)))] h Q := cast_of (by kernel_rfl) H0

/-- The closure, called while u is under way. -/
theorem f41_Dv {h0 h : H} {w0 w : World} {b : Nat} {x : Int} {u u' : FrameMode} {v : Value} (hB : Bl h b [.int .i64 x]) (hs : Sub h w)
    (hrec : ∀ (c₀ : Frame) (cs : List Frame), c₀.mode = u → recoverD (c₀ :: cs) = some (v, { c₀ with mode := u' } :: cs) ∨ (recoverD (c₀ :: cs) = none ∧ v = .nilIface ∧ u' = u))
    (y : Int) (hv : (v = gwV y) ∨ (v = .nilIface ∧ y = x)) :
    CallsD Try.prog 58 #[.pointer (some (bk b))] u w fun e q w' => e = .returned (.tuple ⟨[]⟩) ∧ q = u' ∧ ∃ h', Sub h' w' ∧ Stp h w h' w' ∧ Kp b h h' ∧ Bl h' b [.int .i64 y] := by
  refine callsD_of_wpS Try.func58 (c := bodyOf Try.f58) (by kernel_rfl) fun c₀ cs hu => ?_
  have hr := hrec c₀ cs hu
  obtain ⟨cs', hcs, hrec'⟩ : ∃ cs', cs' = { c₀ with mode := u' } :: cs ∧ (recoverD (c₀ :: cs) = some (v, cs') ∨ (recoverD (c₀ :: cs) = none ∧ v = .nilIface ∧ cs' = c₀ :: cs)) := by
    rcases hr with h | ⟨h1, h2, h3⟩
    · exact ⟨_, rfl, .inl h⟩
    · refine ⟨_, rfl, .inr ⟨h1, h2, ?_⟩⟩
      subst h3; subst hu; rfl
  rw [f41_seqv]
  refine wpS_seq ?_
  refine wpS_region_recover (o := opAt (firstOps (bodyOf Try.f58)) 0) (rest := [1, 2, 3, 4, 5, 6, 7]) (v := v) (cs' := cs') (by kernel_rfl) (by kernel_rfl) (by kernel_rfl) (by kernel_rfl) hrec' ?_
  let a1 : Act := Act.put { tmps := #[.pointer (some (bk b))] ++ Array.replicate (Try.f58.ntmps - (#[.pointer (some (bk b))] : Array Value).size) undef, defers := [] } (some 4) v
  have ea : Act.put { tmps := #[.pointer (some (bk b))] ++ Array.replicate (Try.f58.ntmps - (#[.pointer (some (bk b))] : Array Value).size) undef, defers := [] } (opAt (firstOps (bodyOf Try.f58)) 0).dst v = a1 := by kernel_rfl
  rw [ea]
  have ha4 : a1.tmps[4]? = some v := by kernel_rfl
  have ha0 : a1.tmps[0]? = some (.pointer (some (bk b))) := by kernel_rfl
  have rel : Rel 11 [] h w (List.range 11) a1 [(4, v), (0, .pointer (some (bk b)))] h a1 w := by
    refine ⟨fun t q hq => ?_, hs, Stp.refl h w, by kernel_rfl, by kernel_rfl, fun _ _ => rfl⟩
    simp only [Fr.get] at hq
    cases e4 : Nat.beq 4 t with
    | true =>
      have := Nat.eq_of_beq_eq_true e4
      subst this
      rw [e4, cond_true] at hq
      rw [ha4]; exact hq
    | false =>
      rw [e4, cond_false] at hq
      cases e0 : Nat.beq 0 t with
      | true =>
        have := Nat.eq_of_beq_eq_true e0
        subst this
        rw [e0, cond_true] at hq
        rw [ha0]; exact hq
      | false => rw [e0, cond_false] at hq; cases hq
  obtain ⟨bl, z, hrpt, hz⟩ : ∃ (bl : Bool) (z : Int), (rpt Try.prog (firstOps (bodyOf Try.f58)).toList (fun _ => []) [] [1, 2, 3, 4, 5, 6, 7] [(4, v), (0, .pointer (some (bk b)))] h
      (fun f h2 => ∃ b1 v5 v6, Fr.le [(2, .bool bl), (1, .pointer (some (bk b1))), (7, .bool bl), (6, v6), (3, v5), (5, v5), (4, v), (0, .pointer (some (bk b)))] f ∧ Ext h h2 ∧ b1 ≠ b ∧ Bl h2 b1 [.int .i64 z]) (fun _ _ => False)) ∧
      ((bl = true ∧ z = y) ∨ (bl = false ∧ y = x)) := by
    have fresh : ∀ b1, h b1 = none → b1 ≠ b := by
      rintro b1 h1 rfl
      obtain ⟨e, h2⟩ := hB
      rw [h1] at h2; cases h2
    rcases hv with rfl | ⟨rfl, rfl⟩
    · refine ⟨true, y, Evl41 ⟨_, fun w _ => ta_givev y w, ?_⟩, .inl ⟨rfl, rfl⟩⟩
      refine new_bl_st rfl rfl (by simp [Value.oneCell']) ?_
      intro b1 g hb1 x1 B1_
      exact ⟨b1, _, _, Fr.le.refl _, x1, fresh _ hb1, B1_⟩
    · refine ⟨false, 0, Evl41 ⟨_, fun w _ => ta_nilv w, ?_⟩, .inr ⟨rfl, rfl⟩⟩
      refine new_bl_st rfl rfl (by simp [Value.oneCell']) ?_
      intro b1 g hb1 x1 B1_
      exact ⟨b1, _, _, Fr.le.refl _, x1, fresh _ hb1, B1_⟩
  have hasr : ∀ d, d < 11 → has d (List.range 11) = true := fun d hd => has_iff.2 (List.mem_range.2 hd)
  have hds : dstsOK 11 (firstOps (bodyOf Try.f58)).toList = true := by kernel_rfl
  refine list_sound (n := 11) (ds := []) (h0 := h) (w0 := w) (W := List.range 11) (a0 := a1) ?_ (fun o ho d hd => ⟨dstsOK_spec hds o ho d hd, hasr d (dstsOK_spec hds o ho d hd)⟩) (fun _ _ _ _ h _ => h.elim) ?_ _ _ _ _ _ _ hrpt rel
  · rintro f f' h _ hl ⟨b1, v5, v6, h1, h2, h3, h4⟩
    exact ⟨b1, v5, v6, h1.trans hl, h2, h3, h4⟩
  rintro f h2 a2 w2 ⟨b1, v5, v6, hle, x2, hne, Bz⟩ rel2
  show (restOf (bodyOf Try.f58)).wpS Try.prog _ a2 cs' w2
  refine wpS_of_wp ?_
  have rel2 := rel2.le hle
  have hB2 := hB.ext x2
  refine cpt_sound (n := 11) _ _ h2 _ (Evl41r (Q := fun e fr h3 => e = .normal ∧ Kp b h h3 ∧ Bl h3 b [.int .i64 y]) ?_) [] h w (List.range 11) a1 a2 w2 _ (fun t ht => hasr t ?_) rel2 ?_
  · refine ifP_of (fun hb => ?_) (fun hb => ?_)
    · rcases hz with ⟨_, rfl⟩ | ⟨h, _⟩
      · refine ⟨_, Bz.ld rfl, ?_⟩
        have := hB2.stC (i := 0) (x := .int .i64 z) (K := fun g => Ex.normal = Ex.normal ∧ Kp b h g ∧ Bl g b [.int .i64 z]) (by simp) fun g kp B => ⟨rfl, (x2.kp b).trans kp, B⟩
        rwa [add_zero'] at this
      · rw [h] at hb; cases hb
    · rcases hz with ⟨h, _⟩ | ⟨_, rfl⟩
      · rw [h] at hb; cases hb
      · exact ⟨rfl, x2.kp b, hB2⟩
  · have : ((writesOf (restOf (bodyOf Try.f58))).all fun t => Nat.blt t 11) = true := by kernel_rfl
    have := List.all_eq_true.1 this t ht
    simpa [Nat.blt_eq] using this
  · rintro e fr h3 a3 w3 ⟨rfl, kp, B3⟩ rel3
    refine ⟨rel3.defers, u', by rw [hcs], .tuple #[], results_none rfl _ _ _, rfl, rfl, h3, rel3.sub, rel3.same, kp, B3⟩

theorem f28_seqv : bodyOf Try.f34 = .seq (.region 0 (firstOps (bodyOf Try.f34)) false) (.seq (.region 1 (firstOps (restOf (bodyOf Try.f34))) false) (restOf (restOf (bodyOf Try.f34)))) := by kernel_rfl
def Avl28 : An := ⟨fun i => match i with
  | 2 => ⟨[0, 1], fun _ => []⟩
  | _ => ⟨[0], fun _ => []⟩, fun _ => [], fun _ => none⟩
theorem Evl28a {h : H} {Q : Ex → Fr → H → Prop} {fv : Value} (H0 : newP h (.cells ⟨[.int .i64 0]⟩ 28 (0, 0)) fun b g => Q .normal [(2, .pointer (some (bk b))), (0, fv)] g) :
    cpt Try.prog 6 Avl28 (.region 0 (firstOps (bodyOf Try.f34)) false) [(0, fv)] h Q := cast_of (by kernel_rfl) H0
theorem Evl28b {h : H} {Q : Ex → Fr → H → Prop} {fid : FuncId} {caps : List Value} {b : Nat} {v3 : Value}
    (H0 : T Try.prog fid caps h (onRet Try.prog 0 (fun v g => stC g (bk b) (.int .i64 0) fun g' => Q .ret [(5, v), (4, .func (.func fid) ⟨[]⟩ ⟨caps⟩), (3, v3), (2, .pointer (some (bk b))), (0, .func (.func fid) ⟨[]⟩ ⟨caps⟩)] g') (fun v g => Q (.panic v) [] g))) :
    cpt Try.prog 6 Avl28 (restOf (restOf (bodyOf Try.f34))) [(3, v3), (2, .pointer (some (bk b))), (0, .func (.func fid) ⟨[]⟩ ⟨caps⟩)] h Q := cast_of (by kernel_rfl) H0

theorem vlook_T {fid : FuncId} {caps : List Value} {h : H} {Q R : Res → H → Prop} (t : T Try.prog fid caps h Q)
    (k : ∀ r h1 h2, Q r h1 → Ext h1 h2 → (r = .ret (.tuple ⟨[]⟩) ∧ R (.ret (.int .i64 0)) h2) ∨ ∃ c, r = .pan (gwV c) ∧ R (.ret (.int .i64 c)) h2) :
    T Try.prog F.vouch_look [.func (.func fid) ⟨[]⟩ ⟨caps⟩] h R := by
  refine ⟨⟨Try.f34, Try.func34, by kernel_rfl, by kernel_rfl⟩, fun w hw => ?_⟩
  refine calls_of_wp_defers Try.func34 (c := bodyOf Try.f34) (by kernel_rfl) ?_
  rw [f28_seqv]
  have hasr : ∀ d, d < 6 → has d (List.range 6) = true := fun d hd => has_iff.2 (List.mem_range.2 hd)
  obtain ⟨a0, ha0⟩ : ∃ a0 : Act, a0 = { tmps := #[Value.func (.func fid) ⟨[]⟩ ⟨caps⟩] ++ Array.replicate (Try.f34.ntmps - (#[Value.func (.func fid) ⟨[]⟩ ⟨caps⟩] : Array Value).size) undef, defers := [] } := ⟨_, rfl⟩
  have hat : a0.tmps[0]? = some (.func (.func fid) ⟨[]⟩ ⟨caps⟩) := by rw [ha0]; kernel_rfl
  have hsz : a0.tmps.size = 6 := by rw [ha0]; kernel_rfl
  have hdf : a0.defers = [] := by rw [ha0]
  have goalA : (Code.seq (.region 0 (firstOps (bodyOf Try.f34)) false) (.seq (.region 1 (firstOps (restOf (bodyOf Try.f34))) false) (restOf (restOf (bodyOf Try.f34))))).wp Try.prog
      (bodyPostD Try.prog Try.f34 fun e w' => ∃ h', Sub h' w' ∧ Stp h w h' w' ∧ match e with
        | .returned v => R (.ret v) h'
        | .panicked [⟨v, false, false⟩] => R (.pan v) h'
        | _ => False) a0 w := by
    refine wp_seq ?_
    refine cpt_sound (n := 6) _ [(0, .func (.func fid) ⟨[]⟩ ⟨caps⟩)] h _ (Evl28a (Q := fun e fr g => e = .normal ∧ ∃ b, h b = none ∧ g = hput h b (.cells ⟨[.int .i64 0]⟩ 28 (0, 0)) ∧ fr = [(2, .pointer (some (bk b))), (0, .func (.func fid) ⟨[]⟩ ⟨caps⟩)]) fun b hb => ⟨rfl, b, hb, rfl, rfl⟩) [] h w (List.range 6) a0 a0 w _ (fun t ht => hasr t ?_) ?_ ?_
    · have : ((writesOf (.region 0 (firstOps (bodyOf Try.f34)) false)).all fun t => Nat.blt t 6) = true := by kernel_rfl
      have := List.all_eq_true.1 this t ht
      simpa [Nat.blt_eq] using this
    · refine ⟨fun t q hq => ?_, hw, Stp.refl h w, hsz, hdf, fun _ _ => rfl⟩
      simp only [Fr.get] at hq
      cases e0 : Nat.beq 0 t with
      | true =>
        have := Nat.eq_of_beq_eq_true e0
        subst this
        rw [e0, cond_true] at hq
        rw [hat]; exact hq
      | false => rw [e0, cond_false] at hq; cases hq
    rintro e fr g a1 w1 ⟨rfl, b, hb, rfl, rfl⟩ rel1
    refine wp_seq (wp_region ?_)
    have hr : List.range (firstOps (restOf (bodyOf Try.f34))).size = [0, 1] := by kernel_rfl
    rw [hr]
    have h2 : a1.tmps[2]? = some (.pointer (some (bk b))) := rel1.fr 2 _ rfl
    refine wp_first (o := opAt (firstOps (restOf (bodyOf Try.f34))) 0) (by kernel_rfl) (by kernel_rfl) ?_
    have ho : opt Try.prog (opAt (firstOps (restOf (bodyOf Try.f34))) 0) [(2, .pointer (some (bk b))), (0, .func (.func fid) ⟨[]⟩ ⟨caps⟩)] (hput h b (.cells ⟨[.int .i64 0]⟩ 28 (0, 0)))
        (fun v g => v = .func (.func 58) #[] #[.pointer (some (bk b))] ∧ g = hput h b (.cells ⟨[.int .i64 0]⟩ 28 (0, 0))) (fun _ _ => False) :=
      cast_of (A := opt Try.prog (opAt (firstOps (restOf (bodyOf Try.f34))) 0) [(2, .pointer (some (bk b))), (0, .func (.func fid) ⟨[]⟩ ⟨caps⟩)] (hput h b (.cells ⟨[.int .i64 0]⟩ 28 (0, 0)))
        (fun v g => v = .func (.func 58) #[] #[.pointer (some (bk b))] ∧ g = hput h b (.cells ⟨[.int .i64 0]⟩ 28 (0, 0))) (fun _ _ => False))
        (B := (Value.func (.func 58) ⟨[]⟩ ⟨[.pointer (some (bk b))]⟩ = .func (.func 58) #[] #[.pointer (some (bk b))] ∧ hput h b (.cells ⟨[.int .i64 0]⟩ 28 (0, 0)) = hput h b (.cells ⟨[.int .i64 0]⟩ 28 (0, 0)))) (by kernel_rfl) ⟨rfl, rfl⟩
    refine opt_sound ho rel1.fr rel1.sub ?_ (fun _ _ _ h => h.elim)
    rintro v3 g w2 ⟨rfl, rfl⟩ hs2 hst2
    generalize ha2 : a1.put (opAt (firstOps (restOf (bodyOf Try.f34))) 0).dst (.func (.func 58) #[] #[.pointer (some (bk b))]) = a2
    have hd3 : (opAt (firstOps (restOf (bodyOf Try.f34))) 0).dst = some 3 := by kernel_rfl
    have fr2 : FrOK [(3, .func (.func 58) #[] #[.pointer (some (bk b))]), (2, .pointer (some (bk b))), (0, .func (.func fid) ⟨[]⟩ ⟨caps⟩)] a2 := by
      rw [← ha2, hd3]
      exact rel1.fr.put (d := some 3) (fun t ht => by cases ht; rw [rel1.size]; omega) _
    have sz2 : a2.tmps.size = 6 := by rw [← ha2, size_put, rel1.size]
    have df2 : a2.defers = [] := by rw [← ha2, defers_put, rel1.defers]
    refine wp_first (o := opAt (firstOps (restOf (bodyOf Try.f34))) 1) (by kernel_rfl) (by kernel_rfl) ?_
    have h3 : a2.eval (.tmp 3) = .func (.func 58) #[] #[.pointer (some (bk b))] := by
      have := fr2 3 _ rfl
      simp [Act.eval, this]
    have hrun : (execOp a2.eval (opAt (firstOps (restOf (bodyOf Try.f34))) 1)).run Try.prog w2 = .ok (.defer { target := .fn (.func 58) #[.pointer (some (bk b))], args := #[] }) w2 := by
      have hop : (opAt (firstOps (restOf (bodyOf Try.f34))) 1).op = .defer { callee := .value (.tmp 3), args := #[], argTypes := #[] } := by kernel_rfl
      simp [execOp, hop, resolve, Deferred.ofValue, h3]
    unfold Oper.wp
    rw [hrun, Oper.upon_defer]
    have hd1 : (opAt (firstOps (restOf (bodyOf Try.f34))) 1).dst = none := by kernel_rfl
    rw [hd1]
    generalize ha3 : (Act.put { a2 with defers := { target := .fn (.func 58) #[.pointer (some (bk b))], args := #[] } :: a2.defers } none undef) = a3
    have tm3 : a3.tmps = a2.tmps := by rw [← ha3]; rfl
    have df3 : a3.defers = [{ target := .fn (.func 58) #[.pointer (some (bk b))], args := #[] }] := by rw [← ha3, defers_put, df2]
    have fr3 : FrOK [(3, .func (.func 58) #[] #[.pointer (some (bk b))]), (2, .pointer (some (bk b))), (0, .func (.func fid) ⟨[]⟩ ⟨caps⟩)] a3 := fun t v hv => by rw [tm3]; exact fr2 t v hv
    show (restOf (restOf (bodyOf Try.f34))).wp Try.prog _ a3 w2
    -- the call, and what is stored behind it
    let Q2 : Ex → Fr → H → Prop := fun e fr g => ∃ r h1, Q r h1 ∧ h1 b = none ∧ Ext h1 g ∧ Bl g b [.int .i64 0] ∧ ((e = .ret ∧ r = .ret (.tuple ⟨[]⟩)) ∨ ∃ c, e = .panic (gwV c) ∧ r = .pan (gwV c))
    have tyU : ∀ (v : Value) (K : Value → Prop), tyV Try.prog 0 v K = (v = .tuple ⟨[]⟩ ∧ K (.tuple ⟨[]⟩)) := fun v K => by kernel_rfl
    have hE : cpt Try.prog 6 Avl28 (restOf (restOf (bodyOf Try.f34))) [(3, .func (.func 58) #[] #[.pointer (some (bk b))]), (2, .pointer (some (bk b))), (0, .func (.func fid) ⟨[]⟩ ⟨caps⟩)] (hput h b (.cells ⟨[.int .i64 0]⟩ 28 (0, 0))) Q2 := by
      refine Evl28b ((t.frame hb (.cells ⟨[.int .i64 0]⟩ 28 (0, 0))).mono ?_)
      rintro r _ ⟨h1, h1b, rfl, hq⟩
      have x1 : Ext h1 (hput h1 b (.cells ⟨[.int .i64 0]⟩ 28 (0, 0))) := Ext.put h1b _
      have B1_ : Bl (hput h1 b (.cells ⟨[.int .i64 0]⟩ 28 (0, 0))) b [.int .i64 0] := ⟨28, by simp [hput]⟩
      rcases k r h1 h1 hq (Ext.refl _) with ⟨rfl, _⟩ | ⟨c, rfl, _⟩
      · unfold onRet
        dsimp only
        rw [tyU]
        refine ⟨rfl, ?_⟩
        have := B1_.stC (i := 0) (x := .int .i64 0) (K := fun g' => Q2 .ret [(5, .tuple ⟨[]⟩), (4, .func (.func fid) ⟨[]⟩ ⟨caps⟩), (3, .func (.func 58) #[] #[.pointer (some (bk b))]), (2, .pointer (some (bk b))), (0, .func (.func fid) ⟨[]⟩ ⟨caps⟩)] g') (by simp)
          fun g kp B => ⟨_, h1, hq, h1b, x1.of_kp kp h1b, B, .inl ⟨rfl, rfl⟩⟩
        rwa [add_zero'] at this
      · exact ⟨_, h1, hq, h1b, x1, B1_, .inr ⟨c, rfl, rfl⟩⟩
    refine cpt_sound (n := 6) _ _ _ _ hE [{ target := .fn (.func 58) #[.pointer (some (bk b))], args := #[] }] h w (writesOf (restOf (restOf (bodyOf Try.f34)))) a3 a3 w2 _ (fun t ht => has_iff.2 ht)
      ⟨fr3, hs2, rel1.same.trans hst2, by rw [tm3]; exact sz2, df3, fun _ _ => rfl⟩ ?_
    rintro e fr g' a4 w4 ⟨r, h1, hq, h1b, x1, B4, hcase⟩ rel4
    have h4 : a4.tmps[2]? = some (.pointer (some (bk b))) := by
      rw [rel4.keep 2 (by kernel_rfl)]
      exact fr3 2 _ rfl
    -- the end, behind the closure
    have fin : ∀ (h5 : H) (w5 : World) (y : Int), Sub h5 w5 → Stp g' w4 h5 w5 → Kp b g' h5 → Bl h5 b [.int .i64 y] → (∀ h2, Ext h1 h2 → R (.ret (.int .i64 y)) h2) →
        Leaves Try.prog Try.f34 a4.tmps (fun e w' => ∃ h', Sub h' w' ∧ Stp h w h' w' ∧ match e with
          | .returned v => R (.ret v) h'
          | .panicked [⟨v, false, false⟩] => R (.pan v) h'
          | _ => False) [] .returning w5 := by
      intro h5 w5 y s5 st5 k5 B5 hR
      have hres : resP Try.prog [(2, .pointer (some (bk b)))] h5 Try.f34.results.toList (fun v => v = .int .i64 y) :=
        cast_of (A := resP Try.prog [(2, .pointer (some (bk b)))] h5 Try.f34.results.toList (fun v => v = .int .i64 y)) (B := ldI h5 (bk b) .i64 fun x => Value.int .i64 x = .int .i64 y) (by kernel_rfl)
          ⟨y, by have := B5.ld (i := 0) rfl; rwa [add_zero'] at this, rfl⟩
      obtain ⟨v, rfl, hr⟩ := resP_run (fn := Try.f34) (a := a4) (fun t v hv => by
        simp only [Fr.get] at hv
        cases e0 : Nat.beq 2 t with
        | true =>
          have := Nat.eq_of_beq_eq_true e0
          subst this
          rw [e0, cond_true] at hv
          rw [h4]; exact hv
        | false => rw [e0, cond_false] at hv; cases hv) hres
      exact ⟨_, hr w5 s5, h5, s5, rel4.same.trans st5, hR h5 (x1.of_kp k5 h1b)⟩
    rcases hcase with ⟨rfl, rfl⟩ | ⟨c, rfl, rfl⟩
    · show Leaves _ _ _ _ a4.defers .returning w4
      rw [rel4.defers]
      refine leaves_cons (f := 58) (args := #[.pointer (some (bk b))]) (by simp) (by kernel_rfl) ?_
      refine (f41_Dv (h0 := h) (w0 := w) (u := .returning) (u' := .returning) (v := .nilIface) B4 rel4.sub (fun c₀ cs hu => .inr ⟨by simp [recoverD, hu], rfl, rfl⟩) 0 (.inr ⟨rfl, rfl⟩)).mono ?_
      rintro e q w5 ⟨rfl, rfl, h5, s5, st5, k5, B5⟩
      refine fin h5 w5 0 s5 st5 k5 B5 fun h2 x2 => ?_
      rcases k _ h1 h2 hq x2 with ⟨_, hR⟩ | ⟨c, hc, _⟩
      · exact hR
      · cases hc
    · show Leaves _ _ _ _ a4.defers (.panicking [⟨gwV c, false, false⟩]) w4
      rw [rel4.defers]
      refine leaves_cons (f := 58) (args := #[.pointer (some (bk b))]) (by simp) (by kernel_rfl) ?_
      refine (f41_Dv (h0 := h) (w0 := w) (u := .panicking [⟨gwV c, false, false⟩]) (u' := .panicking [⟨gwV c, true, false⟩]) (v := gwV c) B4 rel4.sub (fun c₀ cs hu => .inl (by simp [recoverD, hu])) c (.inl rfl)).mono ?_
      rintro e q w5 ⟨rfl, rfl, h5, s5, st5, k5, B5⟩
      have hset : settle (.panicking [⟨gwV c, true, false⟩]) = .returning := by simp [settle]
      show Leaves _ _ _ _ [] (settle (.panicking [⟨gwV c, true, false⟩])) w5
      rw [hset]
      refine fin h5 w5 c s5 st5 k5 B5 fun h2 x2 => ?_
      rcases k _ h1 h2 hq x2 with ⟨hc, _⟩ | ⟨c', hc, hR⟩
      · cases hc
      · cases hc; exact hR
  rw [ha0] at goalA
  exact goalA

end Go.Proofs.Ytdblngaacnpgmaa

namespace Go.Proofs.Ytdblngaacnpgmaa
open Go
set_option linter.unusedVariables false
set_option linter.unusedSimpArgs false
set_option maxHeartbeats 1000000

theorem Bl.l0 {h : H} {b : Nat} {v : Value} {vs : List Value} (B : Bl h b (v :: vs)) : hcell h (bk b) = some v := by
  have := B.ld (i := 0) rfl
  rwa [add_zero'] at this
theorem cellsV_slc {v : Value} (h : ∃ a l c, v = .slice a l c) : cellsV v = [v] := by
  obtain ⟨_, _, _, rfl⟩ := h; rfl
theorem stC0v {h : H} {b : Nat} {x : Value} {K : H → Prop} (H0 : stC h ((bk b).add 0) x K) : stC h (bk b) x K := by rwa [add_zero'] at H0
theorem atS_mono {es : Nat → Ed} {f : Nat → Int} {v : Int} : ∀ {k i : Nat}, i ≤ k → atS es f i v ≤ atS es f k v
  | 0, i, h => by have : i = 0 := by omega
                  subst this; exact Int.le_refl _
  | k + 1, i, h => by
    by_cases e : i = k + 1
    · subst e; exact Int.le_refl _
    · have := atS_mono (es := es) (f := f) (v := v) (k := k) (i := i) (by omega)
      show _ ≤ atS es f k v + ((if (es (f k).toNat).f = v then 1 else 0) + (if (es (f k).toNat).t = v then 1 else 0))
      split <;> split <;> omega
section
variable {h h' : H} {w : List Value} {n m k : Nat} {es : Nat → Ed} {f pt : Nat → Int} {v vo vp : Value}
theorem vneed_ok {ok : Bool} {c : Int} (e : ok = true) : T Try.prog F.vouch_need [.bool ok, .int .i64 c] h fun r h' => r = .ret (.tuple ⟨[]⟩) ∧ h = h' := by
  refine E_vouch_need ?_
  unfold B_vouch_need
  subst e
  exact ⟨rfl, rfl⟩
theorem vright_T (G : GrA h w n m es) (gd : Gd n m es) : T Try.prog F.vouch_right [.agg ⟨w⟩] h fun r h' => r = .ret (.tuple ⟨[]⟩) ∧ Ext h h' := by
  refine E_vouch_right ?_
  unfold B_vouch_right
  refine new_bl ?_
  intro b1 q hb1 x B
  refine B.ldN G.one.1 ((Check_T (G.ext x)).mono ?_)
  rintro _ q5 ⟨rfl, x5⟩
  rw [gd.no]
  refine rt_ret ⟨_, rfl, rfl, new_bl_st rfl rfl (by simp [Value.oneCell']) ?_⟩
  intro b7 q9 hb7 x7 B7
  refine ⟨_, B7.ld rfl, _, B7.ld rfl, (vneed_ok (by simp)).mono ?_⟩
  rintro _ _ ⟨rfl, rfl⟩
  exact rt_ret ⟨rfl, rfl, (x.trans' x5).trans' x7⟩
theorem vrising_T (S : RS h v (ints k f)) (ri : RisP n f k) (hn : n ≤ 1000000) : T Try.prog F.vouch_rising [v, .int .i64 n] h fun r h' => r = .ret (.tuple ⟨[]⟩) ∧ h = h' := by
  have kl := ri.le
  refine E_vouch_rising ?_
  unfold B_vouch_rising
  refine S.len (ints_length _ _) fun _ _ => ?_
  let I : (Int × Int × Unit) → H → Nat → Prop := fun s g z => ∃ i : Nat, s.2.1 = i ∧ i ≤ k ∧ z = k - i ∧ g = h ∧ s.1 = if i = 0 then -1 else f (i - 1)
  refine ⟨fun p q => ∃ k, I p q k, rk I, rk_wf I, ⟨_, 0, rfl, by omega, rfl, rfl, rfl⟩, ?_⟩
  intro l s g hI
  obtain ⟨i, e1, hi, hz, e2, e3⟩ := mu_spec hI
  generalize hkk : mu I ((l, s, ()), g) = km at *
  change s = (i : Int) at e1
  change l = _ at e3
  subst e1 e2
  refine ifP_of (fun h1 => ?_) (fun h1 => ⟨rfl, rfl⟩)
  have hik : i < k := by have := of_decide_eq_true h1; omega
  have r := ri i hik
  refine S.rdI hik (ifP_of (fun _ => ?_) (fun h2 => ?_))
  · refine (vneed_ok (by simp; omega)).mono ?_
    rintro _ _ ⟨rfl, rfl⟩
    rw [i64_inc (by omega)]
    exact rt_ret ⟨rfl, mu_next (I := I) (k := k - (i + 1)) ⟨i + 1, rfl, hik, rfl, rfl, by rw [if_neg (by omega), Nat.add_sub_cancel]⟩ (by rw [hkk, hz]; exact sub_dec hik)⟩
  · have h2 := of_decide_eq_false h2
    exfalso
    rw [e3] at h2
    by_cases e : i = 0
    · rw [if_pos e] at h2; omega
    · rw [if_neg e] at h2; have := r.2.2 (by omega); omega
theorem vloop_T (e : Ed) : T Try.prog F.vouch_loop [.agg ⟨e.vs⟩] h fun r h' => r = .ret (.bool (decide (e.f = e.t))) ∧ Ext h h' := by
  refine E_vouch_loop ?_
  unfold B_vouch_loop
  refine new_bl ?_
  intro b1 g hb x B
  exact ⟨_, B.ed.1, _, B.ed.2.1, rfl, x⟩
theorem vmatched_T (G : GrA h w n m es) (gd : Gd n m es) (S : RS h v (ints k f)) (Mt : MtP n m k es f) : T Try.prog F.vouch_matched [.agg ⟨w⟩, v, .func (.func 38) ⟨[]⟩ ⟨[]⟩] h fun r h' => r = .ret (.tuple ⟨[]⟩) ∧ Ext h h' := by
  have n1 := gd.n1
  have m1 := gd.m1
  have kl := Mt.ri.le
  refine E_vouch_matched ?_
  unfold B_vouch_matched
  obtain ⟨gv, rfl, Gv⟩ := G.gs
  refine new_bl ?_
  intro b1 q1 hb1 x1 B
  have S := S.ext x1
  have Gv := Gv.ext x1
  refine ⟨_, B.ld rfl, Gv.len fun _ _ => (vrising_T S Mt.ri (by omega)).mono ?_⟩
  rintro _ _ ⟨rfl, rfl⟩
  refine rt_ret ⟨rfl, _, B.ld rfl, mk_ints 1 (by omega) (by omega) ?_⟩
  intro b10 q11 hb10 x10 k1
  have bs : Bs q1 (own1 (fun _ => 0) b10 1) q11 := Bs.start.new x10 hb10
  have k1 := k1 fun _ => 0
  generalize own1 (fun _ => 0) b10 1 = ow at *
  simp only [Int.toNat_natCast]
  refine (S.ext bs.ext).len (ints_length _ _) fun _ _ => ?_
  let I : (Int × Unit) → H → Nat → Prop := fun s g z => ∃ (i : Nat) (ow : Own), s.1 = i ∧ i ≤ k ∧ z = k - i ∧ Bs q1 ow g ∧ S1 ow g 1 (.slice (some (bk b10)) n n) (ints n fun v => atS es f i (v : Nat))
  refine ⟨fun p q => ∃ k, I p q k, rk I, rk_wf I, ⟨_, 0, ow, rfl, by omega, rfl, bs, k1⟩, ?_⟩
  clear bs k1
  intro s g hI
  obtain ⟨i, ow, e1, hi, hz, bs, k1⟩ := mu_spec hI
  generalize hkk : mu I ((s, ()), g) = km at *
  change s = (i : Int) at e1
  subst e1
  refine ifP_of (fun h1 => ?_) (fun _ => ⟨by first | rfl | trivial, x1.trans' bs.ext⟩)
  have hik : i < k := by have := of_decide_eq_true h1; omega
  have ra := Mt.ri i hik
  obtain ⟨q, hq⟩ : ∃ q : Nat, f i = q := ⟨(f i).toNat, by omega⟩
  have hqm : q < m := by omega
  have lo := Mt.lo i hik
  rw [hq, Int.toNat_natCast] at lo
  obtain ⟨f1, f2⟩ := gd.fr hqm
  obtain ⟨t1, t2⟩ := gd.to hqm
  have neq : frE es q ≠ toE es q := fun e => lo (by rw [f1, t1, e])
  have ea : ∀ v : Nat, atS es f (i + 1) (v : Nat) = atS es f i (v : Nat) + ((if frE es q = v then 1 else 0) + (if toE es q = v then 1 else 0)) := fun v => by
    show atS es f i (v : Nat) + ((if (es (f i).toNat).f = (v : Nat) then 1 else 0) + (if (es (f i).toNat).t = (v : Nat) then 1 else 0)) = _
    rw [hq, Int.toNat_natCast, f1, t1]
    simp only [Int.natCast_inj]
  have le1 : ∀ v, v < n → 0 ≤ atS es f i (v : Nat) ∧ atS es f (i + 1) (v : Nat) ≤ 1 := fun v hv => ⟨atS_bd.1, Int.le_trans (atS_mono (by omega)) (Mt.at_ v hv)⟩
  refine (S.ext bs.ext).at (ints_get hik) fun a19 e19 => ⟨_, e19, _, (B.ext bs.ext).ld rfl, ?_⟩
  rw [hq]
  refine (Gv.ext bs.ext).at hqm fun a22 e22 => ⟨(es q).vs, rfl, e22, new_bl_st rfl rfl (ed_one _) ?_⟩
  intro b24 g26 hb24 x24 B24
  have bs := bs.nw (j := 2) x24 hb24
  have k1 := k1.nw (j := 2) x24 hb24
  generalize own1 ow b24 2 = ow at *
  refine B24.ldN rfl ((vloop_T (es q)).mono ?_)
  rintro _ g29 ⟨rfl, x29⟩
  have B24 := B24.ext x29
  have bs := bs.ext_ x29
  have k1 := k1.ext x29
  refine rt_ret ⟨_, rfl, (vneed_ok (by simp [lo])).mono ?_⟩
  rintro _ _ ⟨rfl, rfl⟩
  refine rt_ret ⟨rfl, _, B24.ed.1, _, B24.ed.2.1, ?_⟩
  rw [f1, t1]
  let I2 : (Int × Unit) → H → Nat → Prop := fun s g z => ∃ t : Nat, s.1 = t ∧ t ≤ 2 ∧ z = 2 - t ∧ Bs q1 ow g ∧ S1 ow g 1 (.slice (some (bk b10)) n n) (ints n fun v => atS es f i (v : Nat) + ((if 0 < t ∧ frE es q = v then 1 else 0) + (if 1 < t ∧ toE es q = v then 1 else 0)))
  refine ⟨fun p q => ∃ k, I2 p q k, rk I2, rk_wf I2, ⟨_, 0, rfl, by omega, rfl, bs, k1.cg fun v _ => ?_⟩, ?_⟩
  · rw [if_neg (by omega), if_neg (by omega)]; omega
  clear bs k1 B24
  intro s g2 hI
  obtain ⟨t, e1, ht, hz2, bs, k1⟩ := mu_spec hI
  generalize hkk2 : mu I2 ((s, ()), g2) = km2 at *
  change s = (t : Int) at e1
  subst e1
  refine ifP_of (fun h2 => ?_) (fun h2 => ?_)
  · have ht2 : t < 2 := by have := of_decide_eq_true h2; omega
    refine ⟨by omega, by omega, ?_⟩
    rw [Int.toNat_natCast, Nat.mul_one]
    obtain ⟨u, hu, hun, hx, hv⟩ : ∃ u : Nat, ([.int .i64 ((frE es q : Nat) : Int), .int .i64 ((toE es q : Nat) : Int)] : List Value)[t]? = some (.int .i64 (u : Int)) ∧ u < n ∧
        (∀ v : Nat, v < n → upd (fun v => atS es f i (v : Nat) + ((if 0 < t ∧ frE es q = v then 1 else 0) + (if 1 < t ∧ toE es q = v then 1 else 0))) u (atS es f i (u : Nat) + ((if 0 < t ∧ frE es q = u then 1 else 0) + (if 1 < t ∧ toE es q = u then 1 else 0)) + 1) v =
          atS es f i (v : Nat) + ((if 0 < t + 1 ∧ frE es q = v then 1 else 0) + (if 1 < t + 1 ∧ toE es q = v then 1 else 0))) ∧
        atS es f i (u : Nat) + ((if 0 < t ∧ frE es q = u then 1 else 0) + (if 1 < t ∧ toE es q = u then 1 else 0)) = 0 := by
      rcases (show t = 0 ∨ t = 1 by omega) with rfl | rfl
      · refine ⟨frE es q, rfl, f2, fun v hv => ?_, ?_⟩
        · by_cases e : v = frE es q
          · subst e
            rw [upd_at]; simp
          · rw [upd_ne e]; simp [Ne.symm e]
        · have a := le1 _ f2
          rw [ea, if_pos rfl, if_neg (fun h => neq h.symm)] at a
          rw [if_neg (by omega), if_neg (by omega)]; omega
      · refine ⟨toE es q, rfl, t2, fun v hv => ?_, ?_⟩
        · by_cases e : v = toE es q
          · subst e
            rw [upd_at]; simp [neq]
          · rw [upd_ne e]; simp [Ne.symm e]
        · have a := le1 _ t2
          rw [ea, if_neg neq, if_pos rfl] at a
          rw [if_neg (fun h => neq h.2), if_neg (by omega)]; omega
    refine ⟨_, hu, k1.rdI hun (k1.setI hun fun g43 F1 k1 => ?_)⟩
    have bs := bs.fm F1 (by simp <;> omega)
    have ew : IntKind.i64.wrap (atS es f i (u : Nat) + ((if 0 < t ∧ frE es q = u then 1 else 0) + (if 1 < t ∧ toE es q = u then 1 else 0)) + 1) = atS es f i (u : Nat) + ((if 0 < t ∧ frE es q = u then 1 else 0) + (if 1 < t ∧ toE es q = u then 1 else 0)) + 1 := w64_in (by omega) (by omega)
    rw [ew] at k1
    have k1 := k1.cg hx
    refine k1.at (ints_get hun) fun a44 e44 => ⟨_, e44, ?_⟩
    have e5 := hx u hun
    rw [upd_at, hv] at e5
    refine (E_vouch_one (R := fun r h' => r = .ret (.int .i64 1) ∧ g43 = h') ⟨rfl, rfl⟩).mono ?_
    rintro _ _ ⟨rfl, rfl⟩
    refine rt_ret ⟨_, rfl, fun _ _ => rfl, (vneed_ok (by rw [← e5]; rfl)).mono ?_⟩
    rintro _ _ ⟨rfl, rfl⟩
    rw [i64_inc (by omega)]
    exact rt_ret ⟨rfl, mu_next (I := I2) (k := 2 - (t + 1)) ⟨t + 1, rfl, ht2, rfl, bs, k1⟩ (by rw [hkk2, hz2]; exact sub_dec ht2)⟩
  · have ht2 : t = 2 := by have := of_decide_eq_false h2; omega
    subst ht2
    rw [i64_inc (by omega)]
    refine mu_next (I := I) (k := k - (i + 1)) ⟨i + 1, ow, rfl, hik, rfl, bs, k1.cg fun v _ => ?_⟩ (by rw [hkk, hz]; exact sub_dec hik)
    rw [ea]
    simp
theorem vcost_T (G : GrA h w n m es) (gd : ∀ i, i < m → -1048576 ≤ (es i).k ∧ (es i).k ≤ 1048576) (S : RS h v (ints k f)) (hk : k ≤ 4096) (hf : ∀ i, i < k → 0 ≤ f i ∧ f i < m) :
    T Try.prog F.vouch_cost [.agg ⟨w⟩, v] h fun r h' => r = .ret (.int .i64 (coS es f k)) ∧ Ext h h' := by
  refine E_vouch_cost ?_
  unfold B_vouch_cost
  obtain ⟨gv, rfl, Gv⟩ := G.gs
  refine new_bl ?_
  intro b1 g1 hb1 x1 B
  have S := S.ext x1
  have Gv := Gv.ext x1
  refine S.len (ints_length _ _) fun _ _ => ?_
  let I : (Int × Int × Unit) → H → Nat → Prop := fun s g z => ∃ i : Nat, s.2.1 = i ∧ i ≤ k ∧ z = k - i ∧ g = g1 ∧ s.1 = coS es f i
  refine ⟨fun p q => ∃ k, I p q k, rk I, rk_wf I, ⟨_, 0, rfl, by omega, rfl, rfl, rfl⟩, ?_⟩
  intro c s g hI
  obtain ⟨i, e1, hi, hz, e2, e3⟩ := mu_spec hI
  generalize hkk : mu I ((c, s, ()), g) = km at *
  change s = (i : Int) at e1
  change c = _ at e3
  subst e1 e2 e3
  have bd := coS_bd gd hf hi
  refine ifP_of (fun h1 => ?_) (fun h1 => ?_)
  · have hik : i < k := by have := of_decide_eq_true h1; omega
    obtain ⟨q, hq⟩ : ∃ q : Nat, f i = q := ⟨(f i).toNat, by have := hf i hik; omega⟩
    have hqm : q < m := by have := hf i hik; omega
    have kb := gd q hqm
    refine S.at (ints_get hik) fun a e => ⟨_, e, _, B.ld rfl, ?_⟩
    rw [hq]
    refine Gv.at hqm fun a17 e17 => ⟨_, e17 3 _ rfl, ?_⟩
    rw [i64_inc (by omega)]
    refine mu_next (I := I) (k := k - (i + 1)) ⟨i + 1, rfl, hik, rfl, rfl, ?_⟩ (by rw [hkk, hz]; exact sub_dec hik)
    show IntKind.i64.wrap (coS es f i + (es q).k) = coS es f i + (es (f i).toNat).k
    rw [hq, Int.toNat_natCast]
    exact w64_in (by omega) (by omega)
  · have hik : i = k := by have := of_decide_eq_false h1; omega
    subst hik
    exact ⟨rfl, x1⟩
theorem Heaviest_c1_T {b1 b3 b5 b7 : Nat} (A1 : Bl h b1 w) (A3 : Bl h b3 [v]) (A5 : Bl h b5 [vp]) (A7 : Bl h b7 [.int .i64 0]) (G : GrA h w n m es) (gd : Gd n m es) (S : RS h v (ints k f)) (M : MtP n m k es f) (P : RS h vp (ints n pt))
    (po : ∀ v, v < n → 0 ≤ pt v ∧ pt v ≤ 2147483648) (co : ∀ i, i < m → (es i).k ≤ pt (frE es i) + pt (toE es i)) (su : sumN n pt = coS es f k) :
    T Try.prog F.vouch_Heaviest_c1 [.pointer (some (bk b1)), .pointer (some (bk b3)), .pointer (some (bk b5)), .pointer (some (bk b7))] h
      fun r h' => r = .ret (.tuple ⟨[]⟩) ∧ Bl h' b7 [.int .i64 (sumN n pt)] ∧ ∃ q, Ext h q ∧ Kp b7 q h' := by
  have n1 := gd.n1
  have m1 := gd.m1
  have kl := M.ri.le
  refine E_vouch_Heaviest_c1 ?_
  unfold B_vouch_Heaviest_c1
  refine ptrP_mk (A1.ldN G.one.1 ((vright_T G gd).mono ?_))
  rintro _ q4 ⟨rfl, x4⟩
  refine rt_ret ⟨rfl, ptrP_mk ((A1.ext x4).ldN G.one.1 (ptrP_mk ⟨_, (A3.ext x4).l0, (vmatched_T (G.ext x4) gd (S.ext x4) M).mono ?_⟩))⟩
  rintro _ q10 ⟨rfl, x10⟩
  have x := x4.trans' x10
  clear x4 x10
  obtain ⟨gv, rfl, Gv⟩ := G.gs
  have P1 := P.ext x
  refine rt_ret ⟨rfl, ptrP_mk ⟨_, (A5.ext x).l0, P1.len (ints_length _ _) fun _ _ => ptrP_mk ⟨_, (A1.ext x).ld rfl, (vneed_ok (by simp)).mono ?_⟩⟩⟩
  rintro _ _ ⟨rfl, rfl⟩
  refine rt_ret ⟨rfl, ptrP_mk ⟨_, (A5.ext x).l0, P1.len (ints_length _ _) fun _ _ => ?_⟩⟩
  let I : (Int × Int × Unit) → H → Nat → Prop := fun s g z => ∃ j : Nat, s.2.1 = j ∧ j ≤ n ∧ z = n - j ∧ g = q10 ∧ s.1 = sumN j pt
  refine ⟨fun p q => ∃ k, I p q k, rk I, rk_wf I, ⟨_, 0, rfl, by omega, rfl, rfl, rfl⟩, ?_⟩
  intro c s g hI
  obtain ⟨j, e1, hj, hz, e2, e3⟩ := mu_spec hI
  generalize hkk : mu I ((c, s, ()), g) = km at *
  change s = (j : Int) at e1
  change c = _ at e3
  subst e1 e2 e3
  have sb : 0 ≤ sumN j pt ∧ sumN j pt ≤ j * 2147483648 := ⟨sumN_nonneg fun i hi => (po i (by omega)).1, sumN_bd fun i hi => (po i (by omega)).2⟩
  refine ifP_of (fun h1 => ?_) (fun h1 => ?_)
  · have hjn : j < n := by have := of_decide_eq_true h1; omega
    have pj := po j hjn
    refine P1.rdI hjn (ifP_of (fun _ => ?_) (fun h2 => by have := of_decide_eq_false h2; omega))
    refine (vneed_ok (by simp; omega)).mono ?_
    rintro _ _ ⟨rfl, rfl⟩
    rw [i64_inc (by omega)]
    refine rt_ret ⟨rfl, mu_next (I := I) (k := n - (j + 1)) ⟨j + 1, rfl, hjn, rfl, rfl, ?_⟩ (by rw [hkk, hz]; exact sub_dec hjn)⟩
    show IntKind.i64.wrap (sumN j pt + pt j) = sumN j pt + pt j
    exact w64_in (by omega) (by omega)
  have hjn : j = n := by have := of_decide_eq_false h1; omega
  subst hjn
  clear hkk hz hj h1
  refine ptrP_mk ⟨_, (A1.ext x).ld rfl, (Gv.ext x).len fun _ _ => ?_⟩
  let I2 : (Int × Unit) → H → Nat → Prop := fun s g2 z => ∃ i : Nat, s.1 = i ∧ i ≤ m ∧ z = m - i ∧ Ext g g2
  refine ⟨fun p q => ∃ k, I2 p q k, rk I2, rk_wf I2, ⟨_, 0, rfl, by omega, rfl, Ext.refl _⟩, ?_⟩
  intro s g2 hI
  obtain ⟨i, e1, hi, hz, xq⟩ := mu_spec hI
  generalize hkk : mu I2 ((s, ()), g2) = km at *
  change s = (i : Int) at e1
  subst e1
  have xx := x.trans' xq
  refine ifP_of (fun h1 => ?_) (fun h1 => ?_)
  · have him : i < m := by have := of_decide_eq_true h1; omega
    obtain ⟨f1, f2⟩ := gd.fr him
    obtain ⟨t1, t2⟩ := gd.to him
    refine (Gv.ext xx).at him fun a49 e49 => ⟨(es i).vs, rfl, e49, new_bl_st rfl rfl (ed_one _) ?_⟩
    intro b51 g53 hb51 x51 B51
    refine B51.ldN rfl ((vloop_T (es i)).mono ?_)
    rintro _ g56 ⟨rfl, x56⟩
    have xy := xx.trans' (x51.trans' x56)
    have B51 := B51.ext x56
    rw [i64_inc (by omega)]
    have next : ∀ R : Value → H → Prop, (rt (fun v3 h4 => v3 = .tuple ⟨[]⟩ ∧ (∃ k, I2 (((i + 1 : Nat) : Int), ()) h4 k) ∧ rk I2 ((((i + 1 : Nat) : Int), ()), h4) (((i : Int), ()), g2)) R) (Res.ret (.tuple ⟨[]⟩)) g56 := fun R =>
      rt_ret ⟨rfl, mu_next (I := I2) (k := m - (i + 1)) ⟨i + 1, rfl, him, rfl, xq.trans' (x51.trans' x56)⟩ (by rw [hkk, hz]; exact sub_dec him)⟩
    refine rt_ret ⟨_, rfl, ifP_of (fun _ => ?_) (fun _ => ?_)⟩
    · refine (vneed_ok rfl).mono ?_
      rintro _ _ ⟨rfl, rfl⟩
      exact next _
    · refine ptrP_mk ⟨_, (A5.ext xy).l0, _, B51.ed.1, ?_⟩
      rw [f1]
      refine (P.ext xy).rdI f2 (ptrP_mk ⟨_, (A5.ext xy).l0, _, B51.ed.2.1, ?_⟩)
      rw [t1]
      refine (P.ext xy).rdI t2 ⟨_, B51.ed.2.2.2, ?_⟩
      have c1 := co i him
      have p1 := po _ f2
      have p2 := po _ t2
      have ew : IntKind.i64.wrap (pt (frE es i) + pt (toE es i)) = pt (frE es i) + pt (toE es i) := w64_in (by omega) (by omega)
      rw [ew]
      refine (vneed_ok (by simp; omega)).mono ?_
      rintro _ _ ⟨rfl, rfl⟩
      exact next _
  refine ptrP_mk ((A1.ext xx).ldN rfl (ptrP_mk ⟨_, (A3.ext xx).l0, (vcost_T ((Gv.ext xx).gr _) gd.k (S.ext xx) (by omega) (fun i hi => by have := M.ri i hi; omega)).mono ?_⟩))
  rintro _ q84 ⟨rfl, x84⟩
  refine rt_ret ⟨_, rfl, (vneed_ok (by rw [su]; simp)).mono ?_⟩
  rintro _ _ ⟨rfl, rfl⟩
  refine rt_ret ⟨rfl, ptrP_mk (stC0v (((A7.ext xx).ext x84).stC (by simp) fun g' kp B => ⟨rfl, B, _, xx.trans' x84, kp⟩))⟩
theorem vouchHeaviest_T (G : GrA h w n m es) (gd : Gd n m es) (S : RS h v (ints k f)) (M : MtP n m k es f) (P : RS h vp (ints n pt))
    (po : ∀ v, v < n → 0 ≤ pt v ∧ pt v ≤ 2147483648) (co : ∀ i, i < m → (es i).k ≤ pt (frE es i) + pt (toE es i)) (su : sumN n pt = coS es f k) :
    T Try.prog F.vouch_Heaviest [.agg ⟨w⟩, v, vp] h fun r h' => r = .ret (.tuple ⟨[.int .i64 (sumN n pt), .int .i64 0]⟩) ∧ Ext h h' := by
  refine E_vouch_Heaviest ?_
  unfold B_vouch_Heaviest
  rw [cellsV_slc S.isS, cellsV_slc P.isS]
  refine new_bl ?_
  intro b1 q2 hb1 x1 A1
  refine new_bl ?_
  intro b3 q4 hb3 x3 A3
  refine new_bl ?_
  intro b5 q6 hb5 x5 A5
  refine new_bl ?_
  intro b7 q8 hb7 x7 A7
  have x16 := (x1.trans' x3).trans' x5
  have hb7h := x16.new hb7
  refine stC0v (A7.stC (by simp) fun q9 kp A7 => ?_)
  have x69 := x7.of_kp kp hb7
  have xh := x16.trans' x69
  refine vlook_T (Heaviest_c1_T (((A1.ext x3).ext x5).ext x69) ((A3.ext x5).ext x69) (A5.ext x69) A7 (G.ext xh) gd (S.ext xh) M (P.ext xh) po co su) ?_
  rintro r h1 h2 ⟨rfl, B7, q, x, kp2⟩ x2
  exact .inl ⟨rfl, rt_ret ⟨_, rfl, _, (B7.ext x2).l0, rfl, ((xh.trans' x).of_kp kp2 hb7h).trans' x2⟩⟩
end

end Go.Proofs.Ytdblngaacnpgmaa

namespace Go.Proofs.Ytdblngaacnpgmaa
open Go
set_option linter.unusedVariables false
set_option linter.unusedSimpArgs false
set_option maxHeartbeats 2000000

theorem S1.sh {own : Own} {h : H} {i : Nat} {v : Value} {vs : List Value} (n : Nat) (s : S1 own h i v vs) (hi : i ≠ 0) : S1 (shO n own) h (i + n) v vs := by
  rcases s with s | ⟨b, hb, s⟩
  · exact .inl s
  · exact .inr ⟨b, by unfold shO; rw [hb, if_neg hi], s⟩
section
variable {h : H} {w : List Value} {n : Int} {m : Nat} {es : Nat → Ed}
/-- The proof takes what Solve answers. -/
theorem vouchSol_T {l wd : Nat} {mv pv : Value} {L : List Nat} {pt : Nat → Int} (G : GrA h w ((l + wd : Nat) : Int) m es) (sd : Sd l wd m es) (M : MaR (l + wd) m l es L pt) (S : RS h mv (natV (sortL L))) (P : RS h pv (ints (l + wd) pt)) :
    T Try.prog F.vouch_Heaviest [.agg ⟨w⟩, mv, pv] h fun r h' => r = .ret (.tuple ⟨[.int .i64 (lkE es L), .int .i64 0]⟩) ∧ Ext h h' := by
  obtain ⟨Mt, co⟩ := M.mt sd
  rw [natV_fn] at S
  have t := vouchHeaviest_T G sd.gd S Mt P M.po M.co (M.su.trans co.symm)
  rwa [M.su] at t
/-- The second answer. -/
def CkA (n : Int) (m : Nat) (es : Nat → Ed) (left kind : Int) (own : Own) (q : H) (mv pv : Value) (c : Int) : Prop :=
  (codeA n m es left kind ≠ 0 ∧ mv = .slice none 0 0 ∧ pv = .slice none 0 0) ∨ (codeA n m es left kind = 0 ∧ ∃ (l wd : Nat) (L : List Nat) (pt : Nat → Int), left = l ∧ n = ((l + wd : Nat) : Int) ∧ Sd l wd m es ∧ MaR (l + wd) m l es L pt ∧ c = lkE es L ∧
    S1 own q 112 mv (natV (sortL L)) ∧ S1 own q 105 pv (ints (l + wd) pt))
theorem CkA.fm {left kind c : Int} {mv pv : Value} {own own' : Own} {q q' : H} {M : List Nat} (B : CkA n m es left kind own q mv pv c) (Fr : Fm M own q own' q') (h8 : 112 ∉ M ∧ 105 ∉ M) : CkA n m es left kind own' q' mv pv c := by
  rcases B with B | ⟨a0, l, wd, L, pt, a1, a2, a3, a4, a5, k1, k2⟩
  · exact .inl B
  · exact .inr ⟨a0, l, wd, L, pt, a1, a2, a3, a4, a5, k1.fm Fr h8.1, k2.fm Fr h8.2⟩
theorem AssignKeeps_T (G : GrA h w n m es) (hm : m ≤ 4398046511104) (left kind : Int) : T Try.prog F.compasslaw16_AssignKeeps [.agg ⟨w⟩, .int .i64 left, .int .i64 kind] h fun r h' => r = .ret (.bool true) ∧ Ext h h' := by
  refine E_compasslaw16_AssignKeeps ?_
  unfold B_compasslaw16_AssignKeeps
  obtain ⟨gv, rfl, Gv⟩ := G.gs
  refine new_bl ?_
  intro b1 q1 hb1 x1 B1_
  refine awake16_R.mono ?_
  rintro _ q4 ⟨rfl, x4⟩
  refine rt_ret ⟨_, rfl, ifP_of (fun h => by cases h) (fun _ => ?_)⟩
  have xh := x1.trans' x4
  have B1_ := B1_.ext x4
  have G := G.ext xh
  have Gv := Gv.ext xh
  clear x1 x4 hb1
  refine B1_.ldN G.one.1 ((Copy_R G hm).mono ?_)
  rintro _ q8 ⟨ev, own, rfl, bs, k1⟩
  refine rt_ret ⟨_, rfl, rfl, new_bl_st rfl rfl (by intro v hv; simp only [List.mem_cons, List.mem_nil_iff, or_false] at hv; rcases hv with rfl | rfl; rfl; exact slc_one k1.isS) ?_⟩
  intro b10 q12 hb10 x10 B10
  have bs := bs.nw (j := 2) x10 hb10
  have k1 := k1.nw (j := 2) x10 hb10
  have k2 : B1 (own1 own b10 2) q12 2 b10 _ := B1.new B10
  generalize own1 own b10 2 = own at *
  refine ⟨_, k2.ld rfl, _, (B1_.ext bs.ext).ld rfl, (Gv.ext bs.ext).len fun _ _ => ⟨rfl, ?_⟩⟩
  refine k1.push (ed := ⟨0, 0, -7, 0⟩) hm ?_
  intro b18 q19 p' own' q21 hb18 x18 F1 k1
  have bs0 := bs.ext
  have bs := bs.fm F1 (by simp <;> omega)
  have k2 := k2.fm F1 (by simp <;> omega)
  refine ⟨sameAt_bl (B1_.ext (bs0.trans' x18)) (B1_.ext bs.ext), ?_⟩
  clear bs0 x18 hb18 F1 B10 x10 hb10
  obtain ⟨bp, c, rfl, hc⟩ := k1.cut
  refine slcP_mk ⟨by omega, by omega, by omega, by omega, ?_⟩
  rw [sliceV_0 (by omega)]
  refine oneP_mk (k2.st (j := 1) (by simp) ?_)
  intro q25 F1 k2
  have bs := bs.fm F1 (by simp <;> omega)
  have k1 := k1.fm F1 (by simp <;> omega)
  have tk : ∀ {own : Own} {q : H}, S4 own q 1 (.slice (some (bk bp)) (m + 1) c) (m + 1) (fun j => if j = m then ⟨0, 0, -7, 0⟩ else es j) → Gs q (.slice (some (bk bp)) m c) m es :=
    fun k1 => k1.gs.take fun j hj => if_neg (by omega)
  refine k2.ldN rfl ((ASolve_T ((tk k1).gr n) left kind).mono ?_)
  intro r q28 hS
  obtain ⟨own, c1, lo, lp, mv, pv, fo, fp, rfl, bs, k1, k2, k12, k5, hlo, hlp⟩ : ∃ (own : Own) (c1 : Int) (lo lp : Nat) (mv pv : Value) (fo fp : Nat → Int),
      r = .ret (.tuple ⟨[mv, pv, .int .i64 c1, .int .i64 (codeA n m es left kind)]⟩) ∧ Bs q4 own q28 ∧ S4 own q28 1 (.slice (some (bk bp)) (m + 1) c) (m + 1) (fun j => if j = m then ⟨0, 0, -7, 0⟩ else es j) ∧
      B1 own q28 2 b10 [.int .i64 n, .slice (some (bk bp)) m c] ∧ S1 own q28 12 mv (ints lo fo) ∧ S1 own q28 5 pv (ints lp fp) ∧ lo ≤ 1000000 ∧ lp ≤ 1000000 := by
    rcases hS with ⟨hc, rfl, x⟩ | ⟨hc, l, wd, ow, mv, pv, L, pt, rfl, rfl, sd, hk, bo, k12, k5, M, rfl⟩
    · have FX : Fm [] own' q25 own' q28 := Fm.of_ext x
      exact ⟨own', 0, 0, 0, _, _, fun _ => 0, fun _ => 0, rfl, bs.fm FX (by simp <;> omega), k1.fm FX (by simp <;> omega), k2.fm FX (by simp <;> omega), S1.nil, S1.nil, by omega, by omega⟩
    · have FX : Fm [] own' q25 (mgO q25 own' ow) q28 := bo.mg
      have n1 := sd.gd.n1
      have ln := M.ln
      have k12 : S1 (mgO q25 own' ow) q28 12 mv _ := k12.mg bo (by omega)
      rw [natV_fn] at k12
      refine ⟨_, _, _, _, mv, pv, _, _, by rw [hc], bs.fm FX (by simp <;> omega), k1.fm FX (by simp <;> omega), k2.fm FX (by simp <;> omega), k12, k5.mg bo (by omega), by rw [sortL_len]; omega, by omega⟩
  clear hS
  refine rt_ret ⟨_, _, _, _, rfl, k2.ldN rfl ((ASolve_T ((tk k1).gr n) left kind).mono ?_)⟩
  intro r q35 hS
  obtain ⟨own2, mv2, pv2, c2, rfl, bs, k1, k2, k12, k5, kb⟩ : ∃ (own2 : Own) (mv2 pv2 : Value) (c2 : Int), r = .ret (.tuple ⟨[mv2, pv2, .int .i64 c2, .int .i64 (codeA n m es left kind)]⟩) ∧
      Bs q4 own2 q35 ∧ S4 own2 q35 1 (.slice (some (bk bp)) (m + 1) c) (m + 1) (fun j => if j = m then ⟨0, 0, -7, 0⟩ else es j) ∧
      B1 own2 q35 2 b10 [.int .i64 n, .slice (some (bk bp)) m c] ∧ S1 own2 q35 12 mv (ints lo fo) ∧ S1 own2 q35 5 pv (ints lp fp) ∧ CkA n m es left kind own2 q35 mv2 pv2 c2 := by
    rcases hS with ⟨hc, rfl, x⟩ | ⟨hc, l, wd, ow, mv2, pv2, L, pt, e1, e2, sd, hk, bo, k12', k5', M, rfl⟩
    · have FX : Fm [] own q28 own q35 := Fm.of_ext x
      exact ⟨own, _, _, _, rfl, bs.fm FX (by simp <;> omega), k1.fm FX (by simp <;> omega), k2.fm FX (by simp <;> omega), k12.fm FX (by simp <;> omega), k5.fm FX (by simp <;> omega), .inl ⟨hc, rfl, rfl⟩⟩
    · have bo := bo.sh 100
      have FX : Fm [] own q28 (mgO q28 own (shO 100 ow)) q35 := bo.mg
      exact ⟨_, mv2, pv2, _, by rw [hc], bs.fm FX (by simp <;> omega), k1.fm FX (by simp <;> omega), k2.fm FX (by simp <;> omega), k12.fm FX (by simp <;> omega), k5.fm FX (by simp <;> omega),
        .inr ⟨hc, l, wd, L, pt, e1, e2, sd, M, rfl, (k12'.sh 100 (by omega)).mg bo (by omega), (k5'.sh 100 (by omega)).mg bo (by omega)⟩⟩
  clear hS
  refine rt_ret ⟨_, _, _, _, rfl, k2.ldN rfl ((B1_.ext bs.ext).ldN rfl ((Same_R ((tk k1).gr n) (G.ext bs.ext) hm).mono ?_))⟩
  rintro _ q43 ⟨rfl, x43⟩
  have FX : Fm [] own2 q35 own2 q43 := Fm.of_ext x43
  have bs := bs.fm FX (by simp <;> omega)
  have k1 := k1.fm FX (by simp <;> omega)
  have k2 := k2.fm FX (by simp <;> omega)
  have k12 := k12.fm FX (by simp <;> omega)
  have k5 := k5.fm FX (by simp <;> omega)
  have kb := kb.fm FX (by simp)
  have C1 := B1_.ext bs.ext
  have Gq := Gv.ext bs.ext
  refine rt_ret ⟨_, rfl, ifP_of (fun h => by cases h) (fun _ => ?_)⟩
  refine ⟨_, k2.ld rfl, _, C1.ld rfl, Gq.len fun _ _ => slcP_mk ?_⟩
  rw [i64_inc (by omega)]
  refine ⟨by omega, by omega, by omega, by omega, _, C1.ld rfl, Gq.len fun _ _ => ?_⟩
  rw [sliceV_0 (by omega)]
  refine k1.gs.c (i := m) (by omega) ?_
  rw [if_pos rfl]
  refine ifP_of (fun h => by simp at h) (fun _ => ?_)
  clear FX x43 k1 k2 C1 Gq
  -- the first answer is spoilt
  refine k12.len (ints_length _ _) fun _ _ => ?_
  let I : (Int × Unit) → H → Nat → Prop := fun p q z => ∃ (j : Nat) (f' : Nat → Int), p.1 = j ∧ j ≤ lo ∧ z = lo - j ∧ Fm [12] own2 q43 own2 q ∧ S1 own2 q 12 mv (ints lo f')
  refine ⟨fun p q => ∃ k, I p q k, rk I, rk_wf I, ⟨_, 0, fo, rfl, by omega, rfl, Fm.refl, k12⟩, ?_⟩
  clear k12
  intro p q hI
  obtain ⟨j, f', e1_, hj, hk2, Fq, k12⟩ := mu_spec hI
  generalize hkk : mu I ((p, ()), q) = km at *
  change p = (j : Int) at e1_
  subst e1_
  have hlt : j < lo → lo - (j + 1) < mu I (((j : Int), ()), q) := fun h => by rw [hkk, hk2]; exact sub_dec h
  clear hI
  refine ifP_of (fun h1 => ?_) (fun h1 => ?_)
  · have hjl : j < lo := by have := of_decide_eq_true h1; omega
    refine k12.setI hjl ?_
    intro q83 F1 k12
    rw [i64_inc (by omega)]
    exact mu_next (I := I) (k := lo - (j + 1)) ⟨j + 1, _, rfl, hjl, rfl, Fq.trans F1, k12⟩ (hlt hjl)
  clear hlt hkk hk2 h1 hj k12
  have bs := bs.fm Fq (by simp <;> omega)
  have k5 := k5.fm Fq (by simp <;> omega)
  have kb := kb.fm Fq (by simp)
  clear Fq
  refine k5.len (ints_length _ _) fun _ _ => ?_
  let I2 : (Int × Unit) → H → Nat → Prop := fun p q2 z => ∃ (j : Nat) (f' : Nat → Int), p.1 = j ∧ j ≤ lp ∧ z = lp - j ∧ Fm [5] own2 q own2 q2 ∧ S1 own2 q2 5 pv (ints lp f')
  refine ⟨fun p q => ∃ k, I2 p q k, rk I2, rk_wf I2, ⟨_, 0, fp, rfl, by omega, rfl, Fm.refl, k5⟩, ?_⟩
  clear k5
  intro p q2 hI
  obtain ⟨j, f', e1_, hj, hk2, Fq, k5⟩ := mu_spec hI
  generalize hkk : mu I2 ((p, ()), q2) = km at *
  change p = (j : Int) at e1_
  subst e1_
  have hlt : j < lp → lp - (j + 1) < mu I2 (((j : Int), ()), q2) := fun h => by rw [hkk, hk2]; exact sub_dec h
  clear hI
  refine ifP_of (fun h1 => ?_) (fun h1 => ?_)
  · have hjl : j < lp := by have := of_decide_eq_true h1; omega
    refine k5.setI hjl ?_
    intro q83 F1 k5
    rw [i64_inc (by omega)]
    exact mu_next (I := I2) (k := lp - (j + 1)) ⟨j + 1, _, rfl, hjl, rfl, Fq.trans F1, k5⟩ (hlt hjl)
  clear hlt hkk hk2 h1 hj k5
  have bs := bs.fm Fq (by simp <;> omega)
  have kb := kb.fm Fq (by simp)
  clear Fq
  have x := xh.trans' bs.ext
  rcases kb with ⟨hc0, rfl, rfl⟩ | ⟨hc0, l, wd, L, pt, rfl, rfl, sd, M, rfl, k112, k105⟩
  · refine ifP_of (fun _ => slcP_mk (ifP_of (fun _ => slcP_mk ⟨rfl, x⟩) (fun h => by simp at h))) (fun h => ?_)
    simp at h; exact absurd h hc0
  · rw [hc0]
    refine ifP_of (fun h => by simp at h) (fun _ => (B1_.ext bs.ext).ldN rfl ((vouchSol_T (G.ext bs.ext) sd M (RS.of_S1 k112) (RS.of_S1 k105)).mono ?_))
    rintro _ q85 ⟨rfl, x85⟩
    exact rt_ret ⟨_, _, rfl, ifP_of (fun _ => ⟨by simp, x.trans' x85⟩) (fun h => by simp at h)⟩
end

end Go.Proofs.Ytdblngaacnpgmaa

namespace Go.Proofs.Ytdblngaacnpgmaa
open Go Go.ChangeShapes Go.WideShapes Go.Deep Go.RowKit
set_option linter.unusedVariables false

/-- What a world's heap holds, all of it. -/
def hOf (w : World) : H := fun b => w.heap[b]?
theorem hOf_sub (w : World) : Sub (hOf w) w := fun _ _ h => h
theorem hOf_cell {w : World} {a : Addr} {v : Value} (h : w.cell? a = some v) : hcell (hOf w) a = some v := by
  exact h

theorem T.row {P : Program} {f : FuncId} {args : List Value} {w : World} (t : T P f args (hOf w) fun r h' => r = .ret (.bool true) ∧ Ext (hOf w) h') :
    Calls P f args.toArray w fun e w' => e = .returned (.bool true) ∧ Below w.heap.size w w' := by
  refine (t.2 w (hOf_sub w)).mono ?_
  rintro e w' ⟨h', hs, st, hq⟩
  have hr : e = .returned (.bool true) ∧ Ext (hOf w) h' := by
    split at hq
    · obtain ⟨h1, h2⟩ := hq
      cases h1
      exact ⟨rfl, h2⟩
    · obtain ⟨h1, _⟩ := hq
      cases h1
    · exact hq.elim
  refine ⟨hr.1, ⟨st.same.1, st.same.2.1, st.same.2.2, st.size, fun k hk => ?_⟩⟩
  have e1 : w.heap[k]? = some (w.heap[k]'hk) := Array.getElem?_eq_getElem hk
  rw [e1]
  exact hs k _ (hr.2 k _ e1)

def intFields (P : Program) (fs : Array Field) : Bool := (List.range fs.size).all fun i => match fs[i]? with
  | some f => match P.underlying f.type with
    | some (.int .i64) => true
    | _ => false
  | none => false
theorem intFields_of {P : Program} {fs : Array Field} (h : intFields P fs = true) : ∀ (i : Nat) (f : Field), fs[i]? = some f → P.underlying f.type = some (.int .i64) := by
  intro i f hi
  have hlt : i < fs.size := (Array.getElem?_eq_some_iff.1 hi).1
  have := List.all_eq_true.1 h i (List.mem_range.2 hlt)
  simp only [hi] at this
  split at this
  · assumption
  · cases this

end Go.Proofs.Ytdblngaacnpgmaa

namespace Go.Proofs.Ytdblngaacnpgmaa
open Go Go.ChangeShapes Go.WideShapes Go.Deep Go.RowKit
set_option linter.unusedVariables false

section
variable {K : Type} {enc : TypeId × Value → K} {P : Program} {w : World} {base : Nat} {spare : Nat → Bool} {held : Bool}

/-- A slice of records of whole numbers, wherever it lies. -/
theorem open_recsN {t e : TypeId} {fs : Array Field} {B fuel : Nat} {cs : List Value} {x : DataW K × List MemPlace}
    (ht : P.underlying t = some (.slice e)) (he : P.underlying e = some (.struct fs)) (hone : oneCellFields P fs = true) (hint : intFields P fs = true) (hC : P.cellsOf e = fs.size) (hB : P.bytesOf e = B)
    (hsz : ∀ el sp, x.1 = .slice el sp → (el.length + sp.length) * B ≤ 140737488351232)
    (hf : DataW.trod enc P w base spare held fuel t cs = some x) :
    ∃ a len cap, cs = [.slice a len cap] ∧ len * B ≤ 140737488351232 ∧ ∀ i, i < len → ∃ ad, a = some ad ∧ ∀ j, j < fs.size → ∃ n : Int, w.cell? (ad.add (i * fs.size + j)) = some (.int .i64 n) := by
  rcases open_slice ht hf with ⟨hcs, _⟩ | ⟨x', l, c, m, n, D, Pl, hcs, _, hl, _, hm, hx, hi⟩
  · exact ⟨none, 0, 0, hcs, by simp, fun i hi => by omega⟩
  · have hlm : l ≤ m := by
      rw [hm]
      split
      · exact hl
      · exact Nat.le_refl _
    refine ⟨some x', l, c, hcs, ?_, fun i hil => ⟨x', rfl, fun j hj => ?_⟩⟩
    · have z := hsz _ _ (by rw [hx])
      simp only [List.length_map, List.length_range] at z
      calc l * B ≤ (l + (m - l)) * B := Nat.mul_le_mul_right _ (by omega)
        _ ≤ _ := z
    · obtain ⟨cs', hc, ht'⟩ := hi i (by omega)
      rw [hC] at hc
      obtain ⟨ys, n', _, _, hlen, hyl, hg⟩ := DataW.trod_struct he ht'
      obtain ⟨_, hcl, hat⟩ := World.cells?_some hc
      have hfj : fs[j]? = some (fs[j]'hj) := Array.getElem?_eq_getElem hj
      obtain ⟨ho, hk⟩ := hone_of hone j _ hfj
      have hw1 := hg j _ hfj
      rw [ho, hk] at hw1
      have one : (cs'.drop j).take 1 = [cs'[j]'(by omega)] := by
        rw [List.drop_eq_getElem_cons (by omega)]
        rfl
      rw [one, List.getElem?_eq_getElem (by omega)] at hw1
      obtain ⟨z, hz, _, _⟩ := DataW.trod_int (intFields_of hint j _ hfj) hw1
      refine ⟨z, ?_⟩
      rw [← Go.Deep.add_add, hat j hj, List.getElem?_eq_getElem (by omega)]
      simpa using hz

theorem open_struct2 {r : Reach} {b0 : Nat} {t : TypeId} {f0 f1 : Field} {v : Value} {d : DataW K} {p : List MemPlace} (hs : P.underlying t = some (.struct #[f0, f1])) (hone : oneCellFields P #[f0, f1] = true) (hC : P.cellsOf t = 2)
    (hv : Value.okWide P w r b0 t v) (h : DataW.Trod enc P w base spare held t v d p) :
    ∃ (v0 v1 : Value) (y0 y1 : DataW K × List MemPlace) (n : Nat), v = .agg ⟨[v0, v1]⟩ ∧ d = .agg [y0.1, y1.1] ∧
      DataW.trod enc P w base spare held n f0.type [v0] = some y0 ∧ DataW.trod enc P w base spare held n f1.type [v1] = some y1 := by
  obtain ⟨cs, rfl, hsz⟩ := okWide_struct hs hv
  obtain ⟨l⟩ := cs
  match l, hsz.trans hC with
  | [c0, c1], _ =>
    obtain ⟨fuel, hf⟩ := h
    obtain ⟨xs, n, _, hx, _, hlen, hg⟩ := DataW.trod_struct hs hf
    obtain ⟨o0, k0⟩ := hone_of hone 0 f0 rfl
    obtain ⟨o1, k1⟩ := hone_of hone 1 f1 rfl
    match xs, hlen with
    | [y0, y1], _ =>
      simp only [Prod.mk.injEq] at hx
      exact ⟨c0, c1, y0, y1, n, rfl, by simpa using hx.1, by simpa [Value.cells, o0, k0] using hg 0 f0 rfl, by simpa [Value.cells, o1, k1] using hg 1 f1 rfl⟩
end

/-- Edges read are edges. -/
theorem Gs.of_cells {W : World} {a : Option Addr} {len cap : Nat} (h : ∀ i, i < len → ∃ ad, a = some ad ∧ ∀ j, j < 4 → ∃ n : Int, W.cell? (ad.add (i * 4 + j)) = some (.int .i64 n)) :
    ∃ es, Gs (hOf W) (.slice a len cap) len es := by
  have h2 : ∀ i, ∃ o : Ed, i < len → ∃ ad, a = some ad ∧ hcells (hOf W) (ad.add (i * 4)) o.vs := by
    intro i
    by_cases hi : i < len
    · obtain ⟨ad, rfl, hc⟩ := h i hi
      obtain ⟨n0, h0⟩ := hc 0 (by decide)
      obtain ⟨n1, h1⟩ := hc 1 (by decide)
      obtain ⟨n2, h2⟩ := hc 2 (by decide)
      obtain ⟨n3, h3⟩ := hc 3 (by decide)
      refine ⟨⟨n0, n1, n2, n3⟩, fun _ => ⟨ad, rfl, fun j v hj => ?_⟩⟩
      rw [Go.Deep.add_add]
      match j, hj with
      | 0, hj => cases hj; exact hOf_cell h0
      | 1, hj => cases hj; exact hOf_cell h1
      | 2, hj => cases hj; exact hOf_cell h2
      | 3, hj => cases hj; exact hOf_cell h3
    · exact ⟨⟨0, 0, 0, 0⟩, fun h => absurd h hi⟩
  exact ⟨fun i => Classical.choose (h2 i), a, cap, rfl, fun i hi => Classical.choose_spec (h2 i) hi⟩

end Go.Proofs.Ytdblngaacnpgmaa

namespace Go.Proofs.Ytdblngaacnpgmaa
open Go Go.ChangeShapes Go.WideShapes Go.Deep Go.RowKit
set_option linter.unusedVariables false

/-- Numbers read are numbers. -/
theorem RS.of_cells {W : World} {a : Option Addr} {len cap : Nat} (h : ∀ i, i < len → ∃ ad, a = some ad ∧ ∃ n : Int, W.cell? (ad.add (i * 1)) = some (.int .i64 n) ∧ -9223372036854775808 ≤ n ∧ n ≤ 9223372036854775807) :
    ∃ bf : Nat → Int, RS (hOf W) (.slice a len cap) (ints len bf) ∧ ∀ i, i < len → -9223372036854775808 ≤ bf i ∧ bf i ≤ 9223372036854775807 := by
  have h2 : ∀ i, ∃ o : Int, i < len → ∃ ad, a = some ad ∧ hcell (hOf W) (ad.add (i * 1)) = some (.int .i64 o) ∧ -9223372036854775808 ≤ o ∧ o ≤ 9223372036854775807 := by
    intro i
    by_cases hi : i < len
    · obtain ⟨ad, rfl, n, hn, hr⟩ := h i hi
      exact ⟨n, fun _ => ⟨ad, rfl, hOf_cell hn, hr⟩⟩
    · exact ⟨0, fun h => absurd h hi⟩
  refine ⟨fun i => Classical.choose (h2 i), ⟨a, cap, by rw [ints_length], fun j x hj => ?_⟩, fun i hi => by obtain ⟨_, _, _, hr⟩ := Classical.choose_spec (h2 i) hi; exact hr⟩
  have hl := (List.getElem?_eq_some_iff.1 hj).1
  rw [ints_length] at hl
  rw [ints_get hl] at hj
  cases hj
  obtain ⟨ad, e, hc, _⟩ := Classical.choose_spec (h2 j) hl
  exact ⟨ad, e, hc⟩

end Go.Proofs.Ytdblngaacnpgmaa

namespace Go.Proofs.Ytdblngaacnpgmaa
open Go Go.ChangeShapes Go.WideShapes Go.ChangeAt Go.RowKit
set_option linter.unusedVariables false

theorem own : ownKnob Try.prog.godebug = none := by kernel_rfl
theorem laidOut : laidOutB Try.prog = true := by kernel_rfl

end Go.Proofs.Ytdblngaacnpgmaa

