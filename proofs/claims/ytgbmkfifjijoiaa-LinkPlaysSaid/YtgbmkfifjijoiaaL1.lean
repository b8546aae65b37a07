import Derived.Test.YtgbmkfifjijoiaaProg
import Derived.Test.YtgbmkfifjijoiaaV14
namespace Go.Proofs.Ytgbmkfifjijoiaa
open Go
set_option linter.unusedVariables false
set_option maxRecDepth 100000

abbrev F.compasslaw07_LinkWays : FuncId := 3
abbrev F.compasslaw07_LinkAdds : FuncId := 4
abbrev F.compasslaw07_LinkPlays : FuncId := 5
abbrev F.compasslaw07_LinkCuts : FuncId := 6
abbrev F.compasslaw07_grown : FuncId := 7
abbrev F.compasslaw07_awake : FuncId := 8
abbrev F.links_Forest_Root : FuncId := 9
abbrev F.links_Forest_Least : FuncId := 10
abbrev F.links_Forest_Value : FuncId := 11
abbrev F.links_Forest_Parent : FuncId := 12
abbrev F.links_Forest_Add : FuncId := 13
abbrev F.links_New : FuncId := 14
abbrev F.compassref07_New : FuncId := 15
abbrev F.compasslaw07_step : FuncId := 16
abbrev F.compasslaw07_tells : FuncId := 17
abbrev F.links_Forest_Cut : FuncId := 18
abbrev F.links_Forest_Link : FuncId := 19
abbrev F.links_Forest_node : FuncId := 20
abbrev F.links_Forest_root : FuncId := 21
abbrev F.links_Forest_child : FuncId := 22
abbrev F.links_Forest_push : FuncId := 23
abbrev F.links_Forest_splay : FuncId := 24
abbrev F.links_label : FuncId := 25
abbrev F.links_Forest_raise : FuncId := 26
abbrev F.links_Forest_pull : FuncId := 27
abbrev F.compassref07_Link : FuncId := 28
abbrev F.compassref07_Cut : FuncId := 29
abbrev F.compassref07_Root : FuncId := 30
abbrev F.compassref07_Least : FuncId := 31
abbrev F.compassref07_Add : FuncId := 32
abbrev F.compassref07_Child : FuncId := 33
abbrev F.links_Forest_access : FuncId := 34
abbrev F.links_Forest_top : FuncId := 35
abbrev F.links_Forest_rotate : FuncId := 36
abbrev F.compassref07_node : FuncId := 37
abbrev F.compassref07_Copy : FuncId := 38
abbrev F.compassref07_Way : FuncId := 39

/-! ### compass/compasslaw07.LinkWays -/
def A_compasslaw07_LinkWays : An := ⟨lkA [(0, rng 1), (1, rng 3), (2, rng 6), (3, rng 1), (4, rng 8), (5, rng 2), (6, rng 10), (7, rng 12), (8, rng 10), (9, rng 3), (10, rng 3), (11, rng 5), (12, rng 3), (13, rng 8), (14, rng 8), (15, rng 10), (16, rng 1), (17, rng 12), (18, rng 4), (19, rng 2), (20, rng 3), (21, rng 8), (22, rng 15)], lkL [(12, [(14, .int .i64), (15, .int .i64), (16, .bool), (17, .int .i64)])], lkC [(17, []), (18, [(16, .bool)])]⟩
def B_compasslaw07_LinkWays (p0_script : Value) (p1_v : Int) (R : Res → H → Prop) (h : H) : Prop :=
  T Try.prog F.compasslaw07_grown [.int .i64 12, p0_script] h (rt (fun v1 h2 =>
  ptrO v1 fun q3 =>
  ifP q3.isNone (R (.ret (.bool false)) h2) (T Try.prog F.compasslaw07_awake [] h2 (rt (fun v4 h5 =>
  ∃ r6, v4 = .bool r6 ∧
  ifP (!r6) (R (.ret (.bool false)) h5)
  (T Try.prog F.links_Forest_Root [v1, .int .i64 p1_v] h5 (rt (fun v7 h8 =>
  ∃ r9 : Int, ∃ r10 : Int, v7 = .tuple ⟨[.int .i64 r9, .int .i64 r10]⟩ ∧
  ifP (!decide (r10 = 0)) (T Try.prog F.links_Forest_Least [v1, .int .i64 p1_v] h8 (rt (fun v11 h12 =>
  ∃ r13 : Int, ∃ r14 : Int, ∃ r15 : Int, v11 = .tuple ⟨[.int .i64 r13, .int .i64 r14, .int .i64 r15]⟩ ∧
  ifP (decide (r10 = 30)) (ifP (decide (r15 = r10)) (R (.ret (.bool (decide (r9 = 0)))) h12) (R (.ret (.bool false)) h12)) (R (.ret (.bool false)) h12)) (fun v16 h17 => R (.pan v16) h17)))
  (T Try.prog F.links_Forest_Least [v1, .int .i64 p1_v] h8 (rt (fun v18 h19 =>
  ∃ r20 : Int, ∃ r21 : Int, ∃ r22 : Int, v18 = .tuple ⟨[.int .i64 r20, .int .i64 r21, .int .i64 r22]⟩ ∧
  ifP (decide (r9 = p1_v)) (R (.ret (.bool (decide (r22 = 70)))) h19)
  (∃ (I23 : (Int × Int × Bool × Int × Unit) → H → Prop) (r24 : (Int × Int × Bool × Int × Unit) × H → (Int × Int × Bool × Int × Unit) × H → Prop), WellFounded r24 ∧ I23 (p1_v, 0, false, 4611686018427387904, ()) h19 ∧
  ∀ (u_26 : Int) (steps_27 : Int) (found_28 : Bool) (low_29 : Int) (h25 : H), I23 (u_26, steps_27, found_28, low_29, ()) h25 →
  ifP (!decide (u_26 = r9)) (T Try.prog F.links_Forest_Value [v1, .int .i64 u_26] h25 (rt (fun v30 h31 =>
  ∃ r32 : Int, ∃ r33 : Int, v30 = .tuple ⟨[.int .i64 r32, .int .i64 r33]⟩ ∧
  T Try.prog F.links_Forest_Parent [v1, .int .i64 u_26] h31 (rt (fun v34 h35 =>
  ∃ r36 : Int, ∃ r37 : Int, v34 = .tuple ⟨[.int .i64 r36, .int .i64 r37]⟩ ∧
  ∃ J38 : (Unit) → H → Prop, (ifP (!decide (r33 = 0)) (R (.ret (.bool false)) h35) (ifP (!decide (r37 = 0)) (R (.ret (.bool false)) h35) (ifP (decide (12 ≤ steps_27)) (R (.ret (.bool false)) h35)
  (J38 (()) h35)))) ∧
  (∀  (h39 : H), J38 (()) h39 →
  ∃ J40 : (Bool × Unit) → H → Prop, (ifP found_28 (J40 (true, ()) h39) (ifP (decide (u_26 = r20)) (J40 ((decide (r32 = r21)), ()) h39) (J40 (false, ()) h39))) ∧
  (∀ (found_42 : Bool) (h41 : H), J40 (found_42, ()) h41 →
  I23 (r36, (IntKind.i64.wrap (steps_27 + 1)), found_42, (if r32 < low_29 then r32 else low_29), ()) h41 ∧ r24 ((r36, (IntKind.i64.wrap (steps_27 + 1)), found_42, (if r32 < low_29 then r32 else low_29), ()), h41) ((u_26, steps_27, found_28, low_29, ()), h25)))) (fun v43 h44 => R (.pan v43) h44))) (fun v45 h46 => R (.pan v45) h46)))
  (T Try.prog F.links_Forest_Parent [v1, .int .i64 r9] h25 (rt (fun v47 h48 =>
  ∃ r49 : Int, ∃ r50 : Int, v47 = .tuple ⟨[.int .i64 r49, .int .i64 r50]⟩ ∧
  ifP (decide (r22 = 0)) (ifP found_28 (ifP (decide (low_29 = r21)) (R (.ret (.bool (decide (r50 = 70)))) h48) (R (.ret (.bool false)) h48)) (R (.ret (.bool false)) h48)) (R (.ret (.bool false)) h48)) (fun v51 h52 => R (.pan v51) h52))))) (fun v53 h54 => R (.pan v53) h54)))) (fun v55 h56 => R (.pan v55) h56)))) (fun v57 h58 => R (.pan v57) h58)))) (fun v59 h60 => R (.pan v59) h60))
theorem E_compasslaw07_LinkWays {p0_script : Value} {p1_v : Int} {R : Res → H → Prop} {h : H} (H0 : B_compasslaw07_LinkWays p0_script p1_v R h) : T Try.prog F.compasslaw07_LinkWays [p0_script, .int .i64 p1_v] h R :=
  T_intro A_compasslaw07_LinkWays Try.func3 (c := bodyOf Try.f3) (by kernel_rfl) (by kernel_rfl) (by kernel_rfl) (cast_of (by kernel_rfl) H0)

/-! ### compass/compasslaw07.LinkAdds -/
def A_compasslaw07_LinkAdds : An := ⟨lkA [(0, rng 1), (1, rng 6), (2, rng 10), (3, rng 1), (4, rng 5), (5, rng 2), (6, rng 23), (7, rng 2), (8, rng 8), (9, rng 2), (10, rng 3), (11, rng 8), (12, rng 8), (13, rng 1), (14, rng 4), (15, rng 2), (16, rng 3), (17, rng 1), (18, rng 2), (19, rng 8), (20, rng 8), (21, rng 28), (22, rng 1), (23, rng 2), (24, rng 6), (25, rng 1), (26, rng 3), (27, rng 1), (28, rng 2), (29, rng 8), (30, rng 8), (31, rng 3), (32, rng 1), (33, rng 2), (34, rng 1)], lkL [(10, [(13, .int .i64)]), (17, [(99, .int .i64)]), (27, [(151, .int .i64)])], lkC [(4, [])]⟩
def B_compasslaw07_LinkAdds (p0_script : Value) (p1_v : Int) (p2_x : Int) (R : Res → H → Prop) (h : H) : Prop :=
  T Try.prog F.compasslaw07_grown [.int .i64 12, p0_script] h (rt (fun v1 h2 =>
  T Try.prog F.compasslaw07_grown [.int .i64 12, p0_script] h2 (rt (fun v3 h4 =>
  ∃ J5 : (Unit) → H → Prop, (ptrO v1 fun q7 =>
  ifP q7.isNone (R (.ret (.bool false)) h4) (ptrO v3 fun q8 =>
  ifP q8.isNone (R (.ret (.bool false)) h4) (T Try.prog F.compasslaw07_awake [] h4 (rt (fun v9 h10 =>
  ∃ r11, v9 = .bool r11 ∧
  ifP (!r11) (R (.ret (.bool false)) h10)
  (J5 (()) h10)) (fun v12 h13 => R (.pan v12) h13))))) ∧
  (∀  (h6 : H), J5 (()) h6 →
  T Try.prog F.links_Forest_Add [v1, .int .i64 p1_v, .int .i64 p2_x] h6 (rt (fun v14 h15 =>
  ∃ r16, v14 = .int .i64 r16 ∧
  ifP (!decide (r16 = 0)) (ifP (decide (r16 = 30)) (ifP (decide (p1_v < 0)) (R (.ret (.bool true)) h15) (ifP (decide (12 ≤ p1_v)) (R (.ret (.bool true)) h15) (ifP (decide (r16 = 31)) (ifP (decide (1048576 < p2_x)) (R (.ret (.bool true)) h15) (R (.ret (.bool (decide (p2_x < (-1048576))))) h15)) (R (.ret (.bool false)) h15)))) (ifP (decide (r16 = 31)) (ifP (decide (1048576 < p2_x)) (R (.ret (.bool true)) h15) (R (.ret (.bool (decide (p2_x < (-1048576))))) h15)) (R (.ret (.bool false)) h15)))
  (mkS 12 12 1 [.bool false] 4 h15 fun b17 h18 =>
  T Try.prog F.links_Forest_Root [v3, .int .i64 p1_v] h18 (rt (fun v19 h20 =>
  ∃ r21 : Int, ∃ r22 : Int, v19 = .tuple ⟨[.int .i64 r21, .int .i64 r22]⟩ ∧
  ∃ (I23 : (Int × Unit) → H → Prop) (r24 : (Int × Unit) × H → (Int × Unit) × H → Prop), WellFounded r24 ∧ I23 (p1_v, ()) h20 ∧
  ∀ (u_26 : Int) (h25 : H), I23 (u_26, ()) h25 →
  ifP (!decide (u_26 = r21)) (T Try.prog F.links_Forest_Parent [v3, .int .i64 u_26] h25 (rt (fun v27 h28 =>
  ∃ r29 : Int, ∃ r30 : Int, v27 = .tuple ⟨[.int .i64 r29, .int .i64 r30]⟩ ∧
  ifP (!decide (r30 = 0)) (R (.ret (.bool false)) h28) (ixS (.slice (some (bk b17)) ((12 : Int).toNat) ((12 : Int).toNat)) u_26 1 fun a31 =>
  ldB h28 a31 fun x32 =>
  ifP x32 (R (.ret (.bool false)) h28)
  (ixS (.slice (some (bk b17)) ((12 : Int).toNat) ((12 : Int).toNat)) u_26 1 fun a33 =>
  stC h28 a33 (.bool true) fun h34 =>
  I23 (r29, ()) h34 ∧ r24 ((r29, ()), h34) ((u_26, ()), h25)))) (fun v35 h36 => R (.pan v35) h36)))
  (∃ (I37 : (Int × Unit) → H → Prop) (r38 : (Int × Unit) × H → (Int × Unit) × H → Prop), WellFounded r38 ∧ I37 (0, ()) h25 ∧
  ∀ (s40 : Int) (h39 : H), I37 (s40, ()) h39 →
  ifP (decide (s40 < (((12 : Int).toNat : Nat) : Int))) (T Try.prog F.links_Forest_Value [v1, .int .i64 s40] h39 (rt (fun v41 h42 =>
  ∃ r43 : Int, ∃ r44 : Int, v41 = .tuple ⟨[.int .i64 r43, .int .i64 r44]⟩ ∧
  T Try.prog F.links_Forest_Value [v3, .int .i64 s40] h42 (rt (fun v45 h46 =>
  ∃ r47 : Int, ∃ r48 : Int, v45 = .tuple ⟨[.int .i64 r47, .int .i64 r48]⟩ ∧
  ifP (!decide (r44 = r48)) (R (.ret (.bool false)) h46) (ixS (.slice (some (bk b17)) ((12 : Int).toNat) ((12 : Int).toNat)) s40 1 fun a49 =>
  ldB h46 a49 fun x50 =>
  ifP x50 (ifP (!decide (r43 = (IntKind.i64.wrap (r47 + p2_x)))) (R (.ret (.bool false)) h46) (ixS (.slice (some (bk b17)) ((12 : Int).toNat) ((12 : Int).toNat)) s40 1 fun a51 =>
  ldB h46 a51 fun x52 =>
  ifP (!x52) (ifP (!decide (r43 = r47)) (R (.ret (.bool false)) h46)
  (I37 ((IntKind.i64.wrap (s40 + 1)), ()) h46 ∧ r38 (((IntKind.i64.wrap (s40 + 1)), ()), h46) ((s40, ()), h39))) (I37 ((IntKind.i64.wrap (s40 + 1)), ()) h46 ∧ r38 (((IntKind.i64.wrap (s40 + 1)), ()), h46) ((s40, ()), h39)))) (ixS (.slice (some (bk b17)) ((12 : Int).toNat) ((12 : Int).toNat)) s40 1 fun a53 =>
  ldB h46 a53 fun x54 =>
  ifP (!x54) (ifP (!decide (r43 = r47)) (R (.ret (.bool false)) h46)
  (I37 ((IntKind.i64.wrap (s40 + 1)), ()) h46 ∧ r38 (((IntKind.i64.wrap (s40 + 1)), ()), h46) ((s40, ()), h39))) (I37 ((IntKind.i64.wrap (s40 + 1)), ()) h46 ∧ r38 (((IntKind.i64.wrap (s40 + 1)), ()), h46) ((s40, ()), h39))))) (fun v55 h56 => R (.pan v55) h56))) (fun v57 h58 => R (.pan v57) h58)))
  (T Try.prog F.links_Forest_Add [v1, .int .i64 p1_v, .int .i64 (IntKind.i64.wrap (0 - p2_x))] h39 (rt (fun v59 h60 =>
  ∃ r61, v59 = .int .i64 r61 ∧
  ifP (!decide (r61 = 0)) (R (.ret (.bool false)) h60)
  (∃ (I62 : (Int × Unit) → H → Prop) (r63 : (Int × Unit) × H → (Int × Unit) × H → Prop), WellFounded r63 ∧ I62 (0, ()) h60 ∧
  ∀ (s65 : Int) (h64 : H), I62 (s65, ()) h64 →
  ifP (decide (s65 < (((12 : Int).toNat : Nat) : Int))) (T Try.prog F.links_Forest_Value [v1, .int .i64 s65] h64 (rt (fun v66 h67 =>
  ∃ r68 : Int, ∃ r69 : Int, v66 = .tuple ⟨[.int .i64 r68, .int .i64 r69]⟩ ∧
  T Try.prog F.links_Forest_Value [v3, .int .i64 s65] h67 (rt (fun v70 h71 =>
  ∃ r72 : Int, ∃ r73 : Int, v70 = .tuple ⟨[.int .i64 r72, .int .i64 r73]⟩ ∧
  ifP (!decide (r68 = r72)) (R (.ret (.bool false)) h71)
  (I62 ((IntKind.i64.wrap (s65 + 1)), ()) h71 ∧ r63 (((IntKind.i64.wrap (s65 + 1)), ()), h71) ((s65, ()), h64))) (fun v74 h75 => R (.pan v74) h75))) (fun v76 h77 => R (.pan v76) h77)))
  (R (.ret (.bool true)) h64))) (fun v78 h79 => R (.pan v78) h79))))) (fun v80 h81 => R (.pan v80) h81)))) (fun v82 h83 => R (.pan v82) h83)))) (fun v84 h85 => R (.pan v84) h85))) (fun v86 h87 => R (.pan v86) h87))
theorem E_compasslaw07_LinkAdds {p0_script : Value} {p1_v : Int} {p2_x : Int} {R : Res → H → Prop} {h : H} (H0 : B_compasslaw07_LinkAdds p0_script p1_v p2_x R h) : T Try.prog F.compasslaw07_LinkAdds [p0_script, .int .i64 p1_v, .int .i64 p2_x] h R :=
  T_intro A_compasslaw07_LinkAdds Try.func4 (c := bodyOf Try.f4) (by kernel_rfl) (by kernel_rfl) (by kernel_rfl) (cast_of (by kernel_rfl) H0)

/-! ### compass/compasslaw07.LinkPlays -/
def A_compasslaw07_LinkPlays : An := ⟨lkA [(0, rng 1), (1, rng 2), (2, rng 1), (3, rng 7), (4, rng 8), (5, rng 10), (6, rng 1), (7, rng 2), (8, rng 1), (9, rng 1), (10, rng 3), (11, rng 1), (12, rng 4), (13, rng 9), (14, rng 2), (15, rng 1), (16, rng 2), (17, rng 4), (18, rng 1), (19, rng 2), (20, rng 6), (21, rng 1), (22, rng 2), (23, rng 1)], lkL [(11, [(39, .int .i64)]), (18, [(56, .int .i64)])], lkC []⟩
def B_compasslaw07_LinkPlays (p0_n : Int) (p1_script : Value) (R : Res → H → Prop) (h : H) : Prop :=
  T Try.prog F.compasslaw07_awake [] h (rt (fun v1 h2 =>
  ∃ r3, v1 = .bool r3 ∧
  ifP (!r3) (R (.ret (.bool false)) h2)
  (T Try.prog F.links_New [.int .i64 p0_n] h2 (rt (fun v4 h5 =>
  ∃ r6 : Value, ∃ r7 : Int, v4 = .tuple ⟨[r6, .int .i64 r7]⟩ ∧
  T Try.prog F.compassref07_New [.int .i64 p0_n] h5 (rt (fun v8 h9 =>
  ∃ r10 : List Value, r10.length = 2 ∧ ∃ r11 : Int, v8 = .tuple ⟨[.agg ⟨r10⟩, .int .i64 r11]⟩ ∧
  newP h9 (.cells ⟨[.slice none 0 0, .slice none 0 0]⟩ 42 (0, 0)) fun b12 h13 =>
  stN h13 (bk b12) r10 2 fun h14 =>
  ifP (!decide (r7 = r11)) (R (.ret (.bool false)) h14) (ptrO r6 fun q15 =>
  ifP (!(q15.isNone == (!decide (r11 = 0)))) (R (.ret (.bool false)) h14)
  (ptrO r6 fun q16 =>
  ifP q16.isNone (R (.ret (.bool true)) h14)
  (slcP p1_script fun a17 l18 c19 =>
  ∃ (I20 : (Int × Unit) → H → Prop) (r21 : (Int × Unit) × H → (Int × Unit) × H → Prop), WellFounded r21 ∧ I20 (0, ()) h14 ∧
  ∀ (s23 : Int) (h22 : H), I20 (s23, ()) h22 →
  ifP (decide (s23 < ((l18 : Nat) : Int))) (ixS p1_script s23 4 fun a24 =>
  ldN h22 a24 4 fun x25 =>
  newP h22 (.cells ⟨[.int .i64 0, .int .i64 0, .int .i64 0, .int .i64 0]⟩ 46 (0, 0)) fun b26 h27 =>
  stN h27 (bk b26) x25 4 fun h28 =>
  ldN h28 (bk b12) 2 fun x29 =>
  ldN h28 (bk b26) 4 fun x30 =>
  T Try.prog F.compasslaw07_step [r6, .agg ⟨x29⟩, .agg ⟨x30⟩] h28 (rt (fun v31 h32 =>
  ∃ r33 : List Value, r33.length = 2 ∧ ∃ r34 : Bool, v31 = .tuple ⟨[.agg ⟨r33⟩, .bool r34]⟩ ∧
  stN h32 (bk b12) r33 2 fun h35 =>
  ifP (!r34) (R (.ret (.bool false)) h35)
  (I20 ((IntKind.i64.wrap (s23 + 1)), ()) h35 ∧ r21 (((IntKind.i64.wrap (s23 + 1)), ()), h35) ((s23, ()), h22))) (fun v36 h37 => R (.pan v36) h37)))
  (ldV h22 ((bk b12).add 0) fun x38 =>
  slcP x38 fun a39 l40 c41 =>
  ∃ (I42 : (Int × Unit) → H → Prop) (r43 : (Int × Unit) × H → (Int × Unit) × H → Prop), WellFounded r43 ∧ I42 (0, ()) h22 ∧
  ∀ (s45 : Int) (h44 : H), I42 (s45, ()) h44 →
  ifP (decide (s45 < ((l40 : Nat) : Int))) (ldN h44 (bk b12) 2 fun x46 =>
  T Try.prog F.compasslaw07_tells [r6, .agg ⟨x46⟩, .agg ⟨[.int .i64 0, .int .i64 s45, .int .i64 0, .int .i64 0]⟩] h44 (rt (fun v47 h48 =>
  ∃ r49, v47 = .bool r49 ∧
  ifP (!r49) (R (.ret (.bool false)) h48)
  (I42 ((IntKind.i64.wrap (s45 + 1)), ()) h48 ∧ r43 (((IntKind.i64.wrap (s45 + 1)), ()), h48) ((s45, ()), h44))) (fun v50 h51 => R (.pan v50) h51)))
  (R (.ret (.bool true)) h44)))))) (fun v52 h53 => R (.pan v52) h53))) (fun v54 h55 => R (.pan v54) h55)))) (fun v56 h57 => R (.pan v56) h57))
theorem E_compasslaw07_LinkPlays {p0_n : Int} {p1_script : Value} {R : Res → H → Prop} {h : H} (H0 : B_compasslaw07_LinkPlays p0_n p1_script R h) : T Try.prog F.compasslaw07_LinkPlays [.int .i64 p0_n, p1_script] h R :=
  T_intro A_compasslaw07_LinkPlays Try.func5 (c := bodyOf Try.f5) (by kernel_rfl) (by kernel_rfl) (by kernel_rfl) (cast_of (by kernel_rfl) H0)

/-! ### compass/compasslaw07.LinkCuts -/
def A_compasslaw07_LinkCuts : An := ⟨lkA [(0, rng 1), (1, rng 6), (2, rng 10), (3, rng 1), (4, rng 8), (5, rng 8), (6, rng 3), (7, rng 1), (8, rng 2), (9, rng 7), (10, rng 1), (11, rng 2), (12, rng 3), (13, rng 1), (14, rng 8), (15, rng 2), (16, rng 3), (17, rng 7), (18, rng 8), (19, rng 2), (20, rng 1), (21, rng 2), (22, rng 8), (23, rng 15), (24, rng 1), (25, rng 6), (26, rng 7), (27, rng 1), (28, rng 2), (29, rng 3), (30, rng 8), (31, rng 8), (32, rng 8), (33, rng 8), (34, rng 13), (35, rng 1), (36, rng 1)], lkL [(11, [(11, .int .i64)]), (16, [(12, .bool), (15, .int .i64)]), (28, [(20, .int .i64)])], lkC [(4, []), (18, [(12, .bool)])]⟩
def B_compasslaw07_LinkCuts (p0_script : Value) (p1_v : Int) (R : Res → H → Prop) (h : H) : Prop :=
  T Try.prog F.compasslaw07_grown [.int .i64 12, p0_script] h (rt (fun v1 h2 =>
  T Try.prog F.compasslaw07_grown [.int .i64 12, p0_script] h2 (rt (fun v3 h4 =>
  ∃ J5 : (Unit) → H → Prop, (ptrO v1 fun q7 =>
  ifP q7.isNone (R (.ret (.bool false)) h4) (ptrO v3 fun q8 =>
  ifP q8.isNone (R (.ret (.bool false)) h4) (T Try.prog F.compasslaw07_awake [] h4 (rt (fun v9 h10 =>
  ∃ r11, v9 = .bool r11 ∧
  ifP (!r11) (R (.ret (.bool false)) h10)
  (J5 (()) h10)) (fun v12 h13 => R (.pan v12) h13))))) ∧
  (∀  (h6 : H), J5 (()) h6 →
  T Try.prog F.links_Forest_Parent [v1, .int .i64 p1_v] h6 (rt (fun v14 h15 =>
  ∃ r16 : Int, ∃ r17 : Int, v14 = .tuple ⟨[.int .i64 r16, .int .i64 r17]⟩ ∧
  T Try.prog F.links_Forest_Cut [v1, .int .i64 p1_v] h15 (rt (fun v18 h19 =>
  ∃ r20 : Int, ∃ r21 : Int, v18 = .tuple ⟨[.int .i64 r20, .int .i64 r21]⟩ ∧
  ifP (!decide (r17 = r21)) (R (.ret (.bool false)) h19)
  (ifP (!decide (r17 = 0)) (ifP (decide (r20 = 0)) (R (.ret (.bool (decide (r16 = 0)))) h19) (R (.ret (.bool false)) h19))
  (∃ (I22 : (Int × Unit) → H → Prop) (r23 : (Int × Unit) × H → (Int × Unit) × H → Prop), WellFounded r23 ∧ I22 (0, ()) h19 ∧
  ∀ (u_25 : Int) (h24 : H), I22 (u_25, ()) h24 →
  ifP (decide (u_25 < 12)) (T Try.prog F.links_Forest_Root [v3, .int .i64 u_25] h24 (rt (fun v26 h27 =>
  ∃ r28 : Int, ∃ r29 : Int, v26 = .tuple ⟨[.int .i64 r28, .int .i64 r29]⟩ ∧
  ∃ (I30 : (Bool × Int × Unit) → H → Prop) (r31 : (Bool × Int × Unit) × H → (Bool × Int × Unit) × H → Prop), WellFounded r31 ∧ I30 (false, u_25, ()) h27 ∧
  ∀ (below_33 : Bool) (w_34 : Int) (h32 : H), I30 (below_33, w_34, ()) h32 →
  ifP (!decide (w_34 = r28)) (∃ J35 : (Bool × Unit) → H → Prop, (ifP below_33 (J35 (true, ()) h32) (J35 ((decide (w_34 = p1_v)), ()) h32)) ∧
  (∀ (below_37 : Bool) (h36 : H), J35 (below_37, ()) h36 →
  T Try.prog F.links_Forest_Parent [v3, .int .i64 w_34] h36 (rt (fun v38 h39 =>
  ∃ r40 : Int, ∃ r41 : Int, v38 = .tuple ⟨[.int .i64 r40, .int .i64 r41]⟩ ∧
  ifP (!decide (r41 = 0)) (R (.ret (.bool false)) h39)
  (I30 (below_37, r40, ()) h39 ∧ r31 ((below_37, r40, ()), h39) ((below_33, w_34, ()), h32))) (fun v42 h43 => R (.pan v42) h43))))
  (T Try.prog F.links_Forest_Root [v1, .int .i64 u_25] h32 (rt (fun v44 h45 =>
  ∃ r46 : Int, ∃ r47 : Int, v44 = .tuple ⟨[.int .i64 r46, .int .i64 r47]⟩ ∧
  ifP below_33 (ifP (!decide (r46 = p1_v)) (R (.ret (.bool false)) h45) (ifP (!below_33) (ifP (!decide (r46 = r28)) (R (.ret (.bool false)) h45)
  (I22 ((IntKind.i64.wrap (u_25 + 1)), ()) h45 ∧ r23 (((IntKind.i64.wrap (u_25 + 1)), ()), h45) ((u_25, ()), h24))) (I22 ((IntKind.i64.wrap (u_25 + 1)), ()) h45 ∧ r23 (((IntKind.i64.wrap (u_25 + 1)), ()), h45) ((u_25, ()), h24)))) (ifP (!below_33) (ifP (!decide (r46 = r28)) (R (.ret (.bool false)) h45)
  (I22 ((IntKind.i64.wrap (u_25 + 1)), ()) h45 ∧ r23 (((IntKind.i64.wrap (u_25 + 1)), ()), h45) ((u_25, ()), h24))) (I22 ((IntKind.i64.wrap (u_25 + 1)), ()) h45 ∧ r23 (((IntKind.i64.wrap (u_25 + 1)), ()), h45) ((u_25, ()), h24)))) (fun v48 h49 => R (.pan v48) h49)))) (fun v50 h51 => R (.pan v50) h51)))
  (T Try.prog F.links_Forest_Link [v1, .int .i64 p1_v, .int .i64 r16, .int .i64 r20] h24 (rt (fun v52 h53 =>
  ∃ r54, v52 = .int .i64 r54 ∧
  ifP (!decide (r54 = 0)) (ifP (decide (1048576 < r20)) (R (.ret (.bool true)) h53) (R (.ret (.bool (decide (r20 < (-1048576))))) h53))
  (∃ (I55 : (Int × Unit) → H → Prop) (r56 : (Int × Unit) × H → (Int × Unit) × H → Prop), WellFounded r56 ∧ I55 (0, ()) h53 ∧
  ∀ (u_58 : Int) (h57 : H), I55 (u_58, ()) h57 →
  ifP (decide (u_58 < 12)) (T Try.prog F.links_Forest_Parent [v1, .int .i64 u_58] h57 (rt (fun v59 h60 =>
  ∃ r61 : Int, ∃ r62 : Int, v59 = .tuple ⟨[.int .i64 r61, .int .i64 r62]⟩ ∧
  T Try.prog F.links_Forest_Parent [v3, .int .i64 u_58] h60 (rt (fun v63 h64 =>
  ∃ r65 : Int, ∃ r66 : Int, v63 = .tuple ⟨[.int .i64 r65, .int .i64 r66]⟩ ∧
  T Try.prog F.links_Forest_Value [v1, .int .i64 u_58] h64 (rt (fun v67 h68 =>
  ∃ r69 : Int, ∃ r70 : Int, v67 = .tuple ⟨[.int .i64 r69, .int .i64 r70]⟩ ∧
  T Try.prog F.links_Forest_Value [v3, .int .i64 u_58] h68 (rt (fun v71 h72 =>
  ∃ r73 : Int, ∃ r74 : Int, v71 = .tuple ⟨[.int .i64 r73, .int .i64 r74]⟩ ∧
  ifP (!decide (r61 = r65)) (R (.ret (.bool false)) h72) (ifP (!decide (r62 = r66)) (R (.ret (.bool false)) h72) (ifP (!decide (r69 = r73)) (R (.ret (.bool false)) h72)
  (I55 ((IntKind.i64.wrap (u_58 + 1)), ()) h72 ∧ r56 (((IntKind.i64.wrap (u_58 + 1)), ()), h72) ((u_58, ()), h57))))) (fun v75 h76 => R (.pan v75) h76))) (fun v77 h78 => R (.pan v77) h78))) (fun v79 h80 => R (.pan v79) h80))) (fun v81 h82 => R (.pan v81) h82)))
  (R (.ret (.bool true)) h57))) (fun v83 h84 => R (.pan v83) h84)))))) (fun v85 h86 => R (.pan v85) h86))) (fun v87 h88 => R (.pan v87) h88)))) (fun v89 h90 => R (.pan v89) h90))) (fun v91 h92 => R (.pan v91) h92))
theorem E_compasslaw07_LinkCuts {p0_script : Value} {p1_v : Int} {R : Res → H → Prop} {h : H} (H0 : B_compasslaw07_LinkCuts p0_script p1_v R h) : T Try.prog F.compasslaw07_LinkCuts [p0_script, .int .i64 p1_v] h R :=
  T_intro A_compasslaw07_LinkCuts Try.func6 (c := bodyOf Try.f6) (by kernel_rfl) (by kernel_rfl) (by kernel_rfl) (cast_of (by kernel_rfl) H0)

/-! ### compass/compasslaw07.grown -/
def A_compasslaw07_grown : An := ⟨lkA [(0, rng 1), (1, rng 7), (2, rng 2), (3, rng 1), (4, rng 3), (5, rng 1), (6, rng 4), (7, rng 8), (8, rng 2), (9, rng 2)], lkL [(5, [(18, .int .i64)])], lkC []⟩
def B_compasslaw07_grown (p0_n : Int) (p1_script : Value) (R : Res → H → Prop) (h : H) : Prop :=
  T Try.prog F.links_New [.int .i64 p0_n] h (rt (fun v1 h2 =>
  ∃ r3 : Value, ∃ r4 : Int, v1 = .tuple ⟨[r3, .int .i64 r4]⟩ ∧
  ptrO r3 fun q5 =>
  ifP q5.isNone (R (.ret (.pointer none)) h2)
  (slcP p1_script fun a6 l7 c8 =>
  ∃ (I9 : (Int × Unit) → H → Prop) (r10 : (Int × Unit) × H → (Int × Unit) × H → Prop), WellFounded r10 ∧ I9 (0, ()) h2 ∧
  ∀ (s12 : Int) (h11 : H), I9 (s12, ()) h11 →
  ifP (decide (s12 < ((l7 : Nat) : Int))) (ixS p1_script s12 4 fun a13 =>
  ldN h11 a13 4 fun x14 =>
  newP h11 (.cells ⟨[.int .i64 0, .int .i64 0, .int .i64 0, .int .i64 0]⟩ 46 (0, 0)) fun b15 h16 =>
  stN h16 (bk b15) x14 4 fun h17 =>
  ldI h17 ((bk b15).add 1) .i64 fun x18 =>
  ldI h17 ((bk b15).add 2) .i64 fun x19 =>
  ldI h17 ((bk b15).add 3) .i64 fun x20 =>
  T Try.prog F.links_Forest_Link [r3, .int .i64 x18, .int .i64 x19, .int .i64 x20] h17 (rt (fun v21 h22 =>
  ∃ r23, v21 = .int .i64 r23 ∧
  I9 ((IntKind.i64.wrap (s12 + 1)), ()) h22 ∧ r10 (((IntKind.i64.wrap (s12 + 1)), ()), h22) ((s12, ()), h11)) (fun v24 h25 => R (.pan v24) h25)))
  (R (.ret r3) h11))) (fun v26 h27 => R (.pan v26) h27))
theorem E_compasslaw07_grown {p0_n : Int} {p1_script : Value} {R : Res → H → Prop} {h : H} (H0 : B_compasslaw07_grown p0_n p1_script R h) : T Try.prog F.compasslaw07_grown [.int .i64 p0_n, p1_script] h R :=
  T_intro A_compasslaw07_grown Try.func7 (c := bodyOf Try.f7) (by kernel_rfl) (by kernel_rfl) (by kernel_rfl) (cast_of (by kernel_rfl) H0)

/-! ### compass/compasslaw07.awake -/
def A_compasslaw07_awake : An := ⟨lkA [(0, rng 1), (1, rng 6), (2, rng 21), (3, rng 1), (4, rng 9), (5, rng 7), (6, rng 19)], lkL [], lkC [(4, [])]⟩
def B_compasslaw07_awake  (R : Res → H → Prop) (h : H) : Prop :=
  T Try.prog F.links_New [.int .i64 3] h (rt (fun v1 h2 =>
  ∃ r3 : Value, ∃ r4 : Int, v1 = .tuple ⟨[r3, .int .i64 r4]⟩ ∧
  ∃ J5 : (Unit) → H → Prop, (ptrO r3 fun q7 =>
  ifP q7.isNone (R (.ret (.bool false)) h2) (ifP (!decide (r4 = 0)) (R (.ret (.bool false)) h2) (T Try.prog F.links_Forest_Link [r3, .int .i64 2, .int .i64 1, .int .i64 4] h2 (rt (fun v8 h9 =>
  ∃ r10, v8 = .int .i64 r10 ∧
  ifP (!decide (r10 = 0)) (R (.ret (.bool false)) h9) (T Try.prog F.links_Forest_Link [r3, .int .i64 1, .int .i64 0, .int .i64 3] h9 (rt (fun v11 h12 =>
  ∃ r13, v11 = .int .i64 r13 ∧
  ifP (!decide (r13 = 0)) (R (.ret (.bool false)) h12) (T Try.prog F.links_Forest_Add [r3, .int .i64 2, .int .i64 5] h12 (rt (fun v14 h15 =>
  ∃ r16, v14 = .int .i64 r16 ∧
  ifP (!decide (r16 = 0)) (R (.ret (.bool false)) h15)
  (J5 (()) h15)) (fun v17 h18 => R (.pan v17) h18)))) (fun v19 h20 => R (.pan v19) h20)))) (fun v21 h22 => R (.pan v21) h22))))) ∧
  (∀  (h6 : H), J5 (()) h6 →
  T Try.prog F.links_Forest_Least [r3, .int .i64 2] h6 (rt (fun v23 h24 =>
  ∃ r25 : Int, ∃ r26 : Int, ∃ r27 : Int, v23 = .tuple ⟨[.int .i64 r25, .int .i64 r26, .int .i64 r27]⟩ ∧
  T Try.prog F.links_Forest_Root [r3, .int .i64 2] h24 (rt (fun v28 h29 =>
  ∃ r30 : Int, ∃ r31 : Int, v28 = .tuple ⟨[.int .i64 r30, .int .i64 r31]⟩ ∧
  ifP (decide (r25 = 1)) (ifP (decide (r26 = 8)) (ifP (decide (r27 = 0)) (ifP (decide (r30 = 0)) (R (.ret (.bool (decide (r31 = 0)))) h29) (R (.ret (.bool false)) h29)) (R (.ret (.bool false)) h29)) (R (.ret (.bool false)) h29)) (R (.ret (.bool false)) h29)) (fun v32 h33 => R (.pan v32) h33))) (fun v34 h35 => R (.pan v34) h35)))) (fun v36 h37 => R (.pan v36) h37))
theorem E_compasslaw07_awake  {R : Res → H → Prop} {h : H} (H0 : B_compasslaw07_awake  R h) : T Try.prog F.compasslaw07_awake [] h R :=
  T_intro A_compasslaw07_awake Try.func8 (c := bodyOf Try.f8) (by kernel_rfl) (by kernel_rfl) (by kernel_rfl) (cast_of (by kernel_rfl) H0)

/-! ### (compass/links.Forest).Root -/
def A_links_Forest_Root : An := ⟨lkA [(0, rng 2), (1, rng 4), (2, rng 2), (3, rng 5)], lkL [], lkC []⟩
def B_links_Forest_Root (p0_f : Value) (p1_v : Int) (R : Res → H → Prop) (h : H) : Prop :=
  T Try.prog F.links_Forest_node [p0_f, .int .i64 p1_v] h (rt (fun v1 h2 =>
  ∃ r3, v1 = .bool r3 ∧
  ifP (!r3) (R (.ret (.tuple ⟨[.int .i64 0, .int .i64 30]⟩)) h2)
  (T Try.prog F.links_Forest_root [p0_f, .int .i64 p1_v] h2 (rt (fun v4 h5 =>
  ∃ r6, v4 = .int .i64 r6 ∧
  R (.ret (.tuple ⟨[.int .i64 r6, .int .i64 0]⟩)) h5) (fun v7 h8 => R (.pan v7) h8)))) (fun v9 h10 => R (.pan v9) h10))
theorem E_links_Forest_Root {p0_f : Value} {p1_v : Int} {R : Res → H → Prop} {h : H} (H0 : B_links_Forest_Root p0_f p1_v R h) : T Try.prog F.links_Forest_Root [p0_f, .int .i64 p1_v] h R :=
  T_intro A_links_Forest_Root Try.func9 (c := bodyOf Try.f9) (by kernel_rfl) (by kernel_rfl) (by kernel_rfl) (cast_of (by kernel_rfl) H0)

/-! ### (compass/links.Forest).Least -/
def A_links_Forest_Least : An := ⟨lkA [(0, rng 3), (1, rng 4), (2, rng 2), (3, rng 4), (4, rng 4), (5, rng 9), (6, rng 9), (7, rng 3), (8, rng 9), (9, rng 3), (10, ⟨[0, 1, 2, 3, 4, 5, 6, 8, 13, 7, 9, 10, 11, 12, 14, 15, 16], lkN []⟩), (11, rng 3), (12, rng 5), (13, rng 3), (14, rng 5)], lkL [(7, [(9, .int .i64)])], lkC []⟩
def B_links_Forest_Least (p0_f : Value) (p1_v : Int) (R : Res → H → Prop) (h : H) : Prop :=
  T Try.prog F.links_Forest_child [p0_f, .int .i64 p1_v] h (rt (fun v1 h2 =>
  ∃ r3, v1 = .int .i64 r3 ∧
  ifP (!decide (r3 = 0)) (R (.ret (.tuple ⟨[.int .i64 0, .int .i64 0, .int .i64 r3]⟩)) h2)
  (T Try.prog F.links_Forest_root [p0_f, .int .i64 p1_v] h2 (rt (fun v4 h5 =>
  ∃ r6, v4 = .int .i64 r6 ∧
  ptrP p0_f fun a7 =>
  ldV h5 (a7.add 0) fun x8 =>
  ixS x8 r6 6 fun a9 =>
  ldI h5 (a9.add 1) .i64 fun x10 =>
  ptrP p0_f fun a11 =>
  ldV h5 (a11.add 0) fun x12 =>
  ixS x12 x10 6 fun a13 =>
  ldI h5 (a13.add 4) .i64 fun x14 =>
  ∃ (I15 : (Int × Unit) → H → Prop) (r16 : (Int × Unit) × H → (Int × Unit) × H → Prop), WellFounded r16 ∧ I15 (x10, ()) h5 ∧
  ∀ (at_18 : Int) (h17 : H), I15 (at_18, ()) h17 →
  T Try.prog F.links_Forest_push [p0_f, .int .i64 at_18] h17 (rt (fun v19 h20 =>
  v19 = .tuple ⟨[]⟩ ∧
  ptrP p0_f fun a21 =>
  ldV h20 (a21.add 0) fun x22 =>
  ixS x22 at_18 6 fun a23 =>
  ldN h20 a23 6 fun x24 =>
  newP h20 (.cells ⟨[.int .i64 0, .int .i64 0, .int .i64 0, .int .i64 0, .int .i64 0, .int .i64 0]⟩ 56 (0, 0)) fun b25 h26 =>
  stN h26 (bk b25) x24 6 fun h27 =>
  ldI h27 ((bk b25).add 0) .i64 fun x28 =>
  ifP (decide (0 ≤ x28)) (ptrP p0_f fun a29 =>
  ldV h27 (a29.add 0) fun x30 =>
  ldI h27 ((bk b25).add 0) .i64 fun x31 =>
  ixS x30 x31 6 fun a32 =>
  ldI h27 (a32.add 4) .i64 fun x33 =>
  ifP (decide (x33 = x14)) (ldI h27 ((bk b25).add 0) .i64 fun x34 =>
  I15 (x34, ()) h27 ∧ r16 ((x34, ()), h27) ((at_18, ()), h17))
  (ldI h27 ((bk b25).add 3) .i64 fun x35 =>
  ifP (decide (x35 = x14)) (T Try.prog F.links_Forest_splay [p0_f, .int .i64 at_18] h27 (rt (fun v36 h37 =>
  v36 = .tuple ⟨[]⟩ ∧
  R (.ret (.tuple ⟨[.int .i64 at_18, .int .i64 x14, .int .i64 0]⟩)) h37) (fun v38 h39 => R (.pan v38) h39)))
  (ldI h27 ((bk b25).add 1) .i64 fun x40 =>
  I15 (x40, ()) h27 ∧ r16 ((x40, ()), h27) ((at_18, ()), h17)))) (ldI h27 ((bk b25).add 3) .i64 fun x41 =>
  ifP (decide (x41 = x14)) (T Try.prog F.links_Forest_splay [p0_f, .int .i64 at_18] h27 (rt (fun v42 h43 =>
  v42 = .tuple ⟨[]⟩ ∧
  R (.ret (.tuple ⟨[.int .i64 at_18, .int .i64 x14, .int .i64 0]⟩)) h43) (fun v44 h45 => R (.pan v44) h45)))
  (ldI h27 ((bk b25).add 1) .i64 fun x46 =>
  I15 (x46, ()) h27 ∧ r16 ((x46, ()), h27) ((at_18, ()), h17)))) (fun v47 h48 => R (.pan v47) h48))) (fun v49 h50 => R (.pan v49) h50)))) (fun v51 h52 => R (.pan v51) h52))
theorem E_links_Forest_Least {p0_f : Value} {p1_v : Int} {R : Res → H → Prop} {h : H} (H0 : B_links_Forest_Least p0_f p1_v R h) : T Try.prog F.links_Forest_Least [p0_f, .int .i64 p1_v] h R :=
  T_intro A_links_Forest_Least Try.func10 (c := bodyOf Try.f10) (by kernel_rfl) (by kernel_rfl) (by kernel_rfl) (cast_of (by kernel_rfl) H0)

/-! ### (compass/links.Forest).Value -/
def A_links_Forest_Value : An := ⟨lkA [(0, rng 2), (1, rng 4), (2, rng 2), (3, rng 3), (4, rng 10)], lkL [], lkC []⟩
def B_links_Forest_Value (p0_f : Value) (p1_v : Int) (R : Res → H → Prop) (h : H) : Prop :=
  T Try.prog F.links_Forest_child [p0_f, .int .i64 p1_v] h (rt (fun v1 h2 =>
  ∃ r3, v1 = .int .i64 r3 ∧
  ifP (!decide (r3 = 0)) (R (.ret (.tuple ⟨[.int .i64 0, .int .i64 r3]⟩)) h2)
  (ptrP p0_f fun a4 =>
  ldV h2 (a4.add 0) fun x5 =>
  ixS x5 p1_v 6 fun a6 =>
  ldI h2 (a6.add 3) .i64 fun x7 =>
  R (.ret (.tuple ⟨[.int .i64 x7, .int .i64 0]⟩)) h2)) (fun v8 h9 => R (.pan v8) h9))
theorem E_links_Forest_Value {p0_f : Value} {p1_v : Int} {R : Res → H → Prop} {h : H} (H0 : B_links_Forest_Value p0_f p1_v R h) : T Try.prog F.links_Forest_Value [p0_f, .int .i64 p1_v] h R :=
  T_intro A_links_Forest_Value Try.func11 (c := bodyOf Try.f11) (by kernel_rfl) (by kernel_rfl) (by kernel_rfl) (cast_of (by kernel_rfl) H0)

/-! ### (compass/links.Forest).Parent -/
def A_links_Forest_Parent : An := ⟨lkA [(0, rng 2), (1, rng 4), (2, rng 2), (3, rng 3), (4, rng 9), (5, rng 3), (6, rng 9), (7, rng 9), (8, rng 3), (9, rng 3)], lkL [(5, [(7, .int .i64)])], lkC []⟩
def B_links_Forest_Parent (p0_f : Value) (p1_v : Int) (R : Res → H → Prop) (h : H) : Prop :=
  T Try.prog F.links_Forest_child [p0_f, .int .i64 p1_v] h (rt (fun v1 h2 =>
  ∃ r3, v1 = .int .i64 r3 ∧
  ifP (!decide (r3 = 0)) (R (.ret (.tuple ⟨[.int .i64 0, .int .i64 r3]⟩)) h2)
  (ptrP p0_f fun a4 =>
  ldV h2 (a4.add 0) fun x5 =>
  ixS x5 p1_v 6 fun a6 =>
  ldI h2 (a6.add 0) .i64 fun x7 =>
  ∃ (I8 : (Int × Unit) → H → Prop) (r9 : (Int × Unit) × H → (Int × Unit) × H → Prop), WellFounded r9 ∧ I8 (x7, ()) h2 ∧
  ∀ (u_11 : Int) (h10 : H), I8 (u_11, ()) h10 →
  T Try.prog F.links_Forest_push [p0_f, .int .i64 u_11] h10 (rt (fun v12 h13 =>
  v12 = .tuple ⟨[]⟩ ∧
  ptrP p0_f fun a14 =>
  ldV h13 (a14.add 0) fun x15 =>
  ixS x15 u_11 6 fun a16 =>
  ldI h13 (a16.add 1) .i64 fun x17 =>
  ifP (decide (x17 < 0)) (T Try.prog F.links_Forest_splay [p0_f, .int .i64 u_11] h13 (rt (fun v18 h19 =>
  v18 = .tuple ⟨[]⟩ ∧
  R (.ret (.tuple ⟨[.int .i64 u_11, .int .i64 0]⟩)) h19) (fun v20 h21 => R (.pan v20) h21)))
  (ptrP p0_f fun a22 =>
  ldV h13 (a22.add 0) fun x23 =>
  ixS x23 u_11 6 fun a24 =>
  ldI h13 (a24.add 1) .i64 fun x25 =>
  I8 (x25, ()) h13 ∧ r9 ((x25, ()), h13) ((u_11, ()), h10))) (fun v26 h27 => R (.pan v26) h27)))) (fun v28 h29 => R (.pan v28) h29))
theorem E_links_Forest_Parent {p0_f : Value} {p1_v : Int} {R : Res → H → Prop} {h : H} (H0 : B_links_Forest_Parent p0_f p1_v R h) : T Try.prog F.links_Forest_Parent [p0_f, .int .i64 p1_v] h R :=
  T_intro A_links_Forest_Parent Try.func12 (c := bodyOf Try.f12) (by kernel_rfl) (by kernel_rfl) (by kernel_rfl) (cast_of (by kernel_rfl) H0)

/-! ### (compass/links.Forest).Add -/
def A_links_Forest_Add : An := ⟨lkA [(0, rng 1), (1, rng 5), (2, rng 1), (3, rng 4), (4, rng 1), (5, rng 4), (6, rng 11), (7, rng 3), (8, rng 1)], lkL [], lkC []⟩
def B_links_Forest_Add (p0_f : Value) (p1_v : Int) (p2_x : Int) (R : Res → H → Prop) (h : H) : Prop :=
  T Try.prog F.links_Forest_node [p0_f, .int .i64 p1_v] h (rt (fun v1 h2 =>
  ∃ r3, v1 = .bool r3 ∧
  ifP (!r3) (R (.ret (.int .i64 30)) h2)
  (T Try.prog F.links_label [.int .i64 p2_x] h2 (rt (fun v4 h5 =>
  ∃ r6, v4 = .bool r6 ∧
  ifP (!r6) (R (.ret (.int .i64 31)) h5)
  (T Try.prog F.links_Forest_root [p0_f, .int .i64 p1_v] h5 (rt (fun v7 h8 =>
  ∃ r9, v7 = .int .i64 r9 ∧
  ptrP p0_f fun a10 =>
  ldV h8 (a10.add 0) fun x11 =>
  ixS x11 r9 6 fun a12 =>
  ldI h8 (a12.add 1) .i64 fun x13 =>
  T Try.prog F.links_Forest_raise [p0_f, .int .i64 x13, .int .i64 p2_x] h8 (rt (fun v14 h15 =>
  v14 = .tuple ⟨[]⟩ ∧
  T Try.prog F.links_Forest_pull [p0_f, .int .i64 r9] h15 (rt (fun v16 h17 =>
  v16 = .tuple ⟨[]⟩ ∧
  R (.ret (.int .i64 0)) h17) (fun v18 h19 => R (.pan v18) h19))) (fun v20 h21 => R (.pan v20) h21))) (fun v22 h23 => R (.pan v22) h23)))) (fun v24 h25 => R (.pan v24) h25)))) (fun v26 h27 => R (.pan v26) h27))
theorem E_links_Forest_Add {p0_f : Value} {p1_v : Int} {p2_x : Int} {R : Res → H → Prop} {h : H} (H0 : B_links_Forest_Add p0_f p1_v p2_x R h) : T Try.prog F.links_Forest_Add [p0_f, .int .i64 p1_v, .int .i64 p2_x] h R :=
  T_intro A_links_Forest_Add Try.func13 (c := bodyOf Try.f13) (by kernel_rfl) (by kernel_rfl) (by kernel_rfl) (cast_of (by kernel_rfl) H0)

/-! ### compass/links.New -/
def A_links_New : An := ⟨lkA [(0, rng 2), (1, rng 6), (2, rng 2), (3, rng 5), (4, rng 6), (5, rng 1), (6, rng 2), (7, rng 8), (8, rng 2), (9, rng 3)], lkL [(5, [(21, .int .i64)])], lkC []⟩
def B_links_New (p0_n : Int) (R : Res → H → Prop) (h : H) : Prop :=
  ifP (decide (p0_n < 0)) (R (.ret (.tuple ⟨[.pointer none, .int .i64 3]⟩)) h) (ifP (decide (1024 < p0_n)) (R (.ret (.tuple ⟨[.pointer none, .int .i64 3]⟩)) h)
  (mkS p0_n p0_n 48 [.int .i64 0, .int .i64 0, .int .i64 0, .int .i64 0, .int .i64 0, .int .i64 0] 56 h fun b1 h2 =>
  newP h2 (.cells ⟨[.slice (some (bk b1)) p0_n.toNat p0_n.toNat]⟩ 59 (0, 0)) fun b3 h4 =>
  ldV h4 ((bk b3).add 0) fun x5 =>
  slcP x5 fun a6 l7 c8 =>
  ∃ (I9 : (Int × Unit) → H → Prop) (r10 : (Int × Unit) × H → (Int × Unit) × H → Prop), WellFounded r10 ∧ I9 (0, ()) h4 ∧
  ∀ (s12 : Int) (h11 : H), I9 (s12, ()) h11 →
  ifP (decide (s12 < ((l7 : Nat) : Int))) (ldV h11 ((bk b3).add 0) fun x13 =>
  ixS x13 s12 6 fun a14 =>
  stN h11 a14 [.int .i64 (-1), .int .i64 (-1), .int .i64 (-1), .int .i64 0, .int .i64 0, .int .i64 0] 6 fun h15 =>
  I9 ((IntKind.i64.wrap (s12 + 1)), ()) h15 ∧ r10 (((IntKind.i64.wrap (s12 + 1)), ()), h15) ((s12, ()), h11))
  (R (.ret (.tuple ⟨[.pointer (some (bk b3)), .int .i64 0]⟩)) h11)))
theorem E_links_New {p0_n : Int} {R : Res → H → Prop} {h : H} (H0 : B_links_New p0_n R h) : T Try.prog F.links_New [.int .i64 p0_n] h R :=
  T_intro A_links_New Try.func14 (c := bodyOf Try.f14) (by kernel_rfl) (by kernel_rfl) (by kernel_rfl) (cast_of (by kernel_rfl) H0)

/-! ### compass/compassref07.New -/
def A_compassref07_New : An := ⟨lkA [(0, rng 2), (1, rng 6), (2, rng 3), (3, ⟨[0, 2, 1, 3, 4, 5, 6], lkN []⟩), (4, rng 1), (5, rng 3), (6, rng 3), (7, rng 5), (8, rng 3)], lkL [(5, [(5, .int .i64)])], lkC []⟩
def B_compassref07_New (p0_n : Int) (R : Res → H → Prop) (h : H) : Prop :=
  newP h (.cells ⟨[.slice none 0 0, .slice none 0 0]⟩ 42 (0, 0)) fun b1 h2 =>
  ifP (decide (p0_n < 0)) (stN h2 (bk b1) [.slice none 0 0, .slice none 0 0] 2 fun h3 =>
  ldN h3 (bk b1) 2 fun x4 =>
  R (.ret (.tuple ⟨[.agg ⟨x4⟩, .int .i64 3]⟩)) h3) (ifP (decide (1024 < p0_n)) (stN h2 (bk b1) [.slice none 0 0, .slice none 0 0] 2 fun h5 =>
  ldN h5 (bk b1) 2 fun x6 =>
  R (.ret (.tuple ⟨[.agg ⟨x6⟩, .int .i64 3]⟩)) h5)
  (mkS p0_n p0_n 8 [.int .i64 0] 3 h2 fun b7 h8 =>
  mkS p0_n p0_n 8 [.int .i64 0] 2 h8 fun b9 h10 =>
  newP h10 (.cells ⟨[.slice none 0 0, .slice none 0 0]⟩ 42 (0, 0)) fun b11 h12 =>
  stN h12 (bk b11) [.slice (some (bk b7)) p0_n.toNat p0_n.toNat, .slice (some (bk b9)) p0_n.toNat p0_n.toNat] 2 fun h13 =>
  ∃ (I14 : (Int × Unit) → H → Prop) (r15 : (Int × Unit) × H → (Int × Unit) × H → Prop), WellFounded r15 ∧ I14 (0, ()) h13 ∧
  ∀ (v_17 : Int) (h16 : H), I14 (v_17, ()) h16 →
  ifP (decide (v_17 < p0_n)) (ldV h16 ((bk b11).add 0) fun x18 =>
  ixS x18 v_17 1 fun a19 =>
  stC h16 a19 (.int .i64 (-1)) fun h20 =>
  I14 ((IntKind.i64.wrap (v_17 + 1)), ()) h20 ∧ r15 (((IntKind.i64.wrap (v_17 + 1)), ()), h20) ((v_17, ()), h16))
  (ldN h16 (bk b11) 2 fun x21 =>
  stN h16 (bk b1) x21 2 fun h22 =>
  ldN h22 (bk b1) 2 fun x23 =>
  R (.ret (.tuple ⟨[.agg ⟨x23⟩, .int .i64 0]⟩)) h22)))
theorem E_compassref07_New {p0_n : Int} {R : Res → H → Prop} {h : H} (H0 : B_compassref07_New p0_n R h) : T Try.prog F.compassref07_New [.int .i64 p0_n] h R :=
  T_intro A_compassref07_New Try.func15 (c := bodyOf Try.f15) (by kernel_rfl) (by kernel_rfl) (by kernel_rfl) (cast_of (by kernel_rfl) H0)

/-! ### compass/compasslaw07.step -/
def A_compasslaw07_step : An := ⟨lkA [(0, rng 4), (1, rng 2), (2, rng 2), (3, rng 14), (4, ⟨[1, 2, 4, 6, 9, 0, 3, 5, 7, 8, 10, 11, 12], lkN [(8, [0])]⟩), (5, rng 2), (6, rng 12), (7, rng 9), (8, rng 11), (9, rng 2), (10, rng 9), (11, rng 9), (12, rng 11), (13, rng 2), (14, rng 11), (15, rng 11), (16, rng 16), (17, rng 2), (18, rng 12), (19, ⟨[1, 2, 4, 7, 0, 3, 5, 6, 8, 9, 10], lkN [(6, [0])]⟩), (20, ⟨[1, 0, 2, 3, 4, 5, 6], lkN [(4, [0])]⟩)], lkL [], lkC []⟩
def B_compasslaw07_step (p0_f : Value) (p1_w : List Value) (p2_o : List Value) (R : Res → H → Prop) (h : H) : Prop :=
  newP h (.cells ⟨p1_w⟩ 42 (0, 0)) fun b1 h2 =>
  newP h2 (.cells ⟨p2_o⟩ 46 (0, 0)) fun b3 h4 =>
  newP h4 (.cells ⟨[.slice none 0 0, .slice none 0 0]⟩ 42 (0, 0)) fun b5 h6 =>
  ldI h6 ((bk b3).add 0) .i64 fun x7 =>
  ifP (decide (x7 = 0)) (ldN h6 (bk b1) 2 fun x8 =>
  ldI h6 ((bk b3).add 1) .i64 fun x9 =>
  ldI h6 ((bk b3).add 2) .i64 fun x10 =>
  ldI h6 ((bk b3).add 3) .i64 fun x11 =>
  T Try.prog F.compassref07_Link [.agg ⟨x8⟩, .int .i64 x9, .int .i64 x10, .int .i64 x11] h6 (rt (fun v12 h13 =>
  ∃ r14 : List Value, r14.length = 2 ∧ ∃ r15 : Int, v12 = .tuple ⟨[.agg ⟨r14⟩, .int .i64 r15]⟩ ∧
  newP h13 (.cells ⟨[.slice none 0 0, .slice none 0 0]⟩ 42 (0, 0)) fun b16 h17 =>
  stN h17 (bk b16) r14 2 fun h18 =>
  ldN h18 (bk b16) 2 fun x19 =>
  ldI h18 ((bk b3).add 1) .i64 fun x20 =>
  ldI h18 ((bk b3).add 2) .i64 fun x21 =>
  ldI h18 ((bk b3).add 3) .i64 fun x22 =>
  T Try.prog F.links_Forest_Link [p0_f, .int .i64 x20, .int .i64 x21, .int .i64 x22] h18 (rt (fun v23 h24 =>
  ∃ r25, v23 = .int .i64 r25 ∧
  (sameAt 3 (bk b16) h18 h24) ∧
  stN h24 (bk b5) x19 2 fun h26 =>
  ldN h26 (bk b5) 2 fun x27 =>
  R (.ret (.tuple ⟨[.agg ⟨x27⟩, .bool (decide (r25 = r15))]⟩)) h26) (fun v28 h29 => R (.pan v28) h29))) (fun v30 h31 => R (.pan v30) h31)))
  (ifP (decide (x7 = 1)) (ldN h6 (bk b1) 2 fun x32 =>
  ldI h6 ((bk b3).add 1) .i64 fun x33 =>
  T Try.prog F.compassref07_Cut [.agg ⟨x32⟩, .int .i64 x33] h6 (rt (fun v34 h35 =>
  ∃ r36 : List Value, r36.length = 2 ∧ ∃ r37 : Int, ∃ r38 : Int, v34 = .tuple ⟨[.agg ⟨r36⟩, .int .i64 r37, .int .i64 r38]⟩ ∧
  newP h35 (.cells ⟨[.slice none 0 0, .slice none 0 0]⟩ 42 (0, 0)) fun b39 h40 =>
  stN h40 (bk b39) r36 2 fun h41 =>
  ldI h41 ((bk b3).add 1) .i64 fun x42 =>
  T Try.prog F.links_Forest_Cut [p0_f, .int .i64 x42] h41 (rt (fun v43 h44 =>
  ∃ r45 : Int, ∃ r46 : Int, v43 = .tuple ⟨[.int .i64 r45, .int .i64 r46]⟩ ∧
  ldN h44 (bk b39) 2 fun x47 =>
  ifP (decide (r45 = r37)) (stN h44 (bk b5) x47 2 fun h48 =>
  ldN h48 (bk b5) 2 fun x49 =>
  R (.ret (.tuple ⟨[.agg ⟨x49⟩, .bool (decide (r46 = r38))]⟩)) h48) (stN h44 (bk b5) x47 2 fun h50 =>
  ldN h50 (bk b5) 2 fun x51 =>
  R (.ret (.tuple ⟨[.agg ⟨x51⟩, .bool false]⟩)) h50)) (fun v52 h53 => R (.pan v52) h53))) (fun v54 h55 => R (.pan v54) h55)))
  (ifP (decide (x7 = 2)) (ldN h6 (bk b1) 2 fun x56 =>
  ldI h6 ((bk b3).add 1) .i64 fun x57 =>
  T Try.prog F.compassref07_Root [.agg ⟨x56⟩, .int .i64 x57] h6 (rt (fun v58 h59 =>
  ∃ r60 : Int, ∃ r61 : Int, v58 = .tuple ⟨[.int .i64 r60, .int .i64 r61]⟩ ∧
  ldI h59 ((bk b3).add 1) .i64 fun x62 =>
  T Try.prog F.links_Forest_Root [p0_f, .int .i64 x62] h59 (rt (fun v63 h64 =>
  ∃ r65 : Int, ∃ r66 : Int, v63 = .tuple ⟨[.int .i64 r65, .int .i64 r66]⟩ ∧
  ldN h64 (bk b1) 2 fun x67 =>
  ifP (decide (r65 = r60)) (stN h64 (bk b5) x67 2 fun h68 =>
  ldN h68 (bk b5) 2 fun x69 =>
  R (.ret (.tuple ⟨[.agg ⟨x69⟩, .bool (decide (r66 = r61))]⟩)) h68) (stN h64 (bk b5) x67 2 fun h70 =>
  ldN h70 (bk b5) 2 fun x71 =>
  R (.ret (.tuple ⟨[.agg ⟨x71⟩, .bool false]⟩)) h70)) (fun v72 h73 => R (.pan v72) h73))) (fun v74 h75 => R (.pan v74) h75)))
  (ifP (decide (x7 = 5)) (ldN h6 (bk b1) 2 fun x76 =>
  ldI h6 ((bk b3).add 1) .i64 fun x77 =>
  T Try.prog F.compassref07_Least [.agg ⟨x76⟩, .int .i64 x77] h6 (rt (fun v78 h79 =>
  ∃ r80 : Int, ∃ r81 : Int, ∃ r82 : Int, v78 = .tuple ⟨[.int .i64 r80, .int .i64 r81, .int .i64 r82]⟩ ∧
  ldI h79 ((bk b3).add 1) .i64 fun x83 =>
  T Try.prog F.links_Forest_Least [p0_f, .int .i64 x83] h79 (rt (fun v84 h85 =>
  ∃ r86 : Int, ∃ r87 : Int, ∃ r88 : Int, v84 = .tuple ⟨[.int .i64 r86, .int .i64 r87, .int .i64 r88]⟩ ∧
  ldN h85 (bk b1) 2 fun x89 =>
  ifP (decide (r86 = r80)) (ifP (decide (r81 = r87)) (stN h85 (bk b5) x89 2 fun h90 =>
  ldN h90 (bk b5) 2 fun x91 =>
  R (.ret (.tuple ⟨[.agg ⟨x91⟩, .bool (decide (r88 = r82))]⟩)) h90) (stN h85 (bk b5) x89 2 fun h92 =>
  ldN h92 (bk b5) 2 fun x93 =>
  R (.ret (.tuple ⟨[.agg ⟨x93⟩, .bool false]⟩)) h92)) (stN h85 (bk b5) x89 2 fun h94 =>
  ldN h94 (bk b5) 2 fun x95 =>
  R (.ret (.tuple ⟨[.agg ⟨x95⟩, .bool false]⟩)) h94)) (fun v96 h97 => R (.pan v96) h97))) (fun v98 h99 => R (.pan v98) h99)))
  (ifP (decide (x7 = 6)) (ldN h6 (bk b1) 2 fun x100 =>
  ldI h6 ((bk b3).add 1) .i64 fun x101 =>
  ldI h6 ((bk b3).add 3) .i64 fun x102 =>
  T Try.prog F.compassref07_Add [.agg ⟨x100⟩, .int .i64 x101, .int .i64 x102] h6 (rt (fun v103 h104 =>
  ∃ r105 : List Value, r105.length = 2 ∧ ∃ r106 : Int, v103 = .tuple ⟨[.agg ⟨r105⟩, .int .i64 r106]⟩ ∧
  newP h104 (.cells ⟨[.slice none 0 0, .slice none 0 0]⟩ 42 (0, 0)) fun b107 h108 =>
  stN h108 (bk b107) r105 2 fun h109 =>
  ldN h109 (bk b107) 2 fun x110 =>
  ldI h109 ((bk b3).add 1) .i64 fun x111 =>
  ldI h109 ((bk b3).add 3) .i64 fun x112 =>
  T Try.prog F.links_Forest_Add [p0_f, .int .i64 x111, .int .i64 x112] h109 (rt (fun v113 h114 =>
  ∃ r115, v113 = .int .i64 r115 ∧
  (sameAt 3 (bk b107) h109 h114) ∧
  stN h114 (bk b5) x110 2 fun h116 =>
  ldN h116 (bk b5) 2 fun x117 =>
  R (.ret (.tuple ⟨[.agg ⟨x117⟩, .bool (decide (r115 = r106))]⟩)) h116) (fun v118 h119 => R (.pan v118) h119))) (fun v120 h121 => R (.pan v120) h121)))
  (ldN h6 (bk b1) 2 fun x122 =>
  ldN h6 (bk b1) 2 fun x123 =>
  ldN h6 (bk b3) 4 fun x124 =>
  T Try.prog F.compasslaw07_tells [p0_f, .agg ⟨x123⟩, .agg ⟨x124⟩] h6 (rt (fun v125 h126 =>
  ∃ r127, v125 = .bool r127 ∧
  (sameAt 3 (bk b1) h6 h126) ∧
  stN h126 (bk b5) x122 2 fun h128 =>
  ldN h128 (bk b5) 2 fun x129 =>
  R (.ret (.tuple ⟨[.agg ⟨x129⟩, .bool r127]⟩)) h128) (fun v130 h131 => R (.pan v130) h131)))))))
theorem E_compasslaw07_step {p0_f : Value} {p1_w : List Value} {p2_o : List Value} {R : Res → H → Prop} {h : H} (H0 : B_compasslaw07_step p0_f p1_w p2_o R h) : T Try.prog F.compasslaw07_step [p0_f, .agg ⟨p1_w⟩, .agg ⟨p2_o⟩] h R :=
  T_intro A_compasslaw07_step Try.func16 (c := bodyOf Try.f16) (by kernel_rfl) (by kernel_rfl) (by kernel_rfl) (cast_of (by kernel_rfl) H0)

/-! ### compass/compasslaw07.tells -/
def A_compasslaw07_tells : An := ⟨lkA [(0, rng 3), (1, rng 5), (2, rng 9), (3, rng 9), (4, rng 8), (5, rng 1), (6, rng 2), (7, rng 7), (8, rng 19)], lkL [], lkC []⟩
def B_compasslaw07_tells (p0_f : Value) (p1_w : List Value) (p2_o : List Value) (R : Res → H → Prop) (h : H) : Prop :=
  newP h (.cells ⟨p1_w⟩ 42 (0, 0)) fun b1 h2 =>
  newP h2 (.cells ⟨p2_o⟩ 46 (0, 0)) fun b3 h4 =>
  ldN h4 (bk b1) 2 fun x5 =>
  ldI h4 ((bk b3).add 1) .i64 fun x6 =>
  T Try.prog F.compassref07_Child [.agg ⟨x5⟩, .int .i64 x6] h4 (rt (fun v7 h8 =>
  ∃ r9, v7 = .int .i64 r9 ∧
  ldI h8 ((bk b3).add 1) .i64 fun x10 =>
  T Try.prog F.links_Forest_Parent [p0_f, .int .i64 x10] h8 (rt (fun v11 h12 =>
  ∃ r13 : Int, ∃ r14 : Int, v11 = .tuple ⟨[.int .i64 r13, .int .i64 r14]⟩ ∧
  ldI h12 ((bk b3).add 1) .i64 fun x15 =>
  T Try.prog F.links_Forest_Value [p0_f, .int .i64 x15] h12 (rt (fun v16 h17 =>
  ∃ r18 : Int, ∃ r19 : Int, v16 = .tuple ⟨[.int .i64 r18, .int .i64 r19]⟩ ∧
  ifP (!decide (r14 = r9)) (R (.ret (.bool false)) h17) (ifP (!decide (r19 = r9)) (R (.ret (.bool false)) h17)
  (ifP (!decide (r9 = 0)) (ifP (decide (r13 = 0)) (R (.ret (.bool (decide (r18 = 0)))) h17) (R (.ret (.bool false)) h17))
  (ldV h17 ((bk b1).add 0) fun x20 =>
  ldI h17 ((bk b3).add 1) .i64 fun x21 =>
  ixS x20 x21 1 fun a22 =>
  ldI h17 a22 .i64 fun x23 =>
  ifP (decide (r13 = x23)) (ldV h17 ((bk b1).add 1) fun x24 =>
  ldI h17 ((bk b3).add 1) .i64 fun x25 =>
  ixS x24 x25 1 fun a26 =>
  ldI h17 a26 .i64 fun x27 =>
  R (.ret (.bool (decide (r18 = x27)))) h17) (R (.ret (.bool false)) h17))))) (fun v28 h29 => R (.pan v28) h29))) (fun v30 h31 => R (.pan v30) h31))) (fun v32 h33 => R (.pan v32) h33))
theorem E_compasslaw07_tells {p0_f : Value} {p1_w : List Value} {p2_o : List Value} {R : Res → H → Prop} {h : H} (H0 : B_compasslaw07_tells p0_f p1_w p2_o R h) : T Try.prog F.compasslaw07_tells [p0_f, .agg ⟨p1_w⟩, .agg ⟨p2_o⟩] h R :=
  T_intro A_compasslaw07_tells Try.func17 (c := bodyOf Try.f17) (by kernel_rfl) (by kernel_rfl) (by kernel_rfl) (cast_of (by kernel_rfl) H0)

/-! ### (compass/links.Forest).Cut -/
def A_links_Forest_Cut : An := ⟨lkA [(0, rng 2), (1, rng 4), (2, rng 2), (3, rng 3), (4, rng 7), (5, ⟨[0, 1, 2, 4, 5, 6, 3, 7, 8, 9, 10], lkN []⟩), (6, rng 4), (7, rng 5), (8, rng 4), (9, rng 3), (10, rng 3)], lkL [], lkC []⟩
def B_links_Forest_Cut (p0_f : Value) (p1_v : Int) (R : Res → H → Prop) (h : H) : Prop :=
  T Try.prog F.links_Forest_child [p0_f, .int .i64 p1_v] h (rt (fun v1 h2 =>
  ∃ r3, v1 = .int .i64 r3 ∧
  ifP (!decide (r3 = 0)) (R (.ret (.tuple ⟨[.int .i64 0, .int .i64 r3]⟩)) h2)
  (ptrP p0_f fun a4 =>
  ldV h2 (a4.add 0) fun x5 =>
  ixS x5 p1_v 6 fun a6 =>
  ptrP p0_f fun a7 =>
  ldV h2 (a7.add 0) fun x8 =>
  ldI h2 (a6.add 0) .i64 fun x9 =>
  ixS x8 x9 6 fun a10 =>
  stC h2 (a10.add 2) (.int .i64 (-1)) fun h11 =>
  stC h11 (a6.add 0) (.int .i64 (-1)) fun h12 =>
  ldI h12 (a6.add 3) .i64 fun x13 =>
  stC h12 (a6.add 3) (.int .i64 0) fun h14 =>
  T Try.prog F.links_Forest_pull [p0_f, .int .i64 p1_v] h14 (rt (fun v15 h16 =>
  v15 = .tuple ⟨[]⟩ ∧
  R (.ret (.tuple ⟨[.int .i64 x13, .int .i64 0]⟩)) h16) (fun v17 h18 => R (.pan v17) h18)))) (fun v19 h20 => R (.pan v19) h20))
theorem E_links_Forest_Cut {p0_f : Value} {p1_v : Int} {R : Res → H → Prop} {h : H} (H0 : B_links_Forest_Cut p0_f p1_v R h) : T Try.prog F.links_Forest_Cut [p0_f, .int .i64 p1_v] h R :=
  T_intro A_links_Forest_Cut Try.func18 (c := bodyOf Try.f18) (by kernel_rfl) (by kernel_rfl) (by kernel_rfl) (cast_of (by kernel_rfl) H0)

/-! ### (compass/links.Forest).Link -/
def A_links_Forest_Link : An := ⟨lkA [(0, rng 1), (1, rng 11), (2, rng 1), (3, rng 4), (4, rng 1), (5, rng 6), (6, rng 1), (7, rng 6), (8, rng 1), (9, rng 3), (10, rng 9), (11, rng 3), (12, rng 9), (13, rng 1)], lkL [], lkC []⟩
def B_links_Forest_Link (p0_f : Value) (p1_v : Int) (p2_w : Int) (p3_value : Int) (R : Res → H → Prop) (h : H) : Prop :=
  T Try.prog F.links_Forest_node [p0_f, .int .i64 p1_v] h (rt (fun v1 h2 =>
  ∃ r3, v1 = .bool r3 ∧
  ifP (!r3) (R (.ret (.int .i64 30)) h2) (T Try.prog F.links_Forest_node [p0_f, .int .i64 p2_w] h2 (rt (fun v4 h5 =>
  ∃ r6, v4 = .bool r6 ∧
  ifP (!r6) (R (.ret (.int .i64 30)) h5)
  (T Try.prog F.links_label [.int .i64 p3_value] h5 (rt (fun v7 h8 =>
  ∃ r9, v7 = .bool r9 ∧
  ifP (!r9) (R (.ret (.int .i64 31)) h8)
  (T Try.prog F.links_Forest_root [p0_f, .int .i64 p1_v] h8 (rt (fun v10 h11 =>
  ∃ r12, v10 = .int .i64 r12 ∧
  ifP (!decide (r12 = p1_v)) (R (.ret (.int .i64 70)) h11)
  (T Try.prog F.links_Forest_root [p0_f, .int .i64 p2_w] h11 (rt (fun v13 h14 =>
  ∃ r15, v13 = .int .i64 r15 ∧
  ifP (decide (r15 = p1_v)) (R (.ret (.int .i64 71)) h14)
  (T Try.prog F.links_Forest_access [p0_f, .int .i64 p1_v] h14 (rt (fun v16 h17 =>
  v16 = .tuple ⟨[]⟩ ∧
  ptrP p0_f fun a18 =>
  ldV h17 (a18.add 0) fun x19 =>
  ixS x19 p1_v 6 fun a20 =>
  stC h17 (a20.add 3) (.int .i64 p3_value) fun h21 =>
  T Try.prog F.links_Forest_pull [p0_f, .int .i64 p1_v] h21 (rt (fun v22 h23 =>
  v22 = .tuple ⟨[]⟩ ∧
  ptrP p0_f fun a24 =>
  ldV h23 (a24.add 0) fun x25 =>
  ixS x25 p1_v 6 fun a26 =>
  stC h23 (a26.add 2) (.int .i64 p2_w) fun h27 =>
  R (.ret (.int .i64 0)) h27) (fun v28 h29 => R (.pan v28) h29))) (fun v30 h31 => R (.pan v30) h31)))) (fun v32 h33 => R (.pan v32) h33)))) (fun v34 h35 => R (.pan v34) h35)))) (fun v36 h37 => R (.pan v36) h37)))) (fun v38 h39 => R (.pan v38) h39)))) (fun v40 h41 => R (.pan v40) h41))
theorem E_links_Forest_Link {p0_f : Value} {p1_v : Int} {p2_w : Int} {p3_value : Int} {R : Res → H → Prop} {h : H} (H0 : B_links_Forest_Link p0_f p1_v p2_w p3_value R h) : T Try.prog F.links_Forest_Link [p0_f, .int .i64 p1_v, .int .i64 p2_w, .int .i64 p3_value] h R :=
  T_intro A_links_Forest_Link Try.func19 (c := bodyOf Try.f19) (by kernel_rfl) (by kernel_rfl) (by kernel_rfl) (cast_of (by kernel_rfl) H0)

/-! ### (compass/links.Forest).node -/
def A_links_Forest_node : An := ⟨lkA [(0, rng 1), (1, rng 12)], lkL [], lkC []⟩
def B_links_Forest_node (p0_f : Value) (p1_v : Int) (R : Res → H → Prop) (h : H) : Prop :=
  ifP (decide (0 ≤ p1_v)) (ptrP p0_f fun a1 =>
  ldV h (a1.add 0) fun x2 =>
  slcP x2 fun a3 l4 c5 =>
  R (.ret (.bool (decide (p1_v < ((l4 : Nat) : Int))))) h) (R (.ret (.bool false)) h)
theorem E_links_Forest_node {p0_f : Value} {p1_v : Int} {R : Res → H → Prop} {h : H} (H0 : B_links_Forest_node p0_f p1_v R h) : T Try.prog F.links_Forest_node [p0_f, .int .i64 p1_v] h R :=
  T_intro A_links_Forest_node Try.func20 (c := bodyOf Try.f20) (by kernel_rfl) (by kernel_rfl) (by kernel_rfl) (cast_of (by kernel_rfl) H0)

/-! ### (compass/links.Forest).root -/
def A_links_Forest_root : An := ⟨lkA [(0, rng 1), (1, rng 3), (2, rng 3), (3, rng 9), (4, rng 9), (5, rng 3), (6, rng 2)], lkL [(2, [(1, .int .i64)])], lkC []⟩
def B_links_Forest_root (p0_f : Value) (p1_v : Int) (R : Res → H → Prop) (h : H) : Prop :=
  T Try.prog F.links_Forest_access [p0_f, .int .i64 p1_v] h (rt (fun v1 h2 =>
  v1 = .tuple ⟨[]⟩ ∧
  ∃ (I3 : (Int × Unit) → H → Prop) (r4 : (Int × Unit) × H → (Int × Unit) × H → Prop), WellFounded r4 ∧ I3 (p1_v, ()) h2 ∧
  ∀ (v_6 : Int) (h5 : H), I3 (v_6, ()) h5 →
  T Try.prog F.links_Forest_push [p0_f, .int .i64 v_6] h5 (rt (fun v7 h8 =>
  v7 = .tuple ⟨[]⟩ ∧
  ptrP p0_f fun a9 =>
  ldV h8 (a9.add 0) fun x10 =>
  ixS x10 v_6 6 fun a11 =>
  ldI h8 (a11.add 0) .i64 fun x12 =>
  ifP (decide (x12 < 0)) (T Try.prog F.links_Forest_splay [p0_f, .int .i64 v_6] h8 (rt (fun v13 h14 =>
  v13 = .tuple ⟨[]⟩ ∧
  R (.ret (.int .i64 v_6)) h14) (fun v15 h16 => R (.pan v15) h16)))
  (ptrP p0_f fun a17 =>
  ldV h8 (a17.add 0) fun x18 =>
  ixS x18 v_6 6 fun a19 =>
  ldI h8 (a19.add 0) .i64 fun x20 =>
  I3 (x20, ()) h8 ∧ r4 ((x20, ()), h8) ((v_6, ()), h5))) (fun v21 h22 => R (.pan v21) h22))) (fun v23 h24 => R (.pan v23) h24))
theorem E_links_Forest_root {p0_f : Value} {p1_v : Int} {R : Res → H → Prop} {h : H} (H0 : B_links_Forest_root p0_f p1_v R h) : T Try.prog F.links_Forest_root [p0_f, .int .i64 p1_v] h R :=
  T_intro A_links_Forest_root Try.func21 (c := bodyOf Try.f21) (by kernel_rfl) (by kernel_rfl) (by kernel_rfl) (cast_of (by kernel_rfl) H0)

/-! ### (compass/links.Forest).child -/
def A_links_Forest_child : An := ⟨lkA [(0, rng 1), (1, rng 5), (2, rng 1), (3, rng 6), (4, rng 1), (5, rng 3), (6, rng 1)], lkL [], lkC []⟩
def B_links_Forest_child (p0_f : Value) (p1_v : Int) (R : Res → H → Prop) (h : H) : Prop :=
  T Try.prog F.links_Forest_node [p0_f, .int .i64 p1_v] h (rt (fun v1 h2 =>
  ∃ r3, v1 = .bool r3 ∧
  ifP (!r3) (R (.ret (.int .i64 30)) h2)
  (T Try.prog F.links_Forest_root [p0_f, .int .i64 p1_v] h2 (rt (fun v4 h5 =>
  ∃ r6, v4 = .int .i64 r6 ∧
  ifP (decide (r6 = p1_v)) (R (.ret (.int .i64 70)) h5)
  (T Try.prog F.links_Forest_access [p0_f, .int .i64 p1_v] h5 (rt (fun v7 h8 =>
  v7 = .tuple ⟨[]⟩ ∧
  R (.ret (.int .i64 0)) h8) (fun v9 h10 => R (.pan v9) h10)))) (fun v11 h12 => R (.pan v11) h12)))) (fun v13 h14 => R (.pan v13) h14))
theorem E_links_Forest_child {p0_f : Value} {p1_v : Int} {R : Res → H → Prop} {h : H} (H0 : B_links_Forest_child p0_f p1_v R h) : T Try.prog F.links_Forest_child [p0_f, .int .i64 p1_v] h R :=
  T_intro A_links_Forest_child Try.func22 (c := bodyOf Try.f22) (by kernel_rfl) (by kernel_rfl) (by kernel_rfl) (cast_of (by kernel_rfl) H0)

/-! ### (compass/links.Forest).push -/
def A_links_Forest_push : An := ⟨lkA [(0, rng 7), (1, ⟨[0, 1, 2, 3, 5, 6, 7, 4, 8, 9], lkN []⟩), (2, ⟨[0, 1, 2, 3, 5, 6, 7, 4, 8, 9], lkN []⟩), (3, rng 4)], lkL [], lkC []⟩
def B_links_Forest_push (p0_f : Value) (p1_v : Int) (R : Res → H → Prop) (h : H) : Prop :=
  ptrP p0_f fun a1 =>
  ldV h (a1.add 0) fun x2 =>
  ixS x2 p1_v 6 fun a3 =>
  ldI h (a3.add 0) .i64 fun x4 =>
  ldI h (a3.add 5) .i64 fun x5 =>
  T Try.prog F.links_Forest_raise [p0_f, .int .i64 x4, .int .i64 x5] h (rt (fun v6 h7 =>
  v6 = .tuple ⟨[]⟩ ∧
  ldI h7 (a3.add 1) .i64 fun x8 =>
  ldI h7 (a3.add 5) .i64 fun x9 =>
  T Try.prog F.links_Forest_raise [p0_f, .int .i64 x8, .int .i64 x9] h7 (rt (fun v10 h11 =>
  v10 = .tuple ⟨[]⟩ ∧
  stC h11 (a3.add 5) (.int .i64 0) fun h12 =>
  R (.ret (.tuple ⟨[]⟩)) h12) (fun v13 h14 => R (.pan v13) h14))) (fun v15 h16 => R (.pan v15) h16))
theorem E_links_Forest_push {p0_f : Value} {p1_v : Int} {R : Res → H → Prop} {h : H} (H0 : B_links_Forest_push p0_f p1_v R h) : T Try.prog F.links_Forest_push [p0_f, .int .i64 p1_v] h R :=
  T_intro A_links_Forest_push Try.func23 (c := bodyOf Try.f23) (by kernel_rfl) (by kernel_rfl) (by kernel_rfl) (cast_of (by kernel_rfl) H0)

/-! ### (compass/links.Forest).splay -/
def A_links_Forest_splay : An := ⟨lkA [(0, rng 3), (1, rng 2), (2, rng 4), (3, rng 9), (4, rng 5), (5, rng 4), (6, rng 2), (7, rng 3), (8, rng 6), (9, rng 4), (10, rng 9), (11, rng 4), (12, rng 9), (13, ⟨[0, 1, 2, 4, 8, 10, 11, 12, 14, 18, 3, 5, 6, 7, 9, 13, 15, 16, 17, 19, 20], lkN []⟩), (14, rng 3), (15, rng 3), (16, rng 3)], lkL [(2, [(4, .val), (5, .int .i64)]), (6, [(6, .int .i64)]), (9, [])], lkC []⟩
def B_links_Forest_splay (p0_f : Value) (p1_v : Int) (R : Res → H → Prop) (h : H) : Prop :=
  newP h (.cells ⟨[.int .i64 p1_v]⟩ 3 (0, 0)) fun b1 h2 =>
  ∃ (I3 : (Value × Int × Unit) → H → Prop) (r4 : (Value × Int × Unit) × H → (Value × Int × Unit) × H → Prop), WellFounded r4 ∧ I3 ((.slice (some (bk b1)) 1 1 : Value), p1_v, ()) h2 ∧
  ∀ (path_6 : Value) (u_7 : Int) (h5 : H), I3 (path_6, u_7, ()) h5 →
  T Try.prog F.links_Forest_top [p0_f, .int .i64 u_7] h5 (rt (fun v8 h9 =>
  ∃ r10, v8 = .bool r10 ∧
  ifP (!r10) (ptrP p0_f fun a11 =>
  ldV h9 (a11.add 0) fun x12 =>
  ixS x12 u_7 6 fun a13 =>
  ldI h9 (a13.add 2) .i64 fun x14 =>
  newP h9 (.cells ⟨[.int .i64 x14]⟩ 3 (0, 0)) fun b15 h16 =>
  apP path_6 (.slice (some (bk b15)) 1 1) h16 1 3 8 [.int .i64 0] fun s17 h18 =>
  I3 (s17, x14, ()) h18 ∧ r4 ((s17, x14, ()), h18) ((path_6, u_7, ()), h5))
  (slcP path_6 fun a19 l20 c21 =>
  ∃ (I22 : (Int × Unit) → H → Prop) (r23 : (Int × Unit) × H → (Int × Unit) × H → Prop), WellFounded r23 ∧ I22 ((IntKind.i64.wrap (((l20 : Nat) : Int) - 1)), ()) h9 ∧
  ∀ (i_25 : Int) (h24 : H), I22 (i_25, ()) h24 →
  ifP (decide (0 ≤ i_25)) (ixS path_6 i_25 1 fun a26 =>
  ldI h24 a26 .i64 fun x27 =>
  T Try.prog F.links_Forest_push [p0_f, .int .i64 x27] h24 (rt (fun v28 h29 =>
  v28 = .tuple ⟨[]⟩ ∧
  I22 ((IntKind.i64.wrap (i_25 - 1)), ()) h29 ∧ r23 (((IntKind.i64.wrap (i_25 - 1)), ()), h29) ((i_25, ()), h24)) (fun v30 h31 => R (.pan v30) h31)))
  (∃ (I32 : (Unit) → H → Prop) (r33 : (Unit) × H → (Unit) × H → Prop), WellFounded r33 ∧ I32 (()) h24 ∧
  ∀  (h34 : H), I32 (()) h34 →
  T Try.prog F.links_Forest_top [p0_f, .int .i64 p1_v] h34 (rt (fun v35 h36 =>
  ∃ r37, v35 = .bool r37 ∧
  ifP (!r37) (ptrP p0_f fun a38 =>
  ldV h36 (a38.add 0) fun x39 =>
  ixS x39 p1_v 6 fun a40 =>
  ldI h36 (a40.add 2) .i64 fun x41 =>
  T Try.prog F.links_Forest_top [p0_f, .int .i64 x41] h36 (rt (fun v42 h43 =>
  ∃ r44, v42 = .bool r44 ∧
  ifP (!r44) (ptrP p0_f fun a45 =>
  ldV h43 (a45.add 0) fun x46 =>
  ixS x46 x41 6 fun a47 =>
  ldI h43 (a47.add 2) .i64 fun x48 =>
  ptrP p0_f fun a49 =>
  ptrP p0_f fun a50 =>
  ldV h43 (a49.add 0) fun x51 =>
  ixS x51 x41 6 fun a52 =>
  ldI h43 (a52.add 0) .i64 fun x53 =>
  ldV h43 (a50.add 0) fun x54 =>
  ixS x54 x48 6 fun a55 =>
  ldI h43 (a55.add 0) .i64 fun x56 =>
  ifP ((decide (x53 = p1_v)) == (decide (x56 = x41))) (T Try.prog F.links_Forest_rotate [p0_f, .int .i64 x41] h43 (rt (fun v57 h58 =>
  v57 = .tuple ⟨[]⟩ ∧
  T Try.prog F.links_Forest_rotate [p0_f, .int .i64 p1_v] h58 (rt (fun v59 h60 =>
  v59 = .tuple ⟨[]⟩ ∧
  I32 (()) h60 ∧ r33 ((()), h60) ((()), h34)) (fun v61 h62 => R (.pan v61) h62))) (fun v63 h64 => R (.pan v63) h64)))
  (T Try.prog F.links_Forest_rotate [p0_f, .int .i64 p1_v] h43 (rt (fun v65 h66 =>
  v65 = .tuple ⟨[]⟩ ∧
  T Try.prog F.links_Forest_rotate [p0_f, .int .i64 p1_v] h66 (rt (fun v67 h68 =>
  v67 = .tuple ⟨[]⟩ ∧
  I32 (()) h68 ∧ r33 ((()), h68) ((()), h34)) (fun v69 h70 => R (.pan v69) h70))) (fun v71 h72 => R (.pan v71) h72))))
  (T Try.prog F.links_Forest_rotate [p0_f, .int .i64 p1_v] h43 (rt (fun v73 h74 =>
  v73 = .tuple ⟨[]⟩ ∧
  I32 (()) h74 ∧ r33 ((()), h74) ((()), h34)) (fun v75 h76 => R (.pan v75) h76)))) (fun v77 h78 => R (.pan v77) h78)))
  (R (.ret (.tuple ⟨[]⟩)) h36)) (fun v79 h80 => R (.pan v79) h80))))) (fun v81 h82 => R (.pan v81) h82))
theorem E_links_Forest_splay {p0_f : Value} {p1_v : Int} {R : Res → H → Prop} {h : H} (H0 : B_links_Forest_splay p0_f p1_v R h) : T Try.prog F.links_Forest_splay [p0_f, .int .i64 p1_v] h R :=
  T_intro A_links_Forest_splay Try.func24 (c := bodyOf Try.f24) (by kernel_rfl) (by kernel_rfl) (by kernel_rfl) (cast_of (by kernel_rfl) H0)

/-! ### compass/links.label -/
def A_links_label : An := ⟨lkA [(0, rng 1), (1, rng 7)], lkL [], lkC []⟩
def B_links_label (p0_x : Int) (R : Res → H → Prop) (h : H) : Prop :=
  ifP (decide ((-1048576) ≤ p0_x)) (R (.ret (.bool (decide (p0_x ≤ 1048576)))) h) (R (.ret (.bool false)) h)
theorem E_links_label {p0_x : Int} {R : Res → H → Prop} {h : H} (H0 : B_links_label p0_x R h) : T Try.prog F.links_label [.int .i64 p0_x] h R :=
  T_intro A_links_label Try.func25 (c := bodyOf Try.f25) (by kernel_rfl) (by kernel_rfl) (by kernel_rfl) (cast_of (by kernel_rfl) H0)

/-! ### (compass/links.Forest).raise -/
def A_links_Forest_raise : An := ⟨lkA [(0, rng 2), (1, rng 7), (2, rng 9), (3, rng 9), (4, rng 9)], lkL [], lkC []⟩
def B_links_Forest_raise (p0_f : Value) (p1_v : Int) (p2_x : Int) (R : Res → H → Prop) (h : H) : Prop :=
  ifP (decide (0 ≤ p1_v)) (ptrP p0_f fun a1 =>
  ldV h (a1.add 0) fun x2 =>
  ixS x2 p1_v 6 fun a3 =>
  ldI h (a3.add 3) .i64 fun x4 =>
  stC h (a3.add 3) (.int .i64 (IntKind.i64.wrap (x4 + p2_x))) fun h5 =>
  ldI h5 (a3.add 4) .i64 fun x6 =>
  stC h5 (a3.add 4) (.int .i64 (IntKind.i64.wrap (x6 + p2_x))) fun h7 =>
  ldI h7 (a3.add 5) .i64 fun x8 =>
  stC h7 (a3.add 5) (.int .i64 (IntKind.i64.wrap (x8 + p2_x))) fun h9 =>
  R (.ret (.tuple ⟨[]⟩)) h9)
  (R (.ret (.tuple ⟨[]⟩)) h)
theorem E_links_Forest_raise {p0_f : Value} {p1_v : Int} {p2_x : Int} {R : Res → H → Prop} {h : H} (H0 : B_links_Forest_raise p0_f p1_v p2_x R h) : T Try.prog F.links_Forest_raise [p0_f, .int .i64 p1_v, .int .i64 p2_x] h R :=
  T_intro A_links_Forest_raise Try.func26 (c := bodyOf Try.f26) (by kernel_rfl) (by kernel_rfl) (by kernel_rfl) (cast_of (by kernel_rfl) H0)

/-! ### (compass/links.Forest).pull -/
def A_links_Forest_pull : An := ⟨lkA [(0, rng 7), (1, rng 8), (2, ⟨[0, 1, 2, 4, 5, 6, 9, 3, 7, 8], lkN []⟩), (3, rng 1), (4, rng 2), (5, rng 2), (6, ⟨[0, 1, 2, 3, 5, 6, 7, 9, 4, 8, 10, 11, 12, 13, 14, 15, 16], lkN []⟩), (7, rng 2)], lkL [(3, [(29, .int .i64)])], lkC []⟩
def B_links_Forest_pull (p0_f : Value) (p1_v : Int) (R : Res → H → Prop) (h : H) : Prop :=
  ptrP p0_f fun a1 =>
  ldV h (a1.add 0) fun x2 =>
  ixS x2 p1_v 6 fun a3 =>
  ldI h (a3.add 3) .i64 fun x4 =>
  stC h (a3.add 4) (.int .i64 x4) fun h5 =>
  ldI h5 (a3.add 0) .i64 fun x6 =>
  ldI h5 (a3.add 1) .i64 fun x7 =>
  ∃ (I8 : (Int × Unit) → H → Prop) (r9 : (Int × Unit) × H → (Int × Unit) × H → Prop), WellFounded r9 ∧ I8 (0, ()) h5 ∧
  ∀ (s11 : Int) (h10 : H), I8 (s11, ()) h10 →
  ifP (decide (s11 < 2)) (0 ≤ s11 ∧ s11 < ((2 : Nat) : Int) ∧
  ptI [.int .i64 x6, .int .i64 x7] (s11.toNat * 1) .i64 fun x12 =>
  ifP (decide (0 ≤ x12)) (ptrP p0_f fun a13 =>
  ldI h10 (a3.add 4) .i64 fun x14 =>
  ldV h10 (a13.add 0) fun x15 =>
  ixS x15 x12 6 fun a16 =>
  ldI h10 (a16.add 4) .i64 fun x17 =>
  stC h10 (a3.add 4) (.int .i64 (if x17 < x14 then x17 else x14)) fun h18 =>
  I8 ((IntKind.i64.wrap (s11 + 1)), ()) h18 ∧ r9 (((IntKind.i64.wrap (s11 + 1)), ()), h18) ((s11, ()), h10))
  (I8 ((IntKind.i64.wrap (s11 + 1)), ()) h10 ∧ r9 (((IntKind.i64.wrap (s11 + 1)), ()), h10) ((s11, ()), h10)))
  (R (.ret (.tuple ⟨[]⟩)) h10)
theorem E_links_Forest_pull {p0_f : Value} {p1_v : Int} {R : Res → H → Prop} {h : H} (H0 : B_links_Forest_pull p0_f p1_v R h) : T Try.prog F.links_Forest_pull [p0_f, .int .i64 p1_v] h R :=
  T_intro A_links_Forest_pull Try.func27 (c := bodyOf Try.f27) (by kernel_rfl) (by kernel_rfl) (by kernel_rfl) (cast_of (by kernel_rfl) H0)

/-! ### compass/compassref07.Link -/
def A_compassref07_Link : An := ⟨lkA [(0, rng 3), (1, rng 10), (2, rng 3), (3, rng 6), (4, rng 3), (5, rng 6), (6, rng 3), (7, rng 8), (8, rng 3), (9, rng 3), (10, rng 4), (11, rng 6), (12, rng 6), (13, rng 3)], lkL [], lkC []⟩
def B_compassref07_Link (p0_f : List Value) (p1_v : Int) (p2_w : Int) (p3_value : Int) (R : Res → H → Prop) (h : H) : Prop :=
  newP h (.cells ⟨p0_f⟩ 42 (0, 0)) fun b1 h2 =>
  newP h2 (.cells ⟨[.slice none 0 0, .slice none 0 0]⟩ 42 (0, 0)) fun b3 h4 =>
  ldN h4 (bk b1) 2 fun x5 =>
  T Try.prog F.compassref07_node [.agg ⟨x5⟩, .int .i64 p1_v] h4 (rt (fun v6 h7 =>
  ∃ r8, v6 = .bool r8 ∧
  ifP (!r8) (ldN h7 (bk b1) 2 fun x9 =>
  stN h7 (bk b3) x9 2 fun h10 =>
  ldN h10 (bk b3) 2 fun x11 =>
  R (.ret (.tuple ⟨[.agg ⟨x11⟩, .int .i64 30]⟩)) h10) (ldN h7 (bk b1) 2 fun x12 =>
  T Try.prog F.compassref07_node [.agg ⟨x12⟩, .int .i64 p2_w] h7 (rt (fun v13 h14 =>
  ∃ r15, v13 = .bool r15 ∧
  ifP (!r15) (ldN h14 (bk b1) 2 fun x16 =>
  stN h14 (bk b3) x16 2 fun h17 =>
  ldN h17 (bk b3) 2 fun x18 =>
  R (.ret (.tuple ⟨[.agg ⟨x18⟩, .int .i64 30]⟩)) h17)
  (ifP (decide (p3_value < (-1048576))) (ldN h14 (bk b1) 2 fun x19 =>
  stN h14 (bk b3) x19 2 fun h20 =>
  ldN h20 (bk b3) 2 fun x21 =>
  R (.ret (.tuple ⟨[.agg ⟨x21⟩, .int .i64 31]⟩)) h20) (ifP (decide (1048576 < p3_value)) (ldN h14 (bk b1) 2 fun x22 =>
  stN h14 (bk b3) x22 2 fun h23 =>
  ldN h23 (bk b3) 2 fun x24 =>
  R (.ret (.tuple ⟨[.agg ⟨x24⟩, .int .i64 31]⟩)) h23)
  (ldV h14 ((bk b1).add 0) fun x25 =>
  ixS x25 p1_v 1 fun a26 =>
  ldI h14 a26 .i64 fun x27 =>
  ifP (decide (0 ≤ x27)) (ldN h14 (bk b1) 2 fun x28 =>
  stN h14 (bk b3) x28 2 fun h29 =>
  ldN h29 (bk b3) 2 fun x30 =>
  R (.ret (.tuple ⟨[.agg ⟨x30⟩, .int .i64 70]⟩)) h29)
  (ldN h14 (bk b1) 2 fun x31 =>
  T Try.prog F.compassref07_Root [.agg ⟨x31⟩, .int .i64 p2_w] h14 (rt (fun v32 h33 =>
  ∃ r34 : Int, ∃ r35 : Int, v32 = .tuple ⟨[.int .i64 r34, .int .i64 r35]⟩ ∧
  ifP (decide (r34 = p1_v)) (ldN h33 (bk b1) 2 fun x36 =>
  stN h33 (bk b3) x36 2 fun h37 =>
  ldN h37 (bk b3) 2 fun x38 =>
  R (.ret (.tuple ⟨[.agg ⟨x38⟩, .int .i64 71]⟩)) h37)
  (ldN h33 (bk b1) 2 fun x39 =>
  T Try.prog F.compassref07_Copy [.agg ⟨x39⟩] h33 (rt (fun v40 h41 =>
  ∃ r42 : List Value, r42.length = 2 ∧ v40 = .agg ⟨r42⟩ ∧
  newP h41 (.cells ⟨[.slice none 0 0, .slice none 0 0]⟩ 42 (0, 0)) fun b43 h44 =>
  stN h44 (bk b43) r42 2 fun h45 =>
  ldV h45 ((bk b43).add 0) fun x46 =>
  ixS x46 p1_v 1 fun a47 =>
  stC h45 a47 (.int .i64 p2_w) fun h48 =>
  ldV h48 ((bk b43).add 1) fun x49 =>
  ixS x49 p1_v 1 fun a50 =>
  stC h48 a50 (.int .i64 p3_value) fun h51 =>
  ldN h51 (bk b43) 2 fun x52 =>
  stN h51 (bk b3) x52 2 fun h53 =>
  ldN h53 (bk b3) 2 fun x54 =>
  R (.ret (.tuple ⟨[.agg ⟨x54⟩, .int .i64 0]⟩)) h53) (fun v55 h56 => R (.pan v55) h56)))) (fun v57 h58 => R (.pan v57) h58))))))) (fun v59 h60 => R (.pan v59) h60)))) (fun v61 h62 => R (.pan v61) h62))
theorem E_compassref07_Link {p0_f : List Value} {p1_v : Int} {p2_w : Int} {p3_value : Int} {R : Res → H → Prop} {h : H} (H0 : B_compassref07_Link p0_f p1_v p2_w p3_value R h) : T Try.prog F.compassref07_Link [.agg ⟨p0_f⟩, .int .i64 p1_v, .int .i64 p2_w, .int .i64 p3_value] h R :=
  T_intro A_compassref07_Link Try.func28 (c := bodyOf Try.f28) (by kernel_rfl) (by kernel_rfl) (by kernel_rfl) (cast_of (by kernel_rfl) H0)

/-! ### compass/compassref07.Cut -/
def A_compassref07_Cut : An := ⟨lkA [(0, rng 4), (1, rng 4), (2, rng 2), (3, rng 5), (4, rng 4), (5, rng 5), (6, rng 5), (7, ⟨[1, 3, 0, 2, 4, 5, 6, 7, 8], lkN [(6, [2, 5])]⟩)], lkL [], lkC []⟩
def B_compassref07_Cut (p0_f : List Value) (p1_v : Int) (R : Res → H → Prop) (h : H) : Prop :=
  newP h (.cells ⟨p0_f⟩ 42 (0, 0)) fun b1 h2 =>
  newP h2 (.cells ⟨[.slice none 0 0, .slice none 0 0]⟩ 42 (0, 0)) fun b3 h4 =>
  ldN h4 (bk b1) 2 fun x5 =>
  T Try.prog F.compassref07_Child [.agg ⟨x5⟩, .int .i64 p1_v] h4 (rt (fun v6 h7 =>
  ∃ r8, v6 = .int .i64 r8 ∧
  ifP (!decide (r8 = 0)) (ldN h7 (bk b1) 2 fun x9 =>
  stN h7 (bk b3) x9 2 fun h10 =>
  ldN h10 (bk b3) 2 fun x11 =>
  R (.ret (.tuple ⟨[.agg ⟨x11⟩, .int .i64 0, .int .i64 r8]⟩)) h10)
  (ldN h7 (bk b1) 2 fun x12 =>
  T Try.prog F.compassref07_Copy [.agg ⟨x12⟩] h7 (rt (fun v13 h14 =>
  ∃ r15 : List Value, r15.length = 2 ∧ v13 = .agg ⟨r15⟩ ∧
  newP h14 (.cells ⟨[.slice none 0 0, .slice none 0 0]⟩ 42 (0, 0)) fun b16 h17 =>
  stN h17 (bk b16) r15 2 fun h18 =>
  ldV h18 ((bk b16).add 0) fun x19 =>
  ixS x19 p1_v 1 fun a20 =>
  stC h18 a20 (.int .i64 (-1)) fun h21 =>
  ldV h21 ((bk b16).add 1) fun x22 =>
  ixS x22 p1_v 1 fun a23 =>
  stC h21 a23 (.int .i64 0) fun h24 =>
  ldN h24 (bk b16) 2 fun x25 =>
  ldV h24 ((bk b1).add 1) fun x26 =>
  ixS x26 p1_v 1 fun a27 =>
  ldI h24 a27 .i64 fun x28 =>
  stN h24 (bk b3) x25 2 fun h29 =>
  (sameAt 2 a27 h24 h29) ∧
  (sameAt 2 ((bk b1).add 1) h24 h29) ∧
  ldN h29 (bk b3) 2 fun x30 =>
  R (.ret (.tuple ⟨[.agg ⟨x30⟩, .int .i64 x28, .int .i64 0]⟩)) h29) (fun v31 h32 => R (.pan v31) h32)))) (fun v33 h34 => R (.pan v33) h34))
theorem E_compassref07_Cut {p0_f : List Value} {p1_v : Int} {R : Res → H → Prop} {h : H} (H0 : B_compassref07_Cut p0_f p1_v R h) : T Try.prog F.compassref07_Cut [.agg ⟨p0_f⟩, .int .i64 p1_v] h R :=
  T_intro A_compassref07_Cut Try.func29 (c := bodyOf Try.f29) (by kernel_rfl) (by kernel_rfl) (by kernel_rfl) (cast_of (by kernel_rfl) H0)

/-! ### compass/compassref07.Root -/
def A_compassref07_Root : An := ⟨lkA [(0, rng 3), (1, rng 4), (2, rng 2), (3, rng 4), (4, rng 8)], lkL [], lkC []⟩
def B_compassref07_Root (p0_f : List Value) (p1_v : Int) (R : Res → H → Prop) (h : H) : Prop :=
  newP h (.cells ⟨p0_f⟩ 42 (0, 0)) fun b1 h2 =>
  ldN h2 (bk b1) 2 fun x3 =>
  T Try.prog F.compassref07_node [.agg ⟨x3⟩, .int .i64 p1_v] h2 (rt (fun v4 h5 =>
  ∃ r6, v4 = .bool r6 ∧
  ifP (!r6) (R (.ret (.tuple ⟨[.int .i64 0, .int .i64 30]⟩)) h5)
  (ldN h5 (bk b1) 2 fun x7 =>
  T Try.prog F.compassref07_Way [.agg ⟨x7⟩, .int .i64 p1_v] h5 (rt (fun v8 h9 =>
  slcP v8 fun a10 l11 c12 =>
  ixS v8 (IntKind.i64.wrap (((l11 : Nat) : Int) - 1)) 1 fun a13 =>
  ldI h9 a13 .i64 fun x14 =>
  R (.ret (.tuple ⟨[.int .i64 x14, .int .i64 0]⟩)) h9) (fun v15 h16 => R (.pan v15) h16)))) (fun v17 h18 => R (.pan v17) h18))
theorem E_compassref07_Root {p0_f : List Value} {p1_v : Int} {R : Res → H → Prop} {h : H} (H0 : B_compassref07_Root p0_f p1_v R h) : T Try.prog F.compassref07_Root [.agg ⟨p0_f⟩, .int .i64 p1_v] h R :=
  T_intro A_compassref07_Root Try.func30 (c := bodyOf Try.f30) (by kernel_rfl) (by kernel_rfl) (by kernel_rfl) (cast_of (by kernel_rfl) H0)

/-! ### compass/compassref07.Least -/
def A_compassref07_Least : An := ⟨lkA [(0, rng 4), (1, rng 4), (2, rng 2), (3, rng 4), (4, rng 2), (5, rng 2), (6, rng 6), (7, rng 6), (8, ⟨[0, 2, 5, 7, 1, 3, 4, 6, 8, 9, 10], lkN []⟩), (9, rng 2), (10, ⟨[0, 1, 3, 6, 2, 4, 5, 7, 8], lkN []⟩)], lkL [(6, [(8, .int .i64), (9, .int .i64)])], lkC []⟩
def B_compassref07_Least (p0_f : List Value) (p1_v : Int) (R : Res → H → Prop) (h : H) : Prop :=
  newP h (.cells ⟨p0_f⟩ 42 (0, 0)) fun b1 h2 =>
  ldN h2 (bk b1) 2 fun x3 =>
  T Try.prog F.compassref07_Child [.agg ⟨x3⟩, .int .i64 p1_v] h2 (rt (fun v4 h5 =>
  ∃ r6, v4 = .int .i64 r6 ∧
  ifP (!decide (r6 = 0)) (R (.ret (.tuple ⟨[.int .i64 0, .int .i64 0, .int .i64 r6]⟩)) h5)
  (∃ (I7 : (Int × Int × Unit) → H → Prop) (r8 : (Int × Int × Unit) × H → (Int × Int × Unit) × H → Prop), WellFounded r8 ∧ I7 (p1_v, p1_v, ()) h5 ∧
  ∀ (best_10 : Int) (u_11 : Int) (h9 : H), I7 (best_10, u_11, ()) h9 →
  ldV h9 ((bk b1).add 0) fun x12 =>
  ixS x12 u_11 1 fun a13 =>
  ldI h9 a13 .i64 fun x14 =>
  ifP (decide (0 ≤ x14)) (ldV h9 ((bk b1).add 1) fun x15 =>
  ixS x15 u_11 1 fun a16 =>
  ldI h9 a16 .i64 fun x17 =>
  ldV h9 ((bk b1).add 1) fun x18 =>
  ixS x18 best_10 1 fun a19 =>
  ldI h9 a19 .i64 fun x20 =>
  ifP (decide (x17 ≤ x20)) (ldV h9 ((bk b1).add 0) fun x21 =>
  ixS x21 u_11 1 fun a22 =>
  ldI h9 a22 .i64 fun x23 =>
  I7 (u_11, x23, ()) h9 ∧ r8 ((u_11, x23, ()), h9) ((best_10, u_11, ()), h9))
  (ldV h9 ((bk b1).add 0) fun x24 =>
  ixS x24 u_11 1 fun a25 =>
  ldI h9 a25 .i64 fun x26 =>
  I7 (best_10, x26, ()) h9 ∧ r8 ((best_10, x26, ()), h9) ((best_10, u_11, ()), h9)))
  (ldV h9 ((bk b1).add 1) fun x27 =>
  ixS x27 best_10 1 fun a28 =>
  ldI h9 a28 .i64 fun x29 =>
  R (.ret (.tuple ⟨[.int .i64 best_10, .int .i64 x29, .int .i64 0]⟩)) h9))) (fun v30 h31 => R (.pan v30) h31))
theorem E_compassref07_Least {p0_f : List Value} {p1_v : Int} {R : Res → H → Prop} {h : H} (H0 : B_compassref07_Least p0_f p1_v R h) : T Try.prog F.compassref07_Least [.agg ⟨p0_f⟩, .int .i64 p1_v] h R :=
  T_intro A_compassref07_Least Try.func31 (c := bodyOf Try.f31) (by kernel_rfl) (by kernel_rfl) (by kernel_rfl) (cast_of (by kernel_rfl) H0)

/-! ### compass/compassref07.Add -/
def A_compassref07_Add : An := ⟨lkA [(0, rng 3), (1, rng 4), (2, rng 3), (3, rng 6), (4, rng 3), (5, rng 4), (6, rng 2), (7, rng 6), (8, rng 6), (9, rng 9), (10, rng 3)], lkL [(7, [(9, .int .i64)])], lkC []⟩
def B_compassref07_Add (p0_f : List Value) (p1_v : Int) (p2_x : Int) (R : Res → H → Prop) (h : H) : Prop :=
  newP h (.cells ⟨p0_f⟩ 42 (0, 0)) fun b1 h2 =>
  newP h2 (.cells ⟨[.slice none 0 0, .slice none 0 0]⟩ 42 (0, 0)) fun b3 h4 =>
  ldN h4 (bk b1) 2 fun x5 =>
  T Try.prog F.compassref07_node [.agg ⟨x5⟩, .int .i64 p1_v] h4 (rt (fun v6 h7 =>
  ∃ r8, v6 = .bool r8 ∧
  ifP (!r8) (ldN h7 (bk b1) 2 fun x9 =>
  stN h7 (bk b3) x9 2 fun h10 =>
  ldN h10 (bk b3) 2 fun x11 =>
  R (.ret (.tuple ⟨[.agg ⟨x11⟩, .int .i64 30]⟩)) h10)
  (ifP (decide (p2_x < (-1048576))) (ldN h7 (bk b1) 2 fun x12 =>
  stN h7 (bk b3) x12 2 fun h13 =>
  ldN h13 (bk b3) 2 fun x14 =>
  R (.ret (.tuple ⟨[.agg ⟨x14⟩, .int .i64 31]⟩)) h13) (ifP (decide (1048576 < p2_x)) (ldN h7 (bk b1) 2 fun x15 =>
  stN h7 (bk b3) x15 2 fun h16 =>
  ldN h16 (bk b3) 2 fun x17 =>
  R (.ret (.tuple ⟨[.agg ⟨x17⟩, .int .i64 31]⟩)) h16)
  (ldN h7 (bk b1) 2 fun x18 =>
  T Try.prog F.compassref07_Copy [.agg ⟨x18⟩] h7 (rt (fun v19 h20 =>
  ∃ r21 : List Value, r21.length = 2 ∧ v19 = .agg ⟨r21⟩ ∧
  newP h20 (.cells ⟨[.slice none 0 0, .slice none 0 0]⟩ 42 (0, 0)) fun b22 h23 =>
  stN h23 (bk b22) r21 2 fun h24 =>
  ∃ (I25 : (Int × Unit) → H → Prop) (r26 : (Int × Unit) × H → (Int × Unit) × H → Prop), WellFounded r26 ∧ I25 (p1_v, ()) h24 ∧
  ∀ (u_28 : Int) (h27 : H), I25 (u_28, ()) h27 →
  ldV h27 ((bk b1).add 0) fun x29 =>
  ixS x29 u_28 1 fun a30 =>
  ldI h27 a30 .i64 fun x31 =>
  ifP (decide (0 ≤ x31)) (ldV h27 ((bk b22).add 1) fun x32 =>
  ixS x32 u_28 1 fun a33 =>
  ldI h27 a33 .i64 fun x34 =>
  ixS x32 u_28 1 fun a35 =>
  stC h27 a35 (.int .i64 (IntKind.i64.wrap (x34 + p2_x))) fun h36 =>
  ldV h36 ((bk b1).add 0) fun x37 =>
  ixS x37 u_28 1 fun a38 =>
  ldI h36 a38 .i64 fun x39 =>
  I25 (x39, ()) h36 ∧ r26 ((x39, ()), h36) ((u_28, ()), h27))
  (ldN h27 (bk b22) 2 fun x40 =>
  stN h27 (bk b3) x40 2 fun h41 =>
  ldN h41 (bk b3) 2 fun x42 =>
  R (.ret (.tuple ⟨[.agg ⟨x42⟩, .int .i64 0]⟩)) h41)) (fun v43 h44 => R (.pan v43) h44)))))) (fun v45 h46 => R (.pan v45) h46))
theorem E_compassref07_Add {p0_f : List Value} {p1_v : Int} {p2_x : Int} {R : Res → H → Prop} {h : H} (H0 : B_compassref07_Add p0_f p1_v p2_x R h) : T Try.prog F.compassref07_Add [.agg ⟨p0_f⟩, .int .i64 p1_v, .int .i64 p2_x] h R :=
  T_intro A_compassref07_Add Try.func32 (c := bodyOf Try.f32) (by kernel_rfl) (by kernel_rfl) (by kernel_rfl) (cast_of (by kernel_rfl) H0)

/-! ### compass/compassref07.Child -/
def A_compassref07_Child : An := ⟨lkA [(0, rng 2), (1, rng 4), (2, rng 1), (3, rng 6), (4, rng 1), (5, rng 1)], lkL [], lkC []⟩
def B_compassref07_Child (p0_f : List Value) (p1_v : Int) (R : Res → H → Prop) (h : H) : Prop :=
  newP h (.cells ⟨p0_f⟩ 42 (0, 0)) fun b1 h2 =>
  ldN h2 (bk b1) 2 fun x3 =>
  T Try.prog F.compassref07_node [.agg ⟨x3⟩, .int .i64 p1_v] h2 (rt (fun v4 h5 =>
  ∃ r6, v4 = .bool r6 ∧
  ifP (!r6) (R (.ret (.int .i64 30)) h5)
  (ldV h5 ((bk b1).add 0) fun x7 =>
  ixS x7 p1_v 1 fun a8 =>
  ldI h5 a8 .i64 fun x9 =>
  ifP (decide (x9 < 0)) (R (.ret (.int .i64 70)) h5)
  (R (.ret (.int .i64 0)) h5))) (fun v10 h11 => R (.pan v10) h11))
theorem E_compassref07_Child {p0_f : List Value} {p1_v : Int} {R : Res → H → Prop} {h : H} (H0 : B_compassref07_Child p0_f p1_v R h) : T Try.prog F.compassref07_Child [.agg ⟨p0_f⟩, .int .i64 p1_v] h R :=
  T_intro A_compassref07_Child Try.func33 (c := bodyOf Try.f33) (by kernel_rfl) (by kernel_rfl) (by kernel_rfl) (cast_of (by kernel_rfl) H0)

/-! ### (compass/links.Forest).access -/
def A_links_Forest_access : An := ⟨lkA [(0, rng 1), (1, rng 2), (2, rng 2), (3, rng 9), (4, rng 3), (5, rng 9), (6, rng 3), (7, rng 2), (8, rng 3)], lkL [(2, [(4, .int .i64), (5, .int .i64)])], lkC []⟩
def B_links_Forest_access (p0_f : Value) (p1_v : Int) (R : Res → H → Prop) (h : H) : Prop :=
  ∃ (I1 : (Int × Int × Unit) → H → Prop) (r2 : (Int × Int × Unit) × H → (Int × Int × Unit) × H → Prop), WellFounded r2 ∧ I1 ((-1), p1_v, ()) h ∧
  ∀ (last_4 : Int) (u_5 : Int) (h3 : H), I1 (last_4, u_5, ()) h3 →
  ifP (decide (0 ≤ u_5)) (T Try.prog F.links_Forest_splay [p0_f, .int .i64 u_5] h3 (rt (fun v6 h7 =>
  v6 = .tuple ⟨[]⟩ ∧
  ptrP p0_f fun a8 =>
  ldV h7 (a8.add 0) fun x9 =>
  ixS x9 u_5 6 fun a10 =>
  stC h7 (a10.add 1) (.int .i64 last_4) fun h11 =>
  T Try.prog F.links_Forest_pull [p0_f, .int .i64 u_5] h11 (rt (fun v12 h13 =>
  v12 = .tuple ⟨[]⟩ ∧
  ptrP p0_f fun a14 =>
  ldV h13 (a14.add 0) fun x15 =>
  ixS x15 u_5 6 fun a16 =>
  ldI h13 (a16.add 2) .i64 fun x17 =>
  I1 (u_5, x17, ()) h13 ∧ r2 ((u_5, x17, ()), h13) ((last_4, u_5, ()), h3)) (fun v18 h19 => R (.pan v18) h19))) (fun v20 h21 => R (.pan v20) h21)))
  (T Try.prog F.links_Forest_splay [p0_f, .int .i64 p1_v] h3 (rt (fun v22 h23 =>
  v22 = .tuple ⟨[]⟩ ∧
  R (.ret (.tuple ⟨[]⟩)) h23) (fun v24 h25 => R (.pan v24) h25)))
theorem E_links_Forest_access {p0_f : Value} {p1_v : Int} {R : Res → H → Prop} {h : H} (H0 : B_links_Forest_access p0_f p1_v R h) : T Try.prog F.links_Forest_access [p0_f, .int .i64 p1_v] h R :=
  T_intro A_links_Forest_access Try.func34 (c := bodyOf Try.f34) (by kernel_rfl) (by kernel_rfl) (by kernel_rfl) (cast_of (by kernel_rfl) H0)

/-! ### (compass/links.Forest).top -/
def A_links_Forest_top : An := ⟨lkA [(0, rng 1), (1, rng 9), (2, rng 27)], lkL [], lkC []⟩
def B_links_Forest_top (p0_f : Value) (p1_v : Int) (R : Res → H → Prop) (h : H) : Prop :=
  ptrP p0_f fun a1 =>
  ldV h (a1.add 0) fun x2 =>
  ixS x2 p1_v 6 fun a3 =>
  ldI h (a3.add 2) .i64 fun x4 =>
  ifP (decide (x4 < 0)) (R (.ret (.bool true)) h) (ptrP p0_f fun a5 =>
  ldV h (a5.add 0) fun x6 =>
  ixS x6 x4 6 fun a7 =>
  ldI h (a7.add 0) .i64 fun x8 =>
  ifP (!decide (x8 = p1_v)) (ptrP p0_f fun a9 =>
  ldV h (a9.add 0) fun x10 =>
  ixS x10 x4 6 fun a11 =>
  ldI h (a11.add 1) .i64 fun x12 =>
  R (.ret (.bool (!decide (x12 = p1_v)))) h) (R (.ret (.bool false)) h))
theorem E_links_Forest_top {p0_f : Value} {p1_v : Int} {R : Res → H → Prop} {h : H} (H0 : B_links_Forest_top p0_f p1_v R h) : T Try.prog F.links_Forest_top [p0_f, .int .i64 p1_v] h R :=
  T_intro A_links_Forest_top Try.func35 (c := bodyOf Try.f35) (by kernel_rfl) (by kernel_rfl) (by kernel_rfl) (cast_of (by kernel_rfl) H0)

/-! ### (compass/links.Forest).rotate -/
def A_links_Forest_rotate : An := ⟨lkA [(0, rng 9), (1, ⟨[0, 1, 2, 4, 6, 7, 8, 10, 3, 5, 12, 9, 11, 13], lkN []⟩), (2, rng 4), (3, ⟨[0, 1, 2, 4, 5, 6, 3, 7, 8, 9], lkN []⟩), (4, rng 6), (5, rng 5), (6, rng 5), (7, rng 13), (8, rng 1), (9, rng 6), (10, ⟨[0, 1, 2, 3, 4, 6, 7, 8, 10, 5, 11, 9, 12, 13, 14, 15, 16, 17], lkN []⟩), (11, ⟨[0, 1, 2, 3, 4, 6, 7, 8, 10, 5, 11, 9, 12, 13, 14, 15, 16, 17], lkN []⟩), (12, rng 2), (13, rng 9), (14, rng 3), (15, rng 3)], lkL [], lkC [(7, []), (12, [(8, .int .i64)])]⟩
def B_links_Forest_rotate (p0_f : Value) (p1_v : Int) (R : Res → H → Prop) (h : H) : Prop :=
  ptrP p0_f fun a1 =>
  ldV h (a1.add 0) fun x2 =>
  ixS x2 p1_v 6 fun a3 =>
  ldI h (a3.add 2) .i64 fun x4 =>
  ptrP p0_f fun a5 =>
  ptrP p0_f fun a6 =>
  ldV h (a5.add 0) fun x7 =>
  ixS x7 p1_v 6 fun a8 =>
  ldV h (a6.add 0) fun x9 =>
  ixS x9 x4 6 fun a10 =>
  ∃ J11 : (Unit) → H → Prop, (T Try.prog F.links_Forest_top [p0_f, .int .i64 x4] h (rt (fun v13 h14 =>
  ∃ r15, v13 = .bool r15 ∧
  ifP (!r15) (ptrP p0_f fun a16 =>
  ldV h14 (a16.add 0) fun x17 =>
  ldI h14 (a10.add 2) .i64 fun x18 =>
  ixS x17 x18 6 fun a19 =>
  ldI h14 (a19.add 0) .i64 fun x20 =>
  ifP (decide (x20 = x4)) (stC h14 (a19.add 0) (.int .i64 p1_v) fun h21 =>
  J11 (()) h21)
  (stC h14 (a19.add 1) (.int .i64 p1_v) fun h22 =>
  J11 (()) h22))
  (J11 (()) h14)) (fun v23 h24 => R (.pan v23) h24))) ∧
  (∀  (h12 : H), J11 (()) h12 →
  ldI h12 (a10.add 2) .i64 fun x25 =>
  stC h12 (a8.add 2) (.int .i64 x25) fun h26 =>
  stC h26 (a10.add 2) (.int .i64 p1_v) fun h27 =>
  ∃ J28 : (Int × Unit) → H → Prop, (ldI h27 (a10.add 0) .i64 fun x31 =>
  ifP (decide (x31 = p1_v)) (ldI h27 (a8.add 1) .i64 fun x32 =>
  ldI h27 (a8.add 1) .i64 fun x33 =>
  stC h27 (a10.add 0) (.int .i64 x33) fun h34 =>
  stC h34 (a8.add 1) (.int .i64 x4) fun h35 =>
  J28 (x32, ()) h35)
  (ldI h27 (a8.add 0) .i64 fun x36 =>
  ldI h27 (a8.add 0) .i64 fun x37 =>
  stC h27 (a10.add 1) (.int .i64 x37) fun h38 =>
  stC h38 (a8.add 0) (.int .i64 x4) fun h39 =>
  J28 (x36, ()) h39)) ∧
  (∀ (inner_30 : Int) (h29 : H), J28 (inner_30, ()) h29 →
  ifP (decide (0 ≤ inner_30)) (ptrP p0_f fun a40 =>
  ldV h29 (a40.add 0) fun x41 =>
  ixS x41 inner_30 6 fun a42 =>
  stC h29 (a42.add 2) (.int .i64 x4) fun h43 =>
  T Try.prog F.links_Forest_pull [p0_f, .int .i64 x4] h43 (rt (fun v44 h45 =>
  v44 = .tuple ⟨[]⟩ ∧
  T Try.prog F.links_Forest_pull [p0_f, .int .i64 p1_v] h45 (rt (fun v46 h47 =>
  v46 = .tuple ⟨[]⟩ ∧
  R (.ret (.tuple ⟨[]⟩)) h47) (fun v48 h49 => R (.pan v48) h49))) (fun v50 h51 => R (.pan v50) h51)))
  (T Try.prog F.links_Forest_pull [p0_f, .int .i64 x4] h29 (rt (fun v52 h53 =>
  v52 = .tuple ⟨[]⟩ ∧
  T Try.prog F.links_Forest_pull [p0_f, .int .i64 p1_v] h53 (rt (fun v54 h55 =>
  v54 = .tuple ⟨[]⟩ ∧
  R (.ret (.tuple ⟨[]⟩)) h55) (fun v56 h57 => R (.pan v56) h57))) (fun v58 h59 => R (.pan v58) h59)))))
theorem E_links_Forest_rotate {p0_f : Value} {p1_v : Int} {R : Res → H → Prop} {h : H} (H0 : B_links_Forest_rotate p0_f p1_v R h) : T Try.prog F.links_Forest_rotate [p0_f, .int .i64 p1_v] h R :=
  T_intro A_links_Forest_rotate Try.func36 (c := bodyOf Try.f36) (by kernel_rfl) (by kernel_rfl) (by kernel_rfl) (cast_of (by kernel_rfl) H0)

/-! ### compass/compassref07.node -/
def A_compassref07_node : An := ⟨lkA [(0, rng 2), (1, rng 10)], lkL [], lkC []⟩
def B_compassref07_node (p0_f : List Value) (p1_v : Int) (R : Res → H → Prop) (h : H) : Prop :=
  newP h (.cells ⟨p0_f⟩ 42 (0, 0)) fun b1 h2 =>
  ifP (decide (0 ≤ p1_v)) (ldV h2 ((bk b1).add 0) fun x3 =>
  slcP x3 fun a4 l5 c6 =>
  R (.ret (.bool (decide (p1_v < ((l5 : Nat) : Int))))) h2) (R (.ret (.bool false)) h2)
theorem E_compassref07_node {p0_f : List Value} {p1_v : Int} {R : Res → H → Prop} {h : H} (H0 : B_compassref07_node p0_f p1_v R h) : T Try.prog F.compassref07_node [.agg ⟨p0_f⟩, .int .i64 p1_v] h R :=
  T_intro A_compassref07_node Try.func37 (c := bodyOf Try.f37) (by kernel_rfl) (by kernel_rfl) (by kernel_rfl) (cast_of (by kernel_rfl) H0)

/-! ### compass/compassref07.Copy -/
def A_compassref07_Copy : An := ⟨lkA [(0, rng 2), (1, rng 3), (2, rng 7), (3, rng 7), (4, rng 2)], lkL [], lkC []⟩
def B_compassref07_Copy (p0_f : List Value) (R : Res → H → Prop) (h : H) : Prop :=
  newP h (.cells ⟨p0_f⟩ 42 (0, 0)) fun b1 h2 =>
  newP h2 (.cells ⟨[.slice none 0 0, .slice none 0 0]⟩ 42 (0, 0)) fun b3 h4 =>
  newP h4 (.cells ⟨[.slice none 0 0, .slice none 0 0]⟩ 42 (0, 0)) fun b5 h6 =>
  stN h6 (bk b5) [.slice none 0 0, .slice none 0 0] 2 fun h7 =>
  ldV h7 ((bk b5).add 0) fun x8 =>
  ldV h7 ((bk b1).add 0) fun x9 =>
  apP x8 x9 h7 1 3 8 [.int .i64 0] fun s10 h11 =>
  oneP s10 (stC h11 ((bk b5).add 0) s10 fun h12 =>
  ldV h12 ((bk b5).add 1) fun x13 =>
  ldV h12 ((bk b1).add 1) fun x14 =>
  apP x13 x14 h12 1 2 8 [.int .i64 0] fun s15 h16 =>
  oneP s15 (stC h16 ((bk b5).add 1) s15 fun h17 =>
  ldN h17 (bk b5) 2 fun x18 =>
  stN h17 (bk b3) x18 2 fun h19 =>
  ldN h19 (bk b3) 2 fun x20 =>
  R (.ret (.agg ⟨x20⟩)) h19))
theorem E_compassref07_Copy {p0_f : List Value} {R : Res → H → Prop} {h : H} (H0 : B_compassref07_Copy p0_f R h) : T Try.prog F.compassref07_Copy [.agg ⟨p0_f⟩] h R :=
  T_intro A_compassref07_Copy Try.func38 (c := bodyOf Try.f38) (by kernel_rfl) (by kernel_rfl) (by kernel_rfl) (cast_of (by kernel_rfl) H0)

/-! ### compass/compassref07.Way -/
def A_compassref07_Way : An := ⟨lkA [(0, rng 2), (1, rng 3), (2, rng 6), (3, rng 6), (4, rng 5), (5, rng 2)], lkL [(2, [(1, .int .i64), (5, .val)])], lkC []⟩
def B_compassref07_Way (p0_f : List Value) (p1_v : Int) (R : Res → H → Prop) (h : H) : Prop :=
  newP h (.cells ⟨p0_f⟩ 42 (0, 0)) fun b1 h2 =>
  newP h2 (.cells ⟨[.int .i64 p1_v]⟩ 3 (0, 0)) fun b3 h4 =>
  ∃ (I5 : (Int × Value × Unit) → H → Prop) (r6 : (Int × Value × Unit) × H → (Int × Value × Unit) × H → Prop), WellFounded r6 ∧ I5 (p1_v, (.slice (some (bk b3)) 1 1 : Value), ()) h4 ∧
  ∀ (v_8 : Int) (way_9 : Value) (h7 : H), I5 (v_8, way_9, ()) h7 →
  ldV h7 ((bk b1).add 0) fun x10 =>
  ixS x10 v_8 1 fun a11 =>
  ldI h7 a11 .i64 fun x12 =>
  ifP (decide (0 ≤ x12)) (ldV h7 ((bk b1).add 0) fun x13 =>
  ixS x13 v_8 1 fun a14 =>
  ldI h7 a14 .i64 fun x15 =>
  newP h7 (.cells ⟨[.int .i64 x15]⟩ 3 (0, 0)) fun b16 h17 =>
  apP way_9 (.slice (some (bk b16)) 1 1) h17 1 3 8 [.int .i64 0] fun s18 h19 =>
  I5 (x15, s18, ()) h19 ∧ r6 ((x15, s18, ()), h19) ((v_8, way_9, ()), h7))
  (R (.ret way_9) h7)
theorem E_compassref07_Way {p0_f : List Value} {p1_v : Int} {R : Res → H → Prop} {h : H} (H0 : B_compassref07_Way p0_f p1_v R h) : T Try.prog F.compassref07_Way [.agg ⟨p0_f⟩, .int .i64 p1_v] h R :=
  T_intro A_compassref07_Way Try.func39 (c := bodyOf Try.f39) (by kernel_rfl) (by kernel_rfl) (by kernel_rfl) (cast_of (by kernel_rfl) H0)

end Go.Proofs.Ytgbmkfifjijoiaa
