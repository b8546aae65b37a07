import Derived.Test.YthglkcpoofenbaaProg
import Derived.Test.YthglkcpoofenbaaMV
namespace Go.Proofs.Ythglkcpoofenbaa
open Go
set_option linter.unusedVariables false
set_option maxRecDepth 100000

abbrev F.compasslaw13_FlowSolves : FuncId := 3
abbrev F.compasslaw13_FlowTurns : FuncId := 4
abbrev F.compasslaw13_FlowGrows : FuncId := 5
abbrev F.compasslaw13_FlowWays : FuncId := 6
abbrev F.compasslaw13_FlowProved : FuncId := 7
abbrev F.compasslaw13_FlowKeeps : FuncId := 8
abbrev F.compasslaw13_awake : FuncId := 9
abbrev F.maxflow_Solve : FuncId := 10
abbrev F.compassref13_Wrong : FuncId := 11
abbrev F.compasslaw13_empty : FuncId := 12
abbrev F.compassref13_Value : FuncId := 13
abbrev F.compassref11_Max : FuncId := 14
abbrev F.compasslaw13_bools : FuncId := 15
abbrev F.compassref03_Reverse : FuncId := 16
abbrev F.compassref03_Copy : FuncId := 17
abbrev F.compassref11_Out : FuncId := 18
abbrev F.proof_Max : FuncId := 19
abbrev F.compassref03_Same : FuncId := 20
abbrev F.graph_Check : FuncId := 21
abbrev F.maxflow_newNet : FuncId := 22
abbrev F.maxflow_net_levels : FuncId := 23
abbrev F.compassref11_Ends : FuncId := 24
abbrev F.compassref11_MaxFlow : FuncId := 25
abbrev F.compassref11_Cut : FuncId := 26
abbrev F.compassref11_Flows : FuncId := 27
abbrev F.proof_look : FuncId := 28
abbrev F.proof_Max_c1 : FuncId := 29
abbrev F.proof_right : FuncId := 30
abbrev F.proof_need : FuncId := 31
abbrev F.proof_carried : FuncId := 32
abbrev F.proof_across : FuncId := 33
abbrev F.graph_label : FuncId := 34
abbrev F.compassref04_Wrong : FuncId := 35
abbrev F.compassref11_Residual : FuncId := 36
abbrev F.compassref11_reach : FuncId := 37
abbrev F.compassref11_change : FuncId := 38
abbrev F.compassref11_room : FuncId := 39
abbrev F.compassref11_Fits : FuncId := 40
abbrev F.proof_look_c1 : FuncId := 41
abbrev F.compassref03_Check : FuncId := 42
abbrev F.compassref03_Bad : FuncId := 43
abbrev F.api_Errno_Error : FuncId := 59
abbrev F.maxflow_net_send : FuncId := 60
abbrev F.maxflow_dinic_fill : FuncId := 61
abbrev F.maxflow_dinic_along : FuncId := 62
abbrev F.maxflow_trees_fill : FuncId := 63
abbrev F.maxflow_trees_phase : FuncId := 64
abbrev F.links_New : FuncId := 65
abbrev F.links_Forest_Root : FuncId := 66
abbrev F.maxflow_trees_push : FuncId := 67
abbrev F.maxflow_trees_grow : FuncId := 68
abbrev F.maxflow_trees_drop : FuncId := 69
abbrev F.links_Forest_node : FuncId := 70
abbrev F.links_Forest_root : FuncId := 71
abbrev F.links_Forest_Least : FuncId := 72
abbrev F.links_Forest_Add : FuncId := 73
abbrev F.links_Forest_Link : FuncId := 74
abbrev F.links_Forest_Cut : FuncId := 75
abbrev F.links_Forest_access : FuncId := 76
abbrev F.links_Forest_push : FuncId := 77
abbrev F.links_Forest_splay : FuncId := 78
abbrev F.links_Forest_child : FuncId := 79
abbrev F.links_label : FuncId := 80
abbrev F.links_Forest_raise : FuncId := 81
abbrev F.links_Forest_pull : FuncId := 82
abbrev F.links_Forest_top : FuncId := 83
abbrev F.links_Forest_rotate : FuncId := 84
abbrev F.maxflow_pushing_fill : FuncId := 85
abbrev F.maxflow_pushing_set : FuncId := 86
abbrev F.maxflow_pushing_give : FuncId := 87
abbrev F.maxflow_pushing_lift : FuncId := 88

/-! ### compass/compasslaw13.FlowSolves -/
def A_compasslaw13_FlowSolves : An := ⟨lkA [(0, rng 3), (1, rng 2), (2, rng 1), (3, rng 15), (4, rng 8), (5, rng 2), (6, rng 12), (7, rng 11), (8, rng 15), (9, rng 37)], lkL [], lkC []⟩
def B_compasslaw13_FlowSolves (p0_g : List Value) (p1_ends : List Value) (p2_kind : Int) (R : Res → H → Prop) (h : H) : Prop :=
  newP h (.cells ⟨p0_g⟩ 24 (0, 0)) fun b1 h2 =>
  newP h2 (.cells ⟨p1_ends⟩ 25 (0, 0)) fun b3 h4 =>
  T Try.prog F.compasslaw13_awake [] h4 (rt (fun v5 h6 =>
  ∃ r7, v5 = .bool r7 ∧
  ifP (!r7) (R (.ret (.bool false)) h6)
  (ldN h6 (bk b1) 2 fun x8 =>
  ixA (bk b3) 2 0 1 fun a9 =>
  ldI h6 a9 .i64 fun x10 =>
  ixA (bk b3) 2 1 1 fun a11 =>
  ldI h6 a11 .i64 fun x12 =>
  T Try.prog F.maxflow_Solve [.agg ⟨x8⟩, .int .i64 x10, .int .i64 x12, .int .i64 p2_kind] h6 (rt (fun v13 h14 =>
  ∃ r15 : List Value, r15.length = 4 ∧ ∃ r16 : Int, ∃ r17 : Int, v13 = .tuple ⟨[.agg ⟨r15⟩, .int .i64 r16, .int .i64 r17]⟩ ∧
  newP h14 (.cells ⟨[.int .i64 0, .int .i64 0, .slice none 0 0, .slice none 0 0]⟩ 30 (0, 0)) fun b18 h19 =>
  stN h19 (bk b18) r15 4 fun h20 =>
  ldN h20 (bk b1) 2 fun x21 =>
  ixA (bk b3) 2 0 1 fun a22 =>
  ldI h20 a22 .i64 fun x23 =>
  ixA (bk b3) 2 1 1 fun a24 =>
  ldI h20 a24 .i64 fun x25 =>
  T Try.prog F.compassref13_Wrong [.agg ⟨x21⟩, .int .i64 x23, .int .i64 x25, .int .i64 p2_kind] h20 (rt (fun v26 h27 =>
  ∃ r28, v26 = .int .i64 r28 ∧
  ifP (!decide (r28 = 0)) (ifP (decide (r17 = r28)) (ifP (decide (r16 = 0)) (ldN h27 (bk b18) 4 fun x29 =>
  T Try.prog F.compasslaw13_empty [.agg ⟨x29⟩] h27 (rt (fun v30 h31 =>
  ∃ r32, v30 = .bool r32 ∧
  R (.ret (.bool r32)) h31) (fun v33 h34 => R (.pan v33) h34))) (R (.ret (.bool false)) h27)) (R (.ret (.bool false)) h27))
  (ldN h27 (bk b1) 2 fun x35 =>
  ixA (bk b3) 2 0 1 fun a36 =>
  ldI h27 a36 .i64 fun x37 =>
  ixA (bk b3) 2 1 1 fun a38 =>
  ldI h27 a38 .i64 fun x39 =>
  T Try.prog F.compassref13_Value [.agg ⟨x35⟩, .int .i64 x37, .int .i64 x39] h27 (rt (fun v40 h41 =>
  ∃ r42 : Int, ∃ r43 : Value, v40 = .tuple ⟨[.int .i64 r42, r43]⟩ ∧
  ldN h41 (bk b1) 2 fun x44 =>
  ldI h41 ((bk b18).add 0) .i64 fun x45 =>
  ldI h41 ((bk b18).add 1) .i64 fun x46 =>
  ldV h41 ((bk b18).add 2) fun x47 =>
  ldV h41 ((bk b18).add 3) fun x48 =>
  T Try.prog F.compassref11_Max [.agg ⟨x44⟩, .int .i64 x45, .int .i64 x46, x47, x48] h41 (rt (fun v49 h50 =>
  ∃ r51 : Int, ∃ r52 : Int, v49 = .tuple ⟨[.int .i64 r51, .int .i64 r52]⟩ ∧
  ifP (decide (r17 = 0)) (ifP (decide (r16 = r42)) (ldI h50 ((bk b18).add 0) .i64 fun x53 =>
  ixA (bk b3) 2 0 1 fun a54 =>
  ldI h50 a54 .i64 fun x55 =>
  ifP (decide (x53 = x55)) (ldI h50 ((bk b18).add 1) .i64 fun x56 =>
  ixA (bk b3) 2 1 1 fun a57 =>
  ldI h50 a57 .i64 fun x58 =>
  ifP (decide (x56 = x58)) (ldV h50 ((bk b18).add 3) fun x59 =>
  T Try.prog F.compasslaw13_bools [x59, r43] h50 (rt (fun v60 h61 =>
  ∃ r62, v60 = .bool r62 ∧
  ifP r62 (ifP (decide (r52 = 0)) (R (.ret (.bool (decide (r51 = r42)))) h61) (R (.ret (.bool false)) h61)) (R (.ret (.bool false)) h61)) (fun v63 h64 => R (.pan v63) h64))) (R (.ret (.bool false)) h50)) (R (.ret (.bool false)) h50)) (R (.ret (.bool false)) h50)) (R (.ret (.bool false)) h50)) (fun v65 h66 => R (.pan v65) h66))) (fun v67 h68 => R (.pan v67) h68)))) (fun v69 h70 => R (.pan v69) h70))) (fun v71 h72 => R (.pan v71) h72)))) (fun v73 h74 => R (.pan v73) h74))
theorem E_compasslaw13_FlowSolves {p0_g : List Value} {p1_ends : List Value} {p2_kind : Int} {R : Res → H → Prop} {h : H} (H0 : B_compasslaw13_FlowSolves p0_g p1_ends p2_kind R h) : T Try.prog F.compasslaw13_FlowSolves [.agg ⟨p0_g⟩, .agg ⟨p1_ends⟩, .int .i64 p2_kind] h R :=
  T_intro A_compasslaw13_FlowSolves Try.func3 (c := bodyOf Try.f3) (by kernel_rfl) (by kernel_rfl) (by kernel_rfl) (cast_of (by kernel_rfl) H0)

/-! ### compass/compasslaw13.FlowTurns -/
def A_compasslaw13_FlowTurns : An := ⟨lkA [(0, rng 3), (1, rng 2), (2, rng 1), (3, rng 15), (4, ⟨[2, 4, 6, 0, 3, 5, 1, 7, 8, 9, 10, 11, 12, 13, 14, 15], lkN [(1, [3, 5])]⟩), (5, rng 6), (6, rng 15), (7, rng 4), (8, rng 4), (9, rng 1), (10, rng 2), (11, rng 7), (12, rng 4), (13, rng 10), (14, rng 2), (15, rng 15), (16, rng 14)], lkL [(9, [(68, .int .i64)])], lkC []⟩
def B_compasslaw13_FlowTurns (p0_g : List Value) (p1_ends : List Value) (p2_kind : Int) (R : Res → H → Prop) (h : H) : Prop :=
  newP h (.cells ⟨p0_g⟩ 24 (0, 0)) fun b1 h2 =>
  newP h2 (.cells ⟨p1_ends⟩ 25 (0, 0)) fun b3 h4 =>
  T Try.prog F.compasslaw13_awake [] h4 (rt (fun v5 h6 =>
  ∃ r7, v5 = .bool r7 ∧
  ifP (!r7) (R (.ret (.bool false)) h6)
  (ldN h6 (bk b1) 2 fun x8 =>
  ixA (bk b3) 2 0 1 fun a9 =>
  ldI h6 a9 .i64 fun x10 =>
  ixA (bk b3) 2 1 1 fun a11 =>
  ldI h6 a11 .i64 fun x12 =>
  T Try.prog F.maxflow_Solve [.agg ⟨x8⟩, .int .i64 x10, .int .i64 x12, .int .i64 p2_kind] h6 (rt (fun v13 h14 =>
  ∃ r15 : List Value, r15.length = 4 ∧ ∃ r16 : Int, ∃ r17 : Int, v13 = .tuple ⟨[.agg ⟨r15⟩, .int .i64 r16, .int .i64 r17]⟩ ∧
  newP h14 (.cells ⟨[.int .i64 0, .int .i64 0, .slice none 0 0, .slice none 0 0]⟩ 30 (0, 0)) fun b18 h19 =>
  stN h19 (bk b18) r15 4 fun h20 =>
  ixA (bk b3) 2 1 1 fun a21 =>
  ixA (bk b3) 2 0 1 fun a22 =>
  ldN h20 (bk b1) 2 fun x23 =>
  ldI h20 a21 .i64 fun x24 =>
  ldI h20 a22 .i64 fun x25 =>
  T Try.prog F.compassref03_Reverse [.agg ⟨x23⟩] h20 (rt (fun v26 h27 =>
  ∃ r28 : List Value, r28.length = 2 ∧ v26 = .agg ⟨r28⟩ ∧
  (sameAt 2 a22 h20 h27) ∧
  (sameAt 2 a21 h20 h27) ∧
  T Try.prog F.maxflow_Solve [.agg ⟨r28⟩, .int .i64 x24, .int .i64 x25, .int .i64 p2_kind] h27 (rt (fun v29 h30 =>
  ∃ r31 : List Value, r31.length = 4 ∧ ∃ r32 : Int, ∃ r33 : Int, v29 = .tuple ⟨[.agg ⟨r31⟩, .int .i64 r32, .int .i64 r33]⟩ ∧
  newP h30 (.cells ⟨[.int .i64 0, .int .i64 0, .slice none 0 0, .slice none 0 0]⟩ 30 (0, 0)) fun b34 h35 =>
  stN h35 (bk b34) r31 4 fun h36 =>
  ifP (!decide (r17 = 0)) (ifP (!decide (r17 = 0)) (ifP (!decide (r33 = 0)) (ifP (decide (r16 = 0)) (R (.ret (.bool (decide (r32 = 0)))) h36) (R (.ret (.bool false)) h36)) (R (.ret (.bool false)) h36)) (R (.ret (.bool false)) h36)) (ifP (!decide (r33 = 0)) (ifP (!decide (r17 = 0)) (ifP (!decide (r33 = 0)) (ifP (decide (r16 = 0)) (R (.ret (.bool (decide (r32 = 0)))) h36) (R (.ret (.bool false)) h36)) (R (.ret (.bool false)) h36)) (R (.ret (.bool false)) h36))
  (ldN h36 (bk b1) 2 fun x37 =>
  T Try.prog F.compassref03_Copy [.agg ⟨x37⟩] h36 (rt (fun v38 h39 =>
  ∃ r40 : List Value, r40.length = 2 ∧ v38 = .agg ⟨r40⟩ ∧
  newP h39 (.cells ⟨[.int .i64 0, .slice none 0 0]⟩ 24 (0, 0)) fun b41 h42 =>
  stN h42 (bk b41) r40 2 fun h43 =>
  ldV h43 ((bk b41).add 1) fun x44 =>
  slcP x44 fun a45 l46 c47 =>
  ∃ (I48 : (Int × Unit) → H → Prop) (r49 : (Int × Unit) × H → (Int × Unit) × H → Prop), WellFounded r49 ∧ I48 (0, ()) h43 ∧
  ∀ (s51 : Int) (h50 : H), I48 (s51, ()) h50 →
  ifP (decide (s51 < ((l46 : Nat) : Int))) (ldV h50 ((bk b41).add 1) fun x52 =>
  ixS x52 s51 4 fun a53 =>
  ldI h50 (a53.add 2) .i64 fun x54 =>
  ifP (decide (524288 < x54)) (R (.ret (.bool (decide (r16 = r32)))) h50)
  (ldV h50 ((bk b41).add 1) fun x55 =>
  ixS x55 s51 4 fun a56 =>
  ldI h50 (a56.add 2) .i64 fun x57 =>
  ixS x55 s51 4 fun a58 =>
  stC h50 (a58.add 2) (.int .i64 (IntKind.i64.wrap (x57 * 2))) fun h59 =>
  I48 ((IntKind.i64.wrap (s51 + 1)), ()) h59 ∧ r49 (((IntKind.i64.wrap (s51 + 1)), ()), h59) ((s51, ()), h50)))
  (ldN h50 (bk b41) 2 fun x60 =>
  ixA (bk b3) 2 0 1 fun a61 =>
  ldI h50 a61 .i64 fun x62 =>
  ixA (bk b3) 2 1 1 fun a63 =>
  ldI h50 a63 .i64 fun x64 =>
  T Try.prog F.maxflow_Solve [.agg ⟨x60⟩, .int .i64 x62, .int .i64 x64, .int .i64 p2_kind] h50 (rt (fun v65 h66 =>
  ∃ r67 : List Value, r67.length = 4 ∧ ∃ r68 : Int, ∃ r69 : Int, v65 = .tuple ⟨[.agg ⟨r67⟩, .int .i64 r68, .int .i64 r69]⟩ ∧
  newP h66 (.cells ⟨[.int .i64 0, .int .i64 0, .slice none 0 0, .slice none 0 0]⟩ 30 (0, 0)) fun b70 h71 =>
  stN h71 (bk b70) r67 4 fun h72 =>
  ifP (decide (r16 = r32)) (ifP (decide (r69 = 0)) (R (.ret (.bool (decide (r68 = (IntKind.i64.wrap (2 * r16)))))) h72) (R (.ret (.bool false)) h72)) (R (.ret (.bool false)) h72)) (fun v73 h74 => R (.pan v73) h74)))) (fun v75 h76 => R (.pan v75) h76))))) (fun v77 h78 => R (.pan v77) h78))) (fun v79 h80 => R (.pan v79) h80))) (fun v81 h82 => R (.pan v81) h82)))) (fun v83 h84 => R (.pan v83) h84))
theorem E_compasslaw13_FlowTurns {p0_g : List Value} {p1_ends : List Value} {p2_kind : Int} {R : Res → H → Prop} {h : H} (H0 : B_compasslaw13_FlowTurns p0_g p1_ends p2_kind R h) : T Try.prog F.compasslaw13_FlowTurns [.agg ⟨p0_g⟩, .agg ⟨p1_ends⟩, .int .i64 p2_kind] h R :=
  T_intro A_compasslaw13_FlowTurns Try.func4 (c := bodyOf Try.f4) (by kernel_rfl) (by kernel_rfl) (by kernel_rfl) (cast_of (by kernel_rfl) H0)

/-! ### compass/compasslaw13.FlowGrows -/
def A_compasslaw13_FlowGrows : An := ⟨lkA [(0, rng 3), (1, rng 2), (2, rng 1), (3, rng 14), (4, rng 13), (5, rng 7), (6, ⟨[2, 4, 0, 3, 5, 1, 6, 7, 8, 9, 10, 11, 12, 13, 14], lkN [(1, [3, 5])]⟩), (7, ⟨[0, 2, 1, 3, 4, 5, 6, 7], lkN [(1, [2])]⟩), (8, rng 10), (9, rng 6), (10, rng 14), (11, rng 23), (12, rng 1), (13, rng 14), (14, rng 2), (15, rng 12), (16, ⟨[0, 2, 4, 1, 3, 5, 6, 7, 8, 9, 10, 11, 13, 15, 12, 14, 16, 17, 18, 19, 20, 21, 22], lkN []⟩), (17, rng 17)], lkL [], lkC [(6, []), (13, []), (17, [(21, .bool)])]⟩
def B_compasslaw13_FlowGrows (p0_g : List Value) (p1_ends : List Value) (p2_k : Int) (R : Res → H → Prop) (h : H) : Prop :=
  newP h (.cells ⟨p0_g⟩ 24 (0, 0)) fun b1 h2 =>
  newP h2 (.cells ⟨p1_ends⟩ 25 (0, 0)) fun b3 h4 =>
  T Try.prog F.compasslaw13_awake [] h4 (rt (fun v5 h6 =>
  ∃ r7, v5 = .bool r7 ∧
  ifP (!r7) (R (.ret (.bool false)) h6)
  (ldN h6 (bk b1) 2 fun x8 =>
  ixA (bk b3) 2 0 1 fun a9 =>
  ldI h6 a9 .i64 fun x10 =>
  ixA (bk b3) 2 1 1 fun a11 =>
  ldI h6 a11 .i64 fun x12 =>
  T Try.prog F.maxflow_Solve [.agg ⟨x8⟩, .int .i64 x10, .int .i64 x12, .int .i64 3] h6 (rt (fun v13 h14 =>
  ∃ r15 : List Value, r15.length = 4 ∧ ∃ r16 : Int, ∃ r17 : Int, v13 = .tuple ⟨[.agg ⟨r15⟩, .int .i64 r16, .int .i64 r17]⟩ ∧
  newP h14 (.cells ⟨[.int .i64 0, .int .i64 0, .slice none 0 0, .slice none 0 0]⟩ 30 (0, 0)) fun b18 h19 =>
  stN h19 (bk b18) r15 4 fun h20 =>
  ∃ J21 : (Unit) → H → Prop, (ifP (!decide (r17 = 0)) (ifP (decide (r17 = 0)) (R (.ret (.bool true)) h20) (R (.ret (.bool (decide (r16 = 0)))) h20)) (ifP (decide (p2_k < 0)) (ifP (decide (r17 = 0)) (R (.ret (.bool true)) h20) (R (.ret (.bool (decide (r16 = 0)))) h20)) (ldV h20 ((bk b1).add 1) fun x23 =>
  slcP x23 fun a24 l25 c26 =>
  ifP (decide (((l25 : Nat) : Int) ≤ p2_k)) (ifP (decide (r17 = 0)) (R (.ret (.bool true)) h20) (R (.ret (.bool (decide (r16 = 0)))) h20))
  (J21 (()) h20)))) ∧
  (∀  (h22 : H), J21 (()) h22 →
  ixA (bk b3) 2 1 1 fun a27 =>
  ixA (bk b3) 2 0 1 fun a28 =>
  ldN h22 (bk b1) 2 fun x29 =>
  ldI h22 a27 .i64 fun x30 =>
  ldI h22 a28 .i64 fun x31 =>
  T Try.prog F.compassref03_Reverse [.agg ⟨x29⟩] h22 (rt (fun v32 h33 =>
  ∃ r34 : List Value, r34.length = 2 ∧ v32 = .agg ⟨r34⟩ ∧
  (sameAt 2 a28 h22 h33) ∧
  (sameAt 2 a27 h22 h33) ∧
  T Try.prog F.maxflow_Solve [.agg ⟨r34⟩, .int .i64 x30, .int .i64 x31, .int .i64 1] h33 (rt (fun v35 h36 =>
  ∃ r37 : List Value, r37.length = 4 ∧ ∃ r38 : Int, ∃ r39 : Int, v35 = .tuple ⟨[.agg ⟨r37⟩, .int .i64 r38, .int .i64 r39]⟩ ∧
  newP h36 (.cells ⟨[.int .i64 0, .int .i64 0, .slice none 0 0, .slice none 0 0]⟩ 30 (0, 0)) fun b40 h41 =>
  stN h41 (bk b40) r37 4 fun h42 =>
  ldN h42 (bk b1) 2 fun x43 =>
  ldN h42 (bk b1) 2 fun x44 =>
  T Try.prog F.compassref03_Copy [.agg ⟨x43⟩] h42 (rt (fun v45 h46 =>
  ∃ r47 : List Value, r47.length = 2 ∧ v45 = .agg ⟨r47⟩ ∧
  (sameAt 3 (bk b1) h42 h46) ∧
  T Try.prog F.compassref03_Copy [.agg ⟨x44⟩] h46 (rt (fun v48 h49 =>
  ∃ r50 : List Value, r50.length = 2 ∧ v48 = .agg ⟨r50⟩ ∧
  newP h49 (.cells ⟨[.int .i64 0, .slice none 0 0]⟩ 24 (0, 0)) fun b51 h52 =>
  newP h52 (.cells ⟨[.int .i64 0, .slice none 0 0]⟩ 24 (0, 0)) fun b53 h54 =>
  stN h54 (bk b51) r47 2 fun h55 =>
  stN h55 (bk b53) r50 2 fun h56 =>
  ldV h56 ((bk b51).add 1) fun x57 =>
  ixS x57 p2_k 4 fun a58 =>
  ldI h56 (a58.add 2) .i64 fun x59 =>
  ixS x57 p2_k 4 fun a60 =>
  stC h56 (a60.add 2) (.int .i64 (IntKind.i64.wrap (x59 + 1))) fun h61 =>
  ldV h61 ((bk b53).add 1) fun x62 =>
  ixS x62 p2_k 4 fun a63 =>
  stC h61 (a63.add 2) (.int .i64 0) fun h64 =>
  ldN h64 (bk b53) 2 fun x65 =>
  ixA (bk b3) 2 0 1 fun a66 =>
  ldI h64 a66 .i64 fun x67 =>
  ixA (bk b3) 2 1 1 fun a68 =>
  ldI h64 a68 .i64 fun x69 =>
  T Try.prog F.maxflow_Solve [.agg ⟨x65⟩, .int .i64 x67, .int .i64 x69, .int .i64 2] h64 (rt (fun v70 h71 =>
  ∃ r72 : List Value, r72.length = 4 ∧ ∃ r73 : Int, ∃ r74 : Int, v70 = .tuple ⟨[.agg ⟨r72⟩, .int .i64 r73, .int .i64 r74]⟩ ∧
  newP h71 (.cells ⟨[.int .i64 0, .int .i64 0, .slice none 0 0, .slice none 0 0]⟩ 30 (0, 0)) fun b75 h76 =>
  stN h76 (bk b75) r72 4 fun h77 =>
  ∃ J78 : (Unit) → H → Prop, (ifP (!decide (r39 = 0)) (R (.ret (.bool false)) h77) (ifP (!decide (r74 = 0)) (R (.ret (.bool false)) h77) (ifP (decide (r16 < r73)) (R (.ret (.bool false)) h77) (ldV h77 ((bk b1).add 1) fun x80 =>
  ixS x80 p2_k 4 fun a81 =>
  ldI h77 (a81.add 2) .i64 fun x82 =>
  ifP (decide (x82 < (IntKind.i64.wrap (r16 - r73)))) (R (.ret (.bool false)) h77)
  (J78 (()) h77))))) ∧
  (∀  (h79 : H), J78 (()) h79 →
  ldN h79 (bk b51) 2 fun x83 =>
  ixA (bk b3) 2 0 1 fun a84 =>
  ldI h79 a84 .i64 fun x85 =>
  ixA (bk b3) 2 1 1 fun a86 =>
  ldI h79 a86 .i64 fun x87 =>
  T Try.prog F.maxflow_Solve [.agg ⟨x83⟩, .int .i64 x85, .int .i64 x87, .int .i64 2] h79 (rt (fun v88 h89 =>
  ∃ r90 : List Value, r90.length = 4 ∧ ∃ r91 : Int, ∃ r92 : Int, v88 = .tuple ⟨[.agg ⟨r90⟩, .int .i64 r91, .int .i64 r92]⟩ ∧
  newP h89 (.cells ⟨[.int .i64 0, .int .i64 0, .slice none 0 0, .slice none 0 0]⟩ 30 (0, 0)) fun b93 h94 =>
  stN h94 (bk b93) r90 4 fun h95 =>
  ifP (!decide (r92 = 0)) (ifP (decide (r92 = 31)) (ldV h95 ((bk b1).add 1) fun x96 =>
  ixS x96 p2_k 4 fun a97 =>
  ldI h95 (a97.add 2) .i64 fun x98 =>
  R (.ret (.bool (decide (x98 = 1048576)))) h95) (R (.ret (.bool false)) h95))
  (∃ J99 : (Bool × Unit) → H → Prop, (ldV h95 ((bk b18).add 3) fun x102 =>
  ldV h95 ((bk b1).add 1) fun x103 =>
  ixS x103 p2_k 4 fun a104 =>
  ldI h95 (a104.add 0) .i64 fun x105 =>
  ixS x102 x105 1 fun a106 =>
  ldB h95 a106 fun x107 =>
  ifP x107 (ldV h95 ((bk b40).add 3) fun x108 =>
  ldV h95 ((bk b1).add 1) fun x109 =>
  ixS x109 p2_k 4 fun a110 =>
  ldI h95 (a110.add 1) .i64 fun x111 =>
  ixS x108 x111 1 fun a112 =>
  ldB h95 a112 fun x113 =>
  J99 (x113, ()) h95) (J99 (false, ()) h95)) ∧
  (∀ (grows_101 : Bool) (h100 : H), J99 (grows_101, ()) h100 →
  ifP (decide (r91 = (IntKind.i64.wrap (r16 + 1)))) (ifP grows_101 (R (.ret (.bool true)) h100) (ifP (decide (r91 = r16)) (R (.ret (.bool (!grows_101))) h100) (R (.ret (.bool false)) h100))) (ifP (decide (r91 = r16)) (R (.ret (.bool (!grows_101))) h100) (R (.ret (.bool false)) h100))))) (fun v114 h115 => R (.pan v114) h115)))) (fun v116 h117 => R (.pan v116) h117))) (fun v118 h119 => R (.pan v118) h119))) (fun v120 h121 => R (.pan v120) h121))) (fun v122 h123 => R (.pan v122) h123))) (fun v124 h125 => R (.pan v124) h125)))) (fun v126 h127 => R (.pan v126) h127)))) (fun v128 h129 => R (.pan v128) h129))
theorem E_compasslaw13_FlowGrows {p0_g : List Value} {p1_ends : List Value} {p2_k : Int} {R : Res → H → Prop} {h : H} (H0 : B_compasslaw13_FlowGrows p0_g p1_ends p2_k R h) : T Try.prog F.compasslaw13_FlowGrows [.agg ⟨p0_g⟩, .agg ⟨p1_ends⟩, .int .i64 p2_k] h R :=
  T_intro A_compasslaw13_FlowGrows Try.func5 (c := bodyOf Try.f5) (by kernel_rfl) (by kernel_rfl) (by kernel_rfl) (cast_of (by kernel_rfl) H0)

/-! ### compass/compasslaw13.FlowWays -/
def A_compasslaw13_FlowWays : An := ⟨lkA [(0, rng 3), (1, rng 2), (2, rng 1), (3, rng 4), (4, rng 4), (5, rng 1), (6, rng 2), (7, rng 6), (8, rng 2), (9, rng 15), (10, rng 2), (11, rng 3), (12, rng 5), (13, rng 1), (14, rng 3), (15, rng 3), (16, rng 3), (17, rng 1), (18, rng 4), (19, rng 3), (20, rng 1), (21, rng 4), (22, rng 1), (23, rng 6), (24, rng 11), (25, rng 2), (26, rng 2), (27, rng 8), (28, rng 1), (29, rng 7), (30, rng 7), (31, rng 7)], lkL [(5, [(26, .int .i64)]), (14, [(13, .int .i64)]), (18, [(14, .int .i64), (15, .int .i64)]), (22, [(16, .int .i64), (70, .int .i64)])], lkC []⟩
def B_compasslaw13_FlowWays (p0_g : List Value) (p1_ends : List Value) (p2_kind : Int) (R : Res → H → Prop) (h : H) : Prop :=
  newP h (.cells ⟨p0_g⟩ 24 (0, 0)) fun b1 h2 =>
  newP h2 (.cells ⟨p1_ends⟩ 25 (0, 0)) fun b3 h4 =>
  T Try.prog F.compasslaw13_awake [] h4 (rt (fun v5 h6 =>
  ∃ r7, v5 = .bool r7 ∧
  ifP (!r7) (R (.ret (.bool false)) h6)
  (ldN h6 (bk b1) 2 fun x8 =>
  T Try.prog F.compassref03_Copy [.agg ⟨x8⟩] h6 (rt (fun v9 h10 =>
  ∃ r11 : List Value, r11.length = 2 ∧ v9 = .agg ⟨r11⟩ ∧
  newP h10 (.cells ⟨[.int .i64 0, .slice none 0 0]⟩ 24 (0, 0)) fun b12 h13 =>
  stN h13 (bk b12) r11 2 fun h14 =>
  ldV h14 ((bk b12).add 1) fun x15 =>
  slcP x15 fun a16 l17 c18 =>
  ∃ (I19 : (Int × Unit) → H → Prop) (r20 : (Int × Unit) × H → (Int × Unit) × H → Prop), WellFounded r20 ∧ I19 (0, ()) h14 ∧
  ∀ (s22 : Int) (h21 : H), I19 (s22, ()) h21 →
  ifP (decide (s22 < ((l17 : Nat) : Int))) (ldV h21 ((bk b12).add 1) fun x23 =>
  ixS x23 s22 4 fun a24 =>
  stC h21 (a24.add 2) (.int .i64 1) fun h25 =>
  I19 ((IntKind.i64.wrap (s22 + 1)), ()) h25 ∧ r20 (((IntKind.i64.wrap (s22 + 1)), ()), h25) ((s22, ()), h21))
  (ldN h21 (bk b12) 2 fun x26 =>
  ixA (bk b3) 2 0 1 fun a27 =>
  ldI h21 a27 .i64 fun x28 =>
  ixA (bk b3) 2 1 1 fun a29 =>
  ldI h21 a29 .i64 fun x30 =>
  T Try.prog F.maxflow_Solve [.agg ⟨x26⟩, .int .i64 x28, .int .i64 x30, .int .i64 p2_kind] h21 (rt (fun v31 h32 =>
  ∃ r33 : List Value, r33.length = 4 ∧ ∃ r34 : Int, ∃ r35 : Int, v31 = .tuple ⟨[.agg ⟨r33⟩, .int .i64 r34, .int .i64 r35]⟩ ∧
  newP h32 (.cells ⟨[.int .i64 0, .int .i64 0, .slice none 0 0, .slice none 0 0]⟩ 30 (0, 0)) fun b36 h37 =>
  stN h37 (bk b36) r33 4 fun h38 =>
  ifP (!decide (r35 = 0)) (R (.ret (.bool (decide (r34 = 0)))) h38)
  (newP h38 (.cells ⟨[]⟩ 2 (0, 0)) fun b39 h40 =>
  ldV h40 ((bk b36).add 2) fun x41 =>
  apP (.slice (some (bk b39)) 0 0) x41 h40 1 2 8 [.int .i64 0] fun s42 h43 =>
  ∃ (I44 : (Int × Unit) → H → Prop) (r45 : (Int × Unit) × H → (Int × Unit) × H → Prop), WellFounded r45 ∧ I44 (0, ()) h43 ∧
  ∀ (n_47 : Int) (h46 : H), I44 (n_47, ()) h46 →
  ifP (decide (n_47 < r34)) (ixA (bk b3) 2 0 1 fun a48 =>
  ldI h46 a48 .i64 fun x49 =>
  ∃ (I50 : (Int × Int × Unit) → H → Prop) (r51 : (Int × Int × Unit) × H → (Int × Int × Unit) × H → Prop), WellFounded r51 ∧ I50 (x49, 0, ()) h46 ∧
  ∀ (at_53 : Int) (steps_54 : Int) (h52 : H), I50 (at_53, steps_54, ()) h52 →
  ixA (bk b3) 2 1 1 fun a55 =>
  ldI h52 a55 .i64 fun x56 =>
  ifP (!decide (at_53 = x56)) (ldV h52 ((bk b12).add 1) fun x57 =>
  slcP x57 fun a58 l59 c60 =>
  ∃ (I61 : (Int × Int × Unit) → H → Prop) (r62 : (Int × Int × Unit) × H → (Int × Int × Unit) × H → Prop), WellFounded r62 ∧ I61 ((-1), 0, ()) h52 ∧
  ∀ (next_64 : Int) (s65 : Int) (h63 : H), I61 (next_64, s65, ()) h63 →
  ifP (decide (s65 < ((l59 : Nat) : Int))) (ixS x57 s65 4 fun a66 =>
  ldN h63 a66 4 fun x67 =>
  newP h63 (.cells ⟨[.int .i64 0, .int .i64 0, .int .i64 0, .int .i64 0]⟩ 44 (0, 0)) fun b68 h69 =>
  stN h69 (bk b68) x67 4 fun h70 =>
  ixS s42 s65 1 fun a71 =>
  ldI h70 a71 .i64 fun x72 =>
  ifP (decide (0 < x72)) (ldI h70 ((bk b68).add 0) .i64 fun x73 =>
  ifP (decide (x73 = at_53)) (I61 (s65, (IntKind.i64.wrap (s65 + 1)), ()) h70 ∧ r62 ((s65, (IntKind.i64.wrap (s65 + 1)), ()), h70) ((next_64, s65, ()), h63))
  (I61 (next_64, (IntKind.i64.wrap (s65 + 1)), ()) h70 ∧ r62 ((next_64, (IntKind.i64.wrap (s65 + 1)), ()), h70) ((next_64, s65, ()), h63))) (I61 (next_64, (IntKind.i64.wrap (s65 + 1)), ()) h70 ∧ r62 ((next_64, (IntKind.i64.wrap (s65 + 1)), ()), h70) ((next_64, s65, ()), h63)))
  (ifP (decide (next_64 < 0)) (R (.ret (.bool false)) h63) (slcP s42 fun a74 l75 c76 =>
  ifP (decide (((l75 : Nat) : Int) < steps_54)) (R (.ret (.bool false)) h63)
  (ixS s42 next_64 1 fun a77 =>
  ldI h63 a77 .i64 fun x78 =>
  ixS s42 next_64 1 fun a79 =>
  stC h63 a79 (.int .i64 (IntKind.i64.wrap (x78 - 1))) fun h80 =>
  ldV h80 ((bk b12).add 1) fun x81 =>
  ixS x81 next_64 4 fun a82 =>
  ldI h80 (a82.add 1) .i64 fun x83 =>
  I50 (x83, (IntKind.i64.wrap (steps_54 + 1)), ()) h80 ∧ r51 ((x83, (IntKind.i64.wrap (steps_54 + 1)), ()), h80) ((at_53, steps_54, ()), h52)))))
  (I44 ((IntKind.i64.wrap (n_47 + 1)), ()) h52 ∧ r45 (((IntKind.i64.wrap (n_47 + 1)), ()), h52) ((n_47, ()), h46)))
  (ldN h46 (bk b12) 2 fun x84 =>
  ixA (bk b3) 2 0 1 fun a85 =>
  ldI h46 a85 .i64 fun x86 =>
  T Try.prog F.compassref11_Out [.agg ⟨x84⟩, s42, .int .i64 x86] h46 (rt (fun v87 h88 =>
  ∃ r89, v87 = .int .i64 r89 ∧
  R (.ret (.bool (decide (r89 = 0)))) h88) (fun v90 h91 => R (.pan v90) h91))))) (fun v92 h93 => R (.pan v92) h93)))) (fun v94 h95 => R (.pan v94) h95)))) (fun v96 h97 => R (.pan v96) h97))
theorem E_compasslaw13_FlowWays {p0_g : List Value} {p1_ends : List Value} {p2_kind : Int} {R : Res → H → Prop} {h : H} (H0 : B_compasslaw13_FlowWays p0_g p1_ends p2_kind R h) : T Try.prog F.compasslaw13_FlowWays [.agg ⟨p0_g⟩, .agg ⟨p1_ends⟩, .int .i64 p2_kind] h R :=
  T_intro A_compasslaw13_FlowWays Try.func6 (c := bodyOf Try.f6) (by kernel_rfl) (by kernel_rfl) (by kernel_rfl) (cast_of (by kernel_rfl) H0)

/-! ### compass/compasslaw13.FlowProved -/
def A_compasslaw13_FlowProved : An := ⟨lkA [(0, rng 3), (1, rng 2), (2, rng 1), (3, rng 14), (4, rng 1), (5, rng 2), (6, rng 3), (7, rng 15), (8, rng 16), (9, rng 1), (10, rng 8), (11, rng 11), (12, rng 1), (13, rng 8), (14, rng 12)], lkL [(5, [(8, .int .i64)])], lkC [(10, [])]⟩
def B_compasslaw13_FlowProved (p0_g : List Value) (p1_ends : List Value) (R : Res → H → Prop) (h : H) : Prop :=
  newP h (.cells ⟨p0_g⟩ 24 (0, 0)) fun b1 h2 =>
  newP h2 (.cells ⟨p1_ends⟩ 25 (0, 0)) fun b3 h4 =>
  T Try.prog F.compasslaw13_awake [] h4 (rt (fun v5 h6 =>
  ∃ r7, v5 = .bool r7 ∧
  ifP (!r7) (R (.ret (.bool false)) h6)
  (ldN h6 (bk b1) 2 fun x8 =>
  ixA (bk b3) 2 0 1 fun a9 =>
  ldI h6 a9 .i64 fun x10 =>
  ixA (bk b3) 2 1 1 fun a11 =>
  ldI h6 a11 .i64 fun x12 =>
  T Try.prog F.maxflow_Solve [.agg ⟨x8⟩, .int .i64 x10, .int .i64 x12, .int .i64 1] h6 (rt (fun v13 h14 =>
  ∃ r15 : List Value, r15.length = 4 ∧ ∃ r16 : Int, ∃ r17 : Int, v13 = .tuple ⟨[.agg ⟨r15⟩, .int .i64 r16, .int .i64 r17]⟩ ∧
  newP h14 (.cells ⟨[.int .i64 0, .int .i64 0, .slice none 0 0, .slice none 0 0]⟩ 30 (0, 0)) fun b18 h19 =>
  stN h19 (bk b18) r15 4 fun h20 =>
  ∃ (I21 : (Int × Unit) → H → Prop) (r22 : (Int × Unit) × H → (Int × Unit) × H → Prop), WellFounded r22 ∧ I21 (2, ()) h20 ∧
  ∀ (kind_24 : Int) (h23 : H), I21 (kind_24, ()) h23 →
  ifP (decide (kind_24 ≤ 3)) (ldN h23 (bk b1) 2 fun x25 =>
  ixA (bk b3) 2 0 1 fun a26 =>
  ldI h23 a26 .i64 fun x27 =>
  ixA (bk b3) 2 1 1 fun a28 =>
  ldI h23 a28 .i64 fun x29 =>
  T Try.prog F.maxflow_Solve [.agg ⟨x25⟩, .int .i64 x27, .int .i64 x29, .int .i64 kind_24] h23 (rt (fun v30 h31 =>
  ∃ r32 : List Value, r32.length = 4 ∧ ∃ r33 : Int, ∃ r34 : Int, v30 = .tuple ⟨[.agg ⟨r32⟩, .int .i64 r33, .int .i64 r34]⟩ ∧
  newP h31 (.cells ⟨[.int .i64 0, .int .i64 0, .slice none 0 0, .slice none 0 0]⟩ 30 (0, 0)) fun b35 h36 =>
  stN h36 (bk b35) r32 4 fun h37 =>
  ∃ J38 : (Unit) → H → Prop, (ifP (!decide (r16 = r33)) (R (.ret (.bool false)) h37) (ifP (!decide (r17 = r34)) (R (.ret (.bool false)) h37) (ldV h37 ((bk b18).add 3) fun x40 =>
  ldV h37 ((bk b35).add 3) fun x41 =>
  T Try.prog F.compasslaw13_bools [x40, x41] h37 (rt (fun v42 h43 =>
  ∃ r44, v42 = .bool r44 ∧
  ifP (!r44) (R (.ret (.bool false)) h43)
  (J38 (()) h43)) (fun v45 h46 => R (.pan v45) h46))))) ∧
  (∀  (h39 : H), J38 (()) h39 →
  ldN h39 (bk b1) 2 fun x47 =>
  ldN h39 (bk b35) 4 fun x48 =>
  T Try.prog F.proof_Max [.agg ⟨x47⟩, .agg ⟨x48⟩] h39 (rt (fun v49 h50 =>
  ∃ r51 : Int, ∃ r52 : Int, v49 = .tuple ⟨[.int .i64 r51, .int .i64 r52]⟩ ∧
  ifP (decide (r17 = 0)) (ifP (!decide (r51 = r16)) (R (.ret (.bool false)) h50) (ifP (!decide (r52 = 0)) (R (.ret (.bool false)) h50)
  (I21 ((IntKind.i64.wrap (kind_24 + 1)), ()) h50 ∧ r22 (((IntKind.i64.wrap (kind_24 + 1)), ()), h50) ((kind_24, ()), h23)))) (I21 ((IntKind.i64.wrap (kind_24 + 1)), ()) h50 ∧ r22 (((IntKind.i64.wrap (kind_24 + 1)), ()), h50) ((kind_24, ()), h23))) (fun v53 h54 => R (.pan v53) h54)))) (fun v55 h56 => R (.pan v55) h56)))
  (ldN h23 (bk b1) 2 fun x57 =>
  ldN h23 (bk b18) 4 fun x58 =>
  T Try.prog F.proof_Max [.agg ⟨x57⟩, .agg ⟨x58⟩] h23 (rt (fun v59 h60 =>
  ∃ r61 : Int, ∃ r62 : Int, v59 = .tuple ⟨[.int .i64 r61, .int .i64 r62]⟩ ∧
  ifP (!decide (r17 = 0)) (R (.ret (.bool true)) h60) (ifP (decide (r61 = r16)) (R (.ret (.bool (decide (r62 = 0)))) h60) (R (.ret (.bool false)) h60))) (fun v63 h64 => R (.pan v63) h64)))) (fun v65 h66 => R (.pan v65) h66)))) (fun v67 h68 => R (.pan v67) h68))
theorem E_compasslaw13_FlowProved {p0_g : List Value} {p1_ends : List Value} {R : Res → H → Prop} {h : H} (H0 : B_compasslaw13_FlowProved p0_g p1_ends R h) : T Try.prog F.compasslaw13_FlowProved [.agg ⟨p0_g⟩, .agg ⟨p1_ends⟩] h R :=
  T_intro A_compasslaw13_FlowProved Try.func7 (c := bodyOf Try.f7) (by kernel_rfl) (by kernel_rfl) (by kernel_rfl) (cast_of (by kernel_rfl) H0)

/-! ### compass/compasslaw13.FlowKeeps -/
def A_compasslaw13_FlowKeeps : An := ⟨lkA [(0, rng 3), (1, rng 2), (2, rng 1), (3, rng 4), (4, ⟨[0, 2, 5, 1, 6, 7, 3, 4, 8, 9, 10], lkN [(4, [6])]⟩), (5, rng 15), (6, rng 15), (7, ⟨[0, 1, 2, 3, 4, 5, 7, 12, 6, 8, 9, 10, 11, 13, 14, 15, 16, 17, 18, 19], lkN []⟩), (8, rng 1), (9, rng 4), (10, rng 1), (11, rng 2), (12, rng 5), (13, rng 2), (14, rng 4), (15, rng 1), (16, rng 2), (17, ⟨[0, 2, 3, 5, 1, 4, 6, 7, 8, 9, 10], lkN []⟩), (18, rng 2), (19, rng 8), (20, rng 12)], lkL [(10, [(77, .int .i64)]), (15, [(88, .int .i64)])], lkC []⟩
def B_compasslaw13_FlowKeeps (p0_g : List Value) (p1_ends : List Value) (p2_kind : Int) (R : Res → H → Prop) (h : H) : Prop :=
  newP h (.cells ⟨p0_g⟩ 24 (0, 0)) fun b1 h2 =>
  newP h2 (.cells ⟨p1_ends⟩ 25 (0, 0)) fun b3 h4 =>
  T Try.prog F.compasslaw13_awake [] h4 (rt (fun v5 h6 =>
  ∃ r7, v5 = .bool r7 ∧
  ifP (!r7) (R (.ret (.bool false)) h6)
  (ldN h6 (bk b1) 2 fun x8 =>
  T Try.prog F.compassref03_Copy [.agg ⟨x8⟩] h6 (rt (fun v9 h10 =>
  ∃ r11 : List Value, r11.length = 2 ∧ v9 = .agg ⟨r11⟩ ∧
  newP h10 (.cells ⟨[.int .i64 0, .slice none 0 0]⟩ 24 (0, 0)) fun b12 h13 =>
  stN h13 (bk b12) r11 2 fun h14 =>
  ldV h14 ((bk b12).add 1) fun x15 =>
  ldV h14 ((bk b1).add 1) fun x16 =>
  slcP x16 fun a17 l18 c19 =>
  ([.int .i64 0, .int .i64 0, .int .i64 (-7), .int .i64 0] : List Value).length = 4 ∧
  newP h14 (.cells ⟨[.int .i64 0, .int .i64 0, .int .i64 (-7), .int .i64 0]⟩ 44 (0, 0)) fun b20 h21 =>
  apP x15 (.slice (some (bk b20)) 1 1) h21 4 44 32 [.int .i64 0, .int .i64 0, .int .i64 0, .int .i64 0] fun s22 h23 =>
  (sameAt 2 ((bk b1).add 1) h21 h23) ∧
  slcP s22 fun a24 l25 c26 =>
  (0 : Int) ≤ ((l18 : Nat) : Int) ∧ ((l18 : Nat) : Int) ≤ ((c26 : Nat) : Int) ∧
  (0 : Int) ≤ (0 : Int) ∧ (0 : Int) ≤ ((l18 : Nat) : Int) ∧
  oneP (sliceV a24 c26 (0 : Int) ((l18 : Nat) : Int) 4) (stC h23 ((bk b12).add 1) (sliceV a24 c26 (0 : Int) ((l18 : Nat) : Int) 4) fun h27 =>
  ldN h27 (bk b12) 2 fun x28 =>
  ixA (bk b3) 2 0 1 fun a29 =>
  ldI h27 a29 .i64 fun x30 =>
  ixA (bk b3) 2 1 1 fun a31 =>
  ldI h27 a31 .i64 fun x32 =>
  T Try.prog F.maxflow_Solve [.agg ⟨x28⟩, .int .i64 x30, .int .i64 x32, .int .i64 p2_kind] h27 (rt (fun v33 h34 =>
  ∃ r35 : List Value, r35.length = 4 ∧ ∃ r36 : Int, ∃ r37 : Int, v33 = .tuple ⟨[.agg ⟨r35⟩, .int .i64 r36, .int .i64 r37]⟩ ∧
  newP h34 (.cells ⟨[.int .i64 0, .int .i64 0, .slice none 0 0, .slice none 0 0]⟩ 30 (0, 0)) fun b38 h39 =>
  stN h39 (bk b38) r35 4 fun h40 =>
  ldN h40 (bk b12) 2 fun x41 =>
  ixA (bk b3) 2 0 1 fun a42 =>
  ldI h40 a42 .i64 fun x43 =>
  ixA (bk b3) 2 1 1 fun a44 =>
  ldI h40 a44 .i64 fun x45 =>
  T Try.prog F.maxflow_Solve [.agg ⟨x41⟩, .int .i64 x43, .int .i64 x45, .int .i64 p2_kind] h40 (rt (fun v46 h47 =>
  ∃ r48 : List Value, r48.length = 4 ∧ ∃ r49 : Int, ∃ r50 : Int, v46 = .tuple ⟨[.agg ⟨r48⟩, .int .i64 r49, .int .i64 r50]⟩ ∧
  newP h47 (.cells ⟨[.int .i64 0, .int .i64 0, .slice none 0 0, .slice none 0 0]⟩ 30 (0, 0)) fun b51 h52 =>
  stN h52 (bk b51) r48 4 fun h53 =>
  ldN h53 (bk b12) 2 fun x54 =>
  ldN h53 (bk b1) 2 fun x55 =>
  T Try.prog F.compassref03_Same [.agg ⟨x54⟩, .agg ⟨x55⟩] h53 (rt (fun v56 h57 =>
  ∃ r58, v56 = .bool r58 ∧
  ifP (!r58) (R (.ret (.bool false)) h57) (ldV h57 ((bk b12).add 1) fun x59 =>
  ldV h57 ((bk b1).add 1) fun x60 =>
  slcP x60 fun a61 l62 c63 =>
  slcP x59 fun a64 l65 c66 =>
  (0 : Int) ≤ (IntKind.i64.wrap (((l62 : Nat) : Int) + 1)) ∧ (IntKind.i64.wrap (((l62 : Nat) : Int) + 1)) ≤ ((c66 : Nat) : Int) ∧
  (0 : Int) ≤ (0 : Int) ∧ (0 : Int) ≤ (IntKind.i64.wrap (((l62 : Nat) : Int) + 1)) ∧
  ldV h57 ((bk b1).add 1) fun x67 =>
  slcP x67 fun a68 l69 c70 =>
  ixS (sliceV a64 c66 (0 : Int) (IntKind.i64.wrap (((l62 : Nat) : Int) + 1)) 4) ((l69 : Nat) : Int) 4 fun a71 =>
  ldI h57 (a71.add 2) .i64 fun x72 =>
  ifP (!decide (x72 = (-7))) (R (.ret (.bool false)) h57)
  (ldV h57 ((bk b38).add 2) fun x73 =>
  slcP x73 fun a74 l75 c76 =>
  ∃ (I77 : (Int × Unit) → H → Prop) (r78 : (Int × Unit) × H → (Int × Unit) × H → Prop), WellFounded r78 ∧ I77 (0, ()) h57 ∧
  ∀ (s80 : Int) (h79 : H), I77 (s80, ()) h79 →
  ifP (decide (s80 < ((l75 : Nat) : Int))) (ldV h79 ((bk b38).add 2) fun x81 =>
  ixS x81 s80 1 fun a82 =>
  stC h79 a82 (.int .i64 (-9)) fun h83 =>
  I77 ((IntKind.i64.wrap (s80 + 1)), ()) h83 ∧ r78 (((IntKind.i64.wrap (s80 + 1)), ()), h83) ((s80, ()), h79))
  (ldV h79 ((bk b38).add 3) fun x84 =>
  slcP x84 fun a85 l86 c87 =>
  ∃ (I88 : (Int × Unit) → H → Prop) (r89 : (Int × Unit) × H → (Int × Unit) × H → Prop), WellFounded r89 ∧ I88 (0, ()) h79 ∧
  ∀ (s91 : Int) (h90 : H), I88 (s91, ()) h90 →
  ifP (decide (s91 < ((l86 : Nat) : Int))) (ldV h90 ((bk b38).add 3) fun x92 =>
  ldV h90 ((bk b38).add 3) fun x93 =>
  ixS x93 s91 1 fun a94 =>
  ldB h90 a94 fun x95 =>
  ixS x92 s91 1 fun a96 =>
  stC h90 a96 (.bool (!x95)) fun h97 =>
  I88 ((IntKind.i64.wrap (s91 + 1)), ()) h97 ∧ r89 (((IntKind.i64.wrap (s91 + 1)), ()), h97) ((s91, ()), h90))
  (ldN h90 (bk b1) 2 fun x98 =>
  ldN h90 (bk b51) 4 fun x99 =>
  T Try.prog F.proof_Max [.agg ⟨x98⟩, .agg ⟨x99⟩] h90 (rt (fun v100 h101 =>
  ∃ r102 : Int, ∃ r103 : Int, v100 = .tuple ⟨[.int .i64 r102, .int .i64 r103]⟩ ∧
  ifP (!decide (r50 = 0)) (R (.ret (.bool true)) h101) (ifP (decide (r103 = 0)) (R (.ret (.bool (decide (r102 = r49)))) h101) (R (.ret (.bool false)) h101))) (fun v104 h105 => R (.pan v104) h105))))))) (fun v106 h107 => R (.pan v106) h107))) (fun v108 h109 => R (.pan v108) h109))) (fun v110 h111 => R (.pan v110) h111)))) (fun v112 h113 => R (.pan v112) h113)))) (fun v114 h115 => R (.pan v114) h115))
theorem E_compasslaw13_FlowKeeps {p0_g : List Value} {p1_ends : List Value} {p2_kind : Int} {R : Res → H → Prop} {h : H} (H0 : B_compasslaw13_FlowKeeps p0_g p1_ends p2_kind R h) : T Try.prog F.compasslaw13_FlowKeeps [.agg ⟨p0_g⟩, .agg ⟨p1_ends⟩, .int .i64 p2_kind] h R :=
  T_intro A_compasslaw13_FlowKeeps Try.func8 (c := bodyOf Try.f8) (by kernel_rfl) (by kernel_rfl) (by kernel_rfl) (cast_of (by kernel_rfl) H0)

/-! ### compass/compasslaw13.awake -/
def A_compasslaw13_awake : An := ⟨lkA [(0, rng 1), (1, rng 8), (2, rng 1), (3, rng 2), (4, rng 3), (5, rng 11), (6, rng 31), (7, rng 1), (8, rng 1)], lkL [(3, [(2, .int .i64)])], lkC []⟩
def B_compasslaw13_awake  (R : Res → H → Prop) (h : H) : Prop :=
  ([.int .i64 0, .int .i64 1, .int .i64 2, .int .i64 0] : List Value).length = 4 ∧
  ([.int .i64 1, .int .i64 3, .int .i64 9, .int .i64 0] : List Value).length = 4 ∧
  ([.int .i64 0, .int .i64 2, .int .i64 3, .int .i64 0] : List Value).length = 4 ∧
  ([.int .i64 2, .int .i64 3, .int .i64 2, .int .i64 0] : List Value).length = 4 ∧
  newP h (.cells ⟨[.int .i64 0, .int .i64 1, .int .i64 2, .int .i64 0, .int .i64 1, .int .i64 3, .int .i64 9, .int .i64 0, .int .i64 0, .int .i64 2, .int .i64 3, .int .i64 0, .int .i64 2, .int .i64 3, .int .i64 2, .int .i64 0]⟩ 44 (0, 0)) fun b1 h2 =>
  newP h2 (.cells ⟨[.int .i64 0, .slice none 0 0]⟩ 24 (0, 0)) fun b3 h4 =>
  stN h4 (bk b3) [.int .i64 4, .slice (some (bk b1)) 4 4] 2 fun h5 =>
  ∃ (I6 : (Int × Unit) → H → Prop) (r7 : (Int × Unit) × H → (Int × Unit) × H → Prop), WellFounded r7 ∧ I6 (1, ()) h5 ∧
  ∀ (kind_9 : Int) (h8 : H), I6 (kind_9, ()) h8 →
  ifP (decide (kind_9 ≤ 3)) (ldN h8 (bk b3) 2 fun x10 =>
  T Try.prog F.maxflow_Solve [.agg ⟨x10⟩, .int .i64 0, .int .i64 3, .int .i64 kind_9] h8 (rt (fun v11 h12 =>
  ∃ r13 : List Value, r13.length = 4 ∧ ∃ r14 : Int, ∃ r15 : Int, v11 = .tuple ⟨[.agg ⟨r13⟩, .int .i64 r14, .int .i64 r15]⟩ ∧
  newP h12 (.cells ⟨[.int .i64 0, .int .i64 0, .slice none 0 0, .slice none 0 0]⟩ 30 (0, 0)) fun b16 h17 =>
  stN h17 (bk b16) r13 4 fun h18 =>
  ifP (!decide (r15 = 0)) (R (.ret (.bool false)) h18) (ifP (!decide (r14 = 4)) (R (.ret (.bool false)) h18) (ldV h18 ((bk b16).add 2) fun x19 =>
  slcP x19 fun a20 l21 c22 =>
  ifP (!decide (((l21 : Nat) : Int) = 4)) (R (.ret (.bool false)) h18) (ldV h18 ((bk b16).add 3) fun x23 =>
  slcP x23 fun a24 l25 c26 =>
  ifP (!decide (((l25 : Nat) : Int) = 4)) (R (.ret (.bool false)) h18) (ldV h18 ((bk b16).add 3) fun x27 =>
  ixS x27 2 1 fun a28 =>
  ldB h18 a28 fun x29 =>
  ifP (!x29) (R (.ret (.bool false)) h18) (ldV h18 ((bk b16).add 3) fun x30 =>
  ixS x30 1 1 fun a31 =>
  ldB h18 a31 fun x32 =>
  ifP x32 (R (.ret (.bool false)) h18)
  (I6 ((IntKind.i64.wrap (kind_9 + 1)), ()) h18 ∧ r7 (((IntKind.i64.wrap (kind_9 + 1)), ()), h18) ((kind_9, ()), h8)))))))) (fun v33 h34 => R (.pan v33) h34)))
  (R (.ret (.bool true)) h8)
theorem E_compasslaw13_awake  {R : Res → H → Prop} {h : H} (H0 : B_compasslaw13_awake  R h) : T Try.prog F.compasslaw13_awake [] h R :=
  T_intro A_compasslaw13_awake Try.func9 (c := bodyOf Try.f9) (by kernel_rfl) (by kernel_rfl) (by kernel_rfl) (cast_of (by kernel_rfl) H0)

/-! ### compass/maxflow.Solve -/
def A_maxflow_Solve : An := ⟨lkA [(0, rng 4), (1, rng 4), (2, rng 3), (3, ⟨[0, 1, 2, 3, 4, 5], lkN [(3, [2])]⟩), (4, rng 18), (5, rng 4), (6, rng 3), (7, rng 4), (8, rng 5), (9, rng 1), (10, rng 1), (11, rng 4), (12, rng 2), (13, rng 5), (14, rng 2), (15, rng 5), (16, rng 2), (17, rng 5), (18, rng 2), (19, ⟨[0, 1, 2, 6, 3, 4, 7, 5, 8, 9, 10, 11], lkN []⟩), (20, rng 4), (21, rng 1), (22, rng 2), (23, ⟨[0, 2, 3, 4, 5, 7, 8, 9, 1, 6, 10, 11, 12, 13], lkN []⟩), (24, rng 2), (25, rng 1), (26, rng 5), (27, rng 1), (28, rng 5), (29, rng 7), (30, rng 2), (31, rng 4), (32, rng 1), (33, rng 6), (34, rng 15), (35, rng 8), (36, rng 2), (37, rng 5)], lkL [(21, [(91, .int .i64)]), (27, [(112, .int .i64)]), (32, [(16, .int .i64), (127, .int .i64)])], lkC [(6, []), (18, [(13, .val)])]⟩
def B_maxflow_Solve (p0_g : List Value) (p1_s : Int) (p2_t : Int) (p3_kind : Int) (R : Res → H → Prop) (h : H) : Prop :=
  newP h (.cells ⟨p0_g⟩ 24 (0, 0)) fun b1 h2 =>
  newP h2 (.cells ⟨[.int .i64 0, .int .i64 0, .slice none 0 0, .slice none 0 0]⟩ 30 (0, 0)) fun b3 h4 =>
  ldN h4 (bk b1) 2 fun x5 =>
  T Try.prog F.graph_Check [.agg ⟨x5⟩] h4 (rt (fun v6 h7 =>
  ∃ r8 : List Value, r8.length = 2 ∧ v6 = .agg ⟨r8⟩ ∧
  newP h7 (.cells ⟨[.int .i64 0, .int .i64 0]⟩ 51 (0, 0)) fun b9 h10 =>
  stN h10 (bk b9) r8 2 fun h11 =>
  ldI h11 ((bk b9).add 0) .i64 fun x12 =>
  ifP (!decide (x12 = 0)) (ldI h11 ((bk b9).add 0) .i64 fun x13 =>
  stN h11 (bk b3) [.int .i64 0, .int .i64 0, .slice none 0 0, .slice none 0 0] 4 fun h14 =>
  (sameAt 2 ((bk b9).add 0) h11 h14) ∧
  ldN h14 (bk b3) 4 fun x15 =>
  R (.ret (.tuple ⟨[.agg ⟨x15⟩, .int .i64 0, .int .i64 x13]⟩)) h14)
  (∃ J16 : (Unit) → H → Prop, (ifP (decide (p1_s < 0)) (stN h11 (bk b3) [.int .i64 0, .int .i64 0, .slice none 0 0, .slice none 0 0] 4 fun h18 =>
  ldN h18 (bk b3) 4 fun x19 =>
  R (.ret (.tuple ⟨[.agg ⟨x19⟩, .int .i64 0, .int .i64 30]⟩)) h18) (ldI h11 ((bk b1).add 0) .i64 fun x20 =>
  ifP (decide (x20 ≤ p1_s)) (stN h11 (bk b3) [.int .i64 0, .int .i64 0, .slice none 0 0, .slice none 0 0] 4 fun h21 =>
  ldN h21 (bk b3) 4 fun x22 =>
  R (.ret (.tuple ⟨[.agg ⟨x22⟩, .int .i64 0, .int .i64 30]⟩)) h21) (ifP (decide (p2_t < 0)) (stN h11 (bk b3) [.int .i64 0, .int .i64 0, .slice none 0 0, .slice none 0 0] 4 fun h23 =>
  ldN h23 (bk b3) 4 fun x24 =>
  R (.ret (.tuple ⟨[.agg ⟨x24⟩, .int .i64 0, .int .i64 30]⟩)) h23) (ldI h11 ((bk b1).add 0) .i64 fun x25 =>
  ifP (decide (x25 ≤ p2_t)) (stN h11 (bk b3) [.int .i64 0, .int .i64 0, .slice none 0 0, .slice none 0 0] 4 fun h26 =>
  ldN h26 (bk b3) 4 fun x27 =>
  R (.ret (.tuple ⟨[.agg ⟨x27⟩, .int .i64 0, .int .i64 30]⟩)) h26)
  (J16 (()) h11))))) ∧
  (∀  (h17 : H), J16 (()) h17 →
  ifP (decide (p1_s = p2_t)) (stN h17 (bk b3) [.int .i64 0, .int .i64 0, .slice none 0 0, .slice none 0 0] 4 fun h28 =>
  ldN h28 (bk b3) 4 fun x29 =>
  R (.ret (.tuple ⟨[.agg ⟨x29⟩, .int .i64 0, .int .i64 120]⟩)) h28)
  (ldN h17 (bk b1) 2 fun x30 =>
  T Try.prog F.maxflow_newNet [.agg ⟨x30⟩, .int .i64 p1_s, .int .i64 p2_t] h17 (rt (fun v31 h32 =>
  ∃ J33 : (Value × Unit) → H → Prop, (ifP (decide (p3_kind = 1)) (oneP v31 (newP h32 (.cells ⟨[v31, .slice none 0 0, .slice none 0 0]⟩ 60 (0, 0)) fun b36 h37 =>
  J33 ((.iface 57 (.pointer (some (bk b36))) : Value), ()) h37))
  (ifP (decide (p3_kind = 2)) (oneP v31 (newP h32 (.cells ⟨[v31, .pointer none, .slice none 0 0, .slice none 0 0, .slice none 0 0]⟩ 64 (0, 0)) fun b38 h39 =>
  J33 ((.iface 61 (.pointer (some (bk b38))) : Value), ()) h39))
  (ifP (decide (p3_kind = 3)) (oneP v31 (newP h32 (.cells ⟨[v31, .slice none 0 0, .slice none 0 0, .slice none 0 0, .slice none 0 0, .slice none 0 0]⟩ 67 (0, 0)) fun b40 h41 =>
  J33 ((.iface 65 (.pointer (some (bk b40))) : Value), ()) h41))
  (stN h32 (bk b3) [.int .i64 0, .int .i64 0, .slice none 0 0, .slice none 0 0] 4 fun h42 =>
  ldN h42 (bk b3) 4 fun x43 =>
  R (.ret (.tuple ⟨[.agg ⟨x43⟩, .int .i64 0, .int .i64 50]⟩)) h42)))) ∧
  (∀ (w_35 : Value) (h34 : H), J33 (w_35, ()) h34 →
  methP Try.prog h34 w_35 "compass/maxflow.fill" fun f44 rv45 =>
  T Try.prog f44 (rv45 :: []) h34 (rt (fun v46 h47 =>
  v46 = .tuple ⟨[]⟩ ∧
  ldV h47 ((bk b1).add 1) fun x48 =>
  slcP x48 fun a49 l50 c51 =>
  ldI h47 ((bk b1).add 0) .i64 fun x52 =>
  mkS ((l50 : Nat) : Int) ((l50 : Nat) : Int) 8 [.int .i64 0] 2 h47 fun b53 h54 =>
  mkS x52 x52 1 [.bool false] 4 h54 fun b55 h56 =>
  newP h56 (.cells ⟨[.int .i64 0, .int .i64 0, .slice none 0 0, .slice none 0 0]⟩ 30 (0, 0)) fun b57 h58 =>
  stN h58 (bk b57) [.int .i64 p1_s, .int .i64 p2_t, .slice (some (bk b53)) (((l50 : Nat) : Int).toNat) (((l50 : Nat) : Int).toNat), .slice (some (bk b55)) x52.toNat x52.toNat] 4 fun h59 =>
  ldV h59 ((bk b1).add 1) fun x60 =>
  slcP x60 fun a61 l62 c63 =>
  ∃ (I64 : (Int × Unit) → H → Prop) (r65 : (Int × Unit) × H → (Int × Unit) × H → Prop), WellFounded r65 ∧ I64 (0, ()) h59 ∧
  ∀ (s67 : Int) (h66 : H), I64 (s67, ()) h66 →
  ifP (decide (s67 < ((l62 : Nat) : Int))) (ptrP v31 fun a68 =>
  ldV h66 ((bk b57).add 2) fun x69 =>
  ldV h66 (a68.add 1) fun x70 =>
  ixS x70 (IntKind.i64.wrap ((IntKind.i64.wrap (2 * s67)) + 1)) 1 fun a71 =>
  ldI h66 a71 .i64 fun x72 =>
  ixS x69 s67 1 fun a73 =>
  stC h66 a73 (.int .i64 x72) fun h74 =>
  I64 ((IntKind.i64.wrap (s67 + 1)), ()) h74 ∧ r65 (((IntKind.i64.wrap (s67 + 1)), ()), h74) ((s67, ()), h66))
  (T Try.prog F.maxflow_net_levels [v31, .int .i64 p1_s] h66 (rt (fun v75 h76 =>
  slcP v75 fun a77 l78 c79 =>
  ∃ (I80 : (Int × Unit) → H → Prop) (r81 : (Int × Unit) × H → (Int × Unit) × H → Prop), WellFounded r81 ∧ I80 (0, ()) h76 ∧
  ∀ (s83 : Int) (h82 : H), I80 (s83, ()) h82 →
  ifP (decide (s83 < ((l78 : Nat) : Int))) (ixS v75 s83 1 fun a84 =>
  ldI h82 a84 .i64 fun x85 =>
  ldV h82 ((bk b57).add 3) fun x86 =>
  ixS x86 s83 1 fun a87 =>
  stC h82 a87 (.bool (decide (0 ≤ x85))) fun h88 =>
  I80 ((IntKind.i64.wrap (s83 + 1)), ()) h88 ∧ r81 (((IntKind.i64.wrap (s83 + 1)), ()), h88) ((s83, ()), h82))
  (ldV h82 ((bk b1).add 1) fun x89 =>
  slcP x89 fun a90 l91 c92 =>
  ∃ (I93 : (Int × Int × Unit) → H → Prop) (r94 : (Int × Int × Unit) × H → (Int × Int × Unit) × H → Prop), WellFounded r94 ∧ I93 (0, 0, ()) h82 ∧
  ∀ (value_96 : Int) (s97 : Int) (h95 : H), I93 (value_96, s97, ()) h95 →
  ifP (decide (s97 < ((l91 : Nat) : Int))) (ixS x89 s97 4 fun a98 =>
  ldN h95 a98 4 fun x99 =>
  newP h95 (.cells ⟨[.int .i64 0, .int .i64 0, .int .i64 0, .int .i64 0]⟩ 44 (0, 0)) fun b100 h101 =>
  stN h101 (bk b100) x99 4 fun h102 =>
  ldV h102 ((bk b57).add 3) fun x103 =>
  ldI h102 ((bk b100).add 0) .i64 fun x104 =>
  ixS x103 x104 1 fun a105 =>
  ldB h102 a105 fun x106 =>
  ifP x106 (ldV h102 ((bk b57).add 3) fun x107 =>
  ldI h102 ((bk b100).add 1) .i64 fun x108 =>
  ixS x107 x108 1 fun a109 =>
  ldB h102 a109 fun x110 =>
  ifP (!x110) (ldV h102 ((bk b57).add 2) fun x111 =>
  ixS x111 s97 1 fun a112 =>
  ldI h102 a112 .i64 fun x113 =>
  I93 ((IntKind.i64.wrap (value_96 + x113)), (IntKind.i64.wrap (s97 + 1)), ()) h102 ∧ r94 (((IntKind.i64.wrap (value_96 + x113)), (IntKind.i64.wrap (s97 + 1)), ()), h102) ((value_96, s97, ()), h95))
  (I93 (value_96, (IntKind.i64.wrap (s97 + 1)), ()) h102 ∧ r94 ((value_96, (IntKind.i64.wrap (s97 + 1)), ()), h102) ((value_96, s97, ()), h95))) (I93 (value_96, (IntKind.i64.wrap (s97 + 1)), ()) h102 ∧ r94 ((value_96, (IntKind.i64.wrap (s97 + 1)), ()), h102) ((value_96, s97, ()), h95)))
  (ldN h95 (bk b57) 4 fun x114 =>
  stN h95 (bk b3) x114 4 fun h115 =>
  ldN h115 (bk b3) 4 fun x116 =>
  R (.ret (.tuple ⟨[.agg ⟨x116⟩, .int .i64 value_96, .int .i64 0]⟩)) h115))) (fun v117 h118 => R (.pan v117) h118)))) (fun v119 h120 => R (.pan v119) h120)))) (fun v121 h122 => R (.pan v121) h122)))))) (fun v123 h124 => R (.pan v123) h124))
theorem E_maxflow_Solve {p0_g : List Value} {p1_s : Int} {p2_t : Int} {p3_kind : Int} {R : Res → H → Prop} {h : H} (H0 : B_maxflow_Solve p0_g p1_s p2_t p3_kind R h) : T Try.prog F.maxflow_Solve [.agg ⟨p0_g⟩, .int .i64 p1_s, .int .i64 p2_t, .int .i64 p3_kind] h R :=
  T_intro A_maxflow_Solve Try.func10 (c := bodyOf Try.f10) (by kernel_rfl) (by kernel_rfl) (by kernel_rfl) (cast_of (by kernel_rfl) H0)

/-! ### compass/compassref13.Wrong -/
def A_compassref13_Wrong : An := ⟨lkA [(0, rng 2), (1, rng 5), (2, rng 10), (3, rng 1), (4, rng 2)], lkL [], lkC []⟩
def B_compassref13_Wrong (p0_g : List Value) (p1_s : Int) (p2_t : Int) (p3_kind : Int) (R : Res → H → Prop) (h : H) : Prop :=
  newP h (.cells ⟨p0_g⟩ 24 (0, 0)) fun b1 h2 =>
  ldN h2 (bk b1) 2 fun x3 =>
  T Try.prog F.compassref11_Ends [.agg ⟨x3⟩, .int .i64 p1_s, .int .i64 p2_t] h2 (rt (fun v4 h5 =>
  ∃ r6, v4 = .int .i64 r6 ∧
  ifP (decide (r6 = 0)) (ifP (decide (p3_kind < 1)) (R (.ret (.int .i64 50)) h5) (ifP (decide (3 < p3_kind)) (R (.ret (.int .i64 50)) h5)
  (R (.ret (.int .i64 r6)) h5))) (R (.ret (.int .i64 r6)) h5)) (fun v7 h8 => R (.pan v7) h8))
theorem E_compassref13_Wrong {p0_g : List Value} {p1_s : Int} {p2_t : Int} {p3_kind : Int} {R : Res → H → Prop} {h : H} (H0 : B_compassref13_Wrong p0_g p1_s p2_t p3_kind R h) : T Try.prog F.compassref13_Wrong [.agg ⟨p0_g⟩, .int .i64 p1_s, .int .i64 p2_t, .int .i64 p3_kind] h R :=
  T_intro A_compassref13_Wrong Try.func11 (c := bodyOf Try.f11) (by kernel_rfl) (by kernel_rfl) (by kernel_rfl) (cast_of (by kernel_rfl) H0)

/-! ### compass/compasslaw13.empty -/
def A_compasslaw13_empty : An := ⟨lkA [(0, rng 2), (1, rng 21)], lkL [], lkC []⟩
def B_compasslaw13_empty (p0_f : List Value) (R : Res → H → Prop) (h : H) : Prop :=
  newP h (.cells ⟨p0_f⟩ 30 (0, 0)) fun b1 h2 =>
  ldI h2 ((bk b1).add 0) .i64 fun x3 =>
  ifP (decide (x3 = 0)) (ldI h2 ((bk b1).add 1) .i64 fun x4 =>
  ifP (decide (x4 = 0)) (ldV h2 ((bk b1).add 2) fun x5 =>
  slcP x5 fun a6 l7 c8 =>
  ifP (decide (((l7 : Nat) : Int) = 0)) (ldV h2 ((bk b1).add 3) fun x9 =>
  slcP x9 fun a10 l11 c12 =>
  R (.ret (.bool (decide (((l11 : Nat) : Int) = 0)))) h2) (R (.ret (.bool false)) h2)) (R (.ret (.bool false)) h2)) (R (.ret (.bool false)) h2)
theorem E_compasslaw13_empty {p0_f : List Value} {R : Res → H → Prop} {h : H} (H0 : B_compasslaw13_empty p0_f R h) : T Try.prog F.compasslaw13_empty [.agg ⟨p0_f⟩] h R :=
  T_intro A_compasslaw13_empty Try.func12 (c := bodyOf Try.f12) (by kernel_rfl) (by kernel_rfl) (by kernel_rfl) (cast_of (by kernel_rfl) H0)

/-! ### compass/compassref13.Value -/
def A_compassref13_Value : An := ⟨lkA [(0, rng 3), (1, rng 9), (2, rng 7)], lkL [], lkC []⟩
def B_compassref13_Value (p0_g : List Value) (p1_s : Int) (p2_t : Int) (R : Res → H → Prop) (h : H) : Prop :=
  newP h (.cells ⟨p0_g⟩ 24 (0, 0)) fun b1 h2 =>
  ldN h2 (bk b1) 2 fun x3 =>
  T Try.prog F.compassref11_MaxFlow [.agg ⟨x3⟩, .int .i64 p1_s, .int .i64 p2_t] h2 (rt (fun v4 h5 =>
  ∃ r6 : Value, ∃ r7 : Value, v4 = .tuple ⟨[r6, r7]⟩ ∧
  ldN h5 (bk b1) 2 fun x8 =>
  T Try.prog F.compassref11_Out [.agg ⟨x8⟩, r6, .int .i64 p1_s] h5 (rt (fun v9 h10 =>
  ∃ r11, v9 = .int .i64 r11 ∧
  R (.ret (.tuple ⟨[.int .i64 r11, r7]⟩)) h10) (fun v12 h13 => R (.pan v12) h13))) (fun v14 h15 => R (.pan v14) h15))
theorem E_compassref13_Value {p0_g : List Value} {p1_s : Int} {p2_t : Int} {R : Res → H → Prop} {h : H} (H0 : B_compassref13_Value p0_g p1_s p2_t R h) : T Try.prog F.compassref13_Value [.agg ⟨p0_g⟩, .int .i64 p1_s, .int .i64 p2_t] h R :=
  T_intro A_compassref13_Value Try.func13 (c := bodyOf Try.f13) (by kernel_rfl) (by kernel_rfl) (by kernel_rfl) (cast_of (by kernel_rfl) H0)

/-! ### compass/compassref11.Max -/
def A_compassref11_Max : An := ⟨lkA [(0, rng 3), (1, rng 5), (2, rng 2), (3, rng 3), (4, rng 18), (5, rng 2), (6, rng 4), (7, rng 7), (8, rng 2), (9, rng 3)], lkL [], lkC [(6, [])]⟩
def B_compassref11_Max (p0_g : List Value) (p1_s : Int) (p2_t : Int) (p3_on : Value) (p4_side : Value) (R : Res → H → Prop) (h : H) : Prop :=
  newP h (.cells ⟨p0_g⟩ 24 (0, 0)) fun b1 h2 =>
  ldN h2 (bk b1) 2 fun x3 =>
  T Try.prog F.compassref11_Ends [.agg ⟨x3⟩, .int .i64 p1_s, .int .i64 p2_t] h2 (rt (fun v4 h5 =>
  ∃ r6, v4 = .int .i64 r6 ∧
  ifP (!decide (r6 = 0)) (R (.ret (.tuple ⟨[.int .i64 0, .int .i64 r6]⟩)) h5)
  (∃ J7 : (Unit) → H → Prop, (slcP p4_side fun a9 l10 c11 =>
  ldI h5 ((bk b1).add 0) .i64 fun x12 =>
  ifP (!decide (((l10 : Nat) : Int) = x12)) (R (.ret (.tuple ⟨[.int .i64 0, .int .i64 221]⟩)) h5) (ixS p4_side p1_s 1 fun a13 =>
  ldB h5 a13 fun x14 =>
  ifP (!x14) (R (.ret (.tuple ⟨[.int .i64 0, .int .i64 221]⟩)) h5) (ixS p4_side p2_t 1 fun a15 =>
  ldB h5 a15 fun x16 =>
  ifP x16 (R (.ret (.tuple ⟨[.int .i64 0, .int .i64 221]⟩)) h5)
  (J7 (()) h5)))) ∧
  (∀  (h8 : H), J7 (()) h8 →
  ldN h8 (bk b1) 2 fun x17 =>
  T Try.prog F.compassref11_Cut [.agg ⟨x17⟩, p4_side] h8 (rt (fun v18 h19 =>
  ∃ r20, v18 = .int .i64 r20 ∧
  ldN h19 (bk b1) 2 fun x21 =>
  T Try.prog F.compassref11_Flows [.agg ⟨x21⟩, .int .i64 p1_s, .int .i64 p2_t, p3_on, .int .i64 r20] h19 (rt (fun v22 h23 =>
  ∃ r24, v22 = .bool r24 ∧
  ifP (!r24) (R (.ret (.tuple ⟨[.int .i64 0, .int .i64 221]⟩)) h23)
  (R (.ret (.tuple ⟨[.int .i64 r20, .int .i64 0]⟩)) h23)) (fun v25 h26 => R (.pan v25) h26))) (fun v27 h28 => R (.pan v27) h28))))) (fun v29 h30 => R (.pan v29) h30))
theorem E_compassref11_Max {p0_g : List Value} {p1_s : Int} {p2_t : Int} {p3_on : Value} {p4_side : Value} {R : Res → H → Prop} {h : H} (H0 : B_compassref11_Max p0_g p1_s p2_t p3_on p4_side R h) : T Try.prog F.compassref11_Max [.agg ⟨p0_g⟩, .int .i64 p1_s, .int .i64 p2_t, p3_on, p4_side] h R :=
  T_intro A_compassref11_Max Try.func14 (c := bodyOf Try.f14) (by kernel_rfl) (by kernel_rfl) (by kernel_rfl) (cast_of (by kernel_rfl) H0)

/-! ### compass/compasslaw13.bools -/
def A_compasslaw13_bools : An := ⟨lkA [(0, rng 1), (1, rng 5), (2, rng 1), (3, rng 3), (4, rng 1), (5, rng 2), (6, ⟨[0, 1, 2, 4, 5, 6, 3, 7, 8], lkN []⟩), (7, rng 1), (8, rng 2), (9, rng 1)], lkL [(4, [(13, .int .i64)])], lkC []⟩
def B_compasslaw13_bools (p0_a : Value) (p1_b : Value) (R : Res → H → Prop) (h : H) : Prop :=
  slcP p0_a fun a1 l2 c3 =>
  slcP p1_b fun a4 l5 c6 =>
  ifP (!decide (((l2 : Nat) : Int) = ((l5 : Nat) : Int))) (R (.ret (.bool false)) h)
  (slcP p0_a fun a7 l8 c9 =>
  ∃ (I10 : (Int × Unit) → H → Prop) (r11 : (Int × Unit) × H → (Int × Unit) × H → Prop), WellFounded r11 ∧ I10 (0, ()) h ∧
  ∀ (s13 : Int) (h12 : H), I10 (s13, ()) h12 →
  ifP (decide (s13 < ((l8 : Nat) : Int))) (ixS p0_a s13 1 fun a14 =>
  ixS p1_b s13 1 fun a15 =>
  ldB h12 a14 fun x16 =>
  ldB h12 a15 fun x17 =>
  ifP (!(x16 == x17)) (R (.ret (.bool false)) h12)
  (I10 ((IntKind.i64.wrap (s13 + 1)), ()) h12 ∧ r11 (((IntKind.i64.wrap (s13 + 1)), ()), h12) ((s13, ()), h12)))
  (R (.ret (.bool true)) h12))
theorem E_compasslaw13_bools {p0_a : Value} {p1_b : Value} {R : Res → H → Prop} {h : H} (H0 : B_compasslaw13_bools p0_a p1_b R h) : T Try.prog F.compasslaw13_bools [p0_a, p1_b] h R :=
  T_intro A_compasslaw13_bools Try.func15 (c := bodyOf Try.f15) (by kernel_rfl) (by kernel_rfl) (by kernel_rfl) (cast_of (by kernel_rfl) H0)

/-! ### compass/compassref03.Reverse -/
def A_compassref03_Reverse : An := ⟨lkA [(0, rng 2), (1, rng 5), (2, rng 1), (3, rng 5), (4, rng 3), (5, rng 7), (6, rng 15), (7, rng 2)], lkL [(3, [(4, .int .i64)])], lkC []⟩
def B_compassref03_Reverse (p0_g : List Value) (R : Res → H → Prop) (h : H) : Prop :=
  newP h (.cells ⟨p0_g⟩ 24 (0, 0)) fun b1 h2 =>
  newP h2 (.cells ⟨[.int .i64 0, .slice none 0 0]⟩ 24 (0, 0)) fun b3 h4 =>
  ldI h4 ((bk b1).add 0) .i64 fun x5 =>
  newP h4 (.cells ⟨[.int .i64 0, .slice none 0 0]⟩ 24 (0, 0)) fun b6 h7 =>
  stN h7 (bk b6) [.int .i64 x5, .slice none 0 0] 2 fun h8 =>
  ∃ (I9 : (Int × Unit) → H → Prop) (r10 : (Int × Unit) × H → (Int × Unit) × H → Prop), WellFounded r10 ∧ I9 (0, ()) h8 ∧
  ∀ (i_12 : Int) (h11 : H), I9 (i_12, ()) h11 →
  ldV h11 ((bk b1).add 1) fun x13 =>
  slcP x13 fun a14 l15 c16 =>
  ifP (decide (i_12 < ((l15 : Nat) : Int))) (ldV h11 ((bk b1).add 1) fun x17 =>
  ixS x17 i_12 4 fun a18 =>
  ldN h11 a18 4 fun x19 =>
  newP h11 (.cells ⟨[.int .i64 0, .int .i64 0, .int .i64 0, .int .i64 0]⟩ 44 (0, 0)) fun b20 h21 =>
  stN h21 (bk b20) x19 4 fun h22 =>
  ldV h22 ((bk b6).add 1) fun x23 =>
  ldI h22 ((bk b20).add 1) .i64 fun x24 =>
  ldI h22 ((bk b20).add 0) .i64 fun x25 =>
  ldI h22 ((bk b20).add 2) .i64 fun x26 =>
  ldI h22 ((bk b20).add 3) .i64 fun x27 =>
  ([.int .i64 x24, .int .i64 x25, .int .i64 x26, .int .i64 x27] : List Value).length = 4 ∧
  newP h22 (.cells ⟨[.int .i64 x24, .int .i64 x25, .int .i64 x26, .int .i64 x27]⟩ 44 (0, 0)) fun b28 h29 =>
  apP x23 (.slice (some (bk b28)) 1 1) h29 4 44 32 [.int .i64 0, .int .i64 0, .int .i64 0, .int .i64 0] fun s30 h31 =>
  oneP s30 (stC h31 ((bk b6).add 1) s30 fun h32 =>
  I9 ((IntKind.i64.wrap (i_12 + 1)), ()) h32 ∧ r10 (((IntKind.i64.wrap (i_12 + 1)), ()), h32) ((i_12, ()), h11)))
  (ldN h11 (bk b6) 2 fun x33 =>
  stN h11 (bk b3) x33 2 fun h34 =>
  ldN h34 (bk b3) 2 fun x35 =>
  R (.ret (.agg ⟨x35⟩)) h34)
theorem E_compassref03_Reverse {p0_g : List Value} {R : Res → H → Prop} {h : H} (H0 : B_compassref03_Reverse p0_g R h) : T Try.prog F.compassref03_Reverse [.agg ⟨p0_g⟩] h R :=
  T_intro A_compassref03_Reverse Try.func16 (c := bodyOf Try.f16) (by kernel_rfl) (by kernel_rfl) (by kernel_rfl) (cast_of (by kernel_rfl) H0)

/-! ### compass/compassref03.Copy -/
def A_compassref03_Copy : An := ⟨lkA [(0, rng 2), (1, rng 5), (2, rng 1), (3, rng 5), (4, rng 3), (5, ⟨[0, 2, 4, 1, 3, 5, 6, 7, 8, 9, 10], lkN []⟩), (6, rng 2)], lkL [(3, [(4, .int .i64)])], lkC []⟩
def B_compassref03_Copy (p0_g : List Value) (R : Res → H → Prop) (h : H) : Prop :=
  newP h (.cells ⟨p0_g⟩ 24 (0, 0)) fun b1 h2 =>
  newP h2 (.cells ⟨[.int .i64 0, .slice none 0 0]⟩ 24 (0, 0)) fun b3 h4 =>
  ldI h4 ((bk b1).add 0) .i64 fun x5 =>
  newP h4 (.cells ⟨[.int .i64 0, .slice none 0 0]⟩ 24 (0, 0)) fun b6 h7 =>
  stN h7 (bk b6) [.int .i64 x5, .slice none 0 0] 2 fun h8 =>
  ∃ (I9 : (Int × Unit) → H → Prop) (r10 : (Int × Unit) × H → (Int × Unit) × H → Prop), WellFounded r10 ∧ I9 (0, ()) h8 ∧
  ∀ (i_12 : Int) (h11 : H), I9 (i_12, ()) h11 →
  ldV h11 ((bk b1).add 1) fun x13 =>
  slcP x13 fun a14 l15 c16 =>
  ifP (decide (i_12 < ((l15 : Nat) : Int))) (ldV h11 ((bk b6).add 1) fun x17 =>
  ldV h11 ((bk b1).add 1) fun x18 =>
  ixS x18 i_12 4 fun a19 =>
  ldN h11 a19 4 fun x20 =>
  (x20).length = 4 ∧
  newP h11 (.cells ⟨(x20 ++ [])⟩ 44 (0, 0)) fun b21 h22 =>
  apP x17 (.slice (some (bk b21)) 1 1) h22 4 44 32 [.int .i64 0, .int .i64 0, .int .i64 0, .int .i64 0] fun s23 h24 =>
  oneP s23 (stC h24 ((bk b6).add 1) s23 fun h25 =>
  I9 ((IntKind.i64.wrap (i_12 + 1)), ()) h25 ∧ r10 (((IntKind.i64.wrap (i_12 + 1)), ()), h25) ((i_12, ()), h11)))
  (ldN h11 (bk b6) 2 fun x26 =>
  stN h11 (bk b3) x26 2 fun h27 =>
  ldN h27 (bk b3) 2 fun x28 =>
  R (.ret (.agg ⟨x28⟩)) h27)
theorem E_compassref03_Copy {p0_g : List Value} {R : Res → H → Prop} {h : H} (H0 : B_compassref03_Copy p0_g R h) : T Try.prog F.compassref03_Copy [.agg ⟨p0_g⟩] h R :=
  T_intro A_compassref03_Copy Try.func17 (c := bodyOf Try.f17) (by kernel_rfl) (by kernel_rfl) (by kernel_rfl) (cast_of (by kernel_rfl) H0)

/-! ### compass/compassref11.Out -/
def A_compassref11_Out : An := ⟨lkA [(0, rng 2), (1, rng 1), (2, rng 1), (3, rng 4), (4, rng 3), (5, rng 8), (6, rng 7), (7, rng 8), (8, rng 7), (9, rng 2)], lkL [(3, [(7, .int .i64), (8, .int .i64)])], lkC [(7, [(7, .int .i64)])]⟩
def B_compassref11_Out (p0_g : List Value) (p1_on : Value) (p2_v : Int) (R : Res → H → Prop) (h : H) : Prop :=
  newP h (.cells ⟨p0_g⟩ 24 (0, 0)) fun b1 h2 =>
  ∃ (I3 : (Int × Int × Unit) → H → Prop) (r4 : (Int × Int × Unit) × H → (Int × Int × Unit) × H → Prop), WellFounded r4 ∧ I3 (0, 0, ()) h2 ∧
  ∀ (n_6 : Int) (i_7 : Int) (h5 : H), I3 (n_6, i_7, ()) h5 →
  slcP p1_on fun a8 l9 c10 =>
  ifP (decide (i_7 < ((l9 : Nat) : Int))) (∃ J11 : (Int × Unit) → H → Prop, (ldV h5 ((bk b1).add 1) fun x14 =>
  ixS x14 i_7 4 fun a15 =>
  ldI h5 (a15.add 0) .i64 fun x16 =>
  ifP (decide (x16 = p2_v)) (ixS p1_on i_7 1 fun a17 =>
  ldI h5 a17 .i64 fun x18 =>
  J11 ((IntKind.i64.wrap (n_6 + x18)), ()) h5)
  (J11 (n_6, ()) h5)) ∧
  (∀ (n_13 : Int) (h12 : H), J11 (n_13, ()) h12 →
  ldV h12 ((bk b1).add 1) fun x19 =>
  ixS x19 i_7 4 fun a20 =>
  ldI h12 (a20.add 1) .i64 fun x21 =>
  ifP (decide (x21 = p2_v)) (ixS p1_on i_7 1 fun a22 =>
  ldI h12 a22 .i64 fun x23 =>
  I3 ((IntKind.i64.wrap (n_13 - x23)), (IntKind.i64.wrap (i_7 + 1)), ()) h12 ∧ r4 (((IntKind.i64.wrap (n_13 - x23)), (IntKind.i64.wrap (i_7 + 1)), ()), h12) ((n_6, i_7, ()), h5))
  (I3 (n_13, (IntKind.i64.wrap (i_7 + 1)), ()) h12 ∧ r4 ((n_13, (IntKind.i64.wrap (i_7 + 1)), ()), h12) ((n_6, i_7, ()), h5))))
  (R (.ret (.int .i64 n_6)) h5)
theorem E_compassref11_Out {p0_g : List Value} {p1_on : Value} {p2_v : Int} {R : Res → H → Prop} {h : H} (H0 : B_compassref11_Out p0_g p1_on p2_v R h) : T Try.prog F.compassref11_Out [.agg ⟨p0_g⟩, p1_on, .int .i64 p2_v] h R :=
  T_intro A_compassref11_Out Try.func18 (c := bodyOf Try.f18) (by kernel_rfl) (by kernel_rfl) (by kernel_rfl) (cast_of (by kernel_rfl) H0)

/-! ### compass/proof.Max -/
def A_proof_Max : An := ⟨lkA [(0, rng 4), (1, rng 2), (2, rng 3), (3, rng 4)], lkL [], lkC []⟩
def B_proof_Max (p0_g : List Value) (p1_f : List Value) (R : Res → H → Prop) (h : H) : Prop :=
  newP h (.cells ⟨p0_g⟩ 24 (0, 0)) fun b1 h2 =>
  newP h2 (.cells ⟨p1_f⟩ 30 (0, 0)) fun b3 h4 =>
  newP h4 (.cells ⟨[.int .i64 0]⟩ 2 (0, 0)) fun b5 h6 =>
  stC h6 (bk b5) (.int .i64 0) fun h7 =>
  T Try.prog F.proof_look [.func (.func 29) ⟨[]⟩ ⟨[.pointer (some (bk b1)), .pointer (some (bk b3)), .pointer (some (bk b5))]⟩] h7 (rt (fun v8 h9 =>
  ∃ r10, v8 = .int .i64 r10 ∧
  ldI h9 (bk b5) .i64 fun x11 =>
  R (.ret (.tuple ⟨[.int .i64 x11, .int .i64 r10]⟩)) h9) (fun v12 h13 => R (.pan v12) h13))
theorem E_proof_Max {p0_g : List Value} {p1_f : List Value} {R : Res → H → Prop} {h : H} (H0 : B_proof_Max p0_g p1_f R h) : T Try.prog F.proof_Max [.agg ⟨p0_g⟩, .agg ⟨p1_f⟩] h R :=
  T_intro A_proof_Max Try.func19 (c := bodyOf Try.f19) (by kernel_rfl) (by kernel_rfl) (by kernel_rfl) (cast_of (by kernel_rfl) H0)

/-! ### compass/compassref03.Same -/
def A_compassref03_Same : An := ⟨lkA [(0, rng 3), (1, rng 14), (2, rng 1), (3, rng 1), (4, rng 5), (5, rng 3), (6, ⟨[0, 2, 5, 7, 1, 3, 4, 6, 8, 9, 10], lkN []⟩), (7, rng 1), (8, rng 1)], lkL [(4, [(5, .int .i64)])], lkC []⟩
def B_compassref03_Same (p0_a : List Value) (p1_b : List Value) (R : Res → H → Prop) (h : H) : Prop :=
  newP h (.cells ⟨p0_a⟩ 24 (0, 0)) fun b1 h2 =>
  newP h2 (.cells ⟨p1_b⟩ 24 (0, 0)) fun b3 h4 =>
  ldI h4 ((bk b1).add 0) .i64 fun x5 =>
  ldI h4 ((bk b3).add 0) .i64 fun x6 =>
  ifP (!decide (x5 = x6)) (R (.ret (.bool false)) h4) (ldV h4 ((bk b1).add 1) fun x7 =>
  slcP x7 fun a8 l9 c10 =>
  ldV h4 ((bk b3).add 1) fun x11 =>
  slcP x11 fun a12 l13 c14 =>
  ifP (!decide (((l9 : Nat) : Int) = ((l13 : Nat) : Int))) (R (.ret (.bool false)) h4)
  (∃ (I15 : (Int × Unit) → H → Prop) (r16 : (Int × Unit) × H → (Int × Unit) × H → Prop), WellFounded r16 ∧ I15 (0, ()) h4 ∧
  ∀ (i_18 : Int) (h17 : H), I15 (i_18, ()) h17 →
  ldV h17 ((bk b1).add 1) fun x19 =>
  slcP x19 fun a20 l21 c22 =>
  ifP (decide (i_18 < ((l21 : Nat) : Int))) (ldV h17 ((bk b1).add 1) fun x23 =>
  ixS x23 i_18 4 fun a24 =>
  ldN h17 a24 4 fun x25 =>
  ldV h17 ((bk b3).add 1) fun x26 =>
  ixS x26 i_18 4 fun a27 =>
  ldN h17 a27 4 fun x28 =>
  runP Try.prog h17 (do eqGuard .neq 44 (.tmp 31) (.tmp 36) (.agg ⟨x25⟩) (.agg ⟨x28⟩); binOp .neq 44 (.agg ⟨x25⟩) (.agg ⟨x28⟩)) fun r29 =>
  boolP r29 fun b30 =>
  ifP b30 (R (.ret (.bool false)) h17)
  (I15 ((IntKind.i64.wrap (i_18 + 1)), ()) h17 ∧ r16 (((IntKind.i64.wrap (i_18 + 1)), ()), h17) ((i_18, ()), h17)))
  (R (.ret (.bool true)) h17)))
theorem E_compassref03_Same {p0_a : List Value} {p1_b : List Value} {R : Res → H → Prop} {h : H} (H0 : B_compassref03_Same p0_a p1_b R h) : T Try.prog F.compassref03_Same [.agg ⟨p0_a⟩, .agg ⟨p1_b⟩] h R :=
  T_intro A_compassref03_Same Try.func20 (c := bodyOf Try.f20) (by kernel_rfl) (by kernel_rfl) (by kernel_rfl) (cast_of (by kernel_rfl) H0)

/-! ### compass/graph.Check -/
def A_graph_Check : An := ⟨lkA [(0, rng 2), (1, rng 14), (2, rng 2), (3, rng 4), (4, rng 1), (5, rng 6), (6, rng 23), (7, rng 3), (8, rng 4), (9, rng 3), (10, rng 2), (11, rng 2)], lkL [(4, [(23, .int .i64)])], lkC [(3, [])]⟩
def B_graph_Check (p0_g : List Value) (R : Res → H → Prop) (h : H) : Prop :=
  newP h (.cells ⟨p0_g⟩ 24 (0, 0)) fun b1 h2 =>
  newP h2 (.cells ⟨[.int .i64 0, .int .i64 0]⟩ 51 (0, 0)) fun b3 h4 =>
  ∃ J5 : (Unit) → H → Prop, (ldI h4 ((bk b1).add 0) .i64 fun x7 =>
  ifP (decide (x7 < 0)) (stN h4 (bk b3) [.int .i64 3, .int .i64 0] 2 fun h8 =>
  ldN h8 (bk b3) 2 fun x9 =>
  R (.ret (.agg ⟨x9⟩)) h8) (ldI h4 ((bk b1).add 0) .i64 fun x10 =>
  ifP (decide (1024 < x10)) (stN h4 (bk b3) [.int .i64 3, .int .i64 0] 2 fun h11 =>
  ldN h11 (bk b3) 2 fun x12 =>
  R (.ret (.agg ⟨x12⟩)) h11) (ldV h4 ((bk b1).add 1) fun x13 =>
  slcP x13 fun a14 l15 c16 =>
  ifP (decide (4096 < ((l15 : Nat) : Int))) (stN h4 (bk b3) [.int .i64 3, .int .i64 0] 2 fun h17 =>
  ldN h17 (bk b3) 2 fun x18 =>
  R (.ret (.agg ⟨x18⟩)) h17)
  (J5 (()) h4)))) ∧
  (∀  (h6 : H), J5 (()) h6 →
  ldV h6 ((bk b1).add 1) fun x19 =>
  slcP x19 fun a20 l21 c22 =>
  ∃ (I23 : (Int × Unit) → H → Prop) (r24 : (Int × Unit) × H → (Int × Unit) × H → Prop), WellFounded r24 ∧ I23 (0, ()) h6 ∧
  ∀ (s26 : Int) (h25 : H), I23 (s26, ()) h25 →
  ifP (decide (s26 < ((l21 : Nat) : Int))) (ixS x19 s26 4 fun a27 =>
  ldN h25 a27 4 fun x28 =>
  newP h25 (.cells ⟨[.int .i64 0, .int .i64 0, .int .i64 0, .int .i64 0]⟩ 44 (0, 0)) fun b29 h30 =>
  stN h30 (bk b29) x28 4 fun h31 =>
  ldI h31 ((bk b29).add 0) .i64 fun x32 =>
  ifP (decide (x32 < 0)) (stN h31 (bk b3) [.int .i64 30, .int .i64 s26] 2 fun h33 =>
  ldN h33 (bk b3) 2 fun x34 =>
  R (.ret (.agg ⟨x34⟩)) h33) (ldI h31 ((bk b29).add 0) .i64 fun x35 =>
  ldI h31 ((bk b1).add 0) .i64 fun x36 =>
  ifP (decide (x36 ≤ x35)) (stN h31 (bk b3) [.int .i64 30, .int .i64 s26] 2 fun h37 =>
  ldN h37 (bk b3) 2 fun x38 =>
  R (.ret (.agg ⟨x38⟩)) h37) (ldI h31 ((bk b29).add 1) .i64 fun x39 =>
  ifP (decide (x39 < 0)) (stN h31 (bk b3) [.int .i64 30, .int .i64 s26] 2 fun h40 =>
  ldN h40 (bk b3) 2 fun x41 =>
  R (.ret (.agg ⟨x41⟩)) h40) (ldI h31 ((bk b29).add 1) .i64 fun x42 =>
  ldI h31 ((bk b1).add 0) .i64 fun x43 =>
  ifP (decide (x43 ≤ x42)) (stN h31 (bk b3) [.int .i64 30, .int .i64 s26] 2 fun h44 =>
  ldN h44 (bk b3) 2 fun x45 =>
  R (.ret (.agg ⟨x45⟩)) h44)
  (ldN h31 (bk b29) 4 fun x46 =>
  T Try.prog F.graph_label [.agg ⟨x46⟩] h31 (rt (fun v47 h48 =>
  ∃ r49, v47 = .bool r49 ∧
  ifP (!r49) (stN h48 (bk b3) [.int .i64 31, .int .i64 s26] 2 fun h50 =>
  ldN h50 (bk b3) 2 fun x51 =>
  R (.ret (.agg ⟨x51⟩)) h50)
  (I23 ((IntKind.i64.wrap (s26 + 1)), ()) h48 ∧ r24 (((IntKind.i64.wrap (s26 + 1)), ()), h48) ((s26, ()), h25))) (fun v52 h53 => R (.pan v52) h53)))))))
  (stN h25 (bk b3) [.int .i64 0, .int .i64 0] 2 fun h54 =>
  ldN h54 (bk b3) 2 fun x55 =>
  R (.ret (.agg ⟨x55⟩)) h54))
theorem E_graph_Check {p0_g : List Value} {R : Res → H → Prop} {h : H} (H0 : B_graph_Check p0_g R h) : T Try.prog F.graph_Check [.agg ⟨p0_g⟩] h R :=
  T_intro A_graph_Check Try.func21 (c := bodyOf Try.f21) (by kernel_rfl) (by kernel_rfl) (by kernel_rfl) (cast_of (by kernel_rfl) H0)

/-! ### compass/maxflow.newNet -/
def A_maxflow_newNet : An := ⟨lkA [(0, rng 2), (1, rng 8), (2, rng 4), (3, rng 1), (4, rng 4), (5, rng 6), (6, ⟨[0, 1, 2, 3, 5, 7, 4, 6, 8, 9, 10, 11, 12, 13], lkN []⟩), (7, ⟨[0, 1, 2, 3, 5, 4, 6, 7, 8, 9, 10, 11], lkN []⟩), (8, ⟨[0, 1, 2, 4, 6, 7, 8, 10, 14, 3, 5, 9, 11, 12, 13, 15, 16, 17, 18], lkN [(16, [3, 5])]⟩), (9, ⟨[0, 1, 2, 4, 6, 7, 8, 10, 14, 15, 3, 5, 9, 11, 12, 13, 16, 17, 18, 19], lkN [(17, [3, 5])]⟩), (10, rng 2), (11, rng 2)], lkL [(3, [(21, .int .i64)])], lkC []⟩
def B_maxflow_newNet (p0_g : List Value) (p1_s : Int) (p2_t : Int) (R : Res → H → Prop) (h : H) : Prop :=
  newP h (.cells ⟨p0_g⟩ 24 (0, 0)) fun b1 h2 =>
  ldI h2 ((bk b1).add 0) .i64 fun x3 =>
  mkS x3 x3 24 [.slice none 0 0] 58 h2 fun b4 h5 =>
  newP h5 (.cells ⟨[.slice none 0 0, .slice none 0 0, .slice (some (bk b4)) x3.toNat x3.toNat, .int .i64 p1_s, .int .i64 p2_t]⟩ 70 (0, 0)) fun b6 h7 =>
  ldV h7 ((bk b1).add 1) fun x8 =>
  slcP x8 fun a9 l10 c11 =>
  ∃ (I12 : (Int × Unit) → H → Prop) (r13 : (Int × Unit) × H → (Int × Unit) × H → Prop), WellFounded r13 ∧ I12 (0, ()) h7 ∧
  ∀ (s15 : Int) (h14 : H), I12 (s15, ()) h14 →
  ifP (decide (s15 < ((l10 : Nat) : Int))) (ixS x8 s15 4 fun a16 =>
  ldN h14 a16 4 fun x17 =>
  newP h14 (.cells ⟨[.int .i64 0, .int .i64 0, .int .i64 0, .int .i64 0]⟩ 44 (0, 0)) fun b18 h19 =>
  stN h19 (bk b18) x17 4 fun h20 =>
  ldV h20 ((bk b6).add 0) fun x21 =>
  slcP x21 fun a22 l23 c24 =>
  ldV h20 ((bk b6).add 0) fun x25 =>
  ldI h20 ((bk b18).add 1) .i64 fun x26 =>
  ldI h20 ((bk b18).add 0) .i64 fun x27 =>
  newP h20 (.cells ⟨[.int .i64 x26, .int .i64 x27]⟩ 3 (0, 0)) fun b28 h29 =>
  apP x25 (.slice (some (bk b28)) 2 2) h29 1 3 8 [.int .i64 0] fun s30 h31 =>
  oneP s30 (stC h31 ((bk b6).add 0) s30 fun h32 =>
  ldV h32 ((bk b6).add 1) fun x33 =>
  ldI h32 ((bk b18).add 2) .i64 fun x34 =>
  newP h32 (.cells ⟨[.int .i64 x34, .int .i64 0]⟩ 2 (0, 0)) fun b35 h36 =>
  apP x33 (.slice (some (bk b35)) 2 2) h36 1 2 8 [.int .i64 0] fun s37 h38 =>
  oneP s37 (stC h38 ((bk b6).add 1) s37 fun h39 =>
  ldV h39 ((bk b6).add 2) fun x40 =>
  ldI h39 ((bk b18).add 0) .i64 fun x41 =>
  ldV h39 ((bk b6).add 2) fun x42 =>
  ldI h39 ((bk b18).add 0) .i64 fun x43 =>
  ixS x42 x43 1 fun a44 =>
  ldV h39 a44 fun x45 =>
  newP h39 (.cells ⟨[.int .i64 ((l23 : Nat) : Int)]⟩ 3 (0, 0)) fun b46 h47 =>
  apP x45 (.slice (some (bk b46)) 1 1) h47 1 3 8 [.int .i64 0] fun s48 h49 =>
  (sameAt 2 ((bk b18).add 0) h47 h49) ∧
  (sameAt 2 ((bk b6).add 2) h47 h49) ∧
  ixS x40 x41 1 fun a50 =>
  oneP s48 (stC h49 a50 s48 fun h51 =>
  ldV h51 ((bk b6).add 2) fun x52 =>
  ldI h51 ((bk b18).add 1) .i64 fun x53 =>
  ldV h51 ((bk b6).add 2) fun x54 =>
  ldI h51 ((bk b18).add 1) .i64 fun x55 =>
  ixS x54 x55 1 fun a56 =>
  ldV h51 a56 fun x57 =>
  newP h51 (.cells ⟨[.int .i64 (IntKind.i64.wrap (((l23 : Nat) : Int) + 1))]⟩ 3 (0, 0)) fun b58 h59 =>
  apP x57 (.slice (some (bk b58)) 1 1) h59 1 3 8 [.int .i64 0] fun s60 h61 =>
  (sameAt 2 ((bk b18).add 1) h59 h61) ∧
  (sameAt 2 ((bk b6).add 2) h59 h61) ∧
  ixS x52 x53 1 fun a62 =>
  oneP s60 (stC h61 a62 s60 fun h63 =>
  I12 ((IntKind.i64.wrap (s15 + 1)), ()) h63 ∧ r13 (((IntKind.i64.wrap (s15 + 1)), ()), h63) ((s15, ()), h14))))))
  (R (.ret (.pointer (some (bk b6)))) h14)
theorem E_maxflow_newNet {p0_g : List Value} {p1_s : Int} {p2_t : Int} {R : Res → H → Prop} {h : H} (H0 : B_maxflow_newNet p0_g p1_s p2_t R h) : T Try.prog F.maxflow_newNet [.agg ⟨p0_g⟩, .int .i64 p1_s, .int .i64 p2_t] h R :=
  T_intro A_maxflow_newNet Try.func22 (c := bodyOf Try.f22) (by kernel_rfl) (by kernel_rfl) (by kernel_rfl) (cast_of (by kernel_rfl) H0)

/-! ### (compass/maxflow.net).levels -/
def A_maxflow_net_levels : An := ⟨lkA [(0, rng 1), (1, rng 7), (2, rng 3), (3, rng 1), (4, rng 2), (5, rng 4), (6, rng 2), (7, rng 4), (8, rng 3), (9, rng 1), (10, rng 4), (11, rng 3), (12, ⟨[0, 1, 2, 4, 5, 6, 11, 3, 7, 8, 9, 10], lkN []⟩), (13, rng 1), (14, rng 3), (15, rng 8), (16, rng 15), (17, rng 12), (18, rng 5), (19, rng 2), (20, rng 2)], lkL [(3, [(20, .int .i64)]), (10, [(7, .val), (8, .int .i64)]), (13, [(7, .val), (49, .int .i64)])], lkC []⟩
def B_maxflow_net_levels (p0_n : Value) (p1_from : Int) (R : Res → H → Prop) (h : H) : Prop :=
  ptrP p0_n fun a1 =>
  ldV h (a1.add 2) fun x2 =>
  slcP x2 fun a3 l4 c5 =>
  mkS ((l4 : Nat) : Int) ((l4 : Nat) : Int) 8 [.int .i64 0] 3 h fun b6 h7 =>
  ∃ (I8 : (Int × Unit) → H → Prop) (r9 : (Int × Unit) × H → (Int × Unit) × H → Prop), WellFounded r9 ∧ I8 (0, ()) h7 ∧
  ∀ (s11 : Int) (h10 : H), I8 (s11, ()) h10 →
  ifP (decide (s11 < ((((l4 : Nat) : Int).toNat : Nat) : Int))) (ixS (.slice (some (bk b6)) (((l4 : Nat) : Int).toNat) (((l4 : Nat) : Int).toNat)) s11 1 fun a12 =>
  stC h10 a12 (.int .i64 (-1)) fun h13 =>
  I8 ((IntKind.i64.wrap (s11 + 1)), ()) h13 ∧ r9 (((IntKind.i64.wrap (s11 + 1)), ()), h13) ((s11, ()), h10))
  (ixS (.slice (some (bk b6)) (((l4 : Nat) : Int).toNat) (((l4 : Nat) : Int).toNat)) p1_from 1 fun a14 =>
  stC h10 a14 (.int .i64 0) fun h15 =>
  newP h15 (.cells ⟨[.int .i64 p1_from]⟩ 3 (0, 0)) fun b16 h17 =>
  ∃ (I18 : (Value × Int × Unit) → H → Prop) (r19 : (Value × Int × Unit) × H → (Value × Int × Unit) × H → Prop), WellFounded r19 ∧ I18 ((.slice (some (bk b16)) 1 1 : Value), 0, ()) h17 ∧
  ∀ (queue_21 : Value) (i_22 : Int) (h20 : H), I18 (queue_21, i_22, ()) h20 →
  slcP queue_21 fun a23 l24 c25 =>
  ifP (decide (i_22 < ((l24 : Nat) : Int))) (ptrP p0_n fun a26 =>
  ixS queue_21 i_22 1 fun a27 =>
  ldV h20 (a26.add 2) fun x28 =>
  ldI h20 a27 .i64 fun x29 =>
  ixS x28 x29 1 fun a30 =>
  ldV h20 a30 fun x31 =>
  slcP x31 fun a32 l33 c34 =>
  ∃ (I35 : (Value × Int × Unit) → H → Prop) (r36 : (Value × Int × Unit) × H → (Value × Int × Unit) × H → Prop), WellFounded r36 ∧ I35 (queue_21, 0, ()) h20 ∧
  ∀ (queue_38 : Value) (s39 : Int) (h37 : H), I35 (queue_38, s39, ()) h37 →
  ifP (decide (s39 < ((l33 : Nat) : Int))) (ixS x31 s39 1 fun a40 =>
  ldI h37 a40 .i64 fun x41 =>
  ptrP p0_n fun a42 =>
  ldV h37 (a42.add 0) fun x43 =>
  ixS x43 x41 1 fun a44 =>
  ldI h37 a44 .i64 fun x45 =>
  ptrP p0_n fun a46 =>
  ldV h37 (a46.add 1) fun x47 =>
  ixS x47 x41 1 fun a48 =>
  ldI h37 a48 .i64 fun x49 =>
  ifP (decide (0 < x49)) (ixS (.slice (some (bk b6)) (((l4 : Nat) : Int).toNat) (((l4 : Nat) : Int).toNat)) x45 1 fun a50 =>
  ldI h37 a50 .i64 fun x51 =>
  ifP (decide (x51 < 0)) (ixS queue_38 i_22 1 fun a52 =>
  ldI h37 a52 .i64 fun x53 =>
  ixS (.slice (some (bk b6)) (((l4 : Nat) : Int).toNat) (((l4 : Nat) : Int).toNat)) x53 1 fun a54 =>
  ldI h37 a54 .i64 fun x55 =>
  ixS (.slice (some (bk b6)) (((l4 : Nat) : Int).toNat) (((l4 : Nat) : Int).toNat)) x45 1 fun a56 =>
  stC h37 a56 (.int .i64 (IntKind.i64.wrap (x55 + 1))) fun h57 =>
  newP h57 (.cells ⟨[.int .i64 x45]⟩ 3 (0, 0)) fun b58 h59 =>
  apP queue_38 (.slice (some (bk b58)) 1 1) h59 1 3 8 [.int .i64 0] fun s60 h61 =>
  I35 (s60, (IntKind.i64.wrap (s39 + 1)), ()) h61 ∧ r36 ((s60, (IntKind.i64.wrap (s39 + 1)), ()), h61) ((queue_38, s39, ()), h37))
  (I35 (queue_38, (IntKind.i64.wrap (s39 + 1)), ()) h37 ∧ r36 ((queue_38, (IntKind.i64.wrap (s39 + 1)), ()), h37) ((queue_38, s39, ()), h37))) (I35 (queue_38, (IntKind.i64.wrap (s39 + 1)), ()) h37 ∧ r36 ((queue_38, (IntKind.i64.wrap (s39 + 1)), ()), h37) ((queue_38, s39, ()), h37)))
  (I18 (queue_38, (IntKind.i64.wrap (i_22 + 1)), ()) h37 ∧ r19 ((queue_38, (IntKind.i64.wrap (i_22 + 1)), ()), h37) ((queue_21, i_22, ()), h20)))
  (R (.ret (.slice (some (bk b6)) (((l4 : Nat) : Int).toNat) (((l4 : Nat) : Int).toNat))) h20))
theorem E_maxflow_net_levels {p0_n : Value} {p1_from : Int} {R : Res → H → Prop} {h : H} (H0 : B_maxflow_net_levels p0_n p1_from R h) : T Try.prog F.maxflow_net_levels [p0_n, .int .i64 p1_from] h R :=
  T_intro A_maxflow_net_levels Try.func23 (c := bodyOf Try.f23) (by kernel_rfl) (by kernel_rfl) (by kernel_rfl) (cast_of (by kernel_rfl) H0)

/-! ### compass/compassref11.Ends -/
def A_compassref11_Ends : An := ⟨lkA [(0, rng 2), (1, rng 4), (2, rng 2), (3, rng 4), (4, rng 7), (5, rng 1), (6, rng 2)], lkL [], lkC [(4, [(7, .int .i64)])]⟩
def B_compassref11_Ends (p0_g : List Value) (p1_s : Int) (p2_t : Int) (R : Res → H → Prop) (h : H) : Prop :=
  newP h (.cells ⟨p0_g⟩ 24 (0, 0)) fun b1 h2 =>
  ldN h2 (bk b1) 2 fun x3 =>
  T Try.prog F.compassref04_Wrong [.agg ⟨x3⟩, .int .i64 p1_s] h2 (rt (fun v4 h5 =>
  ∃ r6, v4 = .int .i64 r6 ∧
  ∃ J7 : (Int × Unit) → H → Prop, (ifP (decide (r6 = 0)) (ldN h5 (bk b1) 2 fun x10 =>
  T Try.prog F.compassref04_Wrong [.agg ⟨x10⟩, .int .i64 p2_t] h5 (rt (fun v11 h12 =>
  ∃ r13, v11 = .int .i64 r13 ∧
  J7 (r13, ()) h12) (fun v14 h15 => R (.pan v14) h15)))
  (J7 (r6, ()) h5)) ∧
  (∀ (code_9 : Int) (h8 : H), J7 (code_9, ()) h8 →
  ifP (decide (code_9 = 0)) (ifP (decide (p1_s = p2_t)) (R (.ret (.int .i64 120)) h8)
  (R (.ret (.int .i64 code_9)) h8)) (R (.ret (.int .i64 code_9)) h8))) (fun v16 h17 => R (.pan v16) h17))
theorem E_compassref11_Ends {p0_g : List Value} {p1_s : Int} {p2_t : Int} {R : Res → H → Prop} {h : H} (H0 : B_compassref11_Ends p0_g p1_s p2_t R h) : T Try.prog F.compassref11_Ends [.agg ⟨p0_g⟩, .int .i64 p1_s, .int .i64 p2_t] h R :=
  T_intro A_compassref11_Ends Try.func24 (c := bodyOf Try.f24) (by kernel_rfl) (by kernel_rfl) (by kernel_rfl) (cast_of (by kernel_rfl) H0)

/-! ### compass/compassref11.MaxFlow -/
def A_compassref11_MaxFlow : An := ⟨lkA [(0, rng 3), (1, rng 5), (2, rng 5), (3, rng 4), (4, rng 5), (5, rng 4), (6, rng 1), (7, rng 4), (8, rng 3), (9, rng 9), (10, rng 4), (11, rng 1), (12, rng 2), (13, rng 3), (14, ⟨[0, 2, 3, 4, 1, 5, 6, 7, 8, 9], lkN []⟩), (15, rng 8), (16, rng 7)], lkL [(2, [(8, .val)]), (7, [(12, .int .i64)]), (13, [(13, .val), (14, .int .i64)])], lkC []⟩
def B_compassref11_MaxFlow (p0_g : List Value) (p1_s : Int) (p2_t : Int) (R : Res → H → Prop) (h : H) : Prop :=
  newP h (.cells ⟨p0_g⟩ 24 (0, 0)) fun b1 h2 =>
  ldV h2 ((bk b1).add 1) fun x3 =>
  slcP x3 fun a4 l5 c6 =>
  mkS ((l5 : Nat) : Int) ((l5 : Nat) : Int) 8 [.int .i64 0] 2 h2 fun b7 h8 =>
  ∃ (I9 : (Value × Unit) → H → Prop) (r10 : (Value × Unit) × H → (Value × Unit) × H → Prop), WellFounded r10 ∧ I9 ((.slice (some (bk b7)) (((l5 : Nat) : Int).toNat) (((l5 : Nat) : Int).toNat) : Value), ()) h8 ∧
  ∀ (on_12 : Value) (h11 : H), I9 (on_12, ()) h11 →
  ldN h11 (bk b1) 2 fun x13 =>
  T Try.prog F.compassref11_Residual [.agg ⟨x13⟩, on_12] h11 (rt (fun v14 h15 =>
  ∃ r16 : List Value, r16.length = 2 ∧ v14 = .agg ⟨r16⟩ ∧
  newP h15 (.cells ⟨[.int .i64 0, .slice none 0 0]⟩ 24 (0, 0)) fun b17 h18 =>
  stN h18 (bk b17) r16 2 fun h19 =>
  ldN h19 (bk b17) 2 fun x20 =>
  T Try.prog F.compassref11_reach [.agg ⟨x20⟩, .int .i64 p1_s] h19 (rt (fun v21 h22 =>
  ixS v21 p2_t 1 fun a23 =>
  ldI h22 a23 .i64 fun x24 =>
  ifP (decide (x24 = (-2))) (ldI h22 ((bk b1).add 0) .i64 fun x25 =>
  mkS x25 x25 1 [.bool false] 4 h22 fun b26 h27 =>
  ∃ (I28 : (Int × Unit) → H → Prop) (r29 : (Int × Unit) × H → (Int × Unit) × H → Prop), WellFounded r29 ∧ I28 (0, ()) h27 ∧
  ∀ (v_31 : Int) (h30 : H), I28 (v_31, ()) h30 →
  ldI h30 ((bk b1).add 0) .i64 fun x32 =>
  ifP (decide (v_31 < x32)) (ixS v21 v_31 1 fun a33 =>
  ldI h30 a33 .i64 fun x34 =>
  ixS (.slice (some (bk b26)) x25.toNat x25.toNat) v_31 1 fun a35 =>
  stC h30 a35 (.bool (decide ((-1) ≤ x34))) fun h36 =>
  I28 ((IntKind.i64.wrap (v_31 + 1)), ()) h36 ∧ r29 (((IntKind.i64.wrap (v_31 + 1)), ()), h36) ((v_31, ()), h30))
  (R (.ret (.tuple ⟨[on_12, .slice (some (bk b26)) x25.toNat x25.toNat]⟩)) h30))
  (∃ (I37 : (Value × Int × Unit) → H → Prop) (r38 : (Value × Int × Unit) × H → (Value × Int × Unit) × H → Prop), WellFounded r38 ∧ I37 ((.slice none 0 0 : Value), p2_t, ()) h22 ∧
  ∀ (list_40 : Value) (v_41 : Int) (h39 : H), I37 (list_40, v_41, ()) h39 →
  ifP (!decide (v_41 = p1_s)) (ixS v21 v_41 1 fun a42 =>
  ldI h39 a42 .i64 fun x43 =>
  newP h39 (.cells ⟨[.int .i64 x43]⟩ 3 (0, 0)) fun b44 h45 =>
  apP list_40 (.slice (some (bk b44)) 1 1) h45 1 3 8 [.int .i64 0] fun s46 h47 =>
  ixS v21 v_41 1 fun a48 =>
  ldV h47 ((bk b17).add 1) fun x49 =>
  ldI h47 a48 .i64 fun x50 =>
  ixS x49 x50 4 fun a51 =>
  ldI h47 (a51.add 0) .i64 fun x52 =>
  I37 (s46, x52, ()) h47 ∧ r38 ((s46, x52, ()), h47) ((list_40, v_41, ()), h39))
  (ldN h39 (bk b17) 2 fun x53 =>
  T Try.prog F.compassref11_room [.agg ⟨x53⟩, list_40] h39 (rt (fun v54 h55 =>
  ∃ r56, v54 = .int .i64 r56 ∧
  T Try.prog F.compassref11_change [on_12, list_40, .int .i64 r56] h55 (rt (fun v57 h58 =>
  I9 (v57, ()) h58 ∧ r10 ((v57, ()), h58) ((on_12, ()), h11)) (fun v59 h60 => R (.pan v59) h60))) (fun v61 h62 => R (.pan v61) h62))))) (fun v63 h64 => R (.pan v63) h64))) (fun v65 h66 => R (.pan v65) h66))
theorem E_compassref11_MaxFlow {p0_g : List Value} {p1_s : Int} {p2_t : Int} {R : Res → H → Prop} {h : H} (H0 : B_compassref11_MaxFlow p0_g p1_s p2_t R h) : T Try.prog F.compassref11_MaxFlow [.agg ⟨p0_g⟩, .int .i64 p1_s, .int .i64 p2_t] h R :=
  T_intro A_compassref11_MaxFlow Try.func25 (c := bodyOf Try.f25) (by kernel_rfl) (by kernel_rfl) (by kernel_rfl) (cast_of (by kernel_rfl) H0)

/-! ### compass/compassref11.Cut -/
def A_compassref11_Cut : An := ⟨lkA [(0, rng 2), (1, rng 1), (2, rng 1), (3, rng 5), (4, rng 3), (5, rng 21), (6, rng 9), (7, rng 2)], lkL [(3, [(5, .int .i64), (6, .int .i64)])], lkC []⟩
def B_compassref11_Cut (p0_g : List Value) (p1_side : Value) (R : Res → H → Prop) (h : H) : Prop :=
  newP h (.cells ⟨p0_g⟩ 24 (0, 0)) fun b1 h2 =>
  ∃ (I3 : (Int × Int × Unit) → H → Prop) (r4 : (Int × Int × Unit) × H → (Int × Int × Unit) × H → Prop), WellFounded r4 ∧ I3 (0, 0, ()) h2 ∧
  ∀ (n_6 : Int) (i_7 : Int) (h5 : H), I3 (n_6, i_7, ()) h5 →
  ldV h5 ((bk b1).add 1) fun x8 =>
  slcP x8 fun a9 l10 c11 =>
  ifP (decide (i_7 < ((l10 : Nat) : Int))) (ldV h5 ((bk b1).add 1) fun x12 =>
  ixS x12 i_7 4 fun a13 =>
  ldI h5 (a13.add 0) .i64 fun x14 =>
  ixS p1_side x14 1 fun a15 =>
  ldB h5 a15 fun x16 =>
  ifP x16 (ldV h5 ((bk b1).add 1) fun x17 =>
  ixS x17 i_7 4 fun a18 =>
  ldI h5 (a18.add 1) .i64 fun x19 =>
  ixS p1_side x19 1 fun a20 =>
  ldB h5 a20 fun x21 =>
  ifP (!x21) (ldV h5 ((bk b1).add 1) fun x22 =>
  ixS x22 i_7 4 fun a23 =>
  ldI h5 (a23.add 2) .i64 fun x24 =>
  I3 ((IntKind.i64.wrap (n_6 + x24)), (IntKind.i64.wrap (i_7 + 1)), ()) h5 ∧ r4 (((IntKind.i64.wrap (n_6 + x24)), (IntKind.i64.wrap (i_7 + 1)), ()), h5) ((n_6, i_7, ()), h5))
  (I3 (n_6, (IntKind.i64.wrap (i_7 + 1)), ()) h5 ∧ r4 ((n_6, (IntKind.i64.wrap (i_7 + 1)), ()), h5) ((n_6, i_7, ()), h5))) (I3 (n_6, (IntKind.i64.wrap (i_7 + 1)), ()) h5 ∧ r4 ((n_6, (IntKind.i64.wrap (i_7 + 1)), ()), h5) ((n_6, i_7, ()), h5)))
  (R (.ret (.int .i64 n_6)) h5)
theorem E_compassref11_Cut {p0_g : List Value} {p1_side : Value} {R : Res → H → Prop} {h : H} (H0 : B_compassref11_Cut p0_g p1_side R h) : T Try.prog F.compassref11_Cut [.agg ⟨p0_g⟩, p1_side] h R :=
  T_intro A_compassref11_Cut Try.func26 (c := bodyOf Try.f26) (by kernel_rfl) (by kernel_rfl) (by kernel_rfl) (cast_of (by kernel_rfl) H0)

/-! ### compass/compassref11.Flows -/
def A_compassref11_Flows : An := ⟨lkA [(0, rng 2), (1, rng 4), (2, rng 5), (3, rng 6), (4, rng 5)], lkL [], lkC []⟩
def B_compassref11_Flows (p0_g : List Value) (p1_s : Int) (p2_t : Int) (p3_on : Value) (p4_value : Int) (R : Res → H → Prop) (h : H) : Prop :=
  newP h (.cells ⟨p0_g⟩ 24 (0, 0)) fun b1 h2 =>
  ldI h2 ((bk b1).add 0) .i64 fun x3 =>
  mkS x3 x3 8 [.int .i64 0] 2 h2 fun b4 h5 =>
  ixS (.slice (some (bk b4)) x3.toNat x3.toNat) p1_s 1 fun a6 =>
  stC h5 a6 (.int .i64 p4_value) fun h7 =>
  ixS (.slice (some (bk b4)) x3.toNat x3.toNat) p2_t 1 fun a8 =>
  stC h7 a8 (.int .i64 (IntKind.i64.wrap (0 - p4_value))) fun h9 =>
  ldN h9 (bk b1) 2 fun x10 =>
  T Try.prog F.compassref11_Fits [.agg ⟨x10⟩, p3_on, .slice (some (bk b4)) x3.toNat x3.toNat] h9 (rt (fun v11 h12 =>
  ∃ r13, v11 = .bool r13 ∧
  R (.ret (.bool r13)) h12) (fun v14 h15 => R (.pan v14) h15))
theorem E_compassref11_Flows {p0_g : List Value} {p1_s : Int} {p2_t : Int} {p3_on : Value} {p4_value : Int} {R : Res → H → Prop} {h : H} (H0 : B_compassref11_Flows p0_g p1_s p2_t p3_on p4_value R h) : T Try.prog F.compassref11_Flows [.agg ⟨p0_g⟩, .int .i64 p1_s, .int .i64 p2_t, p3_on, .int .i64 p4_value] h R :=
  T_intro A_compassref11_Flows Try.func27 (c := bodyOf Try.f27) (by kernel_rfl) (by kernel_rfl) (by kernel_rfl) (cast_of (by kernel_rfl) H0)

/-! ### compass/proof.Max$1 -/
def A_proof_Max_c1 : An := ⟨lkA [(0, rng 2), (1, rng 23), (2, rng 6), (3, rng 5), (4, rng 5), (5, rng 3), (6, rng 1), (7, rng 5), (8, rng 15), (9, rng 2), (10, rng 25), (11, rng 2)], lkL [(6, [(48, .int .i64)])], lkC [(2, [])]⟩
def B_proof_Max_c1 (c0 : Value) (c1 : Value) (c2 : Value) (R : Res → H → Prop) (h : H) : Prop :=
  ptrP c0 fun a1 =>
  ldN h a1 2 fun x2 =>
  T Try.prog F.proof_right [.agg ⟨x2⟩] h (rt (fun v3 h4 =>
  v3 = .tuple ⟨[]⟩ ∧
  ∃ J5 : (Unit) → H → Prop, (ptrP c1 fun a7 =>
  ldI h4 (a7.add 0) .i64 fun x8 =>
  ifP (decide (0 ≤ x8)) (ptrP c1 fun a9 =>
  ldI h4 (a9.add 0) .i64 fun x10 =>
  ptrP c0 fun a11 =>
  ldI h4 (a11.add 0) .i64 fun x12 =>
  ifP (decide (x10 < x12)) (ptrP c1 fun a13 =>
  ldI h4 (a13.add 1) .i64 fun x14 =>
  ifP (decide (0 ≤ x14)) (ptrP c1 fun a15 =>
  ldI h4 (a15.add 1) .i64 fun x16 =>
  ptrP c0 fun a17 =>
  ldI h4 (a17.add 0) .i64 fun x18 =>
  T Try.prog F.proof_need [.bool (decide (x16 < x18)), .int .i64 30] h4 (rt (fun v19 h20 =>
  v19 = .tuple ⟨[]⟩ ∧
  J5 (()) h20) (fun v21 h22 => R (.pan v21) h22))) (T Try.prog F.proof_need [.bool false, .int .i64 30] h4 (rt (fun v23 h24 =>
  v23 = .tuple ⟨[]⟩ ∧
  J5 (()) h24) (fun v25 h26 => R (.pan v25) h26)))) (T Try.prog F.proof_need [.bool false, .int .i64 30] h4 (rt (fun v27 h28 =>
  v27 = .tuple ⟨[]⟩ ∧
  J5 (()) h28) (fun v29 h30 => R (.pan v29) h30)))) (T Try.prog F.proof_need [.bool false, .int .i64 30] h4 (rt (fun v31 h32 =>
  v31 = .tuple ⟨[]⟩ ∧
  J5 (()) h32) (fun v33 h34 => R (.pan v33) h34)))) ∧
  (∀  (h6 : H), J5 (()) h6 →
  ptrP c1 fun a35 =>
  ldI h6 (a35.add 0) .i64 fun x36 =>
  ptrP c1 fun a37 =>
  ldI h6 (a37.add 1) .i64 fun x38 =>
  T Try.prog F.proof_need [.bool (!decide (x36 = x38)), .int .i64 120] h6 (rt (fun v39 h40 =>
  v39 = .tuple ⟨[]⟩ ∧
  ptrP c0 fun a41 =>
  ldN h40 a41 2 fun x42 =>
  ptrP c1 fun a43 =>
  ldV h40 (a43.add 2) fun x44 =>
  T Try.prog F.proof_carried [.agg ⟨x42⟩, x44] h40 (rt (fun v45 h46 =>
  ptrP c0 fun a47 =>
  ldN h46 a47 2 fun x48 =>
  ptrP c1 fun a49 =>
  ldV h46 (a49.add 3) fun x50 =>
  T Try.prog F.proof_across [.agg ⟨x48⟩, x50] h46 (rt (fun v51 h52 =>
  ∃ r53, v51 = .int .i64 r53 ∧
  slcP v45 fun a54 l55 c56 =>
  ∃ (I57 : (Int × Unit) → H → Prop) (r58 : (Int × Unit) × H → (Int × Unit) × H → Prop), WellFounded r58 ∧ I57 (0, ()) h52 ∧
  ∀ (s60 : Int) (h59 : H), I57 (s60, ()) h59 →
  ifP (decide (s60 < ((l55 : Nat) : Int))) (ixS v45 s60 1 fun a61 =>
  ldI h59 a61 .i64 fun x62 =>
  ifP (decide (x62 = 0)) (T Try.prog F.proof_need [.bool true, .int .i64 221] h59 (rt (fun v63 h64 =>
  v63 = .tuple ⟨[]⟩ ∧
  I57 ((IntKind.i64.wrap (s60 + 1)), ()) h64 ∧ r58 (((IntKind.i64.wrap (s60 + 1)), ()), h64) ((s60, ()), h59)) (fun v65 h66 => R (.pan v65) h66))) (ptrP c1 fun a67 =>
  ldI h59 (a67.add 0) .i64 fun x68 =>
  ifP (decide (s60 = x68)) (T Try.prog F.proof_need [.bool true, .int .i64 221] h59 (rt (fun v69 h70 =>
  v69 = .tuple ⟨[]⟩ ∧
  I57 ((IntKind.i64.wrap (s60 + 1)), ()) h70 ∧ r58 (((IntKind.i64.wrap (s60 + 1)), ()), h70) ((s60, ()), h59)) (fun v71 h72 => R (.pan v71) h72))) (ptrP c1 fun a73 =>
  ldI h59 (a73.add 1) .i64 fun x74 =>
  T Try.prog F.proof_need [.bool (decide (s60 = x74)), .int .i64 221] h59 (rt (fun v75 h76 =>
  v75 = .tuple ⟨[]⟩ ∧
  I57 ((IntKind.i64.wrap (s60 + 1)), ()) h76 ∧ r58 (((IntKind.i64.wrap (s60 + 1)), ()), h76) ((s60, ()), h59)) (fun v77 h78 => R (.pan v77) h78)))))
  (ptrP c1 fun a79 =>
  ldV h59 (a79.add 3) fun x80 =>
  ptrP c1 fun a81 =>
  ldI h59 (a81.add 0) .i64 fun x82 =>
  ixS x80 x82 1 fun a83 =>
  ldB h59 a83 fun x84 =>
  ifP x84 (ptrP c1 fun a85 =>
  ldV h59 (a85.add 3) fun x86 =>
  ptrP c1 fun a87 =>
  ldI h59 (a87.add 1) .i64 fun x88 =>
  ixS x86 x88 1 fun a89 =>
  ldB h59 a89 fun x90 =>
  ifP (!x90) (ptrP c1 fun a91 =>
  ldI h59 (a91.add 0) .i64 fun x92 =>
  ixS v45 x92 1 fun a93 =>
  ldI h59 a93 .i64 fun x94 =>
  T Try.prog F.proof_need [.bool (decide (x94 = r53)), .int .i64 221] h59 (rt (fun v95 h96 =>
  v95 = .tuple ⟨[]⟩ ∧
  ptrP c2 fun a97 =>
  stC h96 a97 (.int .i64 r53) fun h98 =>
  R (.ret (.tuple ⟨[]⟩)) h98) (fun v99 h100 => R (.pan v99) h100))) (T Try.prog F.proof_need [.bool false, .int .i64 221] h59 (rt (fun v101 h102 =>
  v101 = .tuple ⟨[]⟩ ∧
  ptrP c2 fun a103 =>
  stC h102 a103 (.int .i64 r53) fun h104 =>
  R (.ret (.tuple ⟨[]⟩)) h104) (fun v105 h106 => R (.pan v105) h106)))) (T Try.prog F.proof_need [.bool false, .int .i64 221] h59 (rt (fun v107 h108 =>
  v107 = .tuple ⟨[]⟩ ∧
  ptrP c2 fun a109 =>
  stC h108 a109 (.int .i64 r53) fun h110 =>
  R (.ret (.tuple ⟨[]⟩)) h110) (fun v111 h112 => R (.pan v111) h112))))) (fun v113 h114 => R (.pan v113) h114))) (fun v115 h116 => R (.pan v115) h116))) (fun v117 h118 => R (.pan v117) h118)))) (fun v119 h120 => R (.pan v119) h120))
theorem E_proof_Max_c1 {c0 : Value} {c1 : Value} {c2 : Value} {R : Res → H → Prop} {h : H} (H0 : B_proof_Max_c1 c0 c1 c2 R h) : T Try.prog F.proof_Max_c1 [c0, c1, c2] h R :=
  T_intro A_proof_Max_c1 Try.func29 (c := bodyOf Try.f29) (by kernel_rfl) (by kernel_rfl) (by kernel_rfl) (cast_of (by kernel_rfl) H0)

/-! ### compass/proof.right -/
def A_proof_right : An := ⟨lkA [(0, rng 1), (1, rng 4), (2, rng 6)], lkL [], lkC []⟩
def B_proof_right (p0_g : List Value) (R : Res → H → Prop) (h : H) : Prop :=
  newP h (.cells ⟨p0_g⟩ 24 (0, 0)) fun b1 h2 =>
  ldN h2 (bk b1) 2 fun x3 =>
  T Try.prog F.graph_Check [.agg ⟨x3⟩] h2 (rt (fun v4 h5 =>
  ∃ r6 : List Value, r6.length = 2 ∧ v4 = .agg ⟨r6⟩ ∧
  newP h5 (.cells ⟨[.int .i64 0, .int .i64 0]⟩ 51 (0, 0)) fun b7 h8 =>
  stN h8 (bk b7) r6 2 fun h9 =>
  ldI h9 ((bk b7).add 0) .i64 fun x10 =>
  ldI h9 ((bk b7).add 0) .i64 fun x11 =>
  T Try.prog F.proof_need [.bool (decide (x10 = 0)), .int .i64 x11] h9 (rt (fun v12 h13 =>
  v12 = .tuple ⟨[]⟩ ∧
  R (.ret (.tuple ⟨[]⟩)) h13) (fun v14 h15 => R (.pan v14) h15))) (fun v16 h17 => R (.pan v16) h17))
theorem E_proof_right {p0_g : List Value} {R : Res → H → Prop} {h : H} (H0 : B_proof_right p0_g R h) : T Try.prog F.proof_right [.agg ⟨p0_g⟩] h R :=
  T_intro A_proof_right Try.func30 (c := bodyOf Try.f30) (by kernel_rfl) (by kernel_rfl) (by kernel_rfl) (cast_of (by kernel_rfl) H0)

/-! ### compass/proof.need -/
def A_proof_need : An := ⟨lkA [(0, rng 2), (1, rng 4)], lkL [], lkC []⟩
def B_proof_need (p0_ok : Bool) (p1_code : Int) (R : Res → H → Prop) (h : H) : Prop :=
  ifP (!p0_ok) (R (.pan (.iface 89 (.agg ⟨[.int .i64 p1_code]⟩))) h)
  (R (.ret (.tuple ⟨[]⟩)) h)
theorem E_proof_need {p0_ok : Bool} {p1_code : Int} {R : Res → H → Prop} {h : H} (H0 : B_proof_need p0_ok p1_code R h) : T Try.prog F.proof_need [.bool p0_ok, .int .i64 p1_code] h R :=
  T_intro A_proof_need Try.func31 (c := bodyOf Try.f31) (by kernel_rfl) (by kernel_rfl) (by kernel_rfl) (cast_of (by kernel_rfl) H0)

/-! ### compass/proof.carried -/
def A_proof_carried : An := ⟨lkA [(0, rng 2), (1, rng 7), (2, rng 4), (3, rng 4), (4, rng 1), (5, rng 6), (6, ⟨[0, 1, 2, 3, 4, 5, 6, 7, 8, 10, 9, 11, 12, 13, 14], lkN []⟩), (7, ⟨[0, 1, 5, 6, 7, 2, 3, 4, 8, 9, 10, 11], lkN []⟩), (8, ⟨[0, 1, 5, 6, 7, 2, 3, 4, 8, 9, 10, 11], lkN []⟩), (9, rng 2), (10, rng 2)], lkL [(4, [(21, .int .i64)])], lkC [(7, [])]⟩
def B_proof_carried (p0_g : List Value) (p1_on : Value) (R : Res → H → Prop) (h : H) : Prop :=
  newP h (.cells ⟨p0_g⟩ 24 (0, 0)) fun b1 h2 =>
  slcP p1_on fun a3 l4 c5 =>
  ldV h2 ((bk b1).add 1) fun x6 =>
  slcP x6 fun a7 l8 c9 =>
  T Try.prog F.proof_need [.bool (decide (((l4 : Nat) : Int) = ((l8 : Nat) : Int))), .int .i64 221] h2 (rt (fun v10 h11 =>
  v10 = .tuple ⟨[]⟩ ∧
  ldI h11 ((bk b1).add 0) .i64 fun x12 =>
  mkS x12 x12 8 [.int .i64 0] 2 h11 fun b13 h14 =>
  ldV h14 ((bk b1).add 1) fun x15 =>
  slcP x15 fun a16 l17 c18 =>
  ∃ (I19 : (Int × Unit) → H → Prop) (r20 : (Int × Unit) × H → (Int × Unit) × H → Prop), WellFounded r20 ∧ I19 (0, ()) h14 ∧
  ∀ (s22 : Int) (h21 : H), I19 (s22, ()) h21 →
  ifP (decide (s22 < ((l17 : Nat) : Int))) (ixS x15 s22 4 fun a23 =>
  ldN h21 a23 4 fun x24 =>
  newP h21 (.cells ⟨[.int .i64 0, .int .i64 0, .int .i64 0, .int .i64 0]⟩ 44 (0, 0)) fun b25 h26 =>
  stN h26 (bk b25) x24 4 fun h27 =>
  ∃ J28 : (Unit) → H → Prop, (ixS p1_on s22 1 fun a30 =>
  ldI h27 a30 .i64 fun x31 =>
  ifP (decide (0 ≤ x31)) (ixS p1_on s22 1 fun a32 =>
  ldI h27 a32 .i64 fun x33 =>
  ldI h27 ((bk b25).add 2) .i64 fun x34 =>
  T Try.prog F.proof_need [.bool (decide (x33 ≤ x34)), .int .i64 221] h27 (rt (fun v35 h36 =>
  v35 = .tuple ⟨[]⟩ ∧
  J28 (()) h36) (fun v37 h38 => R (.pan v37) h38))) (T Try.prog F.proof_need [.bool false, .int .i64 221] h27 (rt (fun v39 h40 =>
  v39 = .tuple ⟨[]⟩ ∧
  J28 (()) h40) (fun v41 h42 => R (.pan v41) h42)))) ∧
  (∀  (h29 : H), J28 (()) h29 →
  ixS p1_on s22 1 fun a43 =>
  ldI h29 ((bk b25).add 0) .i64 fun x44 =>
  ixS (.slice (some (bk b13)) x12.toNat x12.toNat) x44 1 fun a45 =>
  ldI h29 a45 .i64 fun x46 =>
  ldI h29 a43 .i64 fun x47 =>
  ixS (.slice (some (bk b13)) x12.toNat x12.toNat) x44 1 fun a48 =>
  stC h29 a48 (.int .i64 (IntKind.i64.wrap (x46 + x47))) fun h49 =>
  ixS p1_on s22 1 fun a50 =>
  ldI h49 ((bk b25).add 1) .i64 fun x51 =>
  ixS (.slice (some (bk b13)) x12.toNat x12.toNat) x51 1 fun a52 =>
  ldI h49 a52 .i64 fun x53 =>
  ldI h49 a50 .i64 fun x54 =>
  ixS (.slice (some (bk b13)) x12.toNat x12.toNat) x51 1 fun a55 =>
  stC h49 a55 (.int .i64 (IntKind.i64.wrap (x53 - x54))) fun h56 =>
  I19 ((IntKind.i64.wrap (s22 + 1)), ()) h56 ∧ r20 (((IntKind.i64.wrap (s22 + 1)), ()), h56) ((s22, ()), h21)))
  (R (.ret (.slice (some (bk b13)) x12.toNat x12.toNat)) h21)) (fun v57 h58 => R (.pan v57) h58))
theorem E_proof_carried {p0_g : List Value} {p1_on : Value} {R : Res → H → Prop} {h : H} (H0 : B_proof_carried p0_g p1_on R h) : T Try.prog F.proof_carried [.agg ⟨p0_g⟩, p1_on] h R :=
  T_intro A_proof_carried Try.func32 (c := bodyOf Try.f32) (by kernel_rfl) (by kernel_rfl) (by kernel_rfl) (cast_of (by kernel_rfl) H0)

/-! ### compass/proof.across -/
def A_proof_across : An := ⟨lkA [(0, rng 2), (1, rng 6), (2, rng 1), (3, rng 4), (4, rng 1), (5, rng 4), (6, rng 13), (7, rng 5), (8, rng 2), (9, rng 2)], lkL [(4, [(5, .int .i64), (17, .int .i64)])], lkC []⟩
def B_proof_across (p0_g : List Value) (p1_side : Value) (R : Res → H → Prop) (h : H) : Prop :=
  newP h (.cells ⟨p0_g⟩ 24 (0, 0)) fun b1 h2 =>
  slcP p1_side fun a3 l4 c5 =>
  ldI h2 ((bk b1).add 0) .i64 fun x6 =>
  T Try.prog F.proof_need [.bool (decide (((l4 : Nat) : Int) = x6)), .int .i64 221] h2 (rt (fun v7 h8 =>
  v7 = .tuple ⟨[]⟩ ∧
  ldV h8 ((bk b1).add 1) fun x9 =>
  slcP x9 fun a10 l11 c12 =>
  ∃ (I13 : (Int × Int × Unit) → H → Prop) (r14 : (Int × Int × Unit) × H → (Int × Int × Unit) × H → Prop), WellFounded r14 ∧ I13 (0, 0, ()) h8 ∧
  ∀ (n_16 : Int) (s17 : Int) (h15 : H), I13 (n_16, s17, ()) h15 →
  ifP (decide (s17 < ((l11 : Nat) : Int))) (ixS x9 s17 4 fun a18 =>
  ldN h15 a18 4 fun x19 =>
  newP h15 (.cells ⟨[.int .i64 0, .int .i64 0, .int .i64 0, .int .i64 0]⟩ 44 (0, 0)) fun b20 h21 =>
  stN h21 (bk b20) x19 4 fun h22 =>
  ldI h22 ((bk b20).add 0) .i64 fun x23 =>
  ixS p1_side x23 1 fun a24 =>
  ldB h22 a24 fun x25 =>
  ifP x25 (ldI h22 ((bk b20).add 1) .i64 fun x26 =>
  ixS p1_side x26 1 fun a27 =>
  ldB h22 a27 fun x28 =>
  ifP (!x28) (ldI h22 ((bk b20).add 2) .i64 fun x29 =>
  I13 ((IntKind.i64.wrap (n_16 + x29)), (IntKind.i64.wrap (s17 + 1)), ()) h22 ∧ r14 (((IntKind.i64.wrap (n_16 + x29)), (IntKind.i64.wrap (s17 + 1)), ()), h22) ((n_16, s17, ()), h15))
  (I13 (n_16, (IntKind.i64.wrap (s17 + 1)), ()) h22 ∧ r14 ((n_16, (IntKind.i64.wrap (s17 + 1)), ()), h22) ((n_16, s17, ()), h15))) (I13 (n_16, (IntKind.i64.wrap (s17 + 1)), ()) h22 ∧ r14 ((n_16, (IntKind.i64.wrap (s17 + 1)), ()), h22) ((n_16, s17, ()), h15)))
  (R (.ret (.int .i64 n_16)) h15)) (fun v30 h31 => R (.pan v30) h31))
theorem E_proof_across {p0_g : List Value} {p1_side : Value} {R : Res → H → Prop} {h : H} (H0 : B_proof_across p0_g p1_side R h) : T Try.prog F.proof_across [.agg ⟨p0_g⟩, p1_side] h R :=
  T_intro A_proof_across Try.func33 (c := bodyOf Try.f33) (by kernel_rfl) (by kernel_rfl) (by kernel_rfl) (cast_of (by kernel_rfl) H0)

/-! ### compass/graph.label -/
def A_graph_label : An := ⟨lkA [(0, rng 2), (1, rng 19)], lkL [], lkC []⟩
def B_graph_label (p0_e : List Value) (R : Res → H → Prop) (h : H) : Prop :=
  newP h (.cells ⟨p0_e⟩ 44 (0, 0)) fun b1 h2 =>
  ldI h2 ((bk b1).add 2) .i64 fun x3 =>
  ifP (decide (0 ≤ x3)) (ldI h2 ((bk b1).add 2) .i64 fun x4 =>
  ifP (decide (x4 ≤ 1048576)) (ldI h2 ((bk b1).add 3) .i64 fun x5 =>
  ifP (decide ((-1048576) ≤ x5)) (ldI h2 ((bk b1).add 3) .i64 fun x6 =>
  R (.ret (.bool (decide (x6 ≤ 1048576)))) h2) (R (.ret (.bool false)) h2)) (R (.ret (.bool false)) h2)) (R (.ret (.bool false)) h2)
theorem E_graph_label {p0_e : List Value} {R : Res → H → Prop} {h : H} (H0 : B_graph_label p0_e R h) : T Try.prog F.graph_label [.agg ⟨p0_e⟩] h R :=
  T_intro A_graph_label Try.func34 (c := bodyOf Try.f34) (by kernel_rfl) (by kernel_rfl) (by kernel_rfl) (cast_of (by kernel_rfl) H0)

/-! ### compass/compassref04.Wrong -/
def A_compassref04_Wrong : An := ⟨lkA [(0, rng 2), (1, rng 7), (2, rng 12), (3, rng 1), (4, rng 2)], lkL [], lkC []⟩
def B_compassref04_Wrong (p0_g : List Value) (p1_s : Int) (R : Res → H → Prop) (h : H) : Prop :=
  newP h (.cells ⟨p0_g⟩ 24 (0, 0)) fun b1 h2 =>
  ldN h2 (bk b1) 2 fun x3 =>
  T Try.prog F.compassref03_Check [.agg ⟨x3⟩] h2 (rt (fun v4 h5 =>
  ∃ r6 : Int, ∃ r7 : Int, v4 = .tuple ⟨[.int .i64 r6, .int .i64 r7]⟩ ∧
  ifP (decide (r6 = 0)) (ifP (decide (p1_s < 0)) (R (.ret (.int .i64 30)) h5) (ldI h5 ((bk b1).add 0) .i64 fun x8 =>
  ifP (decide (x8 ≤ p1_s)) (R (.ret (.int .i64 30)) h5)
  (R (.ret (.int .i64 r6)) h5))) (R (.ret (.int .i64 r6)) h5)) (fun v9 h10 => R (.pan v9) h10))
theorem E_compassref04_Wrong {p0_g : List Value} {p1_s : Int} {R : Res → H → Prop} {h : H} (H0 : B_compassref04_Wrong p0_g p1_s R h) : T Try.prog F.compassref04_Wrong [.agg ⟨p0_g⟩, .int .i64 p1_s] h R :=
  T_intro A_compassref04_Wrong Try.func35 (c := bodyOf Try.f35) (by kernel_rfl) (by kernel_rfl) (by kernel_rfl) (cast_of (by kernel_rfl) H0)

/-! ### compass/compassref11.Residual -/
def A_compassref11_Residual : An := ⟨lkA [(0, rng 2), (1, rng 5), (2, rng 1), (3, rng 5), (4, rng 3), (5, rng 7), (6, ⟨[0, 2, 4, 6, 8, 9, 10, 13, 1, 3, 5, 7, 11, 12, 14, 15, 16, 17, 18, 19], lkN []⟩), (7, ⟨[0, 2, 4, 6, 7, 8, 10, 1, 3, 5, 9, 11, 12, 13, 14, 15, 16, 17], lkN []⟩), (8, rng 2)], lkL [(3, [(6, .int .i64)])], lkC []⟩
def B_compassref11_Residual (p0_g : List Value) (p1_on : Value) (R : Res → H → Prop) (h : H) : Prop :=
  newP h (.cells ⟨p0_g⟩ 24 (0, 0)) fun b1 h2 =>
  newP h2 (.cells ⟨[.int .i64 0, .slice none 0 0]⟩ 24 (0, 0)) fun b3 h4 =>
  ldI h4 ((bk b1).add 0) .i64 fun x5 =>
  newP h4 (.cells ⟨[.int .i64 0, .slice none 0 0]⟩ 24 (0, 0)) fun b6 h7 =>
  stN h7 (bk b6) [.int .i64 x5, .slice none 0 0] 2 fun h8 =>
  ∃ (I9 : (Int × Unit) → H → Prop) (r10 : (Int × Unit) × H → (Int × Unit) × H → Prop), WellFounded r10 ∧ I9 (0, ()) h8 ∧
  ∀ (i_12 : Int) (h11 : H), I9 (i_12, ()) h11 →
  ldV h11 ((bk b1).add 1) fun x13 =>
  slcP x13 fun a14 l15 c16 =>
  ifP (decide (i_12 < ((l15 : Nat) : Int))) (ldV h11 ((bk b1).add 1) fun x17 =>
  ixS x17 i_12 4 fun a18 =>
  ldN h11 a18 4 fun x19 =>
  newP h11 (.cells ⟨[.int .i64 0, .int .i64 0, .int .i64 0, .int .i64 0]⟩ 44 (0, 0)) fun b20 h21 =>
  stN h21 (bk b20) x19 4 fun h22 =>
  ixS p1_on i_12 1 fun a23 =>
  ldV h22 ((bk b6).add 1) fun x24 =>
  ldI h22 ((bk b20).add 0) .i64 fun x25 =>
  ldI h22 ((bk b20).add 1) .i64 fun x26 =>
  ldI h22 ((bk b20).add 2) .i64 fun x27 =>
  ldI h22 a23 .i64 fun x28 =>
  ldI h22 ((bk b20).add 3) .i64 fun x29 =>
  ([.int .i64 x25, .int .i64 x26, .int .i64 (IntKind.i64.wrap (x27 - x28)), .int .i64 x29] : List Value).length = 4 ∧
  newP h22 (.cells ⟨[.int .i64 x25, .int .i64 x26, .int .i64 (IntKind.i64.wrap (x27 - x28)), .int .i64 x29]⟩ 44 (0, 0)) fun b30 h31 =>
  apP x24 (.slice (some (bk b30)) 1 1) h31 4 44 32 [.int .i64 0, .int .i64 0, .int .i64 0, .int .i64 0] fun s32 h33 =>
  oneP s32 (stC h33 ((bk b6).add 1) s32 fun h34 =>
  ixS p1_on i_12 1 fun a35 =>
  ldV h34 ((bk b6).add 1) fun x36 =>
  ldI h34 ((bk b20).add 1) .i64 fun x37 =>
  ldI h34 ((bk b20).add 0) .i64 fun x38 =>
  ldI h34 a35 .i64 fun x39 =>
  ldI h34 ((bk b20).add 3) .i64 fun x40 =>
  ([.int .i64 x37, .int .i64 x38, .int .i64 x39, .int .i64 (IntKind.i64.wrap (0 - x40))] : List Value).length = 4 ∧
  newP h34 (.cells ⟨[.int .i64 x37, .int .i64 x38, .int .i64 x39, .int .i64 (IntKind.i64.wrap (0 - x40))]⟩ 44 (0, 0)) fun b41 h42 =>
  apP x36 (.slice (some (bk b41)) 1 1) h42 4 44 32 [.int .i64 0, .int .i64 0, .int .i64 0, .int .i64 0] fun s43 h44 =>
  oneP s43 (stC h44 ((bk b6).add 1) s43 fun h45 =>
  I9 ((IntKind.i64.wrap (i_12 + 1)), ()) h45 ∧ r10 (((IntKind.i64.wrap (i_12 + 1)), ()), h45) ((i_12, ()), h11))))
  (ldN h11 (bk b6) 2 fun x46 =>
  stN h11 (bk b3) x46 2 fun h47 =>
  ldN h47 (bk b3) 2 fun x48 =>
  R (.ret (.agg ⟨x48⟩)) h47)
theorem E_compassref11_Residual {p0_g : List Value} {p1_on : Value} {R : Res → H → Prop} {h : H} (H0 : B_compassref11_Residual p0_g p1_on R h) : T Try.prog F.compassref11_Residual [.agg ⟨p0_g⟩, p1_on] h R :=
  T_intro A_compassref11_Residual Try.func36 (c := bodyOf Try.f36) (by kernel_rfl) (by kernel_rfl) (by kernel_rfl) (cast_of (by kernel_rfl) H0)

/-! ### compass/compassref11.reach -/
def A_compassref11_reach : An := ⟨lkA [(0, rng 2), (1, rng 4), (2, rng 1), (3, rng 4), (4, rng 3), (5, rng 4), (6, rng 4), (7, rng 1), (8, rng 4), (9, rng 3), (10, rng 1), (11, rng 5), (12, rng 3), (13, rng 7), (14, rng 19), (15, rng 6), (16, rng 2)], lkL [(3, [(6, .int .i64)]), (8, [(7, .int .i64)]), (11, [(8, .int .i64)])], lkC []⟩
def B_compassref11_reach (p0_r : List Value) (p1_s : Int) (R : Res → H → Prop) (h : H) : Prop :=
  newP h (.cells ⟨p0_r⟩ 24 (0, 0)) fun b1 h2 =>
  ldI h2 ((bk b1).add 0) .i64 fun x3 =>
  mkS x3 x3 8 [.int .i64 0] 3 h2 fun b4 h5 =>
  ∃ (I6 : (Int × Unit) → H → Prop) (r7 : (Int × Unit) × H → (Int × Unit) × H → Prop), WellFounded r7 ∧ I6 (0, ()) h5 ∧
  ∀ (v_9 : Int) (h8 : H), I6 (v_9, ()) h8 →
  ldI h8 ((bk b1).add 0) .i64 fun x10 =>
  ifP (decide (v_9 < x10)) (ixS (.slice (some (bk b4)) x3.toNat x3.toNat) v_9 1 fun a11 =>
  stC h8 a11 (.int .i64 (-2)) fun h12 =>
  I6 ((IntKind.i64.wrap (v_9 + 1)), ()) h12 ∧ r7 (((IntKind.i64.wrap (v_9 + 1)), ()), h12) ((v_9, ()), h8))
  (ixS (.slice (some (bk b4)) x3.toNat x3.toNat) p1_s 1 fun a13 =>
  stC h8 a13 (.int .i64 (-1)) fun h14 =>
  ∃ (I15 : (Int × Unit) → H → Prop) (r16 : (Int × Unit) × H → (Int × Unit) × H → Prop), WellFounded r16 ∧ I15 (0, ()) h14 ∧
  ∀ (round_18 : Int) (h17 : H), I15 (round_18, ()) h17 →
  ldI h17 ((bk b1).add 0) .i64 fun x19 =>
  ifP (decide (round_18 < x19)) (∃ (I20 : (Int × Unit) → H → Prop) (r21 : (Int × Unit) × H → (Int × Unit) × H → Prop), WellFounded r21 ∧ I20 (0, ()) h17 ∧
  ∀ (i_23 : Int) (h22 : H), I20 (i_23, ()) h22 →
  ldV h22 ((bk b1).add 1) fun x24 =>
  slcP x24 fun a25 l26 c27 =>
  ifP (decide (i_23 < ((l26 : Nat) : Int))) (ldV h22 ((bk b1).add 1) fun x28 =>
  ixS x28 i_23 4 fun a29 =>
  ldN h22 a29 4 fun x30 =>
  newP h22 (.cells ⟨[.int .i64 0, .int .i64 0, .int .i64 0, .int .i64 0]⟩ 44 (0, 0)) fun b31 h32 =>
  stN h32 (bk b31) x30 4 fun h33 =>
  ldI h33 ((bk b31).add 2) .i64 fun x34 =>
  ifP (decide (0 < x34)) (ldI h33 ((bk b31).add 0) .i64 fun x35 =>
  ixS (.slice (some (bk b4)) x3.toNat x3.toNat) x35 1 fun a36 =>
  ldI h33 a36 .i64 fun x37 =>
  ifP (decide ((-1) ≤ x37)) (ldI h33 ((bk b31).add 1) .i64 fun x38 =>
  ixS (.slice (some (bk b4)) x3.toNat x3.toNat) x38 1 fun a39 =>
  ldI h33 a39 .i64 fun x40 =>
  ifP (decide (x40 = (-2))) (ldI h33 ((bk b31).add 1) .i64 fun x41 =>
  ixS (.slice (some (bk b4)) x3.toNat x3.toNat) x41 1 fun a42 =>
  stC h33 a42 (.int .i64 i_23) fun h43 =>
  I20 ((IntKind.i64.wrap (i_23 + 1)), ()) h43 ∧ r21 (((IntKind.i64.wrap (i_23 + 1)), ()), h43) ((i_23, ()), h22))
  (I20 ((IntKind.i64.wrap (i_23 + 1)), ()) h33 ∧ r21 (((IntKind.i64.wrap (i_23 + 1)), ()), h33) ((i_23, ()), h22))) (I20 ((IntKind.i64.wrap (i_23 + 1)), ()) h33 ∧ r21 (((IntKind.i64.wrap (i_23 + 1)), ()), h33) ((i_23, ()), h22))) (I20 ((IntKind.i64.wrap (i_23 + 1)), ()) h33 ∧ r21 (((IntKind.i64.wrap (i_23 + 1)), ()), h33) ((i_23, ()), h22)))
  (I15 ((IntKind.i64.wrap (round_18 + 1)), ()) h22 ∧ r16 (((IntKind.i64.wrap (round_18 + 1)), ()), h22) ((round_18, ()), h17)))
  (R (.ret (.slice (some (bk b4)) x3.toNat x3.toNat)) h17))
theorem E_compassref11_reach {p0_r : List Value} {p1_s : Int} {R : Res → H → Prop} {h : H} (H0 : B_compassref11_reach p0_r p1_s R h) : T Try.prog F.compassref11_reach [.agg ⟨p0_r⟩, .int .i64 p1_s] h R :=
  T_intro A_compassref11_reach Try.func37 (c := bodyOf Try.f37) (by kernel_rfl) (by kernel_rfl) (by kernel_rfl) (cast_of (by kernel_rfl) H0)

/-! ### compass/compassref11.change -/
def A_compassref11_change : An := ⟨lkA [(0, rng 1), (1, rng 4), (2, rng 1), (3, rng 4), (4, rng 3), (5, rng 6), (6, rng 12), (7, rng 12), (8, rng 2)], lkL [(3, [(8, .int .i64)])], lkC []⟩
def B_compassref11_change (p0_on : Value) (p1_list : Value) (p2_much : Int) (R : Res → H → Prop) (h : H) : Prop :=
  newP h (.cells ⟨[]⟩ 2 (0, 0)) fun b1 h2 =>
  apP (.slice (some (bk b1)) 0 0) p0_on h2 1 2 8 [.int .i64 0] fun s3 h4 =>
  ∃ (I5 : (Int × Unit) → H → Prop) (r6 : (Int × Unit) × H → (Int × Unit) × H → Prop), WellFounded r6 ∧ I5 (0, ()) h4 ∧
  ∀ (k_8 : Int) (h7 : H), I5 (k_8, ()) h7 →
  slcP p1_list fun a9 l10 c11 =>
  ifP (decide (k_8 < ((l10 : Nat) : Int))) (ixS p1_list k_8 1 fun a12 =>
  ldI h7 a12 .i64 fun x13 =>
  (2 : Int) ≠ 0 ∧
  ifP (decide ((x13.tmod 2) = 0)) (ixS p1_list k_8 1 fun a14 =>
  ldI h7 a14 .i64 fun x15 =>
  (2 : Int) ≠ 0 ∧
  ixS s3 (IntKind.i64.wrap (x15.tdiv 2)) 1 fun a16 =>
  ldI h7 a16 .i64 fun x17 =>
  ixS s3 (IntKind.i64.wrap (x15.tdiv 2)) 1 fun a18 =>
  stC h7 a18 (.int .i64 (IntKind.i64.wrap (x17 + p2_much))) fun h19 =>
  I5 ((IntKind.i64.wrap (k_8 + 1)), ()) h19 ∧ r6 (((IntKind.i64.wrap (k_8 + 1)), ()), h19) ((k_8, ()), h7))
  (ixS p1_list k_8 1 fun a20 =>
  ldI h7 a20 .i64 fun x21 =>
  (2 : Int) ≠ 0 ∧
  ixS s3 (IntKind.i64.wrap (x21.tdiv 2)) 1 fun a22 =>
  ldI h7 a22 .i64 fun x23 =>
  ixS s3 (IntKind.i64.wrap (x21.tdiv 2)) 1 fun a24 =>
  stC h7 a24 (.int .i64 (IntKind.i64.wrap (x23 - p2_much))) fun h25 =>
  I5 ((IntKind.i64.wrap (k_8 + 1)), ()) h25 ∧ r6 (((IntKind.i64.wrap (k_8 + 1)), ()), h25) ((k_8, ()), h7)))
  (R (.ret s3) h7)
theorem E_compassref11_change {p0_on : Value} {p1_list : Value} {p2_much : Int} {R : Res → H → Prop} {h : H} (H0 : B_compassref11_change p0_on p1_list p2_much R h) : T Try.prog F.compassref11_change [p0_on, p1_list, .int .i64 p2_much] h R :=
  T_intro A_compassref11_change Try.func38 (c := bodyOf Try.f38) (by kernel_rfl) (by kernel_rfl) (by kernel_rfl) (cast_of (by kernel_rfl) H0)

/-! ### compass/compassref11.room -/
def A_compassref11_room : An := ⟨lkA [(0, rng 2), (1, ⟨[0, 2, 3, 1, 4, 5, 6, 7, 8], lkN []⟩), (2, rng 1), (3, rng 4), (4, rng 3), (5, ⟨[0, 2, 3, 4, 9, 1, 5, 6, 7, 8, 10], lkN []⟩), (6, ⟨[0, 2, 3, 4, 1, 5, 6, 7, 8, 9], lkN []⟩), (7, rng 2)], lkL [(3, [(5, .int .i64), (6, .int .i64)])], lkC []⟩
def B_compassref11_room (p0_r : List Value) (p1_list : Value) (R : Res → H → Prop) (h : H) : Prop :=
  newP h (.cells ⟨p0_r⟩ 24 (0, 0)) fun b1 h2 =>
  ixS p1_list 0 1 fun a3 =>
  ldV h2 ((bk b1).add 1) fun x4 =>
  ldI h2 a3 .i64 fun x5 =>
  ixS x4 x5 4 fun a6 =>
  ldI h2 (a6.add 2) .i64 fun x7 =>
  ∃ (I8 : (Int × Int × Unit) → H → Prop) (r9 : (Int × Int × Unit) × H → (Int × Int × Unit) × H → Prop), WellFounded r9 ∧ I8 (x7, 1, ()) h2 ∧
  ∀ (n_11 : Int) (k_12 : Int) (h10 : H), I8 (n_11, k_12, ()) h10 →
  slcP p1_list fun a13 l14 c15 =>
  ifP (decide (k_12 < ((l14 : Nat) : Int))) (ixS p1_list k_12 1 fun a16 =>
  ldV h10 ((bk b1).add 1) fun x17 =>
  ldI h10 a16 .i64 fun x18 =>
  ixS x17 x18 4 fun a19 =>
  ldI h10 (a19.add 2) .i64 fun x20 =>
  ifP (decide (x20 < n_11)) (ixS p1_list k_12 1 fun a21 =>
  ldV h10 ((bk b1).add 1) fun x22 =>
  ldI h10 a21 .i64 fun x23 =>
  ixS x22 x23 4 fun a24 =>
  ldI h10 (a24.add 2) .i64 fun x25 =>
  I8 (x25, (IntKind.i64.wrap (k_12 + 1)), ()) h10 ∧ r9 ((x25, (IntKind.i64.wrap (k_12 + 1)), ()), h10) ((n_11, k_12, ()), h10))
  (I8 (n_11, (IntKind.i64.wrap (k_12 + 1)), ()) h10 ∧ r9 ((n_11, (IntKind.i64.wrap (k_12 + 1)), ()), h10) ((n_11, k_12, ()), h10)))
  (R (.ret (.int .i64 n_11)) h10)
theorem E_compassref11_room {p0_r : List Value} {p1_list : Value} {R : Res → H → Prop} {h : H} (H0 : B_compassref11_room p0_r p1_list R h) : T Try.prog F.compassref11_room [.agg ⟨p0_r⟩, p1_list] h R :=
  T_intro A_compassref11_room Try.func39 (c := bodyOf Try.f39) (by kernel_rfl) (by kernel_rfl) (by kernel_rfl) (cast_of (by kernel_rfl) H0)

/-! ### compass/compassref11.Fits -/
def A_compassref11_Fits : An := ⟨lkA [(0, rng 2), (1, rng 6), (2, rng 1), (3, rng 1), (4, rng 4), (5, rng 3), (6, ⟨[0, 1, 2, 3, 4, 5, 6, 7, 8, 10, 12, 9, 11, 13, 14, 15, 16, 17], lkN []⟩), (7, rng 1), (8, rng 1), (9, rng 4), (10, rng 3), (11, ⟨[1, 2, 4, 5, 6, 0, 7, 3, 8], lkN [(3, [7])]⟩), (12, rng 1), (13, rng 1)], lkL [(4, [(7, .int .i64)]), (9, [(8, .int .i64)])], lkC []⟩
def B_compassref11_Fits (p0_g : List Value) (p1_on : Value) (p2_supply : Value) (R : Res → H → Prop) (h : H) : Prop :=
  newP h (.cells ⟨p0_g⟩ 24 (0, 0)) fun b1 h2 =>
  slcP p1_on fun a3 l4 c5 =>
  ldV h2 ((bk b1).add 1) fun x6 =>
  slcP x6 fun a7 l8 c9 =>
  ifP (!decide (((l4 : Nat) : Int) = ((l8 : Nat) : Int))) (R (.ret (.bool false)) h2)
  (∃ (I10 : (Int × Unit) → H → Prop) (r11 : (Int × Unit) × H → (Int × Unit) × H → Prop), WellFounded r11 ∧ I10 (0, ()) h2 ∧
  ∀ (i_13 : Int) (h12 : H), I10 (i_13, ()) h12 →
  slcP p1_on fun a14 l15 c16 =>
  ifP (decide (i_13 < ((l15 : Nat) : Int))) (ixS p1_on i_13 1 fun a17 =>
  ldI h12 a17 .i64 fun x18 =>
  ifP (decide (x18 < 0)) (R (.ret (.bool false)) h12) (ixS p1_on i_13 1 fun a19 =>
  ldI h12 a19 .i64 fun x20 =>
  ldV h12 ((bk b1).add 1) fun x21 =>
  ixS x21 i_13 4 fun a22 =>
  ldI h12 (a22.add 2) .i64 fun x23 =>
  ifP (decide (x23 < x20)) (R (.ret (.bool false)) h12)
  (I10 ((IntKind.i64.wrap (i_13 + 1)), ()) h12 ∧ r11 (((IntKind.i64.wrap (i_13 + 1)), ()), h12) ((i_13, ()), h12))))
  (∃ (I24 : (Int × Unit) → H → Prop) (r25 : (Int × Unit) × H → (Int × Unit) × H → Prop), WellFounded r25 ∧ I24 (0, ()) h12 ∧
  ∀ (v_27 : Int) (h26 : H), I24 (v_27, ()) h26 →
  ldI h26 ((bk b1).add 0) .i64 fun x28 =>
  ifP (decide (v_27 < x28)) (ixS p2_supply v_27 1 fun a29 =>
  ldN h26 (bk b1) 2 fun x30 =>
  ldI h26 a29 .i64 fun x31 =>
  T Try.prog F.compassref11_Out [.agg ⟨x30⟩, p1_on, .int .i64 v_27] h26 (rt (fun v32 h33 =>
  ∃ r34, v32 = .int .i64 r34 ∧
  (sameAt 2 a29 h26 h33) ∧
  ifP (!decide (r34 = x31)) (R (.ret (.bool false)) h33)
  (I24 ((IntKind.i64.wrap (v_27 + 1)), ()) h33 ∧ r25 (((IntKind.i64.wrap (v_27 + 1)), ()), h33) ((v_27, ()), h26))) (fun v35 h36 => R (.pan v35) h36)))
  (R (.ret (.bool true)) h26)))
theorem E_compassref11_Fits {p0_g : List Value} {p1_on : Value} {p2_supply : Value} {R : Res → H → Prop} {h : H} (H0 : B_compassref11_Fits p0_g p1_on p2_supply R h) : T Try.prog F.compassref11_Fits [.agg ⟨p0_g⟩, p1_on, p2_supply] h R :=
  T_intro A_compassref11_Fits Try.func40 (c := bodyOf Try.f40) (by kernel_rfl) (by kernel_rfl) (by kernel_rfl) (cast_of (by kernel_rfl) H0)

/-! ### compass/compassref03.Check -/
def A_compassref03_Check : An := ⟨lkA [(0, rng 3), (1, rng 14), (2, rng 2), (3, rng 1), (4, rng 5), (5, rng 3), (6, ⟨[0, 2, 4, 1, 3, 5, 6, 7, 8], lkN []⟩), (7, rng 2), (8, rng 4), (9, rng 2)], lkL [(4, [(4, .int .i64)])], lkC [(3, [])]⟩
def B_compassref03_Check (p0_g : List Value) (R : Res → H → Prop) (h : H) : Prop :=
  newP h (.cells ⟨p0_g⟩ 24 (0, 0)) fun b1 h2 =>
  ∃ J3 : (Unit) → H → Prop, (ldI h2 ((bk b1).add 0) .i64 fun x5 =>
  ifP (decide (x5 < 0)) (R (.ret (.tuple ⟨[.int .i64 3, .int .i64 0]⟩)) h2) (ldI h2 ((bk b1).add 0) .i64 fun x6 =>
  ifP (decide (1024 < x6)) (R (.ret (.tuple ⟨[.int .i64 3, .int .i64 0]⟩)) h2) (ldV h2 ((bk b1).add 1) fun x7 =>
  slcP x7 fun a8 l9 c10 =>
  ifP (decide (4096 < ((l9 : Nat) : Int))) (R (.ret (.tuple ⟨[.int .i64 3, .int .i64 0]⟩)) h2)
  (J3 (()) h2)))) ∧
  (∀  (h4 : H), J3 (()) h4 →
  ∃ (I11 : (Int × Unit) → H → Prop) (r12 : (Int × Unit) × H → (Int × Unit) × H → Prop), WellFounded r12 ∧ I11 (0, ()) h4 ∧
  ∀ (i_14 : Int) (h13 : H), I11 (i_14, ()) h13 →
  ldV h13 ((bk b1).add 1) fun x15 =>
  slcP x15 fun a16 l17 c18 =>
  ifP (decide (i_14 < ((l17 : Nat) : Int))) (ldI h13 ((bk b1).add 0) .i64 fun x19 =>
  ldV h13 ((bk b1).add 1) fun x20 =>
  ixS x20 i_14 4 fun a21 =>
  ldN h13 a21 4 fun x22 =>
  T Try.prog F.compassref03_Bad [.int .i64 x19, .agg ⟨x22⟩] h13 (rt (fun v23 h24 =>
  ∃ r25, v23 = .int .i64 r25 ∧
  ifP (!decide (r25 = 0)) (R (.ret (.tuple ⟨[.int .i64 r25, .int .i64 i_14]⟩)) h24)
  (I11 ((IntKind.i64.wrap (i_14 + 1)), ()) h24 ∧ r12 (((IntKind.i64.wrap (i_14 + 1)), ()), h24) ((i_14, ()), h13))) (fun v26 h27 => R (.pan v26) h27)))
  (R (.ret (.tuple ⟨[.int .i64 0, .int .i64 0]⟩)) h13))
theorem E_compassref03_Check {p0_g : List Value} {R : Res → H → Prop} {h : H} (H0 : B_compassref03_Check p0_g R h) : T Try.prog F.compassref03_Check [.agg ⟨p0_g⟩] h R :=
  T_intro A_compassref03_Check Try.func42 (c := bodyOf Try.f42) (by kernel_rfl) (by kernel_rfl) (by kernel_rfl) (cast_of (by kernel_rfl) H0)

/-! ### compass/compassref03.Bad -/
def A_compassref03_Bad : An := ⟨lkA [(0, rng 2), (1, rng 20), (2, rng 1), (3, rng 18), (4, rng 1), (5, rng 1)], lkL [], lkC [(3, [])]⟩
def B_compassref03_Bad (p0_nodes : Int) (p1_e : List Value) (R : Res → H → Prop) (h : H) : Prop :=
  newP h (.cells ⟨p1_e⟩ 44 (0, 0)) fun b1 h2 =>
  ∃ J3 : (Unit) → H → Prop, (ldI h2 ((bk b1).add 0) .i64 fun x5 =>
  ifP (decide (x5 < 0)) (R (.ret (.int .i64 30)) h2) (ldI h2 ((bk b1).add 1) .i64 fun x6 =>
  ifP (decide (x6 < 0)) (R (.ret (.int .i64 30)) h2) (ldI h2 ((bk b1).add 0) .i64 fun x7 =>
  ifP (decide (p0_nodes ≤ x7)) (R (.ret (.int .i64 30)) h2) (ldI h2 ((bk b1).add 1) .i64 fun x8 =>
  ifP (decide (p0_nodes ≤ x8)) (R (.ret (.int .i64 30)) h2)
  (J3 (()) h2))))) ∧
  (∀  (h4 : H), J3 (()) h4 →
  ldI h4 ((bk b1).add 2) .i64 fun x9 =>
  ifP (decide (x9 < 0)) (R (.ret (.int .i64 31)) h4) (ldI h4 ((bk b1).add 2) .i64 fun x10 =>
  ifP (decide (1048576 < x10)) (R (.ret (.int .i64 31)) h4) (ldI h4 ((bk b1).add 3) .i64 fun x11 =>
  ifP (decide (x11 < (-1048576))) (R (.ret (.int .i64 31)) h4) (ldI h4 ((bk b1).add 3) .i64 fun x12 =>
  ifP (decide (1048576 < x12)) (R (.ret (.int .i64 31)) h4)
  (R (.ret (.int .i64 0)) h4)))))
theorem E_compassref03_Bad {p0_nodes : Int} {p1_e : List Value} {R : Res → H → Prop} {h : H} (H0 : B_compassref03_Bad p0_nodes p1_e R h) : T Try.prog F.compassref03_Bad [.int .i64 p0_nodes, .agg ⟨p1_e⟩] h R :=
  T_intro A_compassref03_Bad Try.func43 (c := bodyOf Try.f43) (by kernel_rfl) (by kernel_rfl) (by kernel_rfl) (cast_of (by kernel_rfl) H0)

/-! ### (compass/maxflow.net).send -/
def A_maxflow_net_send : An := ⟨lkA [(0, rng 11), (1, rng 12)], lkL [], lkC []⟩
def B_maxflow_net_send (p0_n : Value) (p1_a : Int) (p2_x : Int) (R : Res → H → Prop) (h : H) : Prop :=
  ptrP p0_n fun a1 =>
  ldV h (a1.add 1) fun x2 =>
  ixS x2 p1_a 1 fun a3 =>
  ldI h a3 .i64 fun x4 =>
  ixS x2 p1_a 1 fun a5 =>
  stC h a5 (.int .i64 (IntKind.i64.wrap (x4 - p2_x))) fun h6 =>
  ptrP p0_n fun a7 =>
  ldV h6 (a7.add 1) fun x8 =>
  ixS x8 (bitsI .xor .i64 p1_a 1) 1 fun a9 =>
  ldI h6 a9 .i64 fun x10 =>
  ixS x8 (bitsI .xor .i64 p1_a 1) 1 fun a11 =>
  stC h6 a11 (.int .i64 (IntKind.i64.wrap (x10 + p2_x))) fun h12 =>
  R (.ret (.tuple ⟨[]⟩)) h12
theorem E_maxflow_net_send {p0_n : Value} {p1_a : Int} {p2_x : Int} {R : Res → H → Prop} {h : H} (H0 : B_maxflow_net_send p0_n p1_a p2_x R h) : T Try.prog F.maxflow_net_send [p0_n, .int .i64 p1_a, .int .i64 p2_x] h R :=
  T_intro A_maxflow_net_send Try.func60 (c := bodyOf Try.f60) (by kernel_rfl) (by kernel_rfl) (by kernel_rfl) (cast_of (by kernel_rfl) H0)

/-! ### (compass/maxflow.dinic).fill -/
def A_maxflow_dinic_fill : An := ⟨lkA [(0, ⟨[0, 1, 2, 3, 5, 6, 7, 4, 8, 9, 10, 11, 12, 13, 14, 15], lkN []⟩), (1, ⟨[0, 1, 2, 4, 5, 6, 3, 7, 8, 9, 10, 11, 12, 13], lkN []⟩), (2, rng 13), (3, rng 9)], lkL [(0, [])], lkC []⟩
def B_maxflow_dinic_fill (p0_d : Value) (R : Res → H → Prop) (h : H) : Prop :=
  ∃ (I1 : (Unit) → H → Prop) (r2 : (Unit) × H → (Unit) × H → Prop), WellFounded r2 ∧ I1 (()) h ∧
  ∀  (h3 : H), I1 (()) h3 →
  ptrP p0_d fun a4 =>
  ptrP p0_d fun a5 =>
  ldV h3 (a4.add 0) fun x6 =>
  ldV h3 (a5.add 0) fun x7 =>
  ptrP x7 fun a8 =>
  ldI h3 (a8.add 3) .i64 fun x9 =>
  T Try.prog F.maxflow_net_levels [x6, .int .i64 x9] h3 (rt (fun v10 h11 =>
  ptrP p0_d fun a12 =>
  oneP v10 (stC h11 (a12.add 1) v10 fun h13 =>
  ptrP p0_d fun a14 =>
  ptrP p0_d fun a15 =>
  ldV h13 (a14.add 1) fun x16 =>
  ldV h13 (a15.add 0) fun x17 =>
  ptrP x17 fun a18 =>
  ldI h13 (a18.add 4) .i64 fun x19 =>
  ixS x16 x19 1 fun a20 =>
  ldI h13 a20 .i64 fun x21 =>
  ifP (decide (x21 < 0)) (R (.ret (.tuple ⟨[]⟩)) h13)
  (ptrP p0_d fun a22 =>
  ldV h13 (a22.add 0) fun x23 =>
  ptrP x23 fun a24 =>
  ldV h13 (a24.add 2) fun x25 =>
  slcP x25 fun a26 l27 c28 =>
  mkS ((l27 : Nat) : Int) ((l27 : Nat) : Int) 8 [.int .i64 0] 3 h13 fun b29 h30 =>
  ptrP p0_d fun a31 =>
  stC h30 (a31.add 2) (.slice (some (bk b29)) (((l27 : Nat) : Int).toNat) (((l27 : Nat) : Int).toNat)) fun h32 =>
  ptrP p0_d fun a33 =>
  ldV h32 (a33.add 0) fun x34 =>
  ptrP x34 fun a35 =>
  ldI h32 (a35.add 3) .i64 fun x36 =>
  T Try.prog F.maxflow_dinic_along [p0_d, .int .i64 x36, .int .i64 4611686018427387904] h32 (rt (fun v37 h38 =>
  ∃ r39, v37 = .int .i64 r39 ∧
  I1 (()) h38 ∧ r2 ((()), h38) ((()), h3)) (fun v40 h41 => R (.pan v40) h41))))) (fun v42 h43 => R (.pan v42) h43))
theorem E_maxflow_dinic_fill {p0_d : Value} {R : Res → H → Prop} {h : H} (H0 : B_maxflow_dinic_fill p0_d R h) : T Try.prog F.maxflow_dinic_fill [p0_d] h R :=
  T_intro A_maxflow_dinic_fill Try.func61 (c := bodyOf Try.f61) (by kernel_rfl) (by kernel_rfl) (by kernel_rfl) (cast_of (by kernel_rfl) H0)

/-! ### (compass/maxflow.dinic).along -/
def A_maxflow_dinic_along : An := ⟨lkA [(0, rng 1), (1, rng 13), (2, rng 2), (3, rng 1), (4, ⟨[0, 1, 2, 4, 7, 8, 9, 14, 3, 5, 6, 10, 11, 12, 13, 15, 16, 17, 18], lkN []⟩), (5, rng 10), (6, ⟨[0, 1, 2, 7, 10, 11, 12, 14, 3, 4, 5, 6, 8, 9, 13, 15, 16, 17, 18, 19], lkN []⟩), (7, rng 11), (8, ⟨[0, 1, 2, 7, 3, 4, 5, 6, 8, 9, 10, 11, 12, 13, 14, 16, 19, 20, 21, 23, 15, 17, 18, 22, 24, 25, 26, 27, 28], lkN []⟩), (9, rng 18), (10, rng 7), (11, rng 4), (12, rng 3), (13, rng 2)], lkL [(4, [(7, .int .i64)])], lkC [(5, [(7, .int .i64)])]⟩
def B_maxflow_dinic_along (p0_d : Value) (p1_v : Int) (p2_most : Int) (R : Res → H → Prop) (h : H) : Prop :=
  ptrP p0_d fun a1 =>
  ldV h (a1.add 0) fun x2 =>
  ptrP x2 fun a3 =>
  ldI h (a3.add 4) .i64 fun x4 =>
  ifP (decide (p1_v = x4)) (R (.ret (.int .i64 p2_most)) h) (ifP (decide (p2_most = 0)) (R (.ret (.int .i64 p2_most)) h)
  (∃ (I5 : (Int × Unit) → H → Prop) (r6 : (Int × Unit) × H → (Int × Unit) × H → Prop), WellFounded r6 ∧ I5 (0, ()) h ∧
  ∀ (sent_8 : Int) (h7 : H), I5 (sent_8, ()) h7 →
  ptrP p0_d fun a9 =>
  ptrP p0_d fun a10 =>
  ldV h7 (a9.add 2) fun x11 =>
  ixS x11 p1_v 1 fun a12 =>
  ldI h7 a12 .i64 fun x13 =>
  ldV h7 (a10.add 0) fun x14 =>
  ptrP x14 fun a15 =>
  ldV h7 (a15.add 2) fun x16 =>
  ixS x16 p1_v 1 fun a17 =>
  ldV h7 a17 fun x18 =>
  slcP x18 fun a19 l20 c21 =>
  ifP (decide (x13 < ((l20 : Nat) : Int))) (∃ J22 : (Int × Unit) → H → Prop, (ptrP p0_d fun a25 =>
  ptrP p0_d fun a26 =>
  ldV h7 (a25.add 0) fun x27 =>
  ptrP x27 fun a28 =>
  ldV h7 (a28.add 2) fun x29 =>
  ixS x29 p1_v 1 fun a30 =>
  ldV h7 a30 fun x31 =>
  ldV h7 (a26.add 2) fun x32 =>
  ixS x32 p1_v 1 fun a33 =>
  ldI h7 a33 .i64 fun x34 =>
  ixS x31 x34 1 fun a35 =>
  ldI h7 a35 .i64 fun x36 =>
  ptrP p0_d fun a37 =>
  ldV h7 (a37.add 0) fun x38 =>
  ptrP x38 fun a39 =>
  ldV h7 (a39.add 0) fun x40 =>
  ixS x40 x36 1 fun a41 =>
  ldI h7 a41 .i64 fun x42 =>
  ptrP p0_d fun a43 =>
  ldV h7 (a43.add 0) fun x44 =>
  ptrP x44 fun a45 =>
  ldV h7 (a45.add 1) fun x46 =>
  ixS x46 x36 1 fun a47 =>
  ldI h7 a47 .i64 fun x48 =>
  ifP (decide (x48 = 0)) (J22 (sent_8, ()) h7) (ptrP p0_d fun a49 =>
  ptrP p0_d fun a50 =>
  ldV h7 (a49.add 1) fun x51 =>
  ixS x51 x42 1 fun a52 =>
  ldI h7 a52 .i64 fun x53 =>
  ldV h7 (a50.add 1) fun x54 =>
  ixS x54 p1_v 1 fun a55 =>
  ldI h7 a55 .i64 fun x56 =>
  ifP (!decide (x53 = (IntKind.i64.wrap (x56 + 1)))) (J22 (sent_8, ()) h7)
  (ptrP p0_d fun a57 =>
  ldV h7 (a57.add 0) fun x58 =>
  ptrP x58 fun a59 =>
  ldV h7 (a59.add 1) fun x60 =>
  ixS x60 x36 1 fun a61 =>
  ldI h7 a61 .i64 fun x62 =>
  T Try.prog F.maxflow_dinic_along [p0_d, .int .i64 x42, .int .i64 (if x62 < (IntKind.i64.wrap (p2_most - sent_8)) then x62 else (IntKind.i64.wrap (p2_most - sent_8)))] h7 (rt (fun v63 h64 =>
  ∃ r65, v63 = .int .i64 r65 ∧
  ptrP p0_d fun a66 =>
  ldV h64 (a66.add 0) fun x67 =>
  T Try.prog F.maxflow_net_send [x67, .int .i64 x36, .int .i64 r65] h64 (rt (fun v68 h69 =>
  v68 = .tuple ⟨[]⟩ ∧
  ifP (decide ((IntKind.i64.wrap (sent_8 + r65)) = p2_most)) (R (.ret (.int .i64 (IntKind.i64.wrap (sent_8 + r65)))) h69)
  (J22 ((IntKind.i64.wrap (sent_8 + r65)), ()) h69)) (fun v70 h71 => R (.pan v70) h71))) (fun v72 h73 => R (.pan v72) h73))))) ∧
  (∀ (sent_24 : Int) (h23 : H), J22 (sent_24, ()) h23 →
  ptrP p0_d fun a74 =>
  ldV h23 (a74.add 2) fun x75 =>
  ixS x75 p1_v 1 fun a76 =>
  ldI h23 a76 .i64 fun x77 =>
  ixS x75 p1_v 1 fun a78 =>
  stC h23 a78 (.int .i64 (IntKind.i64.wrap (x77 + 1))) fun h79 =>
  I5 (sent_24, ()) h79 ∧ r6 ((sent_24, ()), h79) ((sent_8, ()), h7)))
  (R (.ret (.int .i64 sent_8)) h7)))
theorem E_maxflow_dinic_along {p0_d : Value} {p1_v : Int} {p2_most : Int} {R : Res → H → Prop} {h : H} (H0 : B_maxflow_dinic_along p0_d p1_v p2_most R h) : T Try.prog F.maxflow_dinic_along [p0_d, .int .i64 p1_v, .int .i64 p2_most] h R :=
  T_intro A_maxflow_dinic_along Try.func62 (c := bodyOf Try.f62) (by kernel_rfl) (by kernel_rfl) (by kernel_rfl) (cast_of (by kernel_rfl) H0)

/-! ### (compass/maxflow.trees).fill -/
def A_maxflow_trees_fill : An := ⟨lkA [(0, ⟨[0, 1, 2, 3, 5, 6, 7, 4, 8, 9, 10, 11, 12, 13, 14, 15], lkN []⟩), (1, ⟨[0, 1, 2, 4, 5, 6, 3, 7, 8, 9, 10, 11, 12, 13], lkN []⟩), (2, rng 2)], lkL [(0, [])], lkC []⟩
def B_maxflow_trees_fill (p0_f : Value) (R : Res → H → Prop) (h : H) : Prop :=
  ∃ (I1 : (Unit) → H → Prop) (r2 : (Unit) × H → (Unit) × H → Prop), WellFounded r2 ∧ I1 (()) h ∧
  ∀  (h3 : H), I1 (()) h3 →
  ptrP p0_f fun a4 =>
  ptrP p0_f fun a5 =>
  ldV h3 (a4.add 0) fun x6 =>
  ldV h3 (a5.add 0) fun x7 =>
  ptrP x7 fun a8 =>
  ldI h3 (a8.add 3) .i64 fun x9 =>
  T Try.prog F.maxflow_net_levels [x6, .int .i64 x9] h3 (rt (fun v10 h11 =>
  ptrP p0_f fun a12 =>
  oneP v10 (stC h11 (a12.add 3) v10 fun h13 =>
  ptrP p0_f fun a14 =>
  ptrP p0_f fun a15 =>
  ldV h13 (a14.add 3) fun x16 =>
  ldV h13 (a15.add 0) fun x17 =>
  ptrP x17 fun a18 =>
  ldI h13 (a18.add 4) .i64 fun x19 =>
  ixS x16 x19 1 fun a20 =>
  ldI h13 a20 .i64 fun x21 =>
  ifP (decide (x21 < 0)) (R (.ret (.tuple ⟨[]⟩)) h13)
  (T Try.prog F.maxflow_trees_phase [p0_f] h13 (rt (fun v22 h23 =>
  v22 = .tuple ⟨[]⟩ ∧
  I1 (()) h23 ∧ r2 ((()), h23) ((()), h3)) (fun v24 h25 => R (.pan v24) h25))))) (fun v26 h27 => R (.pan v26) h27))
theorem E_maxflow_trees_fill {p0_f : Value} {R : Res → H → Prop} {h : H} (H0 : B_maxflow_trees_fill p0_f R h) : T Try.prog F.maxflow_trees_fill [p0_f] h R :=
  T_intro A_maxflow_trees_fill Try.func63 (c := bodyOf Try.f63) (by kernel_rfl) (by kernel_rfl) (by kernel_rfl) (cast_of (by kernel_rfl) H0)

/-! ### (compass/maxflow.trees).phase -/
def A_maxflow_trees_phase : An := ⟨lkA [(0, rng 9), (1, rng 9), (2, ⟨[0, 1, 2, 4, 3, 6, 7, 8, 5, 9, 10, 11], lkN []⟩), (3, rng 6), (4, rng 1), (5, rng 2), (6, rng 7), (7, rng 2), (8, ⟨[0, 1, 2, 4, 5, 6, 3, 7, 8, 9, 10, 11, 12, 13, 14, 15, 16], lkN []⟩), (9, rng 7), (10, rng 6), (11, rng 1), (12, rng 5), (13, rng 16), (14, rng 3), (15, rng 10), (16, rng 2), (17, rng 10), (18, rng 2), (19, rng 4), (20, rng 10), (21, rng 6), (22, rng 1), (23, rng 2), (24, rng 8), (25, rng 3), (26, rng 2)], lkL [(4, [(40, .int .i64)]), (8, []), (11, [(76, .int .i64)]), (22, [(141, .int .i64)])], lkC []⟩
def B_maxflow_trees_phase (p0_f : Value) (R : Res → H → Prop) (h : H) : Prop :=
  ptrP p0_f fun a1 =>
  ldV h (a1.add 0) fun x2 =>
  ptrP x2 fun a3 =>
  ldV h (a3.add 2) fun x4 =>
  slcP x4 fun a5 l6 c7 =>
  T Try.prog F.links_New [.int .i64 ((l6 : Nat) : Int)] h (rt (fun v8 h9 =>
  ∃ r10 : Value, ∃ r11 : Int, v8 = .tuple ⟨[r10, .int .i64 r11]⟩ ∧
  ptrP p0_f fun a12 =>
  oneP r10 (stC h9 (a12.add 1) r10 fun h13 =>
  mkS ((l6 : Nat) : Int) ((l6 : Nat) : Int) 8 [.int .i64 0] 3 h13 fun b14 h15 =>
  ptrP p0_f fun a16 =>
  stC h15 (a16.add 2) (.slice (some (bk b14)) (((l6 : Nat) : Int).toNat) (((l6 : Nat) : Int).toNat)) fun h17 =>
  mkS ((l6 : Nat) : Int) ((l6 : Nat) : Int) 8 [.int .i64 0] 3 h17 fun b18 h19 =>
  ptrP p0_f fun a20 =>
  stC h19 (a20.add 4) (.slice (some (bk b18)) (((l6 : Nat) : Int).toNat) (((l6 : Nat) : Int).toNat)) fun h21 =>
  ptrP p0_f fun a22 =>
  ldV h21 (a22.add 2) fun x23 =>
  slcP x23 fun a24 l25 c26 =>
  ∃ (I27 : (Int × Unit) → H → Prop) (r28 : (Int × Unit) × H → (Int × Unit) × H → Prop), WellFounded r28 ∧ I27 (0, ()) h21 ∧
  ∀ (s30 : Int) (h29 : H), I27 (s30, ()) h29 →
  ifP (decide (s30 < ((l25 : Nat) : Int))) (ptrP p0_f fun a31 =>
  ldV h29 (a31.add 2) fun x32 =>
  ixS x32 s30 1 fun a33 =>
  stC h29 a33 (.int .i64 (-1)) fun h34 =>
  I27 ((IntKind.i64.wrap (s30 + 1)), ()) h34 ∧ r28 (((IntKind.i64.wrap (s30 + 1)), ()), h34) ((s30, ()), h29))
  (∃ (I35 : (Unit) → H → Prop) (r36 : (Unit) × H → (Unit) × H → Prop), WellFounded r36 ∧ I35 (()) h29 ∧
  ∀  (h37 : H), I35 (()) h37 →
  ptrP p0_f fun a38 =>
  ptrP p0_f fun a39 =>
  ldV h37 (a38.add 1) fun x40 =>
  ldV h37 (a39.add 0) fun x41 =>
  ptrP x41 fun a42 =>
  ldI h37 (a42.add 3) .i64 fun x43 =>
  T Try.prog F.links_Forest_Root [x40, .int .i64 x43] h37 (rt (fun v44 h45 =>
  ∃ r46 : Int, ∃ r47 : Int, v44 = .tuple ⟨[.int .i64 r46, .int .i64 r47]⟩ ∧
  ptrP p0_f fun a48 =>
  ldV h45 (a48.add 0) fun x49 =>
  ptrP x49 fun a50 =>
  ldI h45 (a50.add 4) .i64 fun x51 =>
  ifP (decide (r46 = x51)) (T Try.prog F.maxflow_trees_push [p0_f] h45 (rt (fun v52 h53 =>
  v52 = .tuple ⟨[]⟩ ∧
  I35 (()) h53 ∧ r36 ((()), h53) ((()), h37)) (fun v54 h55 => R (.pan v54) h55)))
  (T Try.prog F.maxflow_trees_grow [p0_f, .int .i64 r46] h45 (rt (fun v56 h57 =>
  ∃ r58, v56 = .bool r58 ∧
  ifP r58 (I35 (()) h57 ∧ r36 ((()), h57) ((()), h37))
  (ptrP p0_f fun a59 =>
  ldV h57 (a59.add 0) fun x60 =>
  ptrP x60 fun a61 =>
  ldI h57 (a61.add 3) .i64 fun x62 =>
  ifP (decide (r46 = x62)) (ptrP p0_f fun a63 =>
  ldV h57 (a63.add 2) fun x64 =>
  slcP x64 fun a65 l66 c67 =>
  ∃ (I68 : (Int × Unit) → H → Prop) (r69 : (Int × Unit) × H → (Int × Unit) × H → Prop), WellFounded r69 ∧ I68 (0, ()) h57 ∧
  ∀ (s71 : Int) (h70 : H), I68 (s71, ()) h70 →
  ifP (decide (s71 < ((l66 : Nat) : Int))) (ptrP p0_f fun a72 =>
  ldV h70 (a72.add 2) fun x73 =>
  ixS x73 s71 1 fun a74 =>
  ldI h70 a74 .i64 fun x75 =>
  ifP (decide (0 ≤ x75)) (T Try.prog F.maxflow_trees_drop [p0_f, .int .i64 s71] h70 (rt (fun v76 h77 =>
  v76 = .tuple ⟨[]⟩ ∧
  I68 ((IntKind.i64.wrap (s71 + 1)), ()) h77 ∧ r69 (((IntKind.i64.wrap (s71 + 1)), ()), h77) ((s71, ()), h70)) (fun v78 h79 => R (.pan v78) h79)))
  (I68 ((IntKind.i64.wrap (s71 + 1)), ()) h70 ∧ r69 (((IntKind.i64.wrap (s71 + 1)), ()), h70) ((s71, ()), h70)))
  (R (.ret (.tuple ⟨[]⟩)) h70))
  (ptrP p0_f fun a80 =>
  ldV h57 (a80.add 3) fun x81 =>
  ixS x81 r46 1 fun a82 =>
  stC h57 a82 (.int .i64 (-1)) fun h83 =>
  ptrP p0_f fun a84 =>
  ldV h83 (a84.add 2) fun x85 =>
  slcP x85 fun a86 l87 c88 =>
  ∃ (I89 : (Int × Unit) → H → Prop) (r90 : (Int × Unit) × H → (Int × Unit) × H → Prop), WellFounded r90 ∧ I89 (0, ()) h83 ∧
  ∀ (s92 : Int) (h91 : H), I89 (s92, ()) h91 →
  ifP (decide (s92 < ((l87 : Nat) : Int))) (ixS x85 s92 1 fun a93 =>
  ldI h91 a93 .i64 fun x94 =>
  ifP (decide (0 ≤ x94)) (ptrP p0_f fun a95 =>
  ldV h91 (a95.add 0) fun x96 =>
  ptrP x96 fun a97 =>
  ldV h91 (a97.add 0) fun x98 =>
  ixS x98 x94 1 fun a99 =>
  ldI h91 a99 .i64 fun x100 =>
  ifP (decide (x100 = r46)) (T Try.prog F.maxflow_trees_drop [p0_f, .int .i64 s92] h91 (rt (fun v101 h102 =>
  v101 = .tuple ⟨[]⟩ ∧
  ptrP p0_f fun a103 =>
  ldV h102 (a103.add 4) fun x104 =>
  ixS x104 s92 1 fun a105 =>
  ldI h102 a105 .i64 fun x106 =>
  ixS x104 s92 1 fun a107 =>
  stC h102 a107 (.int .i64 (IntKind.i64.wrap (x106 + 1))) fun h108 =>
  I89 ((IntKind.i64.wrap (s92 + 1)), ()) h108 ∧ r90 (((IntKind.i64.wrap (s92 + 1)), ()), h108) ((s92, ()), h91)) (fun v109 h110 => R (.pan v109) h110)))
  (I89 ((IntKind.i64.wrap (s92 + 1)), ()) h91 ∧ r90 (((IntKind.i64.wrap (s92 + 1)), ()), h91) ((s92, ()), h91))) (I89 ((IntKind.i64.wrap (s92 + 1)), ()) h91 ∧ r90 (((IntKind.i64.wrap (s92 + 1)), ()), h91) ((s92, ()), h91)))
  (I35 (()) h91 ∧ r36 ((()), h91) ((()), h37))))) (fun v111 h112 => R (.pan v111) h112)))) (fun v113 h114 => R (.pan v113) h114))))) (fun v115 h116 => R (.pan v115) h116))
theorem E_maxflow_trees_phase {p0_f : Value} {R : Res → H → Prop} {h : H} (H0 : B_maxflow_trees_phase p0_f R h) : T Try.prog F.maxflow_trees_phase [p0_f] h R :=
  T_intro A_maxflow_trees_phase Try.func64 (c := bodyOf Try.f64) (by kernel_rfl) (by kernel_rfl) (by kernel_rfl) (cast_of (by kernel_rfl) H0)

/-! ### compass/links.New -/
def A_links_New : An := ⟨lkA [(0, rng 2), (1, rng 6), (2, rng 2), (3, rng 5), (4, rng 6), (5, rng 1), (6, rng 2), (7, rng 8), (8, rng 2), (9, rng 3)], lkL [(5, [(21, .int .i64)])], lkC []⟩
def B_links_New (p0_n : Int) (R : Res → H → Prop) (h : H) : Prop :=
  ifP (decide (p0_n < 0)) (R (.ret (.tuple ⟨[.pointer none, .int .i64 3]⟩)) h) (ifP (decide (1024 < p0_n)) (R (.ret (.tuple ⟨[.pointer none, .int .i64 3]⟩)) h)
  (mkS p0_n p0_n 48 [.int .i64 0, .int .i64 0, .int .i64 0, .int .i64 0, .int .i64 0, .int .i64 0] 122 h fun b1 h2 =>
  newP h2 (.cells ⟨[.slice (some (bk b1)) p0_n.toNat p0_n.toNat]⟩ 120 (0, 0)) fun b3 h4 =>
  ldV h4 ((bk b3).add 0) fun x5 =>
  slcP x5 fun a6 l7 c8 =>
  ∃ (I9 : (Int × Unit) → H → Prop) (r10 : (Int × Unit) × H → (Int × Unit) × H → Prop), WellFounded r10 ∧ I9 (0, ()) h4 ∧
  ∀ (s12 : Int) (h11 : H), I9 (s12, ()) h11 →
  ifP (decide (s12 < ((l7 : Nat) : Int))) (ldV h11 ((bk b3).add 0) fun x13 =>
  ixS x13 s12 6 fun a14 =>
  stN h11 a14 [.int .i64 (-1), .int .i64 (-1), .int .i64 (-1), .int .i64 0, .int .i64 0, .int .i64 0] 6 fun h15 =>
  I9 ((IntKind.i64.wrap (s12 + 1)), ()) h15 ∧ r10 (((IntKind.i64.wrap (s12 + 1)), ()), h15) ((s12, ()), h11))
  (R (.ret (.tuple ⟨[.pointer (some (bk b3)), .int .i64 0]⟩)) h11)))
theorem E_links_New {p0_n : Int} {R : Res → H → Prop} {h : H} (H0 : B_links_New p0_n R h) : T Try.prog F.links_New [.int .i64 p0_n] h R :=
  T_intro A_links_New Try.func65 (c := bodyOf Try.f65) (by kernel_rfl) (by kernel_rfl) (by kernel_rfl) (cast_of (by kernel_rfl) H0)

/-! ### (compass/links.Forest).Root -/
def A_links_Forest_Root : An := ⟨lkA [(0, rng 2), (1, rng 4), (2, rng 2), (3, rng 5)], lkL [], lkC []⟩
def B_links_Forest_Root (p0_f : Value) (p1_v : Int) (R : Res → H → Prop) (h : H) : Prop :=
  T Try.prog F.links_Forest_node [p0_f, .int .i64 p1_v] h (rt (fun v1 h2 =>
  ∃ r3, v1 = .bool r3 ∧
  ifP (!r3) (R (.ret (.tuple ⟨[.int .i64 0, .int .i64 30]⟩)) h2)
  (T Try.prog F.links_Forest_root [p0_f, .int .i64 p1_v] h2 (rt (fun v4 h5 =>
  ∃ r6, v4 = .int .i64 r6 ∧
  R (.ret (.tuple ⟨[.int .i64 r6, .int .i64 0]⟩)) h5) (fun v7 h8 => R (.pan v7) h8)))) (fun v9 h10 => R (.pan v9) h10))
theorem E_links_Forest_Root {p0_f : Value} {p1_v : Int} {R : Res → H → Prop} {h : H} (H0 : B_links_Forest_Root p0_f p1_v R h) : T Try.prog F.links_Forest_Root [p0_f, .int .i64 p1_v] h R :=
  T_intro A_links_Forest_Root Try.func66 (c := bodyOf Try.f66) (by kernel_rfl) (by kernel_rfl) (by kernel_rfl) (cast_of (by kernel_rfl) H0)

/-! ### (compass/maxflow.trees).push -/
def A_maxflow_trees_push : An := ⟨lkA [(0, ⟨[0, 1, 2, 4, 5, 6, 3, 7, 8, 9, 10, 11, 12, 13, 14, 15, 16, 17, 18], lkN []⟩), (1, ⟨[0, 1, 2, 4, 5, 6, 11, 3, 7, 8, 9, 10, 12, 13], lkN []⟩), (2, ⟨[0, 1, 2, 4, 5, 6, 3, 7, 8, 9, 10, 11, 12, 13, 14, 15, 16, 17, 18], lkN []⟩), (3, rng 6), (4, rng 3), (5, rng 10)], lkL [(2, [])], lkC []⟩
def B_maxflow_trees_push (p0_f : Value) (R : Res → H → Prop) (h : H) : Prop :=
  ptrP p0_f fun a1 =>
  ptrP p0_f fun a2 =>
  ldV h (a1.add 1) fun x3 =>
  ldV h (a2.add 0) fun x4 =>
  ptrP x4 fun a5 =>
  ldI h (a5.add 3) .i64 fun x6 =>
  T Try.prog F.links_Forest_Least [x3, .int .i64 x6] h (rt (fun v7 h8 =>
  ∃ r9 : Int, ∃ r10 : Int, ∃ r11 : Int, v7 = .tuple ⟨[.int .i64 r9, .int .i64 r10, .int .i64 r11]⟩ ∧
  ptrP p0_f fun a12 =>
  ptrP p0_f fun a13 =>
  ldV h8 (a12.add 1) fun x14 =>
  ldV h8 (a13.add 0) fun x15 =>
  ptrP x15 fun a16 =>
  ldI h8 (a16.add 3) .i64 fun x17 =>
  T Try.prog F.links_Forest_Add [x14, .int .i64 x17, .int .i64 (IntKind.i64.wrap (0 - r10))] h8 (rt (fun v18 h19 =>
  ∃ r20, v18 = .int .i64 r20 ∧
  ∃ (I21 : (Unit) → H → Prop) (r22 : (Unit) × H → (Unit) × H → Prop), WellFounded r22 ∧ I21 (()) h19 ∧
  ∀  (h23 : H), I21 (()) h23 →
  ptrP p0_f fun a24 =>
  ptrP p0_f fun a25 =>
  ldV h23 (a24.add 1) fun x26 =>
  ldV h23 (a25.add 0) fun x27 =>
  ptrP x27 fun a28 =>
  ldI h23 (a28.add 3) .i64 fun x29 =>
  T Try.prog F.links_Forest_Least [x26, .int .i64 x29] h23 (rt (fun v30 h31 =>
  ∃ r32 : Int, ∃ r33 : Int, ∃ r34 : Int, v30 = .tuple ⟨[.int .i64 r32, .int .i64 r33, .int .i64 r34]⟩ ∧
  ifP (!decide (r34 = 0)) (R (.ret (.tuple ⟨[]⟩)) h31) (ifP (decide (0 < r33)) (R (.ret (.tuple ⟨[]⟩)) h31)
  (T Try.prog F.maxflow_trees_drop [p0_f, .int .i64 r32] h31 (rt (fun v35 h36 =>
  v35 = .tuple ⟨[]⟩ ∧
  ptrP p0_f fun a37 =>
  ldV h36 (a37.add 4) fun x38 =>
  ixS x38 r32 1 fun a39 =>
  ldI h36 a39 .i64 fun x40 =>
  ixS x38 r32 1 fun a41 =>
  stC h36 a41 (.int .i64 (IntKind.i64.wrap (x40 + 1))) fun h42 =>
  I21 (()) h42 ∧ r22 ((()), h42) ((()), h23)) (fun v43 h44 => R (.pan v43) h44))))) (fun v45 h46 => R (.pan v45) h46))) (fun v47 h48 => R (.pan v47) h48))) (fun v49 h50 => R (.pan v49) h50))
theorem E_maxflow_trees_push {p0_f : Value} {R : Res → H → Prop} {h : H} (H0 : B_maxflow_trees_push p0_f R h) : T Try.prog F.maxflow_trees_push [p0_f] h R :=
  T_intro A_maxflow_trees_push Try.func67 (c := bodyOf Try.f67) (by kernel_rfl) (by kernel_rfl) (by kernel_rfl) (cast_of (by kernel_rfl) H0)

/-! ### (compass/maxflow.trees).grow -/
def A_maxflow_trees_grow : An := ⟨lkA [(0, rng 1), (1, ⟨[0, 1, 2, 4, 7, 8, 9, 14, 3, 5, 6, 10, 11, 12, 13, 15, 16, 17, 18], lkN []⟩), (2, rng 10), (3, ⟨[0, 1, 2, 7, 10, 11, 12, 14, 3, 4, 5, 6, 8, 9, 13, 15, 16, 17, 18, 19], lkN []⟩), (4, rng 11), (5, ⟨[0, 1, 2, 7, 3, 4, 5, 6, 8, 9, 10, 11, 12, 13, 14, 16, 19, 20, 21, 23, 15, 17, 18, 22, 24, 25, 26, 27, 28], lkN []⟩), (6, rng 8), (7, ⟨[0, 1, 2, 4, 5, 6, 7, 8, 13, 3, 9, 10, 11, 12, 14, 15, 16], lkN []⟩), (8, rng 1), (9, rng 1)], lkL [(1, [])], lkC []⟩
def B_maxflow_trees_grow (p0_f : Value) (p1_v : Int) (R : Res → H → Prop) (h : H) : Prop :=
  ∃ (I1 : (Unit) → H → Prop) (r2 : (Unit) × H → (Unit) × H → Prop), WellFounded r2 ∧ I1 (()) h ∧
  ∀  (h3 : H), I1 (()) h3 →
  ptrP p0_f fun a4 =>
  ptrP p0_f fun a5 =>
  ldV h3 (a4.add 4) fun x6 =>
  ixS x6 p1_v 1 fun a7 =>
  ldI h3 a7 .i64 fun x8 =>
  ldV h3 (a5.add 0) fun x9 =>
  ptrP x9 fun a10 =>
  ldV h3 (a10.add 2) fun x11 =>
  ixS x11 p1_v 1 fun a12 =>
  ldV h3 a12 fun x13 =>
  slcP x13 fun a14 l15 c16 =>
  ifP (decide (x8 < ((l15 : Nat) : Int))) (ptrP p0_f fun a17 =>
  ptrP p0_f fun a18 =>
  ldV h3 (a17.add 0) fun x19 =>
  ptrP x19 fun a20 =>
  ldV h3 (a20.add 2) fun x21 =>
  ixS x21 p1_v 1 fun a22 =>
  ldV h3 a22 fun x23 =>
  ldV h3 (a18.add 4) fun x24 =>
  ixS x24 p1_v 1 fun a25 =>
  ldI h3 a25 .i64 fun x26 =>
  ixS x23 x26 1 fun a27 =>
  ldI h3 a27 .i64 fun x28 =>
  ptrP p0_f fun a29 =>
  ldV h3 (a29.add 0) fun x30 =>
  ptrP x30 fun a31 =>
  ldV h3 (a31.add 0) fun x32 =>
  ixS x32 x28 1 fun a33 =>
  ldI h3 a33 .i64 fun x34 =>
  ptrP p0_f fun a35 =>
  ldV h3 (a35.add 0) fun x36 =>
  ptrP x36 fun a37 =>
  ldV h3 (a37.add 1) fun x38 =>
  ixS x38 x28 1 fun a39 =>
  ldI h3 a39 .i64 fun x40 =>
  ifP (decide (0 < x40)) (ptrP p0_f fun a41 =>
  ptrP p0_f fun a42 =>
  ldV h3 (a41.add 3) fun x43 =>
  ixS x43 x34 1 fun a44 =>
  ldI h3 a44 .i64 fun x45 =>
  ldV h3 (a42.add 3) fun x46 =>
  ixS x46 p1_v 1 fun a47 =>
  ldI h3 a47 .i64 fun x48 =>
  ifP (decide (x45 = (IntKind.i64.wrap (x48 + 1)))) (ptrP p0_f fun a49 =>
  ldV h3 (a49.add 2) fun x50 =>
  ixS x50 p1_v 1 fun a51 =>
  stC h3 a51 (.int .i64 x28) fun h52 =>
  ptrP p0_f fun a53 =>
  ptrP p0_f fun a54 =>
  ldV h52 (a53.add 1) fun x55 =>
  ldV h52 (a54.add 0) fun x56 =>
  ptrP x56 fun a57 =>
  ldV h52 (a57.add 1) fun x58 =>
  ixS x58 x28 1 fun a59 =>
  ldI h52 a59 .i64 fun x60 =>
  T Try.prog F.links_Forest_Link [x55, .int .i64 p1_v, .int .i64 x34, .int .i64 x60] h52 (rt (fun v61 h62 =>
  ∃ r63, v61 = .int .i64 r63 ∧
  R (.ret (.bool true)) h62) (fun v64 h65 => R (.pan v64) h65)))
  (ptrP p0_f fun a66 =>
  ldV h3 (a66.add 4) fun x67 =>
  ixS x67 p1_v 1 fun a68 =>
  ldI h3 a68 .i64 fun x69 =>
  ixS x67 p1_v 1 fun a70 =>
  stC h3 a70 (.int .i64 (IntKind.i64.wrap (x69 + 1))) fun h71 =>
  I1 (()) h71 ∧ r2 ((()), h71) ((()), h3))) (ptrP p0_f fun a72 =>
  ldV h3 (a72.add 4) fun x73 =>
  ixS x73 p1_v 1 fun a74 =>
  ldI h3 a74 .i64 fun x75 =>
  ixS x73 p1_v 1 fun a76 =>
  stC h3 a76 (.int .i64 (IntKind.i64.wrap (x75 + 1))) fun h77 =>
  I1 (()) h77 ∧ r2 ((()), h77) ((()), h3)))
  (R (.ret (.bool false)) h3)
theorem E_maxflow_trees_grow {p0_f : Value} {p1_v : Int} {R : Res → H → Prop} {h : H} (H0 : B_maxflow_trees_grow p0_f p1_v R h) : T Try.prog F.maxflow_trees_grow [p0_f, .int .i64 p1_v] h R :=
  T_intro A_maxflow_trees_grow Try.func68 (c := bodyOf Try.f68) (by kernel_rfl) (by kernel_rfl) (by kernel_rfl) (cast_of (by kernel_rfl) H0)

/-! ### (compass/maxflow.trees).drop -/
def A_maxflow_trees_drop : An := ⟨lkA [(0, rng 11), (1, rng 8), (2, ⟨[0, 1, 2, 4, 5, 6, 7, 12, 15, 3, 8, 9, 10, 11, 13, 14, 16, 17], lkN []⟩), (3, rng 7)], lkL [], lkC []⟩
def B_maxflow_trees_drop (p0_f : Value) (p1_v : Int) (R : Res → H → Prop) (h : H) : Prop :=
  ptrP p0_f fun a1 =>
  ldV h (a1.add 1) fun x2 =>
  T Try.prog F.links_Forest_Cut [x2, .int .i64 p1_v] h (rt (fun v3 h4 =>
  ∃ r5 : Int, ∃ r6 : Int, v3 = .tuple ⟨[.int .i64 r5, .int .i64 r6]⟩ ∧
  ptrP p0_f fun a7 =>
  ldV h4 (a7.add 2) fun x8 =>
  ixS x8 p1_v 1 fun a9 =>
  ldI h4 a9 .i64 fun x10 =>
  ptrP p0_f fun a11 =>
  ptrP p0_f fun a12 =>
  ldV h4 (a11.add 0) fun x13 =>
  ldV h4 (a12.add 0) fun x14 =>
  ptrP x14 fun a15 =>
  ldV h4 (a15.add 1) fun x16 =>
  ixS x16 x10 1 fun a17 =>
  ldI h4 a17 .i64 fun x18 =>
  T Try.prog F.maxflow_net_send [x13, .int .i64 x10, .int .i64 (IntKind.i64.wrap (x18 - r5))] h4 (rt (fun v19 h20 =>
  v19 = .tuple ⟨[]⟩ ∧
  ptrP p0_f fun a21 =>
  ldV h20 (a21.add 2) fun x22 =>
  ixS x22 p1_v 1 fun a23 =>
  stC h20 a23 (.int .i64 (-1)) fun h24 =>
  R (.ret (.tuple ⟨[]⟩)) h24) (fun v25 h26 => R (.pan v25) h26))) (fun v27 h28 => R (.pan v27) h28))
theorem E_maxflow_trees_drop {p0_f : Value} {p1_v : Int} {R : Res → H → Prop} {h : H} (H0 : B_maxflow_trees_drop p0_f p1_v R h) : T Try.prog F.maxflow_trees_drop [p0_f, .int .i64 p1_v] h R :=
  T_intro A_maxflow_trees_drop Try.func69 (c := bodyOf Try.f69) (by kernel_rfl) (by kernel_rfl) (by kernel_rfl) (cast_of (by kernel_rfl) H0)

/-! ### (compass/links.Forest).node -/
def A_links_Forest_node : An := ⟨lkA [(0, rng 1), (1, rng 12)], lkL [], lkC []⟩
def B_links_Forest_node (p0_f : Value) (p1_v : Int) (R : Res → H → Prop) (h : H) : Prop :=
  ifP (decide (0 ≤ p1_v)) (ptrP p0_f fun a1 =>
  ldV h (a1.add 0) fun x2 =>
  slcP x2 fun a3 l4 c5 =>
  R (.ret (.bool (decide (p1_v < ((l4 : Nat) : Int))))) h) (R (.ret (.bool false)) h)
theorem E_links_Forest_node {p0_f : Value} {p1_v : Int} {R : Res → H → Prop} {h : H} (H0 : B_links_Forest_node p0_f p1_v R h) : T Try.prog F.links_Forest_node [p0_f, .int .i64 p1_v] h R :=
  T_intro A_links_Forest_node Try.func70 (c := bodyOf Try.f70) (by kernel_rfl) (by kernel_rfl) (by kernel_rfl) (cast_of (by kernel_rfl) H0)

/-! ### (compass/links.Forest).root -/
def A_links_Forest_root : An := ⟨lkA [(0, rng 1), (1, rng 3), (2, rng 3), (3, rng 9), (4, rng 9), (5, rng 3), (6, rng 2)], lkL [(2, [(1, .int .i64)])], lkC []⟩
def B_links_Forest_root (p0_f : Value) (p1_v : Int) (R : Res → H → Prop) (h : H) : Prop :=
  T Try.prog F.links_Forest_access [p0_f, .int .i64 p1_v] h (rt (fun v1 h2 =>
  v1 = .tuple ⟨[]⟩ ∧
  ∃ (I3 : (Int × Unit) → H → Prop) (r4 : (Int × Unit) × H → (Int × Unit) × H → Prop), WellFounded r4 ∧ I3 (p1_v, ()) h2 ∧
  ∀ (v_6 : Int) (h5 : H), I3 (v_6, ()) h5 →
  T Try.prog F.links_Forest_push [p0_f, .int .i64 v_6] h5 (rt (fun v7 h8 =>
  v7 = .tuple ⟨[]⟩ ∧
  ptrP p0_f fun a9 =>
  ldV h8 (a9.add 0) fun x10 =>
  ixS x10 v_6 6 fun a11 =>
  ldI h8 (a11.add 0) .i64 fun x12 =>
  ifP (decide (x12 < 0)) (T Try.prog F.links_Forest_splay [p0_f, .int .i64 v_6] h8 (rt (fun v13 h14 =>
  v13 = .tuple ⟨[]⟩ ∧
  R (.ret (.int .i64 v_6)) h14) (fun v15 h16 => R (.pan v15) h16)))
  (ptrP p0_f fun a17 =>
  ldV h8 (a17.add 0) fun x18 =>
  ixS x18 v_6 6 fun a19 =>
  ldI h8 (a19.add 0) .i64 fun x20 =>
  I3 (x20, ()) h8 ∧ r4 ((x20, ()), h8) ((v_6, ()), h5))) (fun v21 h22 => R (.pan v21) h22))) (fun v23 h24 => R (.pan v23) h24))
theorem E_links_Forest_root {p0_f : Value} {p1_v : Int} {R : Res → H → Prop} {h : H} (H0 : B_links_Forest_root p0_f p1_v R h) : T Try.prog F.links_Forest_root [p0_f, .int .i64 p1_v] h R :=
  T_intro A_links_Forest_root Try.func71 (c := bodyOf Try.f71) (by kernel_rfl) (by kernel_rfl) (by kernel_rfl) (cast_of (by kernel_rfl) H0)

/-! ### (compass/links.Forest).Least -/
def A_links_Forest_Least : An := ⟨lkA [(0, rng 3), (1, rng 4), (2, rng 2), (3, rng 4), (4, rng 4), (5, rng 9), (6, rng 9), (7, rng 3), (8, rng 9), (9, rng 3), (10, ⟨[0, 1, 2, 3, 4, 5, 6, 8, 13, 7, 9, 10, 11, 12, 14, 15, 16], lkN []⟩), (11, rng 3), (12, rng 5), (13, rng 3), (14, rng 5)], lkL [(7, [(9, .int .i64)])], lkC []⟩
def B_links_Forest_Least (p0_f : Value) (p1_v : Int) (R : Res → H → Prop) (h : H) : Prop :=
  T Try.prog F.links_Forest_child [p0_f, .int .i64 p1_v] h (rt (fun v1 h2 =>
  ∃ r3, v1 = .int .i64 r3 ∧
  ifP (!decide (r3 = 0)) (R (.ret (.tuple ⟨[.int .i64 0, .int .i64 0, .int .i64 r3]⟩)) h2)
  (T Try.prog F.links_Forest_root [p0_f, .int .i64 p1_v] h2 (rt (fun v4 h5 =>
  ∃ r6, v4 = .int .i64 r6 ∧
  ptrP p0_f fun a7 =>
  ldV h5 (a7.add 0) fun x8 =>
  ixS x8 r6 6 fun a9 =>
  ldI h5 (a9.add 1) .i64 fun x10 =>
  ptrP p0_f fun a11 =>
  ldV h5 (a11.add 0) fun x12 =>
  ixS x12 x10 6 fun a13 =>
  ldI h5 (a13.add 4) .i64 fun x14 =>
  ∃ (I15 : (Int × Unit) → H → Prop) (r16 : (Int × Unit) × H → (Int × Unit) × H → Prop), WellFounded r16 ∧ I15 (x10, ()) h5 ∧
  ∀ (at_18 : Int) (h17 : H), I15 (at_18, ()) h17 →
  T Try.prog F.links_Forest_push [p0_f, .int .i64 at_18] h17 (rt (fun v19 h20 =>
  v19 = .tuple ⟨[]⟩ ∧
  ptrP p0_f fun a21 =>
  ldV h20 (a21.add 0) fun x22 =>
  ixS x22 at_18 6 fun a23 =>
  ldN h20 a23 6 fun x24 =>
  newP h20 (.cells ⟨[.int .i64 0, .int .i64 0, .int .i64 0, .int .i64 0, .int .i64 0, .int .i64 0]⟩ 122 (0, 0)) fun b25 h26 =>
  stN h26 (bk b25) x24 6 fun h27 =>
  ldI h27 ((bk b25).add 0) .i64 fun x28 =>
  ifP (decide (0 ≤ x28)) (ptrP p0_f fun a29 =>
  ldV h27 (a29.add 0) fun x30 =>
  ldI h27 ((bk b25).add 0) .i64 fun x31 =>
  ixS x30 x31 6 fun a32 =>
  ldI h27 (a32.add 4) .i64 fun x33 =>
  ifP (decide (x33 = x14)) (ldI h27 ((bk b25).add 0) .i64 fun x34 =>
  I15 (x34, ()) h27 ∧ r16 ((x34, ()), h27) ((at_18, ()), h17))
  (ldI h27 ((bk b25).add 3) .i64 fun x35 =>
  ifP (decide (x35 = x14)) (T Try.prog F.links_Forest_splay [p0_f, .int .i64 at_18] h27 (rt (fun v36 h37 =>
  v36 = .tuple ⟨[]⟩ ∧
  R (.ret (.tuple ⟨[.int .i64 at_18, .int .i64 x14, .int .i64 0]⟩)) h37) (fun v38 h39 => R (.pan v38) h39)))
  (ldI h27 ((bk b25).add 1) .i64 fun x40 =>
  I15 (x40, ()) h27 ∧ r16 ((x40, ()), h27) ((at_18, ()), h17)))) (ldI h27 ((bk b25).add 3) .i64 fun x41 =>
  ifP (decide (x41 = x14)) (T Try.prog F.links_Forest_splay [p0_f, .int .i64 at_18] h27 (rt (fun v42 h43 =>
  v42 = .tuple ⟨[]⟩ ∧
  R (.ret (.tuple ⟨[.int .i64 at_18, .int .i64 x14, .int .i64 0]⟩)) h43) (fun v44 h45 => R (.pan v44) h45)))
  (ldI h27 ((bk b25).add 1) .i64 fun x46 =>
  I15 (x46, ()) h27 ∧ r16 ((x46, ()), h27) ((at_18, ()), h17)))) (fun v47 h48 => R (.pan v47) h48))) (fun v49 h50 => R (.pan v49) h50)))) (fun v51 h52 => R (.pan v51) h52))
theorem E_links_Forest_Least {p0_f : Value} {p1_v : Int} {R : Res → H → Prop} {h : H} (H0 : B_links_Forest_Least p0_f p1_v R h) : T Try.prog F.links_Forest_Least [p0_f, .int .i64 p1_v] h R :=
  T_intro A_links_Forest_Least Try.func72 (c := bodyOf Try.f72) (by kernel_rfl) (by kernel_rfl) (by kernel_rfl) (cast_of (by kernel_rfl) H0)

/-! ### (compass/links.Forest).Add -/
def A_links_Forest_Add : An := ⟨lkA [(0, rng 1), (1, rng 5), (2, rng 1), (3, rng 4), (4, rng 1), (5, rng 4), (6, rng 11), (7, rng 3), (8, rng 1)], lkL [], lkC []⟩
def B_links_Forest_Add (p0_f : Value) (p1_v : Int) (p2_x : Int) (R : Res → H → Prop) (h : H) : Prop :=
  T Try.prog F.links_Forest_node [p0_f, .int .i64 p1_v] h (rt (fun v1 h2 =>
  ∃ r3, v1 = .bool r3 ∧
  ifP (!r3) (R (.ret (.int .i64 30)) h2)
  (T Try.prog F.links_label [.int .i64 p2_x] h2 (rt (fun v4 h5 =>
  ∃ r6, v4 = .bool r6 ∧
  ifP (!r6) (R (.ret (.int .i64 31)) h5)
  (T Try.prog F.links_Forest_root [p0_f, .int .i64 p1_v] h5 (rt (fun v7 h8 =>
  ∃ r9, v7 = .int .i64 r9 ∧
  ptrP p0_f fun a10 =>
  ldV h8 (a10.add 0) fun x11 =>
  ixS x11 r9 6 fun a12 =>
  ldI h8 (a12.add 1) .i64 fun x13 =>
  T Try.prog F.links_Forest_raise [p0_f, .int .i64 x13, .int .i64 p2_x] h8 (rt (fun v14 h15 =>
  v14 = .tuple ⟨[]⟩ ∧
  T Try.prog F.links_Forest_pull [p0_f, .int .i64 r9] h15 (rt (fun v16 h17 =>
  v16 = .tuple ⟨[]⟩ ∧
  R (.ret (.int .i64 0)) h17) (fun v18 h19 => R (.pan v18) h19))) (fun v20 h21 => R (.pan v20) h21))) (fun v22 h23 => R (.pan v22) h23)))) (fun v24 h25 => R (.pan v24) h25)))) (fun v26 h27 => R (.pan v26) h27))
theorem E_links_Forest_Add {p0_f : Value} {p1_v : Int} {p2_x : Int} {R : Res → H → Prop} {h : H} (H0 : B_links_Forest_Add p0_f p1_v p2_x R h) : T Try.prog F.links_Forest_Add [p0_f, .int .i64 p1_v, .int .i64 p2_x] h R :=
  T_intro A_links_Forest_Add Try.func73 (c := bodyOf Try.f73) (by kernel_rfl) (by kernel_rfl) (by kernel_rfl) (cast_of (by kernel_rfl) H0)

/-! ### (compass/links.Forest).Link -/
def A_links_Forest_Link : An := ⟨lkA [(0, rng 1), (1, rng 11), (2, rng 1), (3, rng 4), (4, rng 1), (5, rng 6), (6, rng 1), (7, rng 6), (8, rng 1), (9, rng 3), (10, rng 9), (11, rng 3), (12, rng 9), (13, rng 1)], lkL [], lkC []⟩
def B_links_Forest_Link (p0_f : Value) (p1_v : Int) (p2_w : Int) (p3_value : Int) (R : Res → H → Prop) (h : H) : Prop :=
  T Try.prog F.links_Forest_node [p0_f, .int .i64 p1_v] h (rt (fun v1 h2 =>
  ∃ r3, v1 = .bool r3 ∧
  ifP (!r3) (R (.ret (.int .i64 30)) h2) (T Try.prog F.links_Forest_node [p0_f, .int .i64 p2_w] h2 (rt (fun v4 h5 =>
  ∃ r6, v4 = .bool r6 ∧
  ifP (!r6) (R (.ret (.int .i64 30)) h5)
  (T Try.prog F.links_label [.int .i64 p3_value] h5 (rt (fun v7 h8 =>
  ∃ r9, v7 = .bool r9 ∧
  ifP (!r9) (R (.ret (.int .i64 31)) h8)
  (T Try.prog F.links_Forest_root [p0_f, .int .i64 p1_v] h8 (rt (fun v10 h11 =>
  ∃ r12, v10 = .int .i64 r12 ∧
  ifP (!decide (r12 = p1_v)) (R (.ret (.int .i64 70)) h11)
  (T Try.prog F.links_Forest_root [p0_f, .int .i64 p2_w] h11 (rt (fun v13 h14 =>
  ∃ r15, v13 = .int .i64 r15 ∧
  ifP (decide (r15 = p1_v)) (R (.ret (.int .i64 71)) h14)
  (T Try.prog F.links_Forest_access [p0_f, .int .i64 p1_v] h14 (rt (fun v16 h17 =>
  v16 = .tuple ⟨[]⟩ ∧
  ptrP p0_f fun a18 =>
  ldV h17 (a18.add 0) fun x19 =>
  ixS x19 p1_v 6 fun a20 =>
  stC h17 (a20.add 3) (.int .i64 p3_value) fun h21 =>
  T Try.prog F.links_Forest_pull [p0_f, .int .i64 p1_v] h21 (rt (fun v22 h23 =>
  v22 = .tuple ⟨[]⟩ ∧
  ptrP p0_f fun a24 =>
  ldV h23 (a24.add 0) fun x25 =>
  ixS x25 p1_v 6 fun a26 =>
  stC h23 (a26.add 2) (.int .i64 p2_w) fun h27 =>
  R (.ret (.int .i64 0)) h27) (fun v28 h29 => R (.pan v28) h29))) (fun v30 h31 => R (.pan v30) h31)))) (fun v32 h33 => R (.pan v32) h33)))) (fun v34 h35 => R (.pan v34) h35)))) (fun v36 h37 => R (.pan v36) h37)))) (fun v38 h39 => R (.pan v38) h39)))) (fun v40 h41 => R (.pan v40) h41))
theorem E_links_Forest_Link {p0_f : Value} {p1_v : Int} {p2_w : Int} {p3_value : Int} {R : Res → H → Prop} {h : H} (H0 : B_links_Forest_Link p0_f p1_v p2_w p3_value R h) : T Try.prog F.links_Forest_Link [p0_f, .int .i64 p1_v, .int .i64 p2_w, .int .i64 p3_value] h R :=
  T_intro A_links_Forest_Link Try.func74 (c := bodyOf Try.f74) (by kernel_rfl) (by kernel_rfl) (by kernel_rfl) (cast_of (by kernel_rfl) H0)

/-! ### (compass/links.Forest).Cut -/
def A_links_Forest_Cut : An := ⟨lkA [(0, rng 2), (1, rng 4), (2, rng 2), (3, rng 3), (4, rng 7), (5, ⟨[0, 1, 2, 4, 5, 6, 3, 7, 8, 9, 10], lkN []⟩), (6, rng 4), (7, rng 5), (8, rng 4), (9, rng 3), (10, rng 3)], lkL [], lkC []⟩
def B_links_Forest_Cut (p0_f : Value) (p1_v : Int) (R : Res → H → Prop) (h : H) : Prop :=
  T Try.prog F.links_Forest_child [p0_f, .int .i64 p1_v] h (rt (fun v1 h2 =>
  ∃ r3, v1 = .int .i64 r3 ∧
  ifP (!decide (r3 = 0)) (R (.ret (.tuple ⟨[.int .i64 0, .int .i64 r3]⟩)) h2)
  (ptrP p0_f fun a4 =>
  ldV h2 (a4.add 0) fun x5 =>
  ixS x5 p1_v 6 fun a6 =>
  ptrP p0_f fun a7 =>
  ldV h2 (a7.add 0) fun x8 =>
  ldI h2 (a6.add 0) .i64 fun x9 =>
  ixS x8 x9 6 fun a10 =>
  stC h2 (a10.add 2) (.int .i64 (-1)) fun h11 =>
  stC h11 (a6.add 0) (.int .i64 (-1)) fun h12 =>
  ldI h12 (a6.add 3) .i64 fun x13 =>
  stC h12 (a6.add 3) (.int .i64 0) fun h14 =>
  T Try.prog F.links_Forest_pull [p0_f, .int .i64 p1_v] h14 (rt (fun v15 h16 =>
  v15 = .tuple ⟨[]⟩ ∧
  R (.ret (.tuple ⟨[.int .i64 x13, .int .i64 0]⟩)) h16) (fun v17 h18 => R (.pan v17) h18)))) (fun v19 h20 => R (.pan v19) h20))
theorem E_links_Forest_Cut {p0_f : Value} {p1_v : Int} {R : Res → H → Prop} {h : H} (H0 : B_links_Forest_Cut p0_f p1_v R h) : T Try.prog F.links_Forest_Cut [p0_f, .int .i64 p1_v] h R :=
  T_intro A_links_Forest_Cut Try.func75 (c := bodyOf Try.f75) (by kernel_rfl) (by kernel_rfl) (by kernel_rfl) (cast_of (by kernel_rfl) H0)

/-! ### (compass/links.Forest).access -/
def A_links_Forest_access : An := ⟨lkA [(0, rng 1), (1, rng 2), (2, rng 2), (3, rng 9), (4, rng 3), (5, rng 9), (6, rng 3), (7, rng 2), (8, rng 3)], lkL [(2, [(4, .int .i64), (5, .int .i64)])], lkC []⟩
def B_links_Forest_access (p0_f : Value) (p1_v : Int) (R : Res → H → Prop) (h : H) : Prop :=
  ∃ (I1 : (Int × Int × Unit) → H → Prop) (r2 : (Int × Int × Unit) × H → (Int × Int × Unit) × H → Prop), WellFounded r2 ∧ I1 ((-1), p1_v, ()) h ∧
  ∀ (last_4 : Int) (u_5 : Int) (h3 : H), I1 (last_4, u_5, ()) h3 →
  ifP (decide (0 ≤ u_5)) (T Try.prog F.links_Forest_splay [p0_f, .int .i64 u_5] h3 (rt (fun v6 h7 =>
  v6 = .tuple ⟨[]⟩ ∧
  ptrP p0_f fun a8 =>
  ldV h7 (a8.add 0) fun x9 =>
  ixS x9 u_5 6 fun a10 =>
  stC h7 (a10.add 1) (.int .i64 last_4) fun h11 =>
  T Try.prog F.links_Forest_pull [p0_f, .int .i64 u_5] h11 (rt (fun v12 h13 =>
  v12 = .tuple ⟨[]⟩ ∧
  ptrP p0_f fun a14 =>
  ldV h13 (a14.add 0) fun x15 =>
  ixS x15 u_5 6 fun a16 =>
  ldI h13 (a16.add 2) .i64 fun x17 =>
  I1 (u_5, x17, ()) h13 ∧ r2 ((u_5, x17, ()), h13) ((last_4, u_5, ()), h3)) (fun v18 h19 => R (.pan v18) h19))) (fun v20 h21 => R (.pan v20) h21)))
  (T Try.prog F.links_Forest_splay [p0_f, .int .i64 p1_v] h3 (rt (fun v22 h23 =>
  v22 = .tuple ⟨[]⟩ ∧
  R (.ret (.tuple ⟨[]⟩)) h23) (fun v24 h25 => R (.pan v24) h25)))
theorem E_links_Forest_access {p0_f : Value} {p1_v : Int} {R : Res → H → Prop} {h : H} (H0 : B_links_Forest_access p0_f p1_v R h) : T Try.prog F.links_Forest_access [p0_f, .int .i64 p1_v] h R :=
  T_intro A_links_Forest_access Try.func76 (c := bodyOf Try.f76) (by kernel_rfl) (by kernel_rfl) (by kernel_rfl) (cast_of (by kernel_rfl) H0)

/-! ### (compass/links.Forest).push -/
def A_links_Forest_push : An := ⟨lkA [(0, rng 7), (1, ⟨[0, 1, 2, 3, 5, 6, 7, 4, 8, 9], lkN []⟩), (2, ⟨[0, 1, 2, 3, 5, 6, 7, 4, 8, 9], lkN []⟩), (3, rng 4)], lkL [], lkC []⟩
def B_links_Forest_push (p0_f : Value) (p1_v : Int) (R : Res → H → Prop) (h : H) : Prop :=
  ptrP p0_f fun a1 =>
  ldV h (a1.add 0) fun x2 =>
  ixS x2 p1_v 6 fun a3 =>
  ldI h (a3.add 0) .i64 fun x4 =>
  ldI h (a3.add 5) .i64 fun x5 =>
  T Try.prog F.links_Forest_raise [p0_f, .int .i64 x4, .int .i64 x5] h (rt (fun v6 h7 =>
  v6 = .tuple ⟨[]⟩ ∧
  ldI h7 (a3.add 1) .i64 fun x8 =>
  ldI h7 (a3.add 5) .i64 fun x9 =>
  T Try.prog F.links_Forest_raise [p0_f, .int .i64 x8, .int .i64 x9] h7 (rt (fun v10 h11 =>
  v10 = .tuple ⟨[]⟩ ∧
  stC h11 (a3.add 5) (.int .i64 0) fun h12 =>
  R (.ret (.tuple ⟨[]⟩)) h12) (fun v13 h14 => R (.pan v13) h14))) (fun v15 h16 => R (.pan v15) h16))
theorem E_links_Forest_push {p0_f : Value} {p1_v : Int} {R : Res → H → Prop} {h : H} (H0 : B_links_Forest_push p0_f p1_v R h) : T Try.prog F.links_Forest_push [p0_f, .int .i64 p1_v] h R :=
  T_intro A_links_Forest_push Try.func77 (c := bodyOf Try.f77) (by kernel_rfl) (by kernel_rfl) (by kernel_rfl) (cast_of (by kernel_rfl) H0)

/-! ### (compass/links.Forest).splay -/
def A_links_Forest_splay : An := ⟨lkA [(0, rng 3), (1, rng 2), (2, rng 4), (3, rng 9), (4, rng 5), (5, rng 4), (6, rng 2), (7, rng 3), (8, rng 6), (9, rng 4), (10, rng 9), (11, rng 4), (12, rng 9), (13, ⟨[0, 1, 2, 4, 8, 10, 11, 12, 14, 18, 3, 5, 6, 7, 9, 13, 15, 16, 17, 19, 20], lkN []⟩), (14, rng 3), (15, rng 3), (16, rng 3)], lkL [(2, [(4, .val), (5, .int .i64)]), (6, [(6, .int .i64)]), (9, [])], lkC []⟩
def B_links_Forest_splay (p0_f : Value) (p1_v : Int) (R : Res → H → Prop) (h : H) : Prop :=
  newP h (.cells ⟨[.int .i64 p1_v]⟩ 3 (0, 0)) fun b1 h2 =>
  ∃ (I3 : (Value × Int × Unit) → H → Prop) (r4 : (Value × Int × Unit) × H → (Value × Int × Unit) × H → Prop), WellFounded r4 ∧ I3 ((.slice (some (bk b1)) 1 1 : Value), p1_v, ()) h2 ∧
  ∀ (path_6 : Value) (u_7 : Int) (h5 : H), I3 (path_6, u_7, ()) h5 →
  T Try.prog F.links_Forest_top [p0_f, .int .i64 u_7] h5 (rt (fun v8 h9 =>
  ∃ r10, v8 = .bool r10 ∧
  ifP (!r10) (ptrP p0_f fun a11 =>
  ldV h9 (a11.add 0) fun x12 =>
  ixS x12 u_7 6 fun a13 =>
  ldI h9 (a13.add 2) .i64 fun x14 =>
  newP h9 (.cells ⟨[.int .i64 x14]⟩ 3 (0, 0)) fun b15 h16 =>
  apP path_6 (.slice (some (bk b15)) 1 1) h16 1 3 8 [.int .i64 0] fun s17 h18 =>
  I3 (s17, x14, ()) h18 ∧ r4 ((s17, x14, ()), h18) ((path_6, u_7, ()), h5))
  (slcP path_6 fun a19 l20 c21 =>
  ∃ (I22 : (Int × Unit) → H → Prop) (r23 : (Int × Unit) × H → (Int × Unit) × H → Prop), WellFounded r23 ∧ I22 ((IntKind.i64.wrap (((l20 : Nat) : Int) - 1)), ()) h9 ∧
  ∀ (i_25 : Int) (h24 : H), I22 (i_25, ()) h24 →
  ifP (decide (0 ≤ i_25)) (ixS path_6 i_25 1 fun a26 =>
  ldI h24 a26 .i64 fun x27 =>
  T Try.prog F.links_Forest_push [p0_f, .int .i64 x27] h24 (rt (fun v28 h29 =>
  v28 = .tuple ⟨[]⟩ ∧
  I22 ((IntKind.i64.wrap (i_25 - 1)), ()) h29 ∧ r23 (((IntKind.i64.wrap (i_25 - 1)), ()), h29) ((i_25, ()), h24)) (fun v30 h31 => R (.pan v30) h31)))
  (∃ (I32 : (Unit) → H → Prop) (r33 : (Unit) × H → (Unit) × H → Prop), WellFounded r33 ∧ I32 (()) h24 ∧
  ∀  (h34 : H), I32 (()) h34 →
  T Try.prog F.links_Forest_top [p0_f, .int .i64 p1_v] h34 (rt (fun v35 h36 =>
  ∃ r37, v35 = .bool r37 ∧
  ifP (!r37) (ptrP p0_f fun a38 =>
  ldV h36 (a38.add 0) fun x39 =>
  ixS x39 p1_v 6 fun a40 =>
  ldI h36 (a40.add 2) .i64 fun x41 =>
  T Try.prog F.links_Forest_top [p0_f, .int .i64 x41] h36 (rt (fun v42 h43 =>
  ∃ r44, v42 = .bool r44 ∧
  ifP (!r44) (ptrP p0_f fun a45 =>
  ldV h43 (a45.add 0) fun x46 =>
  ixS x46 x41 6 fun a47 =>
  ldI h43 (a47.add 2) .i64 fun x48 =>
  ptrP p0_f fun a49 =>
  ptrP p0_f fun a50 =>
  ldV h43 (a49.add 0) fun x51 =>
  ixS x51 x41 6 fun a52 =>
  ldI h43 (a52.add 0) .i64 fun x53 =>
  ldV h43 (a50.add 0) fun x54 =>
  ixS x54 x48 6 fun a55 =>
  ldI h43 (a55.add 0) .i64 fun x56 =>
  ifP ((decide (x53 = p1_v)) == (decide (x56 = x41))) (T Try.prog F.links_Forest_rotate [p0_f, .int .i64 x41] h43 (rt (fun v57 h58 =>
  v57 = .tuple ⟨[]⟩ ∧
  T Try.prog F.links_Forest_rotate [p0_f, .int .i64 p1_v] h58 (rt (fun v59 h60 =>
  v59 = .tuple ⟨[]⟩ ∧
  I32 (()) h60 ∧ r33 ((()), h60) ((()), h34)) (fun v61 h62 => R (.pan v61) h62))) (fun v63 h64 => R (.pan v63) h64)))
  (T Try.prog F.links_Forest_rotate [p0_f, .int .i64 p1_v] h43 (rt (fun v65 h66 =>
  v65 = .tuple ⟨[]⟩ ∧
  T Try.prog F.links_Forest_rotate [p0_f, .int .i64 p1_v] h66 (rt (fun v67 h68 =>
  v67 = .tuple ⟨[]⟩ ∧
  I32 (()) h68 ∧ r33 ((()), h68) ((()), h34)) (fun v69 h70 => R (.pan v69) h70))) (fun v71 h72 => R (.pan v71) h72))))
  (T Try.prog F.links_Forest_rotate [p0_f, .int .i64 p1_v] h43 (rt (fun v73 h74 =>
  v73 = .tuple ⟨[]⟩ ∧
  I32 (()) h74 ∧ r33 ((()), h74) ((()), h34)) (fun v75 h76 => R (.pan v75) h76)))) (fun v77 h78 => R (.pan v77) h78)))
  (R (.ret (.tuple ⟨[]⟩)) h36)) (fun v79 h80 => R (.pan v79) h80))))) (fun v81 h82 => R (.pan v81) h82))
theorem E_links_Forest_splay {p0_f : Value} {p1_v : Int} {R : Res → H → Prop} {h : H} (H0 : B_links_Forest_splay p0_f p1_v R h) : T Try.prog F.links_Forest_splay [p0_f, .int .i64 p1_v] h R :=
  T_intro A_links_Forest_splay Try.func78 (c := bodyOf Try.f78) (by kernel_rfl) (by kernel_rfl) (by kernel_rfl) (cast_of (by kernel_rfl) H0)

/-! ### (compass/links.Forest).child -/
def A_links_Forest_child : An := ⟨lkA [(0, rng 1), (1, rng 5), (2, rng 1), (3, rng 6), (4, rng 1), (5, rng 3), (6, rng 1)], lkL [], lkC []⟩
def B_links_Forest_child (p0_f : Value) (p1_v : Int) (R : Res → H → Prop) (h : H) : Prop :=
  T Try.prog F.links_Forest_node [p0_f, .int .i64 p1_v] h (rt (fun v1 h2 =>
  ∃ r3, v1 = .bool r3 ∧
  ifP (!r3) (R (.ret (.int .i64 30)) h2)
  (T Try.prog F.links_Forest_root [p0_f, .int .i64 p1_v] h2 (rt (fun v4 h5 =>
  ∃ r6, v4 = .int .i64 r6 ∧
  ifP (decide (r6 = p1_v)) (R (.ret (.int .i64 70)) h5)
  (T Try.prog F.links_Forest_access [p0_f, .int .i64 p1_v] h5 (rt (fun v7 h8 =>
  v7 = .tuple ⟨[]⟩ ∧
  R (.ret (.int .i64 0)) h8) (fun v9 h10 => R (.pan v9) h10)))) (fun v11 h12 => R (.pan v11) h12)))) (fun v13 h14 => R (.pan v13) h14))
theorem E_links_Forest_child {p0_f : Value} {p1_v : Int} {R : Res → H → Prop} {h : H} (H0 : B_links_Forest_child p0_f p1_v R h) : T Try.prog F.links_Forest_child [p0_f, .int .i64 p1_v] h R :=
  T_intro A_links_Forest_child Try.func79 (c := bodyOf Try.f79) (by kernel_rfl) (by kernel_rfl) (by kernel_rfl) (cast_of (by kernel_rfl) H0)

/-! ### compass/links.label -/
def A_links_label : An := ⟨lkA [(0, rng 1), (1, rng 7)], lkL [], lkC []⟩
def B_links_label (p0_x : Int) (R : Res → H → Prop) (h : H) : Prop :=
  ifP (decide ((-1048576) ≤ p0_x)) (R (.ret (.bool (decide (p0_x ≤ 1048576)))) h) (R (.ret (.bool false)) h)
theorem E_links_label {p0_x : Int} {R : Res → H → Prop} {h : H} (H0 : B_links_label p0_x R h) : T Try.prog F.links_label [.int .i64 p0_x] h R :=
  T_intro A_links_label Try.func80 (c := bodyOf Try.f80) (by kernel_rfl) (by kernel_rfl) (by kernel_rfl) (cast_of (by kernel_rfl) H0)

/-! ### (compass/links.Forest).raise -/
def A_links_Forest_raise : An := ⟨lkA [(0, rng 2), (1, rng 7), (2, rng 9), (3, rng 9), (4, rng 9)], lkL [], lkC []⟩
def B_links_Forest_raise (p0_f : Value) (p1_v : Int) (p2_x : Int) (R : Res → H → Prop) (h : H) : Prop :=
  ifP (decide (0 ≤ p1_v)) (ptrP p0_f fun a1 =>
  ldV h (a1.add 0) fun x2 =>
  ixS x2 p1_v 6 fun a3 =>
  ldI h (a3.add 3) .i64 fun x4 =>
  stC h (a3.add 3) (.int .i64 (IntKind.i64.wrap (x4 + p2_x))) fun h5 =>
  ldI h5 (a3.add 4) .i64 fun x6 =>
  stC h5 (a3.add 4) (.int .i64 (IntKind.i64.wrap (x6 + p2_x))) fun h7 =>
  ldI h7 (a3.add 5) .i64 fun x8 =>
  stC h7 (a3.add 5) (.int .i64 (IntKind.i64.wrap (x8 + p2_x))) fun h9 =>
  R (.ret (.tuple ⟨[]⟩)) h9)
  (R (.ret (.tuple ⟨[]⟩)) h)
theorem E_links_Forest_raise {p0_f : Value} {p1_v : Int} {p2_x : Int} {R : Res → H → Prop} {h : H} (H0 : B_links_Forest_raise p0_f p1_v p2_x R h) : T Try.prog F.links_Forest_raise [p0_f, .int .i64 p1_v, .int .i64 p2_x] h R :=
  T_intro A_links_Forest_raise Try.func81 (c := bodyOf Try.f81) (by kernel_rfl) (by kernel_rfl) (by kernel_rfl) (cast_of (by kernel_rfl) H0)

/-! ### (compass/links.Forest).pull -/
def A_links_Forest_pull : An := ⟨lkA [(0, rng 7), (1, rng 8), (2, ⟨[0, 1, 2, 4, 5, 6, 9, 3, 7, 8], lkN []⟩), (3, rng 1), (4, rng 2), (5, rng 2), (6, ⟨[0, 1, 2, 3, 5, 6, 7, 9, 4, 8, 10, 11, 12, 13, 14, 15, 16], lkN []⟩), (7, rng 2)], lkL [(3, [(29, .int .i64)])], lkC []⟩
def B_links_Forest_pull (p0_f : Value) (p1_v : Int) (R : Res → H → Prop) (h : H) : Prop :=
  ptrP p0_f fun a1 =>
  ldV h (a1.add 0) fun x2 =>
  ixS x2 p1_v 6 fun a3 =>
  ldI h (a3.add 3) .i64 fun x4 =>
  stC h (a3.add 4) (.int .i64 x4) fun h5 =>
  ldI h5 (a3.add 0) .i64 fun x6 =>
  ldI h5 (a3.add 1) .i64 fun x7 =>
  ∃ (I8 : (Int × Unit) → H → Prop) (r9 : (Int × Unit) × H → (Int × Unit) × H → Prop), WellFounded r9 ∧ I8 (0, ()) h5 ∧
  ∀ (s11 : Int) (h10 : H), I8 (s11, ()) h10 →
  ifP (decide (s11 < 2)) (0 ≤ s11 ∧ s11 < ((2 : Nat) : Int) ∧
  ptI [.int .i64 x6, .int .i64 x7] (s11.toNat * 1) .i64 fun x12 =>
  ifP (decide (0 ≤ x12)) (ptrP p0_f fun a13 =>
  ldI h10 (a3.add 4) .i64 fun x14 =>
  ldV h10 (a13.add 0) fun x15 =>
  ixS x15 x12 6 fun a16 =>
  ldI h10 (a16.add 4) .i64 fun x17 =>
  stC h10 (a3.add 4) (.int .i64 (if x17 < x14 then x17 else x14)) fun h18 =>
  I8 ((IntKind.i64.wrap (s11 + 1)), ()) h18 ∧ r9 (((IntKind.i64.wrap (s11 + 1)), ()), h18) ((s11, ()), h10))
  (I8 ((IntKind.i64.wrap (s11 + 1)), ()) h10 ∧ r9 (((IntKind.i64.wrap (s11 + 1)), ()), h10) ((s11, ()), h10)))
  (R (.ret (.tuple ⟨[]⟩)) h10)
theorem E_links_Forest_pull {p0_f : Value} {p1_v : Int} {R : Res → H → Prop} {h : H} (H0 : B_links_Forest_pull p0_f p1_v R h) : T Try.prog F.links_Forest_pull [p0_f, .int .i64 p1_v] h R :=
  T_intro A_links_Forest_pull Try.func82 (c := bodyOf Try.f82) (by kernel_rfl) (by kernel_rfl) (by kernel_rfl) (cast_of (by kernel_rfl) H0)

/-! ### (compass/links.Forest).top -/
def A_links_Forest_top : An := ⟨lkA [(0, rng 1), (1, rng 9), (2, rng 27)], lkL [], lkC []⟩
def B_links_Forest_top (p0_f : Value) (p1_v : Int) (R : Res → H → Prop) (h : H) : Prop :=
  ptrP p0_f fun a1 =>
  ldV h (a1.add 0) fun x2 =>
  ixS x2 p1_v 6 fun a3 =>
  ldI h (a3.add 2) .i64 fun x4 =>
  ifP (decide (x4 < 0)) (R (.ret (.bool true)) h) (ptrP p0_f fun a5 =>
  ldV h (a5.add 0) fun x6 =>
  ixS x6 x4 6 fun a7 =>
  ldI h (a7.add 0) .i64 fun x8 =>
  ifP (!decide (x8 = p1_v)) (ptrP p0_f fun a9 =>
  ldV h (a9.add 0) fun x10 =>
  ixS x10 x4 6 fun a11 =>
  ldI h (a11.add 1) .i64 fun x12 =>
  R (.ret (.bool (!decide (x12 = p1_v)))) h) (R (.ret (.bool false)) h))
theorem E_links_Forest_top {p0_f : Value} {p1_v : Int} {R : Res → H → Prop} {h : H} (H0 : B_links_Forest_top p0_f p1_v R h) : T Try.prog F.links_Forest_top [p0_f, .int .i64 p1_v] h R :=
  T_intro A_links_Forest_top Try.func83 (c := bodyOf Try.f83) (by kernel_rfl) (by kernel_rfl) (by kernel_rfl) (cast_of (by kernel_rfl) H0)

/-! ### (compass/links.Forest).rotate -/
def A_links_Forest_rotate : An := ⟨lkA [(0, rng 9), (1, ⟨[0, 1, 2, 4, 6, 7, 8, 10, 3, 5, 12, 9, 11, 13], lkN []⟩), (2, rng 4), (3, ⟨[0, 1, 2, 4, 5, 6, 3, 7, 8, 9], lkN []⟩), (4, rng 6), (5, rng 5), (6, rng 5), (7, rng 13), (8, rng 1), (9, rng 6), (10, ⟨[0, 1, 2, 3, 4, 6, 7, 8, 10, 5, 11, 9, 12, 13, 14, 15, 16, 17], lkN []⟩), (11, ⟨[0, 1, 2, 3, 4, 6, 7, 8, 10, 5, 11, 9, 12, 13, 14, 15, 16, 17], lkN []⟩), (12, rng 2), (13, rng 9), (14, rng 3), (15, rng 3)], lkL [], lkC [(7, []), (12, [(8, .int .i64)])]⟩
def B_links_Forest_rotate (p0_f : Value) (p1_v : Int) (R : Res → H → Prop) (h : H) : Prop :=
  ptrP p0_f fun a1 =>
  ldV h (a1.add 0) fun x2 =>
  ixS x2 p1_v 6 fun a3 =>
  ldI h (a3.add 2) .i64 fun x4 =>
  ptrP p0_f fun a5 =>
  ptrP p0_f fun a6 =>
  ldV h (a5.add 0) fun x7 =>
  ixS x7 p1_v 6 fun a8 =>
  ldV h (a6.add 0) fun x9 =>
  ixS x9 x4 6 fun a10 =>
  ∃ J11 : (Unit) → H → Prop, (T Try.prog F.links_Forest_top [p0_f, .int .i64 x4] h (rt (fun v13 h14 =>
  ∃ r15, v13 = .bool r15 ∧
  ifP (!r15) (ptrP p0_f fun a16 =>
  ldV h14 (a16.add 0) fun x17 =>
  ldI h14 (a10.add 2) .i64 fun x18 =>
  ixS x17 x18 6 fun a19 =>
  ldI h14 (a19.add 0) .i64 fun x20 =>
  ifP (decide (x20 = x4)) (stC h14 (a19.add 0) (.int .i64 p1_v) fun h21 =>
  J11 (()) h21)
  (stC h14 (a19.add 1) (.int .i64 p1_v) fun h22 =>
  J11 (()) h22))
  (J11 (()) h14)) (fun v23 h24 => R (.pan v23) h24))) ∧
  (∀  (h12 : H), J11 (()) h12 →
  ldI h12 (a10.add 2) .i64 fun x25 =>
  stC h12 (a8.add 2) (.int .i64 x25) fun h26 =>
  stC h26 (a10.add 2) (.int .i64 p1_v) fun h27 =>
  ∃ J28 : (Int × Unit) → H → Prop, (ldI h27 (a10.add 0) .i64 fun x31 =>
  ifP (decide (x31 = p1_v)) (ldI h27 (a8.add 1) .i64 fun x32 =>
  ldI h27 (a8.add 1) .i64 fun x33 =>
  stC h27 (a10.add 0) (.int .i64 x33) fun h34 =>
  stC h34 (a8.add 1) (.int .i64 x4) fun h35 =>
  J28 (x32, ()) h35)
  (ldI h27 (a8.add 0) .i64 fun x36 =>
  ldI h27 (a8.add 0) .i64 fun x37 =>
  stC h27 (a10.add 1) (.int .i64 x37) fun h38 =>
  stC h38 (a8.add 0) (.int .i64 x4) fun h39 =>
  J28 (x36, ()) h39)) ∧
  (∀ (inner_30 : Int) (h29 : H), J28 (inner_30, ()) h29 →
  ifP (decide (0 ≤ inner_30)) (ptrP p0_f fun a40 =>
  ldV h29 (a40.add 0) fun x41 =>
  ixS x41 inner_30 6 fun a42 =>
  stC h29 (a42.add 2) (.int .i64 x4) fun h43 =>
  T Try.prog F.links_Forest_pull [p0_f, .int .i64 x4] h43 (rt (fun v44 h45 =>
  v44 = .tuple ⟨[]⟩ ∧
  T Try.prog F.links_Forest_pull [p0_f, .int .i64 p1_v] h45 (rt (fun v46 h47 =>
  v46 = .tuple ⟨[]⟩ ∧
  R (.ret (.tuple ⟨[]⟩)) h47) (fun v48 h49 => R (.pan v48) h49))) (fun v50 h51 => R (.pan v50) h51)))
  (T Try.prog F.links_Forest_pull [p0_f, .int .i64 x4] h29 (rt (fun v52 h53 =>
  v52 = .tuple ⟨[]⟩ ∧
  T Try.prog F.links_Forest_pull [p0_f, .int .i64 p1_v] h53 (rt (fun v54 h55 =>
  v54 = .tuple ⟨[]⟩ ∧
  R (.ret (.tuple ⟨[]⟩)) h55) (fun v56 h57 => R (.pan v56) h57))) (fun v58 h59 => R (.pan v58) h59)))))
theorem E_links_Forest_rotate {p0_f : Value} {p1_v : Int} {R : Res → H → Prop} {h : H} (H0 : B_links_Forest_rotate p0_f p1_v R h) : T Try.prog F.links_Forest_rotate [p0_f, .int .i64 p1_v] h R :=
  T_intro A_links_Forest_rotate Try.func84 (c := bodyOf Try.f84) (by kernel_rfl) (by kernel_rfl) (by kernel_rfl) (cast_of (by kernel_rfl) H0)

/-! ### (compass/maxflow.pushing).fill -/
def A_maxflow_pushing_fill : An := ⟨lkA [(0, rng 9), (1, ⟨[0, 1, 2, 4, 5, 6, 3, 8, 9, 10, 7, 11, 12, 13], lkN []⟩), (2, ⟨[0, 1, 2, 4, 3, 6, 7, 8, 5, 9, 10, 11], lkN []⟩), (3, rng 7), (4, rng 10), (5, ⟨[0, 1, 2, 7, 8, 9, 17, 3, 4, 5, 6, 10, 11, 12, 13, 14, 15, 16], lkN []⟩), (6, rng 1), (7, rng 3), (8, ⟨[0, 1, 2, 4, 5, 6, 13, 14, 15, 20, 3, 7, 8, 9, 10, 11, 12, 16, 17, 18, 19, 21, 22, 23, 24, 25], lkN []⟩), (9, rng 10), (10, rng 2), (11, rng 6), (12, rng 7), (13, rng 9), (14, rng 8), (15, ⟨[0, 1, 2, 4, 7, 8, 9, 14, 3, 5, 6, 10, 11, 12, 13, 15, 16, 17, 18], lkN []⟩), (16, rng 3), (17, ⟨[0, 1, 2, 7, 10, 11, 12, 14, 3, 4, 5, 6, 8, 9, 13, 15, 16, 17, 18, 19], lkN []⟩), (18, ⟨[0, 1, 2, 7, 3, 4, 5, 6, 8, 9, 10, 11, 12, 13, 14, 16, 19, 20, 21, 23, 24, 25, 30, 15, 17, 18, 22, 26, 27, 28, 29, 31, 32, 33, 34, 35, 36, 37], lkN []⟩), (19, rng 4), (20, rng 10)], lkL [(6, [(70, .int .i64)]), (11, []), (14, [])], lkC []⟩
def B_maxflow_pushing_fill (p0_p : Value) (R : Res → H → Prop) (h : H) : Prop :=
  ptrP p0_p fun a1 =>
  ldV h (a1.add 0) fun x2 =>
  ptrP x2 fun a3 =>
  ldV h (a3.add 2) fun x4 =>
  slcP x4 fun a5 l6 c7 =>
  mkS ((l6 : Nat) : Int) ((l6 : Nat) : Int) 8 [.int .i64 0] 3 h fun b8 h9 =>
  ptrP p0_p fun a10 =>
  stC h9 (a10.add 1) (.slice (some (bk b8)) (((l6 : Nat) : Int).toNat) (((l6 : Nat) : Int).toNat)) fun h11 =>
  mkS (IntKind.i64.wrap ((IntKind.i64.wrap (2 * ((l6 : Nat) : Int))) + 2)) (IntKind.i64.wrap ((IntKind.i64.wrap (2 * ((l6 : Nat) : Int))) + 2)) 8 [.int .i64 0] 3 h11 fun b12 h13 =>
  ptrP p0_p fun a14 =>
  stC h13 (a14.add 2) (.slice (some (bk b12)) ((IntKind.i64.wrap ((IntKind.i64.wrap (2 * ((l6 : Nat) : Int))) + 2)).toNat) ((IntKind.i64.wrap ((IntKind.i64.wrap (2 * ((l6 : Nat) : Int))) + 2)).toNat)) fun h15 =>
  mkS ((l6 : Nat) : Int) ((l6 : Nat) : Int) 8 [.int .i64 0] 2 h15 fun b16 h17 =>
  ptrP p0_p fun a18 =>
  stC h17 (a18.add 3) (.slice (some (bk b16)) (((l6 : Nat) : Int).toNat) (((l6 : Nat) : Int).toNat)) fun h19 =>
  mkS ((l6 : Nat) : Int) ((l6 : Nat) : Int) 8 [.int .i64 0] 3 h19 fun b20 h21 =>
  ptrP p0_p fun a22 =>
  stC h21 (a22.add 5) (.slice (some (bk b20)) (((l6 : Nat) : Int).toNat) (((l6 : Nat) : Int).toNat)) fun h23 =>
  ptrP p0_p fun a24 =>
  ldV h23 (a24.add 2) fun x25 =>
  ixS x25 0 1 fun a26 =>
  stC h23 a26 (.int .i64 ((l6 : Nat) : Int)) fun h27 =>
  ptrP p0_p fun a28 =>
  ldV h27 (a28.add 0) fun x29 =>
  ptrP x29 fun a30 =>
  ldI h27 (a30.add 3) .i64 fun x31 =>
  T Try.prog F.maxflow_pushing_set [p0_p, .int .i64 x31, .int .i64 ((l6 : Nat) : Int)] h27 (rt (fun v32 h33 =>
  v32 = .tuple ⟨[]⟩ ∧
  ptrP p0_p fun a34 =>
  ptrP p0_p fun a35 =>
  ldV h33 (a34.add 0) fun x36 =>
  ptrP x36 fun a37 =>
  ldV h33 (a37.add 2) fun x38 =>
  ldV h33 (a35.add 0) fun x39 =>
  ptrP x39 fun a40 =>
  ldI h33 (a40.add 3) .i64 fun x41 =>
  ixS x38 x41 1 fun a42 =>
  ldV h33 a42 fun x43 =>
  slcP x43 fun a44 l45 c46 =>
  ∃ (I47 : (Int × Unit) → H → Prop) (r48 : (Int × Unit) × H → (Int × Unit) × H → Prop), WellFounded r48 ∧ I47 (0, ()) h33 ∧
  ∀ (s50 : Int) (h49 : H), I47 (s50, ()) h49 →
  ifP (decide (s50 < ((l45 : Nat) : Int))) (ixS x43 s50 1 fun a51 =>
  ldI h49 a51 .i64 fun x52 =>
  ptrP p0_p fun a53 =>
  ptrP p0_p fun a54 =>
  ptrP p0_p fun a55 =>
  ldV h49 (a53.add 3) fun x56 =>
  ldV h49 (a54.add 0) fun x57 =>
  ptrP x57 fun a58 =>
  ldI h49 (a58.add 3) .i64 fun x59 =>
  ixS x56 x59 1 fun a60 =>
  ldI h49 a60 .i64 fun x61 =>
  ldV h49 (a55.add 0) fun x62 =>
  ptrP x62 fun a63 =>
  ldV h49 (a63.add 1) fun x64 =>
  ixS x64 x52 1 fun a65 =>
  ldI h49 a65 .i64 fun x66 =>
  ixS x56 x59 1 fun a67 =>
  stC h49 a67 (.int .i64 (IntKind.i64.wrap (x61 + x66))) fun h68 =>
  ptrP p0_p fun a69 =>
  ldV h68 (a69.add 0) fun x70 =>
  ptrP x70 fun a71 =>
  ldI h68 (a71.add 3) .i64 fun x72 =>
  T Try.prog F.maxflow_pushing_give [p0_p, .int .i64 x72, .int .i64 x52] h68 (rt (fun v73 h74 =>
  v73 = .tuple ⟨[]⟩ ∧
  I47 ((IntKind.i64.wrap (s50 + 1)), ()) h74 ∧ r48 (((IntKind.i64.wrap (s50 + 1)), ()), h74) ((s50, ()), h49)) (fun v75 h76 => R (.pan v75) h76)))
  (∃ (I77 : (Unit) → H → Prop) (r78 : (Unit) × H → (Unit) × H → Prop), WellFounded r78 ∧ I77 (()) h49 ∧
  ∀  (h79 : H), I77 (()) h79 →
  ptrP p0_p fun a80 =>
  ldV h79 (a80.add 4) fun x81 =>
  slcP x81 fun a82 l83 c84 =>
  ifP (decide (0 < ((l83 : Nat) : Int))) (ptrP p0_p fun a85 =>
  ldV h79 (a85.add 4) fun x86 =>
  ixS x86 0 1 fun a87 =>
  ldI h79 a87 .i64 fun x88 =>
  ptrP p0_p fun a89 =>
  ldV h79 (a89.add 4) fun x90 =>
  slcP x90 fun a91 l92 c93 =>
  (0 : Int) ≤ ((l92 : Nat) : Int) ∧ ((l92 : Nat) : Int) ≤ ((c93 : Nat) : Int) ∧
  (0 : Int) ≤ 1 ∧ 1 ≤ ((l92 : Nat) : Int) ∧
  ptrP p0_p fun a94 =>
  oneP (sliceV a91 c93 1 ((l92 : Nat) : Int) 1) (stC h79 (a94.add 4) (sliceV a91 c93 1 ((l92 : Nat) : Int) 1) fun h95 =>
  ∃ (I96 : (Unit) → H → Prop) (r97 : (Unit) × H → (Unit) × H → Prop), WellFounded r97 ∧ I96 (()) h95 ∧
  ∀  (h98 : H), I96 (()) h98 →
  ptrP p0_p fun a99 =>
  ldV h98 (a99.add 3) fun x100 =>
  ixS x100 x88 1 fun a101 =>
  ldI h98 a101 .i64 fun x102 =>
  ifP (decide (0 < x102)) (ptrP p0_p fun a103 =>
  ptrP p0_p fun a104 =>
  ldV h98 (a103.add 5) fun x105 =>
  ixS x105 x88 1 fun a106 =>
  ldI h98 a106 .i64 fun x107 =>
  ldV h98 (a104.add 0) fun x108 =>
  ptrP x108 fun a109 =>
  ldV h98 (a109.add 2) fun x110 =>
  ixS x110 x88 1 fun a111 =>
  ldV h98 a111 fun x112 =>
  slcP x112 fun a113 l114 c115 =>
  ifP (decide (x107 = ((l114 : Nat) : Int))) (T Try.prog F.maxflow_pushing_lift [p0_p, .int .i64 x88] h98 (rt (fun v116 h117 =>
  v116 = .tuple ⟨[]⟩ ∧
  I96 (()) h117 ∧ r97 ((()), h117) ((()), h98)) (fun v118 h119 => R (.pan v118) h119)))
  (ptrP p0_p fun a120 =>
  ptrP p0_p fun a121 =>
  ldV h98 (a120.add 0) fun x122 =>
  ptrP x122 fun a123 =>
  ldV h98 (a123.add 2) fun x124 =>
  ixS x124 x88 1 fun a125 =>
  ldV h98 a125 fun x126 =>
  ldV h98 (a121.add 5) fun x127 =>
  ixS x127 x88 1 fun a128 =>
  ldI h98 a128 .i64 fun x129 =>
  ixS x126 x129 1 fun a130 =>
  ldI h98 a130 .i64 fun x131 =>
  ptrP p0_p fun a132 =>
  ldV h98 (a132.add 0) fun x133 =>
  ptrP x133 fun a134 =>
  ldV h98 (a134.add 1) fun x135 =>
  ixS x135 x131 1 fun a136 =>
  ldI h98 a136 .i64 fun x137 =>
  ifP (decide (0 < x137)) (ptrP p0_p fun a138 =>
  ptrP p0_p fun a139 =>
  ptrP p0_p fun a140 =>
  ldV h98 (a138.add 1) fun x141 =>
  ixS x141 x88 1 fun a142 =>
  ldI h98 a142 .i64 fun x143 =>
  ldV h98 (a139.add 1) fun x144 =>
  ldV h98 (a140.add 0) fun x145 =>
  ptrP x145 fun a146 =>
  ldV h98 (a146.add 0) fun x147 =>
  ixS x147 x131 1 fun a148 =>
  ldI h98 a148 .i64 fun x149 =>
  ixS x144 x149 1 fun a150 =>
  ldI h98 a150 .i64 fun x151 =>
  ifP (decide (x143 = (IntKind.i64.wrap (x151 + 1)))) (T Try.prog F.maxflow_pushing_give [p0_p, .int .i64 x88, .int .i64 x131] h98 (rt (fun v152 h153 =>
  v152 = .tuple ⟨[]⟩ ∧
  I96 (()) h153 ∧ r97 ((()), h153) ((()), h98)) (fun v154 h155 => R (.pan v154) h155)))
  (ptrP p0_p fun a156 =>
  ldV h98 (a156.add 5) fun x157 =>
  ixS x157 x88 1 fun a158 =>
  ldI h98 a158 .i64 fun x159 =>
  ixS x157 x88 1 fun a160 =>
  stC h98 a160 (.int .i64 (IntKind.i64.wrap (x159 + 1))) fun h161 =>
  I96 (()) h161 ∧ r97 ((()), h161) ((()), h98))) (ptrP p0_p fun a162 =>
  ldV h98 (a162.add 5) fun x163 =>
  ixS x163 x88 1 fun a164 =>
  ldI h98 a164 .i64 fun x165 =>
  ixS x163 x88 1 fun a166 =>
  stC h98 a166 (.int .i64 (IntKind.i64.wrap (x165 + 1))) fun h167 =>
  I96 (()) h167 ∧ r97 ((()), h167) ((()), h98))))
  (I77 (()) h98 ∧ r78 ((()), h98) ((()), h79))))
  (R (.ret (.tuple ⟨[]⟩)) h79))) (fun v168 h169 => R (.pan v168) h169))
theorem E_maxflow_pushing_fill {p0_p : Value} {R : Res → H → Prop} {h : H} (H0 : B_maxflow_pushing_fill p0_p R h) : T Try.prog F.maxflow_pushing_fill [p0_p] h R :=
  T_intro A_maxflow_pushing_fill Try.func85 (c := bodyOf Try.f85) (by kernel_rfl) (by kernel_rfl) (by kernel_rfl) (cast_of (by kernel_rfl) H0)

/-! ### (compass/maxflow.pushing).set -/
def A_maxflow_pushing_set : An := ⟨lkA [(0, ⟨[0, 1, 2, 4, 5, 6, 8, 3, 7, 9, 10, 11, 12, 13, 14, 15], lkN []⟩), (1, rng 8), (2, rng 10)], lkL [], lkC []⟩
def B_maxflow_pushing_set (p0_p : Value) (p1_v : Int) (p2_h : Int) (R : Res → H → Prop) (h : H) : Prop :=
  ptrP p0_p fun a1 =>
  ptrP p0_p fun a2 =>
  ldV h (a1.add 2) fun x3 =>
  ldV h (a2.add 1) fun x4 =>
  ixS x4 p1_v 1 fun a5 =>
  ldI h a5 .i64 fun x6 =>
  ixS x3 x6 1 fun a7 =>
  ldI h a7 .i64 fun x8 =>
  ixS x3 x6 1 fun a9 =>
  stC h a9 (.int .i64 (IntKind.i64.wrap (x8 - 1))) fun h10 =>
  ptrP p0_p fun a11 =>
  ldV h10 (a11.add 1) fun x12 =>
  ixS x12 p1_v 1 fun a13 =>
  stC h10 a13 (.int .i64 p2_h) fun h14 =>
  ptrP p0_p fun a15 =>
  ldV h14 (a15.add 2) fun x16 =>
  ixS x16 p2_h 1 fun a17 =>
  ldI h14 a17 .i64 fun x18 =>
  ixS x16 p2_h 1 fun a19 =>
  stC h14 a19 (.int .i64 (IntKind.i64.wrap (x18 + 1))) fun h20 =>
  R (.ret (.tuple ⟨[]⟩)) h20
theorem E_maxflow_pushing_set {p0_p : Value} {p1_v : Int} {p2_h : Int} {R : Res → H → Prop} {h : H} (H0 : B_maxflow_pushing_set p0_p p1_v p2_h R h) : T Try.prog F.maxflow_pushing_set [p0_p, .int .i64 p1_v, .int .i64 p2_h] h R :=
  T_intro A_maxflow_pushing_set Try.func86 (c := bodyOf Try.f86) (by kernel_rfl) (by kernel_rfl) (by kernel_rfl) (cast_of (by kernel_rfl) H0)

/-! ### (compass/maxflow.pushing).give -/
def A_maxflow_pushing_give : An := ⟨lkA [(0, rng 11), (1, ⟨[0, 1, 2, 4, 7, 8, 9, 14, 3, 5, 6, 10, 11, 12, 13, 15, 16, 17, 18], lkN []⟩), (2, rng 7), (3, rng 30), (4, rng 11), (5, rng 11), (6, rng 11)], lkL [], lkC [(5, [])]⟩
def B_maxflow_pushing_give (p0_p : Value) (p1_v : Int) (p2_a : Int) (R : Res → H → Prop) (h : H) : Prop :=
  ptrP p0_p fun a1 =>
  ldV h (a1.add 0) fun x2 =>
  ptrP x2 fun a3 =>
  ldV h (a3.add 0) fun x4 =>
  ixS x4 p2_a 1 fun a5 =>
  ldI h a5 .i64 fun x6 =>
  ptrP p0_p fun a7 =>
  ptrP p0_p fun a8 =>
  ldV h (a7.add 3) fun x9 =>
  ixS x9 p1_v 1 fun a10 =>
  ldI h a10 .i64 fun x11 =>
  ldV h (a8.add 0) fun x12 =>
  ptrP x12 fun a13 =>
  ldV h (a13.add 1) fun x14 =>
  ixS x14 p2_a 1 fun a15 =>
  ldI h a15 .i64 fun x16 =>
  ptrP p0_p fun a17 =>
  ldV h (a17.add 0) fun x18 =>
  T Try.prog F.maxflow_net_send [x18, .int .i64 p2_a, .int .i64 (if x16 < x11 then x16 else x11)] h (rt (fun v19 h20 =>
  v19 = .tuple ⟨[]⟩ ∧
  ∃ J21 : (Unit) → H → Prop, (ptrP p0_p fun a23 =>
  ldV h20 (a23.add 3) fun x24 =>
  ixS x24 x6 1 fun a25 =>
  ldI h20 a25 .i64 fun x26 =>
  ifP (decide (x26 = 0)) (ptrP p0_p fun a27 =>
  ldV h20 (a27.add 0) fun x28 =>
  ptrP x28 fun a29 =>
  ldI h20 (a29.add 3) .i64 fun x30 =>
  ifP (!decide (x6 = x30)) (ptrP p0_p fun a31 =>
  ldV h20 (a31.add 0) fun x32 =>
  ptrP x32 fun a33 =>
  ldI h20 (a33.add 4) .i64 fun x34 =>
  ifP (!decide (x6 = x34)) (ptrP p0_p fun a35 =>
  ldV h20 (a35.add 4) fun x36 =>
  newP h20 (.cells ⟨[.int .i64 x6]⟩ 3 (0, 0)) fun b37 h38 =>
  apP x36 (.slice (some (bk b37)) 1 1) h38 1 3 8 [.int .i64 0] fun s39 h40 =>
  ptrP p0_p fun a41 =>
  oneP s39 (stC h40 (a41.add 4) s39 fun h42 =>
  J21 (()) h42))
  (J21 (()) h20)) (J21 (()) h20)) (J21 (()) h20)) ∧
  (∀  (h22 : H), J21 (()) h22 →
  ptrP p0_p fun a43 =>
  ldV h22 (a43.add 3) fun x44 =>
  ixS x44 p1_v 1 fun a45 =>
  ldI h22 a45 .i64 fun x46 =>
  ixS x44 p1_v 1 fun a47 =>
  stC h22 a47 (.int .i64 (IntKind.i64.wrap (x46 - (if x16 < x11 then x16 else x11)))) fun h48 =>
  ptrP p0_p fun a49 =>
  ldV h48 (a49.add 3) fun x50 =>
  ixS x50 x6 1 fun a51 =>
  ldI h48 a51 .i64 fun x52 =>
  ixS x50 x6 1 fun a53 =>
  stC h48 a53 (.int .i64 (IntKind.i64.wrap (x52 + (if x16 < x11 then x16 else x11)))) fun h54 =>
  R (.ret (.tuple ⟨[]⟩)) h54)) (fun v55 h56 => R (.pan v55) h56))
theorem E_maxflow_pushing_give {p0_p : Value} {p1_v : Int} {p2_a : Int} {R : Res → H → Prop} {h : H} (H0 : B_maxflow_pushing_give p0_p p1_v p2_a R h) : T Try.prog F.maxflow_pushing_give [p0_p, .int .i64 p1_v, .int .i64 p2_a] h R :=
  T_intro A_maxflow_pushing_give Try.func87 (c := bodyOf Try.f87) (by kernel_rfl) (by kernel_rfl) (by kernel_rfl) (cast_of (by kernel_rfl) H0)

/-! ### (compass/maxflow.pushing).lift -/
def A_maxflow_pushing_lift : An := ⟨lkA [(0, ⟨[0, 1, 2, 4, 7, 8, 9, 3, 5, 6, 16, 10, 11, 12, 13, 14, 15, 17], lkN []⟩), (1, rng 12), (2, rng 1), (3, rng 3), (4, rng 11), (5, ⟨[0, 1, 2, 3, 5, 6, 7, 12, 4, 8, 9, 10, 11, 13, 14, 15, 16, 17, 18, 19], lkN []⟩), (6, rng 2), (7, rng 4), (8, rng 7), (9, rng 9), (10, rng 13), (11, rng 6), (12, rng 1), (13, rng 5), (14, rng 19), (15, rng 5), (16, rng 7), (17, rng 2)], lkL [(2, [(5, .int .i64), (38, .int .i64)]), (12, [(109, .int .i64)])], lkC []⟩
def B_maxflow_pushing_lift (p0_p : Value) (p1_v : Int) (R : Res → H → Prop) (h : H) : Prop :=
  ptrP p0_p fun a1 =>
  ptrP p0_p fun a2 =>
  ldV h (a1.add 1) fun x3 =>
  ixS x3 p1_v 1 fun a4 =>
  ldI h a4 .i64 fun x5 =>
  ldV h (a2.add 0) fun x6 =>
  ptrP x6 fun a7 =>
  ldV h (a7.add 2) fun x8 =>
  slcP x8 fun a9 l10 c11 =>
  ptrP p0_p fun a12 =>
  ldV h (a12.add 0) fun x13 =>
  ptrP x13 fun a14 =>
  ldV h (a14.add 2) fun x15 =>
  ixS x15 p1_v 1 fun a16 =>
  ldV h a16 fun x17 =>
  slcP x17 fun a18 l19 c20 =>
  ∃ (I21 : (Int × Int × Unit) → H → Prop) (r22 : (Int × Int × Unit) × H → (Int × Int × Unit) × H → Prop), WellFounded r22 ∧ I21 ((IntKind.i64.wrap (2 * ((l10 : Nat) : Int))), 0, ()) h ∧
  ∀ (low_24 : Int) (s25 : Int) (h23 : H), I21 (low_24, s25, ()) h23 →
  ifP (decide (s25 < ((l19 : Nat) : Int))) (ixS x17 s25 1 fun a26 =>
  ldI h23 a26 .i64 fun x27 =>
  ptrP p0_p fun a28 =>
  ldV h23 (a28.add 0) fun x29 =>
  ptrP x29 fun a30 =>
  ldV h23 (a30.add 1) fun x31 =>
  ixS x31 x27 1 fun a32 =>
  ldI h23 a32 .i64 fun x33 =>
  ifP (decide (0 < x33)) (ptrP p0_p fun a34 =>
  ptrP p0_p fun a35 =>
  ldV h23 (a34.add 1) fun x36 =>
  ldV h23 (a35.add 0) fun x37 =>
  ptrP x37 fun a38 =>
  ldV h23 (a38.add 0) fun x39 =>
  ixS x39 x27 1 fun a40 =>
  ldI h23 a40 .i64 fun x41 =>
  ixS x36 x41 1 fun a42 =>
  ldI h23 a42 .i64 fun x43 =>
  I21 ((if (IntKind.i64.wrap (x43 + 1)) < low_24 then (IntKind.i64.wrap (x43 + 1)) else low_24), (IntKind.i64.wrap (s25 + 1)), ()) h23 ∧ r22 (((if (IntKind.i64.wrap (x43 + 1)) < low_24 then (IntKind.i64.wrap (x43 + 1)) else low_24), (IntKind.i64.wrap (s25 + 1)), ()), h23) ((low_24, s25, ()), h23))
  (I21 (low_24, (IntKind.i64.wrap (s25 + 1)), ()) h23 ∧ r22 ((low_24, (IntKind.i64.wrap (s25 + 1)), ()), h23) ((low_24, s25, ()), h23)))
  (T Try.prog F.maxflow_pushing_set [p0_p, .int .i64 p1_v, .int .i64 low_24] h23 (rt (fun v44 h45 =>
  v44 = .tuple ⟨[]⟩ ∧
  ptrP p0_p fun a46 =>
  ldV h45 (a46.add 5) fun x47 =>
  ixS x47 p1_v 1 fun a48 =>
  stC h45 a48 (.int .i64 0) fun h49 =>
  ptrP p0_p fun a50 =>
  ldV h49 (a50.add 0) fun x51 =>
  ptrP x51 fun a52 =>
  ldV h49 (a52.add 2) fun x53 =>
  slcP x53 fun a54 l55 c56 =>
  ptrP p0_p fun a57 =>
  ldV h49 (a57.add 2) fun x58 =>
  ixS x58 x5 1 fun a59 =>
  ldI h49 a59 .i64 fun x60 =>
  ifP (decide (x60 = 0)) (ifP (decide (x5 < ((l55 : Nat) : Int))) (ptrP p0_p fun a61 =>
  ldV h49 (a61.add 1) fun x62 =>
  slcP x62 fun a63 l64 c65 =>
  ∃ (I66 : (Int × Unit) → H → Prop) (r67 : (Int × Unit) × H → (Int × Unit) × H → Prop), WellFounded r67 ∧ I66 (0, ()) h49 ∧
  ∀ (s69 : Int) (h68 : H), I66 (s69, ()) h68 →
  ifP (decide (s69 < ((l64 : Nat) : Int))) (ixS x62 s69 1 fun a70 =>
  ldI h68 a70 .i64 fun x71 =>
  ifP (decide (x5 < x71)) (ifP (decide (x71 ≤ ((l55 : Nat) : Int))) (ptrP p0_p fun a72 =>
  ldV h68 (a72.add 0) fun x73 =>
  ptrP x73 fun a74 =>
  ldI h68 (a74.add 3) .i64 fun x75 =>
  ifP (!decide (s69 = x75)) (T Try.prog F.maxflow_pushing_set [p0_p, .int .i64 s69, .int .i64 (IntKind.i64.wrap (((l55 : Nat) : Int) + 1))] h68 (rt (fun v76 h77 =>
  v76 = .tuple ⟨[]⟩ ∧
  ptrP p0_p fun a78 =>
  ldV h77 (a78.add 5) fun x79 =>
  ixS x79 s69 1 fun a80 =>
  stC h77 a80 (.int .i64 0) fun h81 =>
  I66 ((IntKind.i64.wrap (s69 + 1)), ()) h81 ∧ r67 (((IntKind.i64.wrap (s69 + 1)), ()), h81) ((s69, ()), h68)) (fun v82 h83 => R (.pan v82) h83)))
  (I66 ((IntKind.i64.wrap (s69 + 1)), ()) h68 ∧ r67 (((IntKind.i64.wrap (s69 + 1)), ()), h68) ((s69, ()), h68))) (I66 ((IntKind.i64.wrap (s69 + 1)), ()) h68 ∧ r67 (((IntKind.i64.wrap (s69 + 1)), ()), h68) ((s69, ()), h68))) (I66 ((IntKind.i64.wrap (s69 + 1)), ()) h68 ∧ r67 (((IntKind.i64.wrap (s69 + 1)), ()), h68) ((s69, ()), h68)))
  (R (.ret (.tuple ⟨[]⟩)) h68))
  (R (.ret (.tuple ⟨[]⟩)) h49)) (R (.ret (.tuple ⟨[]⟩)) h49)) (fun v84 h85 => R (.pan v84) h85)))
theorem E_maxflow_pushing_lift {p0_p : Value} {p1_v : Int} {R : Res → H → Prop} {h : H} (H0 : B_maxflow_pushing_lift p0_p p1_v R h) : T Try.prog F.maxflow_pushing_lift [p0_p, .int .i64 p1_v] h R :=
  T_intro A_maxflow_pushing_lift Try.func88 (c := bodyOf Try.f88) (by kernel_rfl) (by kernel_rfl) (by kernel_rfl) (cast_of (by kernel_rfl) H0)

end Go.Proofs.Ythglkcpoofenbaa

