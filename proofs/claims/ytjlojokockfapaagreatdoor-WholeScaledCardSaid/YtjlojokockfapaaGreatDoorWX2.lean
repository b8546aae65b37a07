import Derived.Test.YtjlojokockfapaaGreatDoorProg
import Derived.IntWalk
import Derived.Test.YtjlojokockfapaaGreatDoorWX1
namespace Go.Proofs.YtjlojokockfapaaGreatDoor
open Go
set_option linter.unusedVariables false
set_option maxRecDepth 100000

abbrev F.compasstop_WholeScaled : FuncId := 3
abbrev F.compasstop_flows : FuncId := 4
abbrev F.math_Float64frombits : FuncId := 5
abbrev F.math_Ldexp : FuncId := 6
abbrev F.scale_Admit : FuncId := 7
abbrev F.compassref03_Copy : FuncId := 8
abbrev F.scale_Back : FuncId := 9
abbrev F.mincost_Solve : FuncId := 10
abbrev F.maxflow_Solve : FuncId := 11
abbrev F.math_ldexp : FuncId := 13
abbrev F.math_IsNaN : FuncId := 14
abbrev F.math_IsInf : FuncId := 15
abbrev F.scale_parts : FuncId := 16
abbrev F.scale_rounded : FuncId := 17
abbrev F.scale_size : FuncId := 18
abbrev F.graph_Check : FuncId := 19
abbrev F.mincost_supplied : FuncId := 20
abbrev F.mincost_newNet : FuncId := 21
abbrev F.maxflow_newNet : FuncId := 23
abbrev F.maxflow_net_levels : FuncId := 24
abbrev F.math_normalize : FuncId := 25
abbrev F.math_Float64bits : FuncId := 26
abbrev F.math_Copysign : FuncId := 27
abbrev F.math_Inf : FuncId := 28
abbrev F.math_Abs : FuncId := 29
abbrev F.math_Frexp : FuncId := 30
abbrev F.bits_TrailingZeros64 : FuncId := 31
abbrev F.bits_Len64 : FuncId := 32
abbrev F.graph_label : FuncId := 33
abbrev F.math_frexp : FuncId := 35
abbrev F.mincost_net_reduced : FuncId := 52
abbrev F.mincost_ways_meet : FuncId := 53
abbrev F.mincost_net_send : FuncId := 54
abbrev F.mincost_ways_missing : FuncId := 55
abbrev F.mincost_ways_cheapest : FuncId := 56
abbrev F.mincost_net_reached : FuncId := 57
abbrev F.mincost_net_carry : FuncId := 58
abbrev F.heaps_New : FuncId := 59
abbrev F.heaps_Queue_Push : FuncId := 60
abbrev F.heaps_Queue_Len : FuncId := 61
abbrev F.heaps_Queue_Pop : FuncId := 62
abbrev F.heaps_Queue_Lower : FuncId := 63
abbrev F.heaps_Queue_low : FuncId := 64
abbrev F.heaps_Queue_Top : FuncId := 65
abbrev F.mincost_circles_meet : FuncId := 66
abbrev F.mincost_circles_turn : FuncId := 67
abbrev F.mincost_scaling_meet : FuncId := 68
abbrev F.mincost_scaling_refine : FuncId := 69
abbrev F.maxflow_net_send : FuncId := 70
abbrev F.maxflow_dinic_fill : FuncId := 71
abbrev F.maxflow_dinic_along : FuncId := 72
abbrev F.heaps_keyed_ahead : FuncId := 104
abbrev F.heaps_fibonacci_lower : FuncId := 111
abbrev F.heaps_fibonacci_pop : FuncId := 112
abbrev F.heaps_fibonacci_push : FuncId := 113
abbrev F.heaps_fibonacci_top : FuncId := 114
abbrev F.heaps_fibonacci_cut : FuncId := 115
abbrev F.heaps_fibonacci_ring : FuncId := 116
abbrev F.heaps_fibonacci_under : FuncId := 117
abbrev F.heaps_fibonacci_root : FuncId := 118
abbrev F.heaps_fibonacci_leave : FuncId := 119
abbrev F.heaps_fibonacci_join : FuncId := 120
def A_compasstop_WholeScaled : An := ⟨lkA [(0, rng 3), (1, rng 2), (2, rng 1), (3, rng 2), (4, rng 4), (5, rng 1), (6, rng 2), (7, rng 1), (8, rng 5), (9, rng 7), (10, rng 5), (11, rng 8), (12, rng 2), (13, rng 10), (14, rng 3), (15, rng 19), (16, rng 4), (17, rng 3), (18, rng 1), (19, rng 5), (20, ⟨[0, 1, 3, 4, 5, 6, 2, 7], lkN [(2, [6])]⟩), (21, rng 1), (22, rng 7), (23, rng 2), (24, rng 15), (25, rng 2), (26, rng 3), (27, rng 1), (28, rng 3), (29, rng 1), (30, rng 5), (31, rng 10), (32, rng 2), (33, rng 21), (34, rng 4), (35, rng 10), (36, rng 10), (37, rng 1), (38, rng 1), (39, rng 3), (40, rng 1), (41, rng 2), (42, ⟨[0, 1, 2, 4, 5, 6, 3, 7, 8], lkN []⟩), (43, rng 1), (44, rng 9), (45, rng 2), (46, ⟨[0, 1, 2, 3, 4, 5, 6, 7, 8, 9, 10, 11, 12, 13, 17, 18, 20, 14, 15, 21, 16, 19, 22, 23, 24, 25], lkN [(16, [21]), (19, [21])]⟩)], lkL [(5, [(7, .val), (8, .val), (34, .int .i64)]), (18, [(91, .int .i64)]), (29, [(21, .int .i64), (127, .int .i64)]), (40, [(27, .bool), (184, .int .i64)])], lkC [(10, [(10, .val)]), (35, [])]⟩
def B_compasstop_WholeScaled (p0_g : List Value) (p1_w : List Value) (p2_kind : Int) (R : Res → H → Prop) (h : H) : Prop :=
  newP h (.cells ⟨p0_g⟩ 24 (0, 0)) fun b1 h2 =>
  newP h2 (.cells ⟨p1_w⟩ 28 (0, 0)) fun b3 h4 =>
  T Tryz.prog F.compasstop_flows [] h4 (rt (fun v5 h6 =>
  ∃ r7, v5 = .bool r7 ∧
  ifP (!r7) (R (.ret (.bool false)) h6)
  (ldV h6 ((bk b1).add 1) fun x8 =>
  slcP x8 fun a9 l10 c11 =>
  ∃ (I12 : (Value × Value × Int × Unit) → H → Prop) (r13 : (Value × Value × Int × Unit) × H → (Value × Value × Int × Unit) × H → Prop), WellFounded r13 ∧ I12 ((.slice none 0 0 : Value), (.slice none 0 0 : Value), 0, ()) h6 ∧
  ∀ (labels_15 : Value) (up_16 : Value) (s17 : Int) (h14 : H), I12 (labels_15, up_16, s17, ()) h14 →
  ifP (decide (s17 < ((l10 : Nat) : Int))) (∃ J18 : (Value × Unit) → H → Prop, (ldV h14 ((bk b3).add 0) fun x21 =>
  slcP x21 fun a22 l23 c24 =>
  ifP (decide (s17 < ((l23 : Nat) : Int))) (ldV h14 ((bk b3).add 0) fun x25 =>
  ixS x25 s17 1 fun a26 =>
  ldI h14 a26 .u64 fun x27 =>
  extP Tryz.prog F.math_Float64frombits [.int .u64 x27] h14 (rt (fun v28 h29 =>
  J18 (v28, ()) h29) (fun v30 h31 => R (.pan v30) h31)))
  (J18 ((.float .f64 0), ()) h14)) ∧
  (∀ (x_20 : Value) (h19 : H), J18 (x_20, ()) h19 →
  oneP x_20 (newP h19 (.cells ⟨[x_20]⟩ 31 (0, 0)) fun b32 h33 =>
  apP labels_15 (.slice (some (bk b32)) 1 1) h33 1 31 8 [.float .f64 0] fun s34 h35 =>
  ldI h35 ((bk b3).add 2) .i64 fun x36 =>
  T Tryz.prog F.math_Ldexp [x_20, .int .i64 x36] h35 (rt (fun v37 h38 =>
  oneP v37 (newP h38 (.cells ⟨[v37]⟩ 31 (0, 0)) fun b39 h40 =>
  apP up_16 (.slice (some (bk b39)) 1 1) h40 1 31 8 [.float .f64 0] fun s41 h42 =>
  I12 (s34, s41, (IntKind.i64.wrap (s17 + 1)), ()) h42 ∧ r13 ((s34, s41, (IntKind.i64.wrap (s17 + 1)), ()), h42) ((labels_15, up_16, s17, ()), h14))) (fun v43 h44 => R (.pan v43) h44)))))
  (T Tryz.prog F.scale_Admit [labels_15, .int .i64 1048576] h14 (rt (fun v45 h46 =>
  ∃ r47 : Value, ∃ r48 : Int, ∃ r49 : List Value, r49.length = 2 ∧ v45 = .tuple ⟨[r47, .int .i64 r48, .agg ⟨r49⟩]⟩ ∧
  newP h46 (.cells ⟨[.int .i64 0, .int .i64 0]⟩ 37 (0, 0)) fun b50 h51 =>
  stN h51 (bk b50) r49 2 fun h52 =>
  ldI h52 ((bk b50).add 0) .i64 fun x53 =>
  ifP (!decide (x53 = 0)) (slcP r47 fun a54 l55 c56 =>
  ifP (decide (((l55 : Nat) : Int) = 0)) (ldI h52 ((bk b50).add 0) .i64 fun x57 =>
  ifP (decide (x57 = 20)) (R (.ret (.bool true)) h52) (ldI h52 ((bk b50).add 0) .i64 fun x58 =>
  ifP (decide (x58 = 21)) (R (.ret (.bool true)) h52) (ldI h52 ((bk b50).add 0) .i64 fun x59 =>
  R (.ret (.bool (decide (x59 = 22)))) h52))) (R (.ret (.bool false)) h52))
  (ldN h52 (bk b1) 2 fun x60 =>
  T Tryz.prog F.compassref03_Copy [.agg ⟨x60⟩] h52 (rt (fun v61 h62 =>
  ∃ r63 : List Value, r63.length = 2 ∧ v61 = .agg ⟨r63⟩ ∧
  newP h62 (.cells ⟨[.int .i64 0, .slice none 0 0]⟩ 24 (0, 0)) fun b64 h65 =>
  stN h65 (bk b64) r63 2 fun h66 =>
  slcP r47 fun a67 l68 c69 =>
  ∃ (I70 : (Int × Unit) → H → Prop) (r71 : (Int × Unit) × H → (Int × Unit) × H → Prop), WellFounded r71 ∧ I70 (0, ()) h66 ∧
  ∀ (s73 : Int) (h72 : H), I70 (s73, ()) h72 →
  ifP (decide (s73 < ((l68 : Nat) : Int))) (ixS r47 s73 1 fun a74 =>
  ldI h72 a74 .i64 fun x75 =>
  ixS labels_15 s73 1 fun a76 =>
  ldV h72 a76 fun x77 =>
  T Tryz.prog F.scale_Back [.int .i64 x75, .int .i64 r48] h72 (rt (fun v78 h79 =>
  (sameAt 2 a76 h72 h79) ∧
  binP Tryz.prog .neq 31 (.tmp 98) (.tmp 102) v78 x77 h79 fun r80 =>
  boolP r80 fun b81 =>
  ifP b81 (R (.ret (.bool false)) h79)
  (ldV h79 ((bk b64).add 1) fun x82 =>
  ixS x82 s73 4 fun a83 =>
  stC h79 (a83.add 3) (.int .i64 x75) fun h84 =>
  I70 ((IntKind.i64.wrap (s73 + 1)), ()) h84 ∧ r71 (((IntKind.i64.wrap (s73 + 1)), ()), h84) ((s73, ()), h72))) (fun v85 h86 => R (.pan v85) h86)))
  (ldN h72 (bk b64) 2 fun x87 =>
  ldV h72 ((bk b3).add 1) fun x88 =>
  T Tryz.prog F.mincost_Solve [.agg ⟨x87⟩, x88, .int .i64 p2_kind] h72 (rt (fun v89 h90 =>
  ∃ r91 : List Value, r91.length = 3 ∧ ∃ r92 : Int, ∃ r93 : Value, ∃ r94 : Int, v89 = .tuple ⟨[.agg ⟨r91⟩, .int .i64 r92, r93, .int .i64 r94]⟩ ∧
  newP h90 (.cells ⟨[.slice none 0 0, .slice none 0 0, .slice none 0 0]⟩ 45 (0, 0)) fun b95 h96 =>
  stN h96 (bk b95) r91 3 fun h97 =>
  ifP (!decide (r94 = 0)) (R (.ret (.bool (decide (r92 = 0)))) h97)
  (slcP r47 fun a98 l99 c100 =>
  ∃ (I101 : (Int × Int × Unit) → H → Prop) (r102 : (Int × Int × Unit) × H → (Int × Int × Unit) × H → Prop), WellFounded r102 ∧ I101 (0, 0, ()) h97 ∧
  ∀ (sum_104 : Int) (s105 : Int) (h103 : H), I101 (sum_104, s105, ()) h103 →
  ifP (decide (s105 < ((l99 : Nat) : Int))) (ixS r47 s105 1 fun a106 =>
  ldI h103 a106 .i64 fun x107 =>
  ldV h103 ((bk b95).add 1) fun x108 =>
  ixS x108 s105 1 fun a109 =>
  ldI h103 a109 .i64 fun x110 =>
  I101 ((IntKind.i64.wrap (sum_104 + (IntKind.i64.wrap (x107 * x110)))), (IntKind.i64.wrap (s105 + 1)), ()) h103 ∧ r102 (((IntKind.i64.wrap (sum_104 + (IntKind.i64.wrap (x107 * x110)))), (IntKind.i64.wrap (s105 + 1)), ()), h103) ((sum_104, s105, ()), h103))
  (∃ J111 : (Unit) → H → Prop, (ifP (!decide (sum_104 = r92)) (R (.ret (.bool (decide (sum_104 = r92)))) h103) (ifP (decide (r48 < (-900))) (R (.ret (.bool (decide (sum_104 = r92)))) h103) (ifP (decide (900 < r48)) (R (.ret (.bool (decide (sum_104 = r92)))) h103) (ldI h103 ((bk b3).add 2) .i64 fun x113 =>
  ifP (decide (x113 < (-60))) (R (.ret (.bool (decide (sum_104 = r92)))) h103) (ldI h103 ((bk b3).add 2) .i64 fun x114 =>
  ifP (decide (60 < x114)) (R (.ret (.bool (decide (sum_104 = r92)))) h103)
  (J111 (()) h103)))))) ∧
  (∀  (h112 : H), J111 (()) h112 →
  T Tryz.prog F.scale_Admit [up_16, .int .i64 1048576] h112 (rt (fun v115 h116 =>
  ∃ r117 : Value, ∃ r118 : Int, ∃ r119 : List Value, r119.length = 2 ∧ v115 = .tuple ⟨[r117, .int .i64 r118, .agg ⟨r119⟩]⟩ ∧
  newP h116 (.cells ⟨[.int .i64 0, .int .i64 0]⟩ 37 (0, 0)) fun b120 h121 =>
  stN h121 (bk b120) r119 2 fun h122 =>
  ldI h122 ((bk b120).add 0) .i64 fun x123 =>
  ifP (!decide (x123 = 0)) (R (.ret (.bool false)) h122) (slcP r117 fun a124 l125 c126 =>
  slcP r47 fun a127 l128 c129 =>
  ifP (!decide (((l125 : Nat) : Int) = ((l128 : Nat) : Int))) (R (.ret (.bool false)) h122)
  (slcP r117 fun a130 l131 c132 =>
  ∃ (I133 : (Bool × Int × Unit) → H → Prop) (r134 : (Bool × Int × Unit) × H → (Bool × Int × Unit) × H → Prop), WellFounded r134 ∧ I133 (false, 0, ()) h122 ∧
  ∀ (any_136 : Bool) (s137 : Int) (h135 : H), I133 (any_136, s137, ()) h135 →
  ifP (decide (s137 < ((l131 : Nat) : Int))) (ixS r117 s137 1 fun a138 =>
  ixS r47 s137 1 fun a139 =>
  ldI h135 a138 .i64 fun x140 =>
  ldI h135 a139 .i64 fun x141 =>
  ifP (!decide (x140 = x141)) (R (.ret (.bool false)) h135)
  (ifP any_136 (I133 (true, (IntKind.i64.wrap (s137 + 1)), ()) h135 ∧ r134 ((true, (IntKind.i64.wrap (s137 + 1)), ()), h135) ((any_136, s137, ()), h135)) (ixS r117 s137 1 fun a142 =>
  ldI h135 a142 .i64 fun x143 =>
  I133 ((!decide (x143 = 0)), (IntKind.i64.wrap (s137 + 1)), ()) h135 ∧ r134 (((!decide (x143 = 0)), (IntKind.i64.wrap (s137 + 1)), ()), h135) ((any_136, s137, ()), h135))))
  (ifP (!any_136) (ldI h135 ((bk b3).add 2) .i64 fun x144 =>
  ldI h135 ((bk b3).add 2) .i64 fun x145 =>
  T Tryz.prog F.scale_Back [.int .i64 r92, .int .i64 (IntKind.i64.wrap (r48 + x144))] h135 (rt (fun v146 h147 =>
  (sameAt 2 ((bk b3).add 2) h135 h147) ∧
  T Tryz.prog F.scale_Back [.int .i64 r92, .int .i64 r48] h147 (rt (fun v148 h149 =>
  (sameAt 2 ((bk b3).add 2) h147 h149) ∧
  T Tryz.prog F.math_Ldexp [v148, .int .i64 x145] h149 (rt (fun v150 h151 =>
  binP Tryz.prog .eql 31 (.tmp 221) (.tmp 227) v146 v150 h151 fun r152 =>
  R (.ret r152) h151) (fun v153 h154 => R (.pan v153) h154))) (fun v155 h156 => R (.pan v155) h156))) (fun v157 h158 => R (.pan v157) h158))) (ldI h135 ((bk b3).add 2) .i64 fun x159 =>
  ifP (decide (r118 = (IntKind.i64.wrap (r48 + x159)))) (ldI h135 ((bk b3).add 2) .i64 fun x160 =>
  ldI h135 ((bk b3).add 2) .i64 fun x161 =>
  T Tryz.prog F.scale_Back [.int .i64 r92, .int .i64 (IntKind.i64.wrap (r48 + x160))] h135 (rt (fun v162 h163 =>
  (sameAt 2 ((bk b3).add 2) h135 h163) ∧
  T Tryz.prog F.scale_Back [.int .i64 r92, .int .i64 r48] h163 (rt (fun v164 h165 =>
  (sameAt 2 ((bk b3).add 2) h163 h165) ∧
  T Tryz.prog F.math_Ldexp [v164, .int .i64 x161] h165 (rt (fun v166 h167 =>
  binP Tryz.prog .eql 31 (.tmp 221) (.tmp 227) v162 v166 h167 fun r168 =>
  R (.ret r168) h167) (fun v169 h170 => R (.pan v169) h170))) (fun v171 h172 => R (.pan v171) h172))) (fun v173 h174 => R (.pan v173) h174))) (R (.ret (.bool false)) h135)))))) (fun v175 h176 => R (.pan v175) h176)))))) (fun v177 h178 => R (.pan v177) h178)))) (fun v179 h180 => R (.pan v179) h180)))) (fun v181 h182 => R (.pan v181) h182))))) (fun v183 h184 => R (.pan v183) h184))
theorem E_compasstop_WholeScaled {p0_g : List Value} {p1_w : List Value} {p2_kind : Int} {R : Res → H → Prop} {h : H} (H0 : B_compasstop_WholeScaled p0_g p1_w p2_kind R h) : T Tryz.prog F.compasstop_WholeScaled [.agg ⟨p0_g⟩, .agg ⟨p1_w⟩, .int .i64 p2_kind] h R :=
  T_intro A_compasstop_WholeScaled Tryz.func3 (c := bodyOf Tryz.f3) (by kernel_rfl) (by kernel_rfl) (by kernel_rfl) (cast_of (by kernel_rfl) H0)

def A_compasstop_flows : An := ⟨lkA [(0, rng 1), (1, rng 5), (2, rng 10), (3, rng 13), (4, rng 15)], lkL [], lkC []⟩
def B_compasstop_flows  (R : Res → H → Prop) (h : H) : Prop :=
  ([.int .i64 0, .int .i64 1, .int .i64 2, .int .i64 1] : List Value).length = 4 ∧
  newP h (.cells ⟨[.int .i64 0, .int .i64 1, .int .i64 2, .int .i64 1]⟩ 43 (0, 0)) fun b1 h2 =>
  newP h2 (.cells ⟨[.int .i64 0, .slice none 0 0]⟩ 24 (0, 0)) fun b3 h4 =>
  stN h4 (bk b3) [.int .i64 2, .slice (some (bk b1)) 1 1] 2 fun h5 =>
  ldN h5 (bk b3) 2 fun x6 =>
  T Tryz.prog F.maxflow_Solve [.agg ⟨x6⟩, .int .i64 0, .int .i64 1, .int .i64 1] h5 (rt (fun v7 h8 =>
  ∃ r9 : List Value, r9.length = 4 ∧ ∃ r10 : Int, ∃ r11 : Int, v7 = .tuple ⟨[.agg ⟨r9⟩, .int .i64 r10, .int .i64 r11]⟩ ∧
  newP h8 (.cells ⟨[.int .i64 0, .int .i64 0, .slice none 0 0, .slice none 0 0]⟩ 51 (0, 0)) fun b12 h13 =>
  stN h13 (bk b12) r9 4 fun h14 =>
  ldN h14 (bk b3) 2 fun x15 =>
  newP h14 (.cells ⟨[.int .i64 2, .int .i64 (-2)]⟩ 2 (0, 0)) fun b16 h17 =>
  T Tryz.prog F.mincost_Solve [.agg ⟨x15⟩, .slice (some (bk b16)) 2 2, .int .i64 1] h17 (rt (fun v18 h19 =>
  ∃ r20 : List Value, r20.length = 3 ∧ ∃ r21 : Int, ∃ r22 : Value, ∃ r23 : Int, v18 = .tuple ⟨[.agg ⟨r20⟩, .int .i64 r21, r22, .int .i64 r23]⟩ ∧
  newP h19 (.cells ⟨[.slice none 0 0, .slice none 0 0, .slice none 0 0]⟩ 45 (0, 0)) fun b24 h25 =>
  stN h25 (bk b24) r20 3 fun h26 =>
  ifP (decide (r10 = 2)) (ifP (decide (r11 = 0)) (ifP (decide (r21 = 2)) (R (.ret (.bool (decide (r23 = 0)))) h26) (R (.ret (.bool false)) h26)) (R (.ret (.bool false)) h26)) (R (.ret (.bool false)) h26)) (fun v27 h28 => R (.pan v27) h28))) (fun v29 h30 => R (.pan v29) h30))
theorem E_compasstop_flows  {R : Res → H → Prop} {h : H} (H0 : B_compasstop_flows  R h) : T Tryz.prog F.compasstop_flows [] h R :=
  T_intro A_compasstop_flows Tryz.func4 (c := bodyOf Tryz.f4) (by kernel_rfl) (by kernel_rfl) (by kernel_rfl) (cast_of (by kernel_rfl) H0)

def A_math_Ldexp : An := ⟨lkA [(0, rng 1), (1, rng 4), (2, rng 4)], lkL [], lkC []⟩
def B_math_Ldexp (p0_frac : Value) (p1_exp : Int) (R : Res → H → Prop) (h : H) : Prop :=
  T Tryz.prog F.math_ldexp [p0_frac, .int .i64 p1_exp] h (rt (fun v1 h2 =>
  R (.ret v1) h2) (fun v3 h4 => R (.pan v3) h4))
theorem E_math_Ldexp {p0_frac : Value} {p1_exp : Int} {R : Res → H → Prop} {h : H} (H0 : B_math_Ldexp p0_frac p1_exp R h) : T Tryz.prog F.math_Ldexp [p0_frac, .int .i64 p1_exp] h R :=
  T_intro A_math_Ldexp Tryz.func6 (c := bodyOf Tryz.f6) (by kernel_rfl) (by kernel_rfl) (by kernel_rfl) (cast_of (by kernel_rfl) H0)

def A_scale_Admit : An := ⟨lkA [(0, rng 3), (1, rng 6), (2, rng 4), (3, rng 2), (4, rng 3), (5, rng 1), (6, rng 5), (7, rng 3), (8, rng 5), (9, rng 3), (10, rng 5), (11, rng 3), (12, rng 7), (13, rng 7), (14, rng 3), (15, rng 2), (16, rng 4), (17, rng 3), (18, rng 1), (19, rng 5), (20, rng 7), (21, rng 8), (22, rng 5), (23, rng 2), (24, rng 14), (25, rng 3), (26, rng 3), (27, rng 9), (28, rng 5), (29, rng 5), (30, rng 2), (31, rng 6)], lkL [(5, [(7, .int .i64), (8, .bool), (27, .int .i64)]), (18, [(13, .val), (64, .int .i64)]), (24, [(16, .int .i64), (17, .int .i64)])], lkC [(27, [(16, .int .i64)])]⟩
def B_scale_Admit (p0_labels : Value) (p1_most : Int) (R : Res → H → Prop) (h : H) : Prop :=
  newP h (.cells ⟨[.int .i64 0, .int .i64 0]⟩ 37 (0, 0)) fun b1 h2 =>
  ifP (decide (p1_most < 1)) (stN h2 (bk b1) [.int .i64 1, .int .i64 0] 2 fun h3 =>
  ldN h3 (bk b1) 2 fun x4 =>
  R (.ret (.tuple ⟨[.slice none 0 0, .int .i64 0, .agg ⟨x4⟩]⟩)) h3) (ifP (decide (9007199254740992 < p1_most)) (stN h2 (bk b1) [.int .i64 1, .int .i64 0] 2 fun h5 =>
  ldN h5 (bk b1) 2 fun x6 =>
  R (.ret (.tuple ⟨[.slice none 0 0, .int .i64 0, .agg ⟨x6⟩]⟩)) h5)
  (slcP p0_labels fun a7 l8 c9 =>
  ∃ (I10 : (Int × Bool × Int × Unit) → H → Prop) (r11 : (Int × Bool × Int × Unit) × H → (Int × Bool × Int × Unit) × H → Prop), WellFounded r11 ∧ I10 (0, false, 0, ()) h2 ∧
  ∀ (least_13 : Int) (any_14 : Bool) (s15 : Int) (h12 : H), I10 (least_13, any_14, s15, ()) h12 →
  ifP (decide (s15 < ((l8 : Nat) : Int))) (ixS p0_labels s15 1 fun a16 =>
  ldV h12 a16 fun x17 =>
  T Tryz.prog F.math_IsNaN [x17] h12 (rt (fun v18 h19 =>
  ∃ r20, v18 = .bool r20 ∧
  ifP r20 (stN h19 (bk b1) [.int .i64 20, .int .i64 s15] 2 fun h21 =>
  ldN h21 (bk b1) 2 fun x22 =>
  R (.ret (.tuple ⟨[.slice none 0 0, .int .i64 0, .agg ⟨x22⟩]⟩)) h21)
  (T Tryz.prog F.math_IsInf [x17, .int .i64 0] h19 (rt (fun v23 h24 =>
  ∃ r25, v23 = .bool r25 ∧
  ifP r25 (stN h24 (bk b1) [.int .i64 21, .int .i64 s15] 2 fun h26 =>
  ldN h26 (bk b1) 2 fun x27 =>
  R (.ret (.tuple ⟨[.slice none 0 0, .int .i64 0, .agg ⟨x27⟩]⟩)) h26)
  (binP Tryz.prog .eql 31 (.tmp 43) (.const (.float .f64 0)) x17 (.float .f64 0) h24 fun r28 =>
  boolP r28 fun b29 =>
  ifP b29 (I10 (least_13, any_14, (IntKind.i64.wrap (s15 + 1)), ()) h24 ∧ r11 ((least_13, any_14, (IntKind.i64.wrap (s15 + 1)), ()), h24) ((least_13, any_14, s15, ()), h12))
  (T Tryz.prog F.scale_parts [x17] h24 (rt (fun v30 h31 =>
  ∃ r32 : Int, ∃ r33 : Int, v30 = .tuple ⟨[.int .i64 r32, .int .i64 r33]⟩ ∧
  ifP (!any_14) (I10 (r33, true, (IntKind.i64.wrap (s15 + 1)), ()) h31 ∧ r11 ((r33, true, (IntKind.i64.wrap (s15 + 1)), ()), h31) ((least_13, any_14, s15, ()), h12)) (ifP (decide (r33 < least_13)) (I10 (r33, true, (IntKind.i64.wrap (s15 + 1)), ()) h31 ∧ r11 ((r33, true, (IntKind.i64.wrap (s15 + 1)), ()), h31) ((least_13, any_14, s15, ()), h12))
  (I10 (least_13, any_14, (IntKind.i64.wrap (s15 + 1)), ()) h31 ∧ r11 ((least_13, any_14, (IntKind.i64.wrap (s15 + 1)), ()), h31) ((least_13, any_14, s15, ()), h12)))) (fun v34 h35 => R (.pan v34) h35))))) (fun v36 h37 => R (.pan v36) h37)))) (fun v38 h39 => R (.pan v38) h39)))
  (slcP p0_labels fun a40 l41 c42 =>
  mkS 0 ((l41 : Nat) : Int) 8 [.int .i64 0] 2 h12 fun b43 h44 =>
  slcP p0_labels fun a45 l46 c47 =>
  ∃ (I48 : (Value × Int × Unit) → H → Prop) (r49 : (Value × Int × Unit) × H → (Value × Int × Unit) × H → Prop), WellFounded r49 ∧ I48 ((.slice (some (bk b43)) ((0 : Int).toNat) (((l41 : Nat) : Int).toNat) : Value), 0, ()) h44 ∧
  ∀ (out_51 : Value) (s52 : Int) (h50 : H), I48 (out_51, s52, ()) h50 →
  ifP (decide (s52 < ((l46 : Nat) : Int))) (ixS p0_labels s52 1 fun a53 =>
  ldV h50 a53 fun x54 =>
  T Tryz.prog F.scale_parts [x54] h50 (rt (fun v55 h56 =>
  ∃ r57 : Int, ∃ r58 : Int, v55 = .tuple ⟨[.int .i64 r57, .int .i64 r58]⟩ ∧
  ifP (!decide (r57 = 0)) (ifP (decide (53 < (IntKind.i64.wrap (r58 - least_13)))) (stN h56 (bk b1) [.int .i64 22, .int .i64 s52] 2 fun h59 =>
  ldN h59 (bk b1) 2 fun x60 =>
  R (.ret (.tuple ⟨[.slice none 0 0, .int .i64 0, .agg ⟨x60⟩]⟩)) h59)
  (∃ J61 : (Int × Unit) → H → Prop, (ifP (!decide (r57 = 0)) (∃ (I64 : (Int × Int × Unit) → H → Prop) (r65 : (Int × Int × Unit) × H → (Int × Int × Unit) × H → Prop), WellFounded r65 ∧ I64 (r57, r58, ()) h56 ∧
  ∀ (m_67 : Int) (e_68 : Int) (h66 : H), I64 (m_67, e_68, ()) h66 →
  ifP (decide (least_13 < e_68)) (ifP (decide (m_67 ≤ p1_most)) (ifP (decide ((IntKind.i64.wrap (0 - m_67)) ≤ p1_most)) (I64 ((IntKind.i64.wrap (m_67 * 2)), (IntKind.i64.wrap (e_68 - 1)), ()) h66 ∧ r65 (((IntKind.i64.wrap (m_67 * 2)), (IntKind.i64.wrap (e_68 - 1)), ()), h66) ((m_67, e_68, ()), h66))
  (J61 (m_67, ()) h66)) (J61 (m_67, ()) h66)) (J61 (m_67, ()) h66))
  (J61 (r57, ()) h56)) ∧
  (∀ (m_63 : Int) (h62 : H), J61 (m_63, ()) h62 →
  ifP (decide (p1_most < m_63)) (stN h62 (bk b1) [.int .i64 22, .int .i64 s52] 2 fun h69 =>
  ldN h69 (bk b1) 2 fun x70 =>
  R (.ret (.tuple ⟨[.slice none 0 0, .int .i64 0, .agg ⟨x70⟩]⟩)) h69) (ifP (decide (p1_most < (IntKind.i64.wrap (0 - m_63)))) (stN h62 (bk b1) [.int .i64 22, .int .i64 s52] 2 fun h71 =>
  ldN h71 (bk b1) 2 fun x72 =>
  R (.ret (.tuple ⟨[.slice none 0 0, .int .i64 0, .agg ⟨x72⟩]⟩)) h71)
  (newP h62 (.cells ⟨[.int .i64 m_63]⟩ 2 (0, 0)) fun b73 h74 =>
  apP out_51 (.slice (some (bk b73)) 1 1) h74 1 2 8 [.int .i64 0] fun s75 h76 =>
  I48 (s75, (IntKind.i64.wrap (s52 + 1)), ()) h76 ∧ r49 ((s75, (IntKind.i64.wrap (s52 + 1)), ()), h76) ((out_51, s52, ()), h50)))))) (∃ J77 : (Int × Unit) → H → Prop, (ifP (!decide (r57 = 0)) (∃ (I80 : (Int × Int × Unit) → H → Prop) (r81 : (Int × Int × Unit) × H → (Int × Int × Unit) × H → Prop), WellFounded r81 ∧ I80 (r57, r58, ()) h56 ∧
  ∀ (m_83 : Int) (e_84 : Int) (h82 : H), I80 (m_83, e_84, ()) h82 →
  ifP (decide (least_13 < e_84)) (ifP (decide (m_83 ≤ p1_most)) (ifP (decide ((IntKind.i64.wrap (0 - m_83)) ≤ p1_most)) (I80 ((IntKind.i64.wrap (m_83 * 2)), (IntKind.i64.wrap (e_84 - 1)), ()) h82 ∧ r81 (((IntKind.i64.wrap (m_83 * 2)), (IntKind.i64.wrap (e_84 - 1)), ()), h82) ((m_83, e_84, ()), h82))
  (J77 (m_83, ()) h82)) (J77 (m_83, ()) h82)) (J77 (m_83, ()) h82))
  (J77 (r57, ()) h56)) ∧
  (∀ (m_79 : Int) (h78 : H), J77 (m_79, ()) h78 →
  ifP (decide (p1_most < m_79)) (stN h78 (bk b1) [.int .i64 22, .int .i64 s52] 2 fun h85 =>
  ldN h85 (bk b1) 2 fun x86 =>
  R (.ret (.tuple ⟨[.slice none 0 0, .int .i64 0, .agg ⟨x86⟩]⟩)) h85) (ifP (decide (p1_most < (IntKind.i64.wrap (0 - m_79)))) (stN h78 (bk b1) [.int .i64 22, .int .i64 s52] 2 fun h87 =>
  ldN h87 (bk b1) 2 fun x88 =>
  R (.ret (.tuple ⟨[.slice none 0 0, .int .i64 0, .agg ⟨x88⟩]⟩)) h87)
  (newP h78 (.cells ⟨[.int .i64 m_79]⟩ 2 (0, 0)) fun b89 h90 =>
  apP out_51 (.slice (some (bk b89)) 1 1) h90 1 2 8 [.int .i64 0] fun s91 h92 =>
  I48 (s91, (IntKind.i64.wrap (s52 + 1)), ()) h92 ∧ r49 ((s91, (IntKind.i64.wrap (s52 + 1)), ()), h92) ((out_51, s52, ()), h50)))))) (fun v93 h94 => R (.pan v93) h94)))
  (stN h50 (bk b1) [.int .i64 0, .int .i64 0] 2 fun h95 =>
  ldN h95 (bk b1) 2 fun x96 =>
  R (.ret (.tuple ⟨[out_51, .int .i64 least_13, .agg ⟨x96⟩]⟩)) h95))))
theorem E_scale_Admit {p0_labels : Value} {p1_most : Int} {R : Res → H → Prop} {h : H} (H0 : B_scale_Admit p0_labels p1_most R h) : T Tryz.prog F.scale_Admit [p0_labels, .int .i64 p1_most] h R :=
  T_intro A_scale_Admit Tryz.func7 (c := bodyOf Tryz.f7) (by kernel_rfl) (by kernel_rfl) (by kernel_rfl) (cast_of (by kernel_rfl) H0)

def A_compassref03_Copy : An := ⟨lkA [(0, rng 2), (1, rng 5), (2, rng 1), (3, rng 5), (4, rng 3), (5, ⟨[0, 2, 4, 1, 3, 5, 6, 7, 8, 9, 10], lkN []⟩), (6, rng 2)], lkL [(3, [(4, .int .i64)])], lkC []⟩
def B_compassref03_Copy (p0_g : List Value) (R : Res → H → Prop) (h : H) : Prop :=
  newP h (.cells ⟨p0_g⟩ 24 (0, 0)) fun b1 h2 =>
  newP h2 (.cells ⟨[.int .i64 0, .slice none 0 0]⟩ 24 (0, 0)) fun b3 h4 =>
  ldI h4 ((bk b1).add 0) .i64 fun x5 =>
  newP h4 (.cells ⟨[.int .i64 0, .slice none 0 0]⟩ 24 (0, 0)) fun b6 h7 =>
  stN h7 (bk b6) [.int .i64 x5, .slice none 0 0] 2 fun h8 =>
  ∃ (I9 : (Int × Unit) → H → Prop) (r10 : (Int × Unit) × H → (Int × Unit) × H → Prop), WellFounded r10 ∧ I9 (0, ()) h8 ∧
  ∀ (i_12 : Int) (h11 : H), I9 (i_12, ()) h11 →
  ldV h11 ((bk b1).add 1) fun x13 =>
  slcP x13 fun a14 l15 c16 =>
  ifP (decide (i_12 < ((l15 : Nat) : Int))) (ldV h11 ((bk b6).add 1) fun x17 =>
  ldV h11 ((bk b1).add 1) fun x18 =>
  ixS x18 i_12 4 fun a19 =>
  ldN h11 a19 4 fun x20 =>
  (x20).length = 4 ∧
  newP h11 (.cells ⟨(x20 ++ [])⟩ 43 (0, 0)) fun b21 h22 =>
  apP x17 (.slice (some (bk b21)) 1 1) h22 4 43 32 [.int .i64 0, .int .i64 0, .int .i64 0, .int .i64 0] fun s23 h24 =>
  oneP s23 (stC h24 ((bk b6).add 1) s23 fun h25 =>
  I9 ((IntKind.i64.wrap (i_12 + 1)), ()) h25 ∧ r10 (((IntKind.i64.wrap (i_12 + 1)), ()), h25) ((i_12, ()), h11)))
  (ldN h11 (bk b6) 2 fun x26 =>
  stN h11 (bk b3) x26 2 fun h27 =>
  ldN h27 (bk b3) 2 fun x28 =>
  R (.ret (.agg ⟨x28⟩)) h27)
theorem E_compassref03_Copy {p0_g : List Value} {R : Res → H → Prop} {h : H} (H0 : B_compassref03_Copy p0_g R h) : T Tryz.prog F.compassref03_Copy [.agg ⟨p0_g⟩] h R :=
  T_intro A_compassref03_Copy Tryz.func8 (c := bodyOf Tryz.f8) (by kernel_rfl) (by kernel_rfl) (by kernel_rfl) (cast_of (by kernel_rfl) H0)

def A_scale_Back : An := ⟨lkA [(0, rng 1), (1, rng 9)], lkL [], lkC []⟩
def B_scale_Back (p0_n : Int) (p1_e : Int) (R : Res → H → Prop) (h : H) : Prop :=
  T Tryz.prog F.scale_size [.int .i64 p0_n] h (rt (fun v1 h2 =>
  ∃ r3, v1 = .int .u64 r3 ∧
  T Tryz.prog F.scale_rounded [.bool (decide (p0_n < 0)), .int .u64 r3, .int .i64 (if 1400 < (if p1_e < (-1400) then (-1400) else p1_e) then 1400 else (if p1_e < (-1400) then (-1400) else p1_e)), .bool false] h2 (rt (fun v4 h5 =>
  R (.ret v4) h5) (fun v6 h7 => R (.pan v6) h7))) (fun v8 h9 => R (.pan v8) h9))
theorem E_scale_Back {p0_n : Int} {p1_e : Int} {R : Res → H → Prop} {h : H} (H0 : B_scale_Back p0_n p1_e R h) : T Tryz.prog F.scale_Back [.int .i64 p0_n, .int .i64 p1_e] h R :=
  T_intro A_scale_Back Tryz.func9 (c := bodyOf Tryz.f9) (by kernel_rfl) (by kernel_rfl) (by kernel_rfl) (cast_of (by kernel_rfl) H0)

def A_maxflow_Solve : An := ⟨lkA [(0, rng 4), (1, rng 4), (2, rng 3), (3, ⟨[0, 1, 2, 3, 4, 5], lkN [(3, [2])]⟩), (4, rng 18), (5, rng 4), (6, rng 3), (7, rng 4), (8, rng 5), (9, rng 1), (10, rng 1), (11, rng 4), (12, rng 2), (13, rng 5), (14, rng 2), (15, rng 5), (16, rng 2), (17, rng 5), (18, rng 2), (19, ⟨[0, 1, 2, 6, 3, 4, 7, 5, 8, 9, 10, 11], lkN []⟩), (20, rng 4), (21, rng 1), (22, rng 2), (23, ⟨[0, 2, 3, 4, 5, 7, 8, 9, 1, 6, 10, 11, 12, 13], lkN []⟩), (24, rng 2), (25, rng 1), (26, rng 5), (27, rng 1), (28, rng 5), (29, rng 7), (30, rng 2), (31, rng 4), (32, rng 1), (33, rng 6), (34, rng 15), (35, rng 8), (36, rng 2), (37, rng 5)], lkL [(21, [(91, .int .i64)]), (27, [(112, .int .i64)]), (32, [(16, .int .i64), (127, .int .i64)])], lkC [(6, []), (18, [(13, .val)])]⟩
def B_maxflow_Solve (p0_g : List Value) (p1_s : Int) (p2_t : Int) (p3_kind : Int) (R : Res → H → Prop) (h : H) : Prop :=
  newP h (.cells ⟨p0_g⟩ 24 (0, 0)) fun b1 h2 =>
  newP h2 (.cells ⟨[.int .i64 0, .int .i64 0, .slice none 0 0, .slice none 0 0]⟩ 51 (0, 0)) fun b3 h4 =>
  ldN h4 (bk b1) 2 fun x5 =>
  T Tryz.prog F.graph_Check [.agg ⟨x5⟩] h4 (rt (fun v6 h7 =>
  ∃ r8 : List Value, r8.length = 2 ∧ v6 = .agg ⟨r8⟩ ∧
  newP h7 (.cells ⟨[.int .i64 0, .int .i64 0]⟩ 37 (0, 0)) fun b9 h10 =>
  stN h10 (bk b9) r8 2 fun h11 =>
  ldI h11 ((bk b9).add 0) .i64 fun x12 =>
  ifP (!decide (x12 = 0)) (ldI h11 ((bk b9).add 0) .i64 fun x13 =>
  stN h11 (bk b3) [.int .i64 0, .int .i64 0, .slice none 0 0, .slice none 0 0] 4 fun h14 =>
  (sameAt 2 ((bk b9).add 0) h11 h14) ∧
  ldN h14 (bk b3) 4 fun x15 =>
  R (.ret (.tuple ⟨[.agg ⟨x15⟩, .int .i64 0, .int .i64 x13]⟩)) h14)
  (∃ J16 : (Unit) → H → Prop, (ifP (decide (p1_s < 0)) (stN h11 (bk b3) [.int .i64 0, .int .i64 0, .slice none 0 0, .slice none 0 0] 4 fun h18 =>
  ldN h18 (bk b3) 4 fun x19 =>
  R (.ret (.tuple ⟨[.agg ⟨x19⟩, .int .i64 0, .int .i64 30]⟩)) h18) (ldI h11 ((bk b1).add 0) .i64 fun x20 =>
  ifP (decide (x20 ≤ p1_s)) (stN h11 (bk b3) [.int .i64 0, .int .i64 0, .slice none 0 0, .slice none 0 0] 4 fun h21 =>
  ldN h21 (bk b3) 4 fun x22 =>
  R (.ret (.tuple ⟨[.agg ⟨x22⟩, .int .i64 0, .int .i64 30]⟩)) h21) (ifP (decide (p2_t < 0)) (stN h11 (bk b3) [.int .i64 0, .int .i64 0, .slice none 0 0, .slice none 0 0] 4 fun h23 =>
  ldN h23 (bk b3) 4 fun x24 =>
  R (.ret (.tuple ⟨[.agg ⟨x24⟩, .int .i64 0, .int .i64 30]⟩)) h23) (ldI h11 ((bk b1).add 0) .i64 fun x25 =>
  ifP (decide (x25 ≤ p2_t)) (stN h11 (bk b3) [.int .i64 0, .int .i64 0, .slice none 0 0, .slice none 0 0] 4 fun h26 =>
  ldN h26 (bk b3) 4 fun x27 =>
  R (.ret (.tuple ⟨[.agg ⟨x27⟩, .int .i64 0, .int .i64 30]⟩)) h26)
  (J16 (()) h11))))) ∧
  (∀  (h17 : H), J16 (()) h17 →
  ifP (decide (p1_s = p2_t)) (stN h17 (bk b3) [.int .i64 0, .int .i64 0, .slice none 0 0, .slice none 0 0] 4 fun h28 =>
  ldN h28 (bk b3) 4 fun x29 =>
  R (.ret (.tuple ⟨[.agg ⟨x29⟩, .int .i64 0, .int .i64 120]⟩)) h28)
  (ldN h17 (bk b1) 2 fun x30 =>
  T Tryz.prog F.maxflow_newNet [.agg ⟨x30⟩, .int .i64 p1_s, .int .i64 p2_t] h17 (rt (fun v31 h32 =>
  ∃ J33 : (Value × Unit) → H → Prop, (ifP (decide (p3_kind = 1)) (oneP v31 (newP h32 (.cells ⟨[v31, .slice none 0 0, .slice none 0 0]⟩ 85 (0, 0)) fun b36 h37 =>
  J33 ((.iface 83 (.pointer (some (bk b36))) : Value), ()) h37))
  (ifP (decide (p3_kind = 2)) (oneP v31 (newP h32 (.cells ⟨[v31, .pointer none, .slice none 0 0, .slice none 0 0, .slice none 0 0]⟩ 89 (0, 0)) fun b38 h39 =>
  J33 ((.iface 86 (.pointer (some (bk b38))) : Value), ()) h39))
  (ifP (decide (p3_kind = 3)) (oneP v31 (newP h32 (.cells ⟨[v31, .slice none 0 0, .slice none 0 0, .slice none 0 0, .slice none 0 0, .slice none 0 0]⟩ 92 (0, 0)) fun b40 h41 =>
  J33 ((.iface 90 (.pointer (some (bk b40))) : Value), ()) h41))
  (stN h32 (bk b3) [.int .i64 0, .int .i64 0, .slice none 0 0, .slice none 0 0] 4 fun h42 =>
  ldN h42 (bk b3) 4 fun x43 =>
  R (.ret (.tuple ⟨[.agg ⟨x43⟩, .int .i64 0, .int .i64 50]⟩)) h42)))) ∧
  (∀ (w_35 : Value) (h34 : H), J33 (w_35, ()) h34 →
  methP Tryz.prog h34 w_35 "compass/maxflow.fill" fun f44 rv45 =>
  T Tryz.prog f44 (rv45 :: []) h34 (rt (fun v46 h47 =>
  v46 = .tuple ⟨[]⟩ ∧
  ldV h47 ((bk b1).add 1) fun x48 =>
  slcP x48 fun a49 l50 c51 =>
  ldI h47 ((bk b1).add 0) .i64 fun x52 =>
  mkS ((l50 : Nat) : Int) ((l50 : Nat) : Int) 8 [.int .i64 0] 2 h47 fun b53 h54 =>
  mkS x52 x52 1 [.bool false] 4 h54 fun b55 h56 =>
  newP h56 (.cells ⟨[.int .i64 0, .int .i64 0, .slice none 0 0, .slice none 0 0]⟩ 51 (0, 0)) fun b57 h58 =>
  stN h58 (bk b57) [.int .i64 p1_s, .int .i64 p2_t, .slice (some (bk b53)) (((l50 : Nat) : Int).toNat) (((l50 : Nat) : Int).toNat), .slice (some (bk b55)) x52.toNat x52.toNat] 4 fun h59 =>
  ldV h59 ((bk b1).add 1) fun x60 =>
  slcP x60 fun a61 l62 c63 =>
  ∃ (I64 : (Int × Unit) → H → Prop) (r65 : (Int × Unit) × H → (Int × Unit) × H → Prop), WellFounded r65 ∧ I64 (0, ()) h59 ∧
  ∀ (s67 : Int) (h66 : H), I64 (s67, ()) h66 →
  ifP (decide (s67 < ((l62 : Nat) : Int))) (ptrP v31 fun a68 =>
  ldV h66 ((bk b57).add 2) fun x69 =>
  ldV h66 (a68.add 1) fun x70 =>
  ixS x70 (IntKind.i64.wrap ((IntKind.i64.wrap (2 * s67)) + 1)) 1 fun a71 =>
  ldI h66 a71 .i64 fun x72 =>
  ixS x69 s67 1 fun a73 =>
  stC h66 a73 (.int .i64 x72) fun h74 =>
  I64 ((IntKind.i64.wrap (s67 + 1)), ()) h74 ∧ r65 (((IntKind.i64.wrap (s67 + 1)), ()), h74) ((s67, ()), h66))
  (T Tryz.prog F.maxflow_net_levels [v31, .int .i64 p1_s] h66 (rt (fun v75 h76 =>
  slcP v75 fun a77 l78 c79 =>
  ∃ (I80 : (Int × Unit) → H → Prop) (r81 : (Int × Unit) × H → (Int × Unit) × H → Prop), WellFounded r81 ∧ I80 (0, ()) h76 ∧
  ∀ (s83 : Int) (h82 : H), I80 (s83, ()) h82 →
  ifP (decide (s83 < ((l78 : Nat) : Int))) (ixS v75 s83 1 fun a84 =>
  ldI h82 a84 .i64 fun x85 =>
  ldV h82 ((bk b57).add 3) fun x86 =>
  ixS x86 s83 1 fun a87 =>
  stC h82 a87 (.bool (decide (0 ≤ x85))) fun h88 =>
  I80 ((IntKind.i64.wrap (s83 + 1)), ()) h88 ∧ r81 (((IntKind.i64.wrap (s83 + 1)), ()), h88) ((s83, ()), h82))
  (ldV h82 ((bk b1).add 1) fun x89 =>
  slcP x89 fun a90 l91 c92 =>
  ∃ (I93 : (Int × Int × Unit) → H → Prop) (r94 : (Int × Int × Unit) × H → (Int × Int × Unit) × H → Prop), WellFounded r94 ∧ I93 (0, 0, ()) h82 ∧
  ∀ (value_96 : Int) (s97 : Int) (h95 : H), I93 (value_96, s97, ()) h95 →
  ifP (decide (s97 < ((l91 : Nat) : Int))) (ixS x89 s97 4 fun a98 =>
  ldN h95 a98 4 fun x99 =>
  newP h95 (.cells ⟨[.int .i64 0, .int .i64 0, .int .i64 0, .int .i64 0]⟩ 43 (0, 0)) fun b100 h101 =>
  stN h101 (bk b100) x99 4 fun h102 =>
  ldV h102 ((bk b57).add 3) fun x103 =>
  ldI h102 ((bk b100).add 0) .i64 fun x104 =>
  ixS x103 x104 1 fun a105 =>
  ldB h102 a105 fun x106 =>
  ifP x106 (ldV h102 ((bk b57).add 3) fun x107 =>
  ldI h102 ((bk b100).add 1) .i64 fun x108 =>
  ixS x107 x108 1 fun a109 =>
  ldB h102 a109 fun x110 =>
  ifP (!x110) (ldV h102 ((bk b57).add 2) fun x111 =>
  ixS x111 s97 1 fun a112 =>
  ldI h102 a112 .i64 fun x113 =>
  I93 ((IntKind.i64.wrap (value_96 + x113)), (IntKind.i64.wrap (s97 + 1)), ()) h102 ∧ r94 (((IntKind.i64.wrap (value_96 + x113)), (IntKind.i64.wrap (s97 + 1)), ()), h102) ((value_96, s97, ()), h95))
  (I93 (value_96, (IntKind.i64.wrap (s97 + 1)), ()) h102 ∧ r94 ((value_96, (IntKind.i64.wrap (s97 + 1)), ()), h102) ((value_96, s97, ()), h95))) (I93 (value_96, (IntKind.i64.wrap (s97 + 1)), ()) h102 ∧ r94 ((value_96, (IntKind.i64.wrap (s97 + 1)), ()), h102) ((value_96, s97, ()), h95)))
  (ldN h95 (bk b57) 4 fun x114 =>
  stN h95 (bk b3) x114 4 fun h115 =>
  ldN h115 (bk b3) 4 fun x116 =>
  R (.ret (.tuple ⟨[.agg ⟨x116⟩, .int .i64 value_96, .int .i64 0]⟩)) h115))) (fun v117 h118 => R (.pan v117) h118)))) (fun v119 h120 => R (.pan v119) h120)))) (fun v121 h122 => R (.pan v121) h122)))))) (fun v123 h124 => R (.pan v123) h124))
theorem E_maxflow_Solve {p0_g : List Value} {p1_s : Int} {p2_t : Int} {p3_kind : Int} {R : Res → H → Prop} {h : H} (H0 : B_maxflow_Solve p0_g p1_s p2_t p3_kind R h) : T Tryz.prog F.maxflow_Solve [.agg ⟨p0_g⟩, .int .i64 p1_s, .int .i64 p2_t, .int .i64 p3_kind] h R :=
  T_intro A_maxflow_Solve Tryz.func11 (c := bodyOf Tryz.f11) (by kernel_rfl) (by kernel_rfl) (by kernel_rfl) (cast_of (by kernel_rfl) H0)

def A_math_ldexp : An := ⟨lkA [(0, rng 1), (1, rng 3), (2, rng 2), (3, rng 7), (4, rng 2), (5, rng 7), (6, rng 4), (7, rng 3), (8, rng 8), (9, rng 2), (10, rng 3), (11, rng 2), (12, rng 2), (13, rng 2), (14, rng 2), (15, rng 1), (16, rng 2), (17, rng 3), (18, rng 1), (19, rng 3), (20, rng 7), (21, rng 5)], lkL [], lkC [(19, [(1, .int .i64), (7, .val)])]⟩
def B_math_ldexp (p0_frac : Value) (p1_exp : Int) (R : Res → H → Prop) (h : H) : Prop :=
  binP Tryz.prog .eql 31 (.tmp 9) (.const (.float .f64 0)) p0_frac (.float .f64 0) h fun r1 =>
  boolP r1 fun b2 =>
  ifP b2 (R (.ret p0_frac) h)
  (T Tryz.prog F.math_IsInf [p0_frac, .int .i64 0] h (rt (fun v3 h4 =>
  ∃ r5, v3 = .bool r5 ∧
  ifP r5 (R (.ret p0_frac) h4) (T Tryz.prog F.math_IsNaN [p0_frac] h4 (rt (fun v6 h7 =>
  ∃ r8, v6 = .bool r8 ∧
  ifP r8 (R (.ret p0_frac) h7)
  (T Tryz.prog F.math_normalize [p0_frac] h7 (rt (fun v9 h10 =>
  ∃ r11 : Value, ∃ r12 : Int, v9 = .tuple ⟨[r11, .int .i64 r12]⟩ ∧
  extP Tryz.prog F.math_Float64bits [r11] h10 (rt (fun v13 h14 =>
  ∃ r15, v13 = .int .u64 r15 ∧
  (0 : Int) ≤ 52 ∧
  ifP (decide ((IntKind.i64.wrap ((IntKind.i64.wrap (p1_exp + r12)) + (IntKind.i64.wrap ((bitsI .and .i64 (IntKind.i64.wrap (r15.fdiv (2 ^ (min (52 : Int).toNat 64)))) 2047) - 1023)))) < (-1075))) (T Tryz.prog F.math_Copysign [(.float .f64 0), r11] h14 (rt (fun v16 h17 =>
  R (.ret v16) h17) (fun v18 h19 => R (.pan v18) h19)))
  (ifP (decide (1023 < (IntKind.i64.wrap ((IntKind.i64.wrap (p1_exp + r12)) + (IntKind.i64.wrap ((bitsI .and .i64 (IntKind.i64.wrap (r15.fdiv (2 ^ (min (52 : Int).toNat 64)))) 2047) - 1023)))))) (binP Tryz.prog .lss 31 (.tmp 43) (.const (.float .f64 0)) r11 (.float .f64 0) h14 fun r20 =>
  boolP r20 fun b21 =>
  ifP b21 (T Tryz.prog F.math_Inf [.int .i64 (-1)] h14 (rt (fun v22 h23 =>
  R (.ret v22) h23) (fun v24 h25 => R (.pan v24) h25)))
  (T Tryz.prog F.math_Inf [.int .i64 1] h14 (rt (fun v26 h27 =>
  R (.ret v26) h27) (fun v28 h29 => R (.pan v28) h29))))
  (∃ J30 : (Int × Value × Unit) → H → Prop, (ifP (decide ((IntKind.i64.wrap ((IntKind.i64.wrap (p1_exp + r12)) + (IntKind.i64.wrap ((bitsI .and .i64 (IntKind.i64.wrap (r15.fdiv (2 ^ (min (52 : Int).toNat 64)))) 2047) - 1023)))) < (-1022))) (J30 ((IntKind.i64.wrap ((IntKind.i64.wrap ((IntKind.i64.wrap (p1_exp + r12)) + (IntKind.i64.wrap ((bitsI .and .i64 (IntKind.i64.wrap (r15.fdiv (2 ^ (min (52 : Int).toNat 64)))) 2047) - 1023)))) + 53)), (.float .f64 4368491638549381120), ()) h14)
  (J30 ((IntKind.i64.wrap ((IntKind.i64.wrap (p1_exp + r12)) + (IntKind.i64.wrap ((bitsI .and .i64 (IntKind.i64.wrap (r15.fdiv (2 ^ (min (52 : Int).toNat 64)))) 2047) - 1023)))), (.float .f64 4607182418800017408), ()) h14)) ∧
  (∀ (exp_32 : Int) (m_33 : Value) (h31 : H), J30 (exp_32, m_33, ()) h31 →
  (0 : Int) ≤ 52 ∧
  extP Tryz.prog F.math_Float64frombits [.int .u64 (bitsI .or .u64 (bitsI .andNot .u64 r15 9218868437227405312) (IntKind.u64.wrap ((IntKind.u64.wrap (IntKind.i64.wrap (exp_32 + 1023))) * 2 ^ (min (52 : Int).toNat 64))))] h31 (rt (fun v34 h35 =>
  binP Tryz.prog .mul 31 (.tmp 59) (.tmp 61) m_33 v34 h35 fun r36 =>
  R (.ret r36) h35) (fun v37 h38 => R (.pan v37) h38)))))) (fun v39 h40 => R (.pan v39) h40))) (fun v41 h42 => R (.pan v41) h42)))) (fun v43 h44 => R (.pan v43) h44)))) (fun v45 h46 => R (.pan v45) h46)))
theorem E_math_ldexp {p0_frac : Value} {p1_exp : Int} {R : Res → H → Prop} {h : H} (H0 : B_math_ldexp p0_frac p1_exp R h) : T Tryz.prog F.math_ldexp [p0_frac, .int .i64 p1_exp] h R :=
  T_intro A_math_ldexp Tryz.func13 (c := bodyOf Tryz.f13) (by kernel_rfl) (by kernel_rfl) (by kernel_rfl) (cast_of (by kernel_rfl) H0)

def A_math_IsNaN : An := ⟨lkA [(0, rng 1), (1, rng 4)], lkL [], lkC []⟩
def B_math_IsNaN (p0_f : Value) (R : Res → H → Prop) (h : H) : Prop :=
  binP Tryz.prog .neq 31 (.tmp 3) (.tmp 4) p0_f p0_f h fun r1 =>
  R (.ret r1) h
theorem E_math_IsNaN {p0_f : Value} {R : Res → H → Prop} {h : H} (H0 : B_math_IsNaN p0_f R h) : T Tryz.prog F.math_IsNaN [p0_f] h R :=
  T_intro A_math_IsNaN Tryz.func14 (c := bodyOf Tryz.f14) (by kernel_rfl) (by kernel_rfl) (by kernel_rfl) (cast_of (by kernel_rfl) H0)

def A_math_IsInf : An := ⟨lkA [(0, rng 1), (1, rng 2), (2, rng 3), (3, rng 2), (4, rng 3), (5, rng 3)], lkL [], lkC []⟩
def B_math_IsInf (p0_f : Value) (p1_sign : Int) (R : Res → H → Prop) (h : H) : Prop :=
  ifP (decide (p1_sign = 0)) (T Tryz.prog F.math_Abs [p0_f] h (rt (fun v1 h2 =>
  binP Tryz.prog .gtr 31 (.tmp 13) (.const (.float .f64 9218868437227405311)) v1 (.float .f64 9218868437227405311) h2 fun r3 =>
  R (.ret r3) h2) (fun v4 h5 => R (.pan v4) h5)))
  (ifP (decide (p1_sign < 0)) (unP Tryz.prog .neg p0_f h fun r6 =>
  binP Tryz.prog .gtr 31 (.tmp 13) (.const (.float .f64 9218868437227405311)) r6 (.float .f64 9218868437227405311) h fun r7 =>
  R (.ret r7) h)
  (binP Tryz.prog .gtr 31 (.tmp 13) (.const (.float .f64 9218868437227405311)) p0_f (.float .f64 9218868437227405311) h fun r8 =>
  R (.ret r8) h))
theorem E_math_IsInf {p0_f : Value} {p1_sign : Int} {R : Res → H → Prop} {h : H} (H0 : B_math_IsInf p0_f p1_sign R h) : T Tryz.prog F.math_IsInf [p0_f, .int .i64 p1_sign] h R :=
  T_intro A_math_IsInf Tryz.func15 (c := bodyOf Tryz.f15) (by kernel_rfl) (by kernel_rfl) (by kernel_rfl) (cast_of (by kernel_rfl) H0)

def A_scale_parts : An := ⟨lkA [(0, rng 2), (1, rng 2), (2, rng 2), (3, rng 7), (4, rng 4), (5, rng 4), (6, rng 9)], lkL [], lkC []⟩
def B_scale_parts (p0_f : Value) (R : Res → H → Prop) (h : H) : Prop :=
  binP Tryz.prog .eql 31 (.tmp 8) (.const (.float .f64 0)) p0_f (.float .f64 0) h fun r1 =>
  boolP r1 fun b2 =>
  ifP b2 (R (.ret (.tuple ⟨[.int .i64 0, .int .i64 0]⟩)) h)
  (T Tryz.prog F.math_Frexp [p0_f] h (rt (fun v3 h4 =>
  ∃ r5 : Value, ∃ r6 : Int, v3 = .tuple ⟨[r5, .int .i64 r6]⟩ ∧
  binP Tryz.prog .mul 31 (.tmp 15) (.const (.float .f64 4845873199050653696)) r5 (.float .f64 4845873199050653696) h4 fun r7 =>
  convP Tryz.prog 31 2 r7 h4 fun r8 =>
  intP r8 fun i9 =>
  T Tryz.prog F.bits_TrailingZeros64 [.int .u64 (IntKind.u64.wrap i9)] h4 (rt (fun v10 h11 =>
  ∃ r12, v10 = .int .i64 r12 ∧
  binP Tryz.prog .shr 2 (.tmp 21) (.tmp 22) r8 (.int .i64 r12) h11 fun r13 =>
  R (.ret (.tuple ⟨[r13, .int .i64 (IntKind.i64.wrap ((IntKind.i64.wrap (r6 - 53)) + r12))]⟩)) h11) (fun v14 h15 => R (.pan v14) h15))) (fun v16 h17 => R (.pan v16) h17)))
theorem E_scale_parts {p0_f : Value} {R : Res → H → Prop} {h : H} (H0 : B_scale_parts p0_f R h) : T Tryz.prog F.scale_parts [p0_f] h R :=
  T_intro A_scale_parts Tryz.func16 (c := bodyOf Tryz.f16) (by kernel_rfl) (by kernel_rfl) (by kernel_rfl) (cast_of (by kernel_rfl) H0)

def A_scale_rounded : An := ⟨lkA [(0, rng 1), (1, rng 2), (2, rng 1), (3, rng 4), (4, rng 5), (5, rng 2), (6, rng 2), (7, rng 2), (8, rng 5), (9, rng 2), (10, rng 4), (11, rng 18), (12, rng 3), (13, rng 6), (14, rng 5), (15, rng 1), (16, rng 3), (17, rng 2)], lkL [], lkC [(9, [(10, .int .u64)]), (11, [(11, .int .u64)]), (14, [(1, .int .u64), (2, .int .i64)])]⟩
def B_scale_rounded (p0_minus : Bool) (p1_mag : Int) (p2_e : Int) (p3_more : Bool) (R : Res → H → Prop) (h : H) : Prop :=
  ifP (decide (p1_mag = 0)) (R (.ret (.float .f64 0)) h)
  (T Tryz.prog F.bits_Len64 [.int .u64 p1_mag] h (rt (fun v1 h2 =>
  ∃ r3, v1 = .int .i64 r3 ∧
  ∃ J4 : (Int × Int × Unit) → H → Prop, (ifP (decide (0 < (if (IntKind.i64.wrap (r3 - 53)) < (IntKind.i64.wrap ((-1074) - p2_e)) then (IntKind.i64.wrap ((-1074) - p2_e)) else (IntKind.i64.wrap (r3 - 53))))) (∃ J8 : (Int × Unit) → H → Prop, (ifP (decide ((if (IntKind.i64.wrap (r3 - 53)) < (IntKind.i64.wrap ((-1074) - p2_e)) then (IntKind.i64.wrap ((-1074) - p2_e)) else (IntKind.i64.wrap (r3 - 53))) ≤ 64)) ((0 : Int) ≤ (IntKind.i64.wrap (64 - (if (IntKind.i64.wrap (r3 - 53)) < (IntKind.i64.wrap ((-1074) - p2_e)) then (IntKind.i64.wrap ((-1074) - p2_e)) else (IntKind.i64.wrap (r3 - 53))))) ∧
  J8 ((IntKind.u64.wrap (p1_mag * 2 ^ (min ((IntKind.i64.wrap (64 - (if (IntKind.i64.wrap (r3 - 53)) < (IntKind.i64.wrap ((-1074) - p2_e)) then (IntKind.i64.wrap ((-1074) - p2_e)) else (IntKind.i64.wrap (r3 - 53))))) : Int).toNat 64))), ()) h2)
  (J8 (0, ()) h2)) ∧
  (∀ (rest_10 : Int) (h9 : H), J8 (rest_10, ()) h9 →
  ∃ J11 : (Int × Unit) → H → Prop, (ifP (decide ((if (IntKind.i64.wrap (r3 - 53)) < (IntKind.i64.wrap ((-1074) - p2_e)) then (IntKind.i64.wrap ((-1074) - p2_e)) else (IntKind.i64.wrap (r3 - 53))) < 64)) ((0 : Int) ≤ (if (IntKind.i64.wrap (r3 - 53)) < (IntKind.i64.wrap ((-1074) - p2_e)) then (IntKind.i64.wrap ((-1074) - p2_e)) else (IntKind.i64.wrap (r3 - 53))) ∧
  J11 ((p1_mag.fdiv (2 ^ (min ((if (IntKind.i64.wrap (r3 - 53)) < (IntKind.i64.wrap ((-1074) - p2_e)) then (IntKind.i64.wrap ((-1074) - p2_e)) else (IntKind.i64.wrap (r3 - 53))) : Int).toNat 64))), ()) h9)
  (J11 (0, ()) h9)) ∧
  (∀ (q_13 : Int) (h12 : H), J11 (q_13, ()) h12 →
  ifP (decide ((if (IntKind.i64.wrap (r3 - 53)) < (IntKind.i64.wrap ((-1074) - p2_e)) then (IntKind.i64.wrap ((-1074) - p2_e)) else (IntKind.i64.wrap (r3 - 53))) ≤ 64)) (ifP (decide (9223372036854775808 < rest_10)) (J4 ((IntKind.u64.wrap (q_13 + 1)), (IntKind.i64.wrap (p2_e + (if (IntKind.i64.wrap (r3 - 53)) < (IntKind.i64.wrap ((-1074) - p2_e)) then (IntKind.i64.wrap ((-1074) - p2_e)) else (IntKind.i64.wrap (r3 - 53))))), ()) h12) (ifP (decide (rest_10 = 9223372036854775808)) (ifP p3_more (J4 ((IntKind.u64.wrap (q_13 + 1)), (IntKind.i64.wrap (p2_e + (if (IntKind.i64.wrap (r3 - 53)) < (IntKind.i64.wrap ((-1074) - p2_e)) then (IntKind.i64.wrap ((-1074) - p2_e)) else (IntKind.i64.wrap (r3 - 53))))), ()) h12) (ifP (decide ((bitsI .and .u64 q_13 1) = 1)) (J4 ((IntKind.u64.wrap (q_13 + 1)), (IntKind.i64.wrap (p2_e + (if (IntKind.i64.wrap (r3 - 53)) < (IntKind.i64.wrap ((-1074) - p2_e)) then (IntKind.i64.wrap ((-1074) - p2_e)) else (IntKind.i64.wrap (r3 - 53))))), ()) h12)
  (J4 (q_13, (IntKind.i64.wrap (p2_e + (if (IntKind.i64.wrap (r3 - 53)) < (IntKind.i64.wrap ((-1074) - p2_e)) then (IntKind.i64.wrap ((-1074) - p2_e)) else (IntKind.i64.wrap (r3 - 53))))), ()) h12))) (J4 (q_13, (IntKind.i64.wrap (p2_e + (if (IntKind.i64.wrap (r3 - 53)) < (IntKind.i64.wrap ((-1074) - p2_e)) then (IntKind.i64.wrap ((-1074) - p2_e)) else (IntKind.i64.wrap (r3 - 53))))), ()) h12))) (J4 (q_13, (IntKind.i64.wrap (p2_e + (if (IntKind.i64.wrap (r3 - 53)) < (IntKind.i64.wrap ((-1074) - p2_e)) then (IntKind.i64.wrap ((-1074) - p2_e)) else (IntKind.i64.wrap (r3 - 53))))), ()) h12))))
  (J4 (p1_mag, p2_e, ()) h2)) ∧
  (∀ (mag_6 : Int) (e_7 : Int) (h5 : H), J4 (mag_6, e_7, ()) h5 →
  convP Tryz.prog 33 31 (.int .u64 mag_6) h5 fun r14 =>
  T Tryz.prog F.math_Ldexp [r14, .int .i64 e_7] h5 (rt (fun v15 h16 =>
  ifP p0_minus (unP Tryz.prog .neg v15 h16 fun r17 =>
  R (.ret r17) h16)
  (R (.ret v15) h16)) (fun v18 h19 => R (.pan v18) h19)))) (fun v20 h21 => R (.pan v20) h21)))
theorem E_scale_rounded {p0_minus : Bool} {p1_mag : Int} {p2_e : Int} {p3_more : Bool} {R : Res → H → Prop} {h : H} (H0 : B_scale_rounded p0_minus p1_mag p2_e p3_more R h) : T Tryz.prog F.scale_rounded [.bool p0_minus, .int .u64 p1_mag, .int .i64 p2_e, .bool p3_more] h R :=
  T_intro A_scale_rounded Tryz.func17 (c := bodyOf Tryz.f17) (by kernel_rfl) (by kernel_rfl) (by kernel_rfl) (cast_of (by kernel_rfl) H0)

def A_scale_size : An := ⟨lkA [(0, rng 1), (1, rng 2), (2, rng 4), (3, rng 3)], lkL [], lkC []⟩
def B_scale_size (p0_n : Int) (R : Res → H → Prop) (h : H) : Prop :=
  ifP (decide (p0_n < 0)) (R (.ret (.int .u64 (IntKind.u64.wrap (0 - (IntKind.u64.wrap p0_n))))) h)
  (R (.ret (.int .u64 (IntKind.u64.wrap p0_n))) h)
theorem E_scale_size {p0_n : Int} {R : Res → H → Prop} {h : H} (H0 : B_scale_size p0_n R h) : T Tryz.prog F.scale_size [.int .i64 p0_n] h R :=
  T_intro A_scale_size Tryz.func18 (c := bodyOf Tryz.f18) (by kernel_rfl) (by kernel_rfl) (by kernel_rfl) (cast_of (by kernel_rfl) H0)

def A_graph_Check : An := ⟨lkA [(0, rng 2), (1, rng 14), (2, rng 2), (3, rng 4), (4, rng 1), (5, rng 6), (6, rng 23), (7, rng 3), (8, rng 4), (9, rng 3), (10, rng 2), (11, rng 2)], lkL [(4, [(23, .int .i64)])], lkC [(3, [])]⟩
def B_graph_Check (p0_g : List Value) (R : Res → H → Prop) (h : H) : Prop :=
  newP h (.cells ⟨p0_g⟩ 24 (0, 0)) fun b1 h2 =>
  newP h2 (.cells ⟨[.int .i64 0, .int .i64 0]⟩ 37 (0, 0)) fun b3 h4 =>
  ∃ J5 : (Unit) → H → Prop, (ldI h4 ((bk b1).add 0) .i64 fun x7 =>
  ifP (decide (x7 < 0)) (stN h4 (bk b3) [.int .i64 3, .int .i64 0] 2 fun h8 =>
  ldN h8 (bk b3) 2 fun x9 =>
  R (.ret (.agg ⟨x9⟩)) h8) (ldI h4 ((bk b1).add 0) .i64 fun x10 =>
  ifP (decide (1024 < x10)) (stN h4 (bk b3) [.int .i64 3, .int .i64 0] 2 fun h11 =>
  ldN h11 (bk b3) 2 fun x12 =>
  R (.ret (.agg ⟨x12⟩)) h11) (ldV h4 ((bk b1).add 1) fun x13 =>
  slcP x13 fun a14 l15 c16 =>
  ifP (decide (4096 < ((l15 : Nat) : Int))) (stN h4 (bk b3) [.int .i64 3, .int .i64 0] 2 fun h17 =>
  ldN h17 (bk b3) 2 fun x18 =>
  R (.ret (.agg ⟨x18⟩)) h17)
  (J5 (()) h4)))) ∧
  (∀  (h6 : H), J5 (()) h6 →
  ldV h6 ((bk b1).add 1) fun x19 =>
  slcP x19 fun a20 l21 c22 =>
  ∃ (I23 : (Int × Unit) → H → Prop) (r24 : (Int × Unit) × H → (Int × Unit) × H → Prop), WellFounded r24 ∧ I23 (0, ()) h6 ∧
  ∀ (s26 : Int) (h25 : H), I23 (s26, ()) h25 →
  ifP (decide (s26 < ((l21 : Nat) : Int))) (ixS x19 s26 4 fun a27 =>
  ldN h25 a27 4 fun x28 =>
  newP h25 (.cells ⟨[.int .i64 0, .int .i64 0, .int .i64 0, .int .i64 0]⟩ 43 (0, 0)) fun b29 h30 =>
  stN h30 (bk b29) x28 4 fun h31 =>
  ldI h31 ((bk b29).add 0) .i64 fun x32 =>
  ifP (decide (x32 < 0)) (stN h31 (bk b3) [.int .i64 30, .int .i64 s26] 2 fun h33 =>
  ldN h33 (bk b3) 2 fun x34 =>
  R (.ret (.agg ⟨x34⟩)) h33) (ldI h31 ((bk b29).add 0) .i64 fun x35 =>
  ldI h31 ((bk b1).add 0) .i64 fun x36 =>
  ifP (decide (x36 ≤ x35)) (stN h31 (bk b3) [.int .i64 30, .int .i64 s26] 2 fun h37 =>
  ldN h37 (bk b3) 2 fun x38 =>
  R (.ret (.agg ⟨x38⟩)) h37) (ldI h31 ((bk b29).add 1) .i64 fun x39 =>
  ifP (decide (x39 < 0)) (stN h31 (bk b3) [.int .i64 30, .int .i64 s26] 2 fun h40 =>
  ldN h40 (bk b3) 2 fun x41 =>
  R (.ret (.agg ⟨x41⟩)) h40) (ldI h31 ((bk b29).add 1) .i64 fun x42 =>
  ldI h31 ((bk b1).add 0) .i64 fun x43 =>
  ifP (decide (x43 ≤ x42)) (stN h31 (bk b3) [.int .i64 30, .int .i64 s26] 2 fun h44 =>
  ldN h44 (bk b3) 2 fun x45 =>
  R (.ret (.agg ⟨x45⟩)) h44)
  (ldN h31 (bk b29) 4 fun x46 =>
  T Tryz.prog F.graph_label [.agg ⟨x46⟩] h31 (rt (fun v47 h48 =>
  ∃ r49, v47 = .bool r49 ∧
  ifP (!r49) (stN h48 (bk b3) [.int .i64 31, .int .i64 s26] 2 fun h50 =>
  ldN h50 (bk b3) 2 fun x51 =>
  R (.ret (.agg ⟨x51⟩)) h50)
  (I23 ((IntKind.i64.wrap (s26 + 1)), ()) h48 ∧ r24 (((IntKind.i64.wrap (s26 + 1)), ()), h48) ((s26, ()), h25))) (fun v52 h53 => R (.pan v52) h53)))))))
  (stN h25 (bk b3) [.int .i64 0, .int .i64 0] 2 fun h54 =>
  ldN h54 (bk b3) 2 fun x55 =>
  R (.ret (.agg ⟨x55⟩)) h54))
theorem E_graph_Check {p0_g : List Value} {R : Res → H → Prop} {h : H} (H0 : B_graph_Check p0_g R h) : T Tryz.prog F.graph_Check [.agg ⟨p0_g⟩] h R :=
  T_intro A_graph_Check Tryz.func19 (c := bodyOf Tryz.f19) (by kernel_rfl) (by kernel_rfl) (by kernel_rfl) (cast_of (by kernel_rfl) H0)

def A_mincost_supplied : An := ⟨lkA [(0, rng 2), (1, rng 5), (2, rng 1), (3, rng 1), (4, rng 3), (5, rng 1), (6, rng 3), (7, rng 6), (8, rng 1), (9, rng 4), (10, rng 2), (11, rng 2), (12, rng 1), (13, rng 1)], lkL [(5, [(5, .int .i64), (15, .int .i64)])], lkC []⟩
def B_mincost_supplied (p0_g : List Value) (p1_supply : Value) (R : Res → H → Prop) (h : H) : Prop :=
  newP h (.cells ⟨p0_g⟩ 24 (0, 0)) fun b1 h2 =>
  slcP p1_supply fun a3 l4 c5 =>
  ldI h2 ((bk b1).add 0) .i64 fun x6 =>
  ifP (!decide (((l4 : Nat) : Int) = x6)) (R (.ret (.int .i64 130)) h2)
  (slcP p1_supply fun a7 l8 c9 =>
  ∃ (I10 : (Int × Int × Unit) → H → Prop) (r11 : (Int × Int × Unit) × H → (Int × Int × Unit) × H → Prop), WellFounded r11 ∧ I10 (0, 0, ()) h2 ∧
  ∀ (sum_13 : Int) (s14 : Int) (h12 : H), I10 (sum_13, s14, ()) h12 →
  ifP (decide (s14 < ((l8 : Nat) : Int))) (ixS p1_supply s14 1 fun a15 =>
  ldI h12 a15 .i64 fun x16 =>
  ifP (decide (x16 < (-1048576))) (R (.ret (.int .i64 130)) h12) (ifP (decide (1048576 < x16)) (R (.ret (.int .i64 130)) h12)
  (I10 ((IntKind.i64.wrap (sum_13 + x16)), (IntKind.i64.wrap (s14 + 1)), ()) h12 ∧ r11 (((IntKind.i64.wrap (sum_13 + x16)), (IntKind.i64.wrap (s14 + 1)), ()), h12) ((sum_13, s14, ()), h12))))
  (ifP (!decide (sum_13 = 0)) (R (.ret (.int .i64 130)) h12)
  (R (.ret (.int .i64 0)) h12)))
theorem E_mincost_supplied {p0_g : List Value} {p1_supply : Value} {R : Res → H → Prop} {h : H} (H0 : B_mincost_supplied p0_g p1_supply R h) : T Tryz.prog F.mincost_supplied [.agg ⟨p0_g⟩, p1_supply] h R :=
  T_intro A_mincost_supplied Tryz.func20 (c := bodyOf Tryz.f20) (by kernel_rfl) (by kernel_rfl) (by kernel_rfl) (cast_of (by kernel_rfl) H0)

def A_mincost_newNet : An := ⟨lkA [(0, rng 2), (1, ⟨[0, 4, 6, 1, 7, 3, 5, 2, 8, 9, 10, 11], lkN [(5, [1, 7])]⟩), (2, rng 4), (3, rng 1), (4, rng 4), (5, rng 6), (6, ⟨[0, 1, 2, 3, 5, 7, 4, 6, 8, 9, 10, 11, 12, 13], lkN []⟩), (7, ⟨[0, 1, 2, 3, 5, 7, 4, 6, 8, 9, 10, 11, 12, 13], lkN []⟩), (8, ⟨[0, 1, 2, 3, 5, 4, 6, 7, 8, 9, 10, 11], lkN []⟩), (9, ⟨[0, 1, 2, 3, 5, 7, 4, 6, 8, 9, 10, 11, 12, 13, 14], lkN []⟩), (10, ⟨[0, 1, 2, 4, 6, 7, 8, 10, 14, 3, 5, 9, 11, 12, 13, 15, 16, 17, 18], lkN [(16, [3, 5])]⟩), (11, ⟨[0, 1, 2, 4, 6, 7, 8, 10, 14, 15, 3, 5, 9, 11, 12, 13, 16, 17, 18, 19], lkN [(17, [3, 5])]⟩), (12, rng 2), (13, rng 2)], lkL [(3, [(23, .int .i64)])], lkC []⟩
def B_mincost_newNet (p0_g : List Value) (p1_supply : Value) (R : Res → H → Prop) (h : H) : Prop :=
  newP h (.cells ⟨p0_g⟩ 24 (0, 0)) fun b1 h2 =>
  ldI h2 ((bk b1).add 0) .i64 fun x3 =>
  ldI h2 ((bk b1).add 0) .i64 fun x4 =>
  newP h2 (.cells ⟨[]⟩ 2 (0, 0)) fun b5 h6 =>
  apP (.slice (some (bk b5)) 0 0) p1_supply h6 1 2 8 [.int .i64 0] fun s7 h8 =>
  (sameAt 2 ((bk b1).add 0) h6 h8) ∧
  (sameAt 2 ((bk b1).add 0) h6 h8) ∧
  mkS x3 x3 24 [.slice none 0 0] 75 h8 fun b9 h10 =>
  mkS x4 x4 8 [.int .i64 0] 2 h10 fun b11 h12 =>
  oneP s7 (newP h12 (.cells ⟨[.slice none 0 0, .slice none 0 0, .slice none 0 0, .slice none 0 0, .slice (some (bk b9)) x3.toNat x3.toNat, s7, .slice (some (bk b11)) x4.toNat x4.toNat]⟩ 78 (0, 0)) fun b13 h14 =>
  ldV h14 ((bk b1).add 1) fun x15 =>
  slcP x15 fun a16 l17 c18 =>
  ∃ (I19 : (Int × Unit) → H → Prop) (r20 : (Int × Unit) × H → (Int × Unit) × H → Prop), WellFounded r20 ∧ I19 (0, ()) h14 ∧
  ∀ (s22 : Int) (h21 : H), I19 (s22, ()) h21 →
  ifP (decide (s22 < ((l17 : Nat) : Int))) (ixS x15 s22 4 fun a23 =>
  ldN h21 a23 4 fun x24 =>
  newP h21 (.cells ⟨[.int .i64 0, .int .i64 0, .int .i64 0, .int .i64 0]⟩ 43 (0, 0)) fun b25 h26 =>
  stN h26 (bk b25) x24 4 fun h27 =>
  ldV h27 ((bk b13).add 1) fun x28 =>
  slcP x28 fun a29 l30 c31 =>
  ldV h27 ((bk b13).add 0) fun x32 =>
  ldI h27 ((bk b25).add 0) .i64 fun x33 =>
  ldI h27 ((bk b25).add 1) .i64 fun x34 =>
  newP h27 (.cells ⟨[.int .i64 x33, .int .i64 x34]⟩ 3 (0, 0)) fun b35 h36 =>
  apP x32 (.slice (some (bk b35)) 2 2) h36 1 3 8 [.int .i64 0] fun s37 h38 =>
  oneP s37 (stC h38 ((bk b13).add 0) s37 fun h39 =>
  ldV h39 ((bk b13).add 1) fun x40 =>
  ldI h39 ((bk b25).add 1) .i64 fun x41 =>
  ldI h39 ((bk b25).add 0) .i64 fun x42 =>
  newP h39 (.cells ⟨[.int .i64 x41, .int .i64 x42]⟩ 3 (0, 0)) fun b43 h44 =>
  apP x40 (.slice (some (bk b43)) 2 2) h44 1 3 8 [.int .i64 0] fun s45 h46 =>
  oneP s45 (stC h46 ((bk b13).add 1) s45 fun h47 =>
  ldV h47 ((bk b13).add 2) fun x48 =>
  ldI h47 ((bk b25).add 2) .i64 fun x49 =>
  newP h47 (.cells ⟨[.int .i64 x49, .int .i64 0]⟩ 2 (0, 0)) fun b50 h51 =>
  apP x48 (.slice (some (bk b50)) 2 2) h51 1 2 8 [.int .i64 0] fun s52 h53 =>
  oneP s52 (stC h53 ((bk b13).add 2) s52 fun h54 =>
  ldV h54 ((bk b13).add 3) fun x55 =>
  ldI h54 ((bk b25).add 3) .i64 fun x56 =>
  ldI h54 ((bk b25).add 3) .i64 fun x57 =>
  newP h54 (.cells ⟨[.int .i64 x56, .int .i64 (IntKind.i64.wrap (0 - x57))]⟩ 2 (0, 0)) fun b58 h59 =>
  apP x55 (.slice (some (bk b58)) 2 2) h59 1 2 8 [.int .i64 0] fun s60 h61 =>
  oneP s60 (stC h61 ((bk b13).add 3) s60 fun h62 =>
  ldV h62 ((bk b13).add 4) fun x63 =>
  ldI h62 ((bk b25).add 0) .i64 fun x64 =>
  ldV h62 ((bk b13).add 4) fun x65 =>
  ldI h62 ((bk b25).add 0) .i64 fun x66 =>
  ixS x65 x66 1 fun a67 =>
  ldV h62 a67 fun x68 =>
  newP h62 (.cells ⟨[.int .i64 ((l30 : Nat) : Int)]⟩ 3 (0, 0)) fun b69 h70 =>
  apP x68 (.slice (some (bk b69)) 1 1) h70 1 3 8 [.int .i64 0] fun s71 h72 =>
  (sameAt 2 ((bk b25).add 0) h70 h72) ∧
  (sameAt 2 ((bk b13).add 4) h70 h72) ∧
  ixS x63 x64 1 fun a73 =>
  oneP s71 (stC h72 a73 s71 fun h74 =>
  ldV h74 ((bk b13).add 4) fun x75 =>
  ldI h74 ((bk b25).add 1) .i64 fun x76 =>
  ldV h74 ((bk b13).add 4) fun x77 =>
  ldI h74 ((bk b25).add 1) .i64 fun x78 =>
  ixS x77 x78 1 fun a79 =>
  ldV h74 a79 fun x80 =>
  newP h74 (.cells ⟨[.int .i64 (IntKind.i64.wrap (((l30 : Nat) : Int) + 1))]⟩ 3 (0, 0)) fun b81 h82 =>
  apP x80 (.slice (some (bk b81)) 1 1) h82 1 3 8 [.int .i64 0] fun s83 h84 =>
  (sameAt 2 ((bk b25).add 1) h82 h84) ∧
  (sameAt 2 ((bk b13).add 4) h82 h84) ∧
  ixS x75 x76 1 fun a85 =>
  oneP s83 (stC h84 a85 s83 fun h86 =>
  I19 ((IntKind.i64.wrap (s22 + 1)), ()) h86 ∧ r20 (((IntKind.i64.wrap (s22 + 1)), ()), h86) ((s22, ()), h21))))))))
  (R (.ret (.pointer (some (bk b13)))) h21))
theorem E_mincost_newNet {p0_g : List Value} {p1_supply : Value} {R : Res → H → Prop} {h : H} (H0 : B_mincost_newNet p0_g p1_supply R h) : T Tryz.prog F.mincost_newNet [.agg ⟨p0_g⟩, p1_supply] h R :=
  T_intro A_mincost_newNet Tryz.func21 (c := bodyOf Tryz.f21) (by kernel_rfl) (by kernel_rfl) (by kernel_rfl) (cast_of (by kernel_rfl) H0)

def A_maxflow_newNet : An := ⟨lkA [(0, rng 2), (1, rng 8), (2, rng 4), (3, rng 1), (4, rng 4), (5, rng 6), (6, ⟨[0, 1, 2, 3, 5, 7, 4, 6, 8, 9, 10, 11, 12, 13], lkN []⟩), (7, ⟨[0, 1, 2, 3, 5, 4, 6, 7, 8, 9, 10, 11], lkN []⟩), (8, ⟨[0, 1, 2, 4, 6, 7, 8, 10, 14, 3, 5, 9, 11, 12, 13, 15, 16, 17, 18], lkN [(16, [3, 5])]⟩), (9, ⟨[0, 1, 2, 4, 6, 7, 8, 10, 14, 15, 3, 5, 9, 11, 12, 13, 16, 17, 18, 19], lkN [(17, [3, 5])]⟩), (10, rng 2), (11, rng 2)], lkL [(3, [(21, .int .i64)])], lkC []⟩
def B_maxflow_newNet (p0_g : List Value) (p1_s : Int) (p2_t : Int) (R : Res → H → Prop) (h : H) : Prop :=
  newP h (.cells ⟨p0_g⟩ 24 (0, 0)) fun b1 h2 =>
  ldI h2 ((bk b1).add 0) .i64 fun x3 =>
  mkS x3 x3 24 [.slice none 0 0] 75 h2 fun b4 h5 =>
  newP h5 (.cells ⟨[.slice none 0 0, .slice none 0 0, .slice (some (bk b4)) x3.toNat x3.toNat, .int .i64 p1_s, .int .i64 p2_t]⟩ 94 (0, 0)) fun b6 h7 =>
  ldV h7 ((bk b1).add 1) fun x8 =>
  slcP x8 fun a9 l10 c11 =>
  ∃ (I12 : (Int × Unit) → H → Prop) (r13 : (Int × Unit) × H → (Int × Unit) × H → Prop), WellFounded r13 ∧ I12 (0, ()) h7 ∧
  ∀ (s15 : Int) (h14 : H), I12 (s15, ()) h14 →
  ifP (decide (s15 < ((l10 : Nat) : Int))) (ixS x8 s15 4 fun a16 =>
  ldN h14 a16 4 fun x17 =>
  newP h14 (.cells ⟨[.int .i64 0, .int .i64 0, .int .i64 0, .int .i64 0]⟩ 43 (0, 0)) fun b18 h19 =>
  stN h19 (bk b18) x17 4 fun h20 =>
  ldV h20 ((bk b6).add 0) fun x21 =>
  slcP x21 fun a22 l23 c24 =>
  ldV h20 ((bk b6).add 0) fun x25 =>
  ldI h20 ((bk b18).add 1) .i64 fun x26 =>
  ldI h20 ((bk b18).add 0) .i64 fun x27 =>
  newP h20 (.cells ⟨[.int .i64 x26, .int .i64 x27]⟩ 3 (0, 0)) fun b28 h29 =>
  apP x25 (.slice (some (bk b28)) 2 2) h29 1 3 8 [.int .i64 0] fun s30 h31 =>
  oneP s30 (stC h31 ((bk b6).add 0) s30 fun h32 =>
  ldV h32 ((bk b6).add 1) fun x33 =>
  ldI h32 ((bk b18).add 2) .i64 fun x34 =>
  newP h32 (.cells ⟨[.int .i64 x34, .int .i64 0]⟩ 2 (0, 0)) fun b35 h36 =>
  apP x33 (.slice (some (bk b35)) 2 2) h36 1 2 8 [.int .i64 0] fun s37 h38 =>
  oneP s37 (stC h38 ((bk b6).add 1) s37 fun h39 =>
  ldV h39 ((bk b6).add 2) fun x40 =>
  ldI h39 ((bk b18).add 0) .i64 fun x41 =>
  ldV h39 ((bk b6).add 2) fun x42 =>
  ldI h39 ((bk b18).add 0) .i64 fun x43 =>
  ixS x42 x43 1 fun a44 =>
  ldV h39 a44 fun x45 =>
  newP h39 (.cells ⟨[.int .i64 ((l23 : Nat) : Int)]⟩ 3 (0, 0)) fun b46 h47 =>
  apP x45 (.slice (some (bk b46)) 1 1) h47 1 3 8 [.int .i64 0] fun s48 h49 =>
  (sameAt 2 ((bk b18).add 0) h47 h49) ∧
  (sameAt 2 ((bk b6).add 2) h47 h49) ∧
  ixS x40 x41 1 fun a50 =>
  oneP s48 (stC h49 a50 s48 fun h51 =>
  ldV h51 ((bk b6).add 2) fun x52 =>
  ldI h51 ((bk b18).add 1) .i64 fun x53 =>
  ldV h51 ((bk b6).add 2) fun x54 =>
  ldI h51 ((bk b18).add 1) .i64 fun x55 =>
  ixS x54 x55 1 fun a56 =>
  ldV h51 a56 fun x57 =>
  newP h51 (.cells ⟨[.int .i64 (IntKind.i64.wrap (((l23 : Nat) : Int) + 1))]⟩ 3 (0, 0)) fun b58 h59 =>
  apP x57 (.slice (some (bk b58)) 1 1) h59 1 3 8 [.int .i64 0] fun s60 h61 =>
  (sameAt 2 ((bk b18).add 1) h59 h61) ∧
  (sameAt 2 ((bk b6).add 2) h59 h61) ∧
  ixS x52 x53 1 fun a62 =>
  oneP s60 (stC h61 a62 s60 fun h63 =>
  I12 ((IntKind.i64.wrap (s15 + 1)), ()) h63 ∧ r13 (((IntKind.i64.wrap (s15 + 1)), ()), h63) ((s15, ()), h14))))))
  (R (.ret (.pointer (some (bk b6)))) h14)
theorem E_maxflow_newNet {p0_g : List Value} {p1_s : Int} {p2_t : Int} {R : Res → H → Prop} {h : H} (H0 : B_maxflow_newNet p0_g p1_s p2_t R h) : T Tryz.prog F.maxflow_newNet [.agg ⟨p0_g⟩, .int .i64 p1_s, .int .i64 p2_t] h R :=
  T_intro A_maxflow_newNet Tryz.func23 (c := bodyOf Tryz.f23) (by kernel_rfl) (by kernel_rfl) (by kernel_rfl) (cast_of (by kernel_rfl) H0)

def A_maxflow_net_levels : An := ⟨lkA [(0, rng 1), (1, rng 7), (2, rng 3), (3, rng 1), (4, rng 2), (5, rng 4), (6, rng 2), (7, rng 4), (8, rng 3), (9, rng 1), (10, rng 4), (11, rng 3), (12, ⟨[0, 1, 2, 4, 5, 6, 11, 3, 7, 8, 9, 10], lkN []⟩), (13, rng 1), (14, rng 3), (15, rng 8), (16, rng 15), (17, rng 12), (18, rng 5), (19, rng 2), (20, rng 2)], lkL [(3, [(20, .int .i64)]), (10, [(7, .val), (8, .int .i64)]), (13, [(7, .val), (49, .int .i64)])], lkC []⟩
def B_maxflow_net_levels (p0_n : Value) (p1_from : Int) (R : Res → H → Prop) (h : H) : Prop :=
  ptrP p0_n fun a1 =>
  ldV h (a1.add 2) fun x2 =>
  slcP x2 fun a3 l4 c5 =>
  mkS ((l4 : Nat) : Int) ((l4 : Nat) : Int) 8 [.int .i64 0] 3 h fun b6 h7 =>
  ∃ (I8 : (Int × Unit) → H → Prop) (r9 : (Int × Unit) × H → (Int × Unit) × H → Prop), WellFounded r9 ∧ I8 (0, ()) h7 ∧
  ∀ (s11 : Int) (h10 : H), I8 (s11, ()) h10 →
  ifP (decide (s11 < ((((l4 : Nat) : Int).toNat : Nat) : Int))) (ixS (.slice (some (bk b6)) (((l4 : Nat) : Int).toNat) (((l4 : Nat) : Int).toNat)) s11 1 fun a12 =>
  stC h10 a12 (.int .i64 (-1)) fun h13 =>
  I8 ((IntKind.i64.wrap (s11 + 1)), ()) h13 ∧ r9 (((IntKind.i64.wrap (s11 + 1)), ()), h13) ((s11, ()), h10))
  (ixS (.slice (some (bk b6)) (((l4 : Nat) : Int).toNat) (((l4 : Nat) : Int).toNat)) p1_from 1 fun a14 =>
  stC h10 a14 (.int .i64 0) fun h15 =>
  newP h15 (.cells ⟨[.int .i64 p1_from]⟩ 3 (0, 0)) fun b16 h17 =>
  ∃ (I18 : (Value × Int × Unit) → H → Prop) (r19 : (Value × Int × Unit) × H → (Value × Int × Unit) × H → Prop), WellFounded r19 ∧ I18 ((.slice (some (bk b16)) 1 1 : Value), 0, ()) h17 ∧
  ∀ (queue_21 : Value) (i_22 : Int) (h20 : H), I18 (queue_21, i_22, ()) h20 →
  slcP queue_21 fun a23 l24 c25 =>
  ifP (decide (i_22 < ((l24 : Nat) : Int))) (ptrP p0_n fun a26 =>
  ixS queue_21 i_22 1 fun a27 =>
  ldV h20 (a26.add 2) fun x28 =>
  ldI h20 a27 .i64 fun x29 =>
  ixS x28 x29 1 fun a30 =>
  ldV h20 a30 fun x31 =>
  slcP x31 fun a32 l33 c34 =>
  ∃ (I35 : (Value × Int × Unit) → H → Prop) (r36 : (Value × Int × Unit) × H → (Value × Int × Unit) × H → Prop), WellFounded r36 ∧ I35 (queue_21, 0, ()) h20 ∧
  ∀ (queue_38 : Value) (s39 : Int) (h37 : H), I35 (queue_38, s39, ()) h37 →
  ifP (decide (s39 < ((l33 : Nat) : Int))) (ixS x31 s39 1 fun a40 =>
  ldI h37 a40 .i64 fun x41 =>
  ptrP p0_n fun a42 =>
  ldV h37 (a42.add 0) fun x43 =>
  ixS x43 x41 1 fun a44 =>
  ldI h37 a44 .i64 fun x45 =>
  ptrP p0_n fun a46 =>
  ldV h37 (a46.add 1) fun x47 =>
  ixS x47 x41 1 fun a48 =>
  ldI h37 a48 .i64 fun x49 =>
  ifP (decide (0 < x49)) (ixS (.slice (some (bk b6)) (((l4 : Nat) : Int).toNat) (((l4 : Nat) : Int).toNat)) x45 1 fun a50 =>
  ldI h37 a50 .i64 fun x51 =>
  ifP (decide (x51 < 0)) (ixS queue_38 i_22 1 fun a52 =>
  ldI h37 a52 .i64 fun x53 =>
  ixS (.slice (some (bk b6)) (((l4 : Nat) : Int).toNat) (((l4 : Nat) : Int).toNat)) x53 1 fun a54 =>
  ldI h37 a54 .i64 fun x55 =>
  ixS (.slice (some (bk b6)) (((l4 : Nat) : Int).toNat) (((l4 : Nat) : Int).toNat)) x45 1 fun a56 =>
  stC h37 a56 (.int .i64 (IntKind.i64.wrap (x55 + 1))) fun h57 =>
  newP h57 (.cells ⟨[.int .i64 x45]⟩ 3 (0, 0)) fun b58 h59 =>
  apP queue_38 (.slice (some (bk b58)) 1 1) h59 1 3 8 [.int .i64 0] fun s60 h61 =>
  I35 (s60, (IntKind.i64.wrap (s39 + 1)), ()) h61 ∧ r36 ((s60, (IntKind.i64.wrap (s39 + 1)), ()), h61) ((queue_38, s39, ()), h37))
  (I35 (queue_38, (IntKind.i64.wrap (s39 + 1)), ()) h37 ∧ r36 ((queue_38, (IntKind.i64.wrap (s39 + 1)), ()), h37) ((queue_38, s39, ()), h37))) (I35 (queue_38, (IntKind.i64.wrap (s39 + 1)), ()) h37 ∧ r36 ((queue_38, (IntKind.i64.wrap (s39 + 1)), ()), h37) ((queue_38, s39, ()), h37)))
  (I18 (queue_38, (IntKind.i64.wrap (i_22 + 1)), ()) h37 ∧ r19 ((queue_38, (IntKind.i64.wrap (i_22 + 1)), ()), h37) ((queue_21, i_22, ()), h20)))
  (R (.ret (.slice (some (bk b6)) (((l4 : Nat) : Int).toNat) (((l4 : Nat) : Int).toNat))) h20))
theorem E_maxflow_net_levels {p0_n : Value} {p1_from : Int} {R : Res → H → Prop} {h : H} (H0 : B_maxflow_net_levels p0_n p1_from R h) : T Tryz.prog F.maxflow_net_levels [p0_n, .int .i64 p1_from] h R :=
  T_intro A_maxflow_net_levels Tryz.func24 (c := bodyOf Tryz.f24) (by kernel_rfl) (by kernel_rfl) (by kernel_rfl) (cast_of (by kernel_rfl) H0)

def A_math_normalize : An := ⟨lkA [(0, rng 2), (1, rng 3), (2, rng 4), (3, rng 3)], lkL [], lkC []⟩
def B_math_normalize (p0_x : Value) (R : Res → H → Prop) (h : H) : Prop :=
  T Tryz.prog F.math_Abs [p0_x] h (rt (fun v1 h2 =>
  binP Tryz.prog .lss 31 (.tmp 5) (.const (.float .f64 4503599627370496)) v1 (.float .f64 4503599627370496) h2 fun r3 =>
  boolP r3 fun b4 =>
  ifP b4 (binP Tryz.prog .mul 31 (.tmp 7) (.const (.float .f64 4841369599423283200)) p0_x (.float .f64 4841369599423283200) h2 fun r5 =>
  R (.ret (.tuple ⟨[r5, .int .i64 (-52)]⟩)) h2)
  (R (.ret (.tuple ⟨[p0_x, .int .i64 0]⟩)) h2)) (fun v6 h7 => R (.pan v6) h7))
theorem E_math_normalize {p0_x : Value} {R : Res → H → Prop} {h : H} (H0 : B_math_normalize p0_x R h) : T Tryz.prog F.math_normalize [p0_x] h R :=
  T_intro A_math_normalize Tryz.func25 (c := bodyOf Tryz.f25) (by kernel_rfl) (by kernel_rfl) (by kernel_rfl) (cast_of (by kernel_rfl) H0)

def A_math_Copysign : An := ⟨lkA [(0, rng 1), (1, rng 9)], lkL [], lkC []⟩
def B_math_Copysign (p0_f : Value) (p1_sign : Value) (R : Res → H → Prop) (h : H) : Prop :=
  extP Tryz.prog F.math_Float64bits [p0_f] h (rt (fun v1 h2 =>
  ∃ r3, v1 = .int .u64 r3 ∧
  extP Tryz.prog F.math_Float64bits [p1_sign] h2 (rt (fun v4 h5 =>
  ∃ r6, v4 = .int .u64 r6 ∧
  extP Tryz.prog F.math_Float64frombits [.int .u64 (bitsI .or .u64 (bitsI .andNot .u64 r3 9223372036854775808) (bitsI .and .u64 r6 9223372036854775808))] h5 (rt (fun v7 h8 =>
  R (.ret v7) h8) (fun v9 h10 => R (.pan v9) h10))) (fun v11 h12 => R (.pan v11) h12))) (fun v13 h14 => R (.pan v13) h14))
theorem E_math_Copysign {p0_f : Value} {p1_sign : Value} {R : Res → H → Prop} {h : H} (H0 : B_math_Copysign p0_f p1_sign R h) : T Tryz.prog F.math_Copysign [p0_f, p1_sign] h R :=
  T_intro A_math_Copysign Tryz.func27 (c := bodyOf Tryz.f27) (by kernel_rfl) (by kernel_rfl) (by kernel_rfl) (cast_of (by kernel_rfl) H0)

def A_math_Inf : An := ⟨lkA [(0, rng 1), (1, rng 1), (2, rng 2), (3, rng 1), (4, rng 1), (5, rng 3)], lkL [], lkC []⟩
def B_math_Inf (p0_sign : Int) (R : Res → H → Prop) (h : H) : Prop :=
  ifP (decide (0 ≤ p0_sign)) (extP Tryz.prog F.math_Float64frombits [.int .u64 9218868437227405312] h (rt (fun v1 h2 =>
  R (.ret v1) h2) (fun v3 h4 => R (.pan v3) h4)))
  (extP Tryz.prog F.math_Float64frombits [.int .u64 18442240474082181120] h (rt (fun v5 h6 =>
  R (.ret v5) h6) (fun v7 h8 => R (.pan v7) h8)))
theorem E_math_Inf {p0_sign : Int} {R : Res → H → Prop} {h : H} (H0 : B_math_Inf p0_sign R h) : T Tryz.prog F.math_Inf [.int .i64 p0_sign] h R :=
  T_intro A_math_Inf Tryz.func28 (c := bodyOf Tryz.f28) (by kernel_rfl) (by kernel_rfl) (by kernel_rfl) (cast_of (by kernel_rfl) H0)

def A_math_Abs : An := ⟨lkA [(0, rng 1), (1, rng 5)], lkL [], lkC []⟩
def B_math_Abs (p0_x : Value) (R : Res → H → Prop) (h : H) : Prop :=
  extP Tryz.prog F.math_Float64bits [p0_x] h (rt (fun v1 h2 =>
  ∃ r3, v1 = .int .u64 r3 ∧
  extP Tryz.prog F.math_Float64frombits [.int .u64 (bitsI .andNot .u64 r3 9223372036854775808)] h2 (rt (fun v4 h5 =>
  R (.ret v4) h5) (fun v6 h7 => R (.pan v6) h7))) (fun v8 h9 => R (.pan v8) h9))
theorem E_math_Abs {p0_x : Value} {R : Res → H → Prop} {h : H} (H0 : B_math_Abs p0_x R h) : T Tryz.prog F.math_Abs [p0_x] h R :=
  T_intro A_math_Abs Tryz.func29 (c := bodyOf Tryz.f29) (by kernel_rfl) (by kernel_rfl) (by kernel_rfl) (cast_of (by kernel_rfl) H0)

def A_math_Frexp : An := ⟨lkA [(0, rng 2), (1, rng 6), (2, rng 6)], lkL [], lkC []⟩
def B_math_Frexp (p0_f : Value) (R : Res → H → Prop) (h : H) : Prop :=
  T Tryz.prog F.math_frexp [p0_f] h (rt (fun v1 h2 =>
  ∃ r3 : Value, ∃ r4 : Int, v1 = .tuple ⟨[r3, .int .i64 r4]⟩ ∧
  R (.ret (.tuple ⟨[r3, .int .i64 r4]⟩)) h2) (fun v5 h6 => R (.pan v5) h6))
theorem E_math_Frexp {p0_f : Value} {R : Res → H → Prop} {h : H} (H0 : B_math_Frexp p0_f R h) : T Tryz.prog F.math_Frexp [p0_f] h R :=
  T_intro A_math_Frexp Tryz.func30 (c := bodyOf Tryz.f30) (by kernel_rfl) (by kernel_rfl) (by kernel_rfl) (cast_of (by kernel_rfl) H0)

def A_bits_TrailingZeros64 : An := ⟨lkA [(0, rng 1), (1, rng 2), (2, rng 1), (3, rng 10)], lkL [], lkC []⟩
def B_bits_TrailingZeros64 (p0_x : Int) (R : Res → H → Prop) (h : H) : Prop :=
  ifP (decide (p0_x = 0)) (R (.ret (.int .i64 64)) h)
  ((0 : Int) ≤ 58 ∧
  ixA ⟨1, 0, none⟩ 64 ((IntKind.u64.wrap ((bitsI .and .u64 p0_x (IntKind.u64.wrap (0 - p0_x))) * 285870213051353865)).fdiv (2 ^ (min (58 : Int).toNat 64))) 1 fun a1 =>
  ldI h a1 .u8 fun x2 =>
  R (.ret (.int .i64 (IntKind.i64.wrap x2))) h)
theorem E_bits_TrailingZeros64 {p0_x : Int} {R : Res → H → Prop} {h : H} (H0 : B_bits_TrailingZeros64 p0_x R h) : T Tryz.prog F.bits_TrailingZeros64 [.int .u64 p0_x] h R :=
  T_intro A_bits_TrailingZeros64 Tryz.func31 (c := bodyOf Tryz.f31) (by kernel_rfl) (by kernel_rfl) (by kernel_rfl) (cast_of (by kernel_rfl) H0)

def A_bits_Len64 : An := ⟨lkA [(0, rng 1), (1, rng 2), (2, rng 3), (3, rng 1), (4, rng 2), (5, rng 3), (6, rng 3), (7, rng 2), (8, rng 3), (9, rng 3), (10, rng 7)], lkL [], lkC [(4, [(0, .int .u64), (2, .int .i64)]), (7, [(0, .int .u64), (2, .int .i64)]), (10, [(0, .int .u64), (2, .int .i64)])]⟩
def B_bits_Len64 (p0_x : Int) (R : Res → H → Prop) (h : H) : Prop :=
  ∃ J1 : (Int × Int × Unit) → H → Prop, (ifP (decide (4294967296 ≤ p0_x)) ((0 : Int) ≤ 32 ∧
  J1 ((p0_x.fdiv (2 ^ (min (32 : Int).toNat 64))), 32, ()) h)
  (J1 (p0_x, 0, ()) h)) ∧
  (∀ (x_3 : Int) (n_4 : Int) (h2 : H), J1 (x_3, n_4, ()) h2 →
  ∃ J5 : (Int × Int × Unit) → H → Prop, (ifP (decide (65536 ≤ x_3)) ((0 : Int) ≤ 16 ∧
  J5 ((x_3.fdiv (2 ^ (min (16 : Int).toNat 64))), (IntKind.i64.wrap (n_4 + 16)), ()) h2)
  (J5 (x_3, n_4, ()) h2)) ∧
  (∀ (x_7 : Int) (n_8 : Int) (h6 : H), J5 (x_7, n_8, ()) h6 →
  ∃ J9 : (Int × Int × Unit) → H → Prop, (ifP (decide (256 ≤ x_7)) ((0 : Int) ≤ 8 ∧
  J9 ((x_7.fdiv (2 ^ (min (8 : Int).toNat 64))), (IntKind.i64.wrap (n_8 + 8)), ()) h6)
  (J9 (x_7, n_8, ()) h6)) ∧
  (∀ (x_11 : Int) (n_12 : Int) (h10 : H), J9 (x_11, n_12, ()) h10 →
  indexP Tryz.prog 9 (.string ⟨#[0, 1, 2, 2, 3, 3, 3, 3, 4, 4, 4, 4, 4, 4, 4, 4, 5, 5, 5, 5, 5, 5, 5, 5, 5, 5, 5, 5, 5, 5, 5, 5, 6, 6, 6, 6, 6, 6, 6, 6, 6, 6, 6, 6, 6, 6, 6, 6, 6, 6, 6, 6, 6, 6, 6, 6, 6, 6, 6, 6, 6, 6, 6, 6, 7, 7, 7, 7, 7, 7, 7, 7, 7, 7, 7, 7, 7, 7, 7, 7, 7, 7, 7, 7, 7, 7, 7, 7, 7, 7, 7, 7, 7, 7, 7, 7, 7, 7, 7, 7, 7, 7, 7, 7, 7, 7, 7, 7, 7, 7, 7, 7, 7, 7, 7, 7, 7, 7, 7, 7, 7, 7, 7, 7, 7, 7, 7, 7, 8, 8, 8, 8, 8, 8, 8, 8, 8, 8, 8, 8, 8, 8, 8, 8, 8, 8, 8, 8, 8, 8, 8, 8, 8, 8, 8, 8, 8, 8, 8, 8, 8, 8, 8, 8, 8, 8, 8, 8, 8, 8, 8, 8, 8, 8, 8, 8, 8, 8, 8, 8, 8, 8, 8, 8, 8, 8, 8, 8, 8, 8, 8, 8, 8, 8, 8, 8, 8, 8, 8, 8, 8, 8, 8, 8, 8, 8, 8, 8, 8, 8, 8, 8, 8, 8, 8, 8, 8, 8, 8, 8, 8, 8, 8, 8, 8, 8, 8, 8, 8, 8, 8, 8, 8, 8, 8, 8, 8, 8, 8, 8, 8, 8, 8, 8, 8, 8, 8, 8, 8, 8, 8, 8, 8, 8, 8, 8]⟩) (.int .u8 (IntKind.u8.wrap x_11)) h10 fun r13 =>
  intP r13 fun i14 =>
  R (.ret (.int .i64 (IntKind.i64.wrap (n_12 + (IntKind.i64.wrap i14))))) h10)))
theorem E_bits_Len64 {p0_x : Int} {R : Res → H → Prop} {h : H} (H0 : B_bits_Len64 p0_x R h) : T Tryz.prog F.bits_Len64 [.int .u64 p0_x] h R :=
  T_intro A_bits_Len64 Tryz.func32 (c := bodyOf Tryz.f32) (by kernel_rfl) (by kernel_rfl) (by kernel_rfl) (cast_of (by kernel_rfl) H0)

def A_graph_label : An := ⟨lkA [(0, rng 2), (1, rng 19)], lkL [], lkC []⟩
def B_graph_label (p0_e : List Value) (R : Res → H → Prop) (h : H) : Prop :=
  newP h (.cells ⟨p0_e⟩ 43 (0, 0)) fun b1 h2 =>
  ldI h2 ((bk b1).add 2) .i64 fun x3 =>
  ifP (decide (0 ≤ x3)) (ldI h2 ((bk b1).add 2) .i64 fun x4 =>
  ifP (decide (x4 ≤ 1048576)) (ldI h2 ((bk b1).add 3) .i64 fun x5 =>
  ifP (decide ((-1048576) ≤ x5)) (ldI h2 ((bk b1).add 3) .i64 fun x6 =>
  R (.ret (.bool (decide (x6 ≤ 1048576)))) h2) (R (.ret (.bool false)) h2)) (R (.ret (.bool false)) h2)) (R (.ret (.bool false)) h2)
theorem E_graph_label {p0_e : List Value} {R : Res → H → Prop} {h : H} (H0 : B_graph_label p0_e R h) : T Tryz.prog F.graph_label [.agg ⟨p0_e⟩] h R :=
  T_intro A_graph_label Tryz.func33 (c := bodyOf Tryz.f33) (by kernel_rfl) (by kernel_rfl) (by kernel_rfl) (cast_of (by kernel_rfl) H0)

def A_math_frexp : An := ⟨lkA [(0, rng 2), (1, rng 3), (2, rng 3), (3, rng 7), (4, rng 3), (5, rng 7), (6, rng 3), (7, rng 9), (8, rng 3), (9, rng 3), (10, rng 3)], lkL [], lkC []⟩
def B_math_frexp (p0_f : Value) (R : Res → H → Prop) (h : H) : Prop :=
  binP Tryz.prog .eql 31 (.tmp 6) (.const (.float .f64 0)) p0_f (.float .f64 0) h fun r1 =>
  boolP r1 fun b2 =>
  ifP b2 (R (.ret (.tuple ⟨[p0_f, .int .i64 0]⟩)) h)
  (T Tryz.prog F.math_IsInf [p0_f, .int .i64 0] h (rt (fun v3 h4 =>
  ∃ r5, v3 = .bool r5 ∧
  ifP r5 (R (.ret (.tuple ⟨[p0_f, .int .i64 0]⟩)) h4) (T Tryz.prog F.math_IsNaN [p0_f] h4 (rt (fun v6 h7 =>
  ∃ r8, v6 = .bool r8 ∧
  ifP r8 (R (.ret (.tuple ⟨[p0_f, .int .i64 0]⟩)) h7)
  (T Tryz.prog F.math_normalize [p0_f] h7 (rt (fun v9 h10 =>
  ∃ r11 : Value, ∃ r12 : Int, v9 = .tuple ⟨[r11, .int .i64 r12]⟩ ∧
  extP Tryz.prog F.math_Float64bits [r11] h10 (rt (fun v13 h14 =>
  ∃ r15, v13 = .int .u64 r15 ∧
  (0 : Int) ≤ 52 ∧
  extP Tryz.prog F.math_Float64frombits [.int .u64 (bitsI .or .u64 (bitsI .andNot .u64 r15 9218868437227405312) 4602678819172646912)] h14 (rt (fun v16 h17 =>
  R (.ret (.tuple ⟨[v16, .int .i64 (IntKind.i64.wrap (r12 + (IntKind.i64.wrap ((IntKind.i64.wrap ((IntKind.i64.wrap (bitsI .and .u64 (r15.fdiv (2 ^ (min (52 : Int).toNat 64))) 2047)) - 1023)) + 1))))]⟩)) h17) (fun v18 h19 => R (.pan v18) h19))) (fun v20 h21 => R (.pan v20) h21))) (fun v22 h23 => R (.pan v22) h23)))) (fun v24 h25 => R (.pan v24) h25)))) (fun v26 h27 => R (.pan v26) h27)))
theorem E_math_frexp {p0_f : Value} {R : Res → H → Prop} {h : H} (H0 : B_math_frexp p0_f R h) : T Tryz.prog F.math_frexp [p0_f] h R :=
  T_intro A_math_frexp Tryz.func35 (c := bodyOf Tryz.f35) (by kernel_rfl) (by kernel_rfl) (by kernel_rfl) (cast_of (by kernel_rfl) H0)

end Go.Proofs.YtjlojokockfapaaGreatDoor

namespace Go.Proofs.YtjlojokockfapaaGreatDoor
open Go
set_option linter.unusedVariables false
set_option maxRecDepth 100000

def A_mincost_net_reduced : An := ⟨lkA [(0, rng 1), (1, ⟨[0, 1, 2, 4, 7, 8, 9, 11, 12, 13, 15, 21, 22, 23, 25, 26, 27, 29, 3, 5, 6, 10, 14, 16, 17, 18, 19, 20, 24, 28, 30, 31, 32, 33, 34, 35], lkN []⟩)], lkL [], lkC []⟩
def B_mincost_net_reduced (p0_n : Value) (p1_a : Int) (R : Res → H → Prop) (h : H) : Prop :=
  ptrP p0_n fun a1 =>
  ptrP p0_n fun a2 =>
  ptrP p0_n fun a3 =>
  ptrP p0_n fun a4 =>
  ptrP p0_n fun a5 =>
  ldV h (a1.add 3) fun x6 =>
  ixS x6 p1_a 1 fun a7 =>
  ldI h a7 .i64 fun x8 =>
  ldV h (a2.add 6) fun x9 =>
  ldV h (a3.add 0) fun x10 =>
  ixS x10 p1_a 1 fun a11 =>
  ldI h a11 .i64 fun x12 =>
  ixS x9 x12 1 fun a13 =>
  ldI h a13 .i64 fun x14 =>
  ldV h (a4.add 6) fun x15 =>
  ldV h (a5.add 1) fun x16 =>
  ixS x16 p1_a 1 fun a17 =>
  ldI h a17 .i64 fun x18 =>
  ixS x15 x18 1 fun a19 =>
  ldI h a19 .i64 fun x20 =>
  R (.ret (.int .i64 (IntKind.i64.wrap ((IntKind.i64.wrap (x8 + x14)) - x20)))) h
theorem E_mincost_net_reduced {p0_n : Value} {p1_a : Int} {R : Res → H → Prop} {h : H} (H0 : B_mincost_net_reduced p0_n p1_a R h) : T Tryz.prog F.mincost_net_reduced [p0_n, .int .i64 p1_a] h R :=
  T_intro A_mincost_net_reduced Tryz.func52 (c := bodyOf Tryz.f52) (by kernel_rfl) (by kernel_rfl) (by kernel_rfl) (cast_of (by kernel_rfl) H0)

def A_mincost_ways_meet : An := ⟨lkA [(0, rng 1), (1, rng 1), (2, rng 8), (3, rng 3), (4, rng 9), (5, ⟨[0, 2, 3, 8, 1, 4, 5, 6, 7, 9, 10, 11], lkN []⟩), (6, rng 2), (7, rng 9), (8, rng 2), (9, rng 6), (10, rng 3), (11, rng 1), (12, rng 5), (13, ⟨[0, 5, 8, 9, 10, 11, 1, 2, 3, 4, 6, 7, 12, 13, 14, 15, 16], lkN []⟩), (14, rng 2), (15, rng 5)], lkL [(2, [(2, .int .i64)]), (6, []), (11, [(56, .int .i64)])], lkC [(10, [])]⟩
def B_mincost_ways_meet (p0_w : List Value) (R : Res → H → Prop) (h : H) : Prop :=
  newP h (.cells ⟨p0_w⟩ 67 (0, 0)) fun b1 h2 =>
  ∃ (I3 : (Int × Unit) → H → Prop) (r4 : (Int × Unit) × H → (Int × Unit) × H → Prop), WellFounded r4 ∧ I3 (0, ()) h2 ∧
  ∀ (a_6 : Int) (h5 : H), I3 (a_6, ()) h5 →
  ldV h5 ((bk b1).add 0) fun x7 =>
  ptrP x7 fun a8 =>
  ldV h5 (a8.add 1) fun x9 =>
  slcP x9 fun a10 l11 c12 =>
  ifP (decide (a_6 < ((l11 : Nat) : Int))) (ldV h5 ((bk b1).add 0) fun x13 =>
  ptrP x13 fun a14 =>
  ldV h5 (a14.add 3) fun x15 =>
  ixS x15 a_6 1 fun a16 =>
  ldI h5 a16 .i64 fun x17 =>
  ifP (decide (x17 < 0)) (ldV h5 ((bk b1).add 0) fun x18 =>
  ldV h5 ((bk b1).add 0) fun x19 =>
  ptrP x19 fun a20 =>
  ldV h5 (a20.add 2) fun x21 =>
  ixS x21 a_6 1 fun a22 =>
  ldI h5 a22 .i64 fun x23 =>
  T Tryz.prog F.mincost_net_send [x18, .int .i64 a_6, .int .i64 x23] h5 (rt (fun v24 h25 =>
  v24 = .tuple ⟨[]⟩ ∧
  I3 ((IntKind.i64.wrap (a_6 + 2)), ()) h25 ∧ r4 (((IntKind.i64.wrap (a_6 + 2)), ()), h25) ((a_6, ()), h5)) (fun v26 h27 => R (.pan v26) h27)))
  (I3 ((IntKind.i64.wrap (a_6 + 2)), ()) h5 ∧ r4 (((IntKind.i64.wrap (a_6 + 2)), ()), h5) ((a_6, ()), h5)))
  (∃ (I28 : (Unit) → H → Prop) (r29 : (Unit) × H → (Unit) × H → Prop), WellFounded r29 ∧ I28 (()) h5 ∧
  ∀  (h30 : H), I28 (()) h30 →
  ldN h30 (bk b1) 1 fun x31 =>
  T Tryz.prog F.mincost_ways_missing [.agg ⟨x31⟩] h30 (rt (fun v32 h33 =>
  ∃ r34, v32 = .bool r34 ∧
  ifP r34 (ldN h33 (bk b1) 1 fun x35 =>
  T Tryz.prog F.mincost_ways_cheapest [.agg ⟨x35⟩] h33 (rt (fun v36 h37 =>
  ∃ r38 : Value, ∃ r39 : Value, ∃ r40 : Int, v36 = .tuple ⟨[r38, r39, .int .i64 r40]⟩ ∧
  ∃ J41 : (Unit) → H → Prop, (ifP (decide (r40 < 0)) (ldV h37 ((bk b1).add 0) fun x43 =>
  T Tryz.prog F.mincost_net_reached [x43] h37 (rt (fun v44 h45 =>
  oneP v44 (R (.pan (.iface 73 (.agg ⟨[v44]⟩))) h45)) (fun v46 h47 => R (.pan v46) h47)))
  (J41 (()) h37)) ∧
  (∀  (h42 : H), J41 (()) h42 →
  slcP r38 fun a48 l49 c50 =>
  ∃ (I51 : (Int × Unit) → H → Prop) (r52 : (Int × Unit) × H → (Int × Unit) × H → Prop), WellFounded r52 ∧ I51 (0, ()) h42 ∧
  ∀ (s54 : Int) (h53 : H), I51 (s54, ()) h53 →
  ifP (decide (s54 < ((l49 : Nat) : Int))) (ixS r38 s54 1 fun a55 =>
  ldI h53 a55 .i64 fun x56 =>
  ixS r38 r40 1 fun a57 =>
  ldV h53 ((bk b1).add 0) fun x58 =>
  ptrP x58 fun a59 =>
  ldV h53 (a59.add 6) fun x60 =>
  ixS x60 s54 1 fun a61 =>
  ldI h53 a61 .i64 fun x62 =>
  ldI h53 a57 .i64 fun x63 =>
  ixS x60 s54 1 fun a64 =>
  stC h53 a64 (.int .i64 (IntKind.i64.wrap (x62 + (if x63 < x56 then x63 else x56)))) fun h65 =>
  I51 ((IntKind.i64.wrap (s54 + 1)), ()) h65 ∧ r52 (((IntKind.i64.wrap (s54 + 1)), ()), h65) ((s54, ()), h53))
  (ldV h53 ((bk b1).add 0) fun x66 =>
  T Tryz.prog F.mincost_net_carry [x66, r39, .int .i64 r40] h53 (rt (fun v67 h68 =>
  v67 = .tuple ⟨[]⟩ ∧
  I28 (()) h68 ∧ r29 ((()), h68) ((()), h30)) (fun v69 h70 => R (.pan v69) h70))))) (fun v71 h72 => R (.pan v71) h72)))
  (R (.ret (.tuple ⟨[]⟩)) h33)) (fun v73 h74 => R (.pan v73) h74)))
theorem E_mincost_ways_meet {p0_w : List Value} {R : Res → H → Prop} {h : H} (H0 : B_mincost_ways_meet p0_w R h) : T Tryz.prog F.mincost_ways_meet [.agg ⟨p0_w⟩] h R :=
  T_intro A_mincost_ways_meet Tryz.func53 (c := bodyOf Tryz.f53) (by kernel_rfl) (by kernel_rfl) (by kernel_rfl) (cast_of (by kernel_rfl) H0)

def A_mincost_net_send : An := ⟨lkA [(0, rng 11), (1, rng 12), (2, ⟨[0, 1, 2, 4, 5, 6, 8, 13, 3, 7, 9, 10, 11, 12, 14, 15, 16], lkN []⟩), (3, ⟨[0, 1, 2, 4, 5, 6, 8, 13, 3, 7, 9, 10, 11, 12, 14, 15, 16], lkN []⟩)], lkL [], lkC []⟩
def B_mincost_net_send (p0_n : Value) (p1_a : Int) (p2_x : Int) (R : Res → H → Prop) (h : H) : Prop :=
  ptrP p0_n fun a1 =>
  ldV h (a1.add 2) fun x2 =>
  ixS x2 p1_a 1 fun a3 =>
  ldI h a3 .i64 fun x4 =>
  ixS x2 p1_a 1 fun a5 =>
  stC h a5 (.int .i64 (IntKind.i64.wrap (x4 - p2_x))) fun h6 =>
  ptrP p0_n fun a7 =>
  ldV h6 (a7.add 2) fun x8 =>
  ixS x8 (bitsI .xor .i64 p1_a 1) 1 fun a9 =>
  ldI h6 a9 .i64 fun x10 =>
  ixS x8 (bitsI .xor .i64 p1_a 1) 1 fun a11 =>
  stC h6 a11 (.int .i64 (IntKind.i64.wrap (x10 + p2_x))) fun h12 =>
  ptrP p0_n fun a13 =>
  ptrP p0_n fun a14 =>
  ldV h12 (a13.add 5) fun x15 =>
  ldV h12 (a14.add 0) fun x16 =>
  ixS x16 p1_a 1 fun a17 =>
  ldI h12 a17 .i64 fun x18 =>
  ixS x15 x18 1 fun a19 =>
  ldI h12 a19 .i64 fun x20 =>
  ixS x15 x18 1 fun a21 =>
  stC h12 a21 (.int .i64 (IntKind.i64.wrap (x20 - p2_x))) fun h22 =>
  ptrP p0_n fun a23 =>
  ptrP p0_n fun a24 =>
  ldV h22 (a23.add 5) fun x25 =>
  ldV h22 (a24.add 1) fun x26 =>
  ixS x26 p1_a 1 fun a27 =>
  ldI h22 a27 .i64 fun x28 =>
  ixS x25 x28 1 fun a29 =>
  ldI h22 a29 .i64 fun x30 =>
  ixS x25 x28 1 fun a31 =>
  stC h22 a31 (.int .i64 (IntKind.i64.wrap (x30 + p2_x))) fun h32 =>
  R (.ret (.tuple ⟨[]⟩)) h32
theorem E_mincost_net_send {p0_n : Value} {p1_a : Int} {p2_x : Int} {R : Res → H → Prop} {h : H} (H0 : B_mincost_net_send p0_n p1_a p2_x R h) : T Tryz.prog F.mincost_net_send [p0_n, .int .i64 p1_a, .int .i64 p2_x] h R :=
  T_intro A_mincost_net_send Tryz.func54 (c := bodyOf Tryz.f54) (by kernel_rfl) (by kernel_rfl) (by kernel_rfl) (cast_of (by kernel_rfl) H0)

def A_mincost_ways_missing : An := ⟨lkA [(0, rng 2), (1, rng 7), (2, rng 1), (3, rng 3), (4, rng 2), (5, rng 1), (6, rng 2), (7, rng 1)], lkL [(2, [(11, .int .i64)])], lkC []⟩
def B_mincost_ways_missing (p0_w : List Value) (R : Res → H → Prop) (h : H) : Prop :=
  newP h (.cells ⟨p0_w⟩ 67 (0, 0)) fun b1 h2 =>
  ldV h2 ((bk b1).add 0) fun x3 =>
  ptrP x3 fun a4 =>
  ldV h2 (a4.add 5) fun x5 =>
  slcP x5 fun a6 l7 c8 =>
  ∃ (I9 : (Int × Unit) → H → Prop) (r10 : (Int × Unit) × H → (Int × Unit) × H → Prop), WellFounded r10 ∧ I9 (0, ()) h2 ∧
  ∀ (s12 : Int) (h11 : H), I9 (s12, ()) h11 →
  ifP (decide (s12 < ((l7 : Nat) : Int))) (ixS x5 s12 1 fun a13 =>
  ldI h11 a13 .i64 fun x14 =>
  ifP (decide (0 < x14)) (R (.ret (.bool true)) h11)
  (I9 ((IntKind.i64.wrap (s12 + 1)), ()) h11 ∧ r10 (((IntKind.i64.wrap (s12 + 1)), ()), h11) ((s12, ()), h11)))
  (R (.ret (.bool false)) h11)
theorem E_mincost_ways_missing {p0_w : List Value} {R : Res → H → Prop} {h : H} (H0 : B_mincost_ways_missing p0_w R h) : T Tryz.prog F.mincost_ways_missing [.agg ⟨p0_w⟩] h R :=
  T_intro A_mincost_ways_missing Tryz.func55 (c := bodyOf Tryz.f55) (by kernel_rfl) (by kernel_rfl) (by kernel_rfl) (cast_of (by kernel_rfl) H0)

def A_mincost_ways_cheapest : An := ⟨lkA [(0, rng 4), (1, rng 7), (2, ⟨[0, 2, 1, 4, 3, 5], lkN []⟩), (3, rng 7), (4, rng 3), (5, rng 1), (6, rng 2), (7, rng 8), (8, rng 9), (9, rng 4), (10, rng 3), (11, rng 2), (12, rng 1), (13, rng 3), (14, rng 9), (15, rng 13), (16, rng 2), (17, rng 10), (18, rng 1), (19, rng 3), (20, rng 9), (21, ⟨[0, 1, 2, 4, 5, 7, 3, 6, 8, 9, 10, 11], lkN [(8, [3])]⟩), (22, rng 14), (23, rng 10), (24, rng 2), (25, rng 4), (26, rng 4), (27, rng 2), (28, rng 6)], lkL [(5, [(37, .int .i64)]), (13, [(11, .int .i64)]), (18, [(94, .int .i64)])], lkC [(17, [(11, .int .i64)])]⟩
def B_mincost_ways_cheapest (p0_w : List Value) (R : Res → H → Prop) (h : H) : Prop :=
  newP h (.cells ⟨p0_w⟩ 67 (0, 0)) fun b1 h2 =>
  ldV h2 ((bk b1).add 0) fun x3 =>
  ptrP x3 fun a4 =>
  ldV h2 (a4.add 4) fun x5 =>
  slcP x5 fun a6 l7 c8 =>
  mkS ((l7 : Nat) : Int) ((l7 : Nat) : Int) 8 [.int .i64 0] 2 h2 fun b9 h10 =>
  mkS ((l7 : Nat) : Int) ((l7 : Nat) : Int) 8 [.int .i64 0] 3 h10 fun b11 h12 =>
  T Tryz.prog F.heaps_New [.int .i64 3, .int .i64 ((l7 : Nat) : Int)] h12 (rt (fun v13 h14 =>
  ∃ r15 : Value, ∃ r16 : Int, v13 = .tuple ⟨[r15, .int .i64 r16]⟩ ∧
  ∃ (I17 : (Int × Unit) → H → Prop) (r18 : (Int × Unit) × H → (Int × Unit) × H → Prop), WellFounded r18 ∧ I17 (0, ()) h14 ∧
  ∀ (s20 : Int) (h19 : H), I17 (s20, ()) h19 →
  ifP (decide (s20 < ((((l7 : Nat) : Int).toNat : Nat) : Int))) (ixS (.slice (some (bk b9)) (((l7 : Nat) : Int).toNat) (((l7 : Nat) : Int).toNat)) s20 1 fun a21 =>
  stC h19 a21 (.int .i64 4611686018427387904) fun h22 =>
  ixS (.slice (some (bk b11)) (((l7 : Nat) : Int).toNat) (((l7 : Nat) : Int).toNat)) s20 1 fun a23 =>
  stC h22 a23 (.int .i64 (-1)) fun h24 =>
  ldV h24 ((bk b1).add 0) fun x25 =>
  ptrP x25 fun a26 =>
  ldV h24 (a26.add 5) fun x27 =>
  ixS x27 s20 1 fun a28 =>
  ldI h24 a28 .i64 fun x29 =>
  ifP (decide (0 < x29)) (ixS (.slice (some (bk b9)) (((l7 : Nat) : Int).toNat) (((l7 : Nat) : Int).toNat)) s20 1 fun a30 =>
  stC h24 a30 (.int .i64 0) fun h31 =>
  T Tryz.prog F.heaps_Queue_Push [r15, .int .i64 s20, .int .i64 0] h31 (rt (fun v32 h33 =>
  ∃ r34, v32 = .int .i64 r34 ∧
  I17 ((IntKind.i64.wrap (s20 + 1)), ()) h33 ∧ r18 (((IntKind.i64.wrap (s20 + 1)), ()), h33) ((s20, ()), h19)) (fun v35 h36 => R (.pan v35) h36)))
  (I17 ((IntKind.i64.wrap (s20 + 1)), ()) h24 ∧ r18 (((IntKind.i64.wrap (s20 + 1)), ()), h24) ((s20, ()), h19)))
  (∃ (I37 : (Int × Unit) → H → Prop) (r38 : (Int × Unit) × H → (Int × Unit) × H → Prop), WellFounded r38 ∧ I37 ((-1), ()) h19 ∧
  ∀ (found_40 : Int) (h39 : H), I37 (found_40, ()) h39 →
  T Tryz.prog F.heaps_Queue_Len [r15] h39 (rt (fun v41 h42 =>
  ∃ r43, v41 = .int .i64 r43 ∧
  ifP (decide (0 < r43)) (T Tryz.prog F.heaps_Queue_Pop [r15] h42 (rt (fun v44 h45 =>
  ∃ r46 : Int, ∃ r47 : Int, ∃ r48 : Int, v44 = .tuple ⟨[.int .i64 r46, .int .i64 r47, .int .i64 r48]⟩ ∧
  ∃ J49 : (Int × Unit) → H → Prop, (ldV h45 ((bk b1).add 0) fun x52 =>
  ptrP x52 fun a53 =>
  ldV h45 (a53.add 5) fun x54 =>
  ixS x54 r46 1 fun a55 =>
  ldI h45 a55 .i64 fun x56 =>
  ifP (decide (x56 < 0)) (ifP (decide (found_40 < 0)) (J49 (r46, ()) h45)
  (J49 (found_40, ()) h45)) (J49 (found_40, ()) h45)) ∧
  (∀ (found_51 : Int) (h50 : H), J49 (found_51, ()) h50 →
  ldV h50 ((bk b1).add 0) fun x57 =>
  ptrP x57 fun a58 =>
  ldV h50 (a58.add 4) fun x59 =>
  ixS x59 r46 1 fun a60 =>
  ldV h50 a60 fun x61 =>
  slcP x61 fun a62 l63 c64 =>
  ∃ (I65 : (Int × Unit) → H → Prop) (r66 : (Int × Unit) × H → (Int × Unit) × H → Prop), WellFounded r66 ∧ I65 (0, ()) h50 ∧
  ∀ (s68 : Int) (h67 : H), I65 (s68, ()) h67 →
  ifP (decide (s68 < ((l63 : Nat) : Int))) (ixS x61 s68 1 fun a69 =>
  ldI h67 a69 .i64 fun x70 =>
  ldV h67 ((bk b1).add 0) fun x71 =>
  ptrP x71 fun a72 =>
  ldV h67 (a72.add 1) fun x73 =>
  ixS x73 x70 1 fun a74 =>
  ldI h67 a74 .i64 fun x75 =>
  ixS (.slice (some (bk b9)) (((l7 : Nat) : Int).toNat) (((l7 : Nat) : Int).toNat)) x75 1 fun a76 =>
  ldI h67 a76 .i64 fun x77 =>
  ldV h67 ((bk b1).add 0) fun x78 =>
  T Tryz.prog F.mincost_net_reduced [x78, .int .i64 x70] h67 (rt (fun v79 h80 =>
  ∃ r81, v79 = .int .i64 r81 ∧
  (sameAt 2 a76 h67 h80) ∧
  ldV h80 ((bk b1).add 0) fun x82 =>
  ptrP x82 fun a83 =>
  ldV h80 (a83.add 2) fun x84 =>
  ixS x84 x70 1 fun a85 =>
  ldI h80 a85 .i64 fun x86 =>
  ifP (decide (x86 = 0)) (I65 ((IntKind.i64.wrap (s68 + 1)), ()) h80 ∧ r66 (((IntKind.i64.wrap (s68 + 1)), ()), h80) ((s68, ()), h67)) (ifP (decide (x77 ≤ (IntKind.i64.wrap (r47 + r81)))) (I65 ((IntKind.i64.wrap (s68 + 1)), ()) h80 ∧ r66 (((IntKind.i64.wrap (s68 + 1)), ()), h80) ((s68, ()), h67))
  (ixS (.slice (some (bk b9)) (((l7 : Nat) : Int).toNat) (((l7 : Nat) : Int).toNat)) x75 1 fun a87 =>
  stC h80 a87 (.int .i64 (IntKind.i64.wrap (r47 + r81))) fun h88 =>
  ixS (.slice (some (bk b11)) (((l7 : Nat) : Int).toNat) (((l7 : Nat) : Int).toNat)) x75 1 fun a89 =>
  stC h88 a89 (.int .i64 x70) fun h90 =>
  ifP (decide (x77 = 4611686018427387904)) (T Tryz.prog F.heaps_Queue_Push [r15, .int .i64 x75, .int .i64 (IntKind.i64.wrap (r47 + r81))] h90 (rt (fun v91 h92 =>
  ∃ r93, v91 = .int .i64 r93 ∧
  I65 ((IntKind.i64.wrap (s68 + 1)), ()) h92 ∧ r66 (((IntKind.i64.wrap (s68 + 1)), ()), h92) ((s68, ()), h67)) (fun v94 h95 => R (.pan v94) h95)))
  (T Tryz.prog F.heaps_Queue_Lower [r15, .int .i64 x75, .int .i64 (IntKind.i64.wrap (r47 + r81))] h90 (rt (fun v96 h97 =>
  ∃ r98, v96 = .int .i64 r98 ∧
  I65 ((IntKind.i64.wrap (s68 + 1)), ()) h97 ∧ r66 (((IntKind.i64.wrap (s68 + 1)), ()), h97) ((s68, ()), h67)) (fun v99 h100 => R (.pan v99) h100)))))) (fun v101 h102 => R (.pan v101) h102)))
  (I37 (found_51, ()) h67 ∧ r38 ((found_51, ()), h67) ((found_40, ()), h39)))) (fun v103 h104 => R (.pan v103) h104)))
  (R (.ret (.tuple ⟨[.slice (some (bk b9)) (((l7 : Nat) : Int).toNat) (((l7 : Nat) : Int).toNat), .slice (some (bk b11)) (((l7 : Nat) : Int).toNat) (((l7 : Nat) : Int).toNat), .int .i64 found_40]⟩)) h42)) (fun v105 h106 => R (.pan v105) h106)))) (fun v107 h108 => R (.pan v107) h108))
theorem E_mincost_ways_cheapest {p0_w : List Value} {R : Res → H → Prop} {h : H} (H0 : B_mincost_ways_cheapest p0_w R h) : T Tryz.prog F.mincost_ways_cheapest [.agg ⟨p0_w⟩] h R :=
  T_intro A_mincost_ways_cheapest Tryz.func56 (c := bodyOf Tryz.f56) (by kernel_rfl) (by kernel_rfl) (by kernel_rfl) (cast_of (by kernel_rfl) H0)

def A_mincost_net_reached : An := ⟨lkA [(0, rng 1), (1, rng 7), (2, rng 1), (3, rng 6), (4, rng 1), (5, rng 5), (6, rng 2), (7, rng 4), (8, rng 5), (9, rng 2), (10, rng 3), (11, rng 7), (12, rng 6), (13, rng 9), (14, rng 1), (15, rng 3), (16, rng 8), (17, rng 15), (18, rng 4), (19, rng 5), (20, rng 2), (21, rng 2)], lkL [(4, [(4, .val), (22, .int .i64)]), (10, [(4, .val)]), (14, [(4, .val), (59, .int .i64)])], lkC []⟩
def B_mincost_net_reached (p0_n : Value) (R : Res → H → Prop) (h : H) : Prop :=
  ptrP p0_n fun a1 =>
  ldV h (a1.add 4) fun x2 =>
  slcP x2 fun a3 l4 c5 =>
  mkS ((l4 : Nat) : Int) ((l4 : Nat) : Int) 1 [.bool false] 4 h fun b6 h7 =>
  ptrP p0_n fun a8 =>
  ldV h7 (a8.add 5) fun x9 =>
  slcP x9 fun a10 l11 c12 =>
  ∃ (I13 : (Value × Int × Unit) → H → Prop) (r14 : (Value × Int × Unit) × H → (Value × Int × Unit) × H → Prop), WellFounded r14 ∧ I13 ((.slice none 0 0 : Value), 0, ()) h7 ∧
  ∀ (stack_16 : Value) (s17 : Int) (h15 : H), I13 (stack_16, s17, ()) h15 →
  ifP (decide (s17 < ((l11 : Nat) : Int))) (ixS x9 s17 1 fun a18 =>
  ldI h15 a18 .i64 fun x19 =>
  ifP (decide (0 < x19)) (ixS (.slice (some (bk b6)) (((l4 : Nat) : Int).toNat) (((l4 : Nat) : Int).toNat)) s17 1 fun a20 =>
  stC h15 a20 (.bool true) fun h21 =>
  newP h21 (.cells ⟨[.int .i64 s17]⟩ 3 (0, 0)) fun b22 h23 =>
  apP stack_16 (.slice (some (bk b22)) 1 1) h23 1 3 8 [.int .i64 0] fun s24 h25 =>
  I13 (s24, (IntKind.i64.wrap (s17 + 1)), ()) h25 ∧ r14 ((s24, (IntKind.i64.wrap (s17 + 1)), ()), h25) ((stack_16, s17, ()), h15))
  (I13 (stack_16, (IntKind.i64.wrap (s17 + 1)), ()) h15 ∧ r14 ((stack_16, (IntKind.i64.wrap (s17 + 1)), ()), h15) ((stack_16, s17, ()), h15)))
  (∃ (I26 : (Value × Unit) → H → Prop) (r27 : (Value × Unit) × H → (Value × Unit) × H → Prop), WellFounded r27 ∧ I26 (stack_16, ()) h15 ∧
  ∀ (stack_29 : Value) (h28 : H), I26 (stack_29, ()) h28 →
  slcP stack_29 fun a30 l31 c32 =>
  ifP (decide (0 < ((l31 : Nat) : Int))) (slcP stack_29 fun a33 l34 c35 =>
  ixS stack_29 (IntKind.i64.wrap (((l34 : Nat) : Int) - 1)) 1 fun a36 =>
  ldI h28 a36 .i64 fun x37 =>
  slcP stack_29 fun a38 l39 c40 =>
  slcP stack_29 fun a41 l42 c43 =>
  (0 : Int) ≤ (IntKind.i64.wrap (((l39 : Nat) : Int) - 1)) ∧ (IntKind.i64.wrap (((l39 : Nat) : Int) - 1)) ≤ ((c43 : Nat) : Int) ∧
  (0 : Int) ≤ (0 : Int) ∧ (0 : Int) ≤ (IntKind.i64.wrap (((l39 : Nat) : Int) - 1)) ∧
  ptrP p0_n fun a44 =>
  ldV h28 (a44.add 4) fun x45 =>
  ixS x45 x37 1 fun a46 =>
  ldV h28 a46 fun x47 =>
  slcP x47 fun a48 l49 c50 =>
  ∃ (I51 : (Value × Int × Unit) → H → Prop) (r52 : (Value × Int × Unit) × H → (Value × Int × Unit) × H → Prop), WellFounded r52 ∧ I51 ((sliceV a41 c43 (0 : Int) (IntKind.i64.wrap (((l39 : Nat) : Int) - 1)) 1), 0, ()) h28 ∧
  ∀ (stack_54 : Value) (s55 : Int) (h53 : H), I51 (stack_54, s55, ()) h53 →
  ifP (decide (s55 < ((l49 : Nat) : Int))) (ixS x47 s55 1 fun a56 =>
  ldI h53 a56 .i64 fun x57 =>
  ptrP p0_n fun a58 =>
  ldV h53 (a58.add 1) fun x59 =>
  ixS x59 x57 1 fun a60 =>
  ldI h53 a60 .i64 fun x61 =>
  ptrP p0_n fun a62 =>
  ldV h53 (a62.add 2) fun x63 =>
  ixS x63 x57 1 fun a64 =>
  ldI h53 a64 .i64 fun x65 =>
  ifP (decide (0 < x65)) (ixS (.slice (some (bk b6)) (((l4 : Nat) : Int).toNat) (((l4 : Nat) : Int).toNat)) x61 1 fun a66 =>
  ldB h53 a66 fun x67 =>
  ifP (!x67) (ixS (.slice (some (bk b6)) (((l4 : Nat) : Int).toNat) (((l4 : Nat) : Int).toNat)) x61 1 fun a68 =>
  stC h53 a68 (.bool true) fun h69 =>
  newP h69 (.cells ⟨[.int .i64 x61]⟩ 3 (0, 0)) fun b70 h71 =>
  apP stack_54 (.slice (some (bk b70)) 1 1) h71 1 3 8 [.int .i64 0] fun s72 h73 =>
  I51 (s72, (IntKind.i64.wrap (s55 + 1)), ()) h73 ∧ r52 ((s72, (IntKind.i64.wrap (s55 + 1)), ()), h73) ((stack_54, s55, ()), h53))
  (I51 (stack_54, (IntKind.i64.wrap (s55 + 1)), ()) h53 ∧ r52 ((stack_54, (IntKind.i64.wrap (s55 + 1)), ()), h53) ((stack_54, s55, ()), h53))) (I51 (stack_54, (IntKind.i64.wrap (s55 + 1)), ()) h53 ∧ r52 ((stack_54, (IntKind.i64.wrap (s55 + 1)), ()), h53) ((stack_54, s55, ()), h53)))
  (I26 (stack_54, ()) h53 ∧ r27 ((stack_54, ()), h53) ((stack_29, ()), h28)))
  (R (.ret (.slice (some (bk b6)) (((l4 : Nat) : Int).toNat) (((l4 : Nat) : Int).toNat))) h28))
theorem E_mincost_net_reached {p0_n : Value} {R : Res → H → Prop} {h : H} (H0 : B_mincost_net_reached p0_n R h) : T Tryz.prog F.mincost_net_reached [p0_n] h R :=
  T_intro A_mincost_net_reached Tryz.func57 (c := bodyOf Tryz.f57) (by kernel_rfl) (by kernel_rfl) (by kernel_rfl) (cast_of (by kernel_rfl) H0)

def A_mincost_net_carry : An := ⟨lkA [(0, rng 9), (1, rng 2), (2, rng 5), (3, ⟨[0, 1, 2, 3, 5, 6, 7, 4, 8, 9, 10, 11, 12], lkN []⟩), (4, ⟨[0, 1, 2, 4, 5, 6, 3, 7, 8, 9, 10], lkN []⟩), (5, rng 10), (6, rng 5), (7, rng 7), (8, ⟨[0, 1, 2, 4, 5, 6, 3, 7, 8, 9, 10], lkN []⟩)], lkL [(2, [(6, .int .i64), (7, .int .i64)]), (6, [(2, .int .i64)])], lkC []⟩
def B_mincost_net_carry (p0_n : Value) (p1_via : Value) (p2_v : Int) (R : Res → H → Prop) (h : H) : Prop :=
  ptrP p0_n fun a1 =>
  ldV h (a1.add 5) fun x2 =>
  ixS x2 p2_v 1 fun a3 =>
  ldI h a3 .i64 fun x4 =>
  ∃ (I5 : (Int × Int × Unit) → H → Prop) (r6 : (Int × Int × Unit) × H → (Int × Int × Unit) × H → Prop), WellFounded r6 ∧ I5 ((IntKind.i64.wrap (0 - x4)), p2_v, ()) h ∧
  ∀ (x_8 : Int) (u_9 : Int) (h7 : H), I5 (x_8, u_9, ()) h7 →
  ixS p1_via u_9 1 fun a10 =>
  ldI h7 a10 .i64 fun x11 =>
  ifP (decide (0 ≤ x11)) (ptrP p0_n fun a12 =>
  ixS p1_via u_9 1 fun a13 =>
  ldV h7 (a12.add 2) fun x14 =>
  ldI h7 a13 .i64 fun x15 =>
  ixS x14 x15 1 fun a16 =>
  ldI h7 a16 .i64 fun x17 =>
  ptrP p0_n fun a18 =>
  ixS p1_via u_9 1 fun a19 =>
  ldV h7 (a18.add 0) fun x20 =>
  ldI h7 a19 .i64 fun x21 =>
  ixS x20 x21 1 fun a22 =>
  ldI h7 a22 .i64 fun x23 =>
  I5 ((if x17 < x_8 then x17 else x_8), x23, ()) h7 ∧ r6 (((if x17 < x_8 then x17 else x_8), x23, ()), h7) ((x_8, u_9, ()), h7))
  (ptrP p0_n fun a24 =>
  ldV h7 (a24.add 5) fun x25 =>
  ixS x25 u_9 1 fun a26 =>
  ldI h7 a26 .i64 fun x27 =>
  ∃ (I28 : (Int × Unit) → H → Prop) (r29 : (Int × Unit) × H → (Int × Unit) × H → Prop), WellFounded r29 ∧ I28 (p2_v, ()) h7 ∧
  ∀ (v_31 : Int) (h30 : H), I28 (v_31, ()) h30 →
  ixS p1_via v_31 1 fun a32 =>
  ldI h30 a32 .i64 fun x33 =>
  ifP (decide (0 ≤ x33)) (ixS p1_via v_31 1 fun a34 =>
  ldI h30 a34 .i64 fun x35 =>
  T Tryz.prog F.mincost_net_send [p0_n, .int .i64 x35, .int .i64 (if x27 < x_8 then x27 else x_8)] h30 (rt (fun v36 h37 =>
  v36 = .tuple ⟨[]⟩ ∧
  ptrP p0_n fun a38 =>
  ixS p1_via v_31 1 fun a39 =>
  ldV h37 (a38.add 0) fun x40 =>
  ldI h37 a39 .i64 fun x41 =>
  ixS x40 x41 1 fun a42 =>
  ldI h37 a42 .i64 fun x43 =>
  I28 (x43, ()) h37 ∧ r29 ((x43, ()), h37) ((v_31, ()), h30)) (fun v44 h45 => R (.pan v44) h45)))
  (R (.ret (.tuple ⟨[]⟩)) h30))
theorem E_mincost_net_carry {p0_n : Value} {p1_via : Value} {p2_v : Int} {R : Res → H → Prop} {h : H} (H0 : B_mincost_net_carry p0_n p1_via p2_v R h) : T Tryz.prog F.mincost_net_carry [p0_n, p1_via, .int .i64 p2_v] h R :=
  T_intro A_mincost_net_carry Tryz.func58 (c := bodyOf Tryz.f58) (by kernel_rfl) (by kernel_rfl) (by kernel_rfl) (cast_of (by kernel_rfl) H0)

def A_heaps_New : An := ⟨lkA [(0, rng 2), (1, rng 6), (2, rng 2), (3, rng 6), (4, rng 2), (5, ⟨[0, 1, 3, 2, 4, 5, 6, 7, 8], lkN []⟩), (6, rng 1), (7, rng 2), (8, rng 12), (9, rng 2), (10, rng 12), (11, rng 2), (12, rng 12), (13, rng 2), (14, rng 8), (15, rng 3)], lkL [], lkC []⟩
def B_heaps_New (p0_kind : Int) (p1_n : Int) (R : Res → H → Prop) (h : H) : Prop :=
  ifP (decide (p0_kind < 1)) (R (.ret (.tuple ⟨[.pointer none, .int .i64 50]⟩)) h) (ifP (decide (4 < p0_kind)) (R (.ret (.tuple ⟨[.pointer none, .int .i64 50]⟩)) h)
  (ifP (decide (p1_n < 0)) (R (.ret (.tuple ⟨[.pointer none, .int .i64 3]⟩)) h) (ifP (decide (1024 < p1_n)) (R (.ret (.tuple ⟨[.pointer none, .int .i64 3]⟩)) h)
  (mkS p1_n p1_n 8 [.int .i64 0] 2 h fun b1 h2 =>
  mkS p1_n p1_n 1 [.bool false] 4 h2 fun b3 h4 =>
  ([.slice (some (bk b1)) p1_n.toNat p1_n.toNat, .slice (some (bk b3)) p1_n.toNat p1_n.toNat] : List Value).length = 2 ∧
  newP h4 (.cells ⟨[.slice (some (bk b1)) p1_n.toNat p1_n.toNat, .slice (some (bk b3)) p1_n.toNat p1_n.toNat, .nilIface, .int .i64 0, .int .i64 p0_kind, .int .i64 0]⟩ 139 (0, 0)) fun b5 h6 =>
  ifP (decide (p0_kind = 1)) (mkS p1_n p1_n 8 [.int .i64 0] 3 h6 fun b7 h8 =>
  newP h8 (.cells ⟨[.pointer (some ((bk b5).add 0)), .slice none 0 0, .slice (some (bk b7)) p1_n.toNat p1_n.toNat]⟩ 143 (0, 0)) fun b9 h10 =>
  stC h10 ((bk b5).add 2) (.iface 140 (.pointer (some (bk b9)))) fun h11 =>
  R (.ret (.tuple ⟨[.pointer (some (bk b5)), .int .i64 0]⟩)) h11)
  (ifP (decide (p0_kind = 2)) (mkS p1_n p1_n 24 [.int .i64 0, .int .i64 0, .int .i64 0] 182 h6 fun b12 h13 =>
  newP h13 (.cells ⟨[.pointer (some ((bk b5).add 0)), .int .i64 (-1), .slice (some (bk b12)) p1_n.toNat p1_n.toNat]⟩ 147 (0, 0)) fun b14 h15 =>
  stC h15 ((bk b5).add 2) (.iface 144 (.pointer (some (bk b14)))) fun h16 =>
  R (.ret (.tuple ⟨[.pointer (some (bk b5)), .int .i64 0]⟩)) h16)
  (ifP (decide (p0_kind = 3)) (mkS p1_n p1_n 48 [.int .i64 0, .int .i64 0, .int .i64 0, .int .i64 0, .int .i64 0, .bool false] 185 h6 fun b17 h18 =>
  newP h18 (.cells ⟨[.pointer (some ((bk b5).add 0)), .int .i64 (-1), .slice (some (bk b17)) p1_n.toNat p1_n.toNat]⟩ 151 (0, 0)) fun b19 h20 =>
  stC h20 ((bk b5).add 2) (.iface 148 (.pointer (some (bk b19)))) fun h21 =>
  R (.ret (.tuple ⟨[.pointer (some (bk b5)), .int .i64 0]⟩)) h21)
  (ifP (decide (p0_kind = 4)) (newP h6 (.cells ⟨[.pointer (some (bk b5)), .int .i64 0, .slice none 0 0, .slice none 0 0, .slice none 0 0, .slice none 0 0, .slice none 0 0, .slice none 0 0, .slice none 0 0, .slice none 0 0, .slice none 0 0, .slice none 0 0, .slice none 0 0, .slice none 0 0, .slice none 0 0, .slice none 0 0, .slice none 0 0, .slice none 0 0, .slice none 0 0, .slice none 0 0, .slice none 0 0, .slice none 0 0, .slice none 0 0, .slice none 0 0, .slice none 0 0, .slice none 0 0, .slice none 0 0, .slice none 0 0, .slice none 0 0, .slice none 0 0, .slice none 0 0, .slice none 0 0, .slice none 0 0, .slice none 0 0, .slice none 0 0, .slice none 0 0, .slice none 0 0, .slice none 0 0, .slice none 0 0, .slice none 0 0, .slice none 0 0, .slice none 0 0, .slice none 0 0, .slice none 0 0, .slice none 0 0, .slice none 0 0, .slice none 0 0, .slice none 0 0, .slice none 0 0, .slice none 0 0, .slice none 0 0, .slice none 0 0, .slice none 0 0, .slice none 0 0, .slice none 0 0, .slice none 0 0, .slice none 0 0, .slice none 0 0, .slice none 0 0, .slice none 0 0, .slice none 0 0, .slice none 0 0, .slice none 0 0, .slice none 0 0, .slice none 0 0, .slice none 0 0, .slice none 0 0]⟩ 155 (0, 0)) fun b22 h23 =>
  stC h23 ((bk b5).add 2) (.iface 152 (.pointer (some (bk b22)))) fun h24 =>
  R (.ret (.tuple ⟨[.pointer (some (bk b5)), .int .i64 0]⟩)) h24)
  (R (.ret (.tuple ⟨[.pointer (some (bk b5)), .int .i64 0]⟩)) h6))))))))
theorem E_heaps_New {p0_kind : Int} {p1_n : Int} {R : Res → H → Prop} {h : H} (H0 : B_heaps_New p0_kind p1_n R h) : T Tryz.prog F.heaps_New [.int .i64 p0_kind, .int .i64 p1_n] h R :=
  T_intro A_heaps_New Tryz.func59 (c := bodyOf Tryz.f59) (by kernel_rfl) (by kernel_rfl) (by kernel_rfl) (cast_of (by kernel_rfl) H0)

def A_heaps_Queue_Push : An := ⟨lkA [(0, rng 1), (1, rng 13), (2, rng 1), (3, rng 9), (4, rng 1), (5, rng 4), (6, rng 1), (7, ⟨[0, 1, 2, 3, 5, 6, 7, 8, 9, 11, 12, 4, 10, 13, 14, 15, 16], lkN []⟩), (8, rng 8), (9, rng 6), (10, rng 1)], lkL [], lkC []⟩
def B_heaps_Queue_Push (p0_q : Value) (p1_h : Int) (p2_key : Int) (R : Res → H → Prop) (h : H) : Prop :=
  ifP (decide (p1_h < 0)) (R (.ret (.int .i64 30)) h) (ptrP p0_q fun a1 =>
  ldV h ((a1.add 0).add 1) fun x2 =>
  slcP x2 fun a3 l4 c5 =>
  ifP (decide (((l4 : Nat) : Int) ≤ p1_h)) (R (.ret (.int .i64 30)) h)
  (ptrP p0_q fun a6 =>
  ldV h ((a6.add 0).add 1) fun x7 =>
  ixS x7 p1_h 1 fun a8 =>
  ldB h a8 fun x9 =>
  ifP x9 (R (.ret (.int .i64 51)) h)
  (T Tryz.prog F.heaps_Queue_low [p0_q, .int .i64 p2_key] h (rt (fun v10 h11 =>
  ∃ r12, v10 = .bool r12 ∧
  ifP r12 (R (.ret (.int .i64 80)) h11)
  (ptrP p0_q fun a13 =>
  ptrP p0_q fun a14 =>
  ldV h11 ((a13.add 0).add 0) fun x15 =>
  ldV h11 ((a14.add 0).add 1) fun x16 =>
  ixS x15 p1_h 1 fun a17 =>
  stC h11 a17 (.int .i64 p2_key) fun h18 =>
  ixS x16 p1_h 1 fun a19 =>
  stC h18 a19 (.bool true) fun h20 =>
  ptrP p0_q fun a21 =>
  ldI h20 (a21.add 3) .i64 fun x22 =>
  ptrP p0_q fun a23 =>
  stC h20 (a23.add 3) (.int .i64 (IntKind.i64.wrap (x22 + 1))) fun h24 =>
  ptrP p0_q fun a25 =>
  ldV h24 (a25.add 2) fun x26 =>
  methP Tryz.prog h24 x26 "compass/heaps.push" fun f27 rv28 =>
  T Tryz.prog f27 (rv28 :: [.int .i64 p1_h]) h24 (rt (fun v29 h30 =>
  v29 = .tuple ⟨[]⟩ ∧
  R (.ret (.int .i64 0)) h30) (fun v31 h32 => R (.pan v31) h32)))) (fun v33 h34 => R (.pan v33) h34)))))
theorem E_heaps_Queue_Push {p0_q : Value} {p1_h : Int} {p2_key : Int} {R : Res → H → Prop} {h : H} (H0 : B_heaps_Queue_Push p0_q p1_h p2_key R h) : T Tryz.prog F.heaps_Queue_Push [p0_q, .int .i64 p1_h, .int .i64 p2_key] h R :=
  T_intro A_heaps_Queue_Push Tryz.func60 (c := bodyOf Tryz.f60) (by kernel_rfl) (by kernel_rfl) (by kernel_rfl) (cast_of (by kernel_rfl) H0)

def A_heaps_Queue_Len : An := ⟨lkA [(0, rng 1), (1, rng 5)], lkL [], lkC []⟩
def B_heaps_Queue_Len (p0_q : Value) (R : Res → H → Prop) (h : H) : Prop :=
  ptrP p0_q fun a1 =>
  ldI h (a1.add 3) .i64 fun x2 =>
  R (.ret (.int .i64 x2)) h
theorem E_heaps_Queue_Len {p0_q : Value} {R : Res → H → Prop} {h : H} (H0 : B_heaps_Queue_Len p0_q R h) : T Tryz.prog F.heaps_Queue_Len [p0_q] h R :=
  T_intro A_heaps_Queue_Len Tryz.func61 (c := bodyOf Tryz.f61) (by kernel_rfl) (by kernel_rfl) (by kernel_rfl) (cast_of (by kernel_rfl) H0)

def A_heaps_Queue_Pop : An := ⟨lkA [(0, rng 3), (1, rng 9), (2, rng 2), (3, rng 5), (4, rng 8), (5, rng 8), (6, rng 5), (7, rng 6)], lkL [], lkC []⟩
def B_heaps_Queue_Pop (p0_q : Value) (R : Res → H → Prop) (h : H) : Prop :=
  T Tryz.prog F.heaps_Queue_Top [p0_q] h (rt (fun v1 h2 =>
  ∃ r3 : Int, ∃ r4 : Int, ∃ r5 : Int, v1 = .tuple ⟨[.int .i64 r3, .int .i64 r4, .int .i64 r5]⟩ ∧
  ifP (decide (r5 = 0)) (ptrP p0_q fun a6 =>
  ldV h2 (a6.add 2) fun x7 =>
  methP Tryz.prog h2 x7 "compass/heaps.pop" fun f8 rv9 =>
  T Tryz.prog f8 (rv9 :: []) h2 (rt (fun v10 h11 =>
  v10 = .tuple ⟨[]⟩ ∧
  ptrP p0_q fun a12 =>
  ldV h11 ((a12.add 0).add 1) fun x13 =>
  ixS x13 r3 1 fun a14 =>
  stC h11 a14 (.bool false) fun h15 =>
  ptrP p0_q fun a16 =>
  ldI h15 (a16.add 3) .i64 fun x17 =>
  ptrP p0_q fun a18 =>
  stC h15 (a18.add 3) (.int .i64 (IntKind.i64.wrap (x17 - 1))) fun h19 =>
  ptrP p0_q fun a20 =>
  stC h19 (a20.add 5) (.int .i64 r4) fun h21 =>
  R (.ret (.tuple ⟨[.int .i64 r3, .int .i64 r4, .int .i64 r5]⟩)) h21) (fun v22 h23 => R (.pan v22) h23)))
  (R (.ret (.tuple ⟨[.int .i64 r3, .int .i64 r4, .int .i64 r5]⟩)) h2)) (fun v24 h25 => R (.pan v24) h25))
theorem E_heaps_Queue_Pop {p0_q : Value} {R : Res → H → Prop} {h : H} (H0 : B_heaps_Queue_Pop p0_q R h) : T Tryz.prog F.heaps_Queue_Pop [p0_q] h R :=
  T_intro A_heaps_Queue_Pop Tryz.func62 (c := bodyOf Tryz.f62) (by kernel_rfl) (by kernel_rfl) (by kernel_rfl) (cast_of (by kernel_rfl) H0)

def A_heaps_Queue_Lower : An := ⟨lkA [(0, rng 1), (1, rng 13), (2, rng 1), (3, rng 10), (4, rng 1), (5, rng 11), (6, rng 1), (7, rng 4), (8, rng 1), (9, rng 10), (10, rng 9), (11, rng 6), (12, rng 1)], lkL [], lkC []⟩
def B_heaps_Queue_Lower (p0_q : Value) (p1_h : Int) (p2_key : Int) (R : Res → H → Prop) (h : H) : Prop :=
  ifP (decide (p1_h < 0)) (R (.ret (.int .i64 30)) h) (ptrP p0_q fun a1 =>
  ldV h ((a1.add 0).add 1) fun x2 =>
  slcP x2 fun a3 l4 c5 =>
  ifP (decide (((l4 : Nat) : Int) ≤ p1_h)) (R (.ret (.int .i64 30)) h)
  (ptrP p0_q fun a6 =>
  ldV h ((a6.add 0).add 1) fun x7 =>
  ixS x7 p1_h 1 fun a8 =>
  ldB h a8 fun x9 =>
  ifP (!x9) (R (.ret (.int .i64 2)) h)
  (ptrP p0_q fun a10 =>
  ldV h ((a10.add 0).add 0) fun x11 =>
  ixS x11 p1_h 1 fun a12 =>
  ldI h a12 .i64 fun x13 =>
  ifP (decide (x13 < p2_key)) (R (.ret (.int .i64 52)) h)
  (T Tryz.prog F.heaps_Queue_low [p0_q, .int .i64 p2_key] h (rt (fun v14 h15 =>
  ∃ r16, v14 = .bool r16 ∧
  ifP r16 (R (.ret (.int .i64 80)) h15)
  (ptrP p0_q fun a17 =>
  ldV h15 ((a17.add 0).add 0) fun x18 =>
  ixS x18 p1_h 1 fun a19 =>
  ldI h15 a19 .i64 fun x20 =>
  ifP (decide (p2_key < x20)) (ptrP p0_q fun a21 =>
  ldV h15 ((a21.add 0).add 0) fun x22 =>
  ixS x22 p1_h 1 fun a23 =>
  stC h15 a23 (.int .i64 p2_key) fun h24 =>
  ptrP p0_q fun a25 =>
  ldV h24 (a25.add 2) fun x26 =>
  methP Tryz.prog h24 x26 "compass/heaps.lower" fun f27 rv28 =>
  T Tryz.prog f27 (rv28 :: [.int .i64 p1_h]) h24 (rt (fun v29 h30 =>
  v29 = .tuple ⟨[]⟩ ∧
  R (.ret (.int .i64 0)) h30) (fun v31 h32 => R (.pan v31) h32)))
  (R (.ret (.int .i64 0)) h15))) (fun v33 h34 => R (.pan v33) h34))))))
theorem E_heaps_Queue_Lower {p0_q : Value} {p1_h : Int} {p2_key : Int} {R : Res → H → Prop} {h : H} (H0 : B_heaps_Queue_Lower p0_q p1_h p2_key R h) : T Tryz.prog F.heaps_Queue_Lower [p0_q, .int .i64 p1_h, .int .i64 p2_key] h R :=
  T_intro A_heaps_Queue_Lower Tryz.func63 (c := bodyOf Tryz.f63) (by kernel_rfl) (by kernel_rfl) (by kernel_rfl) (cast_of (by kernel_rfl) H0)

def A_heaps_Queue_low : An := ⟨lkA [(0, rng 1), (1, rng 14)], lkL [], lkC []⟩
def B_heaps_Queue_low (p0_q : Value) (p1_key : Int) (R : Res → H → Prop) (h : H) : Prop :=
  ptrP p0_q fun a1 =>
  ldI h (a1.add 4) .i64 fun x2 =>
  ifP (decide (x2 = 4)) (ptrP p0_q fun a3 =>
  ldI h (a3.add 5) .i64 fun x4 =>
  R (.ret (.bool (decide (p1_key < x4)))) h) (R (.ret (.bool false)) h)
theorem E_heaps_Queue_low {p0_q : Value} {p1_key : Int} {R : Res → H → Prop} {h : H} (H0 : B_heaps_Queue_low p0_q p1_key R h) : T Tryz.prog F.heaps_Queue_low [p0_q, .int .i64 p1_key] h R :=
  T_intro A_heaps_Queue_low Tryz.func64 (c := bodyOf Tryz.f64) (by kernel_rfl) (by kernel_rfl) (by kernel_rfl) (cast_of (by kernel_rfl) H0)

def A_heaps_Queue_Top : An := ⟨lkA [(0, rng 3), (1, rng 5), (2, rng 3), (3, rng 6), (4, ⟨[0, 1, 2, 3, 4, 6, 9, 5, 7, 8, 10, 11], lkN []⟩)], lkL [], lkC []⟩
def B_heaps_Queue_Top (p0_q : Value) (R : Res → H → Prop) (h : H) : Prop :=
  ptrP p0_q fun a1 =>
  ldI h (a1.add 3) .i64 fun x2 =>
  ifP (decide (x2 = 0)) (R (.ret (.tuple ⟨[.int .i64 0, .int .i64 0, .int .i64 4]⟩)) h)
  (ptrP p0_q fun a3 =>
  ldV h (a3.add 2) fun x4 =>
  methP Tryz.prog h x4 "compass/heaps.top" fun f5 rv6 =>
  T Tryz.prog f5 (rv6 :: []) h (rt (fun v7 h8 =>
  ∃ r9, v7 = .int .i64 r9 ∧
  ptrP p0_q fun a10 =>
  ldV h8 ((a10.add 0).add 0) fun x11 =>
  ixS x11 r9 1 fun a12 =>
  ldI h8 a12 .i64 fun x13 =>
  R (.ret (.tuple ⟨[.int .i64 r9, .int .i64 x13, .int .i64 0]⟩)) h8) (fun v14 h15 => R (.pan v14) h15)))
theorem E_heaps_Queue_Top {p0_q : Value} {R : Res → H → Prop} {h : H} (H0 : B_heaps_Queue_Top p0_q R h) : T Tryz.prog F.heaps_Queue_Top [p0_q] h R :=
  T_intro A_heaps_Queue_Top Tryz.func65 (c := bodyOf Tryz.f65) (by kernel_rfl) (by kernel_rfl) (by kernel_rfl) (cast_of (by kernel_rfl) H0)

def A_mincost_circles_meet : An := ⟨lkA [(0, rng 1), (1, rng 4), (2, rng 8), (3, rng 8), (4, rng 1), (5, rng 7), (6, rng 1), (7, rng 5), (8, rng 4), (9, rng 2), (10, rng 4), (11, rng 5), (12, rng 2), (13, rng 1), (14, rng 1), (15, rng 4), (16, rng 3), (17, rng 5), (18, rng 10), (19, rng 1), (20, rng 3), (21, rng 9), (22, rng 15), (23, rng 9), (24, rng 9), (25, rng 2), (26, rng 5), (27, rng 2), (28, rng 2), (29, rng 6), (30, rng 5), (31, rng 2)], lkL [(1, []), (6, [(4, .val), (37, .int .i64)]), (15, [(4, .val), (7, .int .i64), (8, .int .i64)]), (19, [(4, .val), (7, .int .i64), (74, .int .i64)]), (31, [])], lkC [(28, [(7, .int .i64)])]⟩
def B_mincost_circles_meet (p0_c : List Value) (R : Res → H → Prop) (h : H) : Prop :=
  newP h (.cells ⟨p0_c⟩ 68 (0, 0)) fun b1 h2 =>
  ∃ (I3 : (Unit) → H → Prop) (r4 : (Unit) × H → (Unit) × H → Prop), WellFounded r4 ∧ I3 (()) h2 ∧
  ∀  (h5 : H), I3 (()) h5 →
  ldV h5 ((bk b1).add 0) fun x6 =>
  oneP x6 (T Tryz.prog F.mincost_ways_missing [.agg ⟨[x6]⟩] h5 (rt (fun v7 h8 =>
  ∃ r9, v7 = .bool r9 ∧
  ifP r9 (ldV h8 ((bk b1).add 0) fun x10 =>
  ptrP x10 fun a11 =>
  ldV h8 (a11.add 4) fun x12 =>
  slcP x12 fun a13 l14 c15 =>
  mkS ((l14 : Nat) : Int) ((l14 : Nat) : Int) 8 [.int .i64 0] 3 h8 fun b16 h17 =>
  ldV h17 ((bk b1).add 0) fun x18 =>
  ptrP x18 fun a19 =>
  ldV h17 (a19.add 4) fun x20 =>
  slcP x20 fun a21 l22 c23 =>
  mkS ((l22 : Nat) : Int) ((l22 : Nat) : Int) 1 [.bool false] 4 h17 fun b24 h25 =>
  ldV h25 ((bk b1).add 0) fun x26 =>
  ptrP x26 fun a27 =>
  ldV h25 (a27.add 5) fun x28 =>
  slcP x28 fun a29 l30 c31 =>
  ∃ (I32 : (Value × Int × Unit) → H → Prop) (r33 : (Value × Int × Unit) × H → (Value × Int × Unit) × H → Prop), WellFounded r33 ∧ I32 ((.slice none 0 0 : Value), 0, ()) h25 ∧
  ∀ (queue_35 : Value) (s36 : Int) (h34 : H), I32 (queue_35, s36, ()) h34 →
  ifP (decide (s36 < ((l30 : Nat) : Int))) (ixS x28 s36 1 fun a37 =>
  ldI h34 a37 .i64 fun x38 =>
  ixS (.slice (some (bk b16)) (((l14 : Nat) : Int).toNat) (((l14 : Nat) : Int).toNat)) s36 1 fun a39 =>
  stC h34 a39 (.int .i64 (-1)) fun h40 =>
  ifP (decide (0 < x38)) (ixS (.slice (some (bk b24)) (((l22 : Nat) : Int).toNat) (((l22 : Nat) : Int).toNat)) s36 1 fun a41 =>
  stC h40 a41 (.bool true) fun h42 =>
  newP h42 (.cells ⟨[.int .i64 s36]⟩ 3 (0, 0)) fun b43 h44 =>
  apP queue_35 (.slice (some (bk b43)) 1 1) h44 1 3 8 [.int .i64 0] fun s45 h46 =>
  I32 (s45, (IntKind.i64.wrap (s36 + 1)), ()) h46 ∧ r33 ((s45, (IntKind.i64.wrap (s36 + 1)), ()), h46) ((queue_35, s36, ()), h34))
  (I32 (queue_35, (IntKind.i64.wrap (s36 + 1)), ()) h40 ∧ r33 ((queue_35, (IntKind.i64.wrap (s36 + 1)), ()), h40) ((queue_35, s36, ()), h34)))
  (∃ J47 : (Int × Unit) → H → Prop, (∃ (I50 : (Value × Int × Int × Unit) → H → Prop) (r51 : (Value × Int × Int × Unit) × H → (Value × Int × Int × Unit) × H → Prop), WellFounded r51 ∧ I50 (queue_35, (-1), 0, ()) h34 ∧
  ∀ (queue_53 : Value) (found_54 : Int) (i_55 : Int) (h52 : H), I50 (queue_53, found_54, i_55, ()) h52 →
  slcP queue_53 fun a56 l57 c58 =>
  ifP (decide (i_55 < ((l57 : Nat) : Int))) (ixS queue_53 i_55 1 fun a59 =>
  ldI h52 a59 .i64 fun x60 =>
  ldV h52 ((bk b1).add 0) fun x61 =>
  ptrP x61 fun a62 =>
  ldV h52 (a62.add 4) fun x63 =>
  ixS x63 x60 1 fun a64 =>
  ldV h52 a64 fun x65 =>
  slcP x65 fun a66 l67 c68 =>
  ∃ (I69 : (Value × Int × Int × Unit) → H → Prop) (r70 : (Value × Int × Int × Unit) × H → (Value × Int × Int × Unit) × H → Prop), WellFounded r70 ∧ I69 (queue_53, found_54, 0, ()) h52 ∧
  ∀ (queue_72 : Value) (found_73 : Int) (s74 : Int) (h71 : H), I69 (queue_72, found_73, s74, ()) h71 →
  ifP (decide (s74 < ((l67 : Nat) : Int))) (ixS x65 s74 1 fun a75 =>
  ldI h71 a75 .i64 fun x76 =>
  ldV h71 ((bk b1).add 0) fun x77 =>
  ptrP x77 fun a78 =>
  ldV h71 (a78.add 1) fun x79 =>
  ixS x79 x76 1 fun a80 =>
  ldI h71 a80 .i64 fun x81 =>
  ldV h71 ((bk b1).add 0) fun x82 =>
  ptrP x82 fun a83 =>
  ldV h71 (a83.add 2) fun x84 =>
  ixS x84 x76 1 fun a85 =>
  ldI h71 a85 .i64 fun x86 =>
  ifP (decide (x86 = 0)) (I69 (queue_72, found_73, (IntKind.i64.wrap (s74 + 1)), ()) h71 ∧ r70 ((queue_72, found_73, (IntKind.i64.wrap (s74 + 1)), ()), h71) ((queue_72, found_73, s74, ()), h71)) (ixS (.slice (some (bk b24)) (((l22 : Nat) : Int).toNat) (((l22 : Nat) : Int).toNat)) x81 1 fun a87 =>
  ldB h71 a87 fun x88 =>
  ifP x88 (I69 (queue_72, found_73, (IntKind.i64.wrap (s74 + 1)), ()) h71 ∧ r70 ((queue_72, found_73, (IntKind.i64.wrap (s74 + 1)), ()), h71) ((queue_72, found_73, s74, ()), h71))
  (ixS (.slice (some (bk b24)) (((l22 : Nat) : Int).toNat) (((l22 : Nat) : Int).toNat)) x81 1 fun a89 =>
  stC h71 a89 (.bool true) fun h90 =>
  ixS (.slice (some (bk b16)) (((l14 : Nat) : Int).toNat) (((l14 : Nat) : Int).toNat)) x81 1 fun a91 =>
  stC h90 a91 (.int .i64 x76) fun h92 =>
  ldV h92 ((bk b1).add 0) fun x93 =>
  ptrP x93 fun a94 =>
  ldV h92 (a94.add 5) fun x95 =>
  ixS x95 x81 1 fun a96 =>
  ldI h92 a96 .i64 fun x97 =>
  ifP (decide (x97 < 0)) (J47 (x81, ()) h92)
  (newP h92 (.cells ⟨[.int .i64 x81]⟩ 3 (0, 0)) fun b98 h99 =>
  apP queue_72 (.slice (some (bk b98)) 1 1) h99 1 3 8 [.int .i64 0] fun s100 h101 =>
  I69 (s100, found_73, (IntKind.i64.wrap (s74 + 1)), ()) h101 ∧ r70 ((s100, found_73, (IntKind.i64.wrap (s74 + 1)), ()), h101) ((queue_72, found_73, s74, ()), h71)))))
  (I50 (queue_72, found_73, (IntKind.i64.wrap (i_55 + 1)), ()) h71 ∧ r51 ((queue_72, found_73, (IntKind.i64.wrap (i_55 + 1)), ()), h71) ((queue_53, found_54, i_55, ()), h52)))
  (J47 (found_54, ()) h52)) ∧
  (∀ (found_49 : Int) (h48 : H), J47 (found_49, ()) h48 →
  ifP (decide (found_49 < 0)) (ldV h48 ((bk b1).add 0) fun x102 =>
  T Tryz.prog F.mincost_net_reached [x102] h48 (rt (fun v103 h104 =>
  oneP v103 (R (.pan (.iface 73 (.agg ⟨[v103]⟩))) h104)) (fun v105 h106 => R (.pan v105) h106)))
  (ldV h48 ((bk b1).add 0) fun x107 =>
  T Tryz.prog F.mincost_net_carry [x107, .slice (some (bk b16)) (((l14 : Nat) : Int).toNat) (((l14 : Nat) : Int).toNat), .int .i64 found_49] h48 (rt (fun v108 h109 =>
  v108 = .tuple ⟨[]⟩ ∧
  I3 (()) h109 ∧ r4 ((()), h109) ((()), h5)) (fun v110 h111 => R (.pan v110) h111))))))
  (∃ (I112 : (Unit) → H → Prop) (r113 : (Unit) × H → (Unit) × H → Prop), WellFounded r113 ∧ I112 (()) h8 ∧
  ∀  (h114 : H), I112 (()) h114 →
  ldN h114 (bk b1) 1 fun x115 =>
  T Tryz.prog F.mincost_circles_turn [.agg ⟨x115⟩] h114 (rt (fun v116 h117 =>
  ∃ r118, v116 = .bool r118 ∧
  ifP r118 (I112 (()) h117 ∧ r113 ((()), h117) ((()), h114))
  (R (.ret (.tuple ⟨[]⟩)) h117)) (fun v119 h120 => R (.pan v119) h120)))) (fun v121 h122 => R (.pan v121) h122)))
theorem E_mincost_circles_meet {p0_c : List Value} {R : Res → H → Prop} {h : H} (H0 : B_mincost_circles_meet p0_c R h) : T Tryz.prog F.mincost_circles_meet [.agg ⟨p0_c⟩] h R :=
  T_intro A_mincost_circles_meet Tryz.func66 (c := bodyOf Tryz.f66) (by kernel_rfl) (by kernel_rfl) (by kernel_rfl) (cast_of (by kernel_rfl) H0)

def A_mincost_circles_turn : An := ⟨lkA [(0, rng 2), (1, rng 7), (2, rng 3), (3, rng 6), (4, rng 1), (5, rng 3), (6, rng 1), (7, rng 1), (8, rng 7), (9, rng 1), (10, rng 5), (11, rng 9), (12, ⟨[0, 5, 1, 2, 3, 4, 6, 7, 8, 9, 10, 15, 18, 23, 27, 32, 11, 12, 13, 14, 16, 17, 19, 20, 21, 22, 24, 25, 26, 28, 29, 30, 31, 33, 34, 35, 36], lkN []⟩), (13, ⟨[0, 5, 6, 7, 8, 13, 16, 21, 25, 1, 2, 3, 4, 9, 10, 11, 12, 14, 15, 17, 18, 19, 20, 22, 23, 24, 26, 27, 28, 29], lkN []⟩), (14, rng 2), (15, rng 2), (16, rng 2), (17, rng 1), (18, rng 2), (19, rng 2), (20, rng 1), (21, ⟨[0, 5, 6, 7, 1, 2, 3, 4, 8, 9, 10, 11], lkN []⟩), (22, rng 2), (23, rng 6), (24, ⟨[0, 5, 6, 7, 1, 2, 3, 4, 8, 9, 10, 11], lkN []⟩), (25, rng 3), (26, ⟨[0, 5, 6, 7, 1, 2, 3, 4, 8, 9, 10, 11], lkN []⟩), (27, rng 8), (28, rng 1), (29, rng 3), (30, rng 1), (31, rng 3), (32, rng 11), (33, rng 2), (34, rng 3), (35, rng 1), (36, rng 3), (37, rng 5), (38, rng 2), (39, rng 1)], lkL [(6, [(5, .int .i64), (31, .int .i64)]), (9, [(5, .int .i64), (39, .int .i64)]), (20, [(5, .int .i64), (123, .int .i64)]), (25, [(9, .val), (10, .int .i64)]), (30, [(11, .int .i64), (176, .int .i64)]), (35, [(193, .int .i64)])], lkC []⟩
def B_mincost_circles_turn (p0_c : List Value) (R : Res → H → Prop) (h : H) : Prop :=
  newP h (.cells ⟨p0_c⟩ 68 (0, 0)) fun b1 h2 =>
  ldV h2 ((bk b1).add 0) fun x3 =>
  ptrP x3 fun a4 =>
  ldV h2 (a4.add 4) fun x5 =>
  slcP x5 fun a6 l7 c8 =>
  mkS ((l7 : Nat) : Int) ((l7 : Nat) : Int) 8 [.int .i64 0] 3 h2 fun b9 h10 =>
  ldV h10 ((bk b1).add 0) fun x11 =>
  ptrP x11 fun a12 =>
  ldV h10 (a12.add 6) fun x13 =>
  slcP x13 fun a15 l16 c17 =>
  clP a15 l16 [.int .i64 0] h10 fun h14 =>
  ∃ (I18 : (Int × Int × Unit) → H → Prop) (r19 : (Int × Int × Unit) × H → (Int × Int × Unit) × H → Prop), WellFounded r19 ∧ I18 ((-1), 0, ()) h14 ∧
  ∀ (last_21 : Int) (s22 : Int) (h20 : H), I18 (last_21, s22, ()) h20 →
  ifP (decide (s22 < (IntKind.i64.wrap (((l7 : Nat) : Int) + 1)))) (ldV h20 ((bk b1).add 0) fun x23 =>
  ptrP x23 fun a24 =>
  ldV h20 (a24.add 1) fun x25 =>
  slcP x25 fun a26 l27 c28 =>
  ∃ (I29 : (Int × Int × Unit) → H → Prop) (r30 : (Int × Int × Unit) × H → (Int × Int × Unit) × H → Prop), WellFounded r30 ∧ I29 ((-1), 0, ()) h20 ∧
  ∀ (last_32 : Int) (s33 : Int) (h31 : H), I29 (last_32, s33, ()) h31 →
  ifP (decide (s33 < ((l27 : Nat) : Int))) (ixS x25 s33 1 fun a34 =>
  ldI h31 a34 .i64 fun x35 =>
  ldV h31 ((bk b1).add 0) fun x36 =>
  ptrP x36 fun a37 =>
  ldV h31 (a37.add 0) fun x38 =>
  ixS x38 s33 1 fun a39 =>
  ldI h31 a39 .i64 fun x40 =>
  ldV h31 ((bk b1).add 0) fun x41 =>
  ptrP x41 fun a42 =>
  ldV h31 (a42.add 2) fun x43 =>
  ixS x43 s33 1 fun a44 =>
  ldI h31 a44 .i64 fun x45 =>
  ifP (decide (0 < x45)) (ldV h31 ((bk b1).add 0) fun x46 =>
  ptrP x46 fun a47 =>
  ldV h31 (a47.add 6) fun x48 =>
  ixS x48 x40 1 fun a49 =>
  ldI h31 a49 .i64 fun x50 =>
  ldV h31 ((bk b1).add 0) fun x51 =>
  ptrP x51 fun a52 =>
  ldV h31 (a52.add 3) fun x53 =>
  ixS x53 s33 1 fun a54 =>
  ldI h31 a54 .i64 fun x55 =>
  ldV h31 ((bk b1).add 0) fun x56 =>
  ptrP x56 fun a57 =>
  ldV h31 (a57.add 6) fun x58 =>
  ixS x58 x35 1 fun a59 =>
  ldI h31 a59 .i64 fun x60 =>
  ifP (decide ((IntKind.i64.wrap (x50 + x55)) < x60)) (ldV h31 ((bk b1).add 0) fun x61 =>
  ptrP x61 fun a62 =>
  ldV h31 (a62.add 6) fun x63 =>
  ldV h31 ((bk b1).add 0) fun x64 =>
  ptrP x64 fun a65 =>
  ldV h31 (a65.add 6) fun x66 =>
  ixS x66 x40 1 fun a67 =>
  ldI h31 a67 .i64 fun x68 =>
  ldV h31 ((bk b1).add 0) fun x69 =>
  ptrP x69 fun a70 =>
  ldV h31 (a70.add 3) fun x71 =>
  ixS x71 s33 1 fun a72 =>
  ldI h31 a72 .i64 fun x73 =>
  ixS x63 x35 1 fun a74 =>
  stC h31 a74 (.int .i64 (IntKind.i64.wrap (x68 + x73))) fun h75 =>
  ixS (.slice (some (bk b9)) (((l7 : Nat) : Int).toNat) (((l7 : Nat) : Int).toNat)) x35 1 fun a76 =>
  stC h75 a76 (.int .i64 s33) fun h77 =>
  I29 (x35, (IntKind.i64.wrap (s33 + 1)), ()) h77 ∧ r30 ((x35, (IntKind.i64.wrap (s33 + 1)), ()), h77) ((last_32, s33, ()), h31))
  (I29 (last_32, (IntKind.i64.wrap (s33 + 1)), ()) h31 ∧ r30 ((last_32, (IntKind.i64.wrap (s33 + 1)), ()), h31) ((last_32, s33, ()), h31))) (I29 (last_32, (IntKind.i64.wrap (s33 + 1)), ()) h31 ∧ r30 ((last_32, (IntKind.i64.wrap (s33 + 1)), ()), h31) ((last_32, s33, ()), h31)))
  (ifP (decide (last_32 < 0)) (R (.ret (.bool false)) h31)
  (I18 (last_32, (IntKind.i64.wrap (s22 + 1)), ()) h31 ∧ r19 ((last_32, (IntKind.i64.wrap (s22 + 1)), ()), h31) ((last_21, s22, ()), h20))))
  (∃ (I78 : (Int × Int × Unit) → H → Prop) (r79 : (Int × Int × Unit) × H → (Int × Int × Unit) × H → Prop), WellFounded r79 ∧ I78 (last_21, 0, ()) h20 ∧
  ∀ (last_81 : Int) (s82 : Int) (h80 : H), I78 (last_81, s82, ()) h80 →
  ifP (decide (s82 < ((l7 : Nat) : Int))) (ixS (.slice (some (bk b9)) (((l7 : Nat) : Int).toNat) (((l7 : Nat) : Int).toNat)) last_81 1 fun a83 =>
  ldV h80 ((bk b1).add 0) fun x84 =>
  ptrP x84 fun a85 =>
  ldV h80 (a85.add 0) fun x86 =>
  ldI h80 a83 .i64 fun x87 =>
  ixS x86 x87 1 fun a88 =>
  ldI h80 a88 .i64 fun x89 =>
  I78 (x89, (IntKind.i64.wrap (s82 + 1)), ()) h80 ∧ r79 ((x89, (IntKind.i64.wrap (s82 + 1)), ()), h80) ((last_81, s82, ()), h80))
  (ixS (.slice (some (bk b9)) (((l7 : Nat) : Int).toNat) (((l7 : Nat) : Int).toNat)) last_81 1 fun a90 =>
  ldI h80 a90 .i64 fun x91 =>
  newP h80 (.cells ⟨[.int .i64 x91]⟩ 3 (0, 0)) fun b92 h93 =>
  ixS (.slice (some (bk b9)) (((l7 : Nat) : Int).toNat) (((l7 : Nat) : Int).toNat)) last_81 1 fun a94 =>
  ldV h93 ((bk b1).add 0) fun x95 =>
  ptrP x95 fun a96 =>
  ldV h93 (a96.add 0) fun x97 =>
  ldI h93 a94 .i64 fun x98 =>
  ixS x97 x98 1 fun a99 =>
  ldI h93 a99 .i64 fun x100 =>
  ∃ (I101 : (Value × Int × Unit) → H → Prop) (r102 : (Value × Int × Unit) × H → (Value × Int × Unit) × H → Prop), WellFounded r102 ∧ I101 ((.slice (some (bk b92)) 1 1 : Value), x100, ()) h93 ∧
  ∀ (arcs_104 : Value) (v_105 : Int) (h103 : H), I101 (arcs_104, v_105, ()) h103 →
  ifP (!decide (v_105 = last_81)) (ixS (.slice (some (bk b9)) (((l7 : Nat) : Int).toNat) (((l7 : Nat) : Int).toNat)) v_105 1 fun a106 =>
  ldI h103 a106 .i64 fun x107 =>
  newP h103 (.cells ⟨[.int .i64 x107]⟩ 3 (0, 0)) fun b108 h109 =>
  apP arcs_104 (.slice (some (bk b108)) 1 1) h109 1 3 8 [.int .i64 0] fun s110 h111 =>
  ixS (.slice (some (bk b9)) (((l7 : Nat) : Int).toNat) (((l7 : Nat) : Int).toNat)) v_105 1 fun a112 =>
  ldV h111 ((bk b1).add 0) fun x113 =>
  ptrP x113 fun a114 =>
  ldV h111 (a114.add 0) fun x115 =>
  ldI h111 a112 .i64 fun x116 =>
  ixS x115 x116 1 fun a117 =>
  ldI h111 a117 .i64 fun x118 =>
  I101 (s110, x118, ()) h111 ∧ r102 ((s110, x118, ()), h111) ((arcs_104, v_105, ()), h103))
  (slcP arcs_104 fun a119 l120 c121 =>
  ∃ (I122 : (Int × Int × Unit) → H → Prop) (r123 : (Int × Int × Unit) × H → (Int × Int × Unit) × H → Prop), WellFounded r123 ∧ I122 (4611686018427387904, 0, ()) h103 ∧
  ∀ (x_125 : Int) (s126 : Int) (h124 : H), I122 (x_125, s126, ()) h124 →
  ifP (decide (s126 < ((l120 : Nat) : Int))) (ixS arcs_104 s126 1 fun a127 =>
  ldI h124 a127 .i64 fun x128 =>
  ldV h124 ((bk b1).add 0) fun x129 =>
  ptrP x129 fun a130 =>
  ldV h124 (a130.add 2) fun x131 =>
  ixS x131 x128 1 fun a132 =>
  ldI h124 a132 .i64 fun x133 =>
  I122 ((if x133 < x_125 then x133 else x_125), (IntKind.i64.wrap (s126 + 1)), ()) h124 ∧ r123 (((if x133 < x_125 then x133 else x_125), (IntKind.i64.wrap (s126 + 1)), ()), h124) ((x_125, s126, ()), h124))
  (slcP arcs_104 fun a134 l135 c136 =>
  ∃ (I137 : (Int × Unit) → H → Prop) (r138 : (Int × Unit) × H → (Int × Unit) × H → Prop), WellFounded r138 ∧ I137 (0, ()) h124 ∧
  ∀ (s140 : Int) (h139 : H), I137 (s140, ()) h139 →
  ifP (decide (s140 < ((l135 : Nat) : Int))) (ixS arcs_104 s140 1 fun a141 =>
  ldI h139 a141 .i64 fun x142 =>
  ldV h139 ((bk b1).add 0) fun x143 =>
  T Tryz.prog F.mincost_net_send [x143, .int .i64 x142, .int .i64 x_125] h139 (rt (fun v144 h145 =>
  v144 = .tuple ⟨[]⟩ ∧
  I137 ((IntKind.i64.wrap (s140 + 1)), ()) h145 ∧ r138 (((IntKind.i64.wrap (s140 + 1)), ()), h145) ((s140, ()), h139)) (fun v146 h147 => R (.pan v146) h147)))
  (R (.ret (.bool true)) h139)))))
theorem E_mincost_circles_turn {p0_c : List Value} {R : Res → H → Prop} {h : H} (H0 : B_mincost_circles_turn p0_c R h) : T Tryz.prog F.mincost_circles_turn [.agg ⟨p0_c⟩] h R :=
  T_intro A_mincost_circles_turn Tryz.func67 (c := bodyOf Tryz.f67) (by kernel_rfl) (by kernel_rfl) (by kernel_rfl) (cast_of (by kernel_rfl) H0)

def A_mincost_scaling_meet : An := ⟨lkA [(0, rng 8), (1, ⟨[0, 1, 2, 4, 5, 3, 6, 7, 8, 9], lkN []⟩), (2, rng 6), (3, rng 10), (4, rng 4), (5, rng 3), (6, rng 1), (7, rng 5), (8, rng 13), (9, rng 12), (10, rng 2), (11, rng 8), (12, rng 5), (13, rng 10), (14, rng 2), (15, rng 8), (16, rng 6)], lkL [(6, [(42, .int .i64)]), (12, [])], lkC []⟩
def B_mincost_scaling_meet (p0_s : Value) (R : Res → H → Prop) (h : H) : Prop :=
  ptrP p0_s fun a1 =>
  ldV h (a1.add 0) fun x2 =>
  ptrP x2 fun a3 =>
  ldV h (a3.add 3) fun x4 =>
  ptrP p0_s fun a5 =>
  slcP x4 fun a6 l7 c8 =>
  ldV h (a5.add 0) fun x9 =>
  mkS ((l7 : Nat) : Int) ((l7 : Nat) : Int) 8 [.int .i64 0] 2 h fun b10 h11 =>
  ptrP x9 fun a12 =>
  stC h11 (a12.add 3) (.slice (some (bk b10)) (((l7 : Nat) : Int).toNat) (((l7 : Nat) : Int).toNat)) fun h13 =>
  ptrP p0_s fun a14 =>
  ldV h13 (a14.add 0) fun x15 =>
  oneP x15 (T Tryz.prog F.mincost_ways_meet [.agg ⟨[x15]⟩] h13 (rt (fun v16 h17 =>
  v16 = .tuple ⟨[]⟩ ∧
  ptrP p0_s fun a18 =>
  ldV h17 (a18.add 0) fun x19 =>
  ptrP x19 fun a20 =>
  ldV h17 (a20.add 4) fun x21 =>
  slcP x21 fun a22 l23 c24 =>
  ptrP p0_s fun a25 =>
  stC h17 (a25.add 1) (.int .i64 1) fun h26 =>
  slcP x4 fun a27 l28 c29 =>
  ∃ (I30 : (Int × Unit) → H → Prop) (r31 : (Int × Unit) × H → (Int × Unit) × H → Prop), WellFounded r31 ∧ I30 (0, ()) h26 ∧
  ∀ (s33 : Int) (h32 : H), I30 (s33, ()) h32 →
  ifP (decide (s33 < ((l28 : Nat) : Int))) (ixS x4 s33 1 fun a34 =>
  ldI h32 a34 .i64 fun x35 =>
  ptrP p0_s fun a36 =>
  ldV h32 (a36.add 0) fun x37 =>
  ptrP x37 fun a38 =>
  ldV h32 (a38.add 3) fun x39 =>
  ixS x39 s33 1 fun a40 =>
  stC h32 a40 (.int .i64 (IntKind.i64.wrap (x35 * (IntKind.i64.wrap (((l23 : Nat) : Int) + 1))))) fun h41 =>
  ptrP p0_s fun a42 =>
  ldI h41 (a42.add 1) .i64 fun x43 =>
  ptrP p0_s fun a44 =>
  stC h41 (a44.add 1) (.int .i64 (if x43 < (IntKind.i64.wrap (x35 * (IntKind.i64.wrap (((l23 : Nat) : Int) + 1)))) then (IntKind.i64.wrap (x35 * (IntKind.i64.wrap (((l23 : Nat) : Int) + 1)))) else x43)) fun h45 =>
  I30 ((IntKind.i64.wrap (s33 + 1)), ()) h45 ∧ r31 (((IntKind.i64.wrap (s33 + 1)), ()), h45) ((s33, ()), h32))
  (ptrP p0_s fun a46 =>
  ldV h32 (a46.add 0) fun x47 =>
  ptrP x47 fun a48 =>
  ldV h32 (a48.add 6) fun x49 =>
  slcP x49 fun a51 l52 c53 =>
  clP a51 l52 [.int .i64 0] h32 fun h50 =>
  ∃ (I54 : (Unit) → H → Prop) (r55 : (Unit) × H → (Unit) × H → Prop), WellFounded r55 ∧ I54 (()) h50 ∧
  ∀  (h56 : H), I54 (()) h56 →
  ptrP p0_s fun a57 =>
  ldI h56 (a57.add 1) .i64 fun x58 =>
  ifP (decide (1 < x58)) (ptrP p0_s fun a59 =>
  ldI h56 (a59.add 1) .i64 fun x60 =>
  (4 : Int) ≠ 0 ∧
  ptrP p0_s fun a61 =>
  stC h56 (a61.add 1) (.int .i64 (if 1 < (IntKind.i64.wrap (x60.tdiv 4)) then (IntKind.i64.wrap (x60.tdiv 4)) else 1)) fun h62 =>
  T Tryz.prog F.mincost_scaling_refine [p0_s] h62 (rt (fun v63 h64 =>
  v63 = .tuple ⟨[]⟩ ∧
  I54 (()) h64 ∧ r55 ((()), h64) ((()), h56)) (fun v65 h66 => R (.pan v65) h66)))
  (ptrP p0_s fun a67 =>
  ldV h56 (a67.add 0) fun x68 =>
  ptrP x68 fun a69 =>
  oneP x4 (stC h56 (a69.add 3) x4 fun h70 =>
  ptrP p0_s fun a71 =>
  ldV h70 (a71.add 0) fun x72 =>
  oneP x72 (T Tryz.prog F.mincost_circles_turn [.agg ⟨[x72]⟩] h70 (rt (fun v73 h74 =>
  ∃ r75, v73 = .bool r75 ∧
  R (.ret (.tuple ⟨[]⟩)) h74) (fun v76 h77 => R (.pan v76) h77))))))) (fun v78 h79 => R (.pan v78) h79)))
theorem E_mincost_scaling_meet {p0_s : Value} {R : Res → H → Prop} {h : H} (H0 : B_mincost_scaling_meet p0_s R h) : T Tryz.prog F.mincost_scaling_meet [p0_s] h R :=
  T_intro A_mincost_scaling_meet Tryz.func68 (c := bodyOf Tryz.f68) (by kernel_rfl) (by kernel_rfl) (by kernel_rfl) (cast_of (by kernel_rfl) H0)

def A_mincost_scaling_refine : An := ⟨lkA [(0, rng 9), (1, rng 1), (2, rng 2), (3, rng 7), (4, ⟨[0, 1, 2, 4, 5, 6, 7, 12, 3, 8, 9, 10, 11, 13, 14, 15], lkN []⟩), (5, rng 2), (6, rng 1), (7, rng 9), (8, rng 1), (9, rng 5), (10, rng 2), (11, rng 5), (12, rng 2), (13, rng 3), (14, rng 4), (15, rng 3), (16, rng 11), (17, rng 1), (18, rng 12), (19, rng 1), (20, rng 3), (21, ⟨[0, 1, 2, 4, 6, 7, 8, 13, 3, 9, 10, 11, 12, 14, 15, 5, 16, 17], lkN [(5, [9, 12, 15])]⟩), (22, rng 11), (23, rng 4), (24, rng 28), (25, ⟨[0, 1, 2, 7, 3, 4, 5, 6, 8, 9, 10, 11, 12, 13, 14, 19, 22, 23, 24, 29, 32, 33, 34, 39, 15, 16, 17, 18, 20, 21, 25, 26, 27, 28, 30, 31, 35, 36, 37, 38, 40, 41, 42, 43, 44, 45], lkN []⟩), (26, rng 5), (27, ⟨[0, 1, 2, 4, 5, 6, 7, 12, 15, 16, 17, 22, 3, 8, 9, 10, 11, 13, 14, 18, 19, 20, 21, 23, 24, 25, 26], lkN []⟩), (28, rng 2), (29, rng 15), (30, ⟨[0, 1, 2, 7, 10, 11, 12, 13, 3, 4, 5, 6, 8, 9, 14, 15, 16, 17, 18], lkN []⟩)], lkL [(1, [(20, .int .i64)]), (8, [(3, .val), (55, .int .i64)]), (13, [(3, .val)]), (16, [(3, .val)]), (19, [(3, .val), (7, .int .i64), (97, .int .i64)])], lkC [(24, [(7, .int .i64)]), (25, []), (27, [(3, .val)])]⟩
def B_mincost_scaling_refine (p0_s : Value) (R : Res → H → Prop) (h : H) : Prop :=
  ptrP p0_s fun a1 =>
  ldV h (a1.add 0) fun x2 =>
  ptrP x2 fun a3 =>
  ldV h (a3.add 1) fun x4 =>
  slcP x4 fun a5 l6 c7 =>
  ∃ (I8 : (Int × Unit) → H → Prop) (r9 : (Int × Unit) × H → (Int × Unit) × H → Prop), WellFounded r9 ∧ I8 (0, ()) h ∧
  ∀ (s11 : Int) (h10 : H), I8 (s11, ()) h10 →
  ifP (decide (s11 < ((l6 : Nat) : Int))) (ptrP p0_s fun a12 =>
  ldV h10 (a12.add 0) fun x13 =>
  T Tryz.prog F.mincost_net_reduced [x13, .int .i64 s11] h10 (rt (fun v14 h15 =>
  ∃ r16, v14 = .int .i64 r16 ∧
  ifP (decide (r16 < 0)) (ptrP p0_s fun a17 =>
  ptrP p0_s fun a18 =>
  ldV h15 (a17.add 0) fun x19 =>
  ldV h15 (a18.add 0) fun x20 =>
  ptrP x20 fun a21 =>
  ldV h15 (a21.add 2) fun x22 =>
  ixS x22 s11 1 fun a23 =>
  ldI h15 a23 .i64 fun x24 =>
  T Tryz.prog F.mincost_net_send [x19, .int .i64 s11, .int .i64 x24] h15 (rt (fun v25 h26 =>
  v25 = .tuple ⟨[]⟩ ∧
  I8 ((IntKind.i64.wrap (s11 + 1)), ()) h26 ∧ r9 (((IntKind.i64.wrap (s11 + 1)), ()), h26) ((s11, ()), h10)) (fun v27 h28 => R (.pan v27) h28)))
  (I8 ((IntKind.i64.wrap (s11 + 1)), ()) h15 ∧ r9 (((IntKind.i64.wrap (s11 + 1)), ()), h15) ((s11, ()), h10))) (fun v29 h30 => R (.pan v29) h30)))
  (ptrP p0_s fun a31 =>
  ldV h10 (a31.add 0) fun x32 =>
  ptrP x32 fun a33 =>
  ldV h10 (a33.add 5) fun x34 =>
  slcP x34 fun a35 l36 c37 =>
  ∃ (I38 : (Value × Int × Unit) → H → Prop) (r39 : (Value × Int × Unit) × H → (Value × Int × Unit) × H → Prop), WellFounded r39 ∧ I38 ((.slice none 0 0 : Value), 0, ()) h10 ∧
  ∀ (queue_41 : Value) (s42 : Int) (h40 : H), I38 (queue_41, s42, ()) h40 →
  ifP (decide (s42 < ((l36 : Nat) : Int))) (ixS x34 s42 1 fun a43 =>
  ldI h40 a43 .i64 fun x44 =>
  ifP (decide (0 < x44)) (newP h40 (.cells ⟨[.int .i64 s42]⟩ 3 (0, 0)) fun b45 h46 =>
  apP queue_41 (.slice (some (bk b45)) 1 1) h46 1 3 8 [.int .i64 0] fun s47 h48 =>
  I38 (s47, (IntKind.i64.wrap (s42 + 1)), ()) h48 ∧ r39 ((s47, (IntKind.i64.wrap (s42 + 1)), ()), h48) ((queue_41, s42, ()), h40))
  (I38 (queue_41, (IntKind.i64.wrap (s42 + 1)), ()) h40 ∧ r39 ((queue_41, (IntKind.i64.wrap (s42 + 1)), ()), h40) ((queue_41, s42, ()), h40)))
  (∃ (I49 : (Value × Unit) → H → Prop) (r50 : (Value × Unit) × H → (Value × Unit) × H → Prop), WellFounded r50 ∧ I49 (queue_41, ()) h40 ∧
  ∀ (queue_52 : Value) (h51 : H), I49 (queue_52, ()) h51 →
  slcP queue_52 fun a53 l54 c55 =>
  ifP (decide (0 < ((l54 : Nat) : Int))) (ixS queue_52 0 1 fun a56 =>
  ldI h51 a56 .i64 fun x57 =>
  slcP queue_52 fun a58 l59 c60 =>
  (0 : Int) ≤ ((l59 : Nat) : Int) ∧ ((l59 : Nat) : Int) ≤ ((c60 : Nat) : Int) ∧
  (0 : Int) ≤ 1 ∧ 1 ≤ ((l59 : Nat) : Int) ∧
  ∃ (I61 : (Value × Unit) → H → Prop) (r62 : (Value × Unit) × H → (Value × Unit) × H → Prop), WellFounded r62 ∧ I61 ((sliceV a58 c60 1 ((l59 : Nat) : Int) 1), ()) h51 ∧
  ∀ (queue_64 : Value) (h63 : H), I61 (queue_64, ()) h63 →
  ptrP p0_s fun a65 =>
  ldV h63 (a65.add 0) fun x66 =>
  ptrP x66 fun a67 =>
  ldV h63 (a67.add 5) fun x68 =>
  ixS x68 x57 1 fun a69 =>
  ldI h63 a69 .i64 fun x70 =>
  ifP (decide (0 < x70)) (ptrP p0_s fun a71 =>
  ldV h63 (a71.add 0) fun x72 =>
  ptrP x72 fun a73 =>
  ldV h63 (a73.add 4) fun x74 =>
  ixS x74 x57 1 fun a75 =>
  ldV h63 a75 fun x76 =>
  slcP x76 fun a77 l78 c79 =>
  ∃ (I80 : (Value × Int × Int × Unit) → H → Prop) (r81 : (Value × Int × Int × Unit) × H → (Value × Int × Int × Unit) × H → Prop), WellFounded r81 ∧ I80 (queue_64, 4611686018427387904, 0, ()) h63 ∧
  ∀ (queue_83 : Value) (best_84 : Int) (s85 : Int) (h82 : H), I80 (queue_83, best_84, s85, ()) h82 →
  ifP (decide (s85 < ((l78 : Nat) : Int))) (ixS x76 s85 1 fun a86 =>
  ldI h82 a86 .i64 fun x87 =>
  ptrP p0_s fun a88 =>
  ptrP p0_s fun a89 =>
  ldV h82 (a88.add 0) fun x90 =>
  ldV h82 (a89.add 0) fun x91 =>
  ptrP x91 fun a92 =>
  ldV h82 (a92.add 1) fun x93 =>
  ixS x93 x87 1 fun a94 =>
  ldI h82 a94 .i64 fun x95 =>
  T Tryz.prog F.mincost_net_reduced [x90, .int .i64 x87] h82 (rt (fun v96 h97 =>
  ∃ r98, v96 = .int .i64 r98 ∧
  (sameAt 2 a94 h82 h97) ∧
  (sameAt 2 (a92.add 1) h82 h97) ∧
  (sameAt 2 (a89.add 0) h82 h97) ∧
  ∃ J99 : (Int × Unit) → H → Prop, (ptrP p0_s fun a102 =>
  ldV h97 (a102.add 0) fun x103 =>
  ptrP x103 fun a104 =>
  ldV h97 (a104.add 2) fun x105 =>
  ixS x105 x87 1 fun a106 =>
  ldI h97 a106 .i64 fun x107 =>
  ifP (decide (0 < x107)) (J99 ((if r98 < best_84 then r98 else best_84), ()) h97)
  (J99 (best_84, ()) h97)) ∧
  (∀ (best_101 : Int) (h100 : H), J99 (best_101, ()) h100 →
  ∃ J108 : (Unit) → H → Prop, (ptrP p0_s fun a110 =>
  ldV h100 (a110.add 0) fun x111 =>
  ptrP x111 fun a112 =>
  ldV h100 (a112.add 2) fun x113 =>
  ixS x113 x87 1 fun a114 =>
  ldI h100 a114 .i64 fun x115 =>
  ifP (decide (x115 = 0)) (I80 (queue_83, best_101, (IntKind.i64.wrap (s85 + 1)), ()) h100 ∧ r81 ((queue_83, best_101, (IntKind.i64.wrap (s85 + 1)), ()), h100) ((queue_83, best_84, s85, ()), h82)) (ifP (decide (0 ≤ r98)) (I80 (queue_83, best_101, (IntKind.i64.wrap (s85 + 1)), ()) h100 ∧ r81 ((queue_83, best_101, (IntKind.i64.wrap (s85 + 1)), ()), h100) ((queue_83, best_84, s85, ()), h82)) (ptrP p0_s fun a116 =>
  ldV h100 (a116.add 0) fun x117 =>
  ptrP x117 fun a118 =>
  ldV h100 (a118.add 5) fun x119 =>
  ixS x119 x57 1 fun a120 =>
  ldI h100 a120 .i64 fun x121 =>
  ifP (decide (x121 = 0)) (I80 (queue_83, best_101, (IntKind.i64.wrap (s85 + 1)), ()) h100 ∧ r81 ((queue_83, best_101, (IntKind.i64.wrap (s85 + 1)), ()), h100) ((queue_83, best_84, s85, ()), h82))
  (J108 (()) h100)))) ∧
  (∀  (h109 : H), J108 (()) h109 →
  ∃ J122 : (Value × Unit) → H → Prop, (ptrP p0_s fun a125 =>
  ldV h109 (a125.add 0) fun x126 =>
  ptrP x126 fun a127 =>
  ldV h109 (a127.add 5) fun x128 =>
  ixS x128 x95 1 fun a129 =>
  ldI h109 a129 .i64 fun x130 =>
  ifP (decide (x130 ≤ 0)) (ptrP p0_s fun a131 =>
  ptrP p0_s fun a132 =>
  ptrP p0_s fun a133 =>
  ldV h109 (a131.add 0) fun x134 =>
  ptrP x134 fun a135 =>
  ldV h109 (a135.add 5) fun x136 =>
  ixS x136 x95 1 fun a137 =>
  ldI h109 a137 .i64 fun x138 =>
  ldV h109 (a132.add 0) fun x139 =>
  ptrP x139 fun a140 =>
  ldV h109 (a140.add 5) fun x141 =>
  ixS x141 x57 1 fun a142 =>
  ldI h109 a142 .i64 fun x143 =>
  ldV h109 (a133.add 0) fun x144 =>
  ptrP x144 fun a145 =>
  ldV h109 (a145.add 2) fun x146 =>
  ixS x146 x87 1 fun a147 =>
  ldI h109 a147 .i64 fun x148 =>
  ifP (decide (0 < (IntKind.i64.wrap (x138 + (if x148 < x143 then x148 else x143))))) (newP h109 (.cells ⟨[.int .i64 x95]⟩ 3 (0, 0)) fun b149 h150 =>
  apP queue_83 (.slice (some (bk b149)) 1 1) h150 1 3 8 [.int .i64 0] fun s151 h152 =>
  J122 (s151, ()) h152)
  (J122 (queue_83, ()) h109)) (J122 (queue_83, ()) h109)) ∧
  (∀ (queue_124 : Value) (h123 : H), J122 (queue_124, ()) h123 →
  ptrP p0_s fun a153 =>
  ptrP p0_s fun a154 =>
  ptrP p0_s fun a155 =>
  ldV h123 (a153.add 0) fun x156 =>
  ldV h123 (a154.add 0) fun x157 =>
  ptrP x157 fun a158 =>
  ldV h123 (a158.add 5) fun x159 =>
  ixS x159 x57 1 fun a160 =>
  ldI h123 a160 .i64 fun x161 =>
  ldV h123 (a155.add 0) fun x162 =>
  ptrP x162 fun a163 =>
  ldV h123 (a163.add 2) fun x164 =>
  ixS x164 x87 1 fun a165 =>
  ldI h123 a165 .i64 fun x166 =>
  T Tryz.prog F.mincost_net_send [x156, .int .i64 x87, .int .i64 (if x166 < x161 then x166 else x161)] h123 (rt (fun v167 h168 =>
  v167 = .tuple ⟨[]⟩ ∧
  I80 (queue_124, best_101, (IntKind.i64.wrap (s85 + 1)), ()) h168 ∧ r81 ((queue_124, best_101, (IntKind.i64.wrap (s85 + 1)), ()), h168) ((queue_83, best_84, s85, ()), h82)) (fun v169 h170 => R (.pan v169) h170)))))) (fun v171 h172 => R (.pan v171) h172)))
  (ptrP p0_s fun a173 =>
  ldV h82 (a173.add 0) fun x174 =>
  ptrP x174 fun a175 =>
  ldV h82 (a175.add 5) fun x176 =>
  ixS x176 x57 1 fun a177 =>
  ldI h82 a177 .i64 fun x178 =>
  ifP (decide (0 < x178)) (ifP (decide (0 ≤ best_84)) (ptrP p0_s fun a179 =>
  ptrP p0_s fun a180 =>
  ldV h82 (a179.add 0) fun x181 =>
  ptrP x181 fun a182 =>
  ldV h82 (a182.add 6) fun x183 =>
  ixS x183 x57 1 fun a184 =>
  ldI h82 a184 .i64 fun x185 =>
  ldI h82 (a180.add 1) .i64 fun x186 =>
  ixS x183 x57 1 fun a187 =>
  stC h82 a187 (.int .i64 (IntKind.i64.wrap (x185 - (IntKind.i64.wrap (best_84 + x186))))) fun h188 =>
  I61 (queue_83, ()) h188 ∧ r62 ((queue_83, ()), h188) ((queue_64, ()), h63))
  (I61 (queue_83, ()) h82 ∧ r62 ((queue_83, ()), h82) ((queue_64, ()), h63))) (I61 (queue_83, ()) h82 ∧ r62 ((queue_83, ()), h82) ((queue_64, ()), h63))))
  (I49 (queue_64, ()) h63 ∧ r50 ((queue_64, ()), h63) ((queue_52, ()), h51)))
  (R (.ret (.tuple ⟨[]⟩)) h51)))
theorem E_mincost_scaling_refine {p0_s : Value} {R : Res → H → Prop} {h : H} (H0 : B_mincost_scaling_refine p0_s R h) : T Tryz.prog F.mincost_scaling_refine [p0_s] h R :=
  T_intro A_mincost_scaling_refine Tryz.func69 (c := bodyOf Tryz.f69) (by kernel_rfl) (by kernel_rfl) (by kernel_rfl) (cast_of (by kernel_rfl) H0)

def A_maxflow_net_send : An := ⟨lkA [(0, rng 11), (1, rng 12)], lkL [], lkC []⟩
def B_maxflow_net_send (p0_n : Value) (p1_a : Int) (p2_x : Int) (R : Res → H → Prop) (h : H) : Prop :=
  ptrP p0_n fun a1 =>
  ldV h (a1.add 1) fun x2 =>
  ixS x2 p1_a 1 fun a3 =>
  ldI h a3 .i64 fun x4 =>
  ixS x2 p1_a 1 fun a5 =>
  stC h a5 (.int .i64 (IntKind.i64.wrap (x4 - p2_x))) fun h6 =>
  ptrP p0_n fun a7 =>
  ldV h6 (a7.add 1) fun x8 =>
  ixS x8 (bitsI .xor .i64 p1_a 1) 1 fun a9 =>
  ldI h6 a9 .i64 fun x10 =>
  ixS x8 (bitsI .xor .i64 p1_a 1) 1 fun a11 =>
  stC h6 a11 (.int .i64 (IntKind.i64.wrap (x10 + p2_x))) fun h12 =>
  R (.ret (.tuple ⟨[]⟩)) h12
theorem E_maxflow_net_send {p0_n : Value} {p1_a : Int} {p2_x : Int} {R : Res → H → Prop} {h : H} (H0 : B_maxflow_net_send p0_n p1_a p2_x R h) : T Tryz.prog F.maxflow_net_send [p0_n, .int .i64 p1_a, .int .i64 p2_x] h R :=
  T_intro A_maxflow_net_send Tryz.func70 (c := bodyOf Tryz.f70) (by kernel_rfl) (by kernel_rfl) (by kernel_rfl) (cast_of (by kernel_rfl) H0)

def A_maxflow_dinic_fill : An := ⟨lkA [(0, ⟨[0, 1, 2, 3, 5, 6, 7, 4, 8, 9, 10, 11, 12, 13, 14, 15], lkN []⟩), (1, ⟨[0, 1, 2, 4, 5, 6, 3, 7, 8, 9, 10, 11, 12, 13], lkN []⟩), (2, rng 13), (3, rng 9)], lkL [(0, [])], lkC []⟩
def B_maxflow_dinic_fill (p0_d : Value) (R : Res → H → Prop) (h : H) : Prop :=
  ∃ (I1 : (Unit) → H → Prop) (r2 : (Unit) × H → (Unit) × H → Prop), WellFounded r2 ∧ I1 (()) h ∧
  ∀  (h3 : H), I1 (()) h3 →
  ptrP p0_d fun a4 =>
  ptrP p0_d fun a5 =>
  ldV h3 (a4.add 0) fun x6 =>
  ldV h3 (a5.add 0) fun x7 =>
  ptrP x7 fun a8 =>
  ldI h3 (a8.add 3) .i64 fun x9 =>
  T Tryz.prog F.maxflow_net_levels [x6, .int .i64 x9] h3 (rt (fun v10 h11 =>
  ptrP p0_d fun a12 =>
  oneP v10 (stC h11 (a12.add 1) v10 fun h13 =>
  ptrP p0_d fun a14 =>
  ptrP p0_d fun a15 =>
  ldV h13 (a14.add 1) fun x16 =>
  ldV h13 (a15.add 0) fun x17 =>
  ptrP x17 fun a18 =>
  ldI h13 (a18.add 4) .i64 fun x19 =>
  ixS x16 x19 1 fun a20 =>
  ldI h13 a20 .i64 fun x21 =>
  ifP (decide (x21 < 0)) (R (.ret (.tuple ⟨[]⟩)) h13)
  (ptrP p0_d fun a22 =>
  ldV h13 (a22.add 0) fun x23 =>
  ptrP x23 fun a24 =>
  ldV h13 (a24.add 2) fun x25 =>
  slcP x25 fun a26 l27 c28 =>
  mkS ((l27 : Nat) : Int) ((l27 : Nat) : Int) 8 [.int .i64 0] 3 h13 fun b29 h30 =>
  ptrP p0_d fun a31 =>
  stC h30 (a31.add 2) (.slice (some (bk b29)) (((l27 : Nat) : Int).toNat) (((l27 : Nat) : Int).toNat)) fun h32 =>
  ptrP p0_d fun a33 =>
  ldV h32 (a33.add 0) fun x34 =>
  ptrP x34 fun a35 =>
  ldI h32 (a35.add 3) .i64 fun x36 =>
  T Tryz.prog F.maxflow_dinic_along [p0_d, .int .i64 x36, .int .i64 4611686018427387904] h32 (rt (fun v37 h38 =>
  ∃ r39, v37 = .int .i64 r39 ∧
  I1 (()) h38 ∧ r2 ((()), h38) ((()), h3)) (fun v40 h41 => R (.pan v40) h41))))) (fun v42 h43 => R (.pan v42) h43))
theorem E_maxflow_dinic_fill {p0_d : Value} {R : Res → H → Prop} {h : H} (H0 : B_maxflow_dinic_fill p0_d R h) : T Tryz.prog F.maxflow_dinic_fill [p0_d] h R :=
  T_intro A_maxflow_dinic_fill Tryz.func71 (c := bodyOf Tryz.f71) (by kernel_rfl) (by kernel_rfl) (by kernel_rfl) (cast_of (by kernel_rfl) H0)

def A_maxflow_dinic_along : An := ⟨lkA [(0, rng 1), (1, rng 13), (2, rng 2), (3, rng 1), (4, ⟨[0, 1, 2, 4, 7, 8, 9, 14, 3, 5, 6, 10, 11, 12, 13, 15, 16, 17, 18], lkN []⟩), (5, rng 10), (6, ⟨[0, 1, 2, 7, 10, 11, 12, 14, 3, 4, 5, 6, 8, 9, 13, 15, 16, 17, 18, 19], lkN []⟩), (7, rng 11), (8, ⟨[0, 1, 2, 7, 3, 4, 5, 6, 8, 9, 10, 11, 12, 13, 14, 16, 19, 20, 21, 23, 15, 17, 18, 22, 24, 25, 26, 27, 28], lkN []⟩), (9, rng 18), (10, rng 7), (11, rng 4), (12, rng 3), (13, rng 2)], lkL [(4, [(7, .int .i64)])], lkC [(5, [(7, .int .i64)])]⟩
def B_maxflow_dinic_along (p0_d : Value) (p1_v : Int) (p2_most : Int) (R : Res → H → Prop) (h : H) : Prop :=
  ptrP p0_d fun a1 =>
  ldV h (a1.add 0) fun x2 =>
  ptrP x2 fun a3 =>
  ldI h (a3.add 4) .i64 fun x4 =>
  ifP (decide (p1_v = x4)) (R (.ret (.int .i64 p2_most)) h) (ifP (decide (p2_most = 0)) (R (.ret (.int .i64 p2_most)) h)
  (∃ (I5 : (Int × Unit) → H → Prop) (r6 : (Int × Unit) × H → (Int × Unit) × H → Prop), WellFounded r6 ∧ I5 (0, ()) h ∧
  ∀ (sent_8 : Int) (h7 : H), I5 (sent_8, ()) h7 →
  ptrP p0_d fun a9 =>
  ptrP p0_d fun a10 =>
  ldV h7 (a9.add 2) fun x11 =>
  ixS x11 p1_v 1 fun a12 =>
  ldI h7 a12 .i64 fun x13 =>
  ldV h7 (a10.add 0) fun x14 =>
  ptrP x14 fun a15 =>
  ldV h7 (a15.add 2) fun x16 =>
  ixS x16 p1_v 1 fun a17 =>
  ldV h7 a17 fun x18 =>
  slcP x18 fun a19 l20 c21 =>
  ifP (decide (x13 < ((l20 : Nat) : Int))) (∃ J22 : (Int × Unit) → H → Prop, (ptrP p0_d fun a25 =>
  ptrP p0_d fun a26 =>
  ldV h7 (a25.add 0) fun x27 =>
  ptrP x27 fun a28 =>
  ldV h7 (a28.add 2) fun x29 =>
  ixS x29 p1_v 1 fun a30 =>
  ldV h7 a30 fun x31 =>
  ldV h7 (a26.add 2) fun x32 =>
  ixS x32 p1_v 1 fun a33 =>
  ldI h7 a33 .i64 fun x34 =>
  ixS x31 x34 1 fun a35 =>
  ldI h7 a35 .i64 fun x36 =>
  ptrP p0_d fun a37 =>
  ldV h7 (a37.add 0) fun x38 =>
  ptrP x38 fun a39 =>
  ldV h7 (a39.add 0) fun x40 =>
  ixS x40 x36 1 fun a41 =>
  ldI h7 a41 .i64 fun x42 =>
  ptrP p0_d fun a43 =>
  ldV h7 (a43.add 0) fun x44 =>
  ptrP x44 fun a45 =>
  ldV h7 (a45.add 1) fun x46 =>
  ixS x46 x36 1 fun a47 =>
  ldI h7 a47 .i64 fun x48 =>
  ifP (decide (x48 = 0)) (J22 (sent_8, ()) h7) (ptrP p0_d fun a49 =>
  ptrP p0_d fun a50 =>
  ldV h7 (a49.add 1) fun x51 =>
  ixS x51 x42 1 fun a52 =>
  ldI h7 a52 .i64 fun x53 =>
  ldV h7 (a50.add 1) fun x54 =>
  ixS x54 p1_v 1 fun a55 =>
  ldI h7 a55 .i64 fun x56 =>
  ifP (!decide (x53 = (IntKind.i64.wrap (x56 + 1)))) (J22 (sent_8, ()) h7)
  (ptrP p0_d fun a57 =>
  ldV h7 (a57.add 0) fun x58 =>
  ptrP x58 fun a59 =>
  ldV h7 (a59.add 1) fun x60 =>
  ixS x60 x36 1 fun a61 =>
  ldI h7 a61 .i64 fun x62 =>
  T Tryz.prog F.maxflow_dinic_along [p0_d, .int .i64 x42, .int .i64 (if x62 < (IntKind.i64.wrap (p2_most - sent_8)) then x62 else (IntKind.i64.wrap (p2_most - sent_8)))] h7 (rt (fun v63 h64 =>
  ∃ r65, v63 = .int .i64 r65 ∧
  ptrP p0_d fun a66 =>
  ldV h64 (a66.add 0) fun x67 =>
  T Tryz.prog F.maxflow_net_send [x67, .int .i64 x36, .int .i64 r65] h64 (rt (fun v68 h69 =>
  v68 = .tuple ⟨[]⟩ ∧
  ifP (decide ((IntKind.i64.wrap (sent_8 + r65)) = p2_most)) (R (.ret (.int .i64 (IntKind.i64.wrap (sent_8 + r65)))) h69)
  (J22 ((IntKind.i64.wrap (sent_8 + r65)), ()) h69)) (fun v70 h71 => R (.pan v70) h71))) (fun v72 h73 => R (.pan v72) h73))))) ∧
  (∀ (sent_24 : Int) (h23 : H), J22 (sent_24, ()) h23 →
  ptrP p0_d fun a74 =>
  ldV h23 (a74.add 2) fun x75 =>
  ixS x75 p1_v 1 fun a76 =>
  ldI h23 a76 .i64 fun x77 =>
  ixS x75 p1_v 1 fun a78 =>
  stC h23 a78 (.int .i64 (IntKind.i64.wrap (x77 + 1))) fun h79 =>
  I5 (sent_24, ()) h79 ∧ r6 ((sent_24, ()), h79) ((sent_8, ()), h7)))
  (R (.ret (.int .i64 sent_8)) h7)))
theorem E_maxflow_dinic_along {p0_d : Value} {p1_v : Int} {p2_most : Int} {R : Res → H → Prop} {h : H} (H0 : B_maxflow_dinic_along p0_d p1_v p2_most R h) : T Tryz.prog F.maxflow_dinic_along [p0_d, .int .i64 p1_v, .int .i64 p2_most] h R :=
  T_intro A_maxflow_dinic_along Tryz.func72 (c := bodyOf Tryz.f72) (by kernel_rfl) (by kernel_rfl) (by kernel_rfl) (cast_of (by kernel_rfl) H0)

def A_heaps_keyed_ahead : An := ⟨lkA [(0, rng 1), (1, ⟨[0, 1, 2, 4, 7, 8, 9, 11, 3, 5, 6, 10, 12, 13, 14, 15, 16, 17, 18, 20, 23, 24, 25, 27, 19, 21, 22, 26, 28, 29, 30, 31, 32, 33, 34, 35, 36, 37], lkN []⟩)], lkL [], lkC []⟩
def B_heaps_keyed_ahead (p0_k : Value) (p1_a : Int) (p2_b : Int) (R : Res → H → Prop) (h : H) : Prop :=
  ptrP p0_k fun a1 =>
  ptrP p0_k fun a2 =>
  ldV h (a1.add 0) fun x3 =>
  ixS x3 p1_a 1 fun a4 =>
  ldI h a4 .i64 fun x5 =>
  ldV h (a2.add 0) fun x6 =>
  ixS x6 p2_b 1 fun a7 =>
  ldI h a7 .i64 fun x8 =>
  ifP (decide (x5 < x8)) (R (.ret (.bool true)) h) (ptrP p0_k fun a9 =>
  ptrP p0_k fun a10 =>
  ldV h (a9.add 0) fun x11 =>
  ixS x11 p1_a 1 fun a12 =>
  ldI h a12 .i64 fun x13 =>
  ldV h (a10.add 0) fun x14 =>
  ixS x14 p2_b 1 fun a15 =>
  ldI h a15 .i64 fun x16 =>
  ifP (decide (x13 = x16)) (R (.ret (.bool (decide (p1_a < p2_b)))) h) (R (.ret (.bool false)) h))
theorem E_heaps_keyed_ahead {p0_k : Value} {p1_a : Int} {p2_b : Int} {R : Res → H → Prop} {h : H} (H0 : B_heaps_keyed_ahead p0_k p1_a p2_b R h) : T Tryz.prog F.heaps_keyed_ahead [p0_k, .int .i64 p1_a, .int .i64 p2_b] h R :=
  T_intro A_heaps_keyed_ahead Tryz.func104 (c := bodyOf Tryz.f104) (by kernel_rfl) (by kernel_rfl) (by kernel_rfl) (cast_of (by kernel_rfl) H0)

def A_heaps_fibonacci_lower : An := ⟨lkA [(0, rng 9), (1, rng 11), (2, rng 3), (3, ⟨[0, 1, 2, 4, 5, 6, 7, 3, 8, 9], lkN []⟩), (4, rng 5)], lkL [], lkC [(3, [])]⟩
def B_heaps_fibonacci_lower (p0_f : Value) (p1_h : Int) (R : Res → H → Prop) (h : H) : Prop :=
  ∃ J1 : (Unit) → H → Prop, (ptrP p0_f fun a3 =>
  ldV h (a3.add 2) fun x4 =>
  ixS x4 p1_h 6 fun a5 =>
  ldI h (a5.add 0) .i64 fun x6 =>
  ifP (decide (0 ≤ x6)) (ptrP p0_f fun a7 =>
  ldV h (a7.add 0) fun x8 =>
  T Tryz.prog F.heaps_keyed_ahead [x8, .int .i64 p1_h, .int .i64 x6] h (rt (fun v9 h10 =>
  ∃ r11, v9 = .bool r11 ∧
  ifP r11 (T Tryz.prog F.heaps_fibonacci_cut [p0_f, .int .i64 p1_h] h10 (rt (fun v12 h13 =>
  v12 = .tuple ⟨[]⟩ ∧
  J1 (()) h13) (fun v14 h15 => R (.pan v14) h15)))
  (J1 (()) h10)) (fun v16 h17 => R (.pan v16) h17))) (J1 (()) h)) ∧
  (∀  (h2 : H), J1 (()) h2 →
  ptrP p0_f fun a18 =>
  ptrP p0_f fun a19 =>
  ldV h2 (a18.add 0) fun x20 =>
  ldI h2 (a19.add 1) .i64 fun x21 =>
  T Tryz.prog F.heaps_keyed_ahead [x20, .int .i64 p1_h, .int .i64 x21] h2 (rt (fun v22 h23 =>
  ∃ r24, v22 = .bool r24 ∧
  ifP r24 (ptrP p0_f fun a25 =>
  stC h23 (a25.add 1) (.int .i64 p1_h) fun h26 =>
  R (.ret (.tuple ⟨[]⟩)) h26)
  (R (.ret (.tuple ⟨[]⟩)) h23)) (fun v27 h28 => R (.pan v27) h28)))
theorem E_heaps_fibonacci_lower {p0_f : Value} {p1_h : Int} {R : Res → H → Prop} {h : H} (H0 : B_heaps_fibonacci_lower p0_f p1_h R h) : T Tryz.prog F.heaps_fibonacci_lower [p0_f, .int .i64 p1_h] h R :=
  T_intro A_heaps_fibonacci_lower Tryz.func111 (c := bodyOf Tryz.f111) (by kernel_rfl) (by kernel_rfl) (by kernel_rfl) (cast_of (by kernel_rfl) H0)

def A_heaps_fibonacci_pop : An := ⟨lkA [(0, ⟨[0, 1, 2, 3, 5, 6, 7, 13, 14, 15, 16, 4, 8, 9, 10, 11, 17, 12, 18, 19, 20, 21], lkN [(12, [17])]⟩), (1, rng 1), (2, rng 3), (3, rng 1), (4, rng 3), (5, ⟨[0, 1, 2, 4, 5, 6, 7, 9, 10, 11, 12, 14, 15, 16, 17, 19, 20, 21, 3, 8, 13, 18, 22, 23, 24, 25, 26, 27, 28, 29, 30, 31, 32, 33], lkN []⟩), (6, rng 9), (7, rng 5), (8, rng 2), (9, rng 5), (10, rng 3), (11, rng 5), (12, rng 2), (13, rng 4), (14, rng 2), (15, rng 1), (16, rng 2), (17, rng 2), (18, rng 4), (19, rng 2)], lkL [(3, [(33, .int .i64)]), (6, [(5, .int .i64)]), (15, [(96, .int .i64)])], lkC []⟩
def B_heaps_fibonacci_pop (p0_f : Value) (R : Res → H → Prop) (h : H) : Prop :=
  ptrP p0_f fun a1 =>
  ptrP p0_f fun a2 =>
  ptrP p0_f fun a3 =>
  ldV h (a1.add 2) fun x4 =>
  ldI h (a2.add 1) .i64 fun x5 =>
  ixS x4 x5 6 fun a6 =>
  ldI h (a6.add 1) .i64 fun x7 =>
  ldI h (a3.add 1) .i64 fun x8 =>
  T Tryz.prog F.heaps_fibonacci_ring [p0_f, .int .i64 x7] h (rt (fun v9 h10 =>
  (sameAt 2 (a3.add 1) h h10) ∧
  T Tryz.prog F.heaps_fibonacci_ring [p0_f, .int .i64 x8] h10 (rt (fun v11 h12 =>
  slcP v11 fun a13 l14 c15 =>
  (0 : Int) ≤ ((l14 : Nat) : Int) ∧ ((l14 : Nat) : Int) ≤ ((c15 : Nat) : Int) ∧
  (0 : Int) ≤ 1 ∧ 1 ≤ ((l14 : Nat) : Int) ∧
  apP v9 (sliceV a13 c15 1 ((l14 : Nat) : Int) 1) h12 1 3 8 [.int .i64 0] fun s16 h17 =>
  newP h17 (.cells ⟨[.int .i64 0, .int .i64 0, .int .i64 0, .int .i64 0, .int .i64 0, .int .i64 0, .int .i64 0, .int .i64 0, .int .i64 0, .int .i64 0, .int .i64 0, .int .i64 0, .int .i64 0, .int .i64 0, .int .i64 0, .int .i64 0, .int .i64 0, .int .i64 0, .int .i64 0, .int .i64 0, .int .i64 0, .int .i64 0, .int .i64 0, .int .i64 0, .int .i64 0, .int .i64 0, .int .i64 0, .int .i64 0, .int .i64 0, .int .i64 0, .int .i64 0, .int .i64 0, .int .i64 0, .int .i64 0, .int .i64 0, .int .i64 0, .int .i64 0, .int .i64 0, .int .i64 0, .int .i64 0, .int .i64 0, .int .i64 0, .int .i64 0, .int .i64 0, .int .i64 0, .int .i64 0, .int .i64 0, .int .i64 0, .int .i64 0, .int .i64 0, .int .i64 0, .int .i64 0, .int .i64 0, .int .i64 0, .int .i64 0, .int .i64 0, .int .i64 0, .int .i64 0, .int .i64 0, .int .i64 0, .int .i64 0, .int .i64 0, .int .i64 0, .int .i64 0]⟩ 186 (0, 0)) fun b18 h19 =>
  slcP s16 fun a20 l21 c22 =>
  ∃ (I23 : (Int × Unit) → H → Prop) (r24 : (Int × Unit) × H → (Int × Unit) × H → Prop), WellFounded r24 ∧ I23 (0, ()) h19 ∧
  ∀ (s26 : Int) (h25 : H), I23 (s26, ()) h25 →
  ifP (decide (s26 < ((l21 : Nat) : Int))) (ixS s16 s26 1 fun a27 =>
  ldI h25 a27 .i64 fun x28 =>
  ptrP p0_f fun a29 =>
  ptrP p0_f fun a30 =>
  ptrP p0_f fun a31 =>
  ptrP p0_f fun a32 =>
  ldV h25 (a29.add 2) fun x33 =>
  ldV h25 (a30.add 2) fun x34 =>
  ldV h25 (a31.add 2) fun x35 =>
  ldV h25 (a32.add 2) fun x36 =>
  ixS x33 x28 6 fun a37 =>
  stC h25 (a37.add 2) (.int .i64 x28) fun h38 =>
  ixS x34 x28 6 fun a39 =>
  stC h38 (a39.add 3) (.int .i64 x28) fun h40 =>
  ixS x35 x28 6 fun a41 =>
  stC h40 (a41.add 0) (.int .i64 (-1)) fun h42 =>
  ixS x36 x28 6 fun a43 =>
  stC h42 (a43.add 5) (.bool false) fun h44 =>
  ∃ (I45 : (Int × Unit) → H → Prop) (r46 : (Int × Unit) × H → (Int × Unit) × H → Prop), WellFounded r46 ∧ I45 (x28, ()) h44 ∧
  ∀ (h_48 : Int) (h47 : H), I45 (h_48, ()) h47 →
  ptrP p0_f fun a49 =>
  ldV h47 (a49.add 2) fun x50 =>
  ixS x50 h_48 6 fun a51 =>
  ldI h47 (a51.add 4) .i64 fun x52 =>
  ixA (bk b18) 64 x52 1 fun a53 =>
  ldI h47 a53 .i64 fun x54 =>
  ifP (decide ((IntKind.i64.wrap (x54 - 1)) < 0)) (ixA (bk b18) 64 x52 1 fun a55 =>
  stC h47 a55 (.int .i64 (IntKind.i64.wrap (h_48 + 1))) fun h56 =>
  I23 ((IntKind.i64.wrap (s26 + 1)), ()) h56 ∧ r24 (((IntKind.i64.wrap (s26 + 1)), ()), h56) ((s26, ()), h25))
  (ixA (bk b18) 64 x52 1 fun a57 =>
  stC h47 a57 (.int .i64 0) fun h58 =>
  T Tryz.prog F.heaps_fibonacci_under [p0_f, .int .i64 h_48, .int .i64 (IntKind.i64.wrap (x54 - 1))] h58 (rt (fun v59 h60 =>
  ∃ r61, v59 = .int .i64 r61 ∧
  I45 (r61, ()) h60 ∧ r46 ((r61, ()), h60) ((h_48, ()), h47)) (fun v62 h63 => R (.pan v62) h63))))
  (ptrP p0_f fun a64 =>
  stC h25 (a64.add 1) (.int .i64 (-1)) fun h65 =>
  ldN h65 (bk b18) 64 fun x66 =>
  ∃ (I67 : (Int × Unit) → H → Prop) (r68 : (Int × Unit) × H → (Int × Unit) × H → Prop), WellFounded r68 ∧ I67 (0, ()) h65 ∧
  ∀ (s70 : Int) (h69 : H), I67 (s70, ()) h69 →
  ifP (decide (s70 < 64)) (0 ≤ s70 ∧ s70 < ((64 : Nat) : Int) ∧
  ptI x66 (s70.toNat * 1) .i64 fun x71 =>
  ifP (decide (0 < x71)) (T Tryz.prog F.heaps_fibonacci_root [p0_f, .int .i64 (IntKind.i64.wrap (x71 - 1))] h69 (rt (fun v72 h73 =>
  v72 = .tuple ⟨[]⟩ ∧
  I67 ((IntKind.i64.wrap (s70 + 1)), ()) h73 ∧ r68 (((IntKind.i64.wrap (s70 + 1)), ()), h73) ((s70, ()), h69)) (fun v74 h75 => R (.pan v74) h75)))
  (I67 ((IntKind.i64.wrap (s70 + 1)), ()) h69 ∧ r68 (((IntKind.i64.wrap (s70 + 1)), ()), h69) ((s70, ()), h69)))
  (R (.ret (.tuple ⟨[]⟩)) h69))) (fun v76 h77 => R (.pan v76) h77))) (fun v78 h79 => R (.pan v78) h79))
theorem E_heaps_fibonacci_pop {p0_f : Value} {R : Res → H → Prop} {h : H} (H0 : B_heaps_fibonacci_pop p0_f R h) : T Tryz.prog F.heaps_fibonacci_pop [p0_f] h R :=
  T_intro A_heaps_fibonacci_pop Tryz.func112 (c := bodyOf Tryz.f112) (by kernel_rfl) (by kernel_rfl) (by kernel_rfl) (cast_of (by kernel_rfl) H0)

def A_heaps_fibonacci_push : An := ⟨lkA [(0, rng 10), (1, rng 3)], lkL [], lkC []⟩
def B_heaps_fibonacci_push (p0_f : Value) (p1_h : Int) (R : Res → H → Prop) (h : H) : Prop :=
  ptrP p0_f fun a1 =>
  ldV h (a1.add 2) fun x2 =>
  ixS x2 p1_h 6 fun a3 =>
  stN h a3 [.int .i64 (-1), .int .i64 (-1), .int .i64 p1_h, .int .i64 p1_h, .int .i64 0, .bool false] 6 fun h4 =>
  T Tryz.prog F.heaps_fibonacci_root [p0_f, .int .i64 p1_h] h4 (rt (fun v5 h6 =>
  v5 = .tuple ⟨[]⟩ ∧
  R (.ret (.tuple ⟨[]⟩)) h6) (fun v7 h8 => R (.pan v7) h8))
theorem E_heaps_fibonacci_push {p0_f : Value} {p1_h : Int} {R : Res → H → Prop} {h : H} (H0 : B_heaps_fibonacci_push p0_f p1_h R h) : T Tryz.prog F.heaps_fibonacci_push [p0_f, .int .i64 p1_h] h R :=
  T_intro A_heaps_fibonacci_push Tryz.func113 (c := bodyOf Tryz.f113) (by kernel_rfl) (by kernel_rfl) (by kernel_rfl) (cast_of (by kernel_rfl) H0)

def A_heaps_fibonacci_top : An := ⟨lkA [(0, rng 1), (1, rng 5)], lkL [], lkC []⟩
def B_heaps_fibonacci_top (p0_f : Value) (R : Res → H → Prop) (h : H) : Prop :=
  ptrP p0_f fun a1 =>
  ldI h (a1.add 1) .i64 fun x2 =>
  R (.ret (.int .i64 x2)) h
theorem E_heaps_fibonacci_top {p0_f : Value} {R : Res → H → Prop} {h : H} (H0 : B_heaps_fibonacci_top p0_f R h) : T Tryz.prog F.heaps_fibonacci_top [p0_f] h R :=
  T_intro A_heaps_fibonacci_top Tryz.func114 (c := bodyOf Tryz.f114) (by kernel_rfl) (by kernel_rfl) (by kernel_rfl) (cast_of (by kernel_rfl) H0)

def A_heaps_fibonacci_cut : An := ⟨lkA [(0, rng 9), (1, rng 2), (2, rng 9), (3, rng 7), (4, rng 8), (5, rng 6), (6, rng 4), (7, rng 7), (8, rng 12), (9, rng 3), (10, rng 3), (11, rng 5), (12, rng 9), (13, rng 2)], lkL [(1, [(1, .int .i64), (4, .int .i64)])], lkC [(2, [(1, .int .i64)]), (9, [])]⟩
def B_heaps_fibonacci_cut (p0_f : Value) (p1_h : Int) (R : Res → H → Prop) (h : H) : Prop :=
  ptrP p0_f fun a1 =>
  ldV h (a1.add 2) fun x2 =>
  ixS x2 p1_h 6 fun a3 =>
  ldI h (a3.add 0) .i64 fun x4 =>
  ∃ (I5 : (Int × Int × Unit) → H → Prop) (r6 : (Int × Int × Unit) × H → (Int × Int × Unit) × H → Prop), WellFounded r6 ∧ I5 (p1_h, x4, ()) h ∧
  ∀ (h_8 : Int) (p_9 : Int) (h7 : H), I5 (h_8, p_9, ()) h7 →
  ifP (decide (0 ≤ p_9)) (∃ J10 : (Int × Unit) → H → Prop, (ptrP p0_f fun a13 =>
  ldV h7 (a13.add 2) fun x14 =>
  ixS x14 p_9 6 fun a15 =>
  ldI h7 (a15.add 4) .i64 fun x16 =>
  stC h7 (a15.add 4) (.int .i64 (IntKind.i64.wrap (x16 - 1))) fun h17 =>
  ∃ J18 : (Unit) → H → Prop, (ldI h17 (a15.add 4) .i64 fun x20 =>
  ifP (decide (x20 = 0)) (stC h17 (a15.add 1) (.int .i64 (-1)) fun h21 =>
  J18 (()) h21)
  (ldI h17 (a15.add 1) .i64 fun x22 =>
  ifP (decide (x22 = h_8)) (ptrP p0_f fun a23 =>
  ldV h17 (a23.add 2) fun x24 =>
  ixS x24 h_8 6 fun a25 =>
  ldI h17 (a25.add 3) .i64 fun x26 =>
  stC h17 (a15.add 1) (.int .i64 x26) fun h27 =>
  J18 (()) h27)
  (J18 (()) h17))) ∧
  (∀  (h19 : H), J18 (()) h19 →
  T Tryz.prog F.heaps_fibonacci_leave [p0_f, .int .i64 h_8] h19 (rt (fun v28 h29 =>
  v28 = .tuple ⟨[]⟩ ∧
  T Tryz.prog F.heaps_fibonacci_root [p0_f, .int .i64 h_8] h29 (rt (fun v30 h31 =>
  v30 = .tuple ⟨[]⟩ ∧
  ldB h31 (a15.add 5) fun x32 =>
  ifP (!x32) (ldI h31 (a15.add 0) .i64 fun x33 =>
  stC h31 (a15.add 5) (.bool (decide (0 ≤ x33))) fun h34 =>
  R (.ret (.tuple ⟨[]⟩)) h34)
  (J10 (p_9, ()) h31)) (fun v35 h36 => R (.pan v35) h36))) (fun v37 h38 => R (.pan v37) h38)))) ∧
  (∀ (h_12 : Int) (h11 : H), J10 (h_12, ()) h11 →
  ptrP p0_f fun a39 =>
  ldV h11 (a39.add 2) fun x40 =>
  ixS x40 h_12 6 fun a41 =>
  ldI h11 (a41.add 0) .i64 fun x42 =>
  I5 (h_12, x42, ()) h11 ∧ r6 ((h_12, x42, ()), h11) ((h_8, p_9, ()), h7)))
  (R (.ret (.tuple ⟨[]⟩)) h7)
theorem E_heaps_fibonacci_cut {p0_f : Value} {p1_h : Int} {R : Res → H → Prop} {h : H} (H0 : B_heaps_fibonacci_cut p0_f p1_h R h) : T Tryz.prog F.heaps_fibonacci_cut [p0_f, .int .i64 p1_h] h R :=
  T_intro A_heaps_fibonacci_cut Tryz.func115 (c := bodyOf Tryz.f115) (by kernel_rfl) (by kernel_rfl) (by kernel_rfl) (cast_of (by kernel_rfl) H0)

def A_heaps_fibonacci_ring : An := ⟨lkA [(0, rng 1), (1, rng 2), (2, rng 1), (3, rng 3), (4, rng 9), (5, rng 3), (6, rng 9), (7, rng 5), (8, rng 2)], lkL [(5, [(5, .val), (6, .int .i64)])], lkC []⟩
def B_heaps_fibonacci_ring (p0_f : Value) (p1_h : Int) (R : Res → H → Prop) (h : H) : Prop :=
  ifP (decide (p1_h < 0)) (R (.ret (.slice none 0 0)) h)
  (newP h (.cells ⟨[.int .i64 p1_h]⟩ 3 (0, 0)) fun b1 h2 =>
  ptrP p0_f fun a3 =>
  ldV h2 (a3.add 2) fun x4 =>
  ixS x4 p1_h 6 fun a5 =>
  ldI h2 (a5.add 3) .i64 fun x6 =>
  ∃ (I7 : (Value × Int × Unit) → H → Prop) (r8 : (Value × Int × Unit) × H → (Value × Int × Unit) × H → Prop), WellFounded r8 ∧ I7 ((.slice (some (bk b1)) 1 1 : Value), x6, ()) h2 ∧
  ∀ (out_10 : Value) (n_11 : Int) (h9 : H), I7 (out_10, n_11, ()) h9 →
  ifP (!decide (n_11 = p1_h)) (newP h9 (.cells ⟨[.int .i64 n_11]⟩ 3 (0, 0)) fun b12 h13 =>
  apP out_10 (.slice (some (bk b12)) 1 1) h13 1 3 8 [.int .i64 0] fun s14 h15 =>
  ptrP p0_f fun a16 =>
  ldV h15 (a16.add 2) fun x17 =>
  ixS x17 n_11 6 fun a18 =>
  ldI h15 (a18.add 3) .i64 fun x19 =>
  I7 (s14, x19, ()) h15 ∧ r8 ((s14, x19, ()), h15) ((out_10, n_11, ()), h9))
  (R (.ret out_10) h9))
theorem E_heaps_fibonacci_ring {p0_f : Value} {p1_h : Int} {R : Res → H → Prop} {h : H} (H0 : B_heaps_fibonacci_ring p0_f p1_h R h) : T Tryz.prog F.heaps_fibonacci_ring [p0_f, .int .i64 p1_h] h R :=
  T_intro A_heaps_fibonacci_ring Tryz.func116 (c := bodyOf Tryz.f116) (by kernel_rfl) (by kernel_rfl) (by kernel_rfl) (cast_of (by kernel_rfl) H0)

def A_heaps_fibonacci_under : An := ⟨lkA [(0, rng 1), (1, rng 7), (2, rng 4), (3, rng 9), (4, rng 9), (5, rng 2), (6, rng 4), (7, rng 9), (8, rng 12), (9, rng 2)], lkL [], lkC [(3, [(1, .int .i64), (2, .int .i64)]), (8, [])]⟩
def B_heaps_fibonacci_under (p0_f : Value) (p1_a : Int) (p2_b : Int) (R : Res → H → Prop) (h : H) : Prop :=
  ∃ J1 : (Int × Int × Unit) → H → Prop, (ptrP p0_f fun a5 =>
  ldV h (a5.add 0) fun x6 =>
  T Tryz.prog F.heaps_keyed_ahead [x6, .int .i64 p2_b, .int .i64 p1_a] h (rt (fun v7 h8 =>
  ∃ r9, v7 = .bool r9 ∧
  ifP r9 (J1 (p2_b, p1_a, ()) h8)
  (J1 (p1_a, p2_b, ()) h8)) (fun v10 h11 => R (.pan v10) h11))) ∧
  (∀ (a_3 : Int) (b_4 : Int) (h2 : H), J1 (a_3, b_4, ()) h2 →
  ptrP p0_f fun a12 =>
  ldV h2 (a12.add 2) fun x13 =>
  ixS x13 b_4 6 fun a14 =>
  stC h2 (a14.add 0) (.int .i64 a_3) fun h15 =>
  ∃ J16 : (Unit) → H → Prop, (ptrP p0_f fun a18 =>
  ldV h15 (a18.add 2) fun x19 =>
  ixS x19 a_3 6 fun a20 =>
  ldI h15 (a20.add 1) .i64 fun x21 =>
  ifP (decide (0 ≤ x21)) (T Tryz.prog F.heaps_fibonacci_join [p0_f, .int .i64 b_4, .int .i64 x21] h15 (rt (fun v22 h23 =>
  v22 = .tuple ⟨[]⟩ ∧
  J16 (()) h23) (fun v24 h25 => R (.pan v24) h25)))
  (ptrP p0_f fun a26 =>
  ldV h15 (a26.add 2) fun x27 =>
  ixS x27 a_3 6 fun a28 =>
  stC h15 (a28.add 1) (.int .i64 b_4) fun h29 =>
  J16 (()) h29)) ∧
  (∀  (h17 : H), J16 (()) h17 →
  ptrP p0_f fun a30 =>
  ldV h17 (a30.add 2) fun x31 =>
  ixS x31 a_3 6 fun a32 =>
  ldI h17 (a32.add 4) .i64 fun x33 =>
  ixS x31 a_3 6 fun a34 =>
  stC h17 (a34.add 4) (.int .i64 (IntKind.i64.wrap (x33 + 1))) fun h35 =>
  R (.ret (.int .i64 a_3)) h35))
theorem E_heaps_fibonacci_under {p0_f : Value} {p1_a : Int} {p2_b : Int} {R : Res → H → Prop} {h : H} (H0 : B_heaps_fibonacci_under p0_f p1_a p2_b R h) : T Tryz.prog F.heaps_fibonacci_under [p0_f, .int .i64 p1_a, .int .i64 p2_b] h R :=
  T_intro A_heaps_fibonacci_under Tryz.func117 (c := bodyOf Tryz.f117) (by kernel_rfl) (by kernel_rfl) (by kernel_rfl) (cast_of (by kernel_rfl) H0)

def A_heaps_fibonacci_root : An := ⟨lkA [(0, ⟨[0, 1, 2, 4, 5, 6, 7, 9, 3, 8, 10, 11, 12, 13, 14, 15], lkN []⟩), (1, rng 5), (2, rng 5), (3, rng 7), (4, ⟨[0, 1, 2, 4, 5, 6, 7, 3, 8, 9], lkN []⟩), (5, rng 5)], lkL [], lkC []⟩
def B_heaps_fibonacci_root (p0_f : Value) (p1_h : Int) (R : Res → H → Prop) (h : H) : Prop :=
  ptrP p0_f fun a1 =>
  ptrP p0_f fun a2 =>
  ldV h (a1.add 2) fun x3 =>
  ldV h (a2.add 2) fun x4 =>
  ixS x3 p1_h 6 fun a5 =>
  stC h (a5.add 0) (.int .i64 (-1)) fun h6 =>
  ixS x4 p1_h 6 fun a7 =>
  stC h6 (a7.add 5) (.bool false) fun h8 =>
  ptrP p0_f fun a9 =>
  ldI h8 (a9.add 1) .i64 fun x10 =>
  ifP (decide (x10 < 0)) (ptrP p0_f fun a11 =>
  stC h8 (a11.add 1) (.int .i64 p1_h) fun h12 =>
  R (.ret (.tuple ⟨[]⟩)) h12)
  (ptrP p0_f fun a13 =>
  ldI h8 (a13.add 1) .i64 fun x14 =>
  T Tryz.prog F.heaps_fibonacci_join [p0_f, .int .i64 p1_h, .int .i64 x14] h8 (rt (fun v15 h16 =>
  v15 = .tuple ⟨[]⟩ ∧
  ptrP p0_f fun a17 =>
  ptrP p0_f fun a18 =>
  ldV h16 (a17.add 0) fun x19 =>
  ldI h16 (a18.add 1) .i64 fun x20 =>
  T Tryz.prog F.heaps_keyed_ahead [x19, .int .i64 p1_h, .int .i64 x20] h16 (rt (fun v21 h22 =>
  ∃ r23, v21 = .bool r23 ∧
  ifP r23 (ptrP p0_f fun a24 =>
  stC h22 (a24.add 1) (.int .i64 p1_h) fun h25 =>
  R (.ret (.tuple ⟨[]⟩)) h25)
  (R (.ret (.tuple ⟨[]⟩)) h22)) (fun v26 h27 => R (.pan v26) h27))) (fun v28 h29 => R (.pan v28) h29)))
theorem E_heaps_fibonacci_root {p0_f : Value} {p1_h : Int} {R : Res → H → Prop} {h : H} (H0 : B_heaps_fibonacci_root p0_f p1_h R h) : T Tryz.prog F.heaps_fibonacci_root [p0_f, .int .i64 p1_h] h R :=
  T_intro A_heaps_fibonacci_root Tryz.func118 (c := bodyOf Tryz.f118) (by kernel_rfl) (by kernel_rfl) (by kernel_rfl) (cast_of (by kernel_rfl) H0)

def A_heaps_fibonacci_leave : An := ⟨lkA [(0, ⟨[0, 1, 2, 4, 8, 9, 10, 12, 3, 5, 6, 7, 16, 11, 13, 14, 15, 17], lkN []⟩), (1, ⟨[0, 1, 2, 4, 5, 6, 7, 9, 10, 11, 3, 8, 12, 13, 14, 15, 16, 17], lkN []⟩), (2, ⟨[0, 1, 2, 4, 5, 6, 7, 9, 10, 11, 3, 8, 12, 13, 14, 15, 16, 17], lkN []⟩)], lkL [], lkC []⟩
def B_heaps_fibonacci_leave (p0_f : Value) (p1_h : Int) (R : Res → H → Prop) (h : H) : Prop :=
  ptrP p0_f fun a1 =>
  ptrP p0_f fun a2 =>
  ldV h (a1.add 2) fun x3 =>
  ixS x3 p1_h 6 fun a4 =>
  ldI h (a4.add 2) .i64 fun x5 =>
  ldV h (a2.add 2) fun x6 =>
  ixS x6 p1_h 6 fun a7 =>
  ldI h (a7.add 3) .i64 fun x8 =>
  ptrP p0_f fun a9 =>
  ptrP p0_f fun a10 =>
  ldV h (a9.add 2) fun x11 =>
  ldV h (a10.add 2) fun x12 =>
  ixS x11 x5 6 fun a13 =>
  stC h (a13.add 3) (.int .i64 x8) fun h14 =>
  ixS x12 x8 6 fun a15 =>
  stC h14 (a15.add 2) (.int .i64 x5) fun h16 =>
  ptrP p0_f fun a17 =>
  ptrP p0_f fun a18 =>
  ldV h16 (a17.add 2) fun x19 =>
  ldV h16 (a18.add 2) fun x20 =>
  ixS x19 p1_h 6 fun a21 =>
  stC h16 (a21.add 2) (.int .i64 p1_h) fun h22 =>
  ixS x20 p1_h 6 fun a23 =>
  stC h22 (a23.add 3) (.int .i64 p1_h) fun h24 =>
  R (.ret (.tuple ⟨[]⟩)) h24
theorem E_heaps_fibonacci_leave {p0_f : Value} {p1_h : Int} {R : Res → H → Prop} {h : H} (H0 : B_heaps_fibonacci_leave p0_f p1_h R h) : T Tryz.prog F.heaps_fibonacci_leave [p0_f, .int .i64 p1_h] h R :=
  T_intro A_heaps_fibonacci_leave Tryz.func119 (c := bodyOf Tryz.f119) (by kernel_rfl) (by kernel_rfl) (by kernel_rfl) (cast_of (by kernel_rfl) H0)

def A_heaps_fibonacci_join : An := ⟨lkA [(0, rng 9), (1, ⟨[0, 1, 2, 4, 5, 6, 7, 9, 10, 11, 3, 8, 12, 13, 14, 15, 16, 17], lkN []⟩), (2, ⟨[0, 1, 2, 4, 5, 6, 7, 9, 10, 11, 3, 8, 12, 13, 14, 15, 16, 17], lkN []⟩)], lkL [], lkC []⟩
def B_heaps_fibonacci_join (p0_f : Value) (p1_h : Int) (p2_at : Int) (R : Res → H → Prop) (h : H) : Prop :=
  ptrP p0_f fun a1 =>
  ldV h (a1.add 2) fun x2 =>
  ixS x2 p2_at 6 fun a3 =>
  ldI h (a3.add 3) .i64 fun x4 =>
  ptrP p0_f fun a5 =>
  ptrP p0_f fun a6 =>
  ldV h (a5.add 2) fun x7 =>
  ldV h (a6.add 2) fun x8 =>
  ixS x7 p1_h 6 fun a9 =>
  stC h (a9.add 2) (.int .i64 p2_at) fun h10 =>
  ixS x8 p1_h 6 fun a11 =>
  stC h10 (a11.add 3) (.int .i64 x4) fun h12 =>
  ptrP p0_f fun a13 =>
  ptrP p0_f fun a14 =>
  ldV h12 (a13.add 2) fun x15 =>
  ldV h12 (a14.add 2) fun x16 =>
  ixS x15 p2_at 6 fun a17 =>
  stC h12 (a17.add 3) (.int .i64 p1_h) fun h18 =>
  ixS x16 x4 6 fun a19 =>
  stC h18 (a19.add 2) (.int .i64 p1_h) fun h20 =>
  R (.ret (.tuple ⟨[]⟩)) h20
theorem E_heaps_fibonacci_join {p0_f : Value} {p1_h : Int} {p2_at : Int} {R : Res → H → Prop} {h : H} (H0 : B_heaps_fibonacci_join p0_f p1_h p2_at R h) : T Tryz.prog F.heaps_fibonacci_join [p0_f, .int .i64 p1_h, .int .i64 p2_at] h R :=
  T_intro A_heaps_fibonacci_join Tryz.func120 (c := bodyOf Tryz.f120) (by kernel_rfl) (by kernel_rfl) (by kernel_rfl) (cast_of (by kernel_rfl) H0)

end Go.Proofs.YtjlojokockfapaaGreatDoor

namespace Go.Proofs.YtjlojokockfapaaGreatDoor
open Go
set_option linter.unusedVariables false

theorem bk_add (b i : Nat) : (bk b).add i = ⟨b, i, none⟩ := by
  unfold Addr.add
  split
  · rename_i h; subst h; rfl
  · simp
theorem bk_add2 (b i j : Nat) : Addr.add ⟨b, i, none⟩ j = ⟨b, i + j, none⟩ := by
  unfold Addr.add
  split
  · rename_i h; subst h; rfl
  · rfl

theorem ifP_of {b : Bool} {A B : Prop} (h1 : b = true → A) (h2 : b = false → B) : ifP b A B := by
  cases b
  · exact h2 rfl
  · exact h1 rfl

theorem least {P : Nat → Prop} (h : ∃ k, P k) : ∃ m, P m ∧ ∀ j, P j → m ≤ j := by
  obtain ⟨k, hk⟩ := h
  induction k using Nat.strongRecOn with
  | _ k ih =>
    by_cases e : ∃ j, j < k ∧ P j
    · obtain ⟨j, lt, hj⟩ := e
      exact ih j lt hj
    · exact ⟨k, hk, fun j hj => Nat.le_of_not_lt fun lt => e ⟨j, lt, hj⟩⟩
open Classical in
noncomputable def mu {σ : Type} (I : σ → H → Nat → Prop) (x : σ × H) : Nat :=
  if h : ∃ k, I x.1 x.2 k then Classical.choose (least h) else 0
def rk {σ : Type} (I : σ → H → Nat → Prop) (x y : σ × H) : Prop := mu I x < mu I y
theorem rk_wf {σ : Type} (I : σ → H → Nat → Prop) : WellFounded (rk I) := (measure (mu I)).wf
theorem mu_spec {σ : Type} {I : σ → H → Nat → Prop} {s : σ} {h : H} (k : ∃ k, I s h k) : I s h (mu I (s, h)) := by
  unfold mu
  rw [dif_pos k]
  exact (Classical.choose_spec (least k)).1
theorem mu_le {σ : Type} {I : σ → H → Nat → Prop} {s : σ} {h : H} {k : Nat} (i : I s h k) : mu I (s, h) ≤ k := by
  have e : ∃ k, I s h k := ⟨k, i⟩
  unfold mu
  rw [dif_pos e]
  exact (Classical.choose_spec (least e)).2 k i
theorem mu_next {σ : Type} {I : σ → H → Nat → Prop} {s s' : σ} {h h' : H} {k : Nat} (i : I s' h' k) (lt : k < mu I (s, h)) :
    (∃ k, I s' h' k) ∧ rk I (s', h') (s, h) := ⟨⟨k, i⟩, Nat.lt_of_le_of_lt (mu_le i) lt⟩

def ints (n : Nat) (f : Nat → Int) : List Value := (List.range n).map fun i => .int .i64 (f i)
theorem ints_length (n : Nat) (f : Nat → Int) : (ints n f).length = n := by simp [ints]
theorem ints_get {n : Nat} {f : Nat → Int} {i : Nat} (h : i < n) : (ints n f)[i]? = some (.int .i64 (f i)) := by
  simp [ints, List.getElem?_map, List.getElem?_range h]
theorem ints_ext {n : Nat} {f g : Nat → Int} (h : ∀ i, i < n → f i = g i) : ints n f = ints n g := by
  unfold ints
  apply List.map_congr_left
  intro i hi
  rw [h i (List.mem_range.1 hi)]
def upd (f : Nat → Int) (i : Nat) (x : Int) : Nat → Int := fun j => if j = i then x else f j
theorem ints_set {n : Nat} {f : Nat → Int} {i : Nat} {x : Int} : (ints n f).set i (.int .i64 x) = ints n (upd f i x) := by
  apply List.ext_getElem
  · simp [ints]
  · intro j h1 h2
    simp only [ints, List.getElem_set, List.getElem_map, List.getElem_range, upd]
    by_cases e : i = j
    · subst e; simp
    · rw [if_neg e, if_neg (fun h => e h.symm)]

def recs (n k : Nat) (st : Nat → Nat → Int) : List Value := ints (n * k) fun i => st (i / k) (i % k)
def upd2 (st : Nat → Nat → Int) (v j : Nat) (x : Int) : Nat → Nat → Int := fun w i => if w = v ∧ i = j then x else st w i
theorem recs_length (n k : Nat) (st : Nat → Nat → Int) : (recs n k st).length = n * k := ints_length _ _
theorem at_lt {n k v j : Nat} (hv : v < n) (hj : j < k) : v * k + j < n * k := by
  calc v * k + j < v * k + k := by omega
    _ = (v + 1) * k := by rw [Nat.add_mul]; omega
    _ ≤ n * k := Nat.mul_le_mul_right _ hv
theorem at_div {k v j : Nat} (hj : j < k) : (v * k + j) / k = v := by
  rw [Nat.mul_comm, Nat.mul_add_div (by omega), Nat.div_eq_of_lt hj]; omega
theorem at_mod {k v j : Nat} (hj : j < k) : (v * k + j) % k = j := by
  rw [Nat.mul_comm, Nat.mul_add_mod, Nat.mod_eq_of_lt hj]
theorem recs_get {n k : Nat} {st : Nat → Nat → Int} {v j : Nat} (hv : v < n) (hj : j < k) : (recs n k st)[v * k + j]? = some (.int .i64 (st v j)) := by
  unfold recs
  rw [ints_get (at_lt hv hj), at_div hj, at_mod hj]
theorem recs_set {n k : Nat} {st : Nat → Nat → Int} {v j : Nat} {x : Int} (hv : v < n) (hj : j < k) :
    (recs n k st).set (v * k + j) (.int .i64 x) = recs n k (upd2 st v j x) := by
  unfold recs
  rw [ints_set]
  apply ints_ext
  intro i hi
  unfold upd upd2
  by_cases e : i = v * k + j
  · subst e; rw [if_pos rfl, at_div hj, at_mod hj, if_pos ⟨rfl, rfl⟩]
  · rw [if_neg e, if_neg]
    rintro ⟨rfl, rfl⟩
    apply e
    rw [Nat.mul_comm]; exact (Nat.div_add_mod i k).symm

theorem hcell_at {h : H} {b i : Nat} {c : Array Value} {e : TypeId} {f : Nat × Nat} (hb : h b = some (.cells c e f)) : hcell h ⟨b, i, none⟩ = c[i]? := by
  unfold hcell
  simp [hb]
theorem setR_list : ∀ (vs l : List Value) (o : Nat), o + vs.length ≤ l.length → setR ⟨l⟩ o vs = ⟨l.take o ++ vs ++ l.drop (o + vs.length)⟩ := by
  intro vs
  induction vs with
  | nil => intro l o _; simp [setR]
  | cons v vs ih =>
    intro l o h
    simp only [List.length_cons] at h ⊢
    show setR (Array.setIfInBounds ⟨l⟩ o v) (o + 1) vs = _
    rw [List.setIfInBounds_toArray, ih (l.set o v) (o + 1) (by rw [List.length_set]; omega)]
    congr 1
    have e1 : (l.set o v).take (o + 1) = l.take o ++ [v] := by
      rw [List.take_add_one, List.take_set_of_le (Nat.le_refl o)]
      simp [List.getElem?_set]
      omega
    have e2 : (l.set o v).drop (o + 1 + vs.length) = l.drop (o + (vs.length + 1)) := by
      rw [List.drop_set_of_lt (by omega)]
      congr 1; omega
    rw [e1, e2]
    simp
theorem hset_put {h : H} {b e : Nat} {zs vs : List Value} (hl : vs.length = zs.length) :
    hset (hput h b (.cells ⟨zs⟩ e (0, 0))) (bk b) vs = hput h b (.cells ⟨vs⟩ e (0, 0)) := by
  funext k
  unfold hset hput
  by_cases hk : k = b
  · subst hk
    simp only [if_true, Option.map_some]
    rw [setR_list vs zs 0 (by omega)]
    simp [hl]
  · simp [hk]
theorem put_ld {h : H} {b e i : Nat} {vs : List Value} {v : Value} (hi : vs[i]? = some v) : hcell (hput h b (.cells ⟨vs⟩ e (0, 0))) ((bk b).add i) = some v := by
  rw [bk_add, hcell_at (c := ⟨vs⟩) (e := e) (f := (0, 0)) (by simp [hput]), List.getElem?_toArray]
  exact hi
theorem put_wr {h : H} {b e n i : Nat} {vs : List Value} (hn : i + n ≤ vs.length) : hwr (hput h b (.cells ⟨vs⟩ e (0, 0))) ((bk b).add i) n := by
  rw [bk_add]
  exact ⟨⟨vs⟩, e, by simp [hput], rfl, by simpa using hn⟩

end Go.Proofs.YtjlojokockfapaaGreatDoor

namespace Go.Proofs.YtjlojokockfapaaGreatDoor
open Go
set_option linter.unusedVariables false

abbrev St := Nat → Nat → Int
abbrev w64 (x : Int) : Int := IntKind.i64.wrap x

/-- At bf lies the head of the slice of n nodes at bn. -/
def Hd (h : H) (bf bn n : Nat) : Prop := bf ≠ bn ∧ ∃ ef, h bf = some (.cells ⟨[.slice (some (bk bn)) n n]⟩ ef (0, 0))
abbrev fo (bf : Nat) : Value := .pointer (some (bk bf))
abbrev vi (v : Nat) : Value := .int .i64 (v : Int)
theorem Hd.ld {h : H} {bf bn n : Nat} (hd : Hd h bf bn n) : hcell h ((bk bf).add 0) = some (.slice (some (bk bn)) n n) := by
  obtain ⟨ne, ef, h⟩ := hd
  rw [bk_add, hcell_at h]
  rfl
theorem nx {bn n v sz c : Nat} {K : Addr → Prop} (hv : v < n) (k : K ((bk bn).add (v * sz))) : ixS (.slice (some (bk bn)) n c) (v : Int) sz K :=
  ⟨Int.natCast_nonneg _, by omega, by rw [Int.toNat_natCast]; exact k⟩
theorem nd {h : H} {bf bn n v sz : Nat} {K : Addr → Prop} (hd : Hd h bf bn n) (hv : v < n) (k : K ((bk bn).add (v * sz))) :
    ptrP (fo bf) fun a => ldV h (a.add 0) fun x => ixS x (v : Int) sz K :=
  ⟨_, hd.ld, nx hv k⟩
end Go.Proofs.YtjlojokockfapaaGreatDoor

namespace Go.Proofs.YtjlojokockfapaaGreatDoor
open Go
set_option linter.unusedVariables false

/-- y is a child of u in a splay tree. -/
def Ch (st : St) (u y : Nat) : Prop := st u 0 = y ∨ st u 1 = y
end Go.Proofs.YtjlojokockfapaaGreatDoor

namespace Go.Proofs.YtjlojokockfapaaGreatDoor
open Go
set_option linter.unusedVariables false

instance (st : St) (u y : Nat) : Decidable (Ch st u y) := inferInstanceAs (Decidable (_ ∨ _))

theorem w64_eq (x : Int) : ∃ k : Int, w64 x = x + 18446744073709551616 * k ∧ -9223372036854775808 ≤ w64 x ∧ w64 x < 9223372036854775808 := by
  have := IntKind.wrap_i64 x
  refine ⟨(w64 x - x) / 18446744073709551616, ?_⟩
  unfold w64
  omega
theorem w64_in {x : Int} (h : -9223372036854775808 ≤ x) (k : x < 9223372036854775808) : w64 x = x := by
  obtain ⟨j, hj, _⟩ := w64_eq x
  omega
end Go.Proofs.YtjlojokockfapaaGreatDoor

namespace Go.Proofs.YtjlojokockfapaaGreatDoor
open Go
set_option linter.unusedVariables false

def At (h : H) (bn e n : Nat) (st : St) : Prop := h bn = some (.cells ⟨recs n 6 st⟩ e (0, 0))
/-- All blocks but b that h knows, h' knows as they were. -/
def Kp (b : Nat) (h h' : H) : Prop := ∀ k o, k ≠ b → h k = some o → h' k = some o
theorem Kp.put {bn b : Nat} {h : H} {o : Obj} (hb : h b = none) : Kp bn h (hput h b o) := fun k ok hk h2 => by
  unfold hput
  split
  · rename_i e; subst e; rw [hb] at h2; cases h2
  · exact h2
/-- The slice p holds vs; its block is b. -/
structure Sl (h : H) (b : Nat) (p : Value) (vs : List Value) : Prop where
  ex : ∃ c e zs, p = .slice (some (bk b)) vs.length c ∧ h b = some (.cells ⟨vs ++ zs⟩ e (0, 0)) ∧ vs.length + zs.length = c

theorem Sl.kp {h h' : H} {b b' : Nat} {p : Value} {vs : List Value} (s : Sl h b p vs) (k : Kp b' h h') (ne : b ≠ b') : Sl h' b p vs := by
  obtain ⟨c, e, zs, h1, h2, h3⟩ := s.ex
  exact ⟨c, e, zs, h1, k _ _ ne h2, h3⟩
theorem Sl.get {h : H} {b : Nat} {p : Value} {vs : List Value} (s : Sl h b p vs) {i : Nat} {v : Value} (hi : vs[i]? = some v) : hcell h ((bk b).add (i * 1)) = some v := by
  obtain ⟨c, e, zs, h1, h2, h3⟩ := s.ex
  rw [bk_add, hcell_at h2, Nat.mul_one, List.getElem?_toArray]
  have : i < vs.length := (List.getElem?_eq_some_iff.1 hi).1
  rw [List.getElem?_append_left this]
  exact hi

end Go.Proofs.YtjlojokockfapaaGreatDoor

namespace Go.Proofs.YtjlojokockfapaaGreatDoor
open Go
set_option linter.unusedVariables false

def isN (n : Nat) (v : Int) : Prop := 0 ≤ v ∧ v < (n : Int)
instance (n : Nat) (v : Int) : Decidable (isN n v) := inferInstanceAs (Decidable (_ ∧ _))
def isL (x : Int) : Prop := -1048576 ≤ x ∧ x ≤ 1048576
instance (x : Int) : Decidable (isL x) := inferInstanceAs (Decidable (_ ∧ _))
end Go.Proofs.YtjlojokockfapaaGreatDoor

namespace Go.Proofs.YtjlojokockfapaaGreatDoor
open Go
set_option linter.unusedVariables false

/-- The nodes of a way that have an edge above. -/
def edges (par : Nat → Int) (l : List Nat) : List Nat := l.filter fun w => decide (par w ≠ -1)

section
variable {bf bn n : Nat} {h : H} {par tv : Nat → Int}

theorem st_new {h : H} {b e n : Nat} {zs vs : List Value} {K : H → Prop} (hn : vs.length = n) (hl : zs.length = n) (one : ∀ v ∈ vs, v.oneCell' = true)
    (k : K (hput h b (.cells ⟨vs⟩ e (0, 0)))) : stN (hput h b (.cells ⟨zs⟩ e (0, 0))) (bk b) vs n K := by
  refine ⟨hn, one, put_wr (i := 0) (by omega), ?_⟩
  rw [hset_put (by omega)]
  exact k
/-- A new block that is filled at once. -/
theorem new_st {h : H} {e n : Nat} {zs vs : List Value} {K : Nat → H → Prop} (hn : vs.length = n) (hl : zs.length = n) (one : ∀ v ∈ vs, v.oneCell' = true)
    (k : ∀ b g, h b = none → (∀ c, Kp c h g) → g b = some (.cells ⟨vs⟩ e (0, 0)) → (∀ i v, vs[i]? = some v → hcell g ((bk b).add i) = some v) → K b g) :
    newP h (.cells ⟨zs⟩ e (0, 0)) fun b h1 => stN h1 (bk b) vs n (K b) := by
  intro b hb
  refine st_new hn hl one ?_
  exact k b _ hb (fun c => Kp.put hb) (by simp [hput]) fun i v hi => put_ld hi

end
end Go.Proofs.YtjlojokockfapaaGreatDoor

namespace Go.Proofs.YtjlojokockfapaaGreatDoor
open Go
set_option linter.unusedVariables false

theorem Ext.trans' {a b c : H} (x : Ext a b) (y : Ext b c) : Ext a c := fun k o e => y k o (x k o e)
/-- What keeps all but a block that was not known keeps all. -/
theorem Ext.of_kp {h1 h2 h3 : H} {b : Nat} (x : Ext h1 h2) (k : Kp b h2 h3) (hb : h1 b = none) : Ext h1 h3 := fun j o e =>
  k j o (by rintro rfl; rw [hb] at e; cases e) (x j o e)

/-- A new block, seen from outside. -/
theorem new_put {h : H} {o : Obj} {K : Nat → H → Prop} (k : ∀ b g, h b = none → Ext h g → g b = some o → K b g) : newP h o K := fun b hb =>
  k b _ hb (Ext.put hb o) (by simp [hput])

end Go.Proofs.YtjlojokockfapaaGreatDoor

namespace Go.Proofs.YtjlojokockfapaaGreatDoor
open Go
set_option linter.unusedVariables false

theorem rt_ret {A X : Value → H → Prop} {v : Value} {h : H} (k : A v h) : rt A X (.ret v) h := k
theorem i64_inc {i : Nat} (h : i < 9223372036854775807) : IntKind.i64.wrap ((i : Int) + 1) = ((i + 1 : Nat) : Int) := by
  have : IntKind.i64.wrap ((i : Int) + 1) = (i : Int) + 1 := w64_in (by omega) (by omega)
  rw [this]; omega
def va (n : Nat) (f : Nat → Value) : List Value := (List.range n).map f
theorem va_length (n : Nat) (f : Nat → Value) : (va n f).length = n := by simp [va]
theorem va_get {n : Nat} {f : Nat → Value} {i : Nat} (h : i < n) : (va n f)[i]? = some (f i) := by
  simp [va, List.getElem?_map, List.getElem?_range h]
def updV (f : Nat → Value) (i : Nat) (x : Value) : Nat → Value := fun j => if j = i then x else f j
theorem va_set {n : Nat} {f : Nat → Value} {i : Nat} {x : Value} : (va n f).set i x = va n (updV f i x) := by
  apply List.ext_getElem
  · simp [va]
  · intro j h1 h2
    simp only [va, List.getElem_set, List.getElem_map, List.getElem_range, updV]
    by_cases e : i = j
    · subst e; simp
    · rw [if_neg e, if_neg (fun h => e h.symm)]
/-- The block b holds vs. -/
def Bl (h : H) (b : Nat) (vs : List Value) : Prop := ∃ e, h b = some (.cells ⟨vs⟩ e (0, 0))
theorem Bl.ext {h h' : H} {b : Nat} {vs : List Value} (B : Bl h b vs) (x : Ext h h') : Bl h' b vs := by
  obtain ⟨e, k⟩ := B; exact ⟨e, x _ _ k⟩
theorem Bl.kp {h h' : H} {b c : Nat} {vs : List Value} (B : Bl h b vs) (x : Kp c h h') (ne : b ≠ c) : Bl h' b vs := by
  obtain ⟨e, k⟩ := B; exact ⟨e, x _ _ ne k⟩
theorem Bl.ne {h : H} {b c : Nat} {vs : List Value} (B : Bl h b vs) (hc : h c = none) : b ≠ c := by
  rintro rfl; obtain ⟨e, k⟩ := B; rw [hc] at k; cases k
theorem new_bl {h : H} {vs : List Value} {e : Nat} {K : Nat → H → Prop} (k : ∀ b g, h b = none → Ext h g → Bl g b vs → K b g) :
    newP h (.cells ⟨vs⟩ e (0, 0)) K := fun b hb => k b _ hb (Ext.put hb _) ⟨e, by simp [hput]⟩
theorem Bl.ld {h : H} {b i : Nat} {vs : List Value} {v : Value} (B : Bl h b vs) (hi : vs[i]? = some v) : hcell h ((bk b).add i) = some v := by
  obtain ⟨e, k⟩ := B
  rw [bk_add, hcell_at k, List.getElem?_toArray]
  exact hi
theorem Bl.ldN {h : H} {b n : Nat} {vs : List Value} {K : List Value → Prop} (B : Bl h b vs) (hn : vs.length = n) (k : K vs) : ldN h (bk b) n K :=
  ⟨vs, hn, fun _ _ hi => B.ld hi, k⟩
theorem Bl.stN {h : H} {b n : Nat} {vs ws : List Value} {K : H → Prop} (B : Bl h b vs) (hn : ws.length = n) (hv : vs.length = n) (one : ∀ v ∈ ws, v.oneCell' = true)
    (k : ∀ g, Kp b h g → Bl g b ws → K g) : stN h (bk b) ws n K := by
  obtain ⟨e, hb⟩ := B
  refine ⟨hn, one, ⟨_, _, hb, rfl, by simp; omega⟩, k _ ?_ ⟨e, ?_⟩⟩
  · intro j o hj hh
    unfold hset
    rw [if_neg hj]; exact hh
  · unfold hset
    rw [if_pos rfl, hb]
    simp only [Option.map_some]
    rw [setR_list ws vs 0 (by omega)]
    simp [hn, hv]
theorem new_bl_st {h : H} {zs ws : List Value} {e n : Nat} {K : Nat → H → Prop} (hn : ws.length = n) (hz : zs.length = n) (one : ∀ v ∈ ws, v.oneCell' = true)
    (k : ∀ b g, h b = none → Ext h g → Bl g b ws → K b g) : newP h (.cells ⟨zs⟩ e (0, 0)) fun b h1 => stN h1 (bk b) ws n (K b) := by
  refine new_st hn hz one ?_
  intro b g hb kp e2 _
  exact k b g hb (fun j o hj => kp (j + 1) j o (by omega) hj) ⟨e, e2⟩
theorem add_block (a : Addr) (i : Nat) : (a.add i).block = a.block := by unfold Addr.add; split <;> rfl
theorem sameAt_of {h h' : H} {a : Addr} {n : Nat} (e : h' a.block = h a.block) : sameAt n a h h' := by
  intro i _
  unfold hcell
  rw [add_block, e]
theorem slcP_mk {a : Option Addr} {l c : Nat} {K : Option Addr → Nat → Nat → Prop} (k : K a l c) : slcP (.slice a l c) K := k
theorem Bl.stC {h : H} {b i : Nat} {vs : List Value} {x : Value} {K : H → Prop} (B : Bl h b vs) (hi : i < vs.length)
    (k : ∀ g, Kp b h g → Bl g b (vs.set i x) → K g) : stC h ((bk b).add i) x K := by
  obtain ⟨e, hb⟩ := B
  rw [bk_add]
  refine ⟨⟨_, _, hb, rfl, by simp; omega⟩, k _ ?_ ⟨e, ?_⟩⟩
  · intro j o hj hh
    unfold hset
    rw [if_neg hj]; exact hh
  · unfold hset
    rw [if_pos rfl, hb]
    simp only [Option.map_some, setR]
    rw [List.setIfInBounds_toArray]
theorem oneP_slc {v : Value} {K : Prop} (h : ∃ a l c, v = .slice a l c) (k : K) : oneP v K := by
  obtain ⟨_, _, _, rfl⟩ := h
  exact k
theorem slc_one {v : Value} (h : ∃ a l c, v = .slice a l c) : v.oneCell' = true := by
  obtain ⟨_, _, _, rfl⟩ := h
  rfl
theorem Ext.new {h g : H} {b : Nat} (x : Ext h g) (hb : g b = none) : h b = none := by
  cases e : h b with
  | none => rfl
  | some o => rw [x _ _ e] at hb; cases hb
theorem sameAt_bl {g g' : H} {b i n : Nat} {vs : List Value} (B : Bl g b vs) (B' : Bl g' b vs) : sameAt n ((bk b).add i) g g' := by
  obtain ⟨e, h1⟩ := B
  obtain ⟨e', h2⟩ := B'
  intro j _
  rw [bk_add, bk_add2, hcell_at h1, hcell_at h2]
end Go.Proofs.YtjlojokockfapaaGreatDoor

namespace Go.Proofs.YtjlojokockfapaaGreatDoor
open Go
set_option linter.unusedVariables false

/-- An edge: from, to, capacity, cost. -/
structure Ed where
  f : Int
  t : Int
  c : Int
  k : Int
abbrev Ed.vs (e : Ed) : List Value := [.int .i64 e.f, .int .i64 e.t, .int .i64 e.c, .int .i64 e.k]
theorem ed_one (e : Ed) : ∀ v ∈ e.vs, v.oneCell' = true := by
  intro v hv
  simp only [List.mem_cons, List.mem_nil_iff, or_false] at hv
  rcases hv with rfl | rfl | rfl | rfl <;> rfl

/-- w is a graph of n nodes and the first m edges of es. -/
def GrA (h : H) (w : List Value) (n : Int) (m : Nat) (es : Nat → Ed) : Prop :=
  ∃ a c, w = [.int .i64 n, .slice a m c] ∧ ∀ i, i < m → ∃ ad, a = some ad ∧ hcells h (ad.add (i * 4)) (es i).vs
theorem GrA.ext {h h' : H} {w : List Value} {n : Int} {m : Nat} {es : Nat → Ed} (g : GrA h w n m es) (x : Ext h h') : GrA h' w n m es := by
  obtain ⟨a, c, e, k⟩ := g
  refine ⟨a, c, e, fun i hi => ?_⟩
  obtain ⟨ad, e2, hc⟩ := k i hi
  exact ⟨ad, e2, fun j v hj => x.cell (hc j v hj)⟩
theorem GrA.one {h : H} {w : List Value} {n : Int} {m : Nat} {es : Nat → Ed} (g : GrA h w n m es) : w.length = 2 ∧ ∀ v ∈ w, v.oneCell' = true := by
  obtain ⟨a, c, rfl, _⟩ := g
  refine ⟨rfl, fun v hv => ?_⟩
  simp only [List.mem_cons, List.mem_nil_iff, or_false] at hv
  rcases hv with rfl | rfl <;> rfl

/-- The error of an edge among n nodes. -/
def badE (n : Int) (e : Ed) : Int :=
  if e.f < 0 ∨ e.t < 0 ∨ n ≤ e.f ∨ n ≤ e.t then 30 else if e.c < 0 ∨ 1048576 < e.c ∨ e.k < -1048576 ∨ 1048576 < e.k then 31 else 0
/-- The first error of the edges from i on: the number, the place. -/
def badFrom (n : Int) (es : Nat → Ed) (i : Nat) : Nat → Int × Int
  | 0 => (0, 0)
  | k + 1 => if badE n (es i) ≠ 0 then (badE n (es i), i) else badFrom n es (i + 1) k
/-- The fault of a graph. -/
def faultG (n : Int) (m : Nat) (es : Nat → Ed) : Int × Int := if n < 0 ∨ 1024 < n ∨ 4096 < m then (3, 0) else badFrom n es 0 m

end Go.Proofs.YtjlojokockfapaaGreatDoor

namespace Go.Proofs.YtjlojokockfapaaGreatDoor
open Go
set_option linter.unusedVariables false

theorem Bl.ed {h : H} {b : Nat} {e : Ed} (B : Bl h b e.vs) : hcell h ((bk b).add 0) = some (.int .i64 e.f) ∧ hcell h ((bk b).add 1) = some (.int .i64 e.t) ∧
    hcell h ((bk b).add 2) = some (.int .i64 e.c) ∧ hcell h ((bk b).add 3) = some (.int .i64 e.k) := ⟨B.ld rfl, B.ld rfl, B.ld rfl, B.ld rfl⟩

theorem glabel_T (h : H) (e : Ed) : T Tryz.prog F.graph_label [.agg ⟨e.vs⟩] h fun r h' =>
    r = .ret (.bool (decide ¬ (e.c < 0 ∨ 1048576 < e.c ∨ e.k < -1048576 ∨ 1048576 < e.k))) ∧ Ext h h' := by
  refine E_graph_label ?_
  unfold B_graph_label
  refine new_bl ?_
  intro b1 g hb x B
  refine ⟨_, B.ed.2.2.1, ifP_of (fun h1 => ?_) (fun h1 => ⟨?_, x⟩)⟩
  · have h1 := of_decide_eq_true h1
    refine ⟨_, B.ed.2.2.1, ifP_of (fun h2 => ?_) (fun h2 => ⟨?_, x⟩)⟩
    · have h2 := of_decide_eq_true h2
      refine ⟨_, B.ed.2.2.2, ifP_of (fun h3 => ?_) (fun h3 => ⟨?_, x⟩)⟩
      · have h3 := of_decide_eq_true h3
        refine ⟨_, B.ed.2.2.2, ?_, x⟩
        congr 2
        exact decide_eq_decide.2 (by omega)
      · have h3 := of_decide_eq_false h3
        rw [decide_eq_false (by omega)]
    · have h2 := of_decide_eq_false h2
      rw [decide_eq_false (by omega)]
  · have h1 := of_decide_eq_false h1
    rw [decide_eq_false (by omega)]

theorem badFrom_good {n : Int} {es : Nat → Ed} {i k : Nat} (h : badE n (es i) = 0) : badFrom n es i (k + 1) = badFrom n es (i + 1) k := by
  show (if badE n (es i) ≠ 0 then _ else _) = _
  rw [if_neg (fun k => k h)]
theorem badFrom_bad {n : Int} {es : Nat → Ed} {i k : Nat} (h : badE n (es i) ≠ 0) : badFrom n es i (k + 1) = (badE n (es i), (i : Int)) := by
  show (if badE n (es i) ≠ 0 then _ else _) = _
  rw [if_pos h]

end Go.Proofs.YtjlojokockfapaaGreatDoor

namespace Go.Proofs.YtjlojokockfapaaGreatDoor
open Go
set_option linter.unusedVariables false

section
variable {h : H} {w : List Value} {n : Int} {m : Nat} {es : Nat → Ed}

theorem Check_T (G : GrA h w n m es) : T Tryz.prog F.graph_Check [.agg ⟨w⟩] h fun r h' =>
    r = .ret (.agg ⟨[.int .i64 (faultG n m es).1, .int .i64 (faultG n m es).2]⟩) ∧ Ext h h' := by
  refine E_graph_Check ?_
  unfold B_graph_Check
  refine new_bl ?_
  intro b1 g hb x B
  refine new_bl ?_
  intro b3 g3 hb3 x3 B3
  have G' := G
  obtain ⟨a, c, rfl, hc⟩ := G
  have xh := x.trans' x3
  have B1 := B.ext x3
  have hb3h := x.new hb3
  have c3 : (n < 0 ∨ 1024 < n ∨ 4096 < m) → faultG n m es = (3, 0) := fun h => if_pos h
  have out : ∀ {q : H} {p : Int × Int}, Ext g3 q → (∃ z, z.length = 2 ∧ Bl q b3 z) → faultG n m es = p → stN q (bk b3) [.int .i64 p.1, .int .i64 p.2] 2 fun h8 => ldN h8 (bk b3) 2 fun x9 =>
      Res.ret (.agg ⟨x9⟩) = .ret (.agg ⟨[.int .i64 (faultG n m es).1, .int .i64 (faultG n m es).2]⟩) ∧ Ext h h8 := by
    rintro q p xq ⟨z, hz, Bz⟩ rfl
    refine Bz.stN rfl hz (by simp [Value.oneCell']) ?_
    intro q2 kp B2
    refine B2.ldN rfl ⟨rfl, (xh.trans' xq).of_kp kp hb3h⟩
  refine ⟨fun _ g2 => g3 = g2 ∧ ¬ (n < 0 ∨ 1024 < n ∨ 4096 < m), ?_, ?_⟩
  · refine ⟨_, B1.ld rfl, ifP_of (fun h1 => out (p := (3, 0)) (Ext.refl _) ⟨_, rfl, B3⟩ (c3 (.inl (of_decide_eq_true h1)))) (fun h1 => ?_)⟩
    refine ⟨_, B1.ld rfl, ifP_of (fun h2 => out (p := (3, 0)) (Ext.refl _) ⟨_, rfl, B3⟩ (c3 (.inr (.inl (of_decide_eq_true h2))))) (fun h2 => ?_)⟩
    refine ⟨_, B1.ld rfl, slcP_mk (ifP_of (fun h3 => out (p := (3, 0)) (Ext.refl _) ⟨_, rfl, B3⟩ (c3 (.inr (.inr (by have := of_decide_eq_true h3; omega))))) (fun h3 => ⟨rfl, ?_⟩))⟩
    have := of_decide_eq_false h1
    have := of_decide_eq_false h2
    have := of_decide_eq_false h3
    omega
  · rintro _ ⟨rfl, hn⟩
    have cf : faultG n m es = badFrom n es 0 m := if_neg hn
    refine ⟨_, B1.ld rfl, slcP_mk ?_⟩
    let I11 : (Int × Unit) → H → Nat → Prop := fun s g2 k => ∃ i : Nat, s.1 = i ∧ i ≤ m ∧ k = m - i ∧ Ext g3 g2 ∧ badFrom n es i (m - i) = badFrom n es 0 m
    refine ⟨fun s g2 => ∃ k, I11 s g2 k, rk I11, rk_wf I11, ⟨_, 0, rfl, by omega, rfl, Ext.refl g3, rfl⟩, ?_⟩
    intro s g2 hI
    obtain ⟨i, e1, hi, hk, xg, hf⟩ := mu_spec hI
    generalize hkk : mu I11 ((s, ()), g2) = k at *
    change s = (i : Int) at e1
    subst e1
    have Bg := B1.ext xg
    refine ifP_of (fun h1 => ?_) (fun h1 => ?_)
    · have him : i < m := by have := of_decide_eq_true h1; omega
      obtain ⟨ad, rfl, hcc⟩ := hc i him
      refine ⟨by omega, by omega, ?_⟩
      rw [Int.toNat_natCast]
      refine ⟨(es i).vs, rfl, fun j v hj => (xh.trans' xg).cell (hcc j v hj), ?_⟩
      refine new_bl_st rfl rfl (ed_one _) ?_
      intro b29 g31 hb29 x31 B29
      have x31' := xg.trans' x31
      have B1' := Bg.ext x31
      have Bz : ∃ z : List Value, z.length = 2 ∧ Bl g31 b3 z := ⟨_, rfl, B3.ext x31'⟩
      obtain ⟨j, hj⟩ : ∃ j, m - i = j + 1 := ⟨m - i - 1, by omega⟩
      have bad30 : ((es i).f < 0 ∨ (es i).t < 0 ∨ n ≤ (es i).f ∨ n ≤ (es i).t) → faultG n m es = (30, (i : Int)) := by
        intro hh
        have e30 : badE n (es i) = 30 := if_pos hh
        rw [cf, ← hf, hj, badFrom_bad (by omega), e30]
      refine ⟨_, B29.ed.1, ifP_of (fun h2 => out (p := (30, (i : Int))) x31' Bz (bad30 (.inl (of_decide_eq_true h2)))) (fun h2 => ?_)⟩
      refine ⟨_, B29.ed.1, _, B1'.ld rfl, ifP_of (fun h3 => out (p := (30, (i : Int))) x31' Bz (bad30 (.inr (.inr (.inl (of_decide_eq_true h3)))))) (fun h3 => ?_)⟩
      refine ⟨_, B29.ed.2.1, ifP_of (fun h4 => out (p := (30, (i : Int))) x31' Bz (bad30 (.inr (.inl (of_decide_eq_true h4))))) (fun h4 => ?_)⟩
      refine ⟨_, B29.ed.2.1, _, B1'.ld rfl, ifP_of (fun h5 => out (p := (30, (i : Int))) x31' Bz (bad30 (.inr (.inr (.inr (of_decide_eq_true h5)))))) (fun h5 => ?_)⟩
      have n30 : ¬ ((es i).f < 0 ∨ (es i).t < 0 ∨ n ≤ (es i).f ∨ n ≤ (es i).t) := by
        have := of_decide_eq_false h2
        have := of_decide_eq_false h3
        have := of_decide_eq_false h4
        have := of_decide_eq_false h5
        omega
      refine B29.ldN rfl ?_
      refine (glabel_T g31 (es i)).mono ?_
      rintro _ g48 ⟨rfl, x48⟩
      refine ⟨_, rfl, ifP_of (fun h6 => ?_) (fun h6 => ?_)⟩
      · refine out (p := (31, (i : Int))) (x31'.trans' x48) ⟨_, rfl, B3.ext (x31'.trans' x48)⟩ ?_
        have e31 : badE n (es i) = 31 := by
          unfold badE
          rw [if_neg n30, if_pos (by simpa using h6)]
        rw [cf, ← hf, hj, badFrom_bad (by omega), e31]
      · have e0 : badE n (es i) = 0 := by
          unfold badE
          rw [if_neg n30, if_neg (by simpa using h6)]
        rw [i64_inc (by omega)]
        refine mu_next (I := I11) (k := m - (i + 1)) ⟨i + 1, rfl, him, rfl, x31'.trans' x48, ?_⟩ (by rw [hkk, hk]; omega)
        rw [← hf, hj, badFrom_good e0]
        congr 1; omega
    · have : i = m := by have := of_decide_eq_false h1; omega
      subst this
      refine out (p := (0, 0)) xg ⟨_, rfl, B3.ext xg⟩ ?_
      rw [cf, ← hf, Nat.sub_self]
      rfl
end

end Go.Proofs.YtjlojokockfapaaGreatDoor

namespace Go.Proofs.YtjlojokockfapaaGreatDoor
open Go
set_option linter.unusedVariables false

/-- The error's number of a graph and a node. -/
def wrongC (n : Int) (m : Nat) (es : Nat → Ed) (s : Int) : Int := if (faultG n m es).1 = 0 then (if 0 ≤ s ∧ s < n then 0 else 30) else (faultG n m es).1
def endsC (n : Int) (m : Nat) (es : Nat → Ed) (s t : Int) : Int :=
  if wrongC n m es s = 0 then (if wrongC n m es t = 0 then (if s = t then 120 else 0) else wrongC n m es t) else wrongC n m es s
def wrong13 (n : Int) (m : Nat) (es : Nat → Ed) (s t k : Int) : Int := if endsC n m es s t = 0 then (if 1 ≤ k ∧ k ≤ 3 then 0 else 50) else endsC n m es s t

end Go.Proofs.YtjlojokockfapaaGreatDoor

namespace Go.Proofs.YtjlojokockfapaaGreatDoor
open Go
set_option linter.unusedVariables false
set_option linter.unusedSimpArgs false

abbrev Own := Nat → Nat
theorem oneP_mk {a : Option Addr} {l c : Nat} {K : Prop} (k : K) : oneP (.slice a l c) K := k
theorem oneP_ptr {a : Option Addr} {K : Prop} (k : K) : oneP (.pointer a) K := k
theorem ptrP_mk {a : Addr} {K : Addr → Prop} (k : K a) : ptrP (.pointer (some a)) K := k
/-- A new block gets an owner. -/
def own1 (own : Own) (b i : Nat) : Own := fun c => if c = b then i else own c
theorem own1_at {own : Own} {b i : Nat} : own1 own b i b = i := if_pos rfl
theorem own1_ne {own : Own} {b i c : Nat} (h : c ≠ b) : own1 own b i c = own c := if_neg h
/-- From h to h': only blocks whose owner is in M may have changed. -/
structure Fm (M : List Nat) (own : Own) (h : H) (own' : Own) (h' : H) : Prop where
  keep : ∀ b o, h b = some o → own b ∉ M → h' b = some o
  stay : ∀ b o, h b = some o → (∃ o', h' b = some o') ∧ own' b = own b
theorem Fm.refl {M : List Nat} {own : Own} {h : H} : Fm M own h own h := ⟨fun _ _ e _ => e, fun b o e => ⟨⟨o, e⟩, rfl⟩⟩
theorem Fm.trans {M : List Nat} {o1 o2 o3 : Own} {h1 h2 h3 : H} (a : Fm M o1 h1 o2 h2) (b : Fm M o2 h2 o3 h3) : Fm M o1 h1 o3 h3 := by
  refine ⟨fun c o e n => b.keep c o (a.keep c o e n) ?_, fun c o e => ?_⟩
  · rw [(a.stay c o e).2]; exact n
  · obtain ⟨⟨o', e'⟩, t⟩ := a.stay c o e
    obtain ⟨x, t'⟩ := b.stay c o' e'
    exact ⟨x, t'.trans t⟩
theorem Fm.mono {M M' : List Nat} {o1 o2 : Own} {h1 h2 : H} (a : Fm M o1 h1 o2 h2) (s : M ⊆ M') : Fm M' o1 h1 o2 h2 :=
  ⟨fun c o e n => a.keep c o e fun k => n (s k), a.stay⟩
theorem Fm.of_ext {M : List Nat} {own : Own} {h h' : H} (x : Ext h h') : Fm M own h own h' := ⟨fun b o e _ => x b o e, fun b o e => ⟨⟨o, x b o e⟩, rfl⟩⟩
theorem Fm.new {M : List Nat} {own : Own} {h h' : H} {b i : Nat} (x : Ext h h') (hb : h b = none) : Fm M own h (own1 own b i) h' :=
  ⟨fun b o e _ => x b o e, fun c o e => ⟨⟨o, x c o e⟩, own1_ne (by rintro rfl; rw [hb] at e; cases e)⟩⟩
theorem Fm.kp {own : Own} {h h' : H} {b i : Nat} (k : Kp b h h') (hb : own b = i) (ho : ∃ o, h' b = some o) : Fm [i] own h own h' := by
  refine ⟨fun c o e n => k c o ?_ e, fun c o e => ⟨?_, rfl⟩⟩
  · rintro rfl; rw [hb] at n; simp at n
  · by_cases hc : c = b
    · subst hc; exact ho
    · exact ⟨o, k c o hc e⟩
/-- What was there at first is there, with owner 0. -/
structure Bs (h0 : H) (own : Own) (h : H) : Prop where
  ext : Ext h0 h
  old : ∀ b o, h0 b = some o → own b = 0
theorem Bs.fm {h0 h h' : H} {own own' : Own} {M : List Nat} (B : Bs h0 own h) (F : Fm M own h own' h') (hM : 0 ∉ M) : Bs h0 own' h' := by
  refine ⟨fun b o e => F.keep b o (B.ext b o e) ?_, fun b o e => ?_⟩
  · rw [B.old b o e]; exact hM
  · rw [(F.stay b o (B.ext b o e)).2]; exact B.old b o e
theorem Bs.start {h : H} : Bs h (fun _ => 0) h := ⟨Ext.refl h, fun _ _ _ => rfl⟩

/-- The block b is the i-th owner's and holds vs. -/
structure B1 (own : Own) (h : H) (i b : Nat) (vs : List Value) : Prop where
  own_ : own b = i
  bl : Bl h b vs
theorem B1.fm {own own' : Own} {h h' : H} {i b : Nat} {vs : List Value} {M : List Nat} (B : B1 own h i b vs) (F : Fm M own h own' h') (hM : i ∉ M) : B1 own' h' i b vs := by
  obtain ⟨e, o, k⟩ := B
  exact ⟨(F.stay b _ k).2.trans e, o, F.keep b _ k (by rw [e]; exact hM)⟩
theorem B1.new {own : Own} {h : H} {i b : Nat} {vs : List Value} (B : Bl h b vs) : B1 (own1 own b i) h i b vs := ⟨own1_at, B⟩
theorem B1.ld {own : Own} {h : H} {i b j : Nat} {vs : List Value} {v : Value} (B : B1 own h i b vs) (hi : vs[j]? = some v) : hcell h ((bk b).add j) = some v := B.bl.ld hi
theorem B1.st {own : Own} {h : H} {i b j : Nat} {vs : List Value} {x : Value} {K : H → Prop} (B : B1 own h i b vs) (hj : j < vs.length)
    (k : ∀ g, Fm [i] own h own g → B1 own g i b (vs.set j x) → K g) : stC h ((bk b).add j) x K :=
  B.bl.stC hj fun g kp B' => k g (Fm.kp kp B.own_ (let ⟨e, k⟩ := B'; ⟨_, k⟩)) ⟨B.own_, B'⟩
theorem B1.ldN {own : Own} {h : H} {i b n : Nat} {vs : List Value} {K : List Value → Prop} (B : B1 own h i b vs) (hn : vs.length = n) (k : K vs) : ldN h (bk b) n K := B.bl.ldN hn k
theorem B1.stN {own : Own} {h : H} {i b n : Nat} {vs ws : List Value} {K : H → Prop} (B : B1 own h i b vs) (hn : ws.length = n) (hv : vs.length = n) (one : ∀ v ∈ ws, v.oneCell' = true)
    (k : ∀ g, Fm [i] own h own g → B1 own g i b ws → K g) : stN h (bk b) ws n K :=
  B.bl.stN hn hv one fun g kp B' => k g (Fm.kp kp B.own_ (let ⟨e, k⟩ := B'; ⟨_, k⟩)) ⟨B.own_, B'⟩

/-- The slice v holds vs; its block is the i-th owner's. -/
def S1 (own : Own) (h : H) (i : Nat) (v : Value) (vs : List Value) : Prop :=
  (vs = [] ∧ v = .slice none 0 0) ∨ ∃ b, own b = i ∧ Sl h b v vs
theorem S1.nil {own : Own} {h : H} {i : Nat} : S1 own h i (.slice none 0 0) [] := .inl ⟨rfl, rfl⟩
theorem S1.fm {own own' : Own} {h h' : H} {i : Nat} {v : Value} {vs : List Value} {M : List Nat} (s : S1 own h i v vs) (F : Fm M own h own' h') (hM : i ∉ M) : S1 own' h' i v vs := by
  rcases s with s | ⟨b, hb, c, e, zs, h1, h2, h3⟩
  · exact .inl s
  · exact .inr ⟨b, (F.stay b _ h2).2.trans hb, c, e, zs, h1, F.keep b _ h2 (by rw [hb]; exact hM), h3⟩
theorem S1.shape {own : Own} {h : H} {i : Nat} {v : Value} {vs : List Value} (s : S1 own h i v vs) : ∃ a c, v = .slice a vs.length c := by
  rcases s with ⟨rfl, rfl⟩ | ⟨b, hb, c, e, zs, h1, h2, h3⟩
  · exact ⟨_, _, rfl⟩
  · exact ⟨_, _, h1⟩
theorem S1.isS {own : Own} {h : H} {i : Nat} {v : Value} {vs : List Value} (s : S1 own h i v vs) : ∃ a l c, v = .slice a l c := let ⟨a, c, e⟩ := s.shape; ⟨a, _, c, e⟩
theorem S1.one {own : Own} {h : H} {i : Nat} {v : Value} {vs : List Value} (s : S1 own h i v vs) : v.oneCell' = true := slc_one s.isS
theorem S1.len {own : Own} {h : H} {i l : Nat} {v : Value} {vs : List Value} {K : Option Addr → Nat → Nat → Prop} (s : S1 own h i v vs) (hl : vs.length = l) (k : ∀ a c, K a l c) : slcP v K := by
  obtain ⟨a, c, rfl⟩ := s.shape
  rw [hl]; exact k _ _
theorem S1.at {own : Own} {h : H} {i j : Nat} {v x : Value} {vs : List Value} {K : Addr → Prop} (s : S1 own h i v vs) (hj : vs[j]? = some x)
    (k : ∀ a : Addr, hcell h a = some x → K a) : ixS v (j : Int) 1 K := by
  have hl := (List.getElem?_eq_some_iff.1 hj).1
  rcases s with ⟨rfl, rfl⟩ | ⟨b, hb, s⟩
  · simp at hl
  · have g := s.get hj
    obtain ⟨c, e, zs, h1, h2, h3⟩ := s
    subst h1
    exact nx hl (k _ g)
theorem S1.rd {own : Own} {h : H} {i j : Nat} {v : Value} {x : Int} {vs : List Value} {K : Int → Prop} (s : S1 own h i v vs) (hj : vs[j]? = some (.int .i64 x))
    (k : K x) : ixS v (j : Int) 1 fun a => ldI h a .i64 K := s.at hj fun a e => ⟨x, e, k⟩
theorem S1.rdI {own : Own} {h : H} {i j n : Nat} {v : Value} {f : Nat → Int} {K : Int → Prop} (s : S1 own h i v (ints n f)) (hj : j < n) (k : K (f j)) :
    ixS v (j : Int) 1 fun a => ldI h a .i64 K := s.rd (ints_get hj) k
theorem S1.rdV {own : Own} {h : H} {i j n : Nat} {v : Value} {f : Nat → Value} {K : Value → Prop} (s : S1 own h i v (va n f)) (hj : j < n) (k : K (f j)) :
    ixS v (j : Int) 1 fun a => ldV h a K := s.at (va_get hj) fun a e => ⟨_, e, k⟩
theorem S1.set {own : Own} {h : H} {i j : Nat} {v x : Value} {vs : List Value} {K : H → Prop} (s : S1 own h i v vs) (hj : j < vs.length)
    (k : ∀ g, Fm [i] own h own g → S1 own g i v (vs.set j x) → K g) : ixS v (j : Int) 1 fun a => stC h a x K := by
  rcases s with ⟨rfl, rfl⟩ | ⟨b, hb, s⟩
  · simp at hj
  · obtain ⟨c, e, zs, h1, h2, h3⟩ := s
    subst h1
    refine nx hj ?_
    rw [bk_add]
    have e2 : hset h ⟨b, j * 1, none⟩ [x] b = some (.cells ⟨vs.set j x ++ zs⟩ e (0, 0)) := by
      unfold hset
      rw [if_pos rfl, h2]
      simp only [Option.map_some, setR, Nat.mul_one]
      rw [List.setIfInBounds_toArray, List.set_append_left _ _ hj]
    refine ⟨⟨_, _, h2, rfl, ?_⟩, k _ (Fm.kp (b := b) ?_ hb ⟨_, e2⟩) (.inr ⟨b, hb, c, e, zs, by rw [List.length_set], e2, by rw [List.length_set]; exact h3⟩)⟩
    · simp only [List.size_toArray, List.length_append]; omega
    · intro j o hj hh
      unfold hset
      rw [if_neg hj]; exact hh
theorem S1.setI {own : Own} {h : H} {i j n : Nat} {v : Value} {f : Nat → Int} {x : Int} {K : H → Prop} (s : S1 own h i v (ints n f)) (hj : j < n)
    (k : ∀ g, Fm [i] own h own g → S1 own g i v (ints n (upd f j x)) → K g) : ixS v (j : Int) 1 fun a => stC h a (.int .i64 x) K :=
  s.set (by rw [ints_length]; exact hj) fun g F s' => k g F (by rw [← ints_set]; exact s')
theorem S1.setV {own : Own} {h : H} {i j n : Nat} {v x : Value} {f : Nat → Value} {K : H → Prop} (s : S1 own h i v (va n f)) (hj : j < n)
    (k : ∀ g, Fm [i] own h own g → S1 own g i v (va n (updV f j x)) → K g) : ixS v (j : Int) 1 fun a => stC h a x K :=
  s.set (by rw [va_length]; exact hj) fun g F s' => k g F (by rw [← va_set]; exact s')

/-- What is appended to a slice. -/
theorem S1.push {own : Own} {h : H} {i l ex : Nat} {p z : Value} {vs new : List Value} {K : Nat → H → Value → H → Prop} {e bytes : Nat} (s : S1 own h i p vs)
    (hnl : new.length = l) (one : ∀ v ∈ new, v.oneCell' = true) (hne : new ≠ []) (hb : bytes ≤ 8) (hl : vs.length + l < 1000000)
    (k : ∀ bx hm p' own' h', h bx = none → Ext h hm → Fm [i] own h own' h' → S1 own' h' i p' (vs ++ new) → K bx hm p' h') :
    newP h (.cells ⟨new⟩ ex (0, 0)) fun bx hm => apP p (.slice (some (bk bx)) l l) hm 1 e bytes [z] (K bx hm) := by
  subst hnl
  refine new_put ?_
  intro bx hm hbx xm hx
  have hsrc : srcP hm (some (bk bx)) (new.length * 1) new := by
    refine ⟨by rw [Nat.mul_one], fun j v hj => ?_⟩
    rw [bk_add, hcell_at hx, List.getElem?_toArray]
    exact hj
  have hzl : ∀ m, (zrep [z] m).length = m := by intro m; simp [zrep]
  have npos : 0 < new.length := List.length_pos_iff.2 hne
  rcases s with ⟨rfl, rfl⟩ | ⟨b, hob, c, eb, zs, rfl, h2, h3⟩
  · refine ⟨new, hsrc, fun hle => by omega, fun hlt => ⟨?_, [], ⟨rfl, rfl⟩, fun cap hcap => ?_⟩⟩
    · have := nextcap_le hlt
      calc _ ≤ (2 * (0 + new.length) + 192) * bytes := Nat.mul_le_mul_right _ this
        _ ≤ (2 * (0 + new.length) + 192) * 8 := Nat.mul_le_mul_left _ hb
        _ ≤ _ := by simp at hl; omega
    · refine new_put ?_
      intro b g hbn x e1
      rw [Nat.zero_add] at e1 hcap ⊢
      refine k bx hm _ (own1 own b i) g hbx xm (Fm.new (xm.trans' x) (xm.new hbn)) (.inr ⟨b, own1_at, cap, e, zrep [z] (cap - new.length), rfl, by rw [e1], ?_⟩)
      rw [hzl]; simp; omega
  · have h2m := xm _ _ h2
    refine ⟨new, hsrc, fun hle => ⟨fun _ => ?_, one, ?_⟩, fun hlt => ⟨?_, vs, ⟨by rw [Nat.mul_one], ?_⟩, fun cap hcap => ?_⟩⟩
    · rw [bk_add]
      refine ⟨_, _, h2m, rfl, ?_⟩
      simp only [List.size_toArray, List.length_append]
      omega
    · rw [bk_add]
      have e2 : hset hm ⟨b, vs.length * 1, none⟩ new b = some (.cells ⟨vs ++ new ++ zs.drop new.length⟩ eb (0, 0)) := by
        unfold hset
        rw [if_pos rfl, h2m]
        simp only [Option.map_some, Nat.mul_one]
        rw [setR_list _ _ _ (by simp; omega)]
        simp [List.take_append, List.drop_append]
      refine k bx hm _ own _ hbx xm ((Fm.of_ext xm).trans (Fm.kp (b := b) ?_ hob ⟨_, e2⟩)) (.inr ⟨b, hob, c, eb, zs.drop new.length, by simp, e2, by simp; omega⟩)
      intro j o hj hh
      unfold hset
      rw [if_neg hj]; exact hh
    · have := nextcap_le hlt
      calc _ ≤ (2 * (vs.length + new.length) + 192) * bytes := Nat.mul_le_mul_right _ this
        _ ≤ (2 * (vs.length + new.length) + 192) * 8 := Nat.mul_le_mul_left _ hb
        _ ≤ _ := by omega
    · intro j v hj
      rw [bk_add, hcell_at h2m, List.getElem?_toArray]
      have := (List.getElem?_eq_some_iff.1 hj).1
      rw [List.getElem?_append_left this]
      exact hj
    · refine new_put ?_
      intro b' g hbn x e1
      refine k bx hm _ (own1 own b' i) g hbx xm (Fm.new (xm.trans' x) (xm.new hbn)) (.inr ⟨b', own1_at, cap, e, zrep [z] (cap - (vs.length + new.length)), by simp, by rw [e1], ?_⟩)
      rw [hzl]; simp; omega
/-- n cells of the same. -/
theorem zrep_one (z : Value) (n : Nat) : zrep [z] n = va n fun _ => z := by
  unfold zrep va
  induction n with
  | zero => rfl
  | succ n ih => rw [List.replicate_succ', List.range_succ, List.flatten_append, ih, List.map_append]; rfl
theorem mk_S1 {h : H} {n bytes e : Nat} {z : Value} {K : Nat → H → Prop} (i : Nat) (hn : n ≤ 1000000) (hb : bytes ≤ 64)
    (k : ∀ b g, h b = none → Ext h g → (∀ own, S1 (own1 own b i) g i (.slice (some (bk b)) n n) (va n fun _ => z)) → K b g) : mkS (n : Int) (n : Int) bytes [z] e h K := by
  refine ⟨by omega, Int.le_refl _, ?_, by omega, ?_⟩
  · have : n * bytes ≤ 1000000 * 64 := Nat.mul_le_mul hn hb
    have e : ((n : Int) * bytes) = ((n * bytes : Nat) : Int) := by simp
    rw [e]; omega
  · refine new_put ?_
    intro b g hb x e1
    refine k b g hb x fun own => .inr ⟨b, own1_at, n, e, [], by rw [va_length], ?_, by rw [va_length]; rfl⟩
    rw [e1, Int.toNat_natCast, zrep_one, List.append_nil]
theorem mk_ints {h : H} {n bytes e : Nat} {K : Nat → H → Prop} (i : Nat) (hn : n ≤ 1000000) (hb : bytes ≤ 64)
    (k : ∀ b g, h b = none → Ext h g → (∀ own, S1 (own1 own b i) g i (.slice (some (bk b)) n n) (ints n fun _ => 0)) → K b g) : mkS (n : Int) (n : Int) bytes [.int .i64 0] e h K :=
  mk_S1 i hn hb k

def bools (n : Nat) (f : Nat → Bool) : List Value := va n fun i => .bool (f i)
def updB (f : Nat → Bool) (i : Nat) (x : Bool) : Nat → Bool := fun j => if j = i then x else f j
theorem bools_length (n : Nat) (f : Nat → Bool) : (bools n f).length = n := va_length _ _
theorem S1.rdB {own : Own} {h : H} {i j n : Nat} {v : Value} {f : Nat → Bool} {K : Bool → Prop} (s : S1 own h i v (bools n f)) (hj : j < n) (k : K (f j)) :
    ixS v (j : Int) 1 fun a => ldB h a K := s.at (va_get hj) fun a e => ⟨_, e, k⟩
theorem S1.setB {own : Own} {h : H} {i j n : Nat} {v : Value} {f : Nat → Bool} {x : Bool} {K : H → Prop} (s : S1 own h i v (bools n f)) (hj : j < n)
    (k : ∀ g, Fm [i] own h own g → S1 own g i v (bools n (updB f j x)) → K g) : ixS v (j : Int) 1 fun a => stC h a (.bool x) K :=
  S1.setV s hj fun g F s' => k g F (by
    have : updV (fun i => Value.bool (f i)) j (.bool x) = fun i => .bool (updB f j x i) := by
      funext l; unfold updV updB; split <;> rfl
    rw [this] at s'; exact s')
theorem mk_bools {h : H} {n bytes e : Nat} {K : Nat → H → Prop} (i : Nat) (hn : n ≤ 1000000) (hb : bytes ≤ 64)
    (k : ∀ b g, h b = none → Ext h g → (∀ own, S1 (own1 own b i) g i (.slice (some (bk b)) n n) (bools n fun _ => false)) → K b g) : mkS (n : Int) (n : Int) bytes [.bool false] e h K :=
  mk_S1 i hn hb k
theorem S1.ext {own : Own} {h h' : H} {i : Nat} {v : Value} {vs : List Value} (s : S1 own h i v vs) (x : Ext h h') : S1 own h' i v vs := s.fm (M := []) (Fm.of_ext x) (by simp)
theorem B1.ext {own : Own} {h h' : H} {i b : Nat} {vs : List Value} (s : B1 own h i b vs) (x : Ext h h') : B1 own h' i b vs := s.fm (M := []) (Fm.of_ext x) (by simp)
theorem Bs.ext_ {h0 h h' : H} {own : Own} (B : Bs h0 own h) (x : Ext h h') : Bs h0 own h' := ⟨B.ext.trans' x, B.old⟩
theorem Bs.new {h0 h h' : H} {own : Own} {b i : Nat} (B : Bs h0 own h) (x : Ext h h') (hb : h b = none) : Bs h0 (own1 own b i) h' := B.fm (M := []) (Fm.new x hb) (by simp)
theorem S1.new {own : Own} {h h' : H} {i j b : Nat} {v : Value} {vs : List Value} (s : S1 own h i v vs) (x : Ext h h') (hb : h b = none) : S1 (own1 own b j) h' i v vs := s.fm (M := []) (Fm.new x hb) (by simp)
theorem B1.newo {own : Own} {h h' : H} {i j b c : Nat} {vs : List Value} (s : B1 own h i c vs) (x : Ext h h') (hb : h b = none) : B1 (own1 own b j) h' i c vs := s.fm (M := []) (Fm.new x hb) (by simp)
theorem sameAt_b1 {own own' : Own} {g g' : H} {b j n c d : Nat} {vs : List Value} (B : B1 own g c b vs) (B' : B1 own' g' d b vs) : sameAt n ((bk b).add j) g g' := sameAt_bl B.bl B'.bl
theorem Bs.nw {h0 h h' : H} {own : Own} {b j : Nat} (B : Bs h0 own h) (x : Ext h h') (hb : h b = none) : Bs h0 (own1 own b j) h' := B.new x hb
theorem S1.nw {own : Own} {h h' : H} {i j b : Nat} {v : Value} {vs : List Value} (s : S1 own h i v vs) (x : Ext h h') (hb : h b = none) : S1 (own1 own b j) h' i v vs := s.new x hb
theorem B1.nw {own : Own} {h h' : H} {i j b c : Nat} {vs : List Value} (s : B1 own h i c vs) (x : Ext h h') (hb : h b = none) : B1 (own1 own b j) h' i c vs := s.newo x hb
theorem S1.setO {own : Own} {h : H} {i j n : Nat} {v x : Value} {f : Nat → Value} {K : H → Prop} (s : S1 own h i v (va n f)) (hj : j < n) (hx : ∃ a l c, x = .slice a l c)
    (k : ∀ g, Fm [i] own h own g → S1 own g i v (va n (updV f j x)) → K g) : ixS v (j : Int) 1 fun a => oneP x (stC h a x K) := by
  obtain ⟨_, _, _, rfl⟩ := hx
  exact s.setV hj k
theorem S1.sl {own : Own} {h : H} {i b l c : Nat} {vs : List Value} (s : S1 own h i (.slice (some (bk b)) l c) vs) : Sl h b (.slice (some (bk b)) l c) vs ∧ own b = i := by
  rcases s with ⟨_, e⟩ | ⟨b', hb, s⟩
  · cases e
  · have s' := s
    obtain ⟨c', e, zs, h1, h2, h3⟩ := s
    simp only [Value.slice.injEq, Option.some.injEq, bk, Addr.mk.injEq] at h1
    obtain ⟨⟨rfl, _⟩, _⟩ := h1
    exact ⟨s', hb⟩
theorem S1.of {h : H} {i b : Nat} {v : Value} {vs : List Value} (s : Sl h b v vs) (own : Own) : S1 (own1 own b i) h i v vs := .inr ⟨b, own1_at, s⟩

end Go.Proofs.YtjlojokockfapaaGreatDoor

namespace Go.Proofs.YtjlojokockfapaaGreatDoor
open Go
open Classical
set_option linter.unusedVariables false

def sumN : Nat → (Nat → Int) → Int
  | 0, _ => 0
  | k + 1, f => sumN k f + f k
theorem sumN_congr {f g : Nat → Int} : ∀ {k : Nat}, (∀ i, i < k → f i = g i) → sumN k f = sumN k g
  | 0, _ => rfl
  | k + 1, h => by
    show sumN k f + f k = sumN k g + g k
    rw [sumN_congr fun i hi => h i (by omega), h k (by omega)]
theorem sumN_add {f g : Nat → Int} : ∀ {k : Nat}, sumN k (fun i => f i + g i) = sumN k f + sumN k g
  | 0 => rfl
  | k + 1 => by
    show sumN k (fun i => f i + g i) + (f k + g k) = sumN k f + f k + (sumN k g + g k)
    rw [sumN_add]; omega
theorem sumN_sub {f g : Nat → Int} : ∀ {k : Nat}, sumN k (fun i => f i - g i) = sumN k f - sumN k g
  | 0 => rfl
  | k + 1 => by
    show sumN k (fun i => f i - g i) + (f k - g k) = sumN k f + f k - (sumN k g + g k)
    rw [sumN_sub]; omega
theorem sumN_mul {c : Int} {f : Nat → Int} : ∀ {k : Nat}, sumN k (fun i => c * f i) = c * sumN k f
  | 0 => by simp [sumN]
  | k + 1 => by
    show sumN k (fun i => c * f i) + c * f k = c * (sumN k f + f k)
    rw [sumN_mul, Int.mul_add]
theorem sumN_zero {f : Nat → Int} : ∀ {k : Nat}, (∀ i, i < k → f i = 0) → sumN k f = 0
  | 0, _ => rfl
  | k + 1, h => by
    show sumN k f + f k = 0
    rw [sumN_zero fun i hi => h i (by omega), h k (by omega)]; rfl
theorem sumN_le {f g : Nat → Int} : ∀ {k : Nat}, (∀ i, i < k → f i ≤ g i) → sumN k f ≤ sumN k g
  | 0, _ => Int.le_refl _
  | k + 1, h => by
    show sumN k f + f k ≤ sumN k g + g k
    have := sumN_le (k := k) fun i hi => h i (by omega)
    have := h k (by omega)
    omega
theorem sumN_nonneg {f : Nat → Int} {k : Nat} (h : ∀ i, i < k → 0 ≤ f i) : 0 ≤ sumN k f := by
  have := sumN_le (f := fun _ => 0) (g := f) h
  rwa [sumN_zero fun _ _ => rfl] at this
theorem sumN_const {c : Int} : ∀ {k : Nat}, sumN k (fun _ => c) = k * c
  | 0 => by simp [sumN]
  | k + 1 => by
    show sumN k (fun _ => c) + c = _
    rw [sumN_const, Int.natCast_add, Int.add_mul]; simp
theorem sumN_bd {c : Int} {f : Nat → Int} {k : Nat} (h : ∀ i, i < k → f i ≤ c) : sumN k f ≤ k * c := by
  rw [← sumN_const]; exact sumN_le h
/-- All are 0 if none is below 0 and the sum is not above 0. -/
theorem sumN_all0 {f : Nat → Int} : ∀ {k : Nat}, (∀ i, i < k → 0 ≤ f i) → sumN k f ≤ 0 → ∀ i, i < k → f i = 0
  | 0, _, _ => fun i hi => by omega
  | k + 1, h, h0 => by
    have h0 : sumN k f + f k ≤ 0 := h0
    have a := sumN_nonneg (k := k) fun i hi => h i (by omega)
    have b := h k (by omega)
    intro i hi
    by_cases e : i = k
    · subst e; omega
    · exact sumN_all0 (k := k) (fun i hi => h i (by omega)) (by omega) i (by omega)
theorem sumN_mem {f : Nat → Int} {k i : Nat} (h : ∀ i, i < k → 0 ≤ f i) (hi : i < k) : f i ≤ sumN k f := by
  induction k with
  | zero => omega
  | succ k ih =>
    show f i ≤ sumN k f + f k
    have a := sumN_nonneg (k := k) fun i hi => h i (by omega)
    have b := h k (by omega)
    by_cases e : i = k
    · subst e; omega
    · have := ih (fun i hi => h i (by omega)) (by omega); omega
theorem sumN_swap {f : Nat → Nat → Int} {b : Nat} : ∀ {a : Nat}, sumN a (fun i => sumN b fun j => f i j) = sumN b fun j => sumN a fun i => f i j
  | 0 => (sumN_zero fun _ _ => rfl).symm
  | a + 1 => by
    show sumN a (fun i => sumN b fun j => f i j) + sumN b (fun j => f a j) = _
    rw [sumN_swap, ← sumN_add]; rfl
theorem sumN_pt {x : Int} {j : Nat} : ∀ {k : Nat}, sumN k (fun i => if j = i then x else 0) = if j < k then x else 0
  | 0 => rfl
  | k + 1 => by
    show sumN k (fun i => if j = i then x else 0) + (if j = k then x else 0) = _
    rw [sumN_pt]
    by_cases h1 : j < k
    · rw [if_pos h1, if_neg (by omega), if_pos (by omega)]; omega
    · by_cases h2 : j = k
      · rw [if_neg h1, if_pos h2, if_pos (by omega)]; omega
      · rw [if_neg h1, if_neg h2, if_neg (by omega)]; rfl
theorem sumN_ptf {f : Nat → Int} {j k : Nat} (hj : j < k) : sumN k (fun i => if j = i then f i else 0) = f j := by
  have : sumN k (fun i => if j = i then f i else 0) = sumN k (fun i => if j = i then f j else 0) := sumN_congr fun i _ => by
    by_cases e : j = i
    · subst e; rfl
    · rw [if_neg e, if_neg e]
  rw [this, sumN_pt, if_pos hj]
theorem sumN_upd {f : Nat → Int} {i k : Nat} {x : Int} (hi : i < k) : sumN k (upd f i x) = sumN k f - f i + x := by
  have : sumN k (upd f i x) = sumN k (fun j => f j + (if i = j then x - f i else 0)) := sumN_congr fun j _ => by
    unfold upd
    by_cases e : j = i
    · subst e; rw [if_pos rfl, if_pos rfl]; omega
    · rw [if_neg e, if_neg (fun h => e h.symm)]; omega
  rw [this, sumN_add, sumN_pt, if_pos hi]; omega
/-- How much more goes out of a node than comes into it. -/
def OutF (m : Nat) (fr to : Nat → Nat) (f : Nat → Int) (v : Nat) : Int := sumN m fun i => (if fr i = v then f i else 0) - (if to i = v then f i else 0)
structure FlowP (n m : Nat) (fr to : Nat → Nat) (cap : Nat → Int) (s t : Nat) (f : Nat → Int) : Prop where
  cp : ∀ i, i < m → 0 ≤ f i ∧ f i ≤ cap i
  cons : ∀ v, v < n → v ≠ s → v ≠ t → OutF m fr to f v = 0
/-- A step along which more can go. -/
def RsS (m : Nat) (fr to : Nat → Nat) (cap f : Nat → Int) (u v : Nat) : Prop :=
  ∃ i, i < m ∧ ((fr i = u ∧ to i = v ∧ f i < cap i) ∨ (to i = u ∧ fr i = v ∧ 0 < f i))
inductive Rch (R : Nat → Nat → Prop) (s : Nat) : Nat → Prop
  | refl : Rch R s s
  | step {u v : Nat} : Rch R s u → R u v → Rch R s v
theorem Rch.closed {R : Nat → Nat → Prop} {s v : Nat} (r : Rch R s v) {C : Nat → Prop} (hs : C s) (hc : ∀ u v, C u → R u v → C v) : C v := by
  induction r with
  | refl => exact hs
  | step _ h ih => exact hc _ _ ih h
theorem Rch.mono {R R' : Nat → Nat → Prop} {s v : Nat} (h : ∀ u v, R u v → R' u v) (r : Rch R s v) : Rch R' s v := by
  induction r with
  | refl => exact .refl
  | step _ k ih => exact ih.step (h _ _ k)
/-- The capacity of what leaves a side. -/
noncomputable def cutC (m : Nat) (fr to : Nat → Nat) (cap : Nat → Int) (C : Nat → Prop) : Int := sumN m fun i => if C (fr i) ∧ ¬ C (to i) then cap i else 0

section
variable {n m : Nat} {fr to : Nat → Nat} {cap f g : Nat → Int} {s t : Nat}

theorem out_side (hn : ∀ i, i < m → fr i < n ∧ to i < n) (C : Nat → Prop) :
    sumN n (fun v => if C v then OutF m fr to f v else 0) = sumN m fun i => (if C (fr i) then f i else 0) - (if C (to i) then f i else 0) := by
  have e1 : sumN n (fun v => if C v then OutF m fr to f v else 0) =
      sumN n fun v => sumN m fun i => (if fr i = v then (if C (fr i) then f i else 0) else 0) - (if to i = v then (if C (to i) then f i else 0) else 0) := by
    refine sumN_congr fun v _ => ?_
    by_cases hc : C v
    · rw [if_pos hc]
      refine sumN_congr fun i _ => ?_
      by_cases h1 : fr i = v <;> by_cases h2 : to i = v <;> simp [h1, h2, hc]
    · rw [if_neg hc]
      refine (sumN_zero fun i _ => ?_).symm
      by_cases h1 : fr i = v <;> by_cases h2 : to i = v <;> simp [h1, h2, hc]
  rw [e1, sumN_swap]
  refine sumN_congr fun i hi => ?_
  have := hn i hi
  rw [sumN_sub, sumN_pt, sumN_pt, if_pos this.1, if_pos this.2]

/-- All that goes out of all nodes. -/
theorem out_all (hn : ∀ i, i < m → fr i < n ∧ to i < n) : sumN n (fun v => OutF m fr to f v) = 0 := by
  have := out_side (f := f) hn (fun _ => True)
  simp only [if_true] at this
  rw [this]
  exact sumN_zero fun i _ => by omega

/-- What a cut could still bear. -/
noncomputable def gapI (fr to : Nat → Nat) (cap f : Nat → Int) (C : Nat → Prop) (i : Nat) : Int :=
  if C (fr i) ∧ ¬ C (to i) then cap i - f i else if ¬ C (fr i) ∧ C (to i) then f i else 0
theorem FlowP.gap (F : FlowP n m fr to cap s t f) (hn : ∀ i, i < m → fr i < n ∧ to i < n) (hs : s < n) {C : Nat → Prop} (cs : C s) (ct : ¬ C t) :
    cutC m fr to cap C - OutF m fr to f s = sumN m (gapI fr to cap f C) := by
  have e1 : sumN n (fun v => if C v then OutF m fr to f v else 0) = OutF m fr to f s := by
    rw [← sumN_ptf (f := fun v => OutF m fr to f v) hs]
    refine sumN_congr fun v hv => ?_
    by_cases h1 : s = v
    · subst h1; rw [if_pos cs, if_pos rfl]
    · rw [if_neg h1]
      by_cases hc : C v
      · rw [if_pos hc]; exact F.cons v hv (fun h => h1 h.symm) (by rintro rfl; exact ct hc)
      · rw [if_neg hc]
  rw [out_side hn C] at e1
  rw [← e1]
  unfold cutC
  rw [← sumN_sub]
  refine sumN_congr fun i _ => ?_
  unfold gapI
  by_cases h1 : C (fr i) <;> by_cases h2 : C (to i) <;> simp [h1, h2]
theorem FlowP.gap0 (F : FlowP n m fr to cap s t f) (C : Nat → Prop) : ∀ i, i < m → 0 ≤ gapI fr to cap f C i := by
  intro i hi
  have := F.cp i hi
  unfold gapI
  by_cases h1 : C (fr i) <;> by_cases h2 : C (to i) <;> simp [h1, h2] <;> omega
theorem FlowP.le_cut (F : FlowP n m fr to cap s t f) (hn : ∀ i, i < m → fr i < n ∧ to i < n) (hs : s < n) {C : Nat → Prop} (cs : C s) (ct : ¬ C t) :
    OutF m fr to f s ≤ cutC m fr to cap C := by
  have := F.gap hn hs cs ct
  have := sumN_nonneg (F.gap0 C)
  omega
/-- A tight cut: full behind, empty before. -/
theorem FlowP.tight (F : FlowP n m fr to cap s t f) (hn : ∀ i, i < m → fr i < n ∧ to i < n) (hs : s < n) {C : Nat → Prop} (cs : C s) (ct : ¬ C t)
    (h : cutC m fr to cap C ≤ OutF m fr to f s) : ∀ i, i < m → (C (fr i) → ¬ C (to i) → f i = cap i) ∧ (¬ C (fr i) → C (to i) → f i = 0) := by
  have e := F.gap hn hs cs ct
  intro i hi
  have := sumN_all0 (F.gap0 C) (by omega) i hi
  unfold gapI at this
  constructor
  · intro h1 h2
    rw [if_pos ⟨h1, h2⟩] at this; omega
  · intro h1 h2
    rw [if_neg (fun h => h1 h.1), if_pos ⟨h1, h2⟩] at this; exact this
theorem FlowP.tight' (F : FlowP n m fr to cap s t f) (hn : ∀ i, i < m → fr i < n ∧ to i < n) (hs : s < n) {C : Nat → Prop} (cs : C s) (ct : ¬ C t)
    (h : ∀ u v, C u → RsS m fr to cap f u v → C v) : OutF m fr to f s = cutC m fr to cap C := by
  have e := F.gap hn hs cs ct
  have : sumN m (gapI fr to cap f C) = 0 := by
    refine sumN_zero fun i hi => ?_
    have := F.cp i hi
    unfold gapI
    by_cases h1 : C (fr i) ∧ ¬ C (to i)
    · rw [if_pos h1]
      by_cases k : f i < cap i
      · exact absurd (h _ _ h1.1 ⟨i, hi, .inl ⟨rfl, rfl, k⟩⟩) h1.2
      · omega
    · rw [if_neg h1]
      by_cases h2 : ¬ C (fr i) ∧ C (to i)
      · rw [if_pos h2]
        by_cases k : 0 < f i
        · exact absurd (h _ _ h2.2 ⟨i, hi, .inr ⟨rfl, rfl, k⟩⟩) h2.1
        · omega
      · rw [if_neg h2]
  omega

/-- A greatest flow: the sink cannot be reached in what it leaves. -/
structure MaxP (n m : Nat) (fr to : Nat → Nat) (cap : Nat → Int) (s t : Nat) (f : Nat → Int) : Prop where
  fl : FlowP n m fr to cap s t f
  nr : ¬ Rch (RsS m fr to cap f) s t
theorem MaxP.cut (F : MaxP n m fr to cap s t f) (hn : ∀ i, i < m → fr i < n ∧ to i < n) (hs : s < n) :
    OutF m fr to f s = cutC m fr to cap (Rch (RsS m fr to cap f) s) := F.fl.tight' hn hs .refl F.nr fun _ _ a b => a.step b
/-- Whatever cut is no greater than the flow holds all that can be reached. -/
theorem MaxP.sub (F : FlowP n m fr to cap s t f) (hn : ∀ i, i < m → fr i < n ∧ to i < n) (hs : s < n) {C : Nat → Prop} (cs : C s) (ct : ¬ C t)
    (h : cutC m fr to cap C ≤ OutF m fr to f s) {v : Nat} (r : Rch (RsS m fr to cap f) s v) : C v := by
  refine r.closed cs ?_
  rintro u w hu ⟨i, hi, ⟨rfl, rfl, k⟩ | ⟨rfl, rfl, k⟩⟩
  · apply Classical.byContradiction
    intro hw
    have := (F.tight hn hs cs ct h i hi).1 hu hw
    omega
  · apply Classical.byContradiction
    intro hw
    have := (F.tight hn hs cs ct h i hi).2 hw hu
    omega
theorem MaxP.uniq (F : MaxP n m fr to cap s t f) (G : MaxP n m fr to cap s t g) (hn : ∀ i, i < m → fr i < n ∧ to i < n) (hs : s < n) :
    OutF m fr to f s = OutF m fr to g s ∧ ∀ v, Rch (RsS m fr to cap f) s v ↔ Rch (RsS m fr to cap g) s v := by
  have c1 := F.cut hn hs
  have c2 := G.cut hn hs
  have l1 := F.fl.le_cut hn hs (C := Rch (RsS m fr to cap g) s) .refl G.nr
  have l2 := G.fl.le_cut hn hs (C := Rch (RsS m fr to cap f) s) .refl F.nr
  refine ⟨by omega, fun v => ⟨MaxP.sub F.fl hn hs .refl G.nr (by omega), MaxP.sub G.fl hn hs .refl F.nr (by omega)⟩⟩
end

end Go.Proofs.YtjlojokockfapaaGreatDoor

namespace Go.Proofs.YtjlojokockfapaaGreatDoor
open Go
set_option linter.unusedVariables false
set_option linter.unusedSimpArgs false

/-- The graph is right. -/
structure Gd (n m : Nat) (es : Nat → Ed) : Prop where
  n1 : n ≤ 1024
  m1 : m ≤ 4096
  f : ∀ i, i < m → ∃ v : Nat, (es i).f = v ∧ v < n
  t : ∀ i, i < m → ∃ v : Nat, (es i).t = v ∧ v < n
  c : ∀ i, i < m → 0 ≤ (es i).c ∧ (es i).c ≤ 1048576
  k : ∀ i, i < m → -1048576 ≤ (es i).k ∧ (es i).k ≤ 1048576
abbrev frE (es : Nat → Ed) (i : Nat) : Nat := (es i).f.toNat
abbrev toE (es : Nat → Ed) (i : Nat) : Nat := (es i).t.toNat
abbrev cpE (es : Nat → Ed) (i : Nat) : Int := (es i).c
theorem badFrom_0 {n : Int} {es : Nat → Ed} : ∀ {k i : Nat}, (badFrom n es i k).1 = 0 → ∀ j, i ≤ j → j < i + k → badE n (es j) = 0
  | 0, i, _, j, h1, h2 => by omega
  | k + 1, i, h, j, h1, h2 => by
    by_cases e : badE n (es i) = 0
    · rw [badFrom_good e] at h
      by_cases e2 : j = i
      · rw [e2]; exact e
      · exact badFrom_0 h j (by omega) (by omega)
    · rw [badFrom_bad e] at h
      exact absurd h e
theorem Gd.of {n : Int} {m : Nat} {es : Nat → Ed} (h : (faultG n m es).1 = 0) : ∃ n' : Nat, n = n' ∧ Gd n' m es := by
  unfold faultG at h
  split at h
  · cases h
  · rename_i h1
    refine ⟨n.toNat, by omega, ?_⟩
    have key : ∀ i, i < m → badE n (es i) = 0 := fun i hi => badFrom_0 h i (by omega) (by omega)
    have key2 : ∀ i, i < m → ¬ ((es i).f < 0 ∨ (es i).t < 0 ∨ n ≤ (es i).f ∨ n ≤ (es i).t) ∧ ¬ ((es i).c < 0 ∨ 1048576 < (es i).c ∨ (es i).k < -1048576 ∨ 1048576 < (es i).k) := by
      intro i hi
      have := key i hi
      unfold badE at this
      split at this
      · cases this
      · split at this
        · cases this
        · exact ⟨by assumption, by assumption⟩
    refine ⟨by omega, by omega, fun i hi => ⟨(es i).f.toNat, ?_, ?_⟩, fun i hi => ⟨(es i).t.toNat, ?_, ?_⟩, fun i hi => ?_, fun i hi => ?_⟩ <;> (have := key2 i hi; omega)
theorem Gd.fr {n m : Nat} {es : Nat → Ed} (g : Gd n m es) {i : Nat} (hi : i < m) : (es i).f = (frE es i : Nat) ∧ frE es i < n := by
  obtain ⟨v, e, hv⟩ := g.f i hi
  unfold frE; omega
theorem Gd.to {n m : Nat} {es : Nat → Ed} (g : Gd n m es) {i : Nat} (hi : i < m) : (es i).t = (toE es i : Nat) ∧ toE es i < n := by
  obtain ⟨v, e, hv⟩ := g.t i hi
  unfold toE; omega
theorem Gd.ends {n m : Nat} {es : Nat → Ed} (g : Gd n m es) : ∀ i, i < m → frE es i < n ∧ toE es i < n := fun i hi => ⟨(g.fr hi).2, (g.to hi).2⟩

def tlA (fr to : Nat → Nat) (a : Nat) : Nat := if a % 2 = 0 then fr (a / 2) else to (a / 2)
def hdA (fr to : Nat → Nat) (a : Nat) : Nat := if a % 2 = 0 then to (a / 2) else fr (a / 2)
/-- The arc that takes back. -/
def prA (a : Nat) : Nat := if a % 2 = 0 then a + 1 else a - 1
/-- The arcs out of a node, of the first i edges. -/
def arcsL (fr to : Nat → Nat) : Nat → Nat → List Nat
  | 0, _ => []
  | i + 1, v => arcsL fr to i v ++ ((if fr i = v then [2 * i] else []) ++ (if to i = v then [2 * i + 1] else []))
def natV (l : List Nat) : List Value := l.map fun a => .int .i64 (a : Nat)
theorem mem_arcsL {fr to : Nat → Nat} {a v : Nat} : ∀ {i : Nat}, a ∈ arcsL fr to i v ↔ a < 2 * i ∧ tlA fr to a = v
  | 0 => by simp [arcsL]
  | i + 1 => by
    unfold arcsL
    rw [List.mem_append, mem_arcsL, List.mem_append]
    unfold tlA
    constructor
    · rintro (⟨h1, h2⟩ | h | h)
      · exact ⟨by omega, h2⟩
      · split at h
        · rename_i e
          have : a = 2 * i := by simpa using h
          subst this
          refine ⟨by omega, ?_⟩
          rw [if_pos (by omega), show 2 * i / 2 = i by omega]; exact e
        · simp at h
      · split at h
        · rename_i e
          have : a = 2 * i + 1 := by simpa using h
          subst this
          refine ⟨by omega, ?_⟩
          rw [if_neg (by omega), show (2 * i + 1) / 2 = i by omega]; exact e
        · simp at h
    · rintro ⟨h1, h2⟩
      by_cases e : a < 2 * i
      · exact .inl ⟨e, h2⟩
      · by_cases e2 : a = 2 * i
        · subst e2
          rw [if_pos (by omega), show 2 * i / 2 = i by omega] at h2
          exact .inr (.inl (by rw [if_pos h2]; simp))
        · have e3 : a = 2 * i + 1 := by omega
          subst e3
          rw [if_neg (by omega), show (2 * i + 1) / 2 = i by omega] at h2
          exact .inr (.inr (by rw [if_pos h2]; simp))
theorem arcsL_length {fr to : Nat → Nat} {v : Nat} : ∀ {i : Nat}, (arcsL fr to i v).length ≤ 2 * i
  | 0 => by simp [arcsL]
  | i + 1 => by
    unfold arcsL
    have := arcsL_length (fr := fr) (to := to) (v := v) (i := i)
    simp only [List.length_append]
    have h1 : (if fr i = v then [2 * i] else []).length ≤ 1 := by split <;> simp
    have h2 : (if to i = v then [2 * i + 1] else []).length ≤ 1 := by split <;> simp
    omega
theorem natV_get {l : List Nat} {j : Nat} (hj : j < l.length) : (natV l)[j]? = some (.int .i64 ((l[j] : Nat) : Int)) := by
  unfold natV
  rw [List.getElem?_map, List.getElem?_eq_getElem hj]; rfl
theorem natV_length (l : List Nat) : (natV l).length = l.length := by simp [natV]
theorem prA_lt {a m : Nat} (h : a < 2 * m) : prA a < 2 * m := by unfold prA; split <;> omega
theorem prA_pr (a : Nat) : prA (prA a) = a := by
  unfold prA
  by_cases h : a % 2 = 0
  · rw [if_pos h, if_neg (by omega)]; omega
  · rw [if_neg h, if_pos (by omega)]; omega
theorem prA_ne (a : Nat) : prA a ≠ a := by unfold prA; split <;> omega
theorem tl_pr {fr to : Nat → Nat} (a : Nat) : tlA fr to (prA a) = hdA fr to a := by
  unfold tlA hdA prA
  by_cases h : a % 2 = 0
  · rw [if_pos h, if_pos h, if_neg (by omega), show (a + 1) / 2 = a / 2 by omega]
  · rw [if_neg h, if_neg h, if_pos (by omega), show (a - 1) / 2 = a / 2 by omega]
theorem hd_pr {fr to : Nat → Nat} (a : Nat) : hdA fr to (prA a) = tlA fr to a := by
  have := tl_pr (fr := fr) (to := to) (prA a)
  rw [prA_pr] at this; exact this.symm
theorem tl_lt {fr to : Nat → Nat} {n m : Nat} (hn : ∀ i, i < m → fr i < n ∧ to i < n) {a : Nat} (ha : a < 2 * m) : tlA fr to a < n := by
  have := hn (a / 2) (by omega)
  unfold tlA; split <;> omega
theorem hd_lt {fr to : Nat → Nat} {n m : Nat} (hn : ∀ i, i < m → fr i < n ∧ to i < n) {a : Nat} (ha : a < 2 * m) : hdA fr to a < n := by
  have := hn (a / 2) (by omega)
  unfold hdA; split <;> omega
theorem xor1 {a : Nat} (h : a < 1000000) : bitsI .xor .i64 (a : Int) 1 = ((prA a : Nat) : Int) := by
  have e : bitsI .xor .i64 (a : Int) 1 = IntKind.i64.wrap ((BitVec.ofInt 64 (a : Int) ^^^ BitVec.ofInt 64 1).toNat : Int) := rfl
  have e1 : BitVec.ofInt 64 (a : Int) = BitVec.ofNat 64 a := BitVec.ofInt_natCast 64 a
  have e2 : (BitVec.ofNat 64 a ^^^ BitVec.ofInt 64 1).toNat = prA a := by
    rw [BitVec.toNat_xor, show (BitVec.ofInt 64 1).toNat = 1 from rfl, BitVec.toNat_ofNat, Nat.mod_eq_of_lt (by omega)]
    have h1 : (a ^^^ 1) / 2 = a / 2 := by rw [Nat.xor_div_two]; simp
    have h3 : (a ^^^ 1).testBit 0 = (a.testBit 0 ^^ (1 : Nat).testBit 0) := Nat.testBit_xor ..
    revert h1 h3
    generalize a ^^^ 1 = x
    intro h1 h3
    simp only [Nat.testBit_zero] at h3
    unfold prA
    by_cases h : a % 2 = 0
    · rw [if_pos h]
      have : x % 2 = 1 := by simpa [h] using h3
      omega
    · rw [if_neg h]
      have h' : a % 2 = 1 := by omega
      have : ¬ x % 2 = 1 := by simpa [h'] using h3
      omega
  rw [e, e1, e2]
  exact w64_in (by omega) (by unfold prA; split <;> omega)
end Go.Proofs.YtjlojokockfapaaGreatDoor

namespace Go.Proofs.YtjlojokockfapaaGreatDoor
open Go
set_option linter.unusedVariables false
set_option linter.unusedSimpArgs false

/-- What is on the edges. -/
def onR (room : Nat → Int) (i : Nat) : Int := room (2 * i + 1)
def sndR (room : Nat → Int) (a : Nat) (x : Int) : Nat → Int := upd (upd room a (room a - x)) (prA a) (room (prA a) + x)
theorem sndR_a {room : Nat → Int} {a : Nat} {x : Int} : sndR room a x a = room a - x := by
  unfold sndR upd; rw [if_neg (fun h => prA_ne a h.symm), if_pos rfl]
theorem sndR_p {room : Nat → Int} {a : Nat} {x : Int} : sndR room a x (prA a) = room (prA a) + x := by
  unfold sndR upd; rw [if_pos rfl]
theorem sndR_o {room : Nat → Int} {a b : Nat} {x : Int} (h1 : b ≠ a) (h2 : b ≠ prA a) : sndR room a x b = room b := by
  unfold sndR upd; rw [if_neg h2, if_neg h1]
theorem sndR_0 {room : Nat → Int} {a : Nat} : sndR room a 0 = room := by
  funext b
  by_cases h1 : b = a
  · subst h1; rw [sndR_a]; omega
  · by_cases h2 : b = prA a
    · subst h2; rw [sndR_p]; omega
    · exact sndR_o h1 h2
/-- Rooms are right. -/
structure RmP (m : Nat) (cap : Nat → Int) (room : Nat → Int) : Prop where
  pos : ∀ a, a < 2 * m → 0 ≤ room a
  sum : ∀ i, i < m → room (2 * i) + room (2 * i + 1) = cap i
theorem RmP.pr {m : Nat} {cap room : Nat → Int} (R : RmP m cap room) {a : Nat} (ha : a < 2 * m) : room a + room (prA a) = cap (a / 2) := by
  have := R.sum (a / 2) (by omega)
  unfold prA
  split
  · have e : 2 * (a / 2) = a := by omega
    rw [e] at this; exact this
  · have e : 2 * (a / 2) = a - 1 := by omega
    rw [e, show a - 1 + 1 = a by omega] at this
    omega
theorem RmP.snd {m : Nat} {cap room : Nat → Int} (R : RmP m cap room) {a : Nat} {x : Int} (ha : a < 2 * m) (h0 : 0 ≤ x) (h1 : x ≤ room a) : RmP m cap (sndR room a x) := by
  have hp := prA_lt ha
  refine ⟨fun b hb => ?_, fun i hi => ?_⟩
  · by_cases e1 : b = a
    · subst e1; rw [sndR_a]; omega
    · by_cases e2 : b = prA a
      · subst e2; rw [sndR_p]; have := R.pos _ hp; omega
      · rw [sndR_o e1 e2]; exact R.pos b hb
  · have e0 := R.sum i hi
    by_cases e1 : 2 * i = a
    · subst e1
      have e2 : prA (2 * i) = 2 * i + 1 := by unfold prA; rw [if_pos (by omega)]
      have p := sndR_p (room := room) (a := 2 * i) (x := x)
      rw [e2] at p
      rw [sndR_a, p]; omega
    · by_cases e2 : 2 * i + 1 = a
      · subst e2
        have e3 : prA (2 * i + 1) = 2 * i := by unfold prA; rw [if_neg (by omega)]; omega
        have p := sndR_p (room := room) (a := 2 * i + 1) (x := x)
        rw [e3] at p
        rw [sndR_a, p]; omega
      · have : 2 * i ≠ prA a ∧ 2 * i + 1 ≠ prA a := by unfold prA; split <;> omega
        rw [sndR_o e1 this.1, sndR_o e2 this.2]; exact e0
/-- What goes along an arc goes from its tail to its head. -/
theorem out_snd {m : Nat} {fr to : Nat → Nat} {room : Nat → Int} {a : Nat} {x : Int} (ha : a < 2 * m) (v : Nat) :
    OutF m fr to (onR (sndR room a x)) v = OutF m fr to (onR room) v + (if tlA fr to a = v then x else 0) - (if hdA fr to a = v then x else 0) := by
  have e : ∀ i, i < m → ((if fr i = v then onR (sndR room a x) i else 0) - (if to i = v then onR (sndR room a x) i else 0)) =
      ((if fr i = v then onR room i else 0) - (if to i = v then onR room i else 0)) + (if a / 2 = i then (if tlA fr to a = v then x else 0) - (if hdA fr to a = v then x else 0) else 0) := by
    intro i hi
    unfold onR
    by_cases e1 : a / 2 = i
    · rw [if_pos e1]
      by_cases h2 : a % 2 = 0
      · have ea : a = 2 * i := by omega
        have p := sndR_p (room := room) (a := a) (x := x)
        have ep : prA a = 2 * i + 1 := by unfold prA; rw [if_pos h2, ea]
        rw [ep] at p
        rw [p]
        unfold tlA hdA
        rw [if_pos h2, if_pos h2, e1]
        split <;> split <;> omega
      · have ea : a = 2 * i + 1 := by omega
        have p := sndR_a (room := room) (a := a) (x := x)
        rw [← ea, p]
        unfold tlA hdA
        rw [if_neg h2, if_neg h2, e1]
        split <;> split <;> omega
    · rw [if_neg e1, sndR_o (by omega) (by unfold prA; split <;> omega)]; omega
  unfold OutF
  rw [sumN_congr e, sumN_add, sumN_pt, if_pos (by omega)]; omega
/-- A step with room is a residual step. -/
theorem rs_arc {m : Nat} {fr to : Nat → Nat} {cap room : Nat → Int} (R : RmP m cap room) {u v : Nat} :
    RsS m fr to cap (onR room) u v ↔ ∃ a, a < 2 * m ∧ tlA fr to a = u ∧ hdA fr to a = v ∧ 0 < room a := by
  constructor
  · rintro ⟨i, hi, ⟨h1, h2, h3⟩ | ⟨h1, h2, h3⟩⟩
    · refine ⟨2 * i, by omega, ?_, ?_, ?_⟩
      · unfold tlA; rw [if_pos (by omega), show 2 * i / 2 = i by omega]; exact h1
      · unfold hdA; rw [if_pos (by omega), show 2 * i / 2 = i by omega]; exact h2
      · have := R.sum i hi
        unfold onR at h3; omega
    · refine ⟨2 * i + 1, by omega, ?_, ?_, h3⟩
      · unfold tlA; rw [if_neg (by omega), show (2 * i + 1) / 2 = i by omega]; exact h1
      · unfold hdA; rw [if_neg (by omega), show (2 * i + 1) / 2 = i by omega]; exact h2
  · rintro ⟨a, ha, h1, h2, h3⟩
    refine ⟨a / 2, by omega, ?_⟩
    unfold tlA at h1
    unfold hdA at h2
    have := R.sum (a / 2) (by omega)
    unfold onR
    by_cases h : a % 2 = 0
    · rw [if_pos h] at h1 h2
      have e : 2 * (a / 2) = a := by omega
      rw [e] at this
      exact .inl ⟨h1, h2, by rw [e]; omega⟩
    · rw [if_neg h] at h1 h2
      have e : 2 * (a / 2) + 1 = a := by omega
      exact .inr ⟨h1, h2, by rw [e]; exact h3⟩

/-- The net in the heap: owners 1 (to), 2 (room), 3 (out), 4 (the struct), 20 + v (out of v). -/
structure Net (own : Own) (h : H) (bn n m : Nat) (fr to : Nat → Nat) (s t : Nat) (room : Nat → Int) : Prop where
  ex : ∃ vto vroom vout outs, B1 own h 4 bn [vto, vroom, vout, .int .i64 s, .int .i64 t] ∧ S1 own h 1 vto (ints (2 * m) fun a => (hdA fr to a : Nat)) ∧
    S1 own h 2 vroom (ints (2 * m) room) ∧ S1 own h 3 vout (va n outs) ∧ ∀ v, v < n → S1 own h (20 + v) (outs v) (natV (arcsL fr to m v))
section
variable {own own' : Own} {h h' : H} {bn n m s t : Nat} {fr to : Nat → Nat} {room room' : Nat → Int} {M : List Nat}
theorem Net.fm (N : Net own h bn n m fr to s t room) (F : Fm M own h own' h') (h1 : ∀ i, i ∈ M → 4 < i ∧ i < 20) : Net own' h' bn n m fr to s t room := by
  obtain ⟨a, b, c, d, k1, k2, k3, k4, k5⟩ := N.ex
  have no : ∀ j, (j ≤ 4 ∨ 20 ≤ j) → j ∉ M := fun j hj hm => by have := h1 j hm; omega
  exact ⟨a, b, c, d, k1.fm F (no _ (by omega)), k2.fm F (no _ (by omega)), k3.fm F (no _ (by omega)), k4.fm F (no _ (by omega)), fun v hv => (k5 v hv).fm F (no _ (by omega))⟩
theorem Net.new {b i : Nat} (N : Net own h bn n m fr to s t room) (x : Ext h h') (hb : h b = none) : Net (own1 own b i) h' bn n m fr to s t room := N.fm (M := []) (Fm.new x hb) (by simp)

/-- A room anew, whose owner alone changed. -/
theorem send_T (N : Net own h bn n m fr to s t room) (hm : m ≤ 4096) {a : Nat} {x : Int} (ha : a < 2 * m)
    (w1 : -9223372036854775808 ≤ room a - x ∧ room a - x < 9223372036854775808) (w2 : -9223372036854775808 ≤ room (prA a) + x ∧ room (prA a) + x < 9223372036854775808) :
    T Tryz.prog F.maxflow_net_send [.pointer (some (bk bn)), .int .i64 a, .int .i64 x] h fun r h' =>
      r = .ret (.tuple ⟨[]⟩) ∧ Fm [2] own h own h' ∧ Net own h' bn n m fr to s t (sndR room a x) := by
  obtain ⟨vto, vroom, vout, outs, k1, k2, k3, k4, k5⟩ := N.ex
  refine E_maxflow_net_send ?_
  unfold B_maxflow_net_send
  refine ⟨_, k1.ld rfl, k3.rdI ha ?_⟩
  refine k3.setI ha ?_
  intro g2 F2 k3'
  have k1' := k1.fm F2 (by simp)
  refine ⟨_, k1'.ld rfl, ?_⟩
  have hp := prA_lt ha
  rw [xor1 (by omega)]
  refine k3'.rdI hp ?_
  refine k3'.setI hp ?_
  intro g3 F3 k3''
  have F : Fm [2] own h own g3 := F2.trans F3
  refine ⟨rfl, F, vto, vroom, vout, outs, k1.fm F (by simp), k2.fm F (by simp), ?_, k4.fm F (by simp), fun v hv => (k5 v hv).fm F (by simp; omega)⟩
  have e : upd (upd room a (IntKind.i64.wrap (room a - x))) (prA a) (IntKind.i64.wrap (upd room a (IntKind.i64.wrap (room a - x)) (prA a) + x)) = sndR room a x := by
    have e1 : IntKind.i64.wrap (room a - x) = room a - x := w64_in w1.1 w1.2
    have e2 : upd room a (IntKind.i64.wrap (room a - x)) (prA a) = room (prA a) := if_neg (prA_ne a)
    have e3 : IntKind.i64.wrap (room (prA a) + x) = room (prA a) + x := w64_in w2.1 w2.2
    rw [e2, e1, e3]; rfl
  rw [← e]; exact k3''
end

end Go.Proofs.YtjlojokockfapaaGreatDoor

namespace Go.Proofs.YtjlojokockfapaaGreatDoor
open Go
set_option linter.unusedVariables false
set_option linter.unusedSimpArgs false

/-- Rooms at first. -/
def room0 (cap : Nat → Int) (a : Nat) : Int := if a % 2 = 0 then cap (a / 2) else 0
theorem room0_ok {m : Nat} {cap : Nat → Int} (h : ∀ i, i < m → 0 ≤ cap i) : RmP m cap (room0 cap) := by
  refine ⟨fun a ha => ?_, fun i hi => ?_⟩
  · have := h (a / 2) (by omega)
    unfold room0; split <;> omega
  · unfold room0
    rw [if_pos (by omega), if_neg (by omega), show 2 * i / 2 = i by omega]; omega
theorem room0_out {m : Nat} {cap : Nat → Int} {fr to : Nat → Nat} (v : Nat) : OutF m fr to (onR (room0 cap)) v = 0 := by
  refine sumN_zero fun i hi => ?_
  have : onR (room0 cap) i = 0 := by unfold onR room0; rw [if_neg (by omega)]
  rw [this]; split <;> split <;> rfl
theorem ints_snoc2 {i : Nat} {f : Nat → Int} {x y : Int} (hx : f (2 * i) = x) (hy : f (2 * i + 1) = y) : ints (2 * i) f ++ [.int .i64 x, .int .i64 y] = ints (2 * (i + 1)) f := by
  unfold ints
  rw [show 2 * (i + 1) = 2 * i + 1 + 1 by omega, List.range_succ, List.range_succ]
  simp [hx, hy]
theorem natV_append (a b : List Nat) : natV (a ++ b) = natV a ++ natV b := by simp [natV]

section
variable {h : H} {w : List Value} {n m s t : Nat} {es : Nat → Ed}

theorem newNet_T (G : GrA h w n m es) (g : Gd n m es) : T Tryz.prog F.maxflow_newNet [.agg ⟨w⟩, .int .i64 s, .int .i64 t] h fun r h' =>
    ∃ bn own, r = .ret (.pointer (some (bk bn))) ∧ Bs h own h' ∧ Net own h' bn n m (frE es) (toE es) s t (room0 (cpE es)) := by
  have n1 := g.n1
  have m1 := g.m1
  refine E_maxflow_newNet ?_
  unfold B_maxflow_newNet
  refine new_bl ?_
  intro b1 g1 hb1 x1 B
  obtain ⟨a, c, rfl, hc⟩ := G
  refine ⟨_, B.ld rfl, mk_S1 3 (by omega) (by omega) ?_⟩
  intro b4 g4 hb4 x4 S4
  refine new_bl ?_
  intro b6 g6 hb6 x6 B6
  have B1' := (B.ext x4).ext x6
  refine ⟨_, B1'.ld rfl, slcP_mk ?_⟩
  let own0 : Own := fun _ => 0
  let ownB := own1 (own1 (own1 own0 b1 9) b4 3) b6 4
  have bs : Bs h ownB g6 := ((Bs.start.new x1 hb1).new x4 hb4).new x6 hb6
  have e9 : B1 ownB g6 9 b1 [.int .i64 n, .slice a m c] := ((B1.new B).newo x4 hb4).newo x6 hb6
  have s4 : S1 ownB g6 3 (.slice (some (bk b4)) n n) (va n fun _ => .slice none 0 0) := (S4 _).new x6 hb6
  have b6' : B1 ownB g6 4 b6 [.slice none 0 0, .slice none 0 0, .slice (some (bk b4)) n n, .int .i64 s, .int .i64 t] := B1.new B6
  let I : (Int × Unit) → H → Nat → Prop := fun p q k => ∃ (i : Nat) (own : Own) (vto vroom : Value) (outs : Nat → Value), p.1 = i ∧ i ≤ m ∧ k = m - i ∧ Bs h own q ∧
    B1 own q 9 b1 [.int .i64 n, .slice a m c] ∧
    B1 own q 4 b6 [vto, vroom, .slice (some (bk b4)) n n, .int .i64 s, .int .i64 t] ∧ S1 own q 1 vto (ints (2 * i) fun a => (hdA (frE es) (toE es) a : Nat)) ∧
    S1 own q 2 vroom (ints (2 * i) (room0 (cpE es))) ∧ S1 own q 3 (.slice (some (bk b4)) n n) (va n outs) ∧ ∀ v, v < n → S1 own q (20 + v) (outs v) (natV (arcsL (frE es) (toE es) i v))
  refine ⟨fun s g2 => ∃ k, I s g2 k, rk I, rk_wf I, ⟨_, 0, ownB, _, _, _, rfl, by omega, rfl, bs, e9, b6', S1.nil, S1.nil, s4, fun v hv => S1.nil⟩, ?_⟩
  intro p q hI
  obtain ⟨i, own, vto, vroom, outs, e1, hi, hk, bs, k9, k4, k1, k2, k3, k5⟩ := mu_spec hI
  generalize hkk : mu I ((p, ()), q) = k at *
  change p = (i : Int) at e1
  subst e1
  refine ifP_of (fun h1 => ?_) (fun h1 => ?_)
  · have him : i < m := by have := of_decide_eq_true h1; omega
    obtain ⟨ad, rfl, hcc⟩ := hc i him
    have ef := g.fr him
    have et := g.to him
    refine ⟨by omega, by omega, ?_⟩
    rw [Int.toNat_natCast]
    refine ⟨(es i).vs, rfl, fun j v hj => bs.ext.cell (hcc j v hj), ?_⟩
    refine new_bl_st rfl rfl (ed_one _) ?_
    intro b18 g20 hb18 x20 B18
    have bs := bs.new (i := 8) x20 hb18
    have k9 := k9.newo (j := 8) x20 hb18
    have k4 := k4.newo (j := 8) x20 hb18
    have k1 := k1.new (j := 8) x20 hb18
    have k2 := k2.new (j := 8) x20 hb18
    have k3 := k3.new (j := 8) x20 hb18
    have k5 := fun v hv => (k5 v hv).new (j := 8) x20 hb18
    have k8 : B1 (own1 own b18 8) g20 8 b18 (es i).vs := B1.new B18
    generalize own1 own b18 8 = own at *
    refine ⟨_, k4.ld rfl, k1.len (ints_length _ _) fun _ _ => ?_⟩
    refine ⟨_, k4.ld rfl, _, k8.ld rfl, _, k8.ld rfl, ?_⟩
    refine k1.push rfl (by simp [Value.oneCell']) (by simp) (by omega) (by rw [ints_length]; omega) ?_
    intro _ _ vto' own2 g31 _ _ F2 k1'
    refine oneP_slc k1'.isS ?_
    have bs := bs.fm F2 (by simp)
    have k9 := k9.fm F2 (by simp)
    have k8 := k8.fm F2 (by simp)
    have k4 := k4.fm F2 (by simp)
    have k2 := k2.fm F2 (by simp)
    have k3 := k3.fm F2 (by simp)
    have k5 := fun v hv => (k5 v hv).fm F2 (by simp <;> omega)
    refine k4.st (by simp) ?_
    intro g32 F3 k4
    simp only [List.set] at k4
    have bs := bs.fm F3 (by simp)
    have k9 := k9.fm F3 (by simp)
    have k8 := k8.fm F3 (by simp)
    have k1 := k1'.fm F3 (by simp)
    have k2 := k2.fm F3 (by simp)
    have k3 := k3.fm F3 (by simp)
    have k5 := fun v hv => (k5 v hv).fm F3 (by simp <;> omega)
    rw [ef.1, et.1, ints_snoc2 (by unfold hdA; rw [if_pos (by omega), show 2 * i / 2 = i by omega]) (by unfold hdA; rw [if_neg (by omega), show (2 * i + 1) / 2 = i by omega])] at k1
    refine ⟨_, k4.ld rfl, _, k8.ld rfl, ?_⟩
    refine k2.push rfl (by simp [Value.oneCell']) (by simp) (by omega) (by rw [ints_length]; omega) ?_
    intro _ _ vroom' own3 g38 _ _ F4 k2'
    refine oneP_slc k2'.isS ?_
    have bs := bs.fm F4 (by simp)
    have k9 := k9.fm F4 (by simp)
    have k8 := k8.fm F4 (by simp)
    have k4 := k4.fm F4 (by simp)
    have k1 := k1.fm F4 (by simp)
    have k3 := k3.fm F4 (by simp)
    have k5 := fun v hv => (k5 v hv).fm F4 (by simp <;> omega)
    refine k4.st (by simp) ?_
    intro g39 F5 k4
    simp only [List.set] at k4
    have bs := bs.fm F5 (by simp)
    have k9 := k9.fm F5 (by simp)
    have k8 := k8.fm F5 (by simp)
    have k1 := k1.fm F5 (by simp)
    have k2 := k2'.fm F5 (by simp)
    have k3 := k3.fm F5 (by simp)
    have k5 := fun v hv => (k5 v hv).fm F5 (by simp <;> omega)
    rw [ints_snoc2 (by unfold room0; rw [if_pos (by omega), show 2 * i / 2 = i by omega]) (by unfold room0; rw [if_neg (by omega)])] at k2
    refine ⟨_, k4.ld rfl, _, k8.ld rfl, _, k4.ld rfl, _, k8.ld rfl, ?_⟩
    rw [ef.1]
    refine k3.rdV ef.2 ?_
    have lf := arcsL_length (fr := frE es) (to := toE es) (v := frE es i) (i := i)
    refine (k5 _ ef.2).push rfl (by simp [Value.oneCell']) (by simp) (by omega) (by rw [natV_length]; omega) ?_
    intro _ g47 so own4 g49 _ x47 F6 ko
    have bs := bs.fm F6 (by simp <;> omega)
    have k9 := k9.fm F6 (by simp <;> omega)
    have k8' := k8.fm F6 (by simp <;> omega)
    have k4' := k4.fm F6 (by simp <;> omega)
    have k1 := k1.fm F6 (by simp <;> omega)
    have k2 := k2.fm F6 (by simp <;> omega)
    have k3 := k3.fm F6 (by simp <;> omega)
    have k5 := fun v hv (hne : v ≠ frE es i) => (k5 v hv).fm F6 (by simp <;> omega)
    refine ⟨sameAt_b1 (k8.ext x47) k8', sameAt_b1 (k4.ext x47) k4', ?_⟩
    refine k3.setO ef.2 ko.isS ?_
    intro g51 F7 k3
    have k8 := k8'
    have k4 := k4'
    have bs := bs.fm F7 (by simp <;> omega)
    have k9 := k9.fm F7 (by simp <;> omega)
    have k8 := k8.fm F7 (by simp <;> omega)
    have k4 := k4.fm F7 (by simp <;> omega)
    have k1 := k1.fm F7 (by simp <;> omega)
    have k2 := k2.fm F7 (by simp <;> omega)
    have ko := ko.fm F7 (by simp <;> omega)
    have k5' : ∀ v, v < n → S1 own4 g51 (20 + v) (updV outs (frE es i) so v) (natV (arcsL (frE es) (toE es) i v ++ (if frE es i = v then [2 * i] else []))) := by
      intro v hv
      unfold updV
      by_cases e : v = frE es i
      · rw [if_pos e, if_pos e.symm, natV_append, e]; exact ko
      · rw [if_neg e, if_neg (fun h => e h.symm), List.append_nil]
        exact ((k5 v hv e).fm F7 (by simp <;> omega))
    clear k5
    have k5 := k5'
    clear k5'
    refine ⟨_, k4.ld rfl, _, k8.ld rfl, _, k4.ld rfl, _, k8.ld rfl, ?_⟩
    rw [et.1]
    refine k3.rdV et.2 ?_
    have lf := arcsL_length (fr := frE es) (to := toE es) (v := toE es i) (i := i)
    refine (k5 _ et.2).push rfl (by simp [Value.oneCell']) (by simp) (by omega) (by rw [natV_length, List.length_append]; split <;> simp <;> omega) ?_
    intro _ g59 so2 own5 g61 _ x59 F8 ko
    have k8' := k8
    have k4' := k4
    have bs := bs.fm F8 (by simp <;> omega)
    have k9 := k9.fm F8 (by simp <;> omega)
    have k8' := k8'.fm F8 (by simp <;> omega)
    have k4' := k4'.fm F8 (by simp <;> omega)
    have k1 := k1.fm F8 (by simp <;> omega)
    have k2 := k2.fm F8 (by simp <;> omega)
    have k3 := k3.fm F8 (by simp <;> omega)
    have k5 := fun v hv (hne : v ≠ toE es i) => (k5 v hv).fm F8 (by simp <;> omega)
    refine ⟨sameAt_b1 (k8.ext x59) k8', sameAt_b1 (k4.ext x59) k4', ?_⟩
    refine k3.setO et.2 ko.isS ?_
    intro g63 F9 k3
    have bs := bs.fm F9 (by simp <;> omega)
    have k9 := k9.fm F9 (by simp <;> omega)
    have k4' := k4'.fm F9 (by simp <;> omega)
    have k1 := k1.fm F9 (by simp <;> omega)
    have k2 := k2.fm F9 (by simp <;> omega)
    have ko := ko.fm F9 (by simp <;> omega)
    rw [i64_inc (by omega)]
    refine mu_next (I := I) (k := m - (i + 1)) ⟨i + 1, own5, vto', vroom', _, rfl, him, rfl, bs, k9, k4', k1, k2, k3, ?_⟩ (by rw [hkk, hk]; omega)
    intro v hv
    unfold updV arcsL
    rw [← List.append_assoc, natV_append]
    by_cases e : v = toE es i
    · rw [if_pos e, if_pos e.symm, e]
      have e2 : natV [2 * i + 1] = [.int .i64 (IntKind.i64.wrap (((2 * i : Nat) : Int) + 1))] := by rw [i64_inc (by omega)]; rfl
      rw [e2]; exact ko
    · rw [if_neg e, if_neg (c := toE es i = v) (fun h => e h.symm)]
      have := (k5 v hv e).fm F9 (by simp <;> omega)
      simpa [natV, updV] using this
  · have : i = m := by have := of_decide_eq_false h1; omega
    subst this
    exact ⟨b6, own, rfl, bs, vto, vroom, _, outs, k4, k1, k2, k3, k5⟩
end

end Go.Proofs.YtjlojokockfapaaGreatDoor

namespace Go.Proofs.YtjlojokockfapaaGreatDoor
open Go
set_option linter.unusedVariables false
set_option linter.unusedSimpArgs false

/-- A step along an arc with room. -/
def ArS (m : Nat) (fr to : Nat → Nat) (room : Nat → Int) (u v : Nat) : Prop := ∃ a, a < 2 * m ∧ tlA fr to a = u ∧ hdA fr to a = v ∧ 0 < room a
/-- What levels tells. -/
structure LevP (n m : Nat) (fr to : Nat → Nat) (room : Nat → Int) (s : Nat) (lev : Nat → Int) : Prop where
  src : lev s = 0
  bd : ∀ v, v < n → -1 ≤ lev v ∧ lev v < n
  pred : ∀ v, v < n → 0 < lev v → ∃ a, a < 2 * m ∧ hdA fr to a = v ∧ 0 < room a ∧ lev (tlA fr to a) = lev v - 1
  cl : ∀ a, a < 2 * m → 0 < room a → 0 ≤ lev (tlA fr to a) → 0 ≤ lev (hdA fr to a)
  one : ∀ v, v < n → lev v = 0 → v = s
theorem LevP.iff {n m : Nat} {fr to : Nat → Nat} {room : Nat → Int} {s : Nat} {lev : Nat → Int} (L : LevP n m fr to room s lev)
    (hn : ∀ i, i < m → fr i < n ∧ to i < n) {v : Nat} (hv : v < n) : 0 ≤ lev v ↔ Rch (ArS m fr to room) s v := by
  constructor
  · have key : ∀ k : Nat, ∀ v, v < n → lev v = k → Rch (ArS m fr to room) s v := by
      intro k
      induction k with
      | zero => intro v hv e; rw [L.one v hv e]; exact .refl
      | succ k ih =>
        intro v hv e
        obtain ⟨a, ha, h1, h2, h3⟩ := L.pred v hv (by omega)
        exact (ih (tlA fr to a) (tl_lt hn ha) (by omega)).step ⟨a, ha, rfl, h1, h2⟩
    intro h
    exact key (lev v).toNat v hv (by omega)
  · intro r
    refine (r.closed (C := fun v => v < n → 0 ≤ lev v) (fun _ => by rw [L.src]; omega) ?_) hv
    rintro u w hu ⟨a, ha, rfl, rfl, hr⟩ _
    exact L.cl a ha hr (hu (tl_lt hn ha))

/-- Loops over 0 .. n-1 that set all. -/
theorem upd_lt {f : Nat → Int} {i : Nat} {x : Int} : (fun v => if v < i + 1 then x else f v) = upd (fun v => if v < i then x else f v) i x := by
  funext v
  unfold upd
  by_cases h1 : v = i
  · rw [if_pos h1, if_pos (by omega)]
  · rw [if_neg h1]
    show _ = if v < i then x else f v
    by_cases h2 : v < i
    · rw [if_pos h2, if_pos (by omega)]
    · rw [if_neg h2, if_neg (by omega)]
def cntN (n : Nat) (lev : Nat → Int) : Int := sumN n fun v => if lev v < 0 then 1 else 0
theorem cntN_upd {n w : Nat} {lev : Nat → Int} {x : Int} (hw : w < n) (h : lev w < 0) (hx : 0 ≤ x) : cntN n (upd lev w x) = cntN n lev - 1 := by
  unfold cntN
  have e : (fun v => if upd lev w x v < 0 then (1 : Int) else 0) = upd (fun v => if lev v < 0 then 1 else 0) w 0 := by
    funext v
    unfold upd
    by_cases h1 : v = w
    · rw [if_pos h1, if_pos h1, if_neg (by omega)]
    · rw [if_neg h1, if_neg h1]
  rw [e, sumN_upd hw, if_pos h]; omega
theorem cntN_nn {n : Nat} {lev : Nat → Int} : 0 ≤ cntN n lev := sumN_nonneg fun i _ => by split <;> omega

/-- The queue holds all that have a level; those before i are done. -/
structure LvI (n m : Nat) (fr to : Nat → Nat) (room : Nat → Int) (s i : Nat) (Q : List Nat) (lev : Nat → Int) : Prop where
  src : lev s = 0
  lo : ∀ v, v < n → -1 ≤ lev v
  up : ∀ v, v < n → lev v < Q.length
  mem : ∀ v, v ∈ Q → v < n ∧ 0 ≤ lev v
  all : ∀ v, v < n → 0 ≤ lev v → v ∈ Q
  cnt : (Q.length : Int) + cntN n lev = n
  pred : ∀ v, v < n → 0 < lev v → ∃ a, a < 2 * m ∧ hdA fr to a = v ∧ 0 < room a ∧ lev (tlA fr to a) = lev v - 1
  one : ∀ v, v < n → lev v = 0 → v = s
  done : ∀ k, k < i → ∀ hk : k < Q.length, ∀ a, a < 2 * m → tlA fr to a = Q[k] → 0 < room a → 0 ≤ lev (hdA fr to a)
section
variable {n m i : Nat} {fr to : Nat → Nat} {room : Nat → Int} {s w : Nat} {Q : List Nat} {lev : Nat → Int}
theorem LvI.next (L : LvI n m fr to room s i Q lev) (hn : ∀ i, i < m → fr i < n ∧ to i < n) {a : Nat} (hi : i < Q.length) (ha : a < 2 * m) (ht : tlA fr to a = Q[i]) (hr : 0 < room a) (hl : lev (hdA fr to a) < 0) :
    LvI n m fr to room s i (Q ++ [hdA fr to a]) (upd lev (hdA fr to a) (lev Q[i] + 1)) := by
  have hw := hd_lt hn ha
  have hq := L.mem _ (List.getElem_mem hi)
  have hqb := L.up _ hq.1
  have ne : Q[i] ≠ hdA fr to a := by intro e; rw [e] at hq; omega
  have keep : ∀ v, 0 ≤ lev v → upd lev (hdA fr to a) (lev Q[i] + 1) v = lev v := by
    intro v hv
    unfold upd
    rw [if_neg]
    rintro rfl; omega
  have at_ : upd lev (hdA fr to a) (lev Q[i] + 1) (hdA fr to a) = lev Q[i] + 1 := if_pos rfl
  have grow : ∀ v, 0 ≤ lev v → 0 ≤ upd lev (hdA fr to a) (lev Q[i] + 1) v := fun v hv => by rw [keep v hv]; exact hv
  refine ⟨?_, ?_, ?_, ?_, ?_, ?_, ?_, ?_, ?_⟩
  · rw [keep _ (by rw [L.src]; omega)]; exact L.src
  · intro v hv
    have := L.lo v hv
    unfold upd; split <;> omega
  · intro v hv
    have := L.up v hv
    rw [List.length_append]
    unfold upd; split <;> simp <;> omega
  · intro v hv
    rcases List.mem_append.1 hv with h | h
    · exact ⟨(L.mem v h).1, grow v (L.mem v h).2⟩
    · have : v = hdA fr to a := by simpa using h
      subst this
      exact ⟨hw, by rw [at_]; omega⟩
  · intro v hv h
    rw [List.mem_append]
    by_cases e : v = hdA fr to a
    · exact .inr (by simp [e])
    · refine .inl (L.all v hv ?_)
      unfold upd at h
      rwa [if_neg e] at h
  · rw [cntN_upd hw hl (by omega), List.length_append]
    have := L.cnt
    simp; omega
  · intro v hv h
    by_cases e : v = hdA fr to a
    · subst e
      refine ⟨a, ha, rfl, hr, ?_⟩
      rw [at_, ht, keep _ hq.2]; omega
    · have h' : upd lev (hdA fr to a) (lev Q[i] + 1) v = lev v := if_neg e
      rw [h'] at h ⊢
      obtain ⟨b, hb, h1, h2, h3⟩ := L.pred v hv h
      exact ⟨b, hb, h1, h2, by rw [keep _ (by omega)]; exact h3⟩
  · intro v hv h
    by_cases e : v = hdA fr to a
    · subst e; rw [at_] at h; omega
    · have h' : upd lev (hdA fr to a) (lev Q[i] + 1) v = lev v := if_neg e
      rw [h'] at h; exact L.one v hv h
  · intro k hk hk2 b hb h1 h2
    have hkq : k < Q.length := by omega
    rw [List.getElem_append_left hkq] at h1
    exact grow _ (L.done k hk hkq b hb h1 h2)
end

section
variable {own : Own} {h : H} {bn n m s t : Nat} {fr to : Nat → Nat} {room : Nat → Int}
theorem levels_T (N : Net own h bn n m fr to s t room) (hn : ∀ i, i < m → fr i < n ∧ to i < n) (n1 : n ≤ 1024) (m1 : m ≤ 4096) {v0 : Nat} (hv : v0 < n) :
    T Tryz.prog F.maxflow_net_levels [.pointer (some (bk bn)), .int .i64 v0] h fun r h' => Ext h h' ∧ ∃ b lev, r = .ret (.slice (some (bk b)) n n) ∧ h b = none ∧
      Sl h' b (.slice (some (bk b)) n n) (ints n lev) ∧ LevP n m fr to room v0 lev := by
  have N0 := N
  obtain ⟨vto, vroom, vout, outs, k4, k1, k2, k3, k5⟩ := N.ex
  refine E_maxflow_net_levels ?_
  unfold B_maxflow_net_levels
  refine ⟨_, k4.ld rfl, k3.len (va_length _ _) fun _ _ => ?_⟩
  refine mk_ints 6 (by omega) (by omega) ?_
  intro b6 g6 hb6 x6 S6
  have toN : ((n : Nat) : Int).toNat = n := Int.toNat_natCast n
  rw [toN]
  let ownB := own1 (fun _ => 0) b6 6
  have bs : Bs h ownB g6 := Bs.start.new x6 hb6
  -- all are -1
  let I0 : (Int × Unit) → H → Nat → Prop := fun p q k => ∃ i : Nat, p.1 = i ∧ i ≤ n ∧ k = n - i ∧ Bs h ownB q ∧ S1 ownB q 6 (.slice (some (bk b6)) n n) (ints n fun v => if v < i then -1 else 0)
  refine ⟨fun p q => ∃ k, I0 p q k, rk I0, rk_wf I0, ⟨_, 0, rfl, by omega, rfl, bs, by simpa using S6 _⟩, ?_⟩
  clear bs
  intro p q hI
  obtain ⟨i, e1, hi, hk, bs, k6⟩ := mu_spec hI
  generalize hkk : mu I0 ((p, ()), q) = k at *
  change p = (i : Int) at e1
  subst e1
  refine ifP_of (fun h1 => ?_) (fun h1 => ?_)
  · have him : i < n := by have := of_decide_eq_true h1; omega
    refine k6.setI him ?_
    intro g F k6
    have bs := bs.fm F (by simp <;> omega)
    rw [i64_inc (by omega)]
    exact mu_next (I := I0) (k := n - (i + 1)) ⟨i + 1, rfl, him, rfl, bs, by rw [upd_lt]; exact k6⟩ (by rw [hkk, hk]; omega)
  have : i = n := by have := of_decide_eq_false h1; omega
  subst this
  clear hI hkk hk k h1
  -- the start
  refine k6.setI hv ?_
  intro g15 F k6
  have bs := bs.fm F (by simp <;> omega)
  clear F
  refine new_bl ?_
  intro b16 g17 hb16 x17 B16
  have bs := bs.nw (j := 7) x17 hb16
  have k6 := k6.nw (j := 7) x17 hb16
  have k7 : S1 (own1 ownB b16 7) g17 7 (.slice (some (bk b16)) 1 1) (natV [v0]) := .inr ⟨b16, own1_at, 1, B16.choose, [], rfl, B16.choose_spec, rfl⟩
  generalize own1 ownB b16 7 = own2 at *
  clear hb16 x17 B16 S6
  let I : (Value × Int × Unit) → H → Nat → Prop := fun p q k => ∃ (j : Nat) (Q : List Nat) (lev : Nat → Int) (own3 : Own), p.2.1 = j ∧ j ≤ Q.length ∧ k = i - j ∧ Bs h own3 q ∧
    S1 own3 q 7 p.1 (natV Q) ∧ S1 own3 q 6 (.slice (some (bk b6)) i i) (ints i lev) ∧ LvI i m fr to room v0 j Q lev
  refine ⟨fun p q => ∃ k, I p q k, rk I, rk_wf I, ⟨_, 0, [v0], _, own2, rfl, by simp, rfl, bs, k7, k6, ?_⟩, ?_⟩
  · refine ⟨if_pos rfl, ?_, ?_, ?_, ?_, ?_, ?_, ?_, fun k hk => absurd hk (by omega)⟩
    · intro v hv; unfold upd; split <;> simp [hv]
    · intro v hv; unfold upd; split <;> simp [hv]
    · intro v hv
      rw [List.mem_singleton] at hv
      subst hv
      exact ⟨by assumption, by unfold upd; rw [if_pos rfl]; omega⟩
    · intro v hv h
      unfold upd at h
      by_cases e : v = v0
      · simp [e]
      · rw [if_neg e] at h; simp [hv] at h
    · rw [cntN_upd hv (by simp [hv]) (by omega)]
      have : cntN i (fun v => if v < i then -1 else 0) = i := by
        unfold cntN
        have : sumN i (fun v => if (if v < i then (-1 : Int) else 0) < 0 then (1 : Int) else 0) = sumN i fun _ => 1 := sumN_congr fun v hv => by simp [hv]
        rw [this, sumN_const]; omega
      rw [this]; simp; omega
    · intro v hv h
      unfold upd at h
      by_cases e : v = v0
      · simp [e] at h
      · rw [if_neg e] at h; simp [hv] at h
    · intro v hv h
      unfold upd at h
      by_cases e : v = v0
      · exact e
      · rw [if_neg e] at h; simp [hv] at h
  clear bs k6 k7 own2
  intro qv p q hI
  obtain ⟨j, Q, lev, own2, e1, hj, hk, bs, k7, k6, L⟩ := mu_spec hI
  generalize hkk : mu I ((qv, p, ()), q) = k at *
  change p = (j : Int) at e1
  subst e1
  change S1 own2 q 7 qv (natV Q) at k7
  refine k7.len (natV_length _) fun _ _ => ifP_of (fun h1 => ?_) (fun h1 => ?_)
  · have hjq : j < Q.length := by have := of_decide_eq_true h1; omega
    have hqj := L.mem _ (List.getElem_mem hjq)
    have hju := L.cnt
    have hjn := cntN_nn (n := i) (lev := lev)
    generalize hv1 : Q[j] = v1 at hqj
    refine ptrP_mk (k7.at (natV_get hjq) fun aq eq => ?_)
    refine ⟨_, (k4.ext bs.ext).ld rfl, _, eq, ?_⟩
    refine (k3.ext bs.ext).rdV (hv1 ▸ hqj.1) ?_
    rw [hv1]
    have k5q := k5 _ hqj.1
    refine k5q.len (natV_length _) fun _ _ => ?_
    let I35 : (Value × Int × Unit) → H → Nat → Prop := fun p q k => ∃ (l : Nat) (Q : List Nat) (lev : Nat → Int) (own3 : Own) (hjq : j < Q.length), p.2.1 = l ∧ l ≤ (arcsL fr to m Q[j]).length ∧ k = (arcsL fr to m Q[j]).length - l ∧ Bs h own3 q ∧
      S1 own3 q 7 p.1 (natV Q) ∧ S1 own3 q 6 (.slice (some (bk b6)) i i) (ints i lev) ∧ LvI i m fr to room v0 j Q lev ∧ Q[j] = v1 ∧
      (∀ l', l' < l → ∀ hl : l' < (arcsL fr to m Q[j]).length, 0 < room (arcsL fr to m Q[j])[l'] → 0 ≤ lev (hdA fr to (arcsL fr to m Q[j])[l']))
    refine ⟨fun p q => ∃ k, I35 p q k, rk I35, rk_wf I35, ⟨_, 0, Q, lev, own2, hjq, rfl, by omega, rfl, bs, k7, k6, L, hv1, fun l' hl' => absurd hl' (by omega)⟩, ?_⟩
    clear bs k6 k7 own2 L hqj eq aq
    intro qv2 p q2 hI2
    obtain ⟨l, Q2, lev2, own2, hjq2, e1, hl, hkm, bs, k7, k6, L, hv2, hdn⟩ := mu_spec hI2
    generalize hkk2 : mu I35 ((qv2, p, ()), q2) = km at *
    change p = (l : Int) at e1
    subst e1
    change S1 own2 q2 7 qv2 (natV Q2) at k7
    have hqj := L.mem _ (List.getElem_mem hjq2)
    have hqu := L.up _ hqj.1
    have hcnt := L.cnt
    have hcnn := cntN_nn (n := i) (lev := lev2)
    rw [hv2] at hl hkm hdn hqj hqu
    refine ifP_of (fun h2 => ?_) (fun h2 => ?_)
    · have hla : l < (arcsL fr to m v1).length := by have := of_decide_eq_true h2; omega
      have ha := mem_arcsL.1 (List.getElem_mem hla)
      generalize haa : (arcsL fr to m v1)[l] = a at ha
      have hw := hd_lt hn ha.1
      refine (k5q.ext bs.ext).rd (natV_get hla) ?_
      rw [haa]
      refine ⟨_, (k4.ext bs.ext).ld rfl, (k1.ext bs.ext).rdI ha.1 ?_⟩
      refine ⟨_, (k4.ext bs.ext).ld rfl, (k2.ext bs.ext).rdI ha.1 ?_⟩
      have go : ∀ {qv3 : Value} {q3 : H} {own3 : Own} {Q3 : List Nat} {lev3 : Nat → Int} (hjq3 : j < Q3.length), Bs h own3 q3 → S1 own3 q3 7 qv3 (natV Q3) → S1 own3 q3 6 (.slice (some (bk b6)) i i) (ints i lev3) →
          LvI i m fr to room v0 j Q3 lev3 → Q3[j] = v1 → (∀ v, 0 ≤ lev2 v → 0 ≤ lev3 v) → (0 < room a → 0 ≤ lev3 (hdA fr to a)) →
          (∃ k, I35 (qv3, IntKind.i64.wrap ((l : Int) + 1), ()) q3 k) ∧ rk I35 ((qv3, IntKind.i64.wrap ((l : Int) + 1), ()), q3) ((qv2, l, ()), q2) := by
        intro qv3 q3 own3 Q3 lev3 hjq3 bs k7 k6 L h3 hm hd
        have := arcsL_length (fr := fr) (to := to) (v := v1) (i := m)
        rw [i64_inc (by omega)]
        refine mu_next (I := I35) (k := (arcsL fr to m v1).length - (l + 1)) ⟨l + 1, Q3, lev3, own3, hjq3, rfl, by rw [h3]; omega, by rw [h3], bs, k7, k6, L, h3, ?_⟩ (by rw [hkk2, hkm]; omega)
        rw [h3]
        intro l' hl' hl2 hr
        by_cases e : l' = l
        · subst e; rw [haa] at hr ⊢; exact hd hr
        · exact hm _ (hdn l' (by omega) hl2 hr)
      refine ifP_of (fun h3 => ?_) (fun h3 => go hjq2 bs k7 k6 L hv2 (fun _ h => h) (fun h => absurd h (of_decide_eq_false h3)))
      have hr := of_decide_eq_true h3
      refine k6.rdI hw ?_
      refine ifP_of (fun h4 => ?_) (fun h4 => go hjq2 bs k7 k6 L hv2 (fun _ h => h) (fun _ => by have := of_decide_eq_false h4; omega))
      have hneg := of_decide_eq_true h4
      refine k7.rd (natV_get hjq2) ?_
      rw [hv2]
      refine k6.rdI hqj.1 ?_
      have ew : IntKind.i64.wrap (lev2 v1 + 1) = lev2 v1 + 1 := w64_in (by omega) (by omega)
      rw [ew]
      refine k6.setI hw ?_
      intro g57 F k6
      have bs := bs.fm F (by simp <;> omega)
      have k7 := k7.fm F (by simp <;> omega)
      refine k7.push rfl (by simp [Value.oneCell']) (by simp) (by omega) (by rw [natV_length]; omega) ?_
      intro _ _ qv3 own3 g61 _ _ F k7
      have bs := bs.fm F (by simp <;> omega)
      have k6 := k6.fm F (by simp <;> omega)
      have e2 : natV Q2 ++ [Value.int .i64 ((hdA fr to a : Nat) : Int)] = natV (Q2 ++ [hdA fr to a]) := by simp [natV]
      rw [e2] at k7
      have Ln := L.next hn hjq2 ha.1 (by rw [hv2]; exact ha.2) hr hneg
      rw [hv2] at Ln
      refine go (by rw [List.length_append]; omega) bs k7 k6 Ln (by rw [List.getElem_append_left hjq2]; exact hv2) (fun v hv => ?_) (fun _ => by unfold upd; rw [if_pos rfl]; omega)
      unfold upd; split
      · omega
      · exact hv
    · have hla : l = (arcsL fr to m v1).length := by have := of_decide_eq_false h2; omega
      subst hla
      rw [i64_inc (by omega)]
      refine mu_next (I := I) (k := i - (j + 1)) ⟨j + 1, Q2, lev2, own2, rfl, hjq2, rfl, bs, k7, k6, ?_⟩ (by rw [hkk, hk]; omega)
      refine ⟨L.src, L.lo, L.up, L.mem, L.all, L.cnt, L.pred, L.one, ?_⟩
      intro k' hk' hk2' a ha ht hr
      by_cases e : k' = j
      · subst e
        have hm : a ∈ arcsL fr to m v1 := mem_arcsL.2 ⟨ha, by rw [ht]; exact hv2⟩
        obtain ⟨l', hl', e2⟩ := List.getElem_of_mem hm
        have := hdn l' hl' hl' (by rw [e2]; exact hr)
        rwa [e2] at this
      · exact L.done k' (by omega) hk2' a ha ht hr
  · have hjq : j = Q.length := by have := of_decide_eq_false h1; omega
    subst hjq
    refine ⟨bs.ext, b6, lev, rfl, hb6, k6.sl.1, ?_⟩
    refine ⟨L.src, fun v hv => ⟨L.lo v hv, ?_⟩, L.pred, ?_, L.one⟩
    · have := L.up v hv
      have := L.cnt
      have := cntN_nn (n := i) (lev := lev)
      omega
    · intro a ha hr hl
      obtain ⟨k, hk, e⟩ := List.getElem_of_mem (L.all _ (tl_lt hn ha) hl)
      exact L.done k hk hk a ha e.symm hr
end

end Go.Proofs.YtjlojokockfapaaGreatDoor

namespace Go.Proofs.YtjlojokockfapaaGreatDoor
open Go
set_option linter.unusedVariables false
set_option linter.unusedSimpArgs false

/-- dinic in the heap: owners 5 (the struct), 6 (level), 7 (next). -/
structure Dn (own : Own) (h : H) (bd bn n m : Nat) (fr to : Nat → Nat) (s t : Nat) (room lev nxt : Nat → Int) : Prop where
  net : Net own h bn n m fr to s t room
  ex : ∃ vl vn, B1 own h 5 bd [.pointer (some (bk bn)), vl, vn] ∧ S1 own h 6 vl (ints n lev) ∧ S1 own h 7 vn (ints n nxt)
/-- Skipped arcs that could be gone lead to nodes that are done with. -/
def DdP (n m : Nat) (fr to : Nat → Nat) (t : Nat) (lev room nxt : Nat → Int) : Prop :=
  ∀ u, u < n → ∀ a ∈ (arcsL fr to m u).take (nxt u).toNat, 0 < room a → lev (hdA fr to a) = lev u + 1 → hdA fr to a ≠ t ∧ nxt (hdA fr to a) = (arcsL fr to m (hdA fr to a)).length
structure AlR (n m : Nat) (fr to : Nat → Nat) (cap : Nat → Int) (t : Nat) (lev room nxt room' nxt' : Nat → Int) (v : Nat) (x : Int) : Prop where
  rm : RmP m cap room'
  out : ∀ u, OutF m fr to (onR room') u = OutF m fr to (onR room) u + (if v = u then x else 0) - (if t = u then x else 0)
  ch : ∀ a, a < 2 * m → room' a ≠ room a → (lev v ≤ lev (tlA fr to a) ∧ lev (hdA fr to a) = lev (tlA fr to a) + 1) ∨ (lev v ≤ lev (hdA fr to a) ∧ lev (tlA fr to a) = lev (hdA fr to a) + 1)
  nb : ∀ u, u < n → nxt u ≤ nxt' u ∧ nxt' u ≤ (arcsL fr to m u).length
  nl : ∀ u, u < n → lev u < lev v → nxt' u = nxt u
  z : x = 0 → room' = room ∧ (DdP n m fr to t lev room nxt → DdP n m fr to t lev room nxt')

section
variable {own : Own} {h : H} {bd bn n m s t : Nat} {fr to : Nat → Nat} {cap room lev nxt : Nat → Int}
theorem AlR.refl (R : RmP m cap room) (hb : ∀ u, u < n → 0 ≤ nxt u ∧ nxt u ≤ (arcsL fr to m u).length) (v : Nat) (x : Int) (hx : x = 0 ∨ v = t) :
    AlR n m fr to cap t lev room nxt room nxt v x := by
  refine ⟨R, fun u => ?_, fun a _ h => absurd rfl h, fun u hu => ⟨Int.le_refl _, (hb u hu).2⟩, fun _ _ _ => rfl, fun _ => ⟨rfl, id⟩⟩
  rcases hx with rfl | rfl
  · split <;> split <;> omega
  · omega

theorem along_T (hc : ∀ i, i < m → cap i ≤ 1048576) (hn : ∀ i, i < m → fr i < n ∧ to i < n) (m1 : m ≤ 4096)
    (hl : ∀ u, u < n → -1 ≤ lev u ∧ lev u < n) (n1 : n ≤ 1024) : ∀ (k : Nat) (own : Own) (h : H) (room nxt : Nat → Int) (v : Nat) (most : Int), v < n → n - lev v ≤ k → Dn own h bd bn n m fr to s t room lev nxt →
    RmP m cap room → (∀ u, u < n → 0 ≤ nxt u ∧ nxt u ≤ (arcsL fr to m u).length) → 0 ≤ most → most ≤ 4611686018427387904 →
    T Tryz.prog F.maxflow_dinic_along [.pointer (some (bk bd)), .int .i64 v, .int .i64 most] h fun r h' => ∃ x room' nxt', r = .ret (.int .i64 x) ∧ Fm [2, 7] own h own h' ∧
      Dn own h' bd bn n m fr to s t room' lev nxt' ∧ AlR n m fr to cap t lev room nxt room' nxt' v x ∧ 0 ≤ x ∧ x ≤ most ∧ (x = 0 → most ≠ 0 → v ≠ t ∧ nxt' v = (arcsL fr to m v).length) := by
  intro k
  induction k with
  | zero => intro own h room nxt v most hv hk; have := hl v hv; omega
  | succ k ih =>
    intro own h room nxt v most hv hk D R hb hm0 hm1
    have D0 := D
    refine E_maxflow_dinic_along ?_
    unfold B_maxflow_dinic_along
    obtain ⟨vl, vn, k5, k6, k7⟩ := D.ex
    obtain ⟨vto, vroom, vout, outs, k4, k1, k2, k3, ka⟩ := D.net.ex
    refine ⟨_, k5.ld rfl, _, k4.ld rfl, ifP_of (fun h1 => ?_) (fun h1 => ?_)⟩
    · have : v = t := by have := of_decide_eq_true h1; omega
      subst this
      refine ⟨most, room, nxt, rfl, Fm.refl, D0, AlR.refl R hb _ _ (.inr rfl), hm0, Int.le_refl _, fun h h' => absurd h h'⟩
    have hvt : v ≠ t := by have := of_decide_eq_false h1; omega
    refine ifP_of (fun h2 => ?_) (fun h2 => ?_)
    · have h2 := of_decide_eq_true h2
      subst h2
      exact ⟨0, room, nxt, rfl, Fm.refl, D0, AlR.refl R hb _ _ (.inl rfl), Int.le_refl _, Int.le_refl _, fun _ h => absurd rfl h⟩
    have hmn := of_decide_eq_false h2
    clear k5 k6 k7 k4 k1 k2 k3 ka h1 h2 D
    let I : (Int × Unit) → H → Nat → Prop := fun p q k => ∃ room7 nxt7, Fm [2, 7] own h own q ∧ Dn own q bd bn n m fr to s t room7 lev nxt7 ∧ AlR n m fr to cap t lev room nxt room7 nxt7 v p.1 ∧
      0 ≤ p.1 ∧ p.1 < most ∧ (k : Int) = (arcsL fr to m v).length - nxt7 v
    refine ⟨fun p q => ∃ k, I p q k, rk I, rk_wf I, ⟨((arcsL fr to m v).length - nxt v).toNat, room, nxt, Fm.refl, D0, AlR.refl R hb _ _ (.inl rfl), Int.le_refl _, by show 0 < most; omega, by have := hb v hv; omega⟩, ?_⟩
    intro sent q hI
    obtain ⟨room7, nxt7, F, D, A, hs0, hs1, hkm⟩ := mu_spec hI
    generalize hkk : mu I ((sent, ()), q) = km at *
    change 0 ≤ sent at hs0
    change sent < most at hs1
    change AlR n m fr to cap t lev room nxt room7 nxt7 v sent at A
    obtain ⟨vl, vn, k5, k6, k7⟩ := D.ex
    obtain ⟨vto, vroom, vout, outs, k4, k1, k2, k3, ka⟩ := D.net.ex
    have hb7 : ∀ u, u < n → 0 ≤ nxt7 u ∧ nxt7 u ≤ (arcsL fr to m u).length := fun u hu => ⟨Int.le_trans (hb u hu).1 (A.nb u hu).1, (A.nb u hu).2⟩
    obtain ⟨l, hl7⟩ : ∃ l : Nat, nxt7 v = l := ⟨(nxt7 v).toNat, by have := hb7 v hv; omega⟩
    have hlen := arcsL_length (fr := fr) (to := to) (v := v) (i := m)
    refine ⟨_, k5.ld rfl, k7.rdI hv ?_⟩
    refine ⟨_, k5.ld rfl, _, k4.ld rfl, k3.rdV hv ?_⟩
    refine (ka v hv).len (natV_length _) fun _ _ => ?_
    rw [hl7]
    refine ifP_of (fun h1 => ?_) (fun h1 => ?_)
    · have hla : l < (arcsL fr to m v).length := by have := of_decide_eq_true h1; omega
      have ha := mem_arcsL.1 (List.getElem_mem hla)
      generalize haa : (arcsL fr to m v)[l] = a at ha
      have hw := hd_lt hn ha.1
      let J : (Int × Unit) → H → Prop := fun p q => ∃ room7 nxt7, Fm [2, 7] own h own q ∧ Dn own q bd bn n m fr to s t room7 lev nxt7 ∧ AlR n m fr to cap t lev room nxt room7 nxt7 v p.1 ∧
        0 ≤ p.1 ∧ p.1 < most ∧ nxt7 v = l ∧ (p.1 = 0 → 0 < room7 a → lev (hdA fr to a) = lev v + 1 → hdA fr to a ≠ t ∧ nxt7 (hdA fr to a) = (arcsL fr to m (hdA fr to a)).length)
      refine ⟨J, ?_, ?_⟩
      · refine ⟨_, k5.ld rfl, _, k4.ld rfl, k3.rdV hv ?_⟩
        refine ⟨_, k5.ld rfl, k7.rdI hv ?_⟩
        rw [hl7]
        refine (ka v hv).rd (natV_get hla) ?_
        rw [haa]
        refine ⟨_, k5.ld rfl, _, k4.ld rfl, k1.rdI ha.1 ?_⟩
        refine ⟨_, k5.ld rfl, _, k4.ld rfl, k2.rdI ha.1 ?_⟩
        have skip : (0 < room7 a → lev (hdA fr to a) = lev v + 1 → False) → J (sent, ()) q := fun hno =>
          ⟨room7, nxt7, F, D, A, hs0, hs1, hl7, fun _ h1 h2 => (hno h1 h2).elim⟩
        refine ifP_of (fun h3 => skip fun h _ => by have := of_decide_eq_true h3; omega) (fun h3 => ?_)
        have hr0 : 0 < room7 a := by have := of_decide_eq_false h3; have := A.rm.pos a ha.1; omega
        refine ⟨_, k5.ld rfl, k6.rdI hw ?_⟩
        refine ⟨_, k5.ld rfl, k6.rdI hv ?_⟩
        have hlv := hl v hv
        have ew : IntKind.i64.wrap (lev v + 1) = lev v + 1 := w64_in (by omega) (by omega)
        rw [ew]
        refine ifP_of (fun h4 => skip fun _ h => by simp [h] at h4) (fun h4 => ?_)
        have hlw : lev (hdA fr to a) = lev v + 1 := by simpa using h4
        refine ⟨_, k5.ld rfl, _, k4.ld rfl, k2.rdI ha.1 ?_⟩
        have ew2 : IntKind.i64.wrap (most - sent) = most - sent := w64_in (by omega) (by omega)
        rw [ew2]
        have hrp := A.rm.pr ha.1
        have hrq := A.rm.pos _ (prA_lt ha.1)
        have hca := hc (a / 2) (by omega)
        generalize hask : (if room7 a < most - sent then room7 a else most - sent) = ask
        have hask1 : 0 < ask ∧ ask ≤ room7 a ∧ ask ≤ most - sent := by rw [← hask]; split <;> omega
        refine (ih own q room7 nxt7 (hdA fr to a) ask hw (by omega) D A.rm hb7 (by omega) (by omega)).mono ?_
        rintro _ q2 ⟨x, room8, nxt8, rfl, F8, D8, A8, hx0, hx1, hx2⟩
        refine ⟨x, rfl, ?_⟩
        obtain ⟨vl, vn, k5, k6, k7⟩ := D8.ex
        refine ⟨_, k5.ld rfl, ?_⟩
        have hsame : room8 a = room7 a := by
          apply Classical.byContradiction
          intro hne
          rcases A8.ch a ha.1 hne with ⟨h1, h2⟩ | ⟨h1, h2⟩
          · rw [ha.2] at h1; omega
          · rw [ha.2] at h2; omega
        have hrp8 := A8.rm.pr ha.1
        have hrq8 := A8.rm.pos _ (prA_lt ha.1)
        refine (send_T D8.net m1 ha.1 (x := x) (by omega) (by omega)).mono ?_
        rintro _ q3 ⟨rfl, F9, N9⟩
        refine ⟨rfl, ?_⟩
        have ew3 : IntKind.i64.wrap (sent + x) = sent + x := w64_in (by omega) (by omega)
        rw [ew3]
        have F10 : Fm [2, 7] own h own q3 := (F.trans F8).trans (F9.mono (by simp))
        have D10 : Dn own q3 bd bn n m fr to s t (sndR room8 a x) lev nxt8 := ⟨N9, vl, vn, k5.fm F9 (by simp <;> omega), k6.fm F9 (by simp <;> omega), k7.fm F9 (by simp <;> omega)⟩
        have n8 : nxt8 v = l := by rw [A8.nl v hv (by omega)]; exact hl7
        have A10 : AlR n m fr to cap t lev room nxt (sndR room8 a x) nxt8 v (sent + x) := by
          refine ⟨A8.rm.snd ha.1 hx0 (by omega), fun u => ?_, fun b hb hne => ?_, fun u hu => ⟨Int.le_trans (A.nb u hu).1 (A8.nb u hu).1, (A8.nb u hu).2⟩, fun u hu hlu => ?_, fun hz => ?_⟩
          · rw [out_snd ha.1, A8.out, A.out, ha.2]
            by_cases e1 : v = u <;> by_cases e2 : t = u <;> by_cases e3 : hdA fr to a = u <;> simp [e1, e2, e3] <;> omega
          · by_cases e1 : b = a
            · subst e1; exact .inl ⟨by rw [ha.2]; omega, by rw [ha.2]; exact hlw⟩
            · by_cases e2 : b = prA a
              · subst e2
                rw [tl_pr, hd_pr, ha.2]; exact .inr ⟨by omega, hlw⟩
              · rw [sndR_o e1 e2] at hne
                by_cases e3 : room8 b = room7 b
                · exact A.ch b hb (by rw [← e3]; exact hne)
                · rcases A8.ch b hb e3 with ⟨h1, h2⟩ | ⟨h1, h2⟩
                  · exact .inl ⟨by omega, h2⟩
                  · exact .inr ⟨by omega, h2⟩
          · rw [A8.nl u hu (by omega)]; exact A.nl u hu hlu
          · have hx : x = 0 := by omega
            have hs : sent = 0 := by omega
            subst hx
            obtain ⟨r1, d1⟩ := A.z hs
            obtain ⟨r2, d2⟩ := A8.z rfl
            rw [sndR_0]
            refine ⟨r2.trans r1, fun d => ?_⟩
            have := d2 (by rw [r1]; exact d1 d)
            rwa [r1] at this
        refine ifP_of (fun h5 => ?_) (fun h5 => ?_)
        · have h5 := of_decide_eq_true h5
          exact ⟨sent + x, _, _, rfl, F10, D10, A10, by omega, by omega, fun h => by omega⟩
        · have h5 := of_decide_eq_false h5
          refine ⟨_, _, F10, D10, A10, by show 0 ≤ sent + x; omega, by show sent + x < most; omega, n8, ?_⟩
          intro hz _ _
          have hz : sent + x = 0 := hz
          obtain ⟨h6, h7⟩ := hx2 (by omega) (by omega)
          exact ⟨h6, h7⟩
      · rintro sent2 q2 ⟨room8, nxt8, F8, D8, A8, hs0, hs1, hl8, hdd⟩
        change 0 ≤ sent2 at hs0
        change sent2 < most at hs1
        change AlR n m fr to cap t lev room nxt room8 nxt8 v sent2 at A8
        change sent2 = 0 → _ at hdd
        obtain ⟨vl, vn, k5, k6, k7⟩ := D8.ex
        refine ⟨_, k5.ld rfl, k7.rdI hv ?_⟩
        rw [hl8]
        refine k7.setI hv ?_
        intro q3 F9 k7
        rw [i64_inc (by omega)] at k7
        have F9' : Fm [2, 7] own q2 own q3 := F9.mono (by simp)
        refine mu_next (I := I) (k := (arcsL fr to m v).length - (l + 1)) ⟨room8, _, F8.trans F9', ⟨D8.net.fm F9 (by simp), vl, vn, k5.fm F9 (by simp <;> omega), k6.fm F9 (by simp <;> omega), k7⟩, ?_, hs0, hs1, ?_⟩ (by rw [hkk]; omega)
        · have up_v : upd nxt8 v (((l + 1 : Nat) : Int)) v = ((l + 1 : Nat) : Int) := if_pos rfl
          have up_o : ∀ u, u ≠ v → upd nxt8 v (((l + 1 : Nat) : Int)) u = nxt8 u := fun u hu => if_neg hu
          refine ⟨A8.rm, A8.out, A8.ch, fun u hu => ?_, fun u hu hlu => ?_, fun hz => ⟨(A8.z hz).1, fun d => ?_⟩⟩
          · by_cases e : u = v
            · subst e
              rw [up_v]
              have := A8.nb u hu
              omega
            · rw [up_o u e]; exact A8.nb u hu
          · rw [up_o u (by rintro rfl; omega)]; exact A8.nl u hu hlu
          · have d8 := (A8.z hz).2 d
            have er := (A8.z hz).1
            have grow : ∀ u, u < n → nxt8 u = (arcsL fr to m u).length → upd nxt8 v (((l + 1 : Nat) : Int)) u = (arcsL fr to m u).length := by
              intro u hu e
              by_cases e2 : u = v
              · subst e2; omega
              · rw [up_o u e2]; exact e
            intro u hu b hb hr hlb
            by_cases e : u = v
            · subst e
              rw [up_v, Int.toNat_natCast, List.take_succ_eq_append_getElem hla] at hb
              rcases List.mem_append.1 hb with hb | hb
              · have hbw := hd_lt hn (mem_arcsL.1 (List.mem_of_mem_take hb)).1
                obtain ⟨h1, h2⟩ := d8 u hu b (by rw [hl8, Int.toNat_natCast]; exact hb) hr hlb
                exact ⟨h1, grow _ hbw h2⟩
              · have : b = a := by rw [List.mem_singleton] at hb; rw [hb]; exact haa
                subst this
                obtain ⟨h1, h2⟩ := hdd hz (by rw [er]; exact hr) hlb
                exact ⟨h1, grow _ hw h2⟩
            · rw [up_o u e] at hb
              have hbw := hd_lt hn (mem_arcsL.1 (List.mem_of_mem_take hb)).1
              obtain ⟨h1, h2⟩ := d8 u hu b hb hr hlb
              exact ⟨h1, grow _ hbw h2⟩
        · show _ = _ - upd nxt8 v _ v
          unfold upd
          rw [if_pos rfl]; omega
    · have := of_decide_eq_false h1
      have := hb7 v hv
      exact ⟨sent, room7, nxt7, rfl, F, D, A, hs0, by omega, fun _ _ => ⟨hvt, by omega⟩⟩
end

end Go.Proofs.YtjlojokockfapaaGreatDoor

