import Derived.Test.YtdcamadeblojdaaGreatProg
import Derived.IntWalk
import Derived.Test.YtdcamadeblojdaaGreatWP1
namespace Go.Proofs.YtdcamadeblojdaaGreat
open Go
set_option linter.unusedVariables false
set_option maxRecDepth 100000

abbrev F.compasstop_WholePairs : FuncId := 4
abbrev F.compasstop_flows : FuncId := 5
abbrev F.compasstop_hub : FuncId := 7
abbrev F.mincost_Solve : FuncId := 8
abbrev F.bimatch_Solve : FuncId := 11
abbrev F.maxflow_Solve : FuncId := 12
abbrev F.bimatch_Sides : FuncId := 13
abbrev F.slices_Sort : FuncId := 16
abbrev F.graph_Check : FuncId := 17
abbrev F.mincost_supplied : FuncId := 18
abbrev F.mincost_newNet : FuncId := 19
abbrev F.bimatch_pairs_cover : FuncId := 21
abbrev F.maxflow_newNet : FuncId := 22
abbrev F.maxflow_net_levels : FuncId := 23
abbrev F.graph_label : FuncId := 29
abbrev F.bimatch_pairs_other : FuncId := 30
abbrev F.heaps_New : FuncId := 32
abbrev F.heaps_Queue_Push : FuncId := 33
abbrev F.heaps_Queue_Lower : FuncId := 34
abbrev F.heaps_Queue_Pop : FuncId := 35
abbrev F.heaps_Queue_low : FuncId := 48
abbrev F.heaps_Queue_Top : FuncId := 49
abbrev F.mincost_net_reduced : FuncId := 73
abbrev F.mincost_ways_meet : FuncId := 74
abbrev F.mincost_net_send : FuncId := 75
abbrev F.mincost_ways_missing : FuncId := 76
abbrev F.mincost_ways_cheapest : FuncId := 77
abbrev F.mincost_net_reached : FuncId := 78
abbrev F.mincost_net_carry : FuncId := 79
abbrev F.heaps_Queue_Len : FuncId := 80
abbrev F.bimatch_pairs_take : FuncId := 85
abbrev F.bimatch_simple_match : FuncId := 86
abbrev F.bimatch_simple_try : FuncId := 87
abbrev F.bimatch_phases_match : FuncId := 88
abbrev F.bimatch_phases_layer : FuncId := 89
abbrev F.bimatch_phases_along : FuncId := 90
abbrev F.maxflow_net_send : FuncId := 91
abbrev F.maxflow_dinic_fill : FuncId := 92
abbrev F.maxflow_dinic_along : FuncId := 93
abbrev F.maxflow_trees_fill : FuncId := 94
abbrev F.maxflow_trees_phase : FuncId := 95
abbrev F.links_New : FuncId := 96
abbrev F.links_Forest_Root : FuncId := 97
abbrev F.maxflow_trees_push : FuncId := 98
abbrev F.maxflow_trees_grow : FuncId := 99
abbrev F.maxflow_trees_drop : FuncId := 100
abbrev F.links_Forest_node : FuncId := 101
abbrev F.links_Forest_root : FuncId := 102
abbrev F.links_Forest_Least : FuncId := 103
abbrev F.links_Forest_Add : FuncId := 104
abbrev F.links_Forest_Link : FuncId := 105
abbrev F.links_Forest_Cut : FuncId := 106
abbrev F.links_Forest_access : FuncId := 107
abbrev F.links_Forest_push : FuncId := 108
abbrev F.links_Forest_splay : FuncId := 109
abbrev F.links_Forest_child : FuncId := 110
abbrev F.links_label : FuncId := 111
abbrev F.links_Forest_raise : FuncId := 112
abbrev F.links_Forest_pull : FuncId := 113
abbrev F.links_Forest_top : FuncId := 114
abbrev F.links_Forest_rotate : FuncId := 115
abbrev F.maxflow_pushing_fill : FuncId := 116
abbrev F.maxflow_pushing_set : FuncId := 117
abbrev F.maxflow_pushing_give : FuncId := 118
abbrev F.maxflow_pushing_lift : FuncId := 119
abbrev F.heaps_keyed_ahead : FuncId := 124
abbrev F.heaps_fibonacci_lower : FuncId := 131
abbrev F.heaps_fibonacci_pop : FuncId := 132
abbrev F.heaps_fibonacci_push : FuncId := 133
abbrev F.heaps_fibonacci_top : FuncId := 134
abbrev F.heaps_fibonacci_cut : FuncId := 135
abbrev F.heaps_fibonacci_ring : FuncId := 136
abbrev F.heaps_fibonacci_under : FuncId := 137
abbrev F.heaps_fibonacci_root : FuncId := 138
abbrev F.heaps_fibonacci_leave : FuncId := 139
abbrev F.heaps_fibonacci_join : FuncId := 140
def A_compasstop_WholePairs : An := ⟨lkA [(0, rng 3), (1, rng 2), (2, rng 1), (3, rng 12), (4, rng 2), (5, rng 4), (6, rng 5), (7, rng 5), (8, rng 4), (9, rng 5), (10, rng 3), (11, ⟨[0, 2, 6, 1, 3, 4, 5, 7, 8], lkN []⟩), (12, rng 9), (13, rng 17), (14, rng 2), (15, rng 18), (16, rng 5)], lkL [(9, [(11, .int .i64)])], lkC []⟩
def B_compasstop_WholePairs (p0_g : List Value) (p1_left : Int) (p2_way : List Value) (R : Res → H → Prop) (h : H) : Prop :=
  newP h (.cells ⟨p0_g⟩ 24 (0, 0)) fun b1 h2 =>
  newP h2 (.cells ⟨p2_way⟩ 25 (0, 0)) fun b3 h4 =>
  T Tryz.prog F.compasstop_flows [] h4 (rt (fun v5 h6 =>
  ∃ r7, v5 = .bool r7 ∧
  ifP (!r7) (R (.ret (.bool false)) h6)
  (ldN h6 (bk b1) 2 fun x8 =>
  ixA (bk b3) 2 0 1 fun a9 =>
  ldI h6 a9 .i64 fun x10 =>
  T Tryz.prog F.bimatch_Solve [.agg ⟨x8⟩, .int .i64 p1_left, .int .i64 x10] h6 (rt (fun v11 h12 =>
  ∃ r13 : Value, ∃ r14 : Value, ∃ r15 : Int, v11 = .tuple ⟨[r13, r14, .int .i64 r15]⟩ ∧
  ifP (!decide (r15 = 0)) (slcP r13 fun a16 l17 c18 =>
  R (.ret (.bool (decide (((l17 : Nat) : Int) = 0)))) h12)
  (ldN h12 (bk b1) 2 fun x19 =>
  T Tryz.prog F.compasstop_hub [.agg ⟨x19⟩, .int .i64 p1_left, .int .i64 0] h12 (rt (fun v20 h21 =>
  ∃ r22 : List Value, r22.length = 2 ∧ v20 = .agg ⟨r22⟩ ∧
  newP h21 (.cells ⟨[.int .i64 0, .slice none 0 0]⟩ 24 (0, 0)) fun b23 h24 =>
  stN h24 (bk b23) r22 2 fun h25 =>
  ldI h25 ((bk b23).add 0) .i64 fun x26 =>
  stC h25 ((bk b23).add 0) (.int .i64 (IntKind.i64.wrap (x26 + 1))) fun h27 =>
  ldV h27 ((bk b1).add 1) fun x28 =>
  slcP x28 fun a29 l30 c31 =>
  ∃ (I32 : (Int × Unit) → H → Prop) (r33 : (Int × Unit) × H → (Int × Unit) × H → Prop), WellFounded r33 ∧ I32 (((l30 : Nat) : Int), ()) h27 ∧
  ∀ (i_35 : Int) (h34 : H), I32 (i_35, ()) h34 →
  ldV h34 ((bk b23).add 1) fun x36 =>
  slcP x36 fun a37 l38 c39 =>
  ifP (decide (i_35 < ((l38 : Nat) : Int))) (ldV h34 ((bk b23).add 1) fun x40 =>
  ixS x40 i_35 4 fun a41 =>
  ldI h34 (a41.add 1) .i64 fun x42 =>
  ldI h34 ((bk b1).add 0) .i64 fun x43 =>
  ifP (decide (x42 = x43)) (ldV h34 ((bk b23).add 1) fun x44 =>
  ldI h34 ((bk b1).add 0) .i64 fun x45 =>
  ixS x44 i_35 4 fun a46 =>
  stC h34 (a46.add 1) (.int .i64 (IntKind.i64.wrap (x45 + 1))) fun h47 =>
  I32 ((IntKind.i64.wrap (i_35 + 1)), ()) h47 ∧ r33 (((IntKind.i64.wrap (i_35 + 1)), ()), h47) ((i_35, ()), h34))
  (I32 ((IntKind.i64.wrap (i_35 + 1)), ()) h34 ∧ r33 (((IntKind.i64.wrap (i_35 + 1)), ()), h34) ((i_35, ()), h34)))
  (ldN h34 (bk b23) 2 fun x48 =>
  ldI h34 ((bk b1).add 0) .i64 fun x49 =>
  ldI h34 ((bk b1).add 0) .i64 fun x50 =>
  ixA (bk b3) 2 1 1 fun a51 =>
  ldI h34 a51 .i64 fun x52 =>
  T Tryz.prog F.maxflow_Solve [.agg ⟨x48⟩, .int .i64 x49, .int .i64 (IntKind.i64.wrap (x50 + 1)), .int .i64 x52] h34 (rt (fun v53 h54 =>
  ∃ r55 : List Value, r55.length = 4 ∧ ∃ r56 : Int, ∃ r57 : Int, v53 = .tuple ⟨[.agg ⟨r55⟩, .int .i64 r56, .int .i64 r57]⟩ ∧
  newP h54 (.cells ⟨[.int .i64 0, .int .i64 0, .slice none 0 0, .slice none 0 0]⟩ 46 (0, 0)) fun b58 h59 =>
  stN h59 (bk b58) r55 4 fun h60 =>
  ifP (!decide (r57 = 0)) (ifP (decide (r57 = 50)) (R (.ret (.bool true)) h60) (ifP (decide (r57 = 3)) (ldI h60 ((bk b23).add 0) .i64 fun x61 =>
  ifP (decide (1024 < x61)) (R (.ret (.bool true)) h60) (ldV h60 ((bk b23).add 1) fun x62 =>
  slcP x62 fun a63 l64 c65 =>
  R (.ret (.bool (decide (4096 < ((l64 : Nat) : Int))))) h60)) (R (.ret (.bool false)) h60)))
  (slcP r13 fun a66 l67 c68 =>
  R (.ret (.bool (decide (r56 = ((l67 : Nat) : Int))))) h60)) (fun v69 h70 => R (.pan v69) h70)))) (fun v71 h72 => R (.pan v71) h72)))) (fun v73 h74 => R (.pan v73) h74)))) (fun v75 h76 => R (.pan v75) h76))
theorem E_compasstop_WholePairs {p0_g : List Value} {p1_left : Int} {p2_way : List Value} {R : Res → H → Prop} {h : H} (H0 : B_compasstop_WholePairs p0_g p1_left p2_way R h) : T Tryz.prog F.compasstop_WholePairs [.agg ⟨p0_g⟩, .int .i64 p1_left, .agg ⟨p2_way⟩] h R :=
  T_intro A_compasstop_WholePairs Tryz.func4 (c := bodyOf Tryz.f4) (by kernel_rfl) (by kernel_rfl) (by kernel_rfl) (cast_of (by kernel_rfl) H0)

def A_compasstop_flows : An := ⟨lkA [(0, rng 1), (1, rng 5), (2, rng 10), (3, rng 13), (4, rng 15)], lkL [], lkC []⟩
def B_compasstop_flows  (R : Res → H → Prop) (h : H) : Prop :=
  ([.int .i64 0, .int .i64 1, .int .i64 2, .int .i64 1] : List Value).length = 4 ∧
  newP h (.cells ⟨[.int .i64 0, .int .i64 1, .int .i64 2, .int .i64 1]⟩ 44 (0, 0)) fun b1 h2 =>
  newP h2 (.cells ⟨[.int .i64 0, .slice none 0 0]⟩ 24 (0, 0)) fun b3 h4 =>
  stN h4 (bk b3) [.int .i64 2, .slice (some (bk b1)) 1 1] 2 fun h5 =>
  ldN h5 (bk b3) 2 fun x6 =>
  T Tryz.prog F.maxflow_Solve [.agg ⟨x6⟩, .int .i64 0, .int .i64 1, .int .i64 1] h5 (rt (fun v7 h8 =>
  ∃ r9 : List Value, r9.length = 4 ∧ ∃ r10 : Int, ∃ r11 : Int, v7 = .tuple ⟨[.agg ⟨r9⟩, .int .i64 r10, .int .i64 r11]⟩ ∧
  newP h8 (.cells ⟨[.int .i64 0, .int .i64 0, .slice none 0 0, .slice none 0 0]⟩ 46 (0, 0)) fun b12 h13 =>
  stN h13 (bk b12) r9 4 fun h14 =>
  ldN h14 (bk b3) 2 fun x15 =>
  newP h14 (.cells ⟨[.int .i64 2, .int .i64 (-2)]⟩ 2 (0, 0)) fun b16 h17 =>
  T Tryz.prog F.mincost_Solve [.agg ⟨x15⟩, .slice (some (bk b16)) 2 2, .int .i64 1] h17 (rt (fun v18 h19 =>
  ∃ r20 : List Value, r20.length = 3 ∧ ∃ r21 : Int, ∃ r22 : Value, ∃ r23 : Int, v18 = .tuple ⟨[.agg ⟨r20⟩, .int .i64 r21, r22, .int .i64 r23]⟩ ∧
  newP h19 (.cells ⟨[.slice none 0 0, .slice none 0 0, .slice none 0 0]⟩ 34 (0, 0)) fun b24 h25 =>
  stN h25 (bk b24) r20 3 fun h26 =>
  ifP (decide (r10 = 2)) (ifP (decide (r11 = 0)) (ifP (decide (r21 = 2)) (R (.ret (.bool (decide (r23 = 0)))) h26) (R (.ret (.bool false)) h26)) (R (.ret (.bool false)) h26)) (R (.ret (.bool false)) h26)) (fun v27 h28 => R (.pan v27) h28))) (fun v29 h30 => R (.pan v29) h30))
theorem E_compasstop_flows  {R : Res → H → Prop} {h : H} (H0 : B_compasstop_flows  R h) : T Tryz.prog F.compasstop_flows [] h R :=
  T_intro A_compasstop_flows Tryz.func5 (c := bodyOf Tryz.f5) (by kernel_rfl) (by kernel_rfl) (by kernel_rfl) (cast_of (by kernel_rfl) H0)

def A_compasstop_hub : An := ⟨lkA [(0, rng 2), (1, rng 6), (2, rng 4), (3, rng 1), (4, rng 4), (5, rng 21), (6, rng 2), (7, rng 1), (8, rng 4), (9, rng 3), (10, rng 3), (11, rng 10), (12, rng 10), (13, rng 2)], lkL [(3, [(18, .int .i64)]), (8, [(10, .int .i64)])], lkC []⟩
def B_compasstop_hub (p0_g : List Value) (p1_left : Int) (p2_times : Int) (R : Res → H → Prop) (h : H) : Prop :=
  newP h (.cells ⟨p0_g⟩ 24 (0, 0)) fun b1 h2 =>
  newP h2 (.cells ⟨[.int .i64 0, .slice none 0 0]⟩ 24 (0, 0)) fun b3 h4 =>
  ldI h4 ((bk b1).add 0) .i64 fun x5 =>
  newP h4 (.cells ⟨[.int .i64 0, .slice none 0 0]⟩ 24 (0, 0)) fun b6 h7 =>
  stN h7 (bk b6) [.int .i64 (IntKind.i64.wrap (x5 + 1)), .slice none 0 0] 2 fun h8 =>
  ldV h8 ((bk b1).add 1) fun x9 =>
  slcP x9 fun a10 l11 c12 =>
  ∃ (I13 : (Int × Unit) → H → Prop) (r14 : (Int × Unit) × H → (Int × Unit) × H → Prop), WellFounded r14 ∧ I13 (0, ()) h8 ∧
  ∀ (s16 : Int) (h15 : H), I13 (s16, ()) h15 →
  ifP (decide (s16 < ((l11 : Nat) : Int))) (ixS x9 s16 4 fun a17 =>
  ldN h15 a17 4 fun x18 =>
  newP h15 (.cells ⟨[.int .i64 0, .int .i64 0, .int .i64 0, .int .i64 0]⟩ 44 (0, 0)) fun b19 h20 =>
  stN h20 (bk b19) x18 4 fun h21 =>
  ldV h21 ((bk b6).add 1) fun x22 =>
  ldI h21 ((bk b19).add 0) .i64 fun x23 =>
  ldI h21 ((bk b19).add 1) .i64 fun x24 =>
  ldI h21 ((bk b19).add 0) .i64 fun x25 =>
  ldI h21 ((bk b19).add 1) .i64 fun x26 =>
  ldI h21 ((bk b19).add 3) .i64 fun x27 =>
  ([.int .i64 (if x24 < x23 then x24 else x23), .int .i64 (if x25 < x26 then x26 else x25), .int .i64 2, .int .i64 (IntKind.i64.wrap (x27 * p2_times))] : List Value).length = 4 ∧
  newP h21 (.cells ⟨[.int .i64 (if x24 < x23 then x24 else x23), .int .i64 (if x25 < x26 then x26 else x25), .int .i64 2, .int .i64 (IntKind.i64.wrap (x27 * p2_times))]⟩ 44 (0, 0)) fun b28 h29 =>
  apP x22 (.slice (some (bk b28)) 1 1) h29 4 44 32 [.int .i64 0, .int .i64 0, .int .i64 0, .int .i64 0] fun s30 h31 =>
  oneP s30 (stC h31 ((bk b6).add 1) s30 fun h32 =>
  I13 ((IntKind.i64.wrap (s16 + 1)), ()) h32 ∧ r14 (((IntKind.i64.wrap (s16 + 1)), ()), h32) ((s16, ()), h15)))
  (∃ (I33 : (Int × Unit) → H → Prop) (r34 : (Int × Unit) × H → (Int × Unit) × H → Prop), WellFounded r34 ∧ I33 (0, ()) h15 ∧
  ∀ (v_36 : Int) (h35 : H), I33 (v_36, ()) h35 →
  ldI h35 ((bk b1).add 0) .i64 fun x37 =>
  ifP (decide (v_36 < x37)) (ifP (decide (v_36 < p1_left)) (ldV h35 ((bk b6).add 1) fun x38 =>
  ldI h35 ((bk b1).add 0) .i64 fun x39 =>
  ([.int .i64 x39, .int .i64 v_36, .int .i64 1, .int .i64 0] : List Value).length = 4 ∧
  newP h35 (.cells ⟨[.int .i64 x39, .int .i64 v_36, .int .i64 1, .int .i64 0]⟩ 44 (0, 0)) fun b40 h41 =>
  apP x38 (.slice (some (bk b40)) 1 1) h41 4 44 32 [.int .i64 0, .int .i64 0, .int .i64 0, .int .i64 0] fun s42 h43 =>
  oneP s42 (stC h43 ((bk b6).add 1) s42 fun h44 =>
  I33 ((IntKind.i64.wrap (v_36 + 1)), ()) h44 ∧ r34 (((IntKind.i64.wrap (v_36 + 1)), ()), h44) ((v_36, ()), h35)))
  (ldV h35 ((bk b6).add 1) fun x45 =>
  ldI h35 ((bk b1).add 0) .i64 fun x46 =>
  ([.int .i64 v_36, .int .i64 x46, .int .i64 1, .int .i64 0] : List Value).length = 4 ∧
  newP h35 (.cells ⟨[.int .i64 v_36, .int .i64 x46, .int .i64 1, .int .i64 0]⟩ 44 (0, 0)) fun b47 h48 =>
  apP x45 (.slice (some (bk b47)) 1 1) h48 4 44 32 [.int .i64 0, .int .i64 0, .int .i64 0, .int .i64 0] fun s49 h50 =>
  oneP s49 (stC h50 ((bk b6).add 1) s49 fun h51 =>
  I33 ((IntKind.i64.wrap (v_36 + 1)), ()) h51 ∧ r34 (((IntKind.i64.wrap (v_36 + 1)), ()), h51) ((v_36, ()), h35))))
  (ldN h35 (bk b6) 2 fun x52 =>
  stN h35 (bk b3) x52 2 fun h53 =>
  ldN h53 (bk b3) 2 fun x54 =>
  R (.ret (.agg ⟨x54⟩)) h53))
theorem E_compasstop_hub {p0_g : List Value} {p1_left : Int} {p2_times : Int} {R : Res → H → Prop} {h : H} (H0 : B_compasstop_hub p0_g p1_left p2_times R h) : T Tryz.prog F.compasstop_hub [.agg ⟨p0_g⟩, .int .i64 p1_left, .int .i64 p2_times] h R :=
  T_intro A_compasstop_hub Tryz.func7 (c := bodyOf Tryz.f7) (by kernel_rfl) (by kernel_rfl) (by kernel_rfl) (cast_of (by kernel_rfl) H0)

def A_bimatch_Solve : An := ⟨lkA [(0, rng 4), (1, rng 5), (2, rng 3), (3, ⟨[0, 2, 3, 1, 4], lkN []⟩), (4, ⟨[1, 2, 4, 0, 5, 3, 6, 7, 8, 9], lkN []⟩), (5, rng 4), (6, rng 1), (7, rng 6), (8, rng 6), (9, ⟨[0, 1, 2, 4, 5, 6, 7, 9, 12, 3, 8, 10, 11, 13, 14, 15, 16], lkN [(14, [3])]⟩), (10, rng 2), (11, rng 6), (12, rng 1), (13, rng 2), (14, rng 7), (15, rng 2), (16, rng 1), (17, rng 1), (18, rng 3), (19, rng 2), (20, rng 5), (21, rng 2), (22, rng 5), (23, rng 2), (24, rng 8), (25, rng 1), (26, rng 3), (27, rng 2), (28, rng 5), (29, rng 2), (30, rng 2), (31, rng 6)], lkL [(6, [(38, .int .i64)]), (12, [(70, .int .i64)]), (25, [(6, .val), (102, .int .i64)])], lkC [(23, [(6, .val), (15, .val)])]⟩
def B_bimatch_Solve (p0_g : List Value) (p1_left : Int) (p2_kind : Int) (R : Res → H → Prop) (h : H) : Prop :=
  newP h (.cells ⟨p0_g⟩ 24 (0, 0)) fun b1 h2 =>
  ldN h2 (bk b1) 2 fun x3 =>
  T Tryz.prog F.bimatch_Sides [.agg ⟨x3⟩, .int .i64 p1_left] h2 (rt (fun v4 h5 =>
  ∃ r6 : List Value, r6.length = 2 ∧ v4 = .agg ⟨r6⟩ ∧
  newP h5 (.cells ⟨[.int .i64 0, .int .i64 0]⟩ 50 (0, 0)) fun b7 h8 =>
  stN h8 (bk b7) r6 2 fun h9 =>
  ldI h9 ((bk b7).add 0) .i64 fun x10 =>
  ifP (!decide (x10 = 0)) (ldI h9 ((bk b7).add 0) .i64 fun x11 =>
  R (.ret (.tuple ⟨[.slice none 0 0, .slice none 0 0, .int .i64 x11]⟩)) h9)
  (ldN h9 (bk b1) 2 fun x12 =>
  ldI h9 ((bk b1).add 0) .i64 fun x13 =>
  mkS p1_left p1_left 24 [.slice none 0 0] 27 h9 fun b14 h15 =>
  mkS x13 x13 8 [.int .i64 0] 3 h15 fun b16 h17 =>
  (x12).length = 2 ∧
  newP h17 (.cells ⟨(List.take (α := Value) 4 (List.take (α := Value) 3 (List.take (α := Value) 2 (x12 ++ ((.int .i64 0) :: ((.slice none 0 0) :: ((.slice none 0 0) :: [])))) ++ [.int .i64 p1_left] ++ List.drop (α := Value) 3 (x12 ++ ((.int .i64 0) :: ((.slice none 0 0) :: ((.slice none 0 0) :: []))))) ++ [.slice (some (bk b14)) p1_left.toNat p1_left.toNat] ++ List.drop (α := Value) 4 (List.take (α := Value) 2 (x12 ++ ((.int .i64 0) :: ((.slice none 0 0) :: ((.slice none 0 0) :: [])))) ++ [.int .i64 p1_left] ++ List.drop (α := Value) 3 (x12 ++ ((.int .i64 0) :: ((.slice none 0 0) :: ((.slice none 0 0) :: [])))))) ++ [.slice (some (bk b16)) x13.toNat x13.toNat] ++ List.drop (α := Value) 5 (List.take (α := Value) 3 (List.take (α := Value) 2 (x12 ++ ((.int .i64 0) :: ((.slice none 0 0) :: ((.slice none 0 0) :: [])))) ++ [.int .i64 p1_left] ++ List.drop (α := Value) 3 (x12 ++ ((.int .i64 0) :: ((.slice none 0 0) :: ((.slice none 0 0) :: []))))) ++ [.slice (some (bk b14)) p1_left.toNat p1_left.toNat] ++ List.drop (α := Value) 4 (List.take (α := Value) 2 (x12 ++ ((.int .i64 0) :: ((.slice none 0 0) :: ((.slice none 0 0) :: [])))) ++ [.int .i64 p1_left] ++ List.drop (α := Value) 3 (x12 ++ ((.int .i64 0) :: ((.slice none 0 0) :: ((.slice none 0 0) :: [])))))))⟩ 79 (0, 0)) fun b18 h19 =>
  ldV h19 ((bk b1).add 1) fun x20 =>
  slcP x20 fun a21 l22 c23 =>
  ∃ (I24 : (Int × Unit) → H → Prop) (r25 : (Int × Unit) × H → (Int × Unit) × H → Prop), WellFounded r25 ∧ I24 (0, ()) h19 ∧
  ∀ (s27 : Int) (h26 : H), I24 (s27, ()) h26 →
  ifP (decide (s27 < ((l22 : Nat) : Int))) (ixS x20 s27 4 fun a28 =>
  ldN h26 a28 4 fun x29 =>
  newP h26 (.cells ⟨[.int .i64 0, .int .i64 0, .int .i64 0, .int .i64 0]⟩ 44 (0, 0)) fun b30 h31 =>
  stN h31 (bk b30) x29 4 fun h32 =>
  ldI h32 ((bk b30).add 0) .i64 fun x33 =>
  ldI h32 ((bk b30).add 1) .i64 fun x34 =>
  ldV h32 ((bk b18).add 3) fun x35 =>
  ldV h32 ((bk b18).add 3) fun x36 =>
  ixS x36 (if x34 < x33 then x34 else x33) 1 fun a37 =>
  ldV h32 a37 fun x38 =>
  newP h32 (.cells ⟨[.int .i64 s27]⟩ 3 (0, 0)) fun b39 h40 =>
  apP x38 (.slice (some (bk b39)) 1 1) h40 1 3 8 [.int .i64 0] fun s41 h42 =>
  (sameAt 2 ((bk b18).add 3) h40 h42) ∧
  ixS x35 (if x34 < x33 then x34 else x33) 1 fun a43 =>
  oneP s41 (stC h42 a43 s41 fun h44 =>
  I24 ((IntKind.i64.wrap (s27 + 1)), ()) h44 ∧ r25 (((IntKind.i64.wrap (s27 + 1)), ()), h44) ((s27, ()), h26)))
  (ldV h26 ((bk b18).add 4) fun x45 =>
  slcP x45 fun a46 l47 c48 =>
  ∃ (I49 : (Int × Unit) → H → Prop) (r50 : (Int × Unit) × H → (Int × Unit) × H → Prop), WellFounded r50 ∧ I49 (0, ()) h26 ∧
  ∀ (s52 : Int) (h51 : H), I49 (s52, ()) h51 →
  ifP (decide (s52 < ((l47 : Nat) : Int))) (ldV h51 ((bk b18).add 4) fun x53 =>
  ixS x53 s52 1 fun a54 =>
  stC h51 a54 (.int .i64 (-1)) fun h55 =>
  I49 ((IntKind.i64.wrap (s52 + 1)), ()) h55 ∧ r50 (((IntKind.i64.wrap (s52 + 1)), ()), h55) ((s52, ()), h51))
  (∃ J56 : (Value × Value × Unit) → H → Prop, (ifP (decide (p2_kind = 1)) (newP h51 (.cells ⟨[.pointer (some (bk b18)), .slice none 0 0]⟩ 84 (0, 0)) fun b60 h61 =>
  J56 ((.slice none 0 0 : Value), (.iface 82 (.pointer (some (bk b60))) : Value), ()) h61)
  (ifP (decide (p2_kind = 2)) (newP h51 (.cells ⟨[.pointer (some (bk b18)), .slice none 0 0, .slice none 0 0]⟩ 87 (0, 0)) fun b62 h63 =>
  J56 ((.slice none 0 0 : Value), (.iface 85 (.pointer (some (bk b62))) : Value), ()) h63)
  (R (.ret (.tuple ⟨[.slice none 0 0, .slice none 0 0, .int .i64 50]⟩)) h51))) ∧
  (∀ (match_58 : Value) (w_59 : Value) (h57 : H), J56 (match_58, w_59, ()) h57 →
  methP Tryz.prog h57 w_59 "compass/bimatch.match" fun f64 rv65 =>
  T Tryz.prog f64 (rv65 :: []) h57 (rt (fun v66 h67 =>
  v66 = .tuple ⟨[]⟩ ∧
  ldV h67 ((bk b18).add 4) fun x68 =>
  slcP x68 fun a69 l70 c71 =>
  (0 : Int) ≤ p1_left ∧ p1_left ≤ ((c71 : Nat) : Int) ∧
  (0 : Int) ≤ (0 : Int) ∧ (0 : Int) ≤ p1_left ∧
  slcP (sliceV a69 c71 (0 : Int) p1_left 1) fun a72 l73 c74 =>
  ∃ (I75 : (Value × Int × Unit) → H → Prop) (r76 : (Value × Int × Unit) × H → (Value × Int × Unit) × H → Prop), WellFounded r76 ∧ I75 (match_58, 0, ()) h67 ∧
  ∀ (match_78 : Value) (s79 : Int) (h77 : H), I75 (match_78, s79, ()) h77 →
  ifP (decide (s79 < ((l73 : Nat) : Int))) (ixS (sliceV a69 c71 (0 : Int) p1_left 1) s79 1 fun a80 =>
  ldI h77 a80 .i64 fun x81 =>
  ifP (decide (0 ≤ x81)) (newP h77 (.cells ⟨[.int .i64 x81]⟩ 3 (0, 0)) fun b82 h83 =>
  apP match_78 (.slice (some (bk b82)) 1 1) h83 1 3 8 [.int .i64 0] fun s84 h85 =>
  I75 (s84, (IntKind.i64.wrap (s79 + 1)), ()) h85 ∧ r76 ((s84, (IntKind.i64.wrap (s79 + 1)), ()), h85) ((match_78, s79, ()), h77))
  (I75 (match_78, (IntKind.i64.wrap (s79 + 1)), ()) h77 ∧ r76 ((match_78, (IntKind.i64.wrap (s79 + 1)), ()), h77) ((match_78, s79, ()), h77)))
  (T Tryz.prog F.slices_Sort [match_78] h77 (rt (fun v86 h87 =>
  v86 = .tuple ⟨[]⟩ ∧
  T Tryz.prog F.bimatch_pairs_cover [.pointer (some (bk b18))] h87 (rt (fun v88 h89 =>
  R (.ret (.tuple ⟨[match_78, v88, .int .i64 0]⟩)) h89) (fun v90 h91 => R (.pan v90) h91))) (fun v92 h93 => R (.pan v92) h93)))) (fun v94 h95 => R (.pan v94) h95))))))) (fun v96 h97 => R (.pan v96) h97))
theorem E_bimatch_Solve {p0_g : List Value} {p1_left : Int} {p2_kind : Int} {R : Res → H → Prop} {h : H} (H0 : B_bimatch_Solve p0_g p1_left p2_kind R h) : T Tryz.prog F.bimatch_Solve [.agg ⟨p0_g⟩, .int .i64 p1_left, .int .i64 p2_kind] h R :=
  T_intro A_bimatch_Solve Tryz.func11 (c := bodyOf Tryz.f11) (by kernel_rfl) (by kernel_rfl) (by kernel_rfl) (cast_of (by kernel_rfl) H0)

def A_maxflow_Solve : An := ⟨lkA [(0, rng 4), (1, rng 4), (2, rng 3), (3, ⟨[0, 1, 2, 3, 4, 5], lkN [(3, [2])]⟩), (4, rng 18), (5, rng 4), (6, rng 3), (7, rng 4), (8, rng 5), (9, rng 1), (10, rng 1), (11, rng 4), (12, rng 2), (13, rng 5), (14, rng 2), (15, rng 5), (16, rng 2), (17, rng 5), (18, rng 2), (19, ⟨[0, 1, 2, 6, 3, 4, 7, 5, 8, 9, 10, 11], lkN []⟩), (20, rng 4), (21, rng 1), (22, rng 2), (23, ⟨[0, 2, 3, 4, 5, 7, 8, 9, 1, 6, 10, 11, 12, 13], lkN []⟩), (24, rng 2), (25, rng 1), (26, rng 5), (27, rng 1), (28, rng 5), (29, rng 7), (30, rng 2), (31, rng 4), (32, rng 1), (33, rng 6), (34, rng 15), (35, rng 8), (36, rng 2), (37, rng 5)], lkL [(21, [(91, .int .i64)]), (27, [(112, .int .i64)]), (32, [(16, .int .i64), (127, .int .i64)])], lkC [(6, []), (18, [(13, .val)])]⟩
def B_maxflow_Solve (p0_g : List Value) (p1_s : Int) (p2_t : Int) (p3_kind : Int) (R : Res → H → Prop) (h : H) : Prop :=
  newP h (.cells ⟨p0_g⟩ 24 (0, 0)) fun b1 h2 =>
  newP h2 (.cells ⟨[.int .i64 0, .int .i64 0, .slice none 0 0, .slice none 0 0]⟩ 46 (0, 0)) fun b3 h4 =>
  ldN h4 (bk b1) 2 fun x5 =>
  T Tryz.prog F.graph_Check [.agg ⟨x5⟩] h4 (rt (fun v6 h7 =>
  ∃ r8 : List Value, r8.length = 2 ∧ v6 = .agg ⟨r8⟩ ∧
  newP h7 (.cells ⟨[.int .i64 0, .int .i64 0]⟩ 50 (0, 0)) fun b9 h10 =>
  stN h10 (bk b9) r8 2 fun h11 =>
  ldI h11 ((bk b9).add 0) .i64 fun x12 =>
  ifP (!decide (x12 = 0)) (ldI h11 ((bk b9).add 0) .i64 fun x13 =>
  stN h11 (bk b3) [.int .i64 0, .int .i64 0, .slice none 0 0, .slice none 0 0] 4 fun h14 =>
  (sameAt 2 ((bk b9).add 0) h11 h14) ∧
  ldN h14 (bk b3) 4 fun x15 =>
  R (.ret (.tuple ⟨[.agg ⟨x15⟩, .int .i64 0, .int .i64 x13]⟩)) h14)
  (∃ J16 : (Unit) → H → Prop, (ifP (decide (p1_s < 0)) (stN h11 (bk b3) [.int .i64 0, .int .i64 0, .slice none 0 0, .slice none 0 0] 4 fun h18 =>
  ldN h18 (bk b3) 4 fun x19 =>
  R (.ret (.tuple ⟨[.agg ⟨x19⟩, .int .i64 0, .int .i64 30]⟩)) h18) (ldI h11 ((bk b1).add 0) .i64 fun x20 =>
  ifP (decide (x20 ≤ p1_s)) (stN h11 (bk b3) [.int .i64 0, .int .i64 0, .slice none 0 0, .slice none 0 0] 4 fun h21 =>
  ldN h21 (bk b3) 4 fun x22 =>
  R (.ret (.tuple ⟨[.agg ⟨x22⟩, .int .i64 0, .int .i64 30]⟩)) h21) (ifP (decide (p2_t < 0)) (stN h11 (bk b3) [.int .i64 0, .int .i64 0, .slice none 0 0, .slice none 0 0] 4 fun h23 =>
  ldN h23 (bk b3) 4 fun x24 =>
  R (.ret (.tuple ⟨[.agg ⟨x24⟩, .int .i64 0, .int .i64 30]⟩)) h23) (ldI h11 ((bk b1).add 0) .i64 fun x25 =>
  ifP (decide (x25 ≤ p2_t)) (stN h11 (bk b3) [.int .i64 0, .int .i64 0, .slice none 0 0, .slice none 0 0] 4 fun h26 =>
  ldN h26 (bk b3) 4 fun x27 =>
  R (.ret (.tuple ⟨[.agg ⟨x27⟩, .int .i64 0, .int .i64 30]⟩)) h26)
  (J16 (()) h11))))) ∧
  (∀  (h17 : H), J16 (()) h17 →
  ifP (decide (p1_s = p2_t)) (stN h17 (bk b3) [.int .i64 0, .int .i64 0, .slice none 0 0, .slice none 0 0] 4 fun h28 =>
  ldN h28 (bk b3) 4 fun x29 =>
  R (.ret (.tuple ⟨[.agg ⟨x29⟩, .int .i64 0, .int .i64 120]⟩)) h28)
  (ldN h17 (bk b1) 2 fun x30 =>
  T Tryz.prog F.maxflow_newNet [.agg ⟨x30⟩, .int .i64 p1_s, .int .i64 p2_t] h17 (rt (fun v31 h32 =>
  ∃ J33 : (Value × Unit) → H → Prop, (ifP (decide (p3_kind = 1)) (oneP v31 (newP h32 (.cells ⟨[v31, .slice none 0 0, .slice none 0 0]⟩ 95 (0, 0)) fun b36 h37 =>
  J33 ((.iface 93 (.pointer (some (bk b36))) : Value), ()) h37))
  (ifP (decide (p3_kind = 2)) (oneP v31 (newP h32 (.cells ⟨[v31, .pointer none, .slice none 0 0, .slice none 0 0, .slice none 0 0]⟩ 99 (0, 0)) fun b38 h39 =>
  J33 ((.iface 96 (.pointer (some (bk b38))) : Value), ()) h39))
  (ifP (decide (p3_kind = 3)) (oneP v31 (newP h32 (.cells ⟨[v31, .slice none 0 0, .slice none 0 0, .slice none 0 0, .slice none 0 0, .slice none 0 0]⟩ 102 (0, 0)) fun b40 h41 =>
  J33 ((.iface 100 (.pointer (some (bk b40))) : Value), ()) h41))
  (stN h32 (bk b3) [.int .i64 0, .int .i64 0, .slice none 0 0, .slice none 0 0] 4 fun h42 =>
  ldN h42 (bk b3) 4 fun x43 =>
  R (.ret (.tuple ⟨[.agg ⟨x43⟩, .int .i64 0, .int .i64 50]⟩)) h42)))) ∧
  (∀ (w_35 : Value) (h34 : H), J33 (w_35, ()) h34 →
  methP Tryz.prog h34 w_35 "compass/maxflow.fill" fun f44 rv45 =>
  T Tryz.prog f44 (rv45 :: []) h34 (rt (fun v46 h47 =>
  v46 = .tuple ⟨[]⟩ ∧
  ldV h47 ((bk b1).add 1) fun x48 =>
  slcP x48 fun a49 l50 c51 =>
  ldI h47 ((bk b1).add 0) .i64 fun x52 =>
  mkS ((l50 : Nat) : Int) ((l50 : Nat) : Int) 8 [.int .i64 0] 2 h47 fun b53 h54 =>
  mkS x52 x52 1 [.bool false] 4 h54 fun b55 h56 =>
  newP h56 (.cells ⟨[.int .i64 0, .int .i64 0, .slice none 0 0, .slice none 0 0]⟩ 46 (0, 0)) fun b57 h58 =>
  stN h58 (bk b57) [.int .i64 p1_s, .int .i64 p2_t, .slice (some (bk b53)) (((l50 : Nat) : Int).toNat) (((l50 : Nat) : Int).toNat), .slice (some (bk b55)) x52.toNat x52.toNat] 4 fun h59 =>
  ldV h59 ((bk b1).add 1) fun x60 =>
  slcP x60 fun a61 l62 c63 =>
  ∃ (I64 : (Int × Unit) → H → Prop) (r65 : (Int × Unit) × H → (Int × Unit) × H → Prop), WellFounded r65 ∧ I64 (0, ()) h59 ∧
  ∀ (s67 : Int) (h66 : H), I64 (s67, ()) h66 →
  ifP (decide (s67 < ((l62 : Nat) : Int))) (ptrP v31 fun a68 =>
  ldV h66 ((bk b57).add 2) fun x69 =>
  ldV h66 (a68.add 1) fun x70 =>
  ixS x70 (IntKind.i64.wrap ((IntKind.i64.wrap (2 * s67)) + 1)) 1 fun a71 =>
  ldI h66 a71 .i64 fun x72 =>
  ixS x69 s67 1 fun a73 =>
  stC h66 a73 (.int .i64 x72) fun h74 =>
  I64 ((IntKind.i64.wrap (s67 + 1)), ()) h74 ∧ r65 (((IntKind.i64.wrap (s67 + 1)), ()), h74) ((s67, ()), h66))
  (T Tryz.prog F.maxflow_net_levels [v31, .int .i64 p1_s] h66 (rt (fun v75 h76 =>
  slcP v75 fun a77 l78 c79 =>
  ∃ (I80 : (Int × Unit) → H → Prop) (r81 : (Int × Unit) × H → (Int × Unit) × H → Prop), WellFounded r81 ∧ I80 (0, ()) h76 ∧
  ∀ (s83 : Int) (h82 : H), I80 (s83, ()) h82 →
  ifP (decide (s83 < ((l78 : Nat) : Int))) (ixS v75 s83 1 fun a84 =>
  ldI h82 a84 .i64 fun x85 =>
  ldV h82 ((bk b57).add 3) fun x86 =>
  ixS x86 s83 1 fun a87 =>
  stC h82 a87 (.bool (decide (0 ≤ x85))) fun h88 =>
  I80 ((IntKind.i64.wrap (s83 + 1)), ()) h88 ∧ r81 (((IntKind.i64.wrap (s83 + 1)), ()), h88) ((s83, ()), h82))
  (ldV h82 ((bk b1).add 1) fun x89 =>
  slcP x89 fun a90 l91 c92 =>
  ∃ (I93 : (Int × Int × Unit) → H → Prop) (r94 : (Int × Int × Unit) × H → (Int × Int × Unit) × H → Prop), WellFounded r94 ∧ I93 (0, 0, ()) h82 ∧
  ∀ (value_96 : Int) (s97 : Int) (h95 : H), I93 (value_96, s97, ()) h95 →
  ifP (decide (s97 < ((l91 : Nat) : Int))) (ixS x89 s97 4 fun a98 =>
  ldN h95 a98 4 fun x99 =>
  newP h95 (.cells ⟨[.int .i64 0, .int .i64 0, .int .i64 0, .int .i64 0]⟩ 44 (0, 0)) fun b100 h101 =>
  stN h101 (bk b100) x99 4 fun h102 =>
  ldV h102 ((bk b57).add 3) fun x103 =>
  ldI h102 ((bk b100).add 0) .i64 fun x104 =>
  ixS x103 x104 1 fun a105 =>
  ldB h102 a105 fun x106 =>
  ifP x106 (ldV h102 ((bk b57).add 3) fun x107 =>
  ldI h102 ((bk b100).add 1) .i64 fun x108 =>
  ixS x107 x108 1 fun a109 =>
  ldB h102 a109 fun x110 =>
  ifP (!x110) (ldV h102 ((bk b57).add 2) fun x111 =>
  ixS x111 s97 1 fun a112 =>
  ldI h102 a112 .i64 fun x113 =>
  I93 ((IntKind.i64.wrap (value_96 + x113)), (IntKind.i64.wrap (s97 + 1)), ()) h102 ∧ r94 (((IntKind.i64.wrap (value_96 + x113)), (IntKind.i64.wrap (s97 + 1)), ()), h102) ((value_96, s97, ()), h95))
  (I93 (value_96, (IntKind.i64.wrap (s97 + 1)), ()) h102 ∧ r94 ((value_96, (IntKind.i64.wrap (s97 + 1)), ()), h102) ((value_96, s97, ()), h95))) (I93 (value_96, (IntKind.i64.wrap (s97 + 1)), ()) h102 ∧ r94 ((value_96, (IntKind.i64.wrap (s97 + 1)), ()), h102) ((value_96, s97, ()), h95)))
  (ldN h95 (bk b57) 4 fun x114 =>
  stN h95 (bk b3) x114 4 fun h115 =>
  ldN h115 (bk b3) 4 fun x116 =>
  R (.ret (.tuple ⟨[.agg ⟨x116⟩, .int .i64 value_96, .int .i64 0]⟩)) h115))) (fun v117 h118 => R (.pan v117) h118)))) (fun v119 h120 => R (.pan v119) h120)))) (fun v121 h122 => R (.pan v121) h122)))))) (fun v123 h124 => R (.pan v123) h124))
theorem E_maxflow_Solve {p0_g : List Value} {p1_s : Int} {p2_t : Int} {p3_kind : Int} {R : Res → H → Prop} {h : H} (H0 : B_maxflow_Solve p0_g p1_s p2_t p3_kind R h) : T Tryz.prog F.maxflow_Solve [.agg ⟨p0_g⟩, .int .i64 p1_s, .int .i64 p2_t, .int .i64 p3_kind] h R :=
  T_intro A_maxflow_Solve Tryz.func12 (c := bodyOf Tryz.f12) (by kernel_rfl) (by kernel_rfl) (by kernel_rfl) (cast_of (by kernel_rfl) H0)

def A_bimatch_Sides : An := ⟨lkA [(0, rng 2), (1, rng 4), (2, rng 3), (3, rng 2), (4, rng 8), (5, rng 2), (6, rng 4), (7, rng 1), (8, rng 6), (9, rng 9), (10, rng 3), (11, rng 2), (12, rng 2)], lkL [(7, [(26, .int .i64)])], lkC []⟩
def B_bimatch_Sides (p0_g : List Value) (p1_left : Int) (R : Res → H → Prop) (h : H) : Prop :=
  newP h (.cells ⟨p0_g⟩ 24 (0, 0)) fun b1 h2 =>
  newP h2 (.cells ⟨[.int .i64 0, .int .i64 0]⟩ 50 (0, 0)) fun b3 h4 =>
  ldN h4 (bk b1) 2 fun x5 =>
  T Tryz.prog F.graph_Check [.agg ⟨x5⟩] h4 (rt (fun v6 h7 =>
  ∃ r8 : List Value, r8.length = 2 ∧ v6 = .agg ⟨r8⟩ ∧
  newP h7 (.cells ⟨[.int .i64 0, .int .i64 0]⟩ 50 (0, 0)) fun b9 h10 =>
  stN h10 (bk b9) r8 2 fun h11 =>
  ldI h11 ((bk b9).add 0) .i64 fun x12 =>
  ifP (!decide (x12 = 0)) (ldN h11 (bk b9) 2 fun x13 =>
  stN h11 (bk b3) x13 2 fun h14 =>
  ldN h14 (bk b3) 2 fun x15 =>
  R (.ret (.agg ⟨x15⟩)) h14)
  (ifP (decide (p1_left < 0)) (stN h11 (bk b3) [.int .i64 140, .int .i64 0] 2 fun h16 =>
  ldN h16 (bk b3) 2 fun x17 =>
  R (.ret (.agg ⟨x17⟩)) h16) (ldI h11 ((bk b1).add 0) .i64 fun x18 =>
  ifP (decide (x18 < p1_left)) (stN h11 (bk b3) [.int .i64 140, .int .i64 0] 2 fun h19 =>
  ldN h19 (bk b3) 2 fun x20 =>
  R (.ret (.agg ⟨x20⟩)) h19)
  (ldV h11 ((bk b1).add 1) fun x21 =>
  slcP x21 fun a22 l23 c24 =>
  ∃ (I25 : (Int × Unit) → H → Prop) (r26 : (Int × Unit) × H → (Int × Unit) × H → Prop), WellFounded r26 ∧ I25 (0, ()) h11 ∧
  ∀ (s28 : Int) (h27 : H), I25 (s28, ()) h27 →
  ifP (decide (s28 < ((l23 : Nat) : Int))) (ixS x21 s28 4 fun a29 =>
  ldN h27 a29 4 fun x30 =>
  newP h27 (.cells ⟨[.int .i64 0, .int .i64 0, .int .i64 0, .int .i64 0]⟩ 44 (0, 0)) fun b31 h32 =>
  stN h32 (bk b31) x30 4 fun h33 =>
  ldI h33 ((bk b31).add 0) .i64 fun x34 =>
  ldI h33 ((bk b31).add 1) .i64 fun x35 =>
  ifP ((decide (x34 < p1_left)) == (decide (x35 < p1_left))) (stN h33 (bk b3) [.int .i64 140, .int .i64 s28] 2 fun h36 =>
  ldN h36 (bk b3) 2 fun x37 =>
  R (.ret (.agg ⟨x37⟩)) h36)
  (I25 ((IntKind.i64.wrap (s28 + 1)), ()) h33 ∧ r26 (((IntKind.i64.wrap (s28 + 1)), ()), h33) ((s28, ()), h27)))
  (stN h27 (bk b3) [.int .i64 0, .int .i64 0] 2 fun h38 =>
  ldN h38 (bk b3) 2 fun x39 =>
  R (.ret (.agg ⟨x39⟩)) h38))))) (fun v40 h41 => R (.pan v40) h41))
theorem E_bimatch_Sides {p0_g : List Value} {p1_left : Int} {R : Res → H → Prop} {h : H} (H0 : B_bimatch_Sides p0_g p1_left R h) : T Tryz.prog F.bimatch_Sides [.agg ⟨p0_g⟩, .int .i64 p1_left] h R :=
  T_intro A_bimatch_Sides Tryz.func13 (c := bodyOf Tryz.f13) (by kernel_rfl) (by kernel_rfl) (by kernel_rfl) (cast_of (by kernel_rfl) H0)

def A_graph_Check : An := ⟨lkA [(0, rng 2), (1, rng 14), (2, rng 2), (3, rng 4), (4, rng 1), (5, rng 6), (6, rng 23), (7, rng 3), (8, rng 4), (9, rng 3), (10, rng 2), (11, rng 2)], lkL [(4, [(23, .int .i64)])], lkC [(3, [])]⟩
def B_graph_Check (p0_g : List Value) (R : Res → H → Prop) (h : H) : Prop :=
  newP h (.cells ⟨p0_g⟩ 24 (0, 0)) fun b1 h2 =>
  newP h2 (.cells ⟨[.int .i64 0, .int .i64 0]⟩ 50 (0, 0)) fun b3 h4 =>
  ∃ J5 : (Unit) → H → Prop, (ldI h4 ((bk b1).add 0) .i64 fun x7 =>
  ifP (decide (x7 < 0)) (stN h4 (bk b3) [.int .i64 3, .int .i64 0] 2 fun h8 =>
  ldN h8 (bk b3) 2 fun x9 =>
  R (.ret (.agg ⟨x9⟩)) h8) (ldI h4 ((bk b1).add 0) .i64 fun x10 =>
  ifP (decide (1024 < x10)) (stN h4 (bk b3) [.int .i64 3, .int .i64 0] 2 fun h11 =>
  ldN h11 (bk b3) 2 fun x12 =>
  R (.ret (.agg ⟨x12⟩)) h11) (ldV h4 ((bk b1).add 1) fun x13 =>
  slcP x13 fun a14 l15 c16 =>
  ifP (decide (4096 < ((l15 : Nat) : Int))) (stN h4 (bk b3) [.int .i64 3, .int .i64 0] 2 fun h17 =>
  ldN h17 (bk b3) 2 fun x18 =>
  R (.ret (.agg ⟨x18⟩)) h17)
  (J5 (()) h4)))) ∧
  (∀  (h6 : H), J5 (()) h6 →
  ldV h6 ((bk b1).add 1) fun x19 =>
  slcP x19 fun a20 l21 c22 =>
  ∃ (I23 : (Int × Unit) → H → Prop) (r24 : (Int × Unit) × H → (Int × Unit) × H → Prop), WellFounded r24 ∧ I23 (0, ()) h6 ∧
  ∀ (s26 : Int) (h25 : H), I23 (s26, ()) h25 →
  ifP (decide (s26 < ((l21 : Nat) : Int))) (ixS x19 s26 4 fun a27 =>
  ldN h25 a27 4 fun x28 =>
  newP h25 (.cells ⟨[.int .i64 0, .int .i64 0, .int .i64 0, .int .i64 0]⟩ 44 (0, 0)) fun b29 h30 =>
  stN h30 (bk b29) x28 4 fun h31 =>
  ldI h31 ((bk b29).add 0) .i64 fun x32 =>
  ifP (decide (x32 < 0)) (stN h31 (bk b3) [.int .i64 30, .int .i64 s26] 2 fun h33 =>
  ldN h33 (bk b3) 2 fun x34 =>
  R (.ret (.agg ⟨x34⟩)) h33) (ldI h31 ((bk b29).add 0) .i64 fun x35 =>
  ldI h31 ((bk b1).add 0) .i64 fun x36 =>
  ifP (decide (x36 ≤ x35)) (stN h31 (bk b3) [.int .i64 30, .int .i64 s26] 2 fun h37 =>
  ldN h37 (bk b3) 2 fun x38 =>
  R (.ret (.agg ⟨x38⟩)) h37) (ldI h31 ((bk b29).add 1) .i64 fun x39 =>
  ifP (decide (x39 < 0)) (stN h31 (bk b3) [.int .i64 30, .int .i64 s26] 2 fun h40 =>
  ldN h40 (bk b3) 2 fun x41 =>
  R (.ret (.agg ⟨x41⟩)) h40) (ldI h31 ((bk b29).add 1) .i64 fun x42 =>
  ldI h31 ((bk b1).add 0) .i64 fun x43 =>
  ifP (decide (x43 ≤ x42)) (stN h31 (bk b3) [.int .i64 30, .int .i64 s26] 2 fun h44 =>
  ldN h44 (bk b3) 2 fun x45 =>
  R (.ret (.agg ⟨x45⟩)) h44)
  (ldN h31 (bk b29) 4 fun x46 =>
  T Tryz.prog F.graph_label [.agg ⟨x46⟩] h31 (rt (fun v47 h48 =>
  ∃ r49, v47 = .bool r49 ∧
  ifP (!r49) (stN h48 (bk b3) [.int .i64 31, .int .i64 s26] 2 fun h50 =>
  ldN h50 (bk b3) 2 fun x51 =>
  R (.ret (.agg ⟨x51⟩)) h50)
  (I23 ((IntKind.i64.wrap (s26 + 1)), ()) h48 ∧ r24 (((IntKind.i64.wrap (s26 + 1)), ()), h48) ((s26, ()), h25))) (fun v52 h53 => R (.pan v52) h53)))))))
  (stN h25 (bk b3) [.int .i64 0, .int .i64 0] 2 fun h54 =>
  ldN h54 (bk b3) 2 fun x55 =>
  R (.ret (.agg ⟨x55⟩)) h54))
theorem E_graph_Check {p0_g : List Value} {R : Res → H → Prop} {h : H} (H0 : B_graph_Check p0_g R h) : T Tryz.prog F.graph_Check [.agg ⟨p0_g⟩] h R :=
  T_intro A_graph_Check Tryz.func17 (c := bodyOf Tryz.f17) (by kernel_rfl) (by kernel_rfl) (by kernel_rfl) (cast_of (by kernel_rfl) H0)

def A_mincost_supplied : An := ⟨lkA [(0, rng 2), (1, rng 5), (2, rng 1), (3, rng 1), (4, rng 3), (5, rng 1), (6, rng 3), (7, rng 6), (8, rng 1), (9, rng 4), (10, rng 2), (11, rng 2), (12, rng 1), (13, rng 1)], lkL [(5, [(5, .int .i64), (15, .int .i64)])], lkC []⟩
def B_mincost_supplied (p0_g : List Value) (p1_supply : Value) (R : Res → H → Prop) (h : H) : Prop :=
  newP h (.cells ⟨p0_g⟩ 24 (0, 0)) fun b1 h2 =>
  slcP p1_supply fun a3 l4 c5 =>
  ldI h2 ((bk b1).add 0) .i64 fun x6 =>
  ifP (!decide (((l4 : Nat) : Int) = x6)) (R (.ret (.int .i64 130)) h2)
  (slcP p1_supply fun a7 l8 c9 =>
  ∃ (I10 : (Int × Int × Unit) → H → Prop) (r11 : (Int × Int × Unit) × H → (Int × Int × Unit) × H → Prop), WellFounded r11 ∧ I10 (0, 0, ()) h2 ∧
  ∀ (sum_13 : Int) (s14 : Int) (h12 : H), I10 (sum_13, s14, ()) h12 →
  ifP (decide (s14 < ((l8 : Nat) : Int))) (ixS p1_supply s14 1 fun a15 =>
  ldI h12 a15 .i64 fun x16 =>
  ifP (decide (x16 < (-1048576))) (R (.ret (.int .i64 130)) h12) (ifP (decide (1048576 < x16)) (R (.ret (.int .i64 130)) h12)
  (I10 ((IntKind.i64.wrap (sum_13 + x16)), (IntKind.i64.wrap (s14 + 1)), ()) h12 ∧ r11 (((IntKind.i64.wrap (sum_13 + x16)), (IntKind.i64.wrap (s14 + 1)), ()), h12) ((sum_13, s14, ()), h12))))
  (ifP (!decide (sum_13 = 0)) (R (.ret (.int .i64 130)) h12)
  (R (.ret (.int .i64 0)) h12)))
theorem E_mincost_supplied {p0_g : List Value} {p1_supply : Value} {R : Res → H → Prop} {h : H} (H0 : B_mincost_supplied p0_g p1_supply R h) : T Tryz.prog F.mincost_supplied [.agg ⟨p0_g⟩, p1_supply] h R :=
  T_intro A_mincost_supplied Tryz.func18 (c := bodyOf Tryz.f18) (by kernel_rfl) (by kernel_rfl) (by kernel_rfl) (cast_of (by kernel_rfl) H0)

def A_mincost_newNet : An := ⟨lkA [(0, rng 2), (1, ⟨[0, 4, 6, 1, 7, 3, 5, 2, 8, 9, 10, 11], lkN [(5, [1, 7])]⟩), (2, rng 4), (3, rng 1), (4, rng 4), (5, rng 6), (6, ⟨[0, 1, 2, 3, 5, 7, 4, 6, 8, 9, 10, 11, 12, 13], lkN []⟩), (7, ⟨[0, 1, 2, 3, 5, 7, 4, 6, 8, 9, 10, 11, 12, 13], lkN []⟩), (8, ⟨[0, 1, 2, 3, 5, 4, 6, 7, 8, 9, 10, 11], lkN []⟩), (9, ⟨[0, 1, 2, 3, 5, 7, 4, 6, 8, 9, 10, 11, 12, 13, 14], lkN []⟩), (10, ⟨[0, 1, 2, 4, 6, 7, 8, 10, 14, 3, 5, 9, 11, 12, 13, 15, 16, 17, 18], lkN [(16, [3, 5])]⟩), (11, ⟨[0, 1, 2, 4, 6, 7, 8, 10, 14, 15, 3, 5, 9, 11, 12, 13, 16, 17, 18, 19], lkN [(17, [3, 5])]⟩), (12, rng 2), (13, rng 2)], lkL [(3, [(23, .int .i64)])], lkC []⟩
def B_mincost_newNet (p0_g : List Value) (p1_supply : Value) (R : Res → H → Prop) (h : H) : Prop :=
  newP h (.cells ⟨p0_g⟩ 24 (0, 0)) fun b1 h2 =>
  ldI h2 ((bk b1).add 0) .i64 fun x3 =>
  ldI h2 ((bk b1).add 0) .i64 fun x4 =>
  newP h2 (.cells ⟨[]⟩ 2 (0, 0)) fun b5 h6 =>
  apP (.slice (some (bk b5)) 0 0) p1_supply h6 1 2 8 [.int .i64 0] fun s7 h8 =>
  (sameAt 2 ((bk b1).add 0) h6 h8) ∧
  (sameAt 2 ((bk b1).add 0) h6 h8) ∧
  mkS x3 x3 24 [.slice none 0 0] 27 h8 fun b9 h10 =>
  mkS x4 x4 8 [.int .i64 0] 2 h10 fun b11 h12 =>
  oneP s7 (newP h12 (.cells ⟨[.slice none 0 0, .slice none 0 0, .slice none 0 0, .slice none 0 0, .slice (some (bk b9)) x3.toNat x3.toNat, s7, .slice (some (bk b11)) x4.toNat x4.toNat]⟩ 76 (0, 0)) fun b13 h14 =>
  ldV h14 ((bk b1).add 1) fun x15 =>
  slcP x15 fun a16 l17 c18 =>
  ∃ (I19 : (Int × Unit) → H → Prop) (r20 : (Int × Unit) × H → (Int × Unit) × H → Prop), WellFounded r20 ∧ I19 (0, ()) h14 ∧
  ∀ (s22 : Int) (h21 : H), I19 (s22, ()) h21 →
  ifP (decide (s22 < ((l17 : Nat) : Int))) (ixS x15 s22 4 fun a23 =>
  ldN h21 a23 4 fun x24 =>
  newP h21 (.cells ⟨[.int .i64 0, .int .i64 0, .int .i64 0, .int .i64 0]⟩ 44 (0, 0)) fun b25 h26 =>
  stN h26 (bk b25) x24 4 fun h27 =>
  ldV h27 ((bk b13).add 1) fun x28 =>
  slcP x28 fun a29 l30 c31 =>
  ldV h27 ((bk b13).add 0) fun x32 =>
  ldI h27 ((bk b25).add 0) .i64 fun x33 =>
  ldI h27 ((bk b25).add 1) .i64 fun x34 =>
  newP h27 (.cells ⟨[.int .i64 x33, .int .i64 x34]⟩ 3 (0, 0)) fun b35 h36 =>
  apP x32 (.slice (some (bk b35)) 2 2) h36 1 3 8 [.int .i64 0] fun s37 h38 =>
  oneP s37 (stC h38 ((bk b13).add 0) s37 fun h39 =>
  ldV h39 ((bk b13).add 1) fun x40 =>
  ldI h39 ((bk b25).add 1) .i64 fun x41 =>
  ldI h39 ((bk b25).add 0) .i64 fun x42 =>
  newP h39 (.cells ⟨[.int .i64 x41, .int .i64 x42]⟩ 3 (0, 0)) fun b43 h44 =>
  apP x40 (.slice (some (bk b43)) 2 2) h44 1 3 8 [.int .i64 0] fun s45 h46 =>
  oneP s45 (stC h46 ((bk b13).add 1) s45 fun h47 =>
  ldV h47 ((bk b13).add 2) fun x48 =>
  ldI h47 ((bk b25).add 2) .i64 fun x49 =>
  newP h47 (.cells ⟨[.int .i64 x49, .int .i64 0]⟩ 2 (0, 0)) fun b50 h51 =>
  apP x48 (.slice (some (bk b50)) 2 2) h51 1 2 8 [.int .i64 0] fun s52 h53 =>
  oneP s52 (stC h53 ((bk b13).add 2) s52 fun h54 =>
  ldV h54 ((bk b13).add 3) fun x55 =>
  ldI h54 ((bk b25).add 3) .i64 fun x56 =>
  ldI h54 ((bk b25).add 3) .i64 fun x57 =>
  newP h54 (.cells ⟨[.int .i64 x56, .int .i64 (IntKind.i64.wrap (0 - x57))]⟩ 2 (0, 0)) fun b58 h59 =>
  apP x55 (.slice (some (bk b58)) 2 2) h59 1 2 8 [.int .i64 0] fun s60 h61 =>
  oneP s60 (stC h61 ((bk b13).add 3) s60 fun h62 =>
  ldV h62 ((bk b13).add 4) fun x63 =>
  ldI h62 ((bk b25).add 0) .i64 fun x64 =>
  ldV h62 ((bk b13).add 4) fun x65 =>
  ldI h62 ((bk b25).add 0) .i64 fun x66 =>
  ixS x65 x66 1 fun a67 =>
  ldV h62 a67 fun x68 =>
  newP h62 (.cells ⟨[.int .i64 ((l30 : Nat) : Int)]⟩ 3 (0, 0)) fun b69 h70 =>
  apP x68 (.slice (some (bk b69)) 1 1) h70 1 3 8 [.int .i64 0] fun s71 h72 =>
  (sameAt 2 ((bk b25).add 0) h70 h72) ∧
  (sameAt 2 ((bk b13).add 4) h70 h72) ∧
  ixS x63 x64 1 fun a73 =>
  oneP s71 (stC h72 a73 s71 fun h74 =>
  ldV h74 ((bk b13).add 4) fun x75 =>
  ldI h74 ((bk b25).add 1) .i64 fun x76 =>
  ldV h74 ((bk b13).add 4) fun x77 =>
  ldI h74 ((bk b25).add 1) .i64 fun x78 =>
  ixS x77 x78 1 fun a79 =>
  ldV h74 a79 fun x80 =>
  newP h74 (.cells ⟨[.int .i64 (IntKind.i64.wrap (((l30 : Nat) : Int) + 1))]⟩ 3 (0, 0)) fun b81 h82 =>
  apP x80 (.slice (some (bk b81)) 1 1) h82 1 3 8 [.int .i64 0] fun s83 h84 =>
  (sameAt 2 ((bk b25).add 1) h82 h84) ∧
  (sameAt 2 ((bk b13).add 4) h82 h84) ∧
  ixS x75 x76 1 fun a85 =>
  oneP s83 (stC h84 a85 s83 fun h86 =>
  I19 ((IntKind.i64.wrap (s22 + 1)), ()) h86 ∧ r20 (((IntKind.i64.wrap (s22 + 1)), ()), h86) ((s22, ()), h21))))))))
  (R (.ret (.pointer (some (bk b13)))) h21))
theorem E_mincost_newNet {p0_g : List Value} {p1_supply : Value} {R : Res → H → Prop} {h : H} (H0 : B_mincost_newNet p0_g p1_supply R h) : T Tryz.prog F.mincost_newNet [.agg ⟨p0_g⟩, p1_supply] h R :=
  T_intro A_mincost_newNet Tryz.func19 (c := bodyOf Tryz.f19) (by kernel_rfl) (by kernel_rfl) (by kernel_rfl) (cast_of (by kernel_rfl) H0)

def A_bimatch_pairs_cover : An := ⟨lkA [(0, rng 1), (1, rng 7), (2, rng 1), (3, rng 5), (4, rng 1), (5, rng 2), (6, rng 8), (7, rng 4), (8, rng 5), (9, rng 2), (10, rng 3), (11, rng 7), (12, rng 6), (13, rng 9), (14, rng 1), (15, rng 3), (16, rng 5), (17, rng 4), (18, rng 4), (19, rng 11), (20, rng 5), (21, rng 4), (22, rng 5), (23, rng 2), (24, rng 1), (25, rng 3), (26, rng 1), (27, rng 5), (28, rng 8), (29, rng 5), (30, rng 2), (31, rng 2)], lkL [(4, [(4, .val), (24, .int .i64)]), (10, [(4, .val)]), (14, [(4, .val), (65, .int .i64)]), (26, [(11, .val), (105, .int .i64)])], lkC []⟩
def B_bimatch_pairs_cover (p0_p : Value) (R : Res → H → Prop) (h : H) : Prop :=
  ptrP p0_p fun a1 =>
  ldI h ((a1.add 0).add 0) .i64 fun x2 =>
  mkS x2 x2 1 [.bool false] 4 h fun b3 h4 =>
  ptrP p0_p fun a5 =>
  ldI h4 (a5.add 2) .i64 fun x6 =>
  ∃ (I7 : (Value × Int × Unit) → H → Prop) (r8 : (Value × Int × Unit) × H → (Value × Int × Unit) × H → Prop), WellFounded r8 ∧ I7 ((.slice none 0 0 : Value), 0, ()) h4 ∧
  ∀ (stack_10 : Value) (s11 : Int) (h9 : H), I7 (stack_10, s11, ()) h9 →
  ifP (decide (s11 < x6)) (ptrP p0_p fun a12 =>
  ldV h9 (a12.add 4) fun x13 =>
  ixS x13 s11 1 fun a14 =>
  ldI h9 a14 .i64 fun x15 =>
  ifP (decide (x15 < 0)) (ixS (.slice (some (bk b3)) x2.toNat x2.toNat) s11 1 fun a16 =>
  stC h9 a16 (.bool true) fun h17 =>
  newP h17 (.cells ⟨[.int .i64 s11]⟩ 3 (0, 0)) fun b18 h19 =>
  apP stack_10 (.slice (some (bk b18)) 1 1) h19 1 3 8 [.int .i64 0] fun s20 h21 =>
  I7 (s20, (IntKind.i64.wrap (s11 + 1)), ()) h21 ∧ r8 ((s20, (IntKind.i64.wrap (s11 + 1)), ()), h21) ((stack_10, s11, ()), h9))
  (I7 (stack_10, (IntKind.i64.wrap (s11 + 1)), ()) h9 ∧ r8 ((stack_10, (IntKind.i64.wrap (s11 + 1)), ()), h9) ((stack_10, s11, ()), h9)))
  (∃ (I22 : (Value × Unit) → H → Prop) (r23 : (Value × Unit) × H → (Value × Unit) × H → Prop), WellFounded r23 ∧ I22 (stack_10, ()) h9 ∧
  ∀ (stack_25 : Value) (h24 : H), I22 (stack_25, ()) h24 →
  slcP stack_25 fun a26 l27 c28 =>
  ifP (decide (0 < ((l27 : Nat) : Int))) (slcP stack_25 fun a29 l30 c31 =>
  ixS stack_25 (IntKind.i64.wrap (((l30 : Nat) : Int) - 1)) 1 fun a32 =>
  ldI h24 a32 .i64 fun x33 =>
  slcP stack_25 fun a34 l35 c36 =>
  slcP stack_25 fun a37 l38 c39 =>
  (0 : Int) ≤ (IntKind.i64.wrap (((l35 : Nat) : Int) - 1)) ∧ (IntKind.i64.wrap (((l35 : Nat) : Int) - 1)) ≤ ((c39 : Nat) : Int) ∧
  (0 : Int) ≤ (0 : Int) ∧ (0 : Int) ≤ (IntKind.i64.wrap (((l35 : Nat) : Int) - 1)) ∧
  ptrP p0_p fun a40 =>
  ldV h24 (a40.add 3) fun x41 =>
  ixS x41 x33 1 fun a42 =>
  ldV h24 a42 fun x43 =>
  slcP x43 fun a44 l45 c46 =>
  ∃ (I47 : (Value × Int × Unit) → H → Prop) (r48 : (Value × Int × Unit) × H → (Value × Int × Unit) × H → Prop), WellFounded r48 ∧ I47 ((sliceV a37 c39 (0 : Int) (IntKind.i64.wrap (((l35 : Nat) : Int) - 1)) 1), 0, ()) h24 ∧
  ∀ (stack_50 : Value) (s51 : Int) (h49 : H), I47 (stack_50, s51, ()) h49 →
  ifP (decide (s51 < ((l45 : Nat) : Int))) (ixS x43 s51 1 fun a52 =>
  ldI h49 a52 .i64 fun x53 =>
  T Tryz.prog F.bimatch_pairs_other [p0_p, .int .i64 x53, .int .i64 x33] h49 (rt (fun v54 h55 =>
  ∃ r56, v54 = .int .i64 r56 ∧
  ixS (.slice (some (bk b3)) x2.toNat x2.toNat) r56 1 fun a57 =>
  ldB h55 a57 fun x58 =>
  ifP x58 (I47 (stack_50, (IntKind.i64.wrap (s51 + 1)), ()) h55 ∧ r48 ((stack_50, (IntKind.i64.wrap (s51 + 1)), ()), h55) ((stack_50, s51, ()), h49))
  (ixS (.slice (some (bk b3)) x2.toNat x2.toNat) r56 1 fun a59 =>
  stC h55 a59 (.bool true) fun h60 =>
  ptrP p0_p fun a61 =>
  ldV h60 (a61.add 4) fun x62 =>
  ixS x62 r56 1 fun a63 =>
  ldI h60 a63 .i64 fun x64 =>
  T Tryz.prog F.bimatch_pairs_other [p0_p, .int .i64 x64, .int .i64 r56] h60 (rt (fun v65 h66 =>
  ∃ r67, v65 = .int .i64 r67 ∧
  ixS (.slice (some (bk b3)) x2.toNat x2.toNat) r67 1 fun a68 =>
  ldB h66 a68 fun x69 =>
  ifP (!x69) (ixS (.slice (some (bk b3)) x2.toNat x2.toNat) r67 1 fun a70 =>
  stC h66 a70 (.bool true) fun h71 =>
  newP h71 (.cells ⟨[.int .i64 r67]⟩ 3 (0, 0)) fun b72 h73 =>
  apP stack_50 (.slice (some (bk b72)) 1 1) h73 1 3 8 [.int .i64 0] fun s74 h75 =>
  I47 (s74, (IntKind.i64.wrap (s51 + 1)), ()) h75 ∧ r48 ((s74, (IntKind.i64.wrap (s51 + 1)), ()), h75) ((stack_50, s51, ()), h49))
  (I47 (stack_50, (IntKind.i64.wrap (s51 + 1)), ()) h66 ∧ r48 ((stack_50, (IntKind.i64.wrap (s51 + 1)), ()), h66) ((stack_50, s51, ()), h49))) (fun v76 h77 => R (.pan v76) h77)))) (fun v78 h79 => R (.pan v78) h79)))
  (I22 (stack_50, ()) h49 ∧ r23 ((stack_50, ()), h49) ((stack_25, ()), h24)))
  (∃ (I80 : (Value × Int × Unit) → H → Prop) (r81 : (Value × Int × Unit) × H → (Value × Int × Unit) × H → Prop), WellFounded r81 ∧ I80 ((.slice none 0 0 : Value), 0, ()) h24 ∧
  ∀ (out_83 : Value) (s84 : Int) (h82 : H), I80 (out_83, s84, ()) h82 →
  ifP (decide (s84 < ((x2.toNat : Nat) : Int))) (ixS (.slice (some (bk b3)) x2.toNat x2.toNat) s84 1 fun a85 =>
  ldB h82 a85 fun x86 =>
  ptrP p0_p fun a87 =>
  ldI h82 (a87.add 2) .i64 fun x88 =>
  ifP (!(x86 == (decide (s84 < x88)))) (newP h82 (.cells ⟨[.int .i64 s84]⟩ 3 (0, 0)) fun b89 h90 =>
  apP out_83 (.slice (some (bk b89)) 1 1) h90 1 3 8 [.int .i64 0] fun s91 h92 =>
  I80 (s91, (IntKind.i64.wrap (s84 + 1)), ()) h92 ∧ r81 ((s91, (IntKind.i64.wrap (s84 + 1)), ()), h92) ((out_83, s84, ()), h82))
  (I80 (out_83, (IntKind.i64.wrap (s84 + 1)), ()) h82 ∧ r81 ((out_83, (IntKind.i64.wrap (s84 + 1)), ()), h82) ((out_83, s84, ()), h82)))
  (R (.ret out_83) h82)))
theorem E_bimatch_pairs_cover {p0_p : Value} {R : Res → H → Prop} {h : H} (H0 : B_bimatch_pairs_cover p0_p R h) : T Tryz.prog F.bimatch_pairs_cover [p0_p] h R :=
  T_intro A_bimatch_pairs_cover Tryz.func21 (c := bodyOf Tryz.f21) (by kernel_rfl) (by kernel_rfl) (by kernel_rfl) (cast_of (by kernel_rfl) H0)

def A_maxflow_newNet : An := ⟨lkA [(0, rng 2), (1, rng 8), (2, rng 4), (3, rng 1), (4, rng 4), (5, rng 6), (6, ⟨[0, 1, 2, 3, 5, 7, 4, 6, 8, 9, 10, 11, 12, 13], lkN []⟩), (7, ⟨[0, 1, 2, 3, 5, 4, 6, 7, 8, 9, 10, 11], lkN []⟩), (8, ⟨[0, 1, 2, 4, 6, 7, 8, 10, 14, 3, 5, 9, 11, 12, 13, 15, 16, 17, 18], lkN [(16, [3, 5])]⟩), (9, ⟨[0, 1, 2, 4, 6, 7, 8, 10, 14, 15, 3, 5, 9, 11, 12, 13, 16, 17, 18, 19], lkN [(17, [3, 5])]⟩), (10, rng 2), (11, rng 2)], lkL [(3, [(21, .int .i64)])], lkC []⟩
def B_maxflow_newNet (p0_g : List Value) (p1_s : Int) (p2_t : Int) (R : Res → H → Prop) (h : H) : Prop :=
  newP h (.cells ⟨p0_g⟩ 24 (0, 0)) fun b1 h2 =>
  ldI h2 ((bk b1).add 0) .i64 fun x3 =>
  mkS x3 x3 24 [.slice none 0 0] 27 h2 fun b4 h5 =>
  newP h5 (.cells ⟨[.slice none 0 0, .slice none 0 0, .slice (some (bk b4)) x3.toNat x3.toNat, .int .i64 p1_s, .int .i64 p2_t]⟩ 104 (0, 0)) fun b6 h7 =>
  ldV h7 ((bk b1).add 1) fun x8 =>
  slcP x8 fun a9 l10 c11 =>
  ∃ (I12 : (Int × Unit) → H → Prop) (r13 : (Int × Unit) × H → (Int × Unit) × H → Prop), WellFounded r13 ∧ I12 (0, ()) h7 ∧
  ∀ (s15 : Int) (h14 : H), I12 (s15, ()) h14 →
  ifP (decide (s15 < ((l10 : Nat) : Int))) (ixS x8 s15 4 fun a16 =>
  ldN h14 a16 4 fun x17 =>
  newP h14 (.cells ⟨[.int .i64 0, .int .i64 0, .int .i64 0, .int .i64 0]⟩ 44 (0, 0)) fun b18 h19 =>
  stN h19 (bk b18) x17 4 fun h20 =>
  ldV h20 ((bk b6).add 0) fun x21 =>
  slcP x21 fun a22 l23 c24 =>
  ldV h20 ((bk b6).add 0) fun x25 =>
  ldI h20 ((bk b18).add 1) .i64 fun x26 =>
  ldI h20 ((bk b18).add 0) .i64 fun x27 =>
  newP h20 (.cells ⟨[.int .i64 x26, .int .i64 x27]⟩ 3 (0, 0)) fun b28 h29 =>
  apP x25 (.slice (some (bk b28)) 2 2) h29 1 3 8 [.int .i64 0] fun s30 h31 =>
  oneP s30 (stC h31 ((bk b6).add 0) s30 fun h32 =>
  ldV h32 ((bk b6).add 1) fun x33 =>
  ldI h32 ((bk b18).add 2) .i64 fun x34 =>
  newP h32 (.cells ⟨[.int .i64 x34, .int .i64 0]⟩ 2 (0, 0)) fun b35 h36 =>
  apP x33 (.slice (some (bk b35)) 2 2) h36 1 2 8 [.int .i64 0] fun s37 h38 =>
  oneP s37 (stC h38 ((bk b6).add 1) s37 fun h39 =>
  ldV h39 ((bk b6).add 2) fun x40 =>
  ldI h39 ((bk b18).add 0) .i64 fun x41 =>
  ldV h39 ((bk b6).add 2) fun x42 =>
  ldI h39 ((bk b18).add 0) .i64 fun x43 =>
  ixS x42 x43 1 fun a44 =>
  ldV h39 a44 fun x45 =>
  newP h39 (.cells ⟨[.int .i64 ((l23 : Nat) : Int)]⟩ 3 (0, 0)) fun b46 h47 =>
  apP x45 (.slice (some (bk b46)) 1 1) h47 1 3 8 [.int .i64 0] fun s48 h49 =>
  (sameAt 2 ((bk b18).add 0) h47 h49) ∧
  (sameAt 2 ((bk b6).add 2) h47 h49) ∧
  ixS x40 x41 1 fun a50 =>
  oneP s48 (stC h49 a50 s48 fun h51 =>
  ldV h51 ((bk b6).add 2) fun x52 =>
  ldI h51 ((bk b18).add 1) .i64 fun x53 =>
  ldV h51 ((bk b6).add 2) fun x54 =>
  ldI h51 ((bk b18).add 1) .i64 fun x55 =>
  ixS x54 x55 1 fun a56 =>
  ldV h51 a56 fun x57 =>
  newP h51 (.cells ⟨[.int .i64 (IntKind.i64.wrap (((l23 : Nat) : Int) + 1))]⟩ 3 (0, 0)) fun b58 h59 =>
  apP x57 (.slice (some (bk b58)) 1 1) h59 1 3 8 [.int .i64 0] fun s60 h61 =>
  (sameAt 2 ((bk b18).add 1) h59 h61) ∧
  (sameAt 2 ((bk b6).add 2) h59 h61) ∧
  ixS x52 x53 1 fun a62 =>
  oneP s60 (stC h61 a62 s60 fun h63 =>
  I12 ((IntKind.i64.wrap (s15 + 1)), ()) h63 ∧ r13 (((IntKind.i64.wrap (s15 + 1)), ()), h63) ((s15, ()), h14))))))
  (R (.ret (.pointer (some (bk b6)))) h14)
theorem E_maxflow_newNet {p0_g : List Value} {p1_s : Int} {p2_t : Int} {R : Res → H → Prop} {h : H} (H0 : B_maxflow_newNet p0_g p1_s p2_t R h) : T Tryz.prog F.maxflow_newNet [.agg ⟨p0_g⟩, .int .i64 p1_s, .int .i64 p2_t] h R :=
  T_intro A_maxflow_newNet Tryz.func22 (c := bodyOf Tryz.f22) (by kernel_rfl) (by kernel_rfl) (by kernel_rfl) (cast_of (by kernel_rfl) H0)

def A_maxflow_net_levels : An := ⟨lkA [(0, rng 1), (1, rng 7), (2, rng 3), (3, rng 1), (4, rng 2), (5, rng 4), (6, rng 2), (7, rng 4), (8, rng 3), (9, rng 1), (10, rng 4), (11, rng 3), (12, ⟨[0, 1, 2, 4, 5, 6, 11, 3, 7, 8, 9, 10], lkN []⟩), (13, rng 1), (14, rng 3), (15, rng 8), (16, rng 15), (17, rng 12), (18, rng 5), (19, rng 2), (20, rng 2)], lkL [(3, [(20, .int .i64)]), (10, [(7, .val), (8, .int .i64)]), (13, [(7, .val), (49, .int .i64)])], lkC []⟩
def B_maxflow_net_levels (p0_n : Value) (p1_from : Int) (R : Res → H → Prop) (h : H) : Prop :=
  ptrP p0_n fun a1 =>
  ldV h (a1.add 2) fun x2 =>
  slcP x2 fun a3 l4 c5 =>
  mkS ((l4 : Nat) : Int) ((l4 : Nat) : Int) 8 [.int .i64 0] 3 h fun b6 h7 =>
  ∃ (I8 : (Int × Unit) → H → Prop) (r9 : (Int × Unit) × H → (Int × Unit) × H → Prop), WellFounded r9 ∧ I8 (0, ()) h7 ∧
  ∀ (s11 : Int) (h10 : H), I8 (s11, ()) h10 →
  ifP (decide (s11 < ((((l4 : Nat) : Int).toNat : Nat) : Int))) (ixS (.slice (some (bk b6)) (((l4 : Nat) : Int).toNat) (((l4 : Nat) : Int).toNat)) s11 1 fun a12 =>
  stC h10 a12 (.int .i64 (-1)) fun h13 =>
  I8 ((IntKind.i64.wrap (s11 + 1)), ()) h13 ∧ r9 (((IntKind.i64.wrap (s11 + 1)), ()), h13) ((s11, ()), h10))
  (ixS (.slice (some (bk b6)) (((l4 : Nat) : Int).toNat) (((l4 : Nat) : Int).toNat)) p1_from 1 fun a14 =>
  stC h10 a14 (.int .i64 0) fun h15 =>
  newP h15 (.cells ⟨[.int .i64 p1_from]⟩ 3 (0, 0)) fun b16 h17 =>
  ∃ (I18 : (Value × Int × Unit) → H → Prop) (r19 : (Value × Int × Unit) × H → (Value × Int × Unit) × H → Prop), WellFounded r19 ∧ I18 ((.slice (some (bk b16)) 1 1 : Value), 0, ()) h17 ∧
  ∀ (queue_21 : Value) (i_22 : Int) (h20 : H), I18 (queue_21, i_22, ()) h20 →
  slcP queue_21 fun a23 l24 c25 =>
  ifP (decide (i_22 < ((l24 : Nat) : Int))) (ptrP p0_n fun a26 =>
  ixS queue_21 i_22 1 fun a27 =>
  ldV h20 (a26.add 2) fun x28 =>
  ldI h20 a27 .i64 fun x29 =>
  ixS x28 x29 1 fun a30 =>
  ldV h20 a30 fun x31 =>
  slcP x31 fun a32 l33 c34 =>
  ∃ (I35 : (Value × Int × Unit) → H → Prop) (r36 : (Value × Int × Unit) × H → (Value × Int × Unit) × H → Prop), WellFounded r36 ∧ I35 (queue_21, 0, ()) h20 ∧
  ∀ (queue_38 : Value) (s39 : Int) (h37 : H), I35 (queue_38, s39, ()) h37 →
  ifP (decide (s39 < ((l33 : Nat) : Int))) (ixS x31 s39 1 fun a40 =>
  ldI h37 a40 .i64 fun x41 =>
  ptrP p0_n fun a42 =>
  ldV h37 (a42.add 0) fun x43 =>
  ixS x43 x41 1 fun a44 =>
  ldI h37 a44 .i64 fun x45 =>
  ptrP p0_n fun a46 =>
  ldV h37 (a46.add 1) fun x47 =>
  ixS x47 x41 1 fun a48 =>
  ldI h37 a48 .i64 fun x49 =>
  ifP (decide (0 < x49)) (ixS (.slice (some (bk b6)) (((l4 : Nat) : Int).toNat) (((l4 : Nat) : Int).toNat)) x45 1 fun a50 =>
  ldI h37 a50 .i64 fun x51 =>
  ifP (decide (x51 < 0)) (ixS queue_38 i_22 1 fun a52 =>
  ldI h37 a52 .i64 fun x53 =>
  ixS (.slice (some (bk b6)) (((l4 : Nat) : Int).toNat) (((l4 : Nat) : Int).toNat)) x53 1 fun a54 =>
  ldI h37 a54 .i64 fun x55 =>
  ixS (.slice (some (bk b6)) (((l4 : Nat) : Int).toNat) (((l4 : Nat) : Int).toNat)) x45 1 fun a56 =>
  stC h37 a56 (.int .i64 (IntKind.i64.wrap (x55 + 1))) fun h57 =>
  newP h57 (.cells ⟨[.int .i64 x45]⟩ 3 (0, 0)) fun b58 h59 =>
  apP queue_38 (.slice (some (bk b58)) 1 1) h59 1 3 8 [.int .i64 0] fun s60 h61 =>
  I35 (s60, (IntKind.i64.wrap (s39 + 1)), ()) h61 ∧ r36 ((s60, (IntKind.i64.wrap (s39 + 1)), ()), h61) ((queue_38, s39, ()), h37))
  (I35 (queue_38, (IntKind.i64.wrap (s39 + 1)), ()) h37 ∧ r36 ((queue_38, (IntKind.i64.wrap (s39 + 1)), ()), h37) ((queue_38, s39, ()), h37))) (I35 (queue_38, (IntKind.i64.wrap (s39 + 1)), ()) h37 ∧ r36 ((queue_38, (IntKind.i64.wrap (s39 + 1)), ()), h37) ((queue_38, s39, ()), h37)))
  (I18 (queue_38, (IntKind.i64.wrap (i_22 + 1)), ()) h37 ∧ r19 ((queue_38, (IntKind.i64.wrap (i_22 + 1)), ()), h37) ((queue_21, i_22, ()), h20)))
  (R (.ret (.slice (some (bk b6)) (((l4 : Nat) : Int).toNat) (((l4 : Nat) : Int).toNat))) h20))
theorem E_maxflow_net_levels {p0_n : Value} {p1_from : Int} {R : Res → H → Prop} {h : H} (H0 : B_maxflow_net_levels p0_n p1_from R h) : T Tryz.prog F.maxflow_net_levels [p0_n, .int .i64 p1_from] h R :=
  T_intro A_maxflow_net_levels Tryz.func23 (c := bodyOf Tryz.f23) (by kernel_rfl) (by kernel_rfl) (by kernel_rfl) (cast_of (by kernel_rfl) H0)

def A_graph_label : An := ⟨lkA [(0, rng 2), (1, rng 19)], lkL [], lkC []⟩
def B_graph_label (p0_e : List Value) (R : Res → H → Prop) (h : H) : Prop :=
  newP h (.cells ⟨p0_e⟩ 44 (0, 0)) fun b1 h2 =>
  ldI h2 ((bk b1).add 2) .i64 fun x3 =>
  ifP (decide (0 ≤ x3)) (ldI h2 ((bk b1).add 2) .i64 fun x4 =>
  ifP (decide (x4 ≤ 1048576)) (ldI h2 ((bk b1).add 3) .i64 fun x5 =>
  ifP (decide ((-1048576) ≤ x5)) (ldI h2 ((bk b1).add 3) .i64 fun x6 =>
  R (.ret (.bool (decide (x6 ≤ 1048576)))) h2) (R (.ret (.bool false)) h2)) (R (.ret (.bool false)) h2)) (R (.ret (.bool false)) h2)
theorem E_graph_label {p0_e : List Value} {R : Res → H → Prop} {h : H} (H0 : B_graph_label p0_e R h) : T Tryz.prog F.graph_label [.agg ⟨p0_e⟩] h R :=
  T_intro A_graph_label Tryz.func29 (c := bodyOf Tryz.f29) (by kernel_rfl) (by kernel_rfl) (by kernel_rfl) (cast_of (by kernel_rfl) H0)

def A_bimatch_pairs_other : An := ⟨lkA [(0, rng 1), (1, ⟨[0, 1, 2, 3, 5, 9, 10, 11, 12, 14, 19, 4, 6, 7, 8, 13, 15, 16, 17, 18, 20, 21], lkN []⟩)], lkL [], lkC []⟩
def B_bimatch_pairs_other (p0_p : Value) (p1_i : Int) (p2_v : Int) (R : Res → H → Prop) (h : H) : Prop :=
  ptrP p0_p fun a1 =>
  ptrP p0_p fun a2 =>
  ldV h ((a1.add 0).add 1) fun x3 =>
  ixS x3 p1_i 4 fun a4 =>
  ldI h (a4.add 0) .i64 fun x5 =>
  ldV h ((a2.add 0).add 1) fun x6 =>
  ixS x6 p1_i 4 fun a7 =>
  ldI h (a7.add 1) .i64 fun x8 =>
  R (.ret (.int .i64 (IntKind.i64.wrap ((IntKind.i64.wrap (x5 + x8)) - p2_v)))) h
theorem E_bimatch_pairs_other {p0_p : Value} {p1_i : Int} {p2_v : Int} {R : Res → H → Prop} {h : H} (H0 : B_bimatch_pairs_other p0_p p1_i p2_v R h) : T Tryz.prog F.bimatch_pairs_other [p0_p, .int .i64 p1_i, .int .i64 p2_v] h R :=
  T_intro A_bimatch_pairs_other Tryz.func30 (c := bodyOf Tryz.f30) (by kernel_rfl) (by kernel_rfl) (by kernel_rfl) (cast_of (by kernel_rfl) H0)

def A_heaps_New : An := ⟨lkA [(0, rng 2), (1, rng 6), (2, rng 2), (3, rng 6), (4, rng 2), (5, ⟨[0, 1, 3, 2, 4, 5, 6, 7, 8], lkN []⟩), (6, rng 1), (7, rng 2), (8, rng 12), (9, rng 2), (10, rng 12), (11, rng 2), (12, rng 12), (13, rng 2), (14, rng 8), (15, rng 3)], lkL [], lkC []⟩
def B_heaps_New (p0_kind : Int) (p1_n : Int) (R : Res → H → Prop) (h : H) : Prop :=
  ifP (decide (p0_kind < 1)) (R (.ret (.tuple ⟨[.pointer none, .int .i64 50]⟩)) h) (ifP (decide (4 < p0_kind)) (R (.ret (.tuple ⟨[.pointer none, .int .i64 50]⟩)) h)
  (ifP (decide (p1_n < 0)) (R (.ret (.tuple ⟨[.pointer none, .int .i64 3]⟩)) h) (ifP (decide (1024 < p1_n)) (R (.ret (.tuple ⟨[.pointer none, .int .i64 3]⟩)) h)
  (mkS p1_n p1_n 8 [.int .i64 0] 2 h fun b1 h2 =>
  mkS p1_n p1_n 1 [.bool false] 4 h2 fun b3 h4 =>
  ([.slice (some (bk b1)) p1_n.toNat p1_n.toNat, .slice (some (bk b3)) p1_n.toNat p1_n.toNat] : List Value).length = 2 ∧
  newP h4 (.cells ⟨[.slice (some (bk b1)) p1_n.toNat p1_n.toNat, .slice (some (bk b3)) p1_n.toNat p1_n.toNat, .nilIface, .int .i64 0, .int .i64 p0_kind, .int .i64 0]⟩ 144 (0, 0)) fun b5 h6 =>
  ifP (decide (p0_kind = 1)) (mkS p1_n p1_n 8 [.int .i64 0] 3 h6 fun b7 h8 =>
  newP h8 (.cells ⟨[.pointer (some ((bk b5).add 0)), .slice none 0 0, .slice (some (bk b7)) p1_n.toNat p1_n.toNat]⟩ 148 (0, 0)) fun b9 h10 =>
  stC h10 ((bk b5).add 2) (.iface 145 (.pointer (some (bk b9)))) fun h11 =>
  R (.ret (.tuple ⟨[.pointer (some (bk b5)), .int .i64 0]⟩)) h11)
  (ifP (decide (p0_kind = 2)) (mkS p1_n p1_n 24 [.int .i64 0, .int .i64 0, .int .i64 0] 212 h6 fun b12 h13 =>
  newP h13 (.cells ⟨[.pointer (some ((bk b5).add 0)), .int .i64 (-1), .slice (some (bk b12)) p1_n.toNat p1_n.toNat]⟩ 152 (0, 0)) fun b14 h15 =>
  stC h15 ((bk b5).add 2) (.iface 149 (.pointer (some (bk b14)))) fun h16 =>
  R (.ret (.tuple ⟨[.pointer (some (bk b5)), .int .i64 0]⟩)) h16)
  (ifP (decide (p0_kind = 3)) (mkS p1_n p1_n 48 [.int .i64 0, .int .i64 0, .int .i64 0, .int .i64 0, .int .i64 0, .bool false] 214 h6 fun b17 h18 =>
  newP h18 (.cells ⟨[.pointer (some ((bk b5).add 0)), .int .i64 (-1), .slice (some (bk b17)) p1_n.toNat p1_n.toNat]⟩ 156 (0, 0)) fun b19 h20 =>
  stC h20 ((bk b5).add 2) (.iface 153 (.pointer (some (bk b19)))) fun h21 =>
  R (.ret (.tuple ⟨[.pointer (some (bk b5)), .int .i64 0]⟩)) h21)
  (ifP (decide (p0_kind = 4)) (newP h6 (.cells ⟨[.pointer (some (bk b5)), .int .i64 0, .slice none 0 0, .slice none 0 0, .slice none 0 0, .slice none 0 0, .slice none 0 0, .slice none 0 0, .slice none 0 0, .slice none 0 0, .slice none 0 0, .slice none 0 0, .slice none 0 0, .slice none 0 0, .slice none 0 0, .slice none 0 0, .slice none 0 0, .slice none 0 0, .slice none 0 0, .slice none 0 0, .slice none 0 0, .slice none 0 0, .slice none 0 0, .slice none 0 0, .slice none 0 0, .slice none 0 0, .slice none 0 0, .slice none 0 0, .slice none 0 0, .slice none 0 0, .slice none 0 0, .slice none 0 0, .slice none 0 0, .slice none 0 0, .slice none 0 0, .slice none 0 0, .slice none 0 0, .slice none 0 0, .slice none 0 0, .slice none 0 0, .slice none 0 0, .slice none 0 0, .slice none 0 0, .slice none 0 0, .slice none 0 0, .slice none 0 0, .slice none 0 0, .slice none 0 0, .slice none 0 0, .slice none 0 0, .slice none 0 0, .slice none 0 0, .slice none 0 0, .slice none 0 0, .slice none 0 0, .slice none 0 0, .slice none 0 0, .slice none 0 0, .slice none 0 0, .slice none 0 0, .slice none 0 0, .slice none 0 0, .slice none 0 0, .slice none 0 0, .slice none 0 0, .slice none 0 0, .slice none 0 0]⟩ 160 (0, 0)) fun b22 h23 =>
  stC h23 ((bk b5).add 2) (.iface 157 (.pointer (some (bk b22)))) fun h24 =>
  R (.ret (.tuple ⟨[.pointer (some (bk b5)), .int .i64 0]⟩)) h24)
  (R (.ret (.tuple ⟨[.pointer (some (bk b5)), .int .i64 0]⟩)) h6))))))))
theorem E_heaps_New {p0_kind : Int} {p1_n : Int} {R : Res → H → Prop} {h : H} (H0 : B_heaps_New p0_kind p1_n R h) : T Tryz.prog F.heaps_New [.int .i64 p0_kind, .int .i64 p1_n] h R :=
  T_intro A_heaps_New Tryz.func32 (c := bodyOf Tryz.f32) (by kernel_rfl) (by kernel_rfl) (by kernel_rfl) (cast_of (by kernel_rfl) H0)

def A_heaps_Queue_Push : An := ⟨lkA [(0, rng 1), (1, rng 13), (2, rng 1), (3, rng 9), (4, rng 1), (5, rng 4), (6, rng 1), (7, ⟨[0, 1, 2, 3, 5, 6, 7, 8, 9, 11, 12, 4, 10, 13, 14, 15, 16], lkN []⟩), (8, rng 8), (9, rng 6), (10, rng 1)], lkL [], lkC []⟩
def B_heaps_Queue_Push (p0_q : Value) (p1_h : Int) (p2_key : Int) (R : Res → H → Prop) (h : H) : Prop :=
  ifP (decide (p1_h < 0)) (R (.ret (.int .i64 30)) h) (ptrP p0_q fun a1 =>
  ldV h ((a1.add 0).add 1) fun x2 =>
  slcP x2 fun a3 l4 c5 =>
  ifP (decide (((l4 : Nat) : Int) ≤ p1_h)) (R (.ret (.int .i64 30)) h)
  (ptrP p0_q fun a6 =>
  ldV h ((a6.add 0).add 1) fun x7 =>
  ixS x7 p1_h 1 fun a8 =>
  ldB h a8 fun x9 =>
  ifP x9 (R (.ret (.int .i64 51)) h)
  (T Tryz.prog F.heaps_Queue_low [p0_q, .int .i64 p2_key] h (rt (fun v10 h11 =>
  ∃ r12, v10 = .bool r12 ∧
  ifP r12 (R (.ret (.int .i64 80)) h11)
  (ptrP p0_q fun a13 =>
  ptrP p0_q fun a14 =>
  ldV h11 ((a13.add 0).add 0) fun x15 =>
  ldV h11 ((a14.add 0).add 1) fun x16 =>
  ixS x15 p1_h 1 fun a17 =>
  stC h11 a17 (.int .i64 p2_key) fun h18 =>
  ixS x16 p1_h 1 fun a19 =>
  stC h18 a19 (.bool true) fun h20 =>
  ptrP p0_q fun a21 =>
  ldI h20 (a21.add 3) .i64 fun x22 =>
  ptrP p0_q fun a23 =>
  stC h20 (a23.add 3) (.int .i64 (IntKind.i64.wrap (x22 + 1))) fun h24 =>
  ptrP p0_q fun a25 =>
  ldV h24 (a25.add 2) fun x26 =>
  methP Tryz.prog h24 x26 "compass/heaps.push" fun f27 rv28 =>
  T Tryz.prog f27 (rv28 :: [.int .i64 p1_h]) h24 (rt (fun v29 h30 =>
  v29 = .tuple ⟨[]⟩ ∧
  R (.ret (.int .i64 0)) h30) (fun v31 h32 => R (.pan v31) h32)))) (fun v33 h34 => R (.pan v33) h34)))))
theorem E_heaps_Queue_Push {p0_q : Value} {p1_h : Int} {p2_key : Int} {R : Res → H → Prop} {h : H} (H0 : B_heaps_Queue_Push p0_q p1_h p2_key R h) : T Tryz.prog F.heaps_Queue_Push [p0_q, .int .i64 p1_h, .int .i64 p2_key] h R :=
  T_intro A_heaps_Queue_Push Tryz.func33 (c := bodyOf Tryz.f33) (by kernel_rfl) (by kernel_rfl) (by kernel_rfl) (cast_of (by kernel_rfl) H0)

def A_heaps_Queue_Lower : An := ⟨lkA [(0, rng 1), (1, rng 13), (2, rng 1), (3, rng 10), (4, rng 1), (5, rng 11), (6, rng 1), (7, rng 4), (8, rng 1), (9, rng 10), (10, rng 9), (11, rng 6), (12, rng 1)], lkL [], lkC []⟩
def B_heaps_Queue_Lower (p0_q : Value) (p1_h : Int) (p2_key : Int) (R : Res → H → Prop) (h : H) : Prop :=
  ifP (decide (p1_h < 0)) (R (.ret (.int .i64 30)) h) (ptrP p0_q fun a1 =>
  ldV h ((a1.add 0).add 1) fun x2 =>
  slcP x2 fun a3 l4 c5 =>
  ifP (decide (((l4 : Nat) : Int) ≤ p1_h)) (R (.ret (.int .i64 30)) h)
  (ptrP p0_q fun a6 =>
  ldV h ((a6.add 0).add 1) fun x7 =>
  ixS x7 p1_h 1 fun a8 =>
  ldB h a8 fun x9 =>
  ifP (!x9) (R (.ret (.int .i64 2)) h)
  (ptrP p0_q fun a10 =>
  ldV h ((a10.add 0).add 0) fun x11 =>
  ixS x11 p1_h 1 fun a12 =>
  ldI h a12 .i64 fun x13 =>
  ifP (decide (x13 < p2_key)) (R (.ret (.int .i64 52)) h)
  (T Tryz.prog F.heaps_Queue_low [p0_q, .int .i64 p2_key] h (rt (fun v14 h15 =>
  ∃ r16, v14 = .bool r16 ∧
  ifP r16 (R (.ret (.int .i64 80)) h15)
  (ptrP p0_q fun a17 =>
  ldV h15 ((a17.add 0).add 0) fun x18 =>
  ixS x18 p1_h 1 fun a19 =>
  ldI h15 a19 .i64 fun x20 =>
  ifP (decide (p2_key < x20)) (ptrP p0_q fun a21 =>
  ldV h15 ((a21.add 0).add 0) fun x22 =>
  ixS x22 p1_h 1 fun a23 =>
  stC h15 a23 (.int .i64 p2_key) fun h24 =>
  ptrP p0_q fun a25 =>
  ldV h24 (a25.add 2) fun x26 =>
  methP Tryz.prog h24 x26 "compass/heaps.lower" fun f27 rv28 =>
  T Tryz.prog f27 (rv28 :: [.int .i64 p1_h]) h24 (rt (fun v29 h30 =>
  v29 = .tuple ⟨[]⟩ ∧
  R (.ret (.int .i64 0)) h30) (fun v31 h32 => R (.pan v31) h32)))
  (R (.ret (.int .i64 0)) h15))) (fun v33 h34 => R (.pan v33) h34))))))
theorem E_heaps_Queue_Lower {p0_q : Value} {p1_h : Int} {p2_key : Int} {R : Res → H → Prop} {h : H} (H0 : B_heaps_Queue_Lower p0_q p1_h p2_key R h) : T Tryz.prog F.heaps_Queue_Lower [p0_q, .int .i64 p1_h, .int .i64 p2_key] h R :=
  T_intro A_heaps_Queue_Lower Tryz.func34 (c := bodyOf Tryz.f34) (by kernel_rfl) (by kernel_rfl) (by kernel_rfl) (cast_of (by kernel_rfl) H0)

def A_heaps_Queue_Pop : An := ⟨lkA [(0, rng 3), (1, rng 9), (2, rng 2), (3, rng 5), (4, rng 8), (5, rng 8), (6, rng 5), (7, rng 6)], lkL [], lkC []⟩
def B_heaps_Queue_Pop (p0_q : Value) (R : Res → H → Prop) (h : H) : Prop :=
  T Tryz.prog F.heaps_Queue_Top [p0_q] h (rt (fun v1 h2 =>
  ∃ r3 : Int, ∃ r4 : Int, ∃ r5 : Int, v1 = .tuple ⟨[.int .i64 r3, .int .i64 r4, .int .i64 r5]⟩ ∧
  ifP (decide (r5 = 0)) (ptrP p0_q fun a6 =>
  ldV h2 (a6.add 2) fun x7 =>
  methP Tryz.prog h2 x7 "compass/heaps.pop" fun f8 rv9 =>
  T Tryz.prog f8 (rv9 :: []) h2 (rt (fun v10 h11 =>
  v10 = .tuple ⟨[]⟩ ∧
  ptrP p0_q fun a12 =>
  ldV h11 ((a12.add 0).add 1) fun x13 =>
  ixS x13 r3 1 fun a14 =>
  stC h11 a14 (.bool false) fun h15 =>
  ptrP p0_q fun a16 =>
  ldI h15 (a16.add 3) .i64 fun x17 =>
  ptrP p0_q fun a18 =>
  stC h15 (a18.add 3) (.int .i64 (IntKind.i64.wrap (x17 - 1))) fun h19 =>
  ptrP p0_q fun a20 =>
  stC h19 (a20.add 5) (.int .i64 r4) fun h21 =>
  R (.ret (.tuple ⟨[.int .i64 r3, .int .i64 r4, .int .i64 r5]⟩)) h21) (fun v22 h23 => R (.pan v22) h23)))
  (R (.ret (.tuple ⟨[.int .i64 r3, .int .i64 r4, .int .i64 r5]⟩)) h2)) (fun v24 h25 => R (.pan v24) h25))
theorem E_heaps_Queue_Pop {p0_q : Value} {R : Res → H → Prop} {h : H} (H0 : B_heaps_Queue_Pop p0_q R h) : T Tryz.prog F.heaps_Queue_Pop [p0_q] h R :=
  T_intro A_heaps_Queue_Pop Tryz.func35 (c := bodyOf Tryz.f35) (by kernel_rfl) (by kernel_rfl) (by kernel_rfl) (cast_of (by kernel_rfl) H0)

def A_heaps_Queue_low : An := ⟨lkA [(0, rng 1), (1, rng 14)], lkL [], lkC []⟩
def B_heaps_Queue_low (p0_q : Value) (p1_key : Int) (R : Res → H → Prop) (h : H) : Prop :=
  ptrP p0_q fun a1 =>
  ldI h (a1.add 4) .i64 fun x2 =>
  ifP (decide (x2 = 4)) (ptrP p0_q fun a3 =>
  ldI h (a3.add 5) .i64 fun x4 =>
  R (.ret (.bool (decide (p1_key < x4)))) h) (R (.ret (.bool false)) h)
theorem E_heaps_Queue_low {p0_q : Value} {p1_key : Int} {R : Res → H → Prop} {h : H} (H0 : B_heaps_Queue_low p0_q p1_key R h) : T Tryz.prog F.heaps_Queue_low [p0_q, .int .i64 p1_key] h R :=
  T_intro A_heaps_Queue_low Tryz.func48 (c := bodyOf Tryz.f48) (by kernel_rfl) (by kernel_rfl) (by kernel_rfl) (cast_of (by kernel_rfl) H0)

def A_heaps_Queue_Top : An := ⟨lkA [(0, rng 3), (1, rng 5), (2, rng 3), (3, rng 6), (4, ⟨[0, 1, 2, 3, 4, 6, 9, 5, 7, 8, 10, 11], lkN []⟩)], lkL [], lkC []⟩
def B_heaps_Queue_Top (p0_q : Value) (R : Res → H → Prop) (h : H) : Prop :=
  ptrP p0_q fun a1 =>
  ldI h (a1.add 3) .i64 fun x2 =>
  ifP (decide (x2 = 0)) (R (.ret (.tuple ⟨[.int .i64 0, .int .i64 0, .int .i64 4]⟩)) h)
  (ptrP p0_q fun a3 =>
  ldV h (a3.add 2) fun x4 =>
  methP Tryz.prog h x4 "compass/heaps.top" fun f5 rv6 =>
  T Tryz.prog f5 (rv6 :: []) h (rt (fun v7 h8 =>
  ∃ r9, v7 = .int .i64 r9 ∧
  ptrP p0_q fun a10 =>
  ldV h8 ((a10.add 0).add 0) fun x11 =>
  ixS x11 r9 1 fun a12 =>
  ldI h8 a12 .i64 fun x13 =>
  R (.ret (.tuple ⟨[.int .i64 r9, .int .i64 x13, .int .i64 0]⟩)) h8) (fun v14 h15 => R (.pan v14) h15)))
theorem E_heaps_Queue_Top {p0_q : Value} {R : Res → H → Prop} {h : H} (H0 : B_heaps_Queue_Top p0_q R h) : T Tryz.prog F.heaps_Queue_Top [p0_q] h R :=
  T_intro A_heaps_Queue_Top Tryz.func49 (c := bodyOf Tryz.f49) (by kernel_rfl) (by kernel_rfl) (by kernel_rfl) (cast_of (by kernel_rfl) H0)

end Go.Proofs.YtdcamadeblojdaaGreat

namespace Go.Proofs.YtdcamadeblojdaaGreat
open Go
set_option linter.unusedVariables false
set_option maxRecDepth 100000

def A_mincost_net_reduced : An := ⟨lkA [(0, rng 1), (1, ⟨[0, 1, 2, 4, 7, 8, 9, 11, 12, 13, 15, 21, 22, 23, 25, 26, 27, 29, 3, 5, 6, 10, 14, 16, 17, 18, 19, 20, 24, 28, 30, 31, 32, 33, 34, 35], lkN []⟩)], lkL [], lkC []⟩
def B_mincost_net_reduced (p0_n : Value) (p1_a : Int) (R : Res → H → Prop) (h : H) : Prop :=
  ptrP p0_n fun a1 =>
  ptrP p0_n fun a2 =>
  ptrP p0_n fun a3 =>
  ptrP p0_n fun a4 =>
  ptrP p0_n fun a5 =>
  ldV h (a1.add 3) fun x6 =>
  ixS x6 p1_a 1 fun a7 =>
  ldI h a7 .i64 fun x8 =>
  ldV h (a2.add 6) fun x9 =>
  ldV h (a3.add 0) fun x10 =>
  ixS x10 p1_a 1 fun a11 =>
  ldI h a11 .i64 fun x12 =>
  ixS x9 x12 1 fun a13 =>
  ldI h a13 .i64 fun x14 =>
  ldV h (a4.add 6) fun x15 =>
  ldV h (a5.add 1) fun x16 =>
  ixS x16 p1_a 1 fun a17 =>
  ldI h a17 .i64 fun x18 =>
  ixS x15 x18 1 fun a19 =>
  ldI h a19 .i64 fun x20 =>
  R (.ret (.int .i64 (IntKind.i64.wrap ((IntKind.i64.wrap (x8 + x14)) - x20)))) h
theorem E_mincost_net_reduced {p0_n : Value} {p1_a : Int} {R : Res → H → Prop} {h : H} (H0 : B_mincost_net_reduced p0_n p1_a R h) : T Tryz.prog F.mincost_net_reduced [p0_n, .int .i64 p1_a] h R :=
  T_intro A_mincost_net_reduced Tryz.func73 (c := bodyOf Tryz.f73) (by kernel_rfl) (by kernel_rfl) (by kernel_rfl) (cast_of (by kernel_rfl) H0)

def A_mincost_ways_meet : An := ⟨lkA [(0, rng 1), (1, rng 1), (2, rng 8), (3, rng 3), (4, rng 9), (5, ⟨[0, 2, 3, 8, 1, 4, 5, 6, 7, 9, 10, 11], lkN []⟩), (6, rng 2), (7, rng 9), (8, rng 2), (9, rng 6), (10, rng 3), (11, rng 1), (12, rng 5), (13, ⟨[0, 5, 8, 9, 10, 11, 1, 2, 3, 4, 6, 7, 12, 13, 14, 15, 16], lkN []⟩), (14, rng 2), (15, rng 5)], lkL [(2, [(2, .int .i64)]), (6, []), (11, [(56, .int .i64)])], lkC [(10, [])]⟩
def B_mincost_ways_meet (p0_w : List Value) (R : Res → H → Prop) (h : H) : Prop :=
  newP h (.cells ⟨p0_w⟩ 67 (0, 0)) fun b1 h2 =>
  ∃ (I3 : (Int × Unit) → H → Prop) (r4 : (Int × Unit) × H → (Int × Unit) × H → Prop), WellFounded r4 ∧ I3 (0, ()) h2 ∧
  ∀ (a_6 : Int) (h5 : H), I3 (a_6, ()) h5 →
  ldV h5 ((bk b1).add 0) fun x7 =>
  ptrP x7 fun a8 =>
  ldV h5 (a8.add 1) fun x9 =>
  slcP x9 fun a10 l11 c12 =>
  ifP (decide (a_6 < ((l11 : Nat) : Int))) (ldV h5 ((bk b1).add 0) fun x13 =>
  ptrP x13 fun a14 =>
  ldV h5 (a14.add 3) fun x15 =>
  ixS x15 a_6 1 fun a16 =>
  ldI h5 a16 .i64 fun x17 =>
  ifP (decide (x17 < 0)) (ldV h5 ((bk b1).add 0) fun x18 =>
  ldV h5 ((bk b1).add 0) fun x19 =>
  ptrP x19 fun a20 =>
  ldV h5 (a20.add 2) fun x21 =>
  ixS x21 a_6 1 fun a22 =>
  ldI h5 a22 .i64 fun x23 =>
  T Tryz.prog F.mincost_net_send [x18, .int .i64 a_6, .int .i64 x23] h5 (rt (fun v24 h25 =>
  v24 = .tuple ⟨[]⟩ ∧
  I3 ((IntKind.i64.wrap (a_6 + 2)), ()) h25 ∧ r4 (((IntKind.i64.wrap (a_6 + 2)), ()), h25) ((a_6, ()), h5)) (fun v26 h27 => R (.pan v26) h27)))
  (I3 ((IntKind.i64.wrap (a_6 + 2)), ()) h5 ∧ r4 (((IntKind.i64.wrap (a_6 + 2)), ()), h5) ((a_6, ()), h5)))
  (∃ (I28 : (Unit) → H → Prop) (r29 : (Unit) × H → (Unit) × H → Prop), WellFounded r29 ∧ I28 (()) h5 ∧
  ∀  (h30 : H), I28 (()) h30 →
  ldN h30 (bk b1) 1 fun x31 =>
  T Tryz.prog F.mincost_ways_missing [.agg ⟨x31⟩] h30 (rt (fun v32 h33 =>
  ∃ r34, v32 = .bool r34 ∧
  ifP r34 (ldN h33 (bk b1) 1 fun x35 =>
  T Tryz.prog F.mincost_ways_cheapest [.agg ⟨x35⟩] h33 (rt (fun v36 h37 =>
  ∃ r38 : Value, ∃ r39 : Value, ∃ r40 : Int, v36 = .tuple ⟨[r38, r39, .int .i64 r40]⟩ ∧
  ∃ J41 : (Unit) → H → Prop, (ifP (decide (r40 < 0)) (ldV h37 ((bk b1).add 0) fun x43 =>
  T Tryz.prog F.mincost_net_reached [x43] h37 (rt (fun v44 h45 =>
  oneP v44 (R (.pan (.iface 73 (.agg ⟨[v44]⟩))) h45)) (fun v46 h47 => R (.pan v46) h47)))
  (J41 (()) h37)) ∧
  (∀  (h42 : H), J41 (()) h42 →
  slcP r38 fun a48 l49 c50 =>
  ∃ (I51 : (Int × Unit) → H → Prop) (r52 : (Int × Unit) × H → (Int × Unit) × H → Prop), WellFounded r52 ∧ I51 (0, ()) h42 ∧
  ∀ (s54 : Int) (h53 : H), I51 (s54, ()) h53 →
  ifP (decide (s54 < ((l49 : Nat) : Int))) (ixS r38 s54 1 fun a55 =>
  ldI h53 a55 .i64 fun x56 =>
  ixS r38 r40 1 fun a57 =>
  ldV h53 ((bk b1).add 0) fun x58 =>
  ptrP x58 fun a59 =>
  ldV h53 (a59.add 6) fun x60 =>
  ixS x60 s54 1 fun a61 =>
  ldI h53 a61 .i64 fun x62 =>
  ldI h53 a57 .i64 fun x63 =>
  ixS x60 s54 1 fun a64 =>
  stC h53 a64 (.int .i64 (IntKind.i64.wrap (x62 + (if x63 < x56 then x63 else x56)))) fun h65 =>
  I51 ((IntKind.i64.wrap (s54 + 1)), ()) h65 ∧ r52 (((IntKind.i64.wrap (s54 + 1)), ()), h65) ((s54, ()), h53))
  (ldV h53 ((bk b1).add 0) fun x66 =>
  T Tryz.prog F.mincost_net_carry [x66, r39, .int .i64 r40] h53 (rt (fun v67 h68 =>
  v67 = .tuple ⟨[]⟩ ∧
  I28 (()) h68 ∧ r29 ((()), h68) ((()), h30)) (fun v69 h70 => R (.pan v69) h70))))) (fun v71 h72 => R (.pan v71) h72)))
  (R (.ret (.tuple ⟨[]⟩)) h33)) (fun v73 h74 => R (.pan v73) h74)))
theorem E_mincost_ways_meet {p0_w : List Value} {R : Res → H → Prop} {h : H} (H0 : B_mincost_ways_meet p0_w R h) : T Tryz.prog F.mincost_ways_meet [.agg ⟨p0_w⟩] h R :=
  T_intro A_mincost_ways_meet Tryz.func74 (c := bodyOf Tryz.f74) (by kernel_rfl) (by kernel_rfl) (by kernel_rfl) (cast_of (by kernel_rfl) H0)

def A_mincost_net_send : An := ⟨lkA [(0, rng 11), (1, rng 12), (2, ⟨[0, 1, 2, 4, 5, 6, 8, 13, 3, 7, 9, 10, 11, 12, 14, 15, 16], lkN []⟩), (3, ⟨[0, 1, 2, 4, 5, 6, 8, 13, 3, 7, 9, 10, 11, 12, 14, 15, 16], lkN []⟩)], lkL [], lkC []⟩
def B_mincost_net_send (p0_n : Value) (p1_a : Int) (p2_x : Int) (R : Res → H → Prop) (h : H) : Prop :=
  ptrP p0_n fun a1 =>
  ldV h (a1.add 2) fun x2 =>
  ixS x2 p1_a 1 fun a3 =>
  ldI h a3 .i64 fun x4 =>
  ixS x2 p1_a 1 fun a5 =>
  stC h a5 (.int .i64 (IntKind.i64.wrap (x4 - p2_x))) fun h6 =>
  ptrP p0_n fun a7 =>
  ldV h6 (a7.add 2) fun x8 =>
  ixS x8 (bitsI .xor .i64 p1_a 1) 1 fun a9 =>
  ldI h6 a9 .i64 fun x10 =>
  ixS x8 (bitsI .xor .i64 p1_a 1) 1 fun a11 =>
  stC h6 a11 (.int .i64 (IntKind.i64.wrap (x10 + p2_x))) fun h12 =>
  ptrP p0_n fun a13 =>
  ptrP p0_n fun a14 =>
  ldV h12 (a13.add 5) fun x15 =>
  ldV h12 (a14.add 0) fun x16 =>
  ixS x16 p1_a 1 fun a17 =>
  ldI h12 a17 .i64 fun x18 =>
  ixS x15 x18 1 fun a19 =>
  ldI h12 a19 .i64 fun x20 =>
  ixS x15 x18 1 fun a21 =>
  stC h12 a21 (.int .i64 (IntKind.i64.wrap (x20 - p2_x))) fun h22 =>
  ptrP p0_n fun a23 =>
  ptrP p0_n fun a24 =>
  ldV h22 (a23.add 5) fun x25 =>
  ldV h22 (a24.add 1) fun x26 =>
  ixS x26 p1_a 1 fun a27 =>
  ldI h22 a27 .i64 fun x28 =>
  ixS x25 x28 1 fun a29 =>
  ldI h22 a29 .i64 fun x30 =>
  ixS x25 x28 1 fun a31 =>
  stC h22 a31 (.int .i64 (IntKind.i64.wrap (x30 + p2_x))) fun h32 =>
  R (.ret (.tuple ⟨[]⟩)) h32
theorem E_mincost_net_send {p0_n : Value} {p1_a : Int} {p2_x : Int} {R : Res → H → Prop} {h : H} (H0 : B_mincost_net_send p0_n p1_a p2_x R h) : T Tryz.prog F.mincost_net_send [p0_n, .int .i64 p1_a, .int .i64 p2_x] h R :=
  T_intro A_mincost_net_send Tryz.func75 (c := bodyOf Tryz.f75) (by kernel_rfl) (by kernel_rfl) (by kernel_rfl) (cast_of (by kernel_rfl) H0)

def A_mincost_ways_missing : An := ⟨lkA [(0, rng 2), (1, rng 7), (2, rng 1), (3, rng 3), (4, rng 2), (5, rng 1), (6, rng 2), (7, rng 1)], lkL [(2, [(11, .int .i64)])], lkC []⟩
def B_mincost_ways_missing (p0_w : List Value) (R : Res → H → Prop) (h : H) : Prop :=
  newP h (.cells ⟨p0_w⟩ 67 (0, 0)) fun b1 h2 =>
  ldV h2 ((bk b1).add 0) fun x3 =>
  ptrP x3 fun a4 =>
  ldV h2 (a4.add 5) fun x5 =>
  slcP x5 fun a6 l7 c8 =>
  ∃ (I9 : (Int × Unit) → H → Prop) (r10 : (Int × Unit) × H → (Int × Unit) × H → Prop), WellFounded r10 ∧ I9 (0, ()) h2 ∧
  ∀ (s12 : Int) (h11 : H), I9 (s12, ()) h11 →
  ifP (decide (s12 < ((l7 : Nat) : Int))) (ixS x5 s12 1 fun a13 =>
  ldI h11 a13 .i64 fun x14 =>
  ifP (decide (0 < x14)) (R (.ret (.bool true)) h11)
  (I9 ((IntKind.i64.wrap (s12 + 1)), ()) h11 ∧ r10 (((IntKind.i64.wrap (s12 + 1)), ()), h11) ((s12, ()), h11)))
  (R (.ret (.bool false)) h11)
theorem E_mincost_ways_missing {p0_w : List Value} {R : Res → H → Prop} {h : H} (H0 : B_mincost_ways_missing p0_w R h) : T Tryz.prog F.mincost_ways_missing [.agg ⟨p0_w⟩] h R :=
  T_intro A_mincost_ways_missing Tryz.func76 (c := bodyOf Tryz.f76) (by kernel_rfl) (by kernel_rfl) (by kernel_rfl) (cast_of (by kernel_rfl) H0)

def A_mincost_ways_cheapest : An := ⟨lkA [(0, rng 4), (1, rng 7), (2, ⟨[0, 2, 1, 4, 3, 5], lkN []⟩), (3, rng 7), (4, rng 3), (5, rng 1), (6, rng 2), (7, rng 8), (8, rng 9), (9, rng 4), (10, rng 3), (11, rng 2), (12, rng 1), (13, rng 3), (14, rng 9), (15, rng 13), (16, rng 2), (17, rng 10), (18, rng 1), (19, rng 3), (20, rng 9), (21, ⟨[0, 1, 2, 4, 5, 7, 3, 6, 8, 9, 10, 11], lkN [(8, [3])]⟩), (22, rng 14), (23, rng 10), (24, rng 2), (25, rng 4), (26, rng 4), (27, rng 2), (28, rng 6)], lkL [(5, [(37, .int .i64)]), (13, [(11, .int .i64)]), (18, [(94, .int .i64)])], lkC [(17, [(11, .int .i64)])]⟩
def B_mincost_ways_cheapest (p0_w : List Value) (R : Res → H → Prop) (h : H) : Prop :=
  newP h (.cells ⟨p0_w⟩ 67 (0, 0)) fun b1 h2 =>
  ldV h2 ((bk b1).add 0) fun x3 =>
  ptrP x3 fun a4 =>
  ldV h2 (a4.add 4) fun x5 =>
  slcP x5 fun a6 l7 c8 =>
  mkS ((l7 : Nat) : Int) ((l7 : Nat) : Int) 8 [.int .i64 0] 2 h2 fun b9 h10 =>
  mkS ((l7 : Nat) : Int) ((l7 : Nat) : Int) 8 [.int .i64 0] 3 h10 fun b11 h12 =>
  T Tryz.prog F.heaps_New [.int .i64 3, .int .i64 ((l7 : Nat) : Int)] h12 (rt (fun v13 h14 =>
  ∃ r15 : Value, ∃ r16 : Int, v13 = .tuple ⟨[r15, .int .i64 r16]⟩ ∧
  ∃ (I17 : (Int × Unit) → H → Prop) (r18 : (Int × Unit) × H → (Int × Unit) × H → Prop), WellFounded r18 ∧ I17 (0, ()) h14 ∧
  ∀ (s20 : Int) (h19 : H), I17 (s20, ()) h19 →
  ifP (decide (s20 < ((((l7 : Nat) : Int).toNat : Nat) : Int))) (ixS (.slice (some (bk b9)) (((l7 : Nat) : Int).toNat) (((l7 : Nat) : Int).toNat)) s20 1 fun a21 =>
  stC h19 a21 (.int .i64 4611686018427387904) fun h22 =>
  ixS (.slice (some (bk b11)) (((l7 : Nat) : Int).toNat) (((l7 : Nat) : Int).toNat)) s20 1 fun a23 =>
  stC h22 a23 (.int .i64 (-1)) fun h24 =>
  ldV h24 ((bk b1).add 0) fun x25 =>
  ptrP x25 fun a26 =>
  ldV h24 (a26.add 5) fun x27 =>
  ixS x27 s20 1 fun a28 =>
  ldI h24 a28 .i64 fun x29 =>
  ifP (decide (0 < x29)) (ixS (.slice (some (bk b9)) (((l7 : Nat) : Int).toNat) (((l7 : Nat) : Int).toNat)) s20 1 fun a30 =>
  stC h24 a30 (.int .i64 0) fun h31 =>
  T Tryz.prog F.heaps_Queue_Push [r15, .int .i64 s20, .int .i64 0] h31 (rt (fun v32 h33 =>
  ∃ r34, v32 = .int .i64 r34 ∧
  I17 ((IntKind.i64.wrap (s20 + 1)), ()) h33 ∧ r18 (((IntKind.i64.wrap (s20 + 1)), ()), h33) ((s20, ()), h19)) (fun v35 h36 => R (.pan v35) h36)))
  (I17 ((IntKind.i64.wrap (s20 + 1)), ()) h24 ∧ r18 (((IntKind.i64.wrap (s20 + 1)), ()), h24) ((s20, ()), h19)))
  (∃ (I37 : (Int × Unit) → H → Prop) (r38 : (Int × Unit) × H → (Int × Unit) × H → Prop), WellFounded r38 ∧ I37 ((-1), ()) h19 ∧
  ∀ (found_40 : Int) (h39 : H), I37 (found_40, ()) h39 →
  T Tryz.prog F.heaps_Queue_Len [r15] h39 (rt (fun v41 h42 =>
  ∃ r43, v41 = .int .i64 r43 ∧
  ifP (decide (0 < r43)) (T Tryz.prog F.heaps_Queue_Pop [r15] h42 (rt (fun v44 h45 =>
  ∃ r46 : Int, ∃ r47 : Int, ∃ r48 : Int, v44 = .tuple ⟨[.int .i64 r46, .int .i64 r47, .int .i64 r48]⟩ ∧
  ∃ J49 : (Int × Unit) → H → Prop, (ldV h45 ((bk b1).add 0) fun x52 =>
  ptrP x52 fun a53 =>
  ldV h45 (a53.add 5) fun x54 =>
  ixS x54 r46 1 fun a55 =>
  ldI h45 a55 .i64 fun x56 =>
  ifP (decide (x56 < 0)) (ifP (decide (found_40 < 0)) (J49 (r46, ()) h45)
  (J49 (found_40, ()) h45)) (J49 (found_40, ()) h45)) ∧
  (∀ (found_51 : Int) (h50 : H), J49 (found_51, ()) h50 →
  ldV h50 ((bk b1).add 0) fun x57 =>
  ptrP x57 fun a58 =>
  ldV h50 (a58.add 4) fun x59 =>
  ixS x59 r46 1 fun a60 =>
  ldV h50 a60 fun x61 =>
  slcP x61 fun a62 l63 c64 =>
  ∃ (I65 : (Int × Unit) → H → Prop) (r66 : (Int × Unit) × H → (Int × Unit) × H → Prop), WellFounded r66 ∧ I65 (0, ()) h50 ∧
  ∀ (s68 : Int) (h67 : H), I65 (s68, ()) h67 →
  ifP (decide (s68 < ((l63 : Nat) : Int))) (ixS x61 s68 1 fun a69 =>
  ldI h67 a69 .i64 fun x70 =>
  ldV h67 ((bk b1).add 0) fun x71 =>
  ptrP x71 fun a72 =>
  ldV h67 (a72.add 1) fun x73 =>
  ixS x73 x70 1 fun a74 =>
  ldI h67 a74 .i64 fun x75 =>
  ixS (.slice (some (bk b9)) (((l7 : Nat) : Int).toNat) (((l7 : Nat) : Int).toNat)) x75 1 fun a76 =>
  ldI h67 a76 .i64 fun x77 =>
  ldV h67 ((bk b1).add 0) fun x78 =>
  T Tryz.prog F.mincost_net_reduced [x78, .int .i64 x70] h67 (rt (fun v79 h80 =>
  ∃ r81, v79 = .int .i64 r81 ∧
  (sameAt 2 a76 h67 h80) ∧
  ldV h80 ((bk b1).add 0) fun x82 =>
  ptrP x82 fun a83 =>
  ldV h80 (a83.add 2) fun x84 =>
  ixS x84 x70 1 fun a85 =>
  ldI h80 a85 .i64 fun x86 =>
  ifP (decide (x86 = 0)) (I65 ((IntKind.i64.wrap (s68 + 1)), ()) h80 ∧ r66 (((IntKind.i64.wrap (s68 + 1)), ()), h80) ((s68, ()), h67)) (ifP (decide (x77 ≤ (IntKind.i64.wrap (r47 + r81)))) (I65 ((IntKind.i64.wrap (s68 + 1)), ()) h80 ∧ r66 (((IntKind.i64.wrap (s68 + 1)), ()), h80) ((s68, ()), h67))
  (ixS (.slice (some (bk b9)) (((l7 : Nat) : Int).toNat) (((l7 : Nat) : Int).toNat)) x75 1 fun a87 =>
  stC h80 a87 (.int .i64 (IntKind.i64.wrap (r47 + r81))) fun h88 =>
  ixS (.slice (some (bk b11)) (((l7 : Nat) : Int).toNat) (((l7 : Nat) : Int).toNat)) x75 1 fun a89 =>
  stC h88 a89 (.int .i64 x70) fun h90 =>
  ifP (decide (x77 = 4611686018427387904)) (T Tryz.prog F.heaps_Queue_Push [r15, .int .i64 x75, .int .i64 (IntKind.i64.wrap (r47 + r81))] h90 (rt (fun v91 h92 =>
  ∃ r93, v91 = .int .i64 r93 ∧
  I65 ((IntKind.i64.wrap (s68 + 1)), ()) h92 ∧ r66 (((IntKind.i64.wrap (s68 + 1)), ()), h92) ((s68, ()), h67)) (fun v94 h95 => R (.pan v94) h95)))
  (T Tryz.prog F.heaps_Queue_Lower [r15, .int .i64 x75, .int .i64 (IntKind.i64.wrap (r47 + r81))] h90 (rt (fun v96 h97 =>
  ∃ r98, v96 = .int .i64 r98 ∧
  I65 ((IntKind.i64.wrap (s68 + 1)), ()) h97 ∧ r66 (((IntKind.i64.wrap (s68 + 1)), ()), h97) ((s68, ()), h67)) (fun v99 h100 => R (.pan v99) h100)))))) (fun v101 h102 => R (.pan v101) h102)))
  (I37 (found_51, ()) h67 ∧ r38 ((found_51, ()), h67) ((found_40, ()), h39)))) (fun v103 h104 => R (.pan v103) h104)))
  (R (.ret (.tuple ⟨[.slice (some (bk b9)) (((l7 : Nat) : Int).toNat) (((l7 : Nat) : Int).toNat), .slice (some (bk b11)) (((l7 : Nat) : Int).toNat) (((l7 : Nat) : Int).toNat), .int .i64 found_40]⟩)) h42)) (fun v105 h106 => R (.pan v105) h106)))) (fun v107 h108 => R (.pan v107) h108))
theorem E_mincost_ways_cheapest {p0_w : List Value} {R : Res → H → Prop} {h : H} (H0 : B_mincost_ways_cheapest p0_w R h) : T Tryz.prog F.mincost_ways_cheapest [.agg ⟨p0_w⟩] h R :=
  T_intro A_mincost_ways_cheapest Tryz.func77 (c := bodyOf Tryz.f77) (by kernel_rfl) (by kernel_rfl) (by kernel_rfl) (cast_of (by kernel_rfl) H0)

def A_mincost_net_reached : An := ⟨lkA [(0, rng 1), (1, rng 7), (2, rng 1), (3, rng 6), (4, rng 1), (5, rng 5), (6, rng 2), (7, rng 4), (8, rng 5), (9, rng 2), (10, rng 3), (11, rng 7), (12, rng 6), (13, rng 9), (14, rng 1), (15, rng 3), (16, rng 8), (17, rng 15), (18, rng 4), (19, rng 5), (20, rng 2), (21, rng 2)], lkL [(4, [(4, .val), (22, .int .i64)]), (10, [(4, .val)]), (14, [(4, .val), (59, .int .i64)])], lkC []⟩
def B_mincost_net_reached (p0_n : Value) (R : Res → H → Prop) (h : H) : Prop :=
  ptrP p0_n fun a1 =>
  ldV h (a1.add 4) fun x2 =>
  slcP x2 fun a3 l4 c5 =>
  mkS ((l4 : Nat) : Int) ((l4 : Nat) : Int) 1 [.bool false] 4 h fun b6 h7 =>
  ptrP p0_n fun a8 =>
  ldV h7 (a8.add 5) fun x9 =>
  slcP x9 fun a10 l11 c12 =>
  ∃ (I13 : (Value × Int × Unit) → H → Prop) (r14 : (Value × Int × Unit) × H → (Value × Int × Unit) × H → Prop), WellFounded r14 ∧ I13 ((.slice none 0 0 : Value), 0, ()) h7 ∧
  ∀ (stack_16 : Value) (s17 : Int) (h15 : H), I13 (stack_16, s17, ()) h15 →
  ifP (decide (s17 < ((l11 : Nat) : Int))) (ixS x9 s17 1 fun a18 =>
  ldI h15 a18 .i64 fun x19 =>
  ifP (decide (0 < x19)) (ixS (.slice (some (bk b6)) (((l4 : Nat) : Int).toNat) (((l4 : Nat) : Int).toNat)) s17 1 fun a20 =>
  stC h15 a20 (.bool true) fun h21 =>
  newP h21 (.cells ⟨[.int .i64 s17]⟩ 3 (0, 0)) fun b22 h23 =>
  apP stack_16 (.slice (some (bk b22)) 1 1) h23 1 3 8 [.int .i64 0] fun s24 h25 =>
  I13 (s24, (IntKind.i64.wrap (s17 + 1)), ()) h25 ∧ r14 ((s24, (IntKind.i64.wrap (s17 + 1)), ()), h25) ((stack_16, s17, ()), h15))
  (I13 (stack_16, (IntKind.i64.wrap (s17 + 1)), ()) h15 ∧ r14 ((stack_16, (IntKind.i64.wrap (s17 + 1)), ()), h15) ((stack_16, s17, ()), h15)))
  (∃ (I26 : (Value × Unit) → H → Prop) (r27 : (Value × Unit) × H → (Value × Unit) × H → Prop), WellFounded r27 ∧ I26 (stack_16, ()) h15 ∧
  ∀ (stack_29 : Value) (h28 : H), I26 (stack_29, ()) h28 →
  slcP stack_29 fun a30 l31 c32 =>
  ifP (decide (0 < ((l31 : Nat) : Int))) (slcP stack_29 fun a33 l34 c35 =>
  ixS stack_29 (IntKind.i64.wrap (((l34 : Nat) : Int) - 1)) 1 fun a36 =>
  ldI h28 a36 .i64 fun x37 =>
  slcP stack_29 fun a38 l39 c40 =>
  slcP stack_29 fun a41 l42 c43 =>
  (0 : Int) ≤ (IntKind.i64.wrap (((l39 : Nat) : Int) - 1)) ∧ (IntKind.i64.wrap (((l39 : Nat) : Int) - 1)) ≤ ((c43 : Nat) : Int) ∧
  (0 : Int) ≤ (0 : Int) ∧ (0 : Int) ≤ (IntKind.i64.wrap (((l39 : Nat) : Int) - 1)) ∧
  ptrP p0_n fun a44 =>
  ldV h28 (a44.add 4) fun x45 =>
  ixS x45 x37 1 fun a46 =>
  ldV h28 a46 fun x47 =>
  slcP x47 fun a48 l49 c50 =>
  ∃ (I51 : (Value × Int × Unit) → H → Prop) (r52 : (Value × Int × Unit) × H → (Value × Int × Unit) × H → Prop), WellFounded r52 ∧ I51 ((sliceV a41 c43 (0 : Int) (IntKind.i64.wrap (((l39 : Nat) : Int) - 1)) 1), 0, ()) h28 ∧
  ∀ (stack_54 : Value) (s55 : Int) (h53 : H), I51 (stack_54, s55, ()) h53 →
  ifP (decide (s55 < ((l49 : Nat) : Int))) (ixS x47 s55 1 fun a56 =>
  ldI h53 a56 .i64 fun x57 =>
  ptrP p0_n fun a58 =>
  ldV h53 (a58.add 1) fun x59 =>
  ixS x59 x57 1 fun a60 =>
  ldI h53 a60 .i64 fun x61 =>
  ptrP p0_n fun a62 =>
  ldV h53 (a62.add 2) fun x63 =>
  ixS x63 x57 1 fun a64 =>
  ldI h53 a64 .i64 fun x65 =>
  ifP (decide (0 < x65)) (ixS (.slice (some (bk b6)) (((l4 : Nat) : Int).toNat) (((l4 : Nat) : Int).toNat)) x61 1 fun a66 =>
  ldB h53 a66 fun x67 =>
  ifP (!x67) (ixS (.slice (some (bk b6)) (((l4 : Nat) : Int).toNat) (((l4 : Nat) : Int).toNat)) x61 1 fun a68 =>
  stC h53 a68 (.bool true) fun h69 =>
  newP h69 (.cells ⟨[.int .i64 x61]⟩ 3 (0, 0)) fun b70 h71 =>
  apP stack_54 (.slice (some (bk b70)) 1 1) h71 1 3 8 [.int .i64 0] fun s72 h73 =>
  I51 (s72, (IntKind.i64.wrap (s55 + 1)), ()) h73 ∧ r52 ((s72, (IntKind.i64.wrap (s55 + 1)), ()), h73) ((stack_54, s55, ()), h53))
  (I51 (stack_54, (IntKind.i64.wrap (s55 + 1)), ()) h53 ∧ r52 ((stack_54, (IntKind.i64.wrap (s55 + 1)), ()), h53) ((stack_54, s55, ()), h53))) (I51 (stack_54, (IntKind.i64.wrap (s55 + 1)), ()) h53 ∧ r52 ((stack_54, (IntKind.i64.wrap (s55 + 1)), ()), h53) ((stack_54, s55, ()), h53)))
  (I26 (stack_54, ()) h53 ∧ r27 ((stack_54, ()), h53) ((stack_29, ()), h28)))
  (R (.ret (.slice (some (bk b6)) (((l4 : Nat) : Int).toNat) (((l4 : Nat) : Int).toNat))) h28))
theorem E_mincost_net_reached {p0_n : Value} {R : Res → H → Prop} {h : H} (H0 : B_mincost_net_reached p0_n R h) : T Tryz.prog F.mincost_net_reached [p0_n] h R :=
  T_intro A_mincost_net_reached Tryz.func78 (c := bodyOf Tryz.f78) (by kernel_rfl) (by kernel_rfl) (by kernel_rfl) (cast_of (by kernel_rfl) H0)

def A_mincost_net_carry : An := ⟨lkA [(0, rng 9), (1, rng 2), (2, rng 5), (3, ⟨[0, 1, 2, 3, 5, 6, 7, 4, 8, 9, 10, 11, 12], lkN []⟩), (4, ⟨[0, 1, 2, 4, 5, 6, 3, 7, 8, 9, 10], lkN []⟩), (5, rng 10), (6, rng 5), (7, rng 7), (8, ⟨[0, 1, 2, 4, 5, 6, 3, 7, 8, 9, 10], lkN []⟩)], lkL [(2, [(6, .int .i64), (7, .int .i64)]), (6, [(2, .int .i64)])], lkC []⟩
def B_mincost_net_carry (p0_n : Value) (p1_via : Value) (p2_v : Int) (R : Res → H → Prop) (h : H) : Prop :=
  ptrP p0_n fun a1 =>
  ldV h (a1.add 5) fun x2 =>
  ixS x2 p2_v 1 fun a3 =>
  ldI h a3 .i64 fun x4 =>
  ∃ (I5 : (Int × Int × Unit) → H → Prop) (r6 : (Int × Int × Unit) × H → (Int × Int × Unit) × H → Prop), WellFounded r6 ∧ I5 ((IntKind.i64.wrap (0 - x4)), p2_v, ()) h ∧
  ∀ (x_8 : Int) (u_9 : Int) (h7 : H), I5 (x_8, u_9, ()) h7 →
  ixS p1_via u_9 1 fun a10 =>
  ldI h7 a10 .i64 fun x11 =>
  ifP (decide (0 ≤ x11)) (ptrP p0_n fun a12 =>
  ixS p1_via u_9 1 fun a13 =>
  ldV h7 (a12.add 2) fun x14 =>
  ldI h7 a13 .i64 fun x15 =>
  ixS x14 x15 1 fun a16 =>
  ldI h7 a16 .i64 fun x17 =>
  ptrP p0_n fun a18 =>
  ixS p1_via u_9 1 fun a19 =>
  ldV h7 (a18.add 0) fun x20 =>
  ldI h7 a19 .i64 fun x21 =>
  ixS x20 x21 1 fun a22 =>
  ldI h7 a22 .i64 fun x23 =>
  I5 ((if x17 < x_8 then x17 else x_8), x23, ()) h7 ∧ r6 (((if x17 < x_8 then x17 else x_8), x23, ()), h7) ((x_8, u_9, ()), h7))
  (ptrP p0_n fun a24 =>
  ldV h7 (a24.add 5) fun x25 =>
  ixS x25 u_9 1 fun a26 =>
  ldI h7 a26 .i64 fun x27 =>
  ∃ (I28 : (Int × Unit) → H → Prop) (r29 : (Int × Unit) × H → (Int × Unit) × H → Prop), WellFounded r29 ∧ I28 (p2_v, ()) h7 ∧
  ∀ (v_31 : Int) (h30 : H), I28 (v_31, ()) h30 →
  ixS p1_via v_31 1 fun a32 =>
  ldI h30 a32 .i64 fun x33 =>
  ifP (decide (0 ≤ x33)) (ixS p1_via v_31 1 fun a34 =>
  ldI h30 a34 .i64 fun x35 =>
  T Tryz.prog F.mincost_net_send [p0_n, .int .i64 x35, .int .i64 (if x27 < x_8 then x27 else x_8)] h30 (rt (fun v36 h37 =>
  v36 = .tuple ⟨[]⟩ ∧
  ptrP p0_n fun a38 =>
  ixS p1_via v_31 1 fun a39 =>
  ldV h37 (a38.add 0) fun x40 =>
  ldI h37 a39 .i64 fun x41 =>
  ixS x40 x41 1 fun a42 =>
  ldI h37 a42 .i64 fun x43 =>
  I28 (x43, ()) h37 ∧ r29 ((x43, ()), h37) ((v_31, ()), h30)) (fun v44 h45 => R (.pan v44) h45)))
  (R (.ret (.tuple ⟨[]⟩)) h30))
theorem E_mincost_net_carry {p0_n : Value} {p1_via : Value} {p2_v : Int} {R : Res → H → Prop} {h : H} (H0 : B_mincost_net_carry p0_n p1_via p2_v R h) : T Tryz.prog F.mincost_net_carry [p0_n, p1_via, .int .i64 p2_v] h R :=
  T_intro A_mincost_net_carry Tryz.func79 (c := bodyOf Tryz.f79) (by kernel_rfl) (by kernel_rfl) (by kernel_rfl) (cast_of (by kernel_rfl) H0)

def A_heaps_Queue_Len : An := ⟨lkA [(0, rng 1), (1, rng 5)], lkL [], lkC []⟩
def B_heaps_Queue_Len (p0_q : Value) (R : Res → H → Prop) (h : H) : Prop :=
  ptrP p0_q fun a1 =>
  ldI h (a1.add 3) .i64 fun x2 =>
  R (.ret (.int .i64 x2)) h
theorem E_heaps_Queue_Len {p0_q : Value} {R : Res → H → Prop} {h : H} (H0 : B_heaps_Queue_Len p0_q R h) : T Tryz.prog F.heaps_Queue_Len [p0_q] h R :=
  T_intro A_heaps_Queue_Len Tryz.func80 (c := bodyOf Tryz.f80) (by kernel_rfl) (by kernel_rfl) (by kernel_rfl) (cast_of (by kernel_rfl) H0)

def A_bimatch_pairs_take : An := ⟨lkA [(0, ⟨[0, 1, 2, 4, 5, 6, 7, 9, 13, 14, 15, 17, 18, 19, 20, 22, 26, 27, 3, 8, 10, 11, 12, 16, 21, 23, 24, 25, 28, 29, 30, 31], lkN []⟩)], lkL [], lkC []⟩
def B_bimatch_pairs_take (p0_p : Value) (p1_i : Int) (R : Res → H → Prop) (h : H) : Prop :=
  ptrP p0_p fun a1 =>
  ptrP p0_p fun a2 =>
  ptrP p0_p fun a3 =>
  ptrP p0_p fun a4 =>
  ldV h (a1.add 4) fun x5 =>
  ldV h ((a2.add 0).add 1) fun x6 =>
  ixS x6 p1_i 4 fun a7 =>
  ldI h (a7.add 0) .i64 fun x8 =>
  ldV h (a3.add 4) fun x9 =>
  ldV h ((a4.add 0).add 1) fun x10 =>
  ixS x10 p1_i 4 fun a11 =>
  ldI h (a11.add 1) .i64 fun x12 =>
  ixS x5 x8 1 fun a13 =>
  stC h a13 (.int .i64 p1_i) fun h14 =>
  ixS x9 x12 1 fun a15 =>
  stC h14 a15 (.int .i64 p1_i) fun h16 =>
  R (.ret (.tuple ⟨[]⟩)) h16
theorem E_bimatch_pairs_take {p0_p : Value} {p1_i : Int} {R : Res → H → Prop} {h : H} (H0 : B_bimatch_pairs_take p0_p p1_i R h) : T Tryz.prog F.bimatch_pairs_take [p0_p, .int .i64 p1_i] h R :=
  T_intro A_bimatch_pairs_take Tryz.func85 (c := bodyOf Tryz.f85) (by kernel_rfl) (by kernel_rfl) (by kernel_rfl) (cast_of (by kernel_rfl) H0)

def A_bimatch_simple_match : An := ⟨lkA [(0, rng 8), (1, rng 1), (2, rng 2), (3, rng 13), (4, rng 3), (5, rng 2)], lkL [(1, [(10, .int .i64)])], lkC []⟩
def B_bimatch_simple_match (p0_s : Value) (R : Res → H → Prop) (h : H) : Prop :=
  ptrP p0_s fun a1 =>
  ldV h (a1.add 0) fun x2 =>
  ptrP x2 fun a3 =>
  ldI h (a3.add 2) .i64 fun x4 =>
  ∃ (I5 : (Int × Unit) → H → Prop) (r6 : (Int × Unit) × H → (Int × Unit) × H → Prop), WellFounded r6 ∧ I5 (0, ()) h ∧
  ∀ (s8 : Int) (h7 : H), I5 (s8, ()) h7 →
  ifP (decide (s8 < x4)) (ptrP p0_s fun a9 =>
  ldV h7 (a9.add 0) fun x10 =>
  ptrP x10 fun a11 =>
  ldI h7 ((a11.add 0).add 0) .i64 fun x12 =>
  mkS x12 x12 1 [.bool false] 4 h7 fun b13 h14 =>
  ptrP p0_s fun a15 =>
  stC h14 (a15.add 1) (.slice (some (bk b13)) x12.toNat x12.toNat) fun h16 =>
  T Tryz.prog F.bimatch_simple_try [p0_s, .int .i64 s8] h16 (rt (fun v17 h18 =>
  ∃ r19, v17 = .bool r19 ∧
  I5 ((IntKind.i64.wrap (s8 + 1)), ()) h18 ∧ r6 (((IntKind.i64.wrap (s8 + 1)), ()), h18) ((s8, ()), h7)) (fun v20 h21 => R (.pan v20) h21)))
  (R (.ret (.tuple ⟨[]⟩)) h7)
theorem E_bimatch_simple_match {p0_s : Value} {R : Res → H → Prop} {h : H} (H0 : B_bimatch_simple_match p0_s R h) : T Tryz.prog F.bimatch_simple_match [p0_s] h R :=
  T_intro A_bimatch_simple_match Tryz.func86 (c := bodyOf Tryz.f86) (by kernel_rfl) (by kernel_rfl) (by kernel_rfl) (cast_of (by kernel_rfl) H0)

def A_bimatch_simple_try : An := ⟨lkA [(0, rng 1), (1, rng 12), (2, rng 1), (3, rng 3), (4, rng 8), (5, rng 7), (6, rng 7), (7, rng 11), (8, rng 13), (9, rng 6), (10, rng 1), (11, rng 2), (12, rng 1)], lkL [(2, [(20, .int .i64)])], lkC []⟩
def B_bimatch_simple_try (p0_s : Value) (p1_v : Int) (R : Res → H → Prop) (h : H) : Prop :=
  ptrP p0_s fun a1 =>
  ldV h (a1.add 0) fun x2 =>
  ptrP x2 fun a3 =>
  ldV h (a3.add 3) fun x4 =>
  ixS x4 p1_v 1 fun a5 =>
  ldV h a5 fun x6 =>
  slcP x6 fun a7 l8 c9 =>
  ∃ (I10 : (Int × Unit) → H → Prop) (r11 : (Int × Unit) × H → (Int × Unit) × H → Prop), WellFounded r11 ∧ I10 (0, ()) h ∧
  ∀ (s13 : Int) (h12 : H), I10 (s13, ()) h12 →
  ifP (decide (s13 < ((l8 : Nat) : Int))) (ixS x6 s13 1 fun a14 =>
  ldI h12 a14 .i64 fun x15 =>
  ptrP p0_s fun a16 =>
  ldV h12 (a16.add 0) fun x17 =>
  T Tryz.prog F.bimatch_pairs_other [x17, .int .i64 x15, .int .i64 p1_v] h12 (rt (fun v18 h19 =>
  ∃ r20, v18 = .int .i64 r20 ∧
  ptrP p0_s fun a21 =>
  ldV h19 (a21.add 1) fun x22 =>
  ixS x22 r20 1 fun a23 =>
  ldB h19 a23 fun x24 =>
  ifP x24 (I10 ((IntKind.i64.wrap (s13 + 1)), ()) h19 ∧ r11 (((IntKind.i64.wrap (s13 + 1)), ()), h19) ((s13, ()), h12))
  (ptrP p0_s fun a25 =>
  ldV h19 (a25.add 1) fun x26 =>
  ixS x26 r20 1 fun a27 =>
  stC h19 a27 (.bool true) fun h28 =>
  ptrP p0_s fun a29 =>
  ldV h28 (a29.add 0) fun x30 =>
  ptrP x30 fun a31 =>
  ldV h28 (a31.add 4) fun x32 =>
  ixS x32 r20 1 fun a33 =>
  ldI h28 a33 .i64 fun x34 =>
  ifP (decide (x34 < 0)) (ptrP p0_s fun a35 =>
  ldV h28 (a35.add 0) fun x36 =>
  T Tryz.prog F.bimatch_pairs_take [x36, .int .i64 x15] h28 (rt (fun v37 h38 =>
  v37 = .tuple ⟨[]⟩ ∧
  R (.ret (.bool true)) h38) (fun v39 h40 => R (.pan v39) h40))) (ptrP p0_s fun a41 =>
  ldV h28 (a41.add 0) fun x42 =>
  T Tryz.prog F.bimatch_pairs_other [x42, .int .i64 x34, .int .i64 r20] h28 (rt (fun v43 h44 =>
  ∃ r45, v43 = .int .i64 r45 ∧
  T Tryz.prog F.bimatch_simple_try [p0_s, .int .i64 r45] h44 (rt (fun v46 h47 =>
  ∃ r48, v46 = .bool r48 ∧
  ifP r48 (ptrP p0_s fun a49 =>
  ldV h47 (a49.add 0) fun x50 =>
  T Tryz.prog F.bimatch_pairs_take [x50, .int .i64 x15] h47 (rt (fun v51 h52 =>
  v51 = .tuple ⟨[]⟩ ∧
  R (.ret (.bool true)) h52) (fun v53 h54 => R (.pan v53) h54)))
  (I10 ((IntKind.i64.wrap (s13 + 1)), ()) h47 ∧ r11 (((IntKind.i64.wrap (s13 + 1)), ()), h47) ((s13, ()), h12))) (fun v55 h56 => R (.pan v55) h56))) (fun v57 h58 => R (.pan v57) h58))))) (fun v59 h60 => R (.pan v59) h60)))
  (R (.ret (.bool false)) h12)
theorem E_bimatch_simple_try {p0_s : Value} {p1_v : Int} {R : Res → H → Prop} {h : H} (H0 : B_bimatch_simple_try p0_s p1_v R h) : T Tryz.prog F.bimatch_simple_try [p0_s, .int .i64 p1_v] h R :=
  T_intro A_bimatch_simple_try Tryz.func87 (c := bodyOf Tryz.f87) (by kernel_rfl) (by kernel_rfl) (by kernel_rfl) (cast_of (by kernel_rfl) H0)

def A_bimatch_phases_match : An := ⟨lkA [(0, rng 2), (1, rng 8), (2, rng 1), (3, rng 2), (4, rng 11), (5, rng 3), (6, rng 2)], lkL [(0, []), (2, [(12, .int .i64)])], lkC []⟩
def B_bimatch_phases_match (p0_p : Value) (R : Res → H → Prop) (h : H) : Prop :=
  ∃ (I1 : (Unit) → H → Prop) (r2 : (Unit) × H → (Unit) × H → Prop), WellFounded r2 ∧ I1 (()) h ∧
  ∀  (h3 : H), I1 (()) h3 →
  T Tryz.prog F.bimatch_phases_layer [p0_p] h3 (rt (fun v4 h5 =>
  ∃ r6, v4 = .bool r6 ∧
  ifP r6 (ptrP p0_p fun a7 =>
  ldV h5 (a7.add 0) fun x8 =>
  ptrP x8 fun a9 =>
  ldI h5 (a9.add 2) .i64 fun x10 =>
  ∃ (I11 : (Int × Unit) → H → Prop) (r12 : (Int × Unit) × H → (Int × Unit) × H → Prop), WellFounded r12 ∧ I11 (0, ()) h5 ∧
  ∀ (s14 : Int) (h13 : H), I11 (s14, ()) h13 →
  ifP (decide (s14 < x10)) (ptrP p0_p fun a15 =>
  ldV h13 (a15.add 0) fun x16 =>
  ptrP x16 fun a17 =>
  ldV h13 (a17.add 4) fun x18 =>
  ixS x18 s14 1 fun a19 =>
  ldI h13 a19 .i64 fun x20 =>
  ifP (decide (x20 < 0)) (T Tryz.prog F.bimatch_phases_along [p0_p, .int .i64 s14] h13 (rt (fun v21 h22 =>
  ∃ r23, v21 = .bool r23 ∧
  I11 ((IntKind.i64.wrap (s14 + 1)), ()) h22 ∧ r12 (((IntKind.i64.wrap (s14 + 1)), ()), h22) ((s14, ()), h13)) (fun v24 h25 => R (.pan v24) h25)))
  (I11 ((IntKind.i64.wrap (s14 + 1)), ()) h13 ∧ r12 (((IntKind.i64.wrap (s14 + 1)), ()), h13) ((s14, ()), h13)))
  (I1 (()) h13 ∧ r2 ((()), h13) ((()), h3)))
  (R (.ret (.tuple ⟨[]⟩)) h5)) (fun v26 h27 => R (.pan v26) h27))
theorem E_bimatch_phases_match {p0_p : Value} {R : Res → H → Prop} {h : H} (H0 : B_bimatch_phases_match p0_p R h) : T Tryz.prog F.bimatch_phases_match [p0_p] h R :=
  T_intro A_bimatch_phases_match Tryz.func88 (c := bodyOf Tryz.f88) (by kernel_rfl) (by kernel_rfl) (by kernel_rfl) (cast_of (by kernel_rfl) H0)

def A_bimatch_phases_layer : An := ⟨lkA [(0, rng 1), (1, rng 13), (2, rng 13), (3, rng 1), (4, rng 6), (5, rng 1), (6, rng 2), (7, rng 7), (8, rng 22), (9, rng 7), (10, rng 5), (11, rng 2), (12, rng 1), (13, rng 1), (14, rng 4), (15, rng 3), (16, rng 5), (17, rng 12), (18, rng 1), (19, rng 3), (20, ⟨[0, 1, 2, 7, 8, 9, 11, 12, 3, 4, 5, 6, 10, 13, 14, 15, 16], lkN [(13, [3, 6])]⟩), (21, rng 2), (22, rng 1), (23, ⟨[0, 1, 2, 4, 5, 6, 7, 9, 10, 3, 8, 11, 12, 13], lkN [(11, [3])]⟩), (24, rng 8), (25, ⟨[0, 1, 2, 4, 5, 6, 7, 9, 3, 8, 10, 11, 12, 13, 14], lkN []⟩), (26, rng 5), (27, rng 2), (28, rng 2)], lkL [(5, [(3, .val), (41, .int .i64)]), (14, [(3, .val), (5, .bool), (6, .int .i64)]), (18, [(3, .val), (5, .bool), (104, .int .i64)])], lkC []⟩
def B_bimatch_phases_layer (p0_p : Value) (R : Res → H → Prop) (h : H) : Prop :=
  ptrP p0_p fun a1 =>
  ldV h (a1.add 0) fun x2 =>
  ptrP x2 fun a3 =>
  ldI h ((a3.add 0).add 0) .i64 fun x4 =>
  mkS x4 x4 8 [.int .i64 0] 3 h fun b5 h6 =>
  ptrP p0_p fun a7 =>
  stC h6 (a7.add 1) (.slice (some (bk b5)) x4.toNat x4.toNat) fun h8 =>
  ptrP p0_p fun a9 =>
  ldV h8 (a9.add 0) fun x10 =>
  ptrP x10 fun a11 =>
  ldI h8 ((a11.add 0).add 0) .i64 fun x12 =>
  mkS x12 x12 8 [.int .i64 0] 3 h8 fun b13 h14 =>
  ptrP p0_p fun a15 =>
  stC h14 (a15.add 2) (.slice (some (bk b13)) x12.toNat x12.toNat) fun h16 =>
  ptrP p0_p fun a17 =>
  ldV h16 (a17.add 1) fun x18 =>
  slcP x18 fun a19 l20 c21 =>
  ∃ (I22 : (Value × Int × Unit) → H → Prop) (r23 : (Value × Int × Unit) × H → (Value × Int × Unit) × H → Prop), WellFounded r23 ∧ I22 ((.slice none 0 0 : Value), 0, ()) h16 ∧
  ∀ (queue_25 : Value) (s26 : Int) (h24 : H), I22 (queue_25, s26, ()) h24 →
  ifP (decide (s26 < ((l20 : Nat) : Int))) (ptrP p0_p fun a27 =>
  ldV h24 (a27.add 1) fun x28 =>
  ixS x28 s26 1 fun a29 =>
  stC h24 a29 (.int .i64 (-1)) fun h30 =>
  ptrP p0_p fun a31 =>
  ldV h30 (a31.add 0) fun x32 =>
  ptrP x32 fun a33 =>
  ldI h30 (a33.add 2) .i64 fun x34 =>
  ifP (decide (s26 < x34)) (ptrP p0_p fun a35 =>
  ldV h30 (a35.add 0) fun x36 =>
  ptrP x36 fun a37 =>
  ldV h30 (a37.add 4) fun x38 =>
  ixS x38 s26 1 fun a39 =>
  ldI h30 a39 .i64 fun x40 =>
  ifP (decide (x40 < 0)) (ptrP p0_p fun a41 =>
  ldV h30 (a41.add 1) fun x42 =>
  ixS x42 s26 1 fun a43 =>
  stC h30 a43 (.int .i64 0) fun h44 =>
  newP h44 (.cells ⟨[.int .i64 s26]⟩ 3 (0, 0)) fun b45 h46 =>
  apP queue_25 (.slice (some (bk b45)) 1 1) h46 1 3 8 [.int .i64 0] fun s47 h48 =>
  I22 (s47, (IntKind.i64.wrap (s26 + 1)), ()) h48 ∧ r23 ((s47, (IntKind.i64.wrap (s26 + 1)), ()), h48) ((queue_25, s26, ()), h24))
  (I22 (queue_25, (IntKind.i64.wrap (s26 + 1)), ()) h30 ∧ r23 ((queue_25, (IntKind.i64.wrap (s26 + 1)), ()), h30) ((queue_25, s26, ()), h24))) (I22 (queue_25, (IntKind.i64.wrap (s26 + 1)), ()) h30 ∧ r23 ((queue_25, (IntKind.i64.wrap (s26 + 1)), ()), h30) ((queue_25, s26, ()), h24)))
  (∃ (I49 : (Value × Bool × Int × Unit) → H → Prop) (r50 : (Value × Bool × Int × Unit) × H → (Value × Bool × Int × Unit) × H → Prop), WellFounded r50 ∧ I49 (queue_25, false, 0, ()) h24 ∧
  ∀ (queue_52 : Value) (found_53 : Bool) (n_54 : Int) (h51 : H), I49 (queue_52, found_53, n_54, ()) h51 →
  slcP queue_52 fun a55 l56 c57 =>
  ifP (decide (n_54 < ((l56 : Nat) : Int))) (ixS queue_52 n_54 1 fun a58 =>
  ldI h51 a58 .i64 fun x59 =>
  ptrP p0_p fun a60 =>
  ldV h51 (a60.add 0) fun x61 =>
  ptrP x61 fun a62 =>
  ldV h51 (a62.add 3) fun x63 =>
  ixS x63 x59 1 fun a64 =>
  ldV h51 a64 fun x65 =>
  slcP x65 fun a66 l67 c68 =>
  ∃ (I69 : (Value × Bool × Int × Unit) → H → Prop) (r70 : (Value × Bool × Int × Unit) × H → (Value × Bool × Int × Unit) × H → Prop), WellFounded r70 ∧ I69 (queue_52, found_53, 0, ()) h51 ∧
  ∀ (queue_72 : Value) (found_73 : Bool) (s74 : Int) (h71 : H), I69 (queue_72, found_73, s74, ()) h71 →
  ifP (decide (s74 < ((l67 : Nat) : Int))) (ixS x65 s74 1 fun a75 =>
  ldI h71 a75 .i64 fun x76 =>
  ptrP p0_p fun a77 =>
  ptrP p0_p fun a78 =>
  ldV h71 (a77.add 0) fun x79 =>
  ptrP x79 fun a80 =>
  ldV h71 (a80.add 4) fun x81 =>
  ldV h71 (a78.add 0) fun x82 =>
  T Tryz.prog F.bimatch_pairs_other [x82, .int .i64 x76, .int .i64 x59] h71 (rt (fun v83 h84 =>
  ∃ r85, v83 = .int .i64 r85 ∧
  (sameAt 2 (a80.add 4) h71 h84) ∧
  (sameAt 2 (a77.add 0) h71 h84) ∧
  ixS x81 r85 1 fun a86 =>
  ldI h84 a86 .i64 fun x87 =>
  ifP (decide (x87 < 0)) (I69 (queue_72, true, (IntKind.i64.wrap (s74 + 1)), ()) h84 ∧ r70 ((queue_72, true, (IntKind.i64.wrap (s74 + 1)), ()), h84) ((queue_72, found_73, s74, ()), h71))
  (ptrP p0_p fun a88 =>
  ptrP p0_p fun a89 =>
  ldV h84 (a88.add 0) fun x90 =>
  ldV h84 (a89.add 0) fun x91 =>
  T Tryz.prog F.bimatch_pairs_other [x91, .int .i64 x76, .int .i64 x59] h84 (rt (fun v92 h93 =>
  ∃ r94, v92 = .int .i64 r94 ∧
  (sameAt 2 (a88.add 0) h84 h93) ∧
  T Tryz.prog F.bimatch_pairs_other [x90, .int .i64 x87, .int .i64 r94] h93 (rt (fun v95 h96 =>
  ∃ r97, v95 = .int .i64 r97 ∧
  ptrP p0_p fun a98 =>
  ldV h96 (a98.add 1) fun x99 =>
  ixS x99 r97 1 fun a100 =>
  ldI h96 a100 .i64 fun x101 =>
  ifP (decide (x101 < 0)) (ptrP p0_p fun a102 =>
  ptrP p0_p fun a103 =>
  ldV h96 (a102.add 1) fun x104 =>
  ldV h96 (a103.add 1) fun x105 =>
  ixS x105 x59 1 fun a106 =>
  ldI h96 a106 .i64 fun x107 =>
  ixS x104 r97 1 fun a108 =>
  stC h96 a108 (.int .i64 (IntKind.i64.wrap (x107 + 1))) fun h109 =>
  newP h109 (.cells ⟨[.int .i64 r97]⟩ 3 (0, 0)) fun b110 h111 =>
  apP queue_72 (.slice (some (bk b110)) 1 1) h111 1 3 8 [.int .i64 0] fun s112 h113 =>
  I69 (s112, found_73, (IntKind.i64.wrap (s74 + 1)), ()) h113 ∧ r70 ((s112, found_73, (IntKind.i64.wrap (s74 + 1)), ()), h113) ((queue_72, found_73, s74, ()), h71))
  (I69 (queue_72, found_73, (IntKind.i64.wrap (s74 + 1)), ()) h96 ∧ r70 ((queue_72, found_73, (IntKind.i64.wrap (s74 + 1)), ()), h96) ((queue_72, found_73, s74, ()), h71))) (fun v114 h115 => R (.pan v114) h115))) (fun v116 h117 => R (.pan v116) h117)))) (fun v118 h119 => R (.pan v118) h119)))
  (I49 (queue_72, found_73, (IntKind.i64.wrap (n_54 + 1)), ()) h71 ∧ r50 ((queue_72, found_73, (IntKind.i64.wrap (n_54 + 1)), ()), h71) ((queue_52, found_53, n_54, ()), h51)))
  (R (.ret (.bool found_53)) h51))
theorem E_bimatch_phases_layer {p0_p : Value} {R : Res → H → Prop} {h : H} (H0 : B_bimatch_phases_layer p0_p R h) : T Tryz.prog F.bimatch_phases_layer [p0_p] h R :=
  T_intro A_bimatch_phases_layer Tryz.func89 (c := bodyOf Tryz.f89) (by kernel_rfl) (by kernel_rfl) (by kernel_rfl) (cast_of (by kernel_rfl) H0)

def A_bimatch_phases_along : An := ⟨lkA [(0, rng 1), (1, ⟨[0, 1, 2, 4, 7, 8, 9, 14, 3, 5, 6, 10, 11, 12, 13, 15, 16, 17, 18], lkN []⟩), (2, rng 10), (3, ⟨[0, 1, 2, 7, 10, 11, 12, 14, 3, 4, 5, 6, 8, 9, 13, 15, 16, 17, 18, 19], lkN []⟩), (4, ⟨[0, 1, 2, 7, 8, 9, 11, 12, 3, 4, 5, 6, 10, 13, 14, 15, 16], lkN [(13, [3, 6])]⟩), (5, rng 2), (6, ⟨[0, 1, 2, 4, 5, 6, 7, 9, 10, 3, 8, 11, 12, 13], lkN [(11, [3])]⟩), (7, ⟨[0, 1, 2, 4, 7, 8, 9, 11, 3, 5, 6, 10, 12, 13, 14, 15, 16, 17, 18, 19, 20, 21], lkN []⟩), (8, rng 6), (9, rng 1), (10, rng 7), (11, rng 1)], lkL [(1, [])], lkC [(8, [])]⟩
def B_bimatch_phases_along (p0_p : Value) (p1_v : Int) (R : Res → H → Prop) (h : H) : Prop :=
  ∃ (I1 : (Unit) → H → Prop) (r2 : (Unit) × H → (Unit) × H → Prop), WellFounded r2 ∧ I1 (()) h ∧
  ∀  (h3 : H), I1 (()) h3 →
  ptrP p0_p fun a4 =>
  ptrP p0_p fun a5 =>
  ldV h3 (a4.add 2) fun x6 =>
  ixS x6 p1_v 1 fun a7 =>
  ldI h3 a7 .i64 fun x8 =>
  ldV h3 (a5.add 0) fun x9 =>
  ptrP x9 fun a10 =>
  ldV h3 (a10.add 3) fun x11 =>
  ixS x11 p1_v 1 fun a12 =>
  ldV h3 a12 fun x13 =>
  slcP x13 fun a14 l15 c16 =>
  ifP (decide (x8 < ((l15 : Nat) : Int))) (ptrP p0_p fun a17 =>
  ptrP p0_p fun a18 =>
  ldV h3 (a17.add 0) fun x19 =>
  ptrP x19 fun a20 =>
  ldV h3 (a20.add 3) fun x21 =>
  ixS x21 p1_v 1 fun a22 =>
  ldV h3 a22 fun x23 =>
  ldV h3 (a18.add 2) fun x24 =>
  ixS x24 p1_v 1 fun a25 =>
  ldI h3 a25 .i64 fun x26 =>
  ixS x23 x26 1 fun a27 =>
  ldI h3 a27 .i64 fun x28 =>
  ptrP p0_p fun a29 =>
  ptrP p0_p fun a30 =>
  ldV h3 (a29.add 0) fun x31 =>
  ptrP x31 fun a32 =>
  ldV h3 (a32.add 4) fun x33 =>
  ldV h3 (a30.add 0) fun x34 =>
  T Tryz.prog F.bimatch_pairs_other [x34, .int .i64 x28, .int .i64 p1_v] h3 (rt (fun v35 h36 =>
  ∃ r37, v35 = .int .i64 r37 ∧
  (sameAt 2 (a32.add 4) h3 h36) ∧
  (sameAt 2 (a29.add 0) h3 h36) ∧
  ixS x33 r37 1 fun a38 =>
  ldI h36 a38 .i64 fun x39 =>
  ∃ J40 : (Unit) → H → Prop, (ifP (decide (0 ≤ x39)) (ptrP p0_p fun a42 =>
  ptrP p0_p fun a43 =>
  ldV h36 (a42.add 0) fun x44 =>
  ldV h36 (a43.add 0) fun x45 =>
  T Tryz.prog F.bimatch_pairs_other [x45, .int .i64 x28, .int .i64 p1_v] h36 (rt (fun v46 h47 =>
  ∃ r48, v46 = .int .i64 r48 ∧
  (sameAt 2 (a42.add 0) h36 h47) ∧
  T Tryz.prog F.bimatch_pairs_other [x44, .int .i64 x39, .int .i64 r48] h47 (rt (fun v49 h50 =>
  ∃ r51, v49 = .int .i64 r51 ∧
  ptrP p0_p fun a52 =>
  ptrP p0_p fun a53 =>
  ldV h50 (a52.add 1) fun x54 =>
  ixS x54 r51 1 fun a55 =>
  ldI h50 a55 .i64 fun x56 =>
  ldV h50 (a53.add 1) fun x57 =>
  ixS x57 p1_v 1 fun a58 =>
  ldI h50 a58 .i64 fun x59 =>
  ifP (!decide (x56 = (IntKind.i64.wrap (x59 + 1)))) (ptrP p0_p fun a60 =>
  ldV h50 (a60.add 2) fun x61 =>
  ixS x61 p1_v 1 fun a62 =>
  ldI h50 a62 .i64 fun x63 =>
  ixS x61 p1_v 1 fun a64 =>
  stC h50 a64 (.int .i64 (IntKind.i64.wrap (x63 + 1))) fun h65 =>
  I1 (()) h65 ∧ r2 ((()), h65) ((()), h3)) (T Tryz.prog F.bimatch_phases_along [p0_p, .int .i64 r51] h50 (rt (fun v66 h67 =>
  ∃ r68, v66 = .bool r68 ∧
  ifP (!r68) (ptrP p0_p fun a69 =>
  ldV h67 (a69.add 2) fun x70 =>
  ixS x70 p1_v 1 fun a71 =>
  ldI h67 a71 .i64 fun x72 =>
  ixS x70 p1_v 1 fun a73 =>
  stC h67 a73 (.int .i64 (IntKind.i64.wrap (x72 + 1))) fun h74 =>
  I1 (()) h74 ∧ r2 ((()), h74) ((()), h3))
  (J40 (()) h67)) (fun v75 h76 => R (.pan v75) h76)))) (fun v77 h78 => R (.pan v77) h78))) (fun v79 h80 => R (.pan v79) h80)))
  (J40 (()) h36)) ∧
  (∀  (h41 : H), J40 (()) h41 →
  ptrP p0_p fun a81 =>
  ldV h41 (a81.add 0) fun x82 =>
  T Tryz.prog F.bimatch_pairs_take [x82, .int .i64 x28] h41 (rt (fun v83 h84 =>
  v83 = .tuple ⟨[]⟩ ∧
  R (.ret (.bool true)) h84) (fun v85 h86 => R (.pan v85) h86)))) (fun v87 h88 => R (.pan v87) h88)))
  (ptrP p0_p fun a89 =>
  ldV h3 (a89.add 1) fun x90 =>
  ixS x90 p1_v 1 fun a91 =>
  stC h3 a91 (.int .i64 (-1)) fun h92 =>
  R (.ret (.bool false)) h92)
theorem E_bimatch_phases_along {p0_p : Value} {p1_v : Int} {R : Res → H → Prop} {h : H} (H0 : B_bimatch_phases_along p0_p p1_v R h) : T Tryz.prog F.bimatch_phases_along [p0_p, .int .i64 p1_v] h R :=
  T_intro A_bimatch_phases_along Tryz.func90 (c := bodyOf Tryz.f90) (by kernel_rfl) (by kernel_rfl) (by kernel_rfl) (cast_of (by kernel_rfl) H0)

def A_maxflow_net_send : An := ⟨lkA [(0, rng 11), (1, rng 12)], lkL [], lkC []⟩
def B_maxflow_net_send (p0_n : Value) (p1_a : Int) (p2_x : Int) (R : Res → H → Prop) (h : H) : Prop :=
  ptrP p0_n fun a1 =>
  ldV h (a1.add 1) fun x2 =>
  ixS x2 p1_a 1 fun a3 =>
  ldI h a3 .i64 fun x4 =>
  ixS x2 p1_a 1 fun a5 =>
  stC h a5 (.int .i64 (IntKind.i64.wrap (x4 - p2_x))) fun h6 =>
  ptrP p0_n fun a7 =>
  ldV h6 (a7.add 1) fun x8 =>
  ixS x8 (bitsI .xor .i64 p1_a 1) 1 fun a9 =>
  ldI h6 a9 .i64 fun x10 =>
  ixS x8 (bitsI .xor .i64 p1_a 1) 1 fun a11 =>
  stC h6 a11 (.int .i64 (IntKind.i64.wrap (x10 + p2_x))) fun h12 =>
  R (.ret (.tuple ⟨[]⟩)) h12
theorem E_maxflow_net_send {p0_n : Value} {p1_a : Int} {p2_x : Int} {R : Res → H → Prop} {h : H} (H0 : B_maxflow_net_send p0_n p1_a p2_x R h) : T Tryz.prog F.maxflow_net_send [p0_n, .int .i64 p1_a, .int .i64 p2_x] h R :=
  T_intro A_maxflow_net_send Tryz.func91 (c := bodyOf Tryz.f91) (by kernel_rfl) (by kernel_rfl) (by kernel_rfl) (cast_of (by kernel_rfl) H0)

def A_maxflow_dinic_fill : An := ⟨lkA [(0, ⟨[0, 1, 2, 3, 5, 6, 7, 4, 8, 9, 10, 11, 12, 13, 14, 15], lkN []⟩), (1, ⟨[0, 1, 2, 4, 5, 6, 3, 7, 8, 9, 10, 11, 12, 13], lkN []⟩), (2, rng 13), (3, rng 9)], lkL [(0, [])], lkC []⟩
def B_maxflow_dinic_fill (p0_d : Value) (R : Res → H → Prop) (h : H) : Prop :=
  ∃ (I1 : (Unit) → H → Prop) (r2 : (Unit) × H → (Unit) × H → Prop), WellFounded r2 ∧ I1 (()) h ∧
  ∀  (h3 : H), I1 (()) h3 →
  ptrP p0_d fun a4 =>
  ptrP p0_d fun a5 =>
  ldV h3 (a4.add 0) fun x6 =>
  ldV h3 (a5.add 0) fun x7 =>
  ptrP x7 fun a8 =>
  ldI h3 (a8.add 3) .i64 fun x9 =>
  T Tryz.prog F.maxflow_net_levels [x6, .int .i64 x9] h3 (rt (fun v10 h11 =>
  ptrP p0_d fun a12 =>
  oneP v10 (stC h11 (a12.add 1) v10 fun h13 =>
  ptrP p0_d fun a14 =>
  ptrP p0_d fun a15 =>
  ldV h13 (a14.add 1) fun x16 =>
  ldV h13 (a15.add 0) fun x17 =>
  ptrP x17 fun a18 =>
  ldI h13 (a18.add 4) .i64 fun x19 =>
  ixS x16 x19 1 fun a20 =>
  ldI h13 a20 .i64 fun x21 =>
  ifP (decide (x21 < 0)) (R (.ret (.tuple ⟨[]⟩)) h13)
  (ptrP p0_d fun a22 =>
  ldV h13 (a22.add 0) fun x23 =>
  ptrP x23 fun a24 =>
  ldV h13 (a24.add 2) fun x25 =>
  slcP x25 fun a26 l27 c28 =>
  mkS ((l27 : Nat) : Int) ((l27 : Nat) : Int) 8 [.int .i64 0] 3 h13 fun b29 h30 =>
  ptrP p0_d fun a31 =>
  stC h30 (a31.add 2) (.slice (some (bk b29)) (((l27 : Nat) : Int).toNat) (((l27 : Nat) : Int).toNat)) fun h32 =>
  ptrP p0_d fun a33 =>
  ldV h32 (a33.add 0) fun x34 =>
  ptrP x34 fun a35 =>
  ldI h32 (a35.add 3) .i64 fun x36 =>
  T Tryz.prog F.maxflow_dinic_along [p0_d, .int .i64 x36, .int .i64 4611686018427387904] h32 (rt (fun v37 h38 =>
  ∃ r39, v37 = .int .i64 r39 ∧
  I1 (()) h38 ∧ r2 ((()), h38) ((()), h3)) (fun v40 h41 => R (.pan v40) h41))))) (fun v42 h43 => R (.pan v42) h43))
theorem E_maxflow_dinic_fill {p0_d : Value} {R : Res → H → Prop} {h : H} (H0 : B_maxflow_dinic_fill p0_d R h) : T Tryz.prog F.maxflow_dinic_fill [p0_d] h R :=
  T_intro A_maxflow_dinic_fill Tryz.func92 (c := bodyOf Tryz.f92) (by kernel_rfl) (by kernel_rfl) (by kernel_rfl) (cast_of (by kernel_rfl) H0)

def A_maxflow_dinic_along : An := ⟨lkA [(0, rng 1), (1, rng 13), (2, rng 2), (3, rng 1), (4, ⟨[0, 1, 2, 4, 7, 8, 9, 14, 3, 5, 6, 10, 11, 12, 13, 15, 16, 17, 18], lkN []⟩), (5, rng 10), (6, ⟨[0, 1, 2, 7, 10, 11, 12, 14, 3, 4, 5, 6, 8, 9, 13, 15, 16, 17, 18, 19], lkN []⟩), (7, rng 11), (8, ⟨[0, 1, 2, 7, 3, 4, 5, 6, 8, 9, 10, 11, 12, 13, 14, 16, 19, 20, 21, 23, 15, 17, 18, 22, 24, 25, 26, 27, 28], lkN []⟩), (9, rng 18), (10, rng 7), (11, rng 4), (12, rng 3), (13, rng 2)], lkL [(4, [(7, .int .i64)])], lkC [(5, [(7, .int .i64)])]⟩
def B_maxflow_dinic_along (p0_d : Value) (p1_v : Int) (p2_most : Int) (R : Res → H → Prop) (h : H) : Prop :=
  ptrP p0_d fun a1 =>
  ldV h (a1.add 0) fun x2 =>
  ptrP x2 fun a3 =>
  ldI h (a3.add 4) .i64 fun x4 =>
  ifP (decide (p1_v = x4)) (R (.ret (.int .i64 p2_most)) h) (ifP (decide (p2_most = 0)) (R (.ret (.int .i64 p2_most)) h)
  (∃ (I5 : (Int × Unit) → H → Prop) (r6 : (Int × Unit) × H → (Int × Unit) × H → Prop), WellFounded r6 ∧ I5 (0, ()) h ∧
  ∀ (sent_8 : Int) (h7 : H), I5 (sent_8, ()) h7 →
  ptrP p0_d fun a9 =>
  ptrP p0_d fun a10 =>
  ldV h7 (a9.add 2) fun x11 =>
  ixS x11 p1_v 1 fun a12 =>
  ldI h7 a12 .i64 fun x13 =>
  ldV h7 (a10.add 0) fun x14 =>
  ptrP x14 fun a15 =>
  ldV h7 (a15.add 2) fun x16 =>
  ixS x16 p1_v 1 fun a17 =>
  ldV h7 a17 fun x18 =>
  slcP x18 fun a19 l20 c21 =>
  ifP (decide (x13 < ((l20 : Nat) : Int))) (∃ J22 : (Int × Unit) → H → Prop, (ptrP p0_d fun a25 =>
  ptrP p0_d fun a26 =>
  ldV h7 (a25.add 0) fun x27 =>
  ptrP x27 fun a28 =>
  ldV h7 (a28.add 2) fun x29 =>
  ixS x29 p1_v 1 fun a30 =>
  ldV h7 a30 fun x31 =>
  ldV h7 (a26.add 2) fun x32 =>
  ixS x32 p1_v 1 fun a33 =>
  ldI h7 a33 .i64 fun x34 =>
  ixS x31 x34 1 fun a35 =>
  ldI h7 a35 .i64 fun x36 =>
  ptrP p0_d fun a37 =>
  ldV h7 (a37.add 0) fun x38 =>
  ptrP x38 fun a39 =>
  ldV h7 (a39.add 0) fun x40 =>
  ixS x40 x36 1 fun a41 =>
  ldI h7 a41 .i64 fun x42 =>
  ptrP p0_d fun a43 =>
  ldV h7 (a43.add 0) fun x44 =>
  ptrP x44 fun a45 =>
  ldV h7 (a45.add 1) fun x46 =>
  ixS x46 x36 1 fun a47 =>
  ldI h7 a47 .i64 fun x48 =>
  ifP (decide (x48 = 0)) (J22 (sent_8, ()) h7) (ptrP p0_d fun a49 =>
  ptrP p0_d fun a50 =>
  ldV h7 (a49.add 1) fun x51 =>
  ixS x51 x42 1 fun a52 =>
  ldI h7 a52 .i64 fun x53 =>
  ldV h7 (a50.add 1) fun x54 =>
  ixS x54 p1_v 1 fun a55 =>
  ldI h7 a55 .i64 fun x56 =>
  ifP (!decide (x53 = (IntKind.i64.wrap (x56 + 1)))) (J22 (sent_8, ()) h7)
  (ptrP p0_d fun a57 =>
  ldV h7 (a57.add 0) fun x58 =>
  ptrP x58 fun a59 =>
  ldV h7 (a59.add 1) fun x60 =>
  ixS x60 x36 1 fun a61 =>
  ldI h7 a61 .i64 fun x62 =>
  T Tryz.prog F.maxflow_dinic_along [p0_d, .int .i64 x42, .int .i64 (if x62 < (IntKind.i64.wrap (p2_most - sent_8)) then x62 else (IntKind.i64.wrap (p2_most - sent_8)))] h7 (rt (fun v63 h64 =>
  ∃ r65, v63 = .int .i64 r65 ∧
  ptrP p0_d fun a66 =>
  ldV h64 (a66.add 0) fun x67 =>
  T Tryz.prog F.maxflow_net_send [x67, .int .i64 x36, .int .i64 r65] h64 (rt (fun v68 h69 =>
  v68 = .tuple ⟨[]⟩ ∧
  ifP (decide ((IntKind.i64.wrap (sent_8 + r65)) = p2_most)) (R (.ret (.int .i64 (IntKind.i64.wrap (sent_8 + r65)))) h69)
  (J22 ((IntKind.i64.wrap (sent_8 + r65)), ()) h69)) (fun v70 h71 => R (.pan v70) h71))) (fun v72 h73 => R (.pan v72) h73))))) ∧
  (∀ (sent_24 : Int) (h23 : H), J22 (sent_24, ()) h23 →
  ptrP p0_d fun a74 =>
  ldV h23 (a74.add 2) fun x75 =>
  ixS x75 p1_v 1 fun a76 =>
  ldI h23 a76 .i64 fun x77 =>
  ixS x75 p1_v 1 fun a78 =>
  stC h23 a78 (.int .i64 (IntKind.i64.wrap (x77 + 1))) fun h79 =>
  I5 (sent_24, ()) h79 ∧ r6 ((sent_24, ()), h79) ((sent_8, ()), h7)))
  (R (.ret (.int .i64 sent_8)) h7)))
theorem E_maxflow_dinic_along {p0_d : Value} {p1_v : Int} {p2_most : Int} {R : Res → H → Prop} {h : H} (H0 : B_maxflow_dinic_along p0_d p1_v p2_most R h) : T Tryz.prog F.maxflow_dinic_along [p0_d, .int .i64 p1_v, .int .i64 p2_most] h R :=
  T_intro A_maxflow_dinic_along Tryz.func93 (c := bodyOf Tryz.f93) (by kernel_rfl) (by kernel_rfl) (by kernel_rfl) (cast_of (by kernel_rfl) H0)

def A_maxflow_trees_fill : An := ⟨lkA [(0, ⟨[0, 1, 2, 3, 5, 6, 7, 4, 8, 9, 10, 11, 12, 13, 14, 15], lkN []⟩), (1, ⟨[0, 1, 2, 4, 5, 6, 3, 7, 8, 9, 10, 11, 12, 13], lkN []⟩), (2, rng 2)], lkL [(0, [])], lkC []⟩
def B_maxflow_trees_fill (p0_f : Value) (R : Res → H → Prop) (h : H) : Prop :=
  ∃ (I1 : (Unit) → H → Prop) (r2 : (Unit) × H → (Unit) × H → Prop), WellFounded r2 ∧ I1 (()) h ∧
  ∀  (h3 : H), I1 (()) h3 →
  ptrP p0_f fun a4 =>
  ptrP p0_f fun a5 =>
  ldV h3 (a4.add 0) fun x6 =>
  ldV h3 (a5.add 0) fun x7 =>
  ptrP x7 fun a8 =>
  ldI h3 (a8.add 3) .i64 fun x9 =>
  T Tryz.prog F.maxflow_net_levels [x6, .int .i64 x9] h3 (rt (fun v10 h11 =>
  ptrP p0_f fun a12 =>
  oneP v10 (stC h11 (a12.add 3) v10 fun h13 =>
  ptrP p0_f fun a14 =>
  ptrP p0_f fun a15 =>
  ldV h13 (a14.add 3) fun x16 =>
  ldV h13 (a15.add 0) fun x17 =>
  ptrP x17 fun a18 =>
  ldI h13 (a18.add 4) .i64 fun x19 =>
  ixS x16 x19 1 fun a20 =>
  ldI h13 a20 .i64 fun x21 =>
  ifP (decide (x21 < 0)) (R (.ret (.tuple ⟨[]⟩)) h13)
  (T Tryz.prog F.maxflow_trees_phase [p0_f] h13 (rt (fun v22 h23 =>
  v22 = .tuple ⟨[]⟩ ∧
  I1 (()) h23 ∧ r2 ((()), h23) ((()), h3)) (fun v24 h25 => R (.pan v24) h25))))) (fun v26 h27 => R (.pan v26) h27))
theorem E_maxflow_trees_fill {p0_f : Value} {R : Res → H → Prop} {h : H} (H0 : B_maxflow_trees_fill p0_f R h) : T Tryz.prog F.maxflow_trees_fill [p0_f] h R :=
  T_intro A_maxflow_trees_fill Tryz.func94 (c := bodyOf Tryz.f94) (by kernel_rfl) (by kernel_rfl) (by kernel_rfl) (cast_of (by kernel_rfl) H0)

def A_maxflow_trees_phase : An := ⟨lkA [(0, rng 9), (1, rng 9), (2, ⟨[0, 1, 2, 4, 3, 6, 7, 8, 5, 9, 10, 11], lkN []⟩), (3, rng 6), (4, rng 1), (5, rng 2), (6, rng 7), (7, rng 2), (8, ⟨[0, 1, 2, 4, 5, 6, 3, 7, 8, 9, 10, 11, 12, 13, 14, 15, 16], lkN []⟩), (9, rng 7), (10, rng 6), (11, rng 1), (12, rng 5), (13, rng 16), (14, rng 3), (15, rng 10), (16, rng 2), (17, rng 10), (18, rng 2), (19, rng 4), (20, rng 10), (21, rng 6), (22, rng 1), (23, rng 2), (24, rng 8), (25, rng 3), (26, rng 2)], lkL [(4, [(40, .int .i64)]), (8, []), (11, [(76, .int .i64)]), (22, [(141, .int .i64)])], lkC []⟩
def B_maxflow_trees_phase (p0_f : Value) (R : Res → H → Prop) (h : H) : Prop :=
  ptrP p0_f fun a1 =>
  ldV h (a1.add 0) fun x2 =>
  ptrP x2 fun a3 =>
  ldV h (a3.add 2) fun x4 =>
  slcP x4 fun a5 l6 c7 =>
  T Tryz.prog F.links_New [.int .i64 ((l6 : Nat) : Int)] h (rt (fun v8 h9 =>
  ∃ r10 : Value, ∃ r11 : Int, v8 = .tuple ⟨[r10, .int .i64 r11]⟩ ∧
  ptrP p0_f fun a12 =>
  oneP r10 (stC h9 (a12.add 1) r10 fun h13 =>
  mkS ((l6 : Nat) : Int) ((l6 : Nat) : Int) 8 [.int .i64 0] 3 h13 fun b14 h15 =>
  ptrP p0_f fun a16 =>
  stC h15 (a16.add 2) (.slice (some (bk b14)) (((l6 : Nat) : Int).toNat) (((l6 : Nat) : Int).toNat)) fun h17 =>
  mkS ((l6 : Nat) : Int) ((l6 : Nat) : Int) 8 [.int .i64 0] 3 h17 fun b18 h19 =>
  ptrP p0_f fun a20 =>
  stC h19 (a20.add 4) (.slice (some (bk b18)) (((l6 : Nat) : Int).toNat) (((l6 : Nat) : Int).toNat)) fun h21 =>
  ptrP p0_f fun a22 =>
  ldV h21 (a22.add 2) fun x23 =>
  slcP x23 fun a24 l25 c26 =>
  ∃ (I27 : (Int × Unit) → H → Prop) (r28 : (Int × Unit) × H → (Int × Unit) × H → Prop), WellFounded r28 ∧ I27 (0, ()) h21 ∧
  ∀ (s30 : Int) (h29 : H), I27 (s30, ()) h29 →
  ifP (decide (s30 < ((l25 : Nat) : Int))) (ptrP p0_f fun a31 =>
  ldV h29 (a31.add 2) fun x32 =>
  ixS x32 s30 1 fun a33 =>
  stC h29 a33 (.int .i64 (-1)) fun h34 =>
  I27 ((IntKind.i64.wrap (s30 + 1)), ()) h34 ∧ r28 (((IntKind.i64.wrap (s30 + 1)), ()), h34) ((s30, ()), h29))
  (∃ (I35 : (Unit) → H → Prop) (r36 : (Unit) × H → (Unit) × H → Prop), WellFounded r36 ∧ I35 (()) h29 ∧
  ∀  (h37 : H), I35 (()) h37 →
  ptrP p0_f fun a38 =>
  ptrP p0_f fun a39 =>
  ldV h37 (a38.add 1) fun x40 =>
  ldV h37 (a39.add 0) fun x41 =>
  ptrP x41 fun a42 =>
  ldI h37 (a42.add 3) .i64 fun x43 =>
  T Tryz.prog F.links_Forest_Root [x40, .int .i64 x43] h37 (rt (fun v44 h45 =>
  ∃ r46 : Int, ∃ r47 : Int, v44 = .tuple ⟨[.int .i64 r46, .int .i64 r47]⟩ ∧
  ptrP p0_f fun a48 =>
  ldV h45 (a48.add 0) fun x49 =>
  ptrP x49 fun a50 =>
  ldI h45 (a50.add 4) .i64 fun x51 =>
  ifP (decide (r46 = x51)) (T Tryz.prog F.maxflow_trees_push [p0_f] h45 (rt (fun v52 h53 =>
  v52 = .tuple ⟨[]⟩ ∧
  I35 (()) h53 ∧ r36 ((()), h53) ((()), h37)) (fun v54 h55 => R (.pan v54) h55)))
  (T Tryz.prog F.maxflow_trees_grow [p0_f, .int .i64 r46] h45 (rt (fun v56 h57 =>
  ∃ r58, v56 = .bool r58 ∧
  ifP r58 (I35 (()) h57 ∧ r36 ((()), h57) ((()), h37))
  (ptrP p0_f fun a59 =>
  ldV h57 (a59.add 0) fun x60 =>
  ptrP x60 fun a61 =>
  ldI h57 (a61.add 3) .i64 fun x62 =>
  ifP (decide (r46 = x62)) (ptrP p0_f fun a63 =>
  ldV h57 (a63.add 2) fun x64 =>
  slcP x64 fun a65 l66 c67 =>
  ∃ (I68 : (Int × Unit) → H → Prop) (r69 : (Int × Unit) × H → (Int × Unit) × H → Prop), WellFounded r69 ∧ I68 (0, ()) h57 ∧
  ∀ (s71 : Int) (h70 : H), I68 (s71, ()) h70 →
  ifP (decide (s71 < ((l66 : Nat) : Int))) (ptrP p0_f fun a72 =>
  ldV h70 (a72.add 2) fun x73 =>
  ixS x73 s71 1 fun a74 =>
  ldI h70 a74 .i64 fun x75 =>
  ifP (decide (0 ≤ x75)) (T Tryz.prog F.maxflow_trees_drop [p0_f, .int .i64 s71] h70 (rt (fun v76 h77 =>
  v76 = .tuple ⟨[]⟩ ∧
  I68 ((IntKind.i64.wrap (s71 + 1)), ()) h77 ∧ r69 (((IntKind.i64.wrap (s71 + 1)), ()), h77) ((s71, ()), h70)) (fun v78 h79 => R (.pan v78) h79)))
  (I68 ((IntKind.i64.wrap (s71 + 1)), ()) h70 ∧ r69 (((IntKind.i64.wrap (s71 + 1)), ()), h70) ((s71, ()), h70)))
  (R (.ret (.tuple ⟨[]⟩)) h70))
  (ptrP p0_f fun a80 =>
  ldV h57 (a80.add 3) fun x81 =>
  ixS x81 r46 1 fun a82 =>
  stC h57 a82 (.int .i64 (-1)) fun h83 =>
  ptrP p0_f fun a84 =>
  ldV h83 (a84.add 2) fun x85 =>
  slcP x85 fun a86 l87 c88 =>
  ∃ (I89 : (Int × Unit) → H → Prop) (r90 : (Int × Unit) × H → (Int × Unit) × H → Prop), WellFounded r90 ∧ I89 (0, ()) h83 ∧
  ∀ (s92 : Int) (h91 : H), I89 (s92, ()) h91 →
  ifP (decide (s92 < ((l87 : Nat) : Int))) (ixS x85 s92 1 fun a93 =>
  ldI h91 a93 .i64 fun x94 =>
  ifP (decide (0 ≤ x94)) (ptrP p0_f fun a95 =>
  ldV h91 (a95.add 0) fun x96 =>
  ptrP x96 fun a97 =>
  ldV h91 (a97.add 0) fun x98 =>
  ixS x98 x94 1 fun a99 =>
  ldI h91 a99 .i64 fun x100 =>
  ifP (decide (x100 = r46)) (T Tryz.prog F.maxflow_trees_drop [p0_f, .int .i64 s92] h91 (rt (fun v101 h102 =>
  v101 = .tuple ⟨[]⟩ ∧
  ptrP p0_f fun a103 =>
  ldV h102 (a103.add 4) fun x104 =>
  ixS x104 s92 1 fun a105 =>
  ldI h102 a105 .i64 fun x106 =>
  ixS x104 s92 1 fun a107 =>
  stC h102 a107 (.int .i64 (IntKind.i64.wrap (x106 + 1))) fun h108 =>
  I89 ((IntKind.i64.wrap (s92 + 1)), ()) h108 ∧ r90 (((IntKind.i64.wrap (s92 + 1)), ()), h108) ((s92, ()), h91)) (fun v109 h110 => R (.pan v109) h110)))
  (I89 ((IntKind.i64.wrap (s92 + 1)), ()) h91 ∧ r90 (((IntKind.i64.wrap (s92 + 1)), ()), h91) ((s92, ()), h91))) (I89 ((IntKind.i64.wrap (s92 + 1)), ()) h91 ∧ r90 (((IntKind.i64.wrap (s92 + 1)), ()), h91) ((s92, ()), h91)))
  (I35 (()) h91 ∧ r36 ((()), h91) ((()), h37))))) (fun v111 h112 => R (.pan v111) h112)))) (fun v113 h114 => R (.pan v113) h114))))) (fun v115 h116 => R (.pan v115) h116))
theorem E_maxflow_trees_phase {p0_f : Value} {R : Res → H → Prop} {h : H} (H0 : B_maxflow_trees_phase p0_f R h) : T Tryz.prog F.maxflow_trees_phase [p0_f] h R :=
  T_intro A_maxflow_trees_phase Tryz.func95 (c := bodyOf Tryz.f95) (by kernel_rfl) (by kernel_rfl) (by kernel_rfl) (cast_of (by kernel_rfl) H0)

def A_links_New : An := ⟨lkA [(0, rng 2), (1, rng 6), (2, rng 2), (3, rng 5), (4, rng 6), (5, rng 1), (6, rng 2), (7, rng 8), (8, rng 2), (9, rng 3)], lkL [(5, [(21, .int .i64)])], lkC []⟩
def B_links_New (p0_n : Int) (R : Res → H → Prop) (h : H) : Prop :=
  ifP (decide (p0_n < 0)) (R (.ret (.tuple ⟨[.pointer none, .int .i64 3]⟩)) h) (ifP (decide (1024 < p0_n)) (R (.ret (.tuple ⟨[.pointer none, .int .i64 3]⟩)) h)
  (mkS p0_n p0_n 48 [.int .i64 0, .int .i64 0, .int .i64 0, .int .i64 0, .int .i64 0, .int .i64 0] 201 h fun b1 h2 =>
  newP h2 (.cells ⟨[.slice (some (bk b1)) p0_n.toNat p0_n.toNat]⟩ 199 (0, 0)) fun b3 h4 =>
  ldV h4 ((bk b3).add 0) fun x5 =>
  slcP x5 fun a6 l7 c8 =>
  ∃ (I9 : (Int × Unit) → H → Prop) (r10 : (Int × Unit) × H → (Int × Unit) × H → Prop), WellFounded r10 ∧ I9 (0, ()) h4 ∧
  ∀ (s12 : Int) (h11 : H), I9 (s12, ()) h11 →
  ifP (decide (s12 < ((l7 : Nat) : Int))) (ldV h11 ((bk b3).add 0) fun x13 =>
  ixS x13 s12 6 fun a14 =>
  stN h11 a14 [.int .i64 (-1), .int .i64 (-1), .int .i64 (-1), .int .i64 0, .int .i64 0, .int .i64 0] 6 fun h15 =>
  I9 ((IntKind.i64.wrap (s12 + 1)), ()) h15 ∧ r10 (((IntKind.i64.wrap (s12 + 1)), ()), h15) ((s12, ()), h11))
  (R (.ret (.tuple ⟨[.pointer (some (bk b3)), .int .i64 0]⟩)) h11)))
theorem E_links_New {p0_n : Int} {R : Res → H → Prop} {h : H} (H0 : B_links_New p0_n R h) : T Tryz.prog F.links_New [.int .i64 p0_n] h R :=
  T_intro A_links_New Tryz.func96 (c := bodyOf Tryz.f96) (by kernel_rfl) (by kernel_rfl) (by kernel_rfl) (cast_of (by kernel_rfl) H0)

def A_links_Forest_Root : An := ⟨lkA [(0, rng 2), (1, rng 4), (2, rng 2), (3, rng 5)], lkL [], lkC []⟩
def B_links_Forest_Root (p0_f : Value) (p1_v : Int) (R : Res → H → Prop) (h : H) : Prop :=
  T Tryz.prog F.links_Forest_node [p0_f, .int .i64 p1_v] h (rt (fun v1 h2 =>
  ∃ r3, v1 = .bool r3 ∧
  ifP (!r3) (R (.ret (.tuple ⟨[.int .i64 0, .int .i64 30]⟩)) h2)
  (T Tryz.prog F.links_Forest_root [p0_f, .int .i64 p1_v] h2 (rt (fun v4 h5 =>
  ∃ r6, v4 = .int .i64 r6 ∧
  R (.ret (.tuple ⟨[.int .i64 r6, .int .i64 0]⟩)) h5) (fun v7 h8 => R (.pan v7) h8)))) (fun v9 h10 => R (.pan v9) h10))
theorem E_links_Forest_Root {p0_f : Value} {p1_v : Int} {R : Res → H → Prop} {h : H} (H0 : B_links_Forest_Root p0_f p1_v R h) : T Tryz.prog F.links_Forest_Root [p0_f, .int .i64 p1_v] h R :=
  T_intro A_links_Forest_Root Tryz.func97 (c := bodyOf Tryz.f97) (by kernel_rfl) (by kernel_rfl) (by kernel_rfl) (cast_of (by kernel_rfl) H0)

def A_maxflow_trees_push : An := ⟨lkA [(0, ⟨[0, 1, 2, 4, 5, 6, 3, 7, 8, 9, 10, 11, 12, 13, 14, 15, 16, 17, 18], lkN []⟩), (1, ⟨[0, 1, 2, 4, 5, 6, 11, 3, 7, 8, 9, 10, 12, 13], lkN []⟩), (2, ⟨[0, 1, 2, 4, 5, 6, 3, 7, 8, 9, 10, 11, 12, 13, 14, 15, 16, 17, 18], lkN []⟩), (3, rng 6), (4, rng 3), (5, rng 10)], lkL [(2, [])], lkC []⟩
def B_maxflow_trees_push (p0_f : Value) (R : Res → H → Prop) (h : H) : Prop :=
  ptrP p0_f fun a1 =>
  ptrP p0_f fun a2 =>
  ldV h (a1.add 1) fun x3 =>
  ldV h (a2.add 0) fun x4 =>
  ptrP x4 fun a5 =>
  ldI h (a5.add 3) .i64 fun x6 =>
  T Tryz.prog F.links_Forest_Least [x3, .int .i64 x6] h (rt (fun v7 h8 =>
  ∃ r9 : Int, ∃ r10 : Int, ∃ r11 : Int, v7 = .tuple ⟨[.int .i64 r9, .int .i64 r10, .int .i64 r11]⟩ ∧
  ptrP p0_f fun a12 =>
  ptrP p0_f fun a13 =>
  ldV h8 (a12.add 1) fun x14 =>
  ldV h8 (a13.add 0) fun x15 =>
  ptrP x15 fun a16 =>
  ldI h8 (a16.add 3) .i64 fun x17 =>
  T Tryz.prog F.links_Forest_Add [x14, .int .i64 x17, .int .i64 (IntKind.i64.wrap (0 - r10))] h8 (rt (fun v18 h19 =>
  ∃ r20, v18 = .int .i64 r20 ∧
  ∃ (I21 : (Unit) → H → Prop) (r22 : (Unit) × H → (Unit) × H → Prop), WellFounded r22 ∧ I21 (()) h19 ∧
  ∀  (h23 : H), I21 (()) h23 →
  ptrP p0_f fun a24 =>
  ptrP p0_f fun a25 =>
  ldV h23 (a24.add 1) fun x26 =>
  ldV h23 (a25.add 0) fun x27 =>
  ptrP x27 fun a28 =>
  ldI h23 (a28.add 3) .i64 fun x29 =>
  T Tryz.prog F.links_Forest_Least [x26, .int .i64 x29] h23 (rt (fun v30 h31 =>
  ∃ r32 : Int, ∃ r33 : Int, ∃ r34 : Int, v30 = .tuple ⟨[.int .i64 r32, .int .i64 r33, .int .i64 r34]⟩ ∧
  ifP (!decide (r34 = 0)) (R (.ret (.tuple ⟨[]⟩)) h31) (ifP (decide (0 < r33)) (R (.ret (.tuple ⟨[]⟩)) h31)
  (T Tryz.prog F.maxflow_trees_drop [p0_f, .int .i64 r32] h31 (rt (fun v35 h36 =>
  v35 = .tuple ⟨[]⟩ ∧
  ptrP p0_f fun a37 =>
  ldV h36 (a37.add 4) fun x38 =>
  ixS x38 r32 1 fun a39 =>
  ldI h36 a39 .i64 fun x40 =>
  ixS x38 r32 1 fun a41 =>
  stC h36 a41 (.int .i64 (IntKind.i64.wrap (x40 + 1))) fun h42 =>
  I21 (()) h42 ∧ r22 ((()), h42) ((()), h23)) (fun v43 h44 => R (.pan v43) h44))))) (fun v45 h46 => R (.pan v45) h46))) (fun v47 h48 => R (.pan v47) h48))) (fun v49 h50 => R (.pan v49) h50))
theorem E_maxflow_trees_push {p0_f : Value} {R : Res → H → Prop} {h : H} (H0 : B_maxflow_trees_push p0_f R h) : T Tryz.prog F.maxflow_trees_push [p0_f] h R :=
  T_intro A_maxflow_trees_push Tryz.func98 (c := bodyOf Tryz.f98) (by kernel_rfl) (by kernel_rfl) (by kernel_rfl) (cast_of (by kernel_rfl) H0)

def A_maxflow_trees_grow : An := ⟨lkA [(0, rng 1), (1, ⟨[0, 1, 2, 4, 7, 8, 9, 14, 3, 5, 6, 10, 11, 12, 13, 15, 16, 17, 18], lkN []⟩), (2, rng 10), (3, ⟨[0, 1, 2, 7, 10, 11, 12, 14, 3, 4, 5, 6, 8, 9, 13, 15, 16, 17, 18, 19], lkN []⟩), (4, rng 11), (5, ⟨[0, 1, 2, 7, 3, 4, 5, 6, 8, 9, 10, 11, 12, 13, 14, 16, 19, 20, 21, 23, 15, 17, 18, 22, 24, 25, 26, 27, 28], lkN []⟩), (6, rng 8), (7, ⟨[0, 1, 2, 4, 5, 6, 7, 8, 13, 3, 9, 10, 11, 12, 14, 15, 16], lkN []⟩), (8, rng 1), (9, rng 1)], lkL [(1, [])], lkC []⟩
def B_maxflow_trees_grow (p0_f : Value) (p1_v : Int) (R : Res → H → Prop) (h : H) : Prop :=
  ∃ (I1 : (Unit) → H → Prop) (r2 : (Unit) × H → (Unit) × H → Prop), WellFounded r2 ∧ I1 (()) h ∧
  ∀  (h3 : H), I1 (()) h3 →
  ptrP p0_f fun a4 =>
  ptrP p0_f fun a5 =>
  ldV h3 (a4.add 4) fun x6 =>
  ixS x6 p1_v 1 fun a7 =>
  ldI h3 a7 .i64 fun x8 =>
  ldV h3 (a5.add 0) fun x9 =>
  ptrP x9 fun a10 =>
  ldV h3 (a10.add 2) fun x11 =>
  ixS x11 p1_v 1 fun a12 =>
  ldV h3 a12 fun x13 =>
  slcP x13 fun a14 l15 c16 =>
  ifP (decide (x8 < ((l15 : Nat) : Int))) (ptrP p0_f fun a17 =>
  ptrP p0_f fun a18 =>
  ldV h3 (a17.add 0) fun x19 =>
  ptrP x19 fun a20 =>
  ldV h3 (a20.add 2) fun x21 =>
  ixS x21 p1_v 1 fun a22 =>
  ldV h3 a22 fun x23 =>
  ldV h3 (a18.add 4) fun x24 =>
  ixS x24 p1_v 1 fun a25 =>
  ldI h3 a25 .i64 fun x26 =>
  ixS x23 x26 1 fun a27 =>
  ldI h3 a27 .i64 fun x28 =>
  ptrP p0_f fun a29 =>
  ldV h3 (a29.add 0) fun x30 =>
  ptrP x30 fun a31 =>
  ldV h3 (a31.add 0) fun x32 =>
  ixS x32 x28 1 fun a33 =>
  ldI h3 a33 .i64 fun x34 =>
  ptrP p0_f fun a35 =>
  ldV h3 (a35.add 0) fun x36 =>
  ptrP x36 fun a37 =>
  ldV h3 (a37.add 1) fun x38 =>
  ixS x38 x28 1 fun a39 =>
  ldI h3 a39 .i64 fun x40 =>
  ifP (decide (0 < x40)) (ptrP p0_f fun a41 =>
  ptrP p0_f fun a42 =>
  ldV h3 (a41.add 3) fun x43 =>
  ixS x43 x34 1 fun a44 =>
  ldI h3 a44 .i64 fun x45 =>
  ldV h3 (a42.add 3) fun x46 =>
  ixS x46 p1_v 1 fun a47 =>
  ldI h3 a47 .i64 fun x48 =>
  ifP (decide (x45 = (IntKind.i64.wrap (x48 + 1)))) (ptrP p0_f fun a49 =>
  ldV h3 (a49.add 2) fun x50 =>
  ixS x50 p1_v 1 fun a51 =>
  stC h3 a51 (.int .i64 x28) fun h52 =>
  ptrP p0_f fun a53 =>
  ptrP p0_f fun a54 =>
  ldV h52 (a53.add 1) fun x55 =>
  ldV h52 (a54.add 0) fun x56 =>
  ptrP x56 fun a57 =>
  ldV h52 (a57.add 1) fun x58 =>
  ixS x58 x28 1 fun a59 =>
  ldI h52 a59 .i64 fun x60 =>
  T Tryz.prog F.links_Forest_Link [x55, .int .i64 p1_v, .int .i64 x34, .int .i64 x60] h52 (rt (fun v61 h62 =>
  ∃ r63, v61 = .int .i64 r63 ∧
  R (.ret (.bool true)) h62) (fun v64 h65 => R (.pan v64) h65)))
  (ptrP p0_f fun a66 =>
  ldV h3 (a66.add 4) fun x67 =>
  ixS x67 p1_v 1 fun a68 =>
  ldI h3 a68 .i64 fun x69 =>
  ixS x67 p1_v 1 fun a70 =>
  stC h3 a70 (.int .i64 (IntKind.i64.wrap (x69 + 1))) fun h71 =>
  I1 (()) h71 ∧ r2 ((()), h71) ((()), h3))) (ptrP p0_f fun a72 =>
  ldV h3 (a72.add 4) fun x73 =>
  ixS x73 p1_v 1 fun a74 =>
  ldI h3 a74 .i64 fun x75 =>
  ixS x73 p1_v 1 fun a76 =>
  stC h3 a76 (.int .i64 (IntKind.i64.wrap (x75 + 1))) fun h77 =>
  I1 (()) h77 ∧ r2 ((()), h77) ((()), h3)))
  (R (.ret (.bool false)) h3)
theorem E_maxflow_trees_grow {p0_f : Value} {p1_v : Int} {R : Res → H → Prop} {h : H} (H0 : B_maxflow_trees_grow p0_f p1_v R h) : T Tryz.prog F.maxflow_trees_grow [p0_f, .int .i64 p1_v] h R :=
  T_intro A_maxflow_trees_grow Tryz.func99 (c := bodyOf Tryz.f99) (by kernel_rfl) (by kernel_rfl) (by kernel_rfl) (cast_of (by kernel_rfl) H0)

def A_maxflow_trees_drop : An := ⟨lkA [(0, rng 11), (1, rng 8), (2, ⟨[0, 1, 2, 4, 5, 6, 7, 12, 15, 3, 8, 9, 10, 11, 13, 14, 16, 17], lkN []⟩), (3, rng 7)], lkL [], lkC []⟩
def B_maxflow_trees_drop (p0_f : Value) (p1_v : Int) (R : Res → H → Prop) (h : H) : Prop :=
  ptrP p0_f fun a1 =>
  ldV h (a1.add 1) fun x2 =>
  T Tryz.prog F.links_Forest_Cut [x2, .int .i64 p1_v] h (rt (fun v3 h4 =>
  ∃ r5 : Int, ∃ r6 : Int, v3 = .tuple ⟨[.int .i64 r5, .int .i64 r6]⟩ ∧
  ptrP p0_f fun a7 =>
  ldV h4 (a7.add 2) fun x8 =>
  ixS x8 p1_v 1 fun a9 =>
  ldI h4 a9 .i64 fun x10 =>
  ptrP p0_f fun a11 =>
  ptrP p0_f fun a12 =>
  ldV h4 (a11.add 0) fun x13 =>
  ldV h4 (a12.add 0) fun x14 =>
  ptrP x14 fun a15 =>
  ldV h4 (a15.add 1) fun x16 =>
  ixS x16 x10 1 fun a17 =>
  ldI h4 a17 .i64 fun x18 =>
  T Tryz.prog F.maxflow_net_send [x13, .int .i64 x10, .int .i64 (IntKind.i64.wrap (x18 - r5))] h4 (rt (fun v19 h20 =>
  v19 = .tuple ⟨[]⟩ ∧
  ptrP p0_f fun a21 =>
  ldV h20 (a21.add 2) fun x22 =>
  ixS x22 p1_v 1 fun a23 =>
  stC h20 a23 (.int .i64 (-1)) fun h24 =>
  R (.ret (.tuple ⟨[]⟩)) h24) (fun v25 h26 => R (.pan v25) h26))) (fun v27 h28 => R (.pan v27) h28))
theorem E_maxflow_trees_drop {p0_f : Value} {p1_v : Int} {R : Res → H → Prop} {h : H} (H0 : B_maxflow_trees_drop p0_f p1_v R h) : T Tryz.prog F.maxflow_trees_drop [p0_f, .int .i64 p1_v] h R :=
  T_intro A_maxflow_trees_drop Tryz.func100 (c := bodyOf Tryz.f100) (by kernel_rfl) (by kernel_rfl) (by kernel_rfl) (cast_of (by kernel_rfl) H0)

def A_links_Forest_node : An := ⟨lkA [(0, rng 1), (1, rng 12)], lkL [], lkC []⟩
def B_links_Forest_node (p0_f : Value) (p1_v : Int) (R : Res → H → Prop) (h : H) : Prop :=
  ifP (decide (0 ≤ p1_v)) (ptrP p0_f fun a1 =>
  ldV h (a1.add 0) fun x2 =>
  slcP x2 fun a3 l4 c5 =>
  R (.ret (.bool (decide (p1_v < ((l4 : Nat) : Int))))) h) (R (.ret (.bool false)) h)
theorem E_links_Forest_node {p0_f : Value} {p1_v : Int} {R : Res → H → Prop} {h : H} (H0 : B_links_Forest_node p0_f p1_v R h) : T Tryz.prog F.links_Forest_node [p0_f, .int .i64 p1_v] h R :=
  T_intro A_links_Forest_node Tryz.func101 (c := bodyOf Tryz.f101) (by kernel_rfl) (by kernel_rfl) (by kernel_rfl) (cast_of (by kernel_rfl) H0)

def A_links_Forest_root : An := ⟨lkA [(0, rng 1), (1, rng 3), (2, rng 3), (3, rng 9), (4, rng 9), (5, rng 3), (6, rng 2)], lkL [(2, [(1, .int .i64)])], lkC []⟩
def B_links_Forest_root (p0_f : Value) (p1_v : Int) (R : Res → H → Prop) (h : H) : Prop :=
  T Tryz.prog F.links_Forest_access [p0_f, .int .i64 p1_v] h (rt (fun v1 h2 =>
  v1 = .tuple ⟨[]⟩ ∧
  ∃ (I3 : (Int × Unit) → H → Prop) (r4 : (Int × Unit) × H → (Int × Unit) × H → Prop), WellFounded r4 ∧ I3 (p1_v, ()) h2 ∧
  ∀ (v_6 : Int) (h5 : H), I3 (v_6, ()) h5 →
  T Tryz.prog F.links_Forest_push [p0_f, .int .i64 v_6] h5 (rt (fun v7 h8 =>
  v7 = .tuple ⟨[]⟩ ∧
  ptrP p0_f fun a9 =>
  ldV h8 (a9.add 0) fun x10 =>
  ixS x10 v_6 6 fun a11 =>
  ldI h8 (a11.add 0) .i64 fun x12 =>
  ifP (decide (x12 < 0)) (T Tryz.prog F.links_Forest_splay [p0_f, .int .i64 v_6] h8 (rt (fun v13 h14 =>
  v13 = .tuple ⟨[]⟩ ∧
  R (.ret (.int .i64 v_6)) h14) (fun v15 h16 => R (.pan v15) h16)))
  (ptrP p0_f fun a17 =>
  ldV h8 (a17.add 0) fun x18 =>
  ixS x18 v_6 6 fun a19 =>
  ldI h8 (a19.add 0) .i64 fun x20 =>
  I3 (x20, ()) h8 ∧ r4 ((x20, ()), h8) ((v_6, ()), h5))) (fun v21 h22 => R (.pan v21) h22))) (fun v23 h24 => R (.pan v23) h24))
theorem E_links_Forest_root {p0_f : Value} {p1_v : Int} {R : Res → H → Prop} {h : H} (H0 : B_links_Forest_root p0_f p1_v R h) : T Tryz.prog F.links_Forest_root [p0_f, .int .i64 p1_v] h R :=
  T_intro A_links_Forest_root Tryz.func102 (c := bodyOf Tryz.f102) (by kernel_rfl) (by kernel_rfl) (by kernel_rfl) (cast_of (by kernel_rfl) H0)

def A_links_Forest_Least : An := ⟨lkA [(0, rng 3), (1, rng 4), (2, rng 2), (3, rng 4), (4, rng 4), (5, rng 9), (6, rng 9), (7, rng 3), (8, rng 9), (9, rng 3), (10, ⟨[0, 1, 2, 3, 4, 5, 6, 8, 13, 7, 9, 10, 11, 12, 14, 15, 16], lkN []⟩), (11, rng 3), (12, rng 5), (13, rng 3), (14, rng 5)], lkL [(7, [(9, .int .i64)])], lkC []⟩
def B_links_Forest_Least (p0_f : Value) (p1_v : Int) (R : Res → H → Prop) (h : H) : Prop :=
  T Tryz.prog F.links_Forest_child [p0_f, .int .i64 p1_v] h (rt (fun v1 h2 =>
  ∃ r3, v1 = .int .i64 r3 ∧
  ifP (!decide (r3 = 0)) (R (.ret (.tuple ⟨[.int .i64 0, .int .i64 0, .int .i64 r3]⟩)) h2)
  (T Tryz.prog F.links_Forest_root [p0_f, .int .i64 p1_v] h2 (rt (fun v4 h5 =>
  ∃ r6, v4 = .int .i64 r6 ∧
  ptrP p0_f fun a7 =>
  ldV h5 (a7.add 0) fun x8 =>
  ixS x8 r6 6 fun a9 =>
  ldI h5 (a9.add 1) .i64 fun x10 =>
  ptrP p0_f fun a11 =>
  ldV h5 (a11.add 0) fun x12 =>
  ixS x12 x10 6 fun a13 =>
  ldI h5 (a13.add 4) .i64 fun x14 =>
  ∃ (I15 : (Int × Unit) → H → Prop) (r16 : (Int × Unit) × H → (Int × Unit) × H → Prop), WellFounded r16 ∧ I15 (x10, ()) h5 ∧
  ∀ (at_18 : Int) (h17 : H), I15 (at_18, ()) h17 →
  T Tryz.prog F.links_Forest_push [p0_f, .int .i64 at_18] h17 (rt (fun v19 h20 =>
  v19 = .tuple ⟨[]⟩ ∧
  ptrP p0_f fun a21 =>
  ldV h20 (a21.add 0) fun x22 =>
  ixS x22 at_18 6 fun a23 =>
  ldN h20 a23 6 fun x24 =>
  newP h20 (.cells ⟨[.int .i64 0, .int .i64 0, .int .i64 0, .int .i64 0, .int .i64 0, .int .i64 0]⟩ 201 (0, 0)) fun b25 h26 =>
  stN h26 (bk b25) x24 6 fun h27 =>
  ldI h27 ((bk b25).add 0) .i64 fun x28 =>
  ifP (decide (0 ≤ x28)) (ptrP p0_f fun a29 =>
  ldV h27 (a29.add 0) fun x30 =>
  ldI h27 ((bk b25).add 0) .i64 fun x31 =>
  ixS x30 x31 6 fun a32 =>
  ldI h27 (a32.add 4) .i64 fun x33 =>
  ifP (decide (x33 = x14)) (ldI h27 ((bk b25).add 0) .i64 fun x34 =>
  I15 (x34, ()) h27 ∧ r16 ((x34, ()), h27) ((at_18, ()), h17))
  (ldI h27 ((bk b25).add 3) .i64 fun x35 =>
  ifP (decide (x35 = x14)) (T Tryz.prog F.links_Forest_splay [p0_f, .int .i64 at_18] h27 (rt (fun v36 h37 =>
  v36 = .tuple ⟨[]⟩ ∧
  R (.ret (.tuple ⟨[.int .i64 at_18, .int .i64 x14, .int .i64 0]⟩)) h37) (fun v38 h39 => R (.pan v38) h39)))
  (ldI h27 ((bk b25).add 1) .i64 fun x40 =>
  I15 (x40, ()) h27 ∧ r16 ((x40, ()), h27) ((at_18, ()), h17)))) (ldI h27 ((bk b25).add 3) .i64 fun x41 =>
  ifP (decide (x41 = x14)) (T Tryz.prog F.links_Forest_splay [p0_f, .int .i64 at_18] h27 (rt (fun v42 h43 =>
  v42 = .tuple ⟨[]⟩ ∧
  R (.ret (.tuple ⟨[.int .i64 at_18, .int .i64 x14, .int .i64 0]⟩)) h43) (fun v44 h45 => R (.pan v44) h45)))
  (ldI h27 ((bk b25).add 1) .i64 fun x46 =>
  I15 (x46, ()) h27 ∧ r16 ((x46, ()), h27) ((at_18, ()), h17)))) (fun v47 h48 => R (.pan v47) h48))) (fun v49 h50 => R (.pan v49) h50)))) (fun v51 h52 => R (.pan v51) h52))
theorem E_links_Forest_Least {p0_f : Value} {p1_v : Int} {R : Res → H → Prop} {h : H} (H0 : B_links_Forest_Least p0_f p1_v R h) : T Tryz.prog F.links_Forest_Least [p0_f, .int .i64 p1_v] h R :=
  T_intro A_links_Forest_Least Tryz.func103 (c := bodyOf Tryz.f103) (by kernel_rfl) (by kernel_rfl) (by kernel_rfl) (cast_of (by kernel_rfl) H0)

def A_links_Forest_Add : An := ⟨lkA [(0, rng 1), (1, rng 5), (2, rng 1), (3, rng 4), (4, rng 1), (5, rng 4), (6, rng 11), (7, rng 3), (8, rng 1)], lkL [], lkC []⟩
def B_links_Forest_Add (p0_f : Value) (p1_v : Int) (p2_x : Int) (R : Res → H → Prop) (h : H) : Prop :=
  T Tryz.prog F.links_Forest_node [p0_f, .int .i64 p1_v] h (rt (fun v1 h2 =>
  ∃ r3, v1 = .bool r3 ∧
  ifP (!r3) (R (.ret (.int .i64 30)) h2)
  (T Tryz.prog F.links_label [.int .i64 p2_x] h2 (rt (fun v4 h5 =>
  ∃ r6, v4 = .bool r6 ∧
  ifP (!r6) (R (.ret (.int .i64 31)) h5)
  (T Tryz.prog F.links_Forest_root [p0_f, .int .i64 p1_v] h5 (rt (fun v7 h8 =>
  ∃ r9, v7 = .int .i64 r9 ∧
  ptrP p0_f fun a10 =>
  ldV h8 (a10.add 0) fun x11 =>
  ixS x11 r9 6 fun a12 =>
  ldI h8 (a12.add 1) .i64 fun x13 =>
  T Tryz.prog F.links_Forest_raise [p0_f, .int .i64 x13, .int .i64 p2_x] h8 (rt (fun v14 h15 =>
  v14 = .tuple ⟨[]⟩ ∧
  T Tryz.prog F.links_Forest_pull [p0_f, .int .i64 r9] h15 (rt (fun v16 h17 =>
  v16 = .tuple ⟨[]⟩ ∧
  R (.ret (.int .i64 0)) h17) (fun v18 h19 => R (.pan v18) h19))) (fun v20 h21 => R (.pan v20) h21))) (fun v22 h23 => R (.pan v22) h23)))) (fun v24 h25 => R (.pan v24) h25)))) (fun v26 h27 => R (.pan v26) h27))
theorem E_links_Forest_Add {p0_f : Value} {p1_v : Int} {p2_x : Int} {R : Res → H → Prop} {h : H} (H0 : B_links_Forest_Add p0_f p1_v p2_x R h) : T Tryz.prog F.links_Forest_Add [p0_f, .int .i64 p1_v, .int .i64 p2_x] h R :=
  T_intro A_links_Forest_Add Tryz.func104 (c := bodyOf Tryz.f104) (by kernel_rfl) (by kernel_rfl) (by kernel_rfl) (cast_of (by kernel_rfl) H0)

def A_links_Forest_Link : An := ⟨lkA [(0, rng 1), (1, rng 11), (2, rng 1), (3, rng 4), (4, rng 1), (5, rng 6), (6, rng 1), (7, rng 6), (8, rng 1), (9, rng 3), (10, rng 9), (11, rng 3), (12, rng 9), (13, rng 1)], lkL [], lkC []⟩
def B_links_Forest_Link (p0_f : Value) (p1_v : Int) (p2_w : Int) (p3_value : Int) (R : Res → H → Prop) (h : H) : Prop :=
  T Tryz.prog F.links_Forest_node [p0_f, .int .i64 p1_v] h (rt (fun v1 h2 =>
  ∃ r3, v1 = .bool r3 ∧
  ifP (!r3) (R (.ret (.int .i64 30)) h2) (T Tryz.prog F.links_Forest_node [p0_f, .int .i64 p2_w] h2 (rt (fun v4 h5 =>
  ∃ r6, v4 = .bool r6 ∧
  ifP (!r6) (R (.ret (.int .i64 30)) h5)
  (T Tryz.prog F.links_label [.int .i64 p3_value] h5 (rt (fun v7 h8 =>
  ∃ r9, v7 = .bool r9 ∧
  ifP (!r9) (R (.ret (.int .i64 31)) h8)
  (T Tryz.prog F.links_Forest_root [p0_f, .int .i64 p1_v] h8 (rt (fun v10 h11 =>
  ∃ r12, v10 = .int .i64 r12 ∧
  ifP (!decide (r12 = p1_v)) (R (.ret (.int .i64 70)) h11)
  (T Tryz.prog F.links_Forest_root [p0_f, .int .i64 p2_w] h11 (rt (fun v13 h14 =>
  ∃ r15, v13 = .int .i64 r15 ∧
  ifP (decide (r15 = p1_v)) (R (.ret (.int .i64 71)) h14)
  (T Tryz.prog F.links_Forest_access [p0_f, .int .i64 p1_v] h14 (rt (fun v16 h17 =>
  v16 = .tuple ⟨[]⟩ ∧
  ptrP p0_f fun a18 =>
  ldV h17 (a18.add 0) fun x19 =>
  ixS x19 p1_v 6 fun a20 =>
  stC h17 (a20.add 3) (.int .i64 p3_value) fun h21 =>
  T Tryz.prog F.links_Forest_pull [p0_f, .int .i64 p1_v] h21 (rt (fun v22 h23 =>
  v22 = .tuple ⟨[]⟩ ∧
  ptrP p0_f fun a24 =>
  ldV h23 (a24.add 0) fun x25 =>
  ixS x25 p1_v 6 fun a26 =>
  stC h23 (a26.add 2) (.int .i64 p2_w) fun h27 =>
  R (.ret (.int .i64 0)) h27) (fun v28 h29 => R (.pan v28) h29))) (fun v30 h31 => R (.pan v30) h31)))) (fun v32 h33 => R (.pan v32) h33)))) (fun v34 h35 => R (.pan v34) h35)))) (fun v36 h37 => R (.pan v36) h37)))) (fun v38 h39 => R (.pan v38) h39)))) (fun v40 h41 => R (.pan v40) h41))
theorem E_links_Forest_Link {p0_f : Value} {p1_v : Int} {p2_w : Int} {p3_value : Int} {R : Res → H → Prop} {h : H} (H0 : B_links_Forest_Link p0_f p1_v p2_w p3_value R h) : T Tryz.prog F.links_Forest_Link [p0_f, .int .i64 p1_v, .int .i64 p2_w, .int .i64 p3_value] h R :=
  T_intro A_links_Forest_Link Tryz.func105 (c := bodyOf Tryz.f105) (by kernel_rfl) (by kernel_rfl) (by kernel_rfl) (cast_of (by kernel_rfl) H0)

def A_links_Forest_Cut : An := ⟨lkA [(0, rng 2), (1, rng 4), (2, rng 2), (3, rng 3), (4, rng 7), (5, ⟨[0, 1, 2, 4, 5, 6, 3, 7, 8, 9, 10], lkN []⟩), (6, rng 4), (7, rng 5), (8, rng 4), (9, rng 3), (10, rng 3)], lkL [], lkC []⟩
def B_links_Forest_Cut (p0_f : Value) (p1_v : Int) (R : Res → H → Prop) (h : H) : Prop :=
  T Tryz.prog F.links_Forest_child [p0_f, .int .i64 p1_v] h (rt (fun v1 h2 =>
  ∃ r3, v1 = .int .i64 r3 ∧
  ifP (!decide (r3 = 0)) (R (.ret (.tuple ⟨[.int .i64 0, .int .i64 r3]⟩)) h2)
  (ptrP p0_f fun a4 =>
  ldV h2 (a4.add 0) fun x5 =>
  ixS x5 p1_v 6 fun a6 =>
  ptrP p0_f fun a7 =>
  ldV h2 (a7.add 0) fun x8 =>
  ldI h2 (a6.add 0) .i64 fun x9 =>
  ixS x8 x9 6 fun a10 =>
  stC h2 (a10.add 2) (.int .i64 (-1)) fun h11 =>
  stC h11 (a6.add 0) (.int .i64 (-1)) fun h12 =>
  ldI h12 (a6.add 3) .i64 fun x13 =>
  stC h12 (a6.add 3) (.int .i64 0) fun h14 =>
  T Tryz.prog F.links_Forest_pull [p0_f, .int .i64 p1_v] h14 (rt (fun v15 h16 =>
  v15 = .tuple ⟨[]⟩ ∧
  R (.ret (.tuple ⟨[.int .i64 x13, .int .i64 0]⟩)) h16) (fun v17 h18 => R (.pan v17) h18)))) (fun v19 h20 => R (.pan v19) h20))
theorem E_links_Forest_Cut {p0_f : Value} {p1_v : Int} {R : Res → H → Prop} {h : H} (H0 : B_links_Forest_Cut p0_f p1_v R h) : T Tryz.prog F.links_Forest_Cut [p0_f, .int .i64 p1_v] h R :=
  T_intro A_links_Forest_Cut Tryz.func106 (c := bodyOf Tryz.f106) (by kernel_rfl) (by kernel_rfl) (by kernel_rfl) (cast_of (by kernel_rfl) H0)

def A_links_Forest_access : An := ⟨lkA [(0, rng 1), (1, rng 2), (2, rng 2), (3, rng 9), (4, rng 3), (5, rng 9), (6, rng 3), (7, rng 2), (8, rng 3)], lkL [(2, [(4, .int .i64), (5, .int .i64)])], lkC []⟩
def B_links_Forest_access (p0_f : Value) (p1_v : Int) (R : Res → H → Prop) (h : H) : Prop :=
  ∃ (I1 : (Int × Int × Unit) → H → Prop) (r2 : (Int × Int × Unit) × H → (Int × Int × Unit) × H → Prop), WellFounded r2 ∧ I1 ((-1), p1_v, ()) h ∧
  ∀ (last_4 : Int) (u_5 : Int) (h3 : H), I1 (last_4, u_5, ()) h3 →
  ifP (decide (0 ≤ u_5)) (T Tryz.prog F.links_Forest_splay [p0_f, .int .i64 u_5] h3 (rt (fun v6 h7 =>
  v6 = .tuple ⟨[]⟩ ∧
  ptrP p0_f fun a8 =>
  ldV h7 (a8.add 0) fun x9 =>
  ixS x9 u_5 6 fun a10 =>
  stC h7 (a10.add 1) (.int .i64 last_4) fun h11 =>
  T Tryz.prog F.links_Forest_pull [p0_f, .int .i64 u_5] h11 (rt (fun v12 h13 =>
  v12 = .tuple ⟨[]⟩ ∧
  ptrP p0_f fun a14 =>
  ldV h13 (a14.add 0) fun x15 =>
  ixS x15 u_5 6 fun a16 =>
  ldI h13 (a16.add 2) .i64 fun x17 =>
  I1 (u_5, x17, ()) h13 ∧ r2 ((u_5, x17, ()), h13) ((last_4, u_5, ()), h3)) (fun v18 h19 => R (.pan v18) h19))) (fun v20 h21 => R (.pan v20) h21)))
  (T Tryz.prog F.links_Forest_splay [p0_f, .int .i64 p1_v] h3 (rt (fun v22 h23 =>
  v22 = .tuple ⟨[]⟩ ∧
  R (.ret (.tuple ⟨[]⟩)) h23) (fun v24 h25 => R (.pan v24) h25)))
theorem E_links_Forest_access {p0_f : Value} {p1_v : Int} {R : Res → H → Prop} {h : H} (H0 : B_links_Forest_access p0_f p1_v R h) : T Tryz.prog F.links_Forest_access [p0_f, .int .i64 p1_v] h R :=
  T_intro A_links_Forest_access Tryz.func107 (c := bodyOf Tryz.f107) (by kernel_rfl) (by kernel_rfl) (by kernel_rfl) (cast_of (by kernel_rfl) H0)

def A_links_Forest_push : An := ⟨lkA [(0, rng 7), (1, ⟨[0, 1, 2, 3, 5, 6, 7, 4, 8, 9], lkN []⟩), (2, ⟨[0, 1, 2, 3, 5, 6, 7, 4, 8, 9], lkN []⟩), (3, rng 4)], lkL [], lkC []⟩
def B_links_Forest_push (p0_f : Value) (p1_v : Int) (R : Res → H → Prop) (h : H) : Prop :=
  ptrP p0_f fun a1 =>
  ldV h (a1.add 0) fun x2 =>
  ixS x2 p1_v 6 fun a3 =>
  ldI h (a3.add 0) .i64 fun x4 =>
  ldI h (a3.add 5) .i64 fun x5 =>
  T Tryz.prog F.links_Forest_raise [p0_f, .int .i64 x4, .int .i64 x5] h (rt (fun v6 h7 =>
  v6 = .tuple ⟨[]⟩ ∧
  ldI h7 (a3.add 1) .i64 fun x8 =>
  ldI h7 (a3.add 5) .i64 fun x9 =>
  T Tryz.prog F.links_Forest_raise [p0_f, .int .i64 x8, .int .i64 x9] h7 (rt (fun v10 h11 =>
  v10 = .tuple ⟨[]⟩ ∧
  stC h11 (a3.add 5) (.int .i64 0) fun h12 =>
  R (.ret (.tuple ⟨[]⟩)) h12) (fun v13 h14 => R (.pan v13) h14))) (fun v15 h16 => R (.pan v15) h16))
theorem E_links_Forest_push {p0_f : Value} {p1_v : Int} {R : Res → H → Prop} {h : H} (H0 : B_links_Forest_push p0_f p1_v R h) : T Tryz.prog F.links_Forest_push [p0_f, .int .i64 p1_v] h R :=
  T_intro A_links_Forest_push Tryz.func108 (c := bodyOf Tryz.f108) (by kernel_rfl) (by kernel_rfl) (by kernel_rfl) (cast_of (by kernel_rfl) H0)

def A_links_Forest_splay : An := ⟨lkA [(0, rng 3), (1, rng 2), (2, rng 4), (3, rng 9), (4, rng 5), (5, rng 4), (6, rng 2), (7, rng 3), (8, rng 6), (9, rng 4), (10, rng 9), (11, rng 4), (12, rng 9), (13, ⟨[0, 1, 2, 4, 8, 10, 11, 12, 14, 18, 3, 5, 6, 7, 9, 13, 15, 16, 17, 19, 20], lkN []⟩), (14, rng 3), (15, rng 3), (16, rng 3)], lkL [(2, [(4, .val), (5, .int .i64)]), (6, [(6, .int .i64)]), (9, [])], lkC []⟩
def B_links_Forest_splay (p0_f : Value) (p1_v : Int) (R : Res → H → Prop) (h : H) : Prop :=
  newP h (.cells ⟨[.int .i64 p1_v]⟩ 3 (0, 0)) fun b1 h2 =>
  ∃ (I3 : (Value × Int × Unit) → H → Prop) (r4 : (Value × Int × Unit) × H → (Value × Int × Unit) × H → Prop), WellFounded r4 ∧ I3 ((.slice (some (bk b1)) 1 1 : Value), p1_v, ()) h2 ∧
  ∀ (path_6 : Value) (u_7 : Int) (h5 : H), I3 (path_6, u_7, ()) h5 →
  T Tryz.prog F.links_Forest_top [p0_f, .int .i64 u_7] h5 (rt (fun v8 h9 =>
  ∃ r10, v8 = .bool r10 ∧
  ifP (!r10) (ptrP p0_f fun a11 =>
  ldV h9 (a11.add 0) fun x12 =>
  ixS x12 u_7 6 fun a13 =>
  ldI h9 (a13.add 2) .i64 fun x14 =>
  newP h9 (.cells ⟨[.int .i64 x14]⟩ 3 (0, 0)) fun b15 h16 =>
  apP path_6 (.slice (some (bk b15)) 1 1) h16 1 3 8 [.int .i64 0] fun s17 h18 =>
  I3 (s17, x14, ()) h18 ∧ r4 ((s17, x14, ()), h18) ((path_6, u_7, ()), h5))
  (slcP path_6 fun a19 l20 c21 =>
  ∃ (I22 : (Int × Unit) → H → Prop) (r23 : (Int × Unit) × H → (Int × Unit) × H → Prop), WellFounded r23 ∧ I22 ((IntKind.i64.wrap (((l20 : Nat) : Int) - 1)), ()) h9 ∧
  ∀ (i_25 : Int) (h24 : H), I22 (i_25, ()) h24 →
  ifP (decide (0 ≤ i_25)) (ixS path_6 i_25 1 fun a26 =>
  ldI h24 a26 .i64 fun x27 =>
  T Tryz.prog F.links_Forest_push [p0_f, .int .i64 x27] h24 (rt (fun v28 h29 =>
  v28 = .tuple ⟨[]⟩ ∧
  I22 ((IntKind.i64.wrap (i_25 - 1)), ()) h29 ∧ r23 (((IntKind.i64.wrap (i_25 - 1)), ()), h29) ((i_25, ()), h24)) (fun v30 h31 => R (.pan v30) h31)))
  (∃ (I32 : (Unit) → H → Prop) (r33 : (Unit) × H → (Unit) × H → Prop), WellFounded r33 ∧ I32 (()) h24 ∧
  ∀  (h34 : H), I32 (()) h34 →
  T Tryz.prog F.links_Forest_top [p0_f, .int .i64 p1_v] h34 (rt (fun v35 h36 =>
  ∃ r37, v35 = .bool r37 ∧
  ifP (!r37) (ptrP p0_f fun a38 =>
  ldV h36 (a38.add 0) fun x39 =>
  ixS x39 p1_v 6 fun a40 =>
  ldI h36 (a40.add 2) .i64 fun x41 =>
  T Tryz.prog F.links_Forest_top [p0_f, .int .i64 x41] h36 (rt (fun v42 h43 =>
  ∃ r44, v42 = .bool r44 ∧
  ifP (!r44) (ptrP p0_f fun a45 =>
  ldV h43 (a45.add 0) fun x46 =>
  ixS x46 x41 6 fun a47 =>
  ldI h43 (a47.add 2) .i64 fun x48 =>
  ptrP p0_f fun a49 =>
  ptrP p0_f fun a50 =>
  ldV h43 (a49.add 0) fun x51 =>
  ixS x51 x41 6 fun a52 =>
  ldI h43 (a52.add 0) .i64 fun x53 =>
  ldV h43 (a50.add 0) fun x54 =>
  ixS x54 x48 6 fun a55 =>
  ldI h43 (a55.add 0) .i64 fun x56 =>
  ifP ((decide (x53 = p1_v)) == (decide (x56 = x41))) (T Tryz.prog F.links_Forest_rotate [p0_f, .int .i64 x41] h43 (rt (fun v57 h58 =>
  v57 = .tuple ⟨[]⟩ ∧
  T Tryz.prog F.links_Forest_rotate [p0_f, .int .i64 p1_v] h58 (rt (fun v59 h60 =>
  v59 = .tuple ⟨[]⟩ ∧
  I32 (()) h60 ∧ r33 ((()), h60) ((()), h34)) (fun v61 h62 => R (.pan v61) h62))) (fun v63 h64 => R (.pan v63) h64)))
  (T Tryz.prog F.links_Forest_rotate [p0_f, .int .i64 p1_v] h43 (rt (fun v65 h66 =>
  v65 = .tuple ⟨[]⟩ ∧
  T Tryz.prog F.links_Forest_rotate [p0_f, .int .i64 p1_v] h66 (rt (fun v67 h68 =>
  v67 = .tuple ⟨[]⟩ ∧
  I32 (()) h68 ∧ r33 ((()), h68) ((()), h34)) (fun v69 h70 => R (.pan v69) h70))) (fun v71 h72 => R (.pan v71) h72))))
  (T Tryz.prog F.links_Forest_rotate [p0_f, .int .i64 p1_v] h43 (rt (fun v73 h74 =>
  v73 = .tuple ⟨[]⟩ ∧
  I32 (()) h74 ∧ r33 ((()), h74) ((()), h34)) (fun v75 h76 => R (.pan v75) h76)))) (fun v77 h78 => R (.pan v77) h78)))
  (R (.ret (.tuple ⟨[]⟩)) h36)) (fun v79 h80 => R (.pan v79) h80))))) (fun v81 h82 => R (.pan v81) h82))
theorem E_links_Forest_splay {p0_f : Value} {p1_v : Int} {R : Res → H → Prop} {h : H} (H0 : B_links_Forest_splay p0_f p1_v R h) : T Tryz.prog F.links_Forest_splay [p0_f, .int .i64 p1_v] h R :=
  T_intro A_links_Forest_splay Tryz.func109 (c := bodyOf Tryz.f109) (by kernel_rfl) (by kernel_rfl) (by kernel_rfl) (cast_of (by kernel_rfl) H0)

def A_links_Forest_child : An := ⟨lkA [(0, rng 1), (1, rng 5), (2, rng 1), (3, rng 6), (4, rng 1), (5, rng 3), (6, rng 1)], lkL [], lkC []⟩
def B_links_Forest_child (p0_f : Value) (p1_v : Int) (R : Res → H → Prop) (h : H) : Prop :=
  T Tryz.prog F.links_Forest_node [p0_f, .int .i64 p1_v] h (rt (fun v1 h2 =>
  ∃ r3, v1 = .bool r3 ∧
  ifP (!r3) (R (.ret (.int .i64 30)) h2)
  (T Tryz.prog F.links_Forest_root [p0_f, .int .i64 p1_v] h2 (rt (fun v4 h5 =>
  ∃ r6, v4 = .int .i64 r6 ∧
  ifP (decide (r6 = p1_v)) (R (.ret (.int .i64 70)) h5)
  (T Tryz.prog F.links_Forest_access [p0_f, .int .i64 p1_v] h5 (rt (fun v7 h8 =>
  v7 = .tuple ⟨[]⟩ ∧
  R (.ret (.int .i64 0)) h8) (fun v9 h10 => R (.pan v9) h10)))) (fun v11 h12 => R (.pan v11) h12)))) (fun v13 h14 => R (.pan v13) h14))
theorem E_links_Forest_child {p0_f : Value} {p1_v : Int} {R : Res → H → Prop} {h : H} (H0 : B_links_Forest_child p0_f p1_v R h) : T Tryz.prog F.links_Forest_child [p0_f, .int .i64 p1_v] h R :=
  T_intro A_links_Forest_child Tryz.func110 (c := bodyOf Tryz.f110) (by kernel_rfl) (by kernel_rfl) (by kernel_rfl) (cast_of (by kernel_rfl) H0)

def A_links_label : An := ⟨lkA [(0, rng 1), (1, rng 7)], lkL [], lkC []⟩
def B_links_label (p0_x : Int) (R : Res → H → Prop) (h : H) : Prop :=
  ifP (decide ((-1048576) ≤ p0_x)) (R (.ret (.bool (decide (p0_x ≤ 1048576)))) h) (R (.ret (.bool false)) h)
theorem E_links_label {p0_x : Int} {R : Res → H → Prop} {h : H} (H0 : B_links_label p0_x R h) : T Tryz.prog F.links_label [.int .i64 p0_x] h R :=
  T_intro A_links_label Tryz.func111 (c := bodyOf Tryz.f111) (by kernel_rfl) (by kernel_rfl) (by kernel_rfl) (cast_of (by kernel_rfl) H0)

def A_links_Forest_raise : An := ⟨lkA [(0, rng 2), (1, rng 7), (2, rng 9), (3, rng 9), (4, rng 9)], lkL [], lkC []⟩
def B_links_Forest_raise (p0_f : Value) (p1_v : Int) (p2_x : Int) (R : Res → H → Prop) (h : H) : Prop :=
  ifP (decide (0 ≤ p1_v)) (ptrP p0_f fun a1 =>
  ldV h (a1.add 0) fun x2 =>
  ixS x2 p1_v 6 fun a3 =>
  ldI h (a3.add 3) .i64 fun x4 =>
  stC h (a3.add 3) (.int .i64 (IntKind.i64.wrap (x4 + p2_x))) fun h5 =>
  ldI h5 (a3.add 4) .i64 fun x6 =>
  stC h5 (a3.add 4) (.int .i64 (IntKind.i64.wrap (x6 + p2_x))) fun h7 =>
  ldI h7 (a3.add 5) .i64 fun x8 =>
  stC h7 (a3.add 5) (.int .i64 (IntKind.i64.wrap (x8 + p2_x))) fun h9 =>
  R (.ret (.tuple ⟨[]⟩)) h9)
  (R (.ret (.tuple ⟨[]⟩)) h)
theorem E_links_Forest_raise {p0_f : Value} {p1_v : Int} {p2_x : Int} {R : Res → H → Prop} {h : H} (H0 : B_links_Forest_raise p0_f p1_v p2_x R h) : T Tryz.prog F.links_Forest_raise [p0_f, .int .i64 p1_v, .int .i64 p2_x] h R :=
  T_intro A_links_Forest_raise Tryz.func112 (c := bodyOf Tryz.f112) (by kernel_rfl) (by kernel_rfl) (by kernel_rfl) (cast_of (by kernel_rfl) H0)

def A_links_Forest_pull : An := ⟨lkA [(0, rng 7), (1, rng 8), (2, ⟨[0, 1, 2, 4, 5, 6, 9, 3, 7, 8], lkN []⟩), (3, rng 1), (4, rng 2), (5, rng 2), (6, ⟨[0, 1, 2, 3, 5, 6, 7, 9, 4, 8, 10, 11, 12, 13, 14, 15, 16], lkN []⟩), (7, rng 2)], lkL [(3, [(29, .int .i64)])], lkC []⟩
def B_links_Forest_pull (p0_f : Value) (p1_v : Int) (R : Res → H → Prop) (h : H) : Prop :=
  ptrP p0_f fun a1 =>
  ldV h (a1.add 0) fun x2 =>
  ixS x2 p1_v 6 fun a3 =>
  ldI h (a3.add 3) .i64 fun x4 =>
  stC h (a3.add 4) (.int .i64 x4) fun h5 =>
  ldI h5 (a3.add 0) .i64 fun x6 =>
  ldI h5 (a3.add 1) .i64 fun x7 =>
  ∃ (I8 : (Int × Unit) → H → Prop) (r9 : (Int × Unit) × H → (Int × Unit) × H → Prop), WellFounded r9 ∧ I8 (0, ()) h5 ∧
  ∀ (s11 : Int) (h10 : H), I8 (s11, ()) h10 →
  ifP (decide (s11 < 2)) (0 ≤ s11 ∧ s11 < ((2 : Nat) : Int) ∧
  ptI [.int .i64 x6, .int .i64 x7] (s11.toNat * 1) .i64 fun x12 =>
  ifP (decide (0 ≤ x12)) (ptrP p0_f fun a13 =>
  ldI h10 (a3.add 4) .i64 fun x14 =>
  ldV h10 (a13.add 0) fun x15 =>
  ixS x15 x12 6 fun a16 =>
  ldI h10 (a16.add 4) .i64 fun x17 =>
  stC h10 (a3.add 4) (.int .i64 (if x17 < x14 then x17 else x14)) fun h18 =>
  I8 ((IntKind.i64.wrap (s11 + 1)), ()) h18 ∧ r9 (((IntKind.i64.wrap (s11 + 1)), ()), h18) ((s11, ()), h10))
  (I8 ((IntKind.i64.wrap (s11 + 1)), ()) h10 ∧ r9 (((IntKind.i64.wrap (s11 + 1)), ()), h10) ((s11, ()), h10)))
  (R (.ret (.tuple ⟨[]⟩)) h10)
theorem E_links_Forest_pull {p0_f : Value} {p1_v : Int} {R : Res → H → Prop} {h : H} (H0 : B_links_Forest_pull p0_f p1_v R h) : T Tryz.prog F.links_Forest_pull [p0_f, .int .i64 p1_v] h R :=
  T_intro A_links_Forest_pull Tryz.func113 (c := bodyOf Tryz.f113) (by kernel_rfl) (by kernel_rfl) (by kernel_rfl) (cast_of (by kernel_rfl) H0)

def A_links_Forest_top : An := ⟨lkA [(0, rng 1), (1, rng 9), (2, rng 27)], lkL [], lkC []⟩
def B_links_Forest_top (p0_f : Value) (p1_v : Int) (R : Res → H → Prop) (h : H) : Prop :=
  ptrP p0_f fun a1 =>
  ldV h (a1.add 0) fun x2 =>
  ixS x2 p1_v 6 fun a3 =>
  ldI h (a3.add 2) .i64 fun x4 =>
  ifP (decide (x4 < 0)) (R (.ret (.bool true)) h) (ptrP p0_f fun a5 =>
  ldV h (a5.add 0) fun x6 =>
  ixS x6 x4 6 fun a7 =>
  ldI h (a7.add 0) .i64 fun x8 =>
  ifP (!decide (x8 = p1_v)) (ptrP p0_f fun a9 =>
  ldV h (a9.add 0) fun x10 =>
  ixS x10 x4 6 fun a11 =>
  ldI h (a11.add 1) .i64 fun x12 =>
  R (.ret (.bool (!decide (x12 = p1_v)))) h) (R (.ret (.bool false)) h))
theorem E_links_Forest_top {p0_f : Value} {p1_v : Int} {R : Res → H → Prop} {h : H} (H0 : B_links_Forest_top p0_f p1_v R h) : T Tryz.prog F.links_Forest_top [p0_f, .int .i64 p1_v] h R :=
  T_intro A_links_Forest_top Tryz.func114 (c := bodyOf Tryz.f114) (by kernel_rfl) (by kernel_rfl) (by kernel_rfl) (cast_of (by kernel_rfl) H0)

def A_links_Forest_rotate : An := ⟨lkA [(0, rng 9), (1, ⟨[0, 1, 2, 4, 6, 7, 8, 10, 3, 5, 12, 9, 11, 13], lkN []⟩), (2, rng 4), (3, ⟨[0, 1, 2, 4, 5, 6, 3, 7, 8, 9], lkN []⟩), (4, rng 6), (5, rng 5), (6, rng 5), (7, rng 13), (8, rng 1), (9, rng 6), (10, ⟨[0, 1, 2, 3, 4, 6, 7, 8, 10, 5, 11, 9, 12, 13, 14, 15, 16, 17], lkN []⟩), (11, ⟨[0, 1, 2, 3, 4, 6, 7, 8, 10, 5, 11, 9, 12, 13, 14, 15, 16, 17], lkN []⟩), (12, rng 2), (13, rng 9), (14, rng 3), (15, rng 3)], lkL [], lkC [(7, []), (12, [(8, .int .i64)])]⟩
def B_links_Forest_rotate (p0_f : Value) (p1_v : Int) (R : Res → H → Prop) (h : H) : Prop :=
  ptrP p0_f fun a1 =>
  ldV h (a1.add 0) fun x2 =>
  ixS x2 p1_v 6 fun a3 =>
  ldI h (a3.add 2) .i64 fun x4 =>
  ptrP p0_f fun a5 =>
  ptrP p0_f fun a6 =>
  ldV h (a5.add 0) fun x7 =>
  ixS x7 p1_v 6 fun a8 =>
  ldV h (a6.add 0) fun x9 =>
  ixS x9 x4 6 fun a10 =>
  ∃ J11 : (Unit) → H → Prop, (T Tryz.prog F.links_Forest_top [p0_f, .int .i64 x4] h (rt (fun v13 h14 =>
  ∃ r15, v13 = .bool r15 ∧
  ifP (!r15) (ptrP p0_f fun a16 =>
  ldV h14 (a16.add 0) fun x17 =>
  ldI h14 (a10.add 2) .i64 fun x18 =>
  ixS x17 x18 6 fun a19 =>
  ldI h14 (a19.add 0) .i64 fun x20 =>
  ifP (decide (x20 = x4)) (stC h14 (a19.add 0) (.int .i64 p1_v) fun h21 =>
  J11 (()) h21)
  (stC h14 (a19.add 1) (.int .i64 p1_v) fun h22 =>
  J11 (()) h22))
  (J11 (()) h14)) (fun v23 h24 => R (.pan v23) h24))) ∧
  (∀  (h12 : H), J11 (()) h12 →
  ldI h12 (a10.add 2) .i64 fun x25 =>
  stC h12 (a8.add 2) (.int .i64 x25) fun h26 =>
  stC h26 (a10.add 2) (.int .i64 p1_v) fun h27 =>
  ∃ J28 : (Int × Unit) → H → Prop, (ldI h27 (a10.add 0) .i64 fun x31 =>
  ifP (decide (x31 = p1_v)) (ldI h27 (a8.add 1) .i64 fun x32 =>
  ldI h27 (a8.add 1) .i64 fun x33 =>
  stC h27 (a10.add 0) (.int .i64 x33) fun h34 =>
  stC h34 (a8.add 1) (.int .i64 x4) fun h35 =>
  J28 (x32, ()) h35)
  (ldI h27 (a8.add 0) .i64 fun x36 =>
  ldI h27 (a8.add 0) .i64 fun x37 =>
  stC h27 (a10.add 1) (.int .i64 x37) fun h38 =>
  stC h38 (a8.add 0) (.int .i64 x4) fun h39 =>
  J28 (x36, ()) h39)) ∧
  (∀ (inner_30 : Int) (h29 : H), J28 (inner_30, ()) h29 →
  ifP (decide (0 ≤ inner_30)) (ptrP p0_f fun a40 =>
  ldV h29 (a40.add 0) fun x41 =>
  ixS x41 inner_30 6 fun a42 =>
  stC h29 (a42.add 2) (.int .i64 x4) fun h43 =>
  T Tryz.prog F.links_Forest_pull [p0_f, .int .i64 x4] h43 (rt (fun v44 h45 =>
  v44 = .tuple ⟨[]⟩ ∧
  T Tryz.prog F.links_Forest_pull [p0_f, .int .i64 p1_v] h45 (rt (fun v46 h47 =>
  v46 = .tuple ⟨[]⟩ ∧
  R (.ret (.tuple ⟨[]⟩)) h47) (fun v48 h49 => R (.pan v48) h49))) (fun v50 h51 => R (.pan v50) h51)))
  (T Tryz.prog F.links_Forest_pull [p0_f, .int .i64 x4] h29 (rt (fun v52 h53 =>
  v52 = .tuple ⟨[]⟩ ∧
  T Tryz.prog F.links_Forest_pull [p0_f, .int .i64 p1_v] h53 (rt (fun v54 h55 =>
  v54 = .tuple ⟨[]⟩ ∧
  R (.ret (.tuple ⟨[]⟩)) h55) (fun v56 h57 => R (.pan v56) h57))) (fun v58 h59 => R (.pan v58) h59)))))
theorem E_links_Forest_rotate {p0_f : Value} {p1_v : Int} {R : Res → H → Prop} {h : H} (H0 : B_links_Forest_rotate p0_f p1_v R h) : T Tryz.prog F.links_Forest_rotate [p0_f, .int .i64 p1_v] h R :=
  T_intro A_links_Forest_rotate Tryz.func115 (c := bodyOf Tryz.f115) (by kernel_rfl) (by kernel_rfl) (by kernel_rfl) (cast_of (by kernel_rfl) H0)

def A_maxflow_pushing_fill : An := ⟨lkA [(0, rng 9), (1, ⟨[0, 1, 2, 4, 5, 6, 3, 8, 9, 10, 7, 11, 12, 13], lkN []⟩), (2, ⟨[0, 1, 2, 4, 3, 6, 7, 8, 5, 9, 10, 11], lkN []⟩), (3, rng 7), (4, rng 10), (5, ⟨[0, 1, 2, 7, 8, 9, 17, 3, 4, 5, 6, 10, 11, 12, 13, 14, 15, 16], lkN []⟩), (6, rng 1), (7, rng 3), (8, ⟨[0, 1, 2, 4, 5, 6, 13, 14, 15, 20, 3, 7, 8, 9, 10, 11, 12, 16, 17, 18, 19, 21, 22, 23, 24, 25], lkN []⟩), (9, rng 10), (10, rng 2), (11, rng 6), (12, rng 7), (13, rng 9), (14, rng 8), (15, ⟨[0, 1, 2, 4, 7, 8, 9, 14, 3, 5, 6, 10, 11, 12, 13, 15, 16, 17, 18], lkN []⟩), (16, rng 3), (17, ⟨[0, 1, 2, 7, 10, 11, 12, 14, 3, 4, 5, 6, 8, 9, 13, 15, 16, 17, 18, 19], lkN []⟩), (18, ⟨[0, 1, 2, 7, 3, 4, 5, 6, 8, 9, 10, 11, 12, 13, 14, 16, 19, 20, 21, 23, 24, 25, 30, 15, 17, 18, 22, 26, 27, 28, 29, 31, 32, 33, 34, 35, 36, 37], lkN []⟩), (19, rng 4), (20, rng 10)], lkL [(6, [(70, .int .i64)]), (11, []), (14, [])], lkC []⟩
def B_maxflow_pushing_fill (p0_p : Value) (R : Res → H → Prop) (h : H) : Prop :=
  ptrP p0_p fun a1 =>
  ldV h (a1.add 0) fun x2 =>
  ptrP x2 fun a3 =>
  ldV h (a3.add 2) fun x4 =>
  slcP x4 fun a5 l6 c7 =>
  mkS ((l6 : Nat) : Int) ((l6 : Nat) : Int) 8 [.int .i64 0] 3 h fun b8 h9 =>
  ptrP p0_p fun a10 =>
  stC h9 (a10.add 1) (.slice (some (bk b8)) (((l6 : Nat) : Int).toNat) (((l6 : Nat) : Int).toNat)) fun h11 =>
  mkS (IntKind.i64.wrap ((IntKind.i64.wrap (2 * ((l6 : Nat) : Int))) + 2)) (IntKind.i64.wrap ((IntKind.i64.wrap (2 * ((l6 : Nat) : Int))) + 2)) 8 [.int .i64 0] 3 h11 fun b12 h13 =>
  ptrP p0_p fun a14 =>
  stC h13 (a14.add 2) (.slice (some (bk b12)) ((IntKind.i64.wrap ((IntKind.i64.wrap (2 * ((l6 : Nat) : Int))) + 2)).toNat) ((IntKind.i64.wrap ((IntKind.i64.wrap (2 * ((l6 : Nat) : Int))) + 2)).toNat)) fun h15 =>
  mkS ((l6 : Nat) : Int) ((l6 : Nat) : Int) 8 [.int .i64 0] 2 h15 fun b16 h17 =>
  ptrP p0_p fun a18 =>
  stC h17 (a18.add 3) (.slice (some (bk b16)) (((l6 : Nat) : Int).toNat) (((l6 : Nat) : Int).toNat)) fun h19 =>
  mkS ((l6 : Nat) : Int) ((l6 : Nat) : Int) 8 [.int .i64 0] 3 h19 fun b20 h21 =>
  ptrP p0_p fun a22 =>
  stC h21 (a22.add 5) (.slice (some (bk b20)) (((l6 : Nat) : Int).toNat) (((l6 : Nat) : Int).toNat)) fun h23 =>
  ptrP p0_p fun a24 =>
  ldV h23 (a24.add 2) fun x25 =>
  ixS x25 0 1 fun a26 =>
  stC h23 a26 (.int .i64 ((l6 : Nat) : Int)) fun h27 =>
  ptrP p0_p fun a28 =>
  ldV h27 (a28.add 0) fun x29 =>
  ptrP x29 fun a30 =>
  ldI h27 (a30.add 3) .i64 fun x31 =>
  T Tryz.prog F.maxflow_pushing_set [p0_p, .int .i64 x31, .int .i64 ((l6 : Nat) : Int)] h27 (rt (fun v32 h33 =>
  v32 = .tuple ⟨[]⟩ ∧
  ptrP p0_p fun a34 =>
  ptrP p0_p fun a35 =>
  ldV h33 (a34.add 0) fun x36 =>
  ptrP x36 fun a37 =>
  ldV h33 (a37.add 2) fun x38 =>
  ldV h33 (a35.add 0) fun x39 =>
  ptrP x39 fun a40 =>
  ldI h33 (a40.add 3) .i64 fun x41 =>
  ixS x38 x41 1 fun a42 =>
  ldV h33 a42 fun x43 =>
  slcP x43 fun a44 l45 c46 =>
  ∃ (I47 : (Int × Unit) → H → Prop) (r48 : (Int × Unit) × H → (Int × Unit) × H → Prop), WellFounded r48 ∧ I47 (0, ()) h33 ∧
  ∀ (s50 : Int) (h49 : H), I47 (s50, ()) h49 →
  ifP (decide (s50 < ((l45 : Nat) : Int))) (ixS x43 s50 1 fun a51 =>
  ldI h49 a51 .i64 fun x52 =>
  ptrP p0_p fun a53 =>
  ptrP p0_p fun a54 =>
  ptrP p0_p fun a55 =>
  ldV h49 (a53.add 3) fun x56 =>
  ldV h49 (a54.add 0) fun x57 =>
  ptrP x57 fun a58 =>
  ldI h49 (a58.add 3) .i64 fun x59 =>
  ixS x56 x59 1 fun a60 =>
  ldI h49 a60 .i64 fun x61 =>
  ldV h49 (a55.add 0) fun x62 =>
  ptrP x62 fun a63 =>
  ldV h49 (a63.add 1) fun x64 =>
  ixS x64 x52 1 fun a65 =>
  ldI h49 a65 .i64 fun x66 =>
  ixS x56 x59 1 fun a67 =>
  stC h49 a67 (.int .i64 (IntKind.i64.wrap (x61 + x66))) fun h68 =>
  ptrP p0_p fun a69 =>
  ldV h68 (a69.add 0) fun x70 =>
  ptrP x70 fun a71 =>
  ldI h68 (a71.add 3) .i64 fun x72 =>
  T Tryz.prog F.maxflow_pushing_give [p0_p, .int .i64 x72, .int .i64 x52] h68 (rt (fun v73 h74 =>
  v73 = .tuple ⟨[]⟩ ∧
  I47 ((IntKind.i64.wrap (s50 + 1)), ()) h74 ∧ r48 (((IntKind.i64.wrap (s50 + 1)), ()), h74) ((s50, ()), h49)) (fun v75 h76 => R (.pan v75) h76)))
  (∃ (I77 : (Unit) → H → Prop) (r78 : (Unit) × H → (Unit) × H → Prop), WellFounded r78 ∧ I77 (()) h49 ∧
  ∀  (h79 : H), I77 (()) h79 →
  ptrP p0_p fun a80 =>
  ldV h79 (a80.add 4) fun x81 =>
  slcP x81 fun a82 l83 c84 =>
  ifP (decide (0 < ((l83 : Nat) : Int))) (ptrP p0_p fun a85 =>
  ldV h79 (a85.add 4) fun x86 =>
  ixS x86 0 1 fun a87 =>
  ldI h79 a87 .i64 fun x88 =>
  ptrP p0_p fun a89 =>
  ldV h79 (a89.add 4) fun x90 =>
  slcP x90 fun a91 l92 c93 =>
  (0 : Int) ≤ ((l92 : Nat) : Int) ∧ ((l92 : Nat) : Int) ≤ ((c93 : Nat) : Int) ∧
  (0 : Int) ≤ 1 ∧ 1 ≤ ((l92 : Nat) : Int) ∧
  ptrP p0_p fun a94 =>
  oneP (sliceV a91 c93 1 ((l92 : Nat) : Int) 1) (stC h79 (a94.add 4) (sliceV a91 c93 1 ((l92 : Nat) : Int) 1) fun h95 =>
  ∃ (I96 : (Unit) → H → Prop) (r97 : (Unit) × H → (Unit) × H → Prop), WellFounded r97 ∧ I96 (()) h95 ∧
  ∀  (h98 : H), I96 (()) h98 →
  ptrP p0_p fun a99 =>
  ldV h98 (a99.add 3) fun x100 =>
  ixS x100 x88 1 fun a101 =>
  ldI h98 a101 .i64 fun x102 =>
  ifP (decide (0 < x102)) (ptrP p0_p fun a103 =>
  ptrP p0_p fun a104 =>
  ldV h98 (a103.add 5) fun x105 =>
  ixS x105 x88 1 fun a106 =>
  ldI h98 a106 .i64 fun x107 =>
  ldV h98 (a104.add 0) fun x108 =>
  ptrP x108 fun a109 =>
  ldV h98 (a109.add 2) fun x110 =>
  ixS x110 x88 1 fun a111 =>
  ldV h98 a111 fun x112 =>
  slcP x112 fun a113 l114 c115 =>
  ifP (decide (x107 = ((l114 : Nat) : Int))) (T Tryz.prog F.maxflow_pushing_lift [p0_p, .int .i64 x88] h98 (rt (fun v116 h117 =>
  v116 = .tuple ⟨[]⟩ ∧
  I96 (()) h117 ∧ r97 ((()), h117) ((()), h98)) (fun v118 h119 => R (.pan v118) h119)))
  (ptrP p0_p fun a120 =>
  ptrP p0_p fun a121 =>
  ldV h98 (a120.add 0) fun x122 =>
  ptrP x122 fun a123 =>
  ldV h98 (a123.add 2) fun x124 =>
  ixS x124 x88 1 fun a125 =>
  ldV h98 a125 fun x126 =>
  ldV h98 (a121.add 5) fun x127 =>
  ixS x127 x88 1 fun a128 =>
  ldI h98 a128 .i64 fun x129 =>
  ixS x126 x129 1 fun a130 =>
  ldI h98 a130 .i64 fun x131 =>
  ptrP p0_p fun a132 =>
  ldV h98 (a132.add 0) fun x133 =>
  ptrP x133 fun a134 =>
  ldV h98 (a134.add 1) fun x135 =>
  ixS x135 x131 1 fun a136 =>
  ldI h98 a136 .i64 fun x137 =>
  ifP (decide (0 < x137)) (ptrP p0_p fun a138 =>
  ptrP p0_p fun a139 =>
  ptrP p0_p fun a140 =>
  ldV h98 (a138.add 1) fun x141 =>
  ixS x141 x88 1 fun a142 =>
  ldI h98 a142 .i64 fun x143 =>
  ldV h98 (a139.add 1) fun x144 =>
  ldV h98 (a140.add 0) fun x145 =>
  ptrP x145 fun a146 =>
  ldV h98 (a146.add 0) fun x147 =>
  ixS x147 x131 1 fun a148 =>
  ldI h98 a148 .i64 fun x149 =>
  ixS x144 x149 1 fun a150 =>
  ldI h98 a150 .i64 fun x151 =>
  ifP (decide (x143 = (IntKind.i64.wrap (x151 + 1)))) (T Tryz.prog F.maxflow_pushing_give [p0_p, .int .i64 x88, .int .i64 x131] h98 (rt (fun v152 h153 =>
  v152 = .tuple ⟨[]⟩ ∧
  I96 (()) h153 ∧ r97 ((()), h153) ((()), h98)) (fun v154 h155 => R (.pan v154) h155)))
  (ptrP p0_p fun a156 =>
  ldV h98 (a156.add 5) fun x157 =>
  ixS x157 x88 1 fun a158 =>
  ldI h98 a158 .i64 fun x159 =>
  ixS x157 x88 1 fun a160 =>
  stC h98 a160 (.int .i64 (IntKind.i64.wrap (x159 + 1))) fun h161 =>
  I96 (()) h161 ∧ r97 ((()), h161) ((()), h98))) (ptrP p0_p fun a162 =>
  ldV h98 (a162.add 5) fun x163 =>
  ixS x163 x88 1 fun a164 =>
  ldI h98 a164 .i64 fun x165 =>
  ixS x163 x88 1 fun a166 =>
  stC h98 a166 (.int .i64 (IntKind.i64.wrap (x165 + 1))) fun h167 =>
  I96 (()) h167 ∧ r97 ((()), h167) ((()), h98))))
  (I77 (()) h98 ∧ r78 ((()), h98) ((()), h79))))
  (R (.ret (.tuple ⟨[]⟩)) h79))) (fun v168 h169 => R (.pan v168) h169))
theorem E_maxflow_pushing_fill {p0_p : Value} {R : Res → H → Prop} {h : H} (H0 : B_maxflow_pushing_fill p0_p R h) : T Tryz.prog F.maxflow_pushing_fill [p0_p] h R :=
  T_intro A_maxflow_pushing_fill Tryz.func116 (c := bodyOf Tryz.f116) (by kernel_rfl) (by kernel_rfl) (by kernel_rfl) (cast_of (by kernel_rfl) H0)

def A_maxflow_pushing_set : An := ⟨lkA [(0, ⟨[0, 1, 2, 4, 5, 6, 8, 3, 7, 9, 10, 11, 12, 13, 14, 15], lkN []⟩), (1, rng 8), (2, rng 10)], lkL [], lkC []⟩
def B_maxflow_pushing_set (p0_p : Value) (p1_v : Int) (p2_h : Int) (R : Res → H → Prop) (h : H) : Prop :=
  ptrP p0_p fun a1 =>
  ptrP p0_p fun a2 =>
  ldV h (a1.add 2) fun x3 =>
  ldV h (a2.add 1) fun x4 =>
  ixS x4 p1_v 1 fun a5 =>
  ldI h a5 .i64 fun x6 =>
  ixS x3 x6 1 fun a7 =>
  ldI h a7 .i64 fun x8 =>
  ixS x3 x6 1 fun a9 =>
  stC h a9 (.int .i64 (IntKind.i64.wrap (x8 - 1))) fun h10 =>
  ptrP p0_p fun a11 =>
  ldV h10 (a11.add 1) fun x12 =>
  ixS x12 p1_v 1 fun a13 =>
  stC h10 a13 (.int .i64 p2_h) fun h14 =>
  ptrP p0_p fun a15 =>
  ldV h14 (a15.add 2) fun x16 =>
  ixS x16 p2_h 1 fun a17 =>
  ldI h14 a17 .i64 fun x18 =>
  ixS x16 p2_h 1 fun a19 =>
  stC h14 a19 (.int .i64 (IntKind.i64.wrap (x18 + 1))) fun h20 =>
  R (.ret (.tuple ⟨[]⟩)) h20
theorem E_maxflow_pushing_set {p0_p : Value} {p1_v : Int} {p2_h : Int} {R : Res → H → Prop} {h : H} (H0 : B_maxflow_pushing_set p0_p p1_v p2_h R h) : T Tryz.prog F.maxflow_pushing_set [p0_p, .int .i64 p1_v, .int .i64 p2_h] h R :=
  T_intro A_maxflow_pushing_set Tryz.func117 (c := bodyOf Tryz.f117) (by kernel_rfl) (by kernel_rfl) (by kernel_rfl) (cast_of (by kernel_rfl) H0)

def A_maxflow_pushing_give : An := ⟨lkA [(0, rng 11), (1, ⟨[0, 1, 2, 4, 7, 8, 9, 14, 3, 5, 6, 10, 11, 12, 13, 15, 16, 17, 18], lkN []⟩), (2, rng 7), (3, rng 30), (4, rng 11), (5, rng 11), (6, rng 11)], lkL [], lkC [(5, [])]⟩
def B_maxflow_pushing_give (p0_p : Value) (p1_v : Int) (p2_a : Int) (R : Res → H → Prop) (h : H) : Prop :=
  ptrP p0_p fun a1 =>
  ldV h (a1.add 0) fun x2 =>
  ptrP x2 fun a3 =>
  ldV h (a3.add 0) fun x4 =>
  ixS x4 p2_a 1 fun a5 =>
  ldI h a5 .i64 fun x6 =>
  ptrP p0_p fun a7 =>
  ptrP p0_p fun a8 =>
  ldV h (a7.add 3) fun x9 =>
  ixS x9 p1_v 1 fun a10 =>
  ldI h a10 .i64 fun x11 =>
  ldV h (a8.add 0) fun x12 =>
  ptrP x12 fun a13 =>
  ldV h (a13.add 1) fun x14 =>
  ixS x14 p2_a 1 fun a15 =>
  ldI h a15 .i64 fun x16 =>
  ptrP p0_p fun a17 =>
  ldV h (a17.add 0) fun x18 =>
  T Tryz.prog F.maxflow_net_send [x18, .int .i64 p2_a, .int .i64 (if x16 < x11 then x16 else x11)] h (rt (fun v19 h20 =>
  v19 = .tuple ⟨[]⟩ ∧
  ∃ J21 : (Unit) → H → Prop, (ptrP p0_p fun a23 =>
  ldV h20 (a23.add 3) fun x24 =>
  ixS x24 x6 1 fun a25 =>
  ldI h20 a25 .i64 fun x26 =>
  ifP (decide (x26 = 0)) (ptrP p0_p fun a27 =>
  ldV h20 (a27.add 0) fun x28 =>
  ptrP x28 fun a29 =>
  ldI h20 (a29.add 3) .i64 fun x30 =>
  ifP (!decide (x6 = x30)) (ptrP p0_p fun a31 =>
  ldV h20 (a31.add 0) fun x32 =>
  ptrP x32 fun a33 =>
  ldI h20 (a33.add 4) .i64 fun x34 =>
  ifP (!decide (x6 = x34)) (ptrP p0_p fun a35 =>
  ldV h20 (a35.add 4) fun x36 =>
  newP h20 (.cells ⟨[.int .i64 x6]⟩ 3 (0, 0)) fun b37 h38 =>
  apP x36 (.slice (some (bk b37)) 1 1) h38 1 3 8 [.int .i64 0] fun s39 h40 =>
  ptrP p0_p fun a41 =>
  oneP s39 (stC h40 (a41.add 4) s39 fun h42 =>
  J21 (()) h42))
  (J21 (()) h20)) (J21 (()) h20)) (J21 (()) h20)) ∧
  (∀  (h22 : H), J21 (()) h22 →
  ptrP p0_p fun a43 =>
  ldV h22 (a43.add 3) fun x44 =>
  ixS x44 p1_v 1 fun a45 =>
  ldI h22 a45 .i64 fun x46 =>
  ixS x44 p1_v 1 fun a47 =>
  stC h22 a47 (.int .i64 (IntKind.i64.wrap (x46 - (if x16 < x11 then x16 else x11)))) fun h48 =>
  ptrP p0_p fun a49 =>
  ldV h48 (a49.add 3) fun x50 =>
  ixS x50 x6 1 fun a51 =>
  ldI h48 a51 .i64 fun x52 =>
  ixS x50 x6 1 fun a53 =>
  stC h48 a53 (.int .i64 (IntKind.i64.wrap (x52 + (if x16 < x11 then x16 else x11)))) fun h54 =>
  R (.ret (.tuple ⟨[]⟩)) h54)) (fun v55 h56 => R (.pan v55) h56))
theorem E_maxflow_pushing_give {p0_p : Value} {p1_v : Int} {p2_a : Int} {R : Res → H → Prop} {h : H} (H0 : B_maxflow_pushing_give p0_p p1_v p2_a R h) : T Tryz.prog F.maxflow_pushing_give [p0_p, .int .i64 p1_v, .int .i64 p2_a] h R :=
  T_intro A_maxflow_pushing_give Tryz.func118 (c := bodyOf Tryz.f118) (by kernel_rfl) (by kernel_rfl) (by kernel_rfl) (cast_of (by kernel_rfl) H0)

def A_maxflow_pushing_lift : An := ⟨lkA [(0, ⟨[0, 1, 2, 4, 7, 8, 9, 3, 5, 6, 16, 10, 11, 12, 13, 14, 15, 17], lkN []⟩), (1, rng 12), (2, rng 1), (3, rng 3), (4, rng 11), (5, ⟨[0, 1, 2, 3, 5, 6, 7, 12, 4, 8, 9, 10, 11, 13, 14, 15, 16, 17, 18, 19], lkN []⟩), (6, rng 2), (7, rng 4), (8, rng 7), (9, rng 9), (10, rng 13), (11, rng 6), (12, rng 1), (13, rng 5), (14, rng 19), (15, rng 5), (16, rng 7), (17, rng 2)], lkL [(2, [(5, .int .i64), (38, .int .i64)]), (12, [(109, .int .i64)])], lkC []⟩
def B_maxflow_pushing_lift (p0_p : Value) (p1_v : Int) (R : Res → H → Prop) (h : H) : Prop :=
  ptrP p0_p fun a1 =>
  ptrP p0_p fun a2 =>
  ldV h (a1.add 1) fun x3 =>
  ixS x3 p1_v 1 fun a4 =>
  ldI h a4 .i64 fun x5 =>
  ldV h (a2.add 0) fun x6 =>
  ptrP x6 fun a7 =>
  ldV h (a7.add 2) fun x8 =>
  slcP x8 fun a9 l10 c11 =>
  ptrP p0_p fun a12 =>
  ldV h (a12.add 0) fun x13 =>
  ptrP x13 fun a14 =>
  ldV h (a14.add 2) fun x15 =>
  ixS x15 p1_v 1 fun a16 =>
  ldV h a16 fun x17 =>
  slcP x17 fun a18 l19 c20 =>
  ∃ (I21 : (Int × Int × Unit) → H → Prop) (r22 : (Int × Int × Unit) × H → (Int × Int × Unit) × H → Prop), WellFounded r22 ∧ I21 ((IntKind.i64.wrap (2 * ((l10 : Nat) : Int))), 0, ()) h ∧
  ∀ (low_24 : Int) (s25 : Int) (h23 : H), I21 (low_24, s25, ()) h23 →
  ifP (decide (s25 < ((l19 : Nat) : Int))) (ixS x17 s25 1 fun a26 =>
  ldI h23 a26 .i64 fun x27 =>
  ptrP p0_p fun a28 =>
  ldV h23 (a28.add 0) fun x29 =>
  ptrP x29 fun a30 =>
  ldV h23 (a30.add 1) fun x31 =>
  ixS x31 x27 1 fun a32 =>
  ldI h23 a32 .i64 fun x33 =>
  ifP (decide (0 < x33)) (ptrP p0_p fun a34 =>
  ptrP p0_p fun a35 =>
  ldV h23 (a34.add 1) fun x36 =>
  ldV h23 (a35.add 0) fun x37 =>
  ptrP x37 fun a38 =>
  ldV h23 (a38.add 0) fun x39 =>
  ixS x39 x27 1 fun a40 =>
  ldI h23 a40 .i64 fun x41 =>
  ixS x36 x41 1 fun a42 =>
  ldI h23 a42 .i64 fun x43 =>
  I21 ((if (IntKind.i64.wrap (x43 + 1)) < low_24 then (IntKind.i64.wrap (x43 + 1)) else low_24), (IntKind.i64.wrap (s25 + 1)), ()) h23 ∧ r22 (((if (IntKind.i64.wrap (x43 + 1)) < low_24 then (IntKind.i64.wrap (x43 + 1)) else low_24), (IntKind.i64.wrap (s25 + 1)), ()), h23) ((low_24, s25, ()), h23))
  (I21 (low_24, (IntKind.i64.wrap (s25 + 1)), ()) h23 ∧ r22 ((low_24, (IntKind.i64.wrap (s25 + 1)), ()), h23) ((low_24, s25, ()), h23)))
  (T Tryz.prog F.maxflow_pushing_set [p0_p, .int .i64 p1_v, .int .i64 low_24] h23 (rt (fun v44 h45 =>
  v44 = .tuple ⟨[]⟩ ∧
  ptrP p0_p fun a46 =>
  ldV h45 (a46.add 5) fun x47 =>
  ixS x47 p1_v 1 fun a48 =>
  stC h45 a48 (.int .i64 0) fun h49 =>
  ptrP p0_p fun a50 =>
  ldV h49 (a50.add 0) fun x51 =>
  ptrP x51 fun a52 =>
  ldV h49 (a52.add 2) fun x53 =>
  slcP x53 fun a54 l55 c56 =>
  ptrP p0_p fun a57 =>
  ldV h49 (a57.add 2) fun x58 =>
  ixS x58 x5 1 fun a59 =>
  ldI h49 a59 .i64 fun x60 =>
  ifP (decide (x60 = 0)) (ifP (decide (x5 < ((l55 : Nat) : Int))) (ptrP p0_p fun a61 =>
  ldV h49 (a61.add 1) fun x62 =>
  slcP x62 fun a63 l64 c65 =>
  ∃ (I66 : (Int × Unit) → H → Prop) (r67 : (Int × Unit) × H → (Int × Unit) × H → Prop), WellFounded r67 ∧ I66 (0, ()) h49 ∧
  ∀ (s69 : Int) (h68 : H), I66 (s69, ()) h68 →
  ifP (decide (s69 < ((l64 : Nat) : Int))) (ixS x62 s69 1 fun a70 =>
  ldI h68 a70 .i64 fun x71 =>
  ifP (decide (x5 < x71)) (ifP (decide (x71 ≤ ((l55 : Nat) : Int))) (ptrP p0_p fun a72 =>
  ldV h68 (a72.add 0) fun x73 =>
  ptrP x73 fun a74 =>
  ldI h68 (a74.add 3) .i64 fun x75 =>
  ifP (!decide (s69 = x75)) (T Tryz.prog F.maxflow_pushing_set [p0_p, .int .i64 s69, .int .i64 (IntKind.i64.wrap (((l55 : Nat) : Int) + 1))] h68 (rt (fun v76 h77 =>
  v76 = .tuple ⟨[]⟩ ∧
  ptrP p0_p fun a78 =>
  ldV h77 (a78.add 5) fun x79 =>
  ixS x79 s69 1 fun a80 =>
  stC h77 a80 (.int .i64 0) fun h81 =>
  I66 ((IntKind.i64.wrap (s69 + 1)), ()) h81 ∧ r67 (((IntKind.i64.wrap (s69 + 1)), ()), h81) ((s69, ()), h68)) (fun v82 h83 => R (.pan v82) h83)))
  (I66 ((IntKind.i64.wrap (s69 + 1)), ()) h68 ∧ r67 (((IntKind.i64.wrap (s69 + 1)), ()), h68) ((s69, ()), h68))) (I66 ((IntKind.i64.wrap (s69 + 1)), ()) h68 ∧ r67 (((IntKind.i64.wrap (s69 + 1)), ()), h68) ((s69, ()), h68))) (I66 ((IntKind.i64.wrap (s69 + 1)), ()) h68 ∧ r67 (((IntKind.i64.wrap (s69 + 1)), ()), h68) ((s69, ()), h68)))
  (R (.ret (.tuple ⟨[]⟩)) h68))
  (R (.ret (.tuple ⟨[]⟩)) h49)) (R (.ret (.tuple ⟨[]⟩)) h49)) (fun v84 h85 => R (.pan v84) h85)))
theorem E_maxflow_pushing_lift {p0_p : Value} {p1_v : Int} {R : Res → H → Prop} {h : H} (H0 : B_maxflow_pushing_lift p0_p p1_v R h) : T Tryz.prog F.maxflow_pushing_lift [p0_p, .int .i64 p1_v] h R :=
  T_intro A_maxflow_pushing_lift Tryz.func119 (c := bodyOf Tryz.f119) (by kernel_rfl) (by kernel_rfl) (by kernel_rfl) (cast_of (by kernel_rfl) H0)

def A_heaps_keyed_ahead : An := ⟨lkA [(0, rng 1), (1, ⟨[0, 1, 2, 4, 7, 8, 9, 11, 3, 5, 6, 10, 12, 13, 14, 15, 16, 17, 18, 20, 23, 24, 25, 27, 19, 21, 22, 26, 28, 29, 30, 31, 32, 33, 34, 35, 36, 37], lkN []⟩)], lkL [], lkC []⟩
def B_heaps_keyed_ahead (p0_k : Value) (p1_a : Int) (p2_b : Int) (R : Res → H → Prop) (h : H) : Prop :=
  ptrP p0_k fun a1 =>
  ptrP p0_k fun a2 =>
  ldV h (a1.add 0) fun x3 =>
  ixS x3 p1_a 1 fun a4 =>
  ldI h a4 .i64 fun x5 =>
  ldV h (a2.add 0) fun x6 =>
  ixS x6 p2_b 1 fun a7 =>
  ldI h a7 .i64 fun x8 =>
  ifP (decide (x5 < x8)) (R (.ret (.bool true)) h) (ptrP p0_k fun a9 =>
  ptrP p0_k fun a10 =>
  ldV h (a9.add 0) fun x11 =>
  ixS x11 p1_a 1 fun a12 =>
  ldI h a12 .i64 fun x13 =>
  ldV h (a10.add 0) fun x14 =>
  ixS x14 p2_b 1 fun a15 =>
  ldI h a15 .i64 fun x16 =>
  ifP (decide (x13 = x16)) (R (.ret (.bool (decide (p1_a < p2_b)))) h) (R (.ret (.bool false)) h))
theorem E_heaps_keyed_ahead {p0_k : Value} {p1_a : Int} {p2_b : Int} {R : Res → H → Prop} {h : H} (H0 : B_heaps_keyed_ahead p0_k p1_a p2_b R h) : T Tryz.prog F.heaps_keyed_ahead [p0_k, .int .i64 p1_a, .int .i64 p2_b] h R :=
  T_intro A_heaps_keyed_ahead Tryz.func124 (c := bodyOf Tryz.f124) (by kernel_rfl) (by kernel_rfl) (by kernel_rfl) (cast_of (by kernel_rfl) H0)

def A_heaps_fibonacci_lower : An := ⟨lkA [(0, rng 9), (1, rng 11), (2, rng 3), (3, ⟨[0, 1, 2, 4, 5, 6, 7, 3, 8, 9], lkN []⟩), (4, rng 5)], lkL [], lkC [(3, [])]⟩
def B_heaps_fibonacci_lower (p0_f : Value) (p1_h : Int) (R : Res → H → Prop) (h : H) : Prop :=
  ∃ J1 : (Unit) → H → Prop, (ptrP p0_f fun a3 =>
  ldV h (a3.add 2) fun x4 =>
  ixS x4 p1_h 6 fun a5 =>
  ldI h (a5.add 0) .i64 fun x6 =>
  ifP (decide (0 ≤ x6)) (ptrP p0_f fun a7 =>
  ldV h (a7.add 0) fun x8 =>
  T Tryz.prog F.heaps_keyed_ahead [x8, .int .i64 p1_h, .int .i64 x6] h (rt (fun v9 h10 =>
  ∃ r11, v9 = .bool r11 ∧
  ifP r11 (T Tryz.prog F.heaps_fibonacci_cut [p0_f, .int .i64 p1_h] h10 (rt (fun v12 h13 =>
  v12 = .tuple ⟨[]⟩ ∧
  J1 (()) h13) (fun v14 h15 => R (.pan v14) h15)))
  (J1 (()) h10)) (fun v16 h17 => R (.pan v16) h17))) (J1 (()) h)) ∧
  (∀  (h2 : H), J1 (()) h2 →
  ptrP p0_f fun a18 =>
  ptrP p0_f fun a19 =>
  ldV h2 (a18.add 0) fun x20 =>
  ldI h2 (a19.add 1) .i64 fun x21 =>
  T Tryz.prog F.heaps_keyed_ahead [x20, .int .i64 p1_h, .int .i64 x21] h2 (rt (fun v22 h23 =>
  ∃ r24, v22 = .bool r24 ∧
  ifP r24 (ptrP p0_f fun a25 =>
  stC h23 (a25.add 1) (.int .i64 p1_h) fun h26 =>
  R (.ret (.tuple ⟨[]⟩)) h26)
  (R (.ret (.tuple ⟨[]⟩)) h23)) (fun v27 h28 => R (.pan v27) h28)))
theorem E_heaps_fibonacci_lower {p0_f : Value} {p1_h : Int} {R : Res → H → Prop} {h : H} (H0 : B_heaps_fibonacci_lower p0_f p1_h R h) : T Tryz.prog F.heaps_fibonacci_lower [p0_f, .int .i64 p1_h] h R :=
  T_intro A_heaps_fibonacci_lower Tryz.func131 (c := bodyOf Tryz.f131) (by kernel_rfl) (by kernel_rfl) (by kernel_rfl) (cast_of (by kernel_rfl) H0)

def A_heaps_fibonacci_pop : An := ⟨lkA [(0, ⟨[0, 1, 2, 3, 5, 6, 7, 13, 14, 15, 16, 4, 8, 9, 10, 11, 17, 12, 18, 19, 20, 21], lkN [(12, [17])]⟩), (1, rng 1), (2, rng 3), (3, rng 1), (4, rng 3), (5, ⟨[0, 1, 2, 4, 5, 6, 7, 9, 10, 11, 12, 14, 15, 16, 17, 19, 20, 21, 3, 8, 13, 18, 22, 23, 24, 25, 26, 27, 28, 29, 30, 31, 32, 33], lkN []⟩), (6, rng 9), (7, rng 5), (8, rng 2), (9, rng 5), (10, rng 3), (11, rng 5), (12, rng 2), (13, rng 4), (14, rng 2), (15, rng 1), (16, rng 2), (17, rng 2), (18, rng 4), (19, rng 2)], lkL [(3, [(33, .int .i64)]), (6, [(5, .int .i64)]), (15, [(96, .int .i64)])], lkC []⟩
def B_heaps_fibonacci_pop (p0_f : Value) (R : Res → H → Prop) (h : H) : Prop :=
  ptrP p0_f fun a1 =>
  ptrP p0_f fun a2 =>
  ptrP p0_f fun a3 =>
  ldV h (a1.add 2) fun x4 =>
  ldI h (a2.add 1) .i64 fun x5 =>
  ixS x4 x5 6 fun a6 =>
  ldI h (a6.add 1) .i64 fun x7 =>
  ldI h (a3.add 1) .i64 fun x8 =>
  T Tryz.prog F.heaps_fibonacci_ring [p0_f, .int .i64 x7] h (rt (fun v9 h10 =>
  (sameAt 2 (a3.add 1) h h10) ∧
  T Tryz.prog F.heaps_fibonacci_ring [p0_f, .int .i64 x8] h10 (rt (fun v11 h12 =>
  slcP v11 fun a13 l14 c15 =>
  (0 : Int) ≤ ((l14 : Nat) : Int) ∧ ((l14 : Nat) : Int) ≤ ((c15 : Nat) : Int) ∧
  (0 : Int) ≤ 1 ∧ 1 ≤ ((l14 : Nat) : Int) ∧
  apP v9 (sliceV a13 c15 1 ((l14 : Nat) : Int) 1) h12 1 3 8 [.int .i64 0] fun s16 h17 =>
  newP h17 (.cells ⟨[.int .i64 0, .int .i64 0, .int .i64 0, .int .i64 0, .int .i64 0, .int .i64 0, .int .i64 0, .int .i64 0, .int .i64 0, .int .i64 0, .int .i64 0, .int .i64 0, .int .i64 0, .int .i64 0, .int .i64 0, .int .i64 0, .int .i64 0, .int .i64 0, .int .i64 0, .int .i64 0, .int .i64 0, .int .i64 0, .int .i64 0, .int .i64 0, .int .i64 0, .int .i64 0, .int .i64 0, .int .i64 0, .int .i64 0, .int .i64 0, .int .i64 0, .int .i64 0, .int .i64 0, .int .i64 0, .int .i64 0, .int .i64 0, .int .i64 0, .int .i64 0, .int .i64 0, .int .i64 0, .int .i64 0, .int .i64 0, .int .i64 0, .int .i64 0, .int .i64 0, .int .i64 0, .int .i64 0, .int .i64 0, .int .i64 0, .int .i64 0, .int .i64 0, .int .i64 0, .int .i64 0, .int .i64 0, .int .i64 0, .int .i64 0, .int .i64 0, .int .i64 0, .int .i64 0, .int .i64 0, .int .i64 0, .int .i64 0, .int .i64 0, .int .i64 0]⟩ 215 (0, 0)) fun b18 h19 =>
  slcP s16 fun a20 l21 c22 =>
  ∃ (I23 : (Int × Unit) → H → Prop) (r24 : (Int × Unit) × H → (Int × Unit) × H → Prop), WellFounded r24 ∧ I23 (0, ()) h19 ∧
  ∀ (s26 : Int) (h25 : H), I23 (s26, ()) h25 →
  ifP (decide (s26 < ((l21 : Nat) : Int))) (ixS s16 s26 1 fun a27 =>
  ldI h25 a27 .i64 fun x28 =>
  ptrP p0_f fun a29 =>
  ptrP p0_f fun a30 =>
  ptrP p0_f fun a31 =>
  ptrP p0_f fun a32 =>
  ldV h25 (a29.add 2) fun x33 =>
  ldV h25 (a30.add 2) fun x34 =>
  ldV h25 (a31.add 2) fun x35 =>
  ldV h25 (a32.add 2) fun x36 =>
  ixS x33 x28 6 fun a37 =>
  stC h25 (a37.add 2) (.int .i64 x28) fun h38 =>
  ixS x34 x28 6 fun a39 =>
  stC h38 (a39.add 3) (.int .i64 x28) fun h40 =>
  ixS x35 x28 6 fun a41 =>
  stC h40 (a41.add 0) (.int .i64 (-1)) fun h42 =>
  ixS x36 x28 6 fun a43 =>
  stC h42 (a43.add 5) (.bool false) fun h44 =>
  ∃ (I45 : (Int × Unit) → H → Prop) (r46 : (Int × Unit) × H → (Int × Unit) × H → Prop), WellFounded r46 ∧ I45 (x28, ()) h44 ∧
  ∀ (h_48 : Int) (h47 : H), I45 (h_48, ()) h47 →
  ptrP p0_f fun a49 =>
  ldV h47 (a49.add 2) fun x50 =>
  ixS x50 h_48 6 fun a51 =>
  ldI h47 (a51.add 4) .i64 fun x52 =>
  ixA (bk b18) 64 x52 1 fun a53 =>
  ldI h47 a53 .i64 fun x54 =>
  ifP (decide ((IntKind.i64.wrap (x54 - 1)) < 0)) (ixA (bk b18) 64 x52 1 fun a55 =>
  stC h47 a55 (.int .i64 (IntKind.i64.wrap (h_48 + 1))) fun h56 =>
  I23 ((IntKind.i64.wrap (s26 + 1)), ()) h56 ∧ r24 (((IntKind.i64.wrap (s26 + 1)), ()), h56) ((s26, ()), h25))
  (ixA (bk b18) 64 x52 1 fun a57 =>
  stC h47 a57 (.int .i64 0) fun h58 =>
  T Tryz.prog F.heaps_fibonacci_under [p0_f, .int .i64 h_48, .int .i64 (IntKind.i64.wrap (x54 - 1))] h58 (rt (fun v59 h60 =>
  ∃ r61, v59 = .int .i64 r61 ∧
  I45 (r61, ()) h60 ∧ r46 ((r61, ()), h60) ((h_48, ()), h47)) (fun v62 h63 => R (.pan v62) h63))))
  (ptrP p0_f fun a64 =>
  stC h25 (a64.add 1) (.int .i64 (-1)) fun h65 =>
  ldN h65 (bk b18) 64 fun x66 =>
  ∃ (I67 : (Int × Unit) → H → Prop) (r68 : (Int × Unit) × H → (Int × Unit) × H → Prop), WellFounded r68 ∧ I67 (0, ()) h65 ∧
  ∀ (s70 : Int) (h69 : H), I67 (s70, ()) h69 →
  ifP (decide (s70 < 64)) (0 ≤ s70 ∧ s70 < ((64 : Nat) : Int) ∧
  ptI x66 (s70.toNat * 1) .i64 fun x71 =>
  ifP (decide (0 < x71)) (T Tryz.prog F.heaps_fibonacci_root [p0_f, .int .i64 (IntKind.i64.wrap (x71 - 1))] h69 (rt (fun v72 h73 =>
  v72 = .tuple ⟨[]⟩ ∧
  I67 ((IntKind.i64.wrap (s70 + 1)), ()) h73 ∧ r68 (((IntKind.i64.wrap (s70 + 1)), ()), h73) ((s70, ()), h69)) (fun v74 h75 => R (.pan v74) h75)))
  (I67 ((IntKind.i64.wrap (s70 + 1)), ()) h69 ∧ r68 (((IntKind.i64.wrap (s70 + 1)), ()), h69) ((s70, ()), h69)))
  (R (.ret (.tuple ⟨[]⟩)) h69))) (fun v76 h77 => R (.pan v76) h77))) (fun v78 h79 => R (.pan v78) h79))
theorem E_heaps_fibonacci_pop {p0_f : Value} {R : Res → H → Prop} {h : H} (H0 : B_heaps_fibonacci_pop p0_f R h) : T Tryz.prog F.heaps_fibonacci_pop [p0_f] h R :=
  T_intro A_heaps_fibonacci_pop Tryz.func132 (c := bodyOf Tryz.f132) (by kernel_rfl) (by kernel_rfl) (by kernel_rfl) (cast_of (by kernel_rfl) H0)

def A_heaps_fibonacci_push : An := ⟨lkA [(0, rng 10), (1, rng 3)], lkL [], lkC []⟩
def B_heaps_fibonacci_push (p0_f : Value) (p1_h : Int) (R : Res → H → Prop) (h : H) : Prop :=
  ptrP p0_f fun a1 =>
  ldV h (a1.add 2) fun x2 =>
  ixS x2 p1_h 6 fun a3 =>
  stN h a3 [.int .i64 (-1), .int .i64 (-1), .int .i64 p1_h, .int .i64 p1_h, .int .i64 0, .bool false] 6 fun h4 =>
  T Tryz.prog F.heaps_fibonacci_root [p0_f, .int .i64 p1_h] h4 (rt (fun v5 h6 =>
  v5 = .tuple ⟨[]⟩ ∧
  R (.ret (.tuple ⟨[]⟩)) h6) (fun v7 h8 => R (.pan v7) h8))
theorem E_heaps_fibonacci_push {p0_f : Value} {p1_h : Int} {R : Res → H → Prop} {h : H} (H0 : B_heaps_fibonacci_push p0_f p1_h R h) : T Tryz.prog F.heaps_fibonacci_push [p0_f, .int .i64 p1_h] h R :=
  T_intro A_heaps_fibonacci_push Tryz.func133 (c := bodyOf Tryz.f133) (by kernel_rfl) (by kernel_rfl) (by kernel_rfl) (cast_of (by kernel_rfl) H0)

def A_heaps_fibonacci_top : An := ⟨lkA [(0, rng 1), (1, rng 5)], lkL [], lkC []⟩
def B_heaps_fibonacci_top (p0_f : Value) (R : Res → H → Prop) (h : H) : Prop :=
  ptrP p0_f fun a1 =>
  ldI h (a1.add 1) .i64 fun x2 =>
  R (.ret (.int .i64 x2)) h
theorem E_heaps_fibonacci_top {p0_f : Value} {R : Res → H → Prop} {h : H} (H0 : B_heaps_fibonacci_top p0_f R h) : T Tryz.prog F.heaps_fibonacci_top [p0_f] h R :=
  T_intro A_heaps_fibonacci_top Tryz.func134 (c := bodyOf Tryz.f134) (by kernel_rfl) (by kernel_rfl) (by kernel_rfl) (cast_of (by kernel_rfl) H0)

def A_heaps_fibonacci_cut : An := ⟨lkA [(0, rng 9), (1, rng 2), (2, rng 9), (3, rng 7), (4, rng 8), (5, rng 6), (6, rng 4), (7, rng 7), (8, rng 12), (9, rng 3), (10, rng 3), (11, rng 5), (12, rng 9), (13, rng 2)], lkL [(1, [(1, .int .i64), (4, .int .i64)])], lkC [(2, [(1, .int .i64)]), (9, [])]⟩
def B_heaps_fibonacci_cut (p0_f : Value) (p1_h : Int) (R : Res → H → Prop) (h : H) : Prop :=
  ptrP p0_f fun a1 =>
  ldV h (a1.add 2) fun x2 =>
  ixS x2 p1_h 6 fun a3 =>
  ldI h (a3.add 0) .i64 fun x4 =>
  ∃ (I5 : (Int × Int × Unit) → H → Prop) (r6 : (Int × Int × Unit) × H → (Int × Int × Unit) × H → Prop), WellFounded r6 ∧ I5 (p1_h, x4, ()) h ∧
  ∀ (h_8 : Int) (p_9 : Int) (h7 : H), I5 (h_8, p_9, ()) h7 →
  ifP (decide (0 ≤ p_9)) (∃ J10 : (Int × Unit) → H → Prop, (ptrP p0_f fun a13 =>
  ldV h7 (a13.add 2) fun x14 =>
  ixS x14 p_9 6 fun a15 =>
  ldI h7 (a15.add 4) .i64 fun x16 =>
  stC h7 (a15.add 4) (.int .i64 (IntKind.i64.wrap (x16 - 1))) fun h17 =>
  ∃ J18 : (Unit) → H → Prop, (ldI h17 (a15.add 4) .i64 fun x20 =>
  ifP (decide (x20 = 0)) (stC h17 (a15.add 1) (.int .i64 (-1)) fun h21 =>
  J18 (()) h21)
  (ldI h17 (a15.add 1) .i64 fun x22 =>
  ifP (decide (x22 = h_8)) (ptrP p0_f fun a23 =>
  ldV h17 (a23.add 2) fun x24 =>
  ixS x24 h_8 6 fun a25 =>
  ldI h17 (a25.add 3) .i64 fun x26 =>
  stC h17 (a15.add 1) (.int .i64 x26) fun h27 =>
  J18 (()) h27)
  (J18 (()) h17))) ∧
  (∀  (h19 : H), J18 (()) h19 →
  T Tryz.prog F.heaps_fibonacci_leave [p0_f, .int .i64 h_8] h19 (rt (fun v28 h29 =>
  v28 = .tuple ⟨[]⟩ ∧
  T Tryz.prog F.heaps_fibonacci_root [p0_f, .int .i64 h_8] h29 (rt (fun v30 h31 =>
  v30 = .tuple ⟨[]⟩ ∧
  ldB h31 (a15.add 5) fun x32 =>
  ifP (!x32) (ldI h31 (a15.add 0) .i64 fun x33 =>
  stC h31 (a15.add 5) (.bool (decide (0 ≤ x33))) fun h34 =>
  R (.ret (.tuple ⟨[]⟩)) h34)
  (J10 (p_9, ()) h31)) (fun v35 h36 => R (.pan v35) h36))) (fun v37 h38 => R (.pan v37) h38)))) ∧
  (∀ (h_12 : Int) (h11 : H), J10 (h_12, ()) h11 →
  ptrP p0_f fun a39 =>
  ldV h11 (a39.add 2) fun x40 =>
  ixS x40 h_12 6 fun a41 =>
  ldI h11 (a41.add 0) .i64 fun x42 =>
  I5 (h_12, x42, ()) h11 ∧ r6 ((h_12, x42, ()), h11) ((h_8, p_9, ()), h7)))
  (R (.ret (.tuple ⟨[]⟩)) h7)
theorem E_heaps_fibonacci_cut {p0_f : Value} {p1_h : Int} {R : Res → H → Prop} {h : H} (H0 : B_heaps_fibonacci_cut p0_f p1_h R h) : T Tryz.prog F.heaps_fibonacci_cut [p0_f, .int .i64 p1_h] h R :=
  T_intro A_heaps_fibonacci_cut Tryz.func135 (c := bodyOf Tryz.f135) (by kernel_rfl) (by kernel_rfl) (by kernel_rfl) (cast_of (by kernel_rfl) H0)

def A_heaps_fibonacci_ring : An := ⟨lkA [(0, rng 1), (1, rng 2), (2, rng 1), (3, rng 3), (4, rng 9), (5, rng 3), (6, rng 9), (7, rng 5), (8, rng 2)], lkL [(5, [(5, .val), (6, .int .i64)])], lkC []⟩
def B_heaps_fibonacci_ring (p0_f : Value) (p1_h : Int) (R : Res → H → Prop) (h : H) : Prop :=
  ifP (decide (p1_h < 0)) (R (.ret (.slice none 0 0)) h)
  (newP h (.cells ⟨[.int .i64 p1_h]⟩ 3 (0, 0)) fun b1 h2 =>
  ptrP p0_f fun a3 =>
  ldV h2 (a3.add 2) fun x4 =>
  ixS x4 p1_h 6 fun a5 =>
  ldI h2 (a5.add 3) .i64 fun x6 =>
  ∃ (I7 : (Value × Int × Unit) → H → Prop) (r8 : (Value × Int × Unit) × H → (Value × Int × Unit) × H → Prop), WellFounded r8 ∧ I7 ((.slice (some (bk b1)) 1 1 : Value), x6, ()) h2 ∧
  ∀ (out_10 : Value) (n_11 : Int) (h9 : H), I7 (out_10, n_11, ()) h9 →
  ifP (!decide (n_11 = p1_h)) (newP h9 (.cells ⟨[.int .i64 n_11]⟩ 3 (0, 0)) fun b12 h13 =>
  apP out_10 (.slice (some (bk b12)) 1 1) h13 1 3 8 [.int .i64 0] fun s14 h15 =>
  ptrP p0_f fun a16 =>
  ldV h15 (a16.add 2) fun x17 =>
  ixS x17 n_11 6 fun a18 =>
  ldI h15 (a18.add 3) .i64 fun x19 =>
  I7 (s14, x19, ()) h15 ∧ r8 ((s14, x19, ()), h15) ((out_10, n_11, ()), h9))
  (R (.ret out_10) h9))
theorem E_heaps_fibonacci_ring {p0_f : Value} {p1_h : Int} {R : Res → H → Prop} {h : H} (H0 : B_heaps_fibonacci_ring p0_f p1_h R h) : T Tryz.prog F.heaps_fibonacci_ring [p0_f, .int .i64 p1_h] h R :=
  T_intro A_heaps_fibonacci_ring Tryz.func136 (c := bodyOf Tryz.f136) (by kernel_rfl) (by kernel_rfl) (by kernel_rfl) (cast_of (by kernel_rfl) H0)

def A_heaps_fibonacci_under : An := ⟨lkA [(0, rng 1), (1, rng 7), (2, rng 4), (3, rng 9), (4, rng 9), (5, rng 2), (6, rng 4), (7, rng 9), (8, rng 12), (9, rng 2)], lkL [], lkC [(3, [(1, .int .i64), (2, .int .i64)]), (8, [])]⟩
def B_heaps_fibonacci_under (p0_f : Value) (p1_a : Int) (p2_b : Int) (R : Res → H → Prop) (h : H) : Prop :=
  ∃ J1 : (Int × Int × Unit) → H → Prop, (ptrP p0_f fun a5 =>
  ldV h (a5.add 0) fun x6 =>
  T Tryz.prog F.heaps_keyed_ahead [x6, .int .i64 p2_b, .int .i64 p1_a] h (rt (fun v7 h8 =>
  ∃ r9, v7 = .bool r9 ∧
  ifP r9 (J1 (p2_b, p1_a, ()) h8)
  (J1 (p1_a, p2_b, ()) h8)) (fun v10 h11 => R (.pan v10) h11))) ∧
  (∀ (a_3 : Int) (b_4 : Int) (h2 : H), J1 (a_3, b_4, ()) h2 →
  ptrP p0_f fun a12 =>
  ldV h2 (a12.add 2) fun x13 =>
  ixS x13 b_4 6 fun a14 =>
  stC h2 (a14.add 0) (.int .i64 a_3) fun h15 =>
  ∃ J16 : (Unit) → H → Prop, (ptrP p0_f fun a18 =>
  ldV h15 (a18.add 2) fun x19 =>
  ixS x19 a_3 6 fun a20 =>
  ldI h15 (a20.add 1) .i64 fun x21 =>
  ifP (decide (0 ≤ x21)) (T Tryz.prog F.heaps_fibonacci_join [p0_f, .int .i64 b_4, .int .i64 x21] h15 (rt (fun v22 h23 =>
  v22 = .tuple ⟨[]⟩ ∧
  J16 (()) h23) (fun v24 h25 => R (.pan v24) h25)))
  (ptrP p0_f fun a26 =>
  ldV h15 (a26.add 2) fun x27 =>
  ixS x27 a_3 6 fun a28 =>
  stC h15 (a28.add 1) (.int .i64 b_4) fun h29 =>
  J16 (()) h29)) ∧
  (∀  (h17 : H), J16 (()) h17 →
  ptrP p0_f fun a30 =>
  ldV h17 (a30.add 2) fun x31 =>
  ixS x31 a_3 6 fun a32 =>
  ldI h17 (a32.add 4) .i64 fun x33 =>
  ixS x31 a_3 6 fun a34 =>
  stC h17 (a34.add 4) (.int .i64 (IntKind.i64.wrap (x33 + 1))) fun h35 =>
  R (.ret (.int .i64 a_3)) h35))
theorem E_heaps_fibonacci_under {p0_f : Value} {p1_a : Int} {p2_b : Int} {R : Res → H → Prop} {h : H} (H0 : B_heaps_fibonacci_under p0_f p1_a p2_b R h) : T Tryz.prog F.heaps_fibonacci_under [p0_f, .int .i64 p1_a, .int .i64 p2_b] h R :=
  T_intro A_heaps_fibonacci_under Tryz.func137 (c := bodyOf Tryz.f137) (by kernel_rfl) (by kernel_rfl) (by kernel_rfl) (cast_of (by kernel_rfl) H0)

def A_heaps_fibonacci_root : An := ⟨lkA [(0, ⟨[0, 1, 2, 4, 5, 6, 7, 9, 3, 8, 10, 11, 12, 13, 14, 15], lkN []⟩), (1, rng 5), (2, rng 5), (3, rng 7), (4, ⟨[0, 1, 2, 4, 5, 6, 7, 3, 8, 9], lkN []⟩), (5, rng 5)], lkL [], lkC []⟩
def B_heaps_fibonacci_root (p0_f : Value) (p1_h : Int) (R : Res → H → Prop) (h : H) : Prop :=
  ptrP p0_f fun a1 =>
  ptrP p0_f fun a2 =>
  ldV h (a1.add 2) fun x3 =>
  ldV h (a2.add 2) fun x4 =>
  ixS x3 p1_h 6 fun a5 =>
  stC h (a5.add 0) (.int .i64 (-1)) fun h6 =>
  ixS x4 p1_h 6 fun a7 =>
  stC h6 (a7.add 5) (.bool false) fun h8 =>
  ptrP p0_f fun a9 =>
  ldI h8 (a9.add 1) .i64 fun x10 =>
  ifP (decide (x10 < 0)) (ptrP p0_f fun a11 =>
  stC h8 (a11.add 1) (.int .i64 p1_h) fun h12 =>
  R (.ret (.tuple ⟨[]⟩)) h12)
  (ptrP p0_f fun a13 =>
  ldI h8 (a13.add 1) .i64 fun x14 =>
  T Tryz.prog F.heaps_fibonacci_join [p0_f, .int .i64 p1_h, .int .i64 x14] h8 (rt (fun v15 h16 =>
  v15 = .tuple ⟨[]⟩ ∧
  ptrP p0_f fun a17 =>
  ptrP p0_f fun a18 =>
  ldV h16 (a17.add 0) fun x19 =>
  ldI h16 (a18.add 1) .i64 fun x20 =>
  T Tryz.prog F.heaps_keyed_ahead [x19, .int .i64 p1_h, .int .i64 x20] h16 (rt (fun v21 h22 =>
  ∃ r23, v21 = .bool r23 ∧
  ifP r23 (ptrP p0_f fun a24 =>
  stC h22 (a24.add 1) (.int .i64 p1_h) fun h25 =>
  R (.ret (.tuple ⟨[]⟩)) h25)
  (R (.ret (.tuple ⟨[]⟩)) h22)) (fun v26 h27 => R (.pan v26) h27))) (fun v28 h29 => R (.pan v28) h29)))
theorem E_heaps_fibonacci_root {p0_f : Value} {p1_h : Int} {R : Res → H → Prop} {h : H} (H0 : B_heaps_fibonacci_root p0_f p1_h R h) : T Tryz.prog F.heaps_fibonacci_root [p0_f, .int .i64 p1_h] h R :=
  T_intro A_heaps_fibonacci_root Tryz.func138 (c := bodyOf Tryz.f138) (by kernel_rfl) (by kernel_rfl) (by kernel_rfl) (cast_of (by kernel_rfl) H0)

def A_heaps_fibonacci_leave : An := ⟨lkA [(0, ⟨[0, 1, 2, 4, 8, 9, 10, 12, 3, 5, 6, 7, 16, 11, 13, 14, 15, 17], lkN []⟩), (1, ⟨[0, 1, 2, 4, 5, 6, 7, 9, 10, 11, 3, 8, 12, 13, 14, 15, 16, 17], lkN []⟩), (2, ⟨[0, 1, 2, 4, 5, 6, 7, 9, 10, 11, 3, 8, 12, 13, 14, 15, 16, 17], lkN []⟩)], lkL [], lkC []⟩
def B_heaps_fibonacci_leave (p0_f : Value) (p1_h : Int) (R : Res → H → Prop) (h : H) : Prop :=
  ptrP p0_f fun a1 =>
  ptrP p0_f fun a2 =>
  ldV h (a1.add 2) fun x3 =>
  ixS x3 p1_h 6 fun a4 =>
  ldI h (a4.add 2) .i64 fun x5 =>
  ldV h (a2.add 2) fun x6 =>
  ixS x6 p1_h 6 fun a7 =>
  ldI h (a7.add 3) .i64 fun x8 =>
  ptrP p0_f fun a9 =>
  ptrP p0_f fun a10 =>
  ldV h (a9.add 2) fun x11 =>
  ldV h (a10.add 2) fun x12 =>
  ixS x11 x5 6 fun a13 =>
  stC h (a13.add 3) (.int .i64 x8) fun h14 =>
  ixS x12 x8 6 fun a15 =>
  stC h14 (a15.add 2) (.int .i64 x5) fun h16 =>
  ptrP p0_f fun a17 =>
  ptrP p0_f fun a18 =>
  ldV h16 (a17.add 2) fun x19 =>
  ldV h16 (a18.add 2) fun x20 =>
  ixS x19 p1_h 6 fun a21 =>
  stC h16 (a21.add 2) (.int .i64 p1_h) fun h22 =>
  ixS x20 p1_h 6 fun a23 =>
  stC h22 (a23.add 3) (.int .i64 p1_h) fun h24 =>
  R (.ret (.tuple ⟨[]⟩)) h24
theorem E_heaps_fibonacci_leave {p0_f : Value} {p1_h : Int} {R : Res → H → Prop} {h : H} (H0 : B_heaps_fibonacci_leave p0_f p1_h R h) : T Tryz.prog F.heaps_fibonacci_leave [p0_f, .int .i64 p1_h] h R :=
  T_intro A_heaps_fibonacci_leave Tryz.func139 (c := bodyOf Tryz.f139) (by kernel_rfl) (by kernel_rfl) (by kernel_rfl) (cast_of (by kernel_rfl) H0)

def A_heaps_fibonacci_join : An := ⟨lkA [(0, rng 9), (1, ⟨[0, 1, 2, 4, 5, 6, 7, 9, 10, 11, 3, 8, 12, 13, 14, 15, 16, 17], lkN []⟩), (2, ⟨[0, 1, 2, 4, 5, 6, 7, 9, 10, 11, 3, 8, 12, 13, 14, 15, 16, 17], lkN []⟩)], lkL [], lkC []⟩
def B_heaps_fibonacci_join (p0_f : Value) (p1_h : Int) (p2_at : Int) (R : Res → H → Prop) (h : H) : Prop :=
  ptrP p0_f fun a1 =>
  ldV h (a1.add 2) fun x2 =>
  ixS x2 p2_at 6 fun a3 =>
  ldI h (a3.add 3) .i64 fun x4 =>
  ptrP p0_f fun a5 =>
  ptrP p0_f fun a6 =>
  ldV h (a5.add 2) fun x7 =>
  ldV h (a6.add 2) fun x8 =>
  ixS x7 p1_h 6 fun a9 =>
  stC h (a9.add 2) (.int .i64 p2_at) fun h10 =>
  ixS x8 p1_h 6 fun a11 =>
  stC h10 (a11.add 3) (.int .i64 x4) fun h12 =>
  ptrP p0_f fun a13 =>
  ptrP p0_f fun a14 =>
  ldV h12 (a13.add 2) fun x15 =>
  ldV h12 (a14.add 2) fun x16 =>
  ixS x15 p2_at 6 fun a17 =>
  stC h12 (a17.add 3) (.int .i64 p1_h) fun h18 =>
  ixS x16 x4 6 fun a19 =>
  stC h18 (a19.add 2) (.int .i64 p1_h) fun h20 =>
  R (.ret (.tuple ⟨[]⟩)) h20
theorem E_heaps_fibonacci_join {p0_f : Value} {p1_h : Int} {p2_at : Int} {R : Res → H → Prop} {h : H} (H0 : B_heaps_fibonacci_join p0_f p1_h p2_at R h) : T Tryz.prog F.heaps_fibonacci_join [p0_f, .int .i64 p1_h, .int .i64 p2_at] h R :=
  T_intro A_heaps_fibonacci_join Tryz.func140 (c := bodyOf Tryz.f140) (by kernel_rfl) (by kernel_rfl) (by kernel_rfl) (cast_of (by kernel_rfl) H0)

end Go.Proofs.YtdcamadeblojdaaGreat

namespace Go.Proofs.YtdcamadeblojdaaGreat
open Go
set_option linter.unusedVariables false

theorem bk_add (b i : Nat) : (bk b).add i = ⟨b, i, none⟩ := by
  unfold Addr.add
  split
  · rename_i h; subst h; rfl
  · simp
theorem bk_add2 (b i j : Nat) : Addr.add ⟨b, i, none⟩ j = ⟨b, i + j, none⟩ := by
  unfold Addr.add
  split
  · rename_i h; subst h; rfl
  · rfl

theorem ifP_of {b : Bool} {A B : Prop} (h1 : b = true → A) (h2 : b = false → B) : ifP b A B := by
  cases b
  · exact h2 rfl
  · exact h1 rfl

theorem least {P : Nat → Prop} (h : ∃ k, P k) : ∃ m, P m ∧ ∀ j, P j → m ≤ j := by
  obtain ⟨k, hk⟩ := h
  induction k using Nat.strongRecOn with
  | _ k ih =>
    by_cases e : ∃ j, j < k ∧ P j
    · obtain ⟨j, lt, hj⟩ := e
      exact ih j lt hj
    · exact ⟨k, hk, fun j hj => Nat.le_of_not_lt fun lt => e ⟨j, lt, hj⟩⟩
open Classical in
noncomputable def mu {σ : Type} (I : σ → H → Nat → Prop) (x : σ × H) : Nat :=
  if h : ∃ k, I x.1 x.2 k then Classical.choose (least h) else 0
def rk {σ : Type} (I : σ → H → Nat → Prop) (x y : σ × H) : Prop := mu I x < mu I y
theorem rk_wf {σ : Type} (I : σ → H → Nat → Prop) : WellFounded (rk I) := (measure (mu I)).wf
theorem mu_spec {σ : Type} {I : σ → H → Nat → Prop} {s : σ} {h : H} (k : ∃ k, I s h k) : I s h (mu I (s, h)) := by
  unfold mu
  rw [dif_pos k]
  exact (Classical.choose_spec (least k)).1
theorem mu_le {σ : Type} {I : σ → H → Nat → Prop} {s : σ} {h : H} {k : Nat} (i : I s h k) : mu I (s, h) ≤ k := by
  have e : ∃ k, I s h k := ⟨k, i⟩
  unfold mu
  rw [dif_pos e]
  exact (Classical.choose_spec (least e)).2 k i
theorem mu_next {σ : Type} {I : σ → H → Nat → Prop} {s s' : σ} {h h' : H} {k : Nat} (i : I s' h' k) (lt : k < mu I (s, h)) :
    (∃ k, I s' h' k) ∧ rk I (s', h') (s, h) := ⟨⟨k, i⟩, Nat.lt_of_le_of_lt (mu_le i) lt⟩

def ints (n : Nat) (f : Nat → Int) : List Value := (List.range n).map fun i => .int .i64 (f i)
theorem ints_length (n : Nat) (f : Nat → Int) : (ints n f).length = n := by simp [ints]
theorem ints_get {n : Nat} {f : Nat → Int} {i : Nat} (h : i < n) : (ints n f)[i]? = some (.int .i64 (f i)) := by
  simp [ints, List.getElem?_map, List.getElem?_range h]
theorem ints_ext {n : Nat} {f g : Nat → Int} (h : ∀ i, i < n → f i = g i) : ints n f = ints n g := by
  unfold ints
  apply List.map_congr_left
  intro i hi
  rw [h i (List.mem_range.1 hi)]
def upd (f : Nat → Int) (i : Nat) (x : Int) : Nat → Int := fun j => if j = i then x else f j
theorem ints_set {n : Nat} {f : Nat → Int} {i : Nat} {x : Int} : (ints n f).set i (.int .i64 x) = ints n (upd f i x) := by
  apply List.ext_getElem
  · simp [ints]
  · intro j h1 h2
    simp only [ints, List.getElem_set, List.getElem_map, List.getElem_range, upd]
    by_cases e : i = j
    · subst e; simp
    · rw [if_neg e, if_neg (fun h => e h.symm)]

def recs (n k : Nat) (st : Nat → Nat → Int) : List Value := ints (n * k) fun i => st (i / k) (i % k)
def upd2 (st : Nat → Nat → Int) (v j : Nat) (x : Int) : Nat → Nat → Int := fun w i => if w = v ∧ i = j then x else st w i
theorem recs_length (n k : Nat) (st : Nat → Nat → Int) : (recs n k st).length = n * k := ints_length _ _
theorem at_lt {n k v j : Nat} (hv : v < n) (hj : j < k) : v * k + j < n * k := by
  calc v * k + j < v * k + k := by omega
    _ = (v + 1) * k := by rw [Nat.add_mul]; omega
    _ ≤ n * k := Nat.mul_le_mul_right _ hv
theorem at_div {k v j : Nat} (hj : j < k) : (v * k + j) / k = v := by
  rw [Nat.mul_comm, Nat.mul_add_div (by omega), Nat.div_eq_of_lt hj]; omega
theorem at_mod {k v j : Nat} (hj : j < k) : (v * k + j) % k = j := by
  rw [Nat.mul_comm, Nat.mul_add_mod, Nat.mod_eq_of_lt hj]
theorem recs_get {n k : Nat} {st : Nat → Nat → Int} {v j : Nat} (hv : v < n) (hj : j < k) : (recs n k st)[v * k + j]? = some (.int .i64 (st v j)) := by
  unfold recs
  rw [ints_get (at_lt hv hj), at_div hj, at_mod hj]
theorem recs_set {n k : Nat} {st : Nat → Nat → Int} {v j : Nat} {x : Int} (hv : v < n) (hj : j < k) :
    (recs n k st).set (v * k + j) (.int .i64 x) = recs n k (upd2 st v j x) := by
  unfold recs
  rw [ints_set]
  apply ints_ext
  intro i hi
  unfold upd upd2
  by_cases e : i = v * k + j
  · subst e; rw [if_pos rfl, at_div hj, at_mod hj, if_pos ⟨rfl, rfl⟩]
  · rw [if_neg e, if_neg]
    rintro ⟨rfl, rfl⟩
    apply e
    rw [Nat.mul_comm]; exact (Nat.div_add_mod i k).symm

/-- The heap h0 with an array of records at b. -/
def fp (h0 : H) (b e n k : Nat) (st : Nat → Nat → Int) : H := hput h0 b (.cells ⟨recs n k st⟩ e (0, 0))

theorem hcell_at {h : H} {b i : Nat} {c : Array Value} {e : TypeId} {f : Nat × Nat} (hb : h b = some (.cells c e f)) : hcell h ⟨b, i, none⟩ = c[i]? := by
  unfold hcell
  simp [hb]
theorem fp_at (h0 : H) (b e n k : Nat) (st : Nat → Nat → Int) : fp h0 b e n k st b = some (.cells ⟨recs n k st⟩ e (0, 0)) := by simp [fp, hput]
theorem fp_ne {h0 : H} {b e n k : Nat} {st : Nat → Nat → Int} {b' : Nat} (hb : b' ≠ b) : fp h0 b e n k st b' = h0 b' := by simp [fp, hput, hb]
theorem fp_ld {h0 : H} {b e n k : Nat} {st : Nat → Nat → Int} {v j : Nat} (hv : v < n) (hj : j < k) :
    hcell (fp h0 b e n k st) (((bk b).add (v * k)).add j) = some (.int .i64 (st v j)) := by
  rw [bk_add, bk_add2, hcell_at (fp_at ..)]
  simp only [List.getElem?_toArray]
  exact recs_get hv hj
theorem fp_wr {h0 : H} {b e n k : Nat} {st : Nat → Nat → Int} {v j : Nat} (hv : v < n) (hj : j < k) :
    hwr (fp h0 b e n k st) (((bk b).add (v * k)).add j) 1 := by
  rw [bk_add, bk_add2]
  refine ⟨_, _, fp_at .., rfl, ?_⟩
  have := at_lt hv hj
  simp only [List.size_toArray, recs_length]
  omega
theorem fp_set {h0 : H} {b e n k : Nat} {st : Nat → Nat → Int} {v j : Nat} {x : Int} (hv : v < n) (hj : j < k) :
    hset (fp h0 b e n k st) (((bk b).add (v * k)).add j) [.int .i64 x] = fp h0 b e n k (upd2 st v j x) := by
  rw [bk_add, bk_add2]
  funext b'
  unfold hset
  by_cases hb : b' = b
  · subst hb
    rw [if_pos rfl, fp_at, fp_at]
    simp only [Option.map_some, setR]
    rw [List.setIfInBounds_toArray, recs_set hv hj]
  · rw [if_neg hb, fp_ne hb, fp_ne hb]
theorem fp_fp {h0 : H} {b e n k : Nat} {st st' : Nat → Nat → Int} : fp (fp h0 b e n k st) b e n k st' = fp h0 b e n k st' := by
  funext b'
  by_cases hb : b' = b
  · subst hb; rw [fp_at, fp_at]
  · rw [fp_ne hb, fp_ne hb, fp_ne hb]

theorem setR_list : ∀ (vs l : List Value) (o : Nat), o + vs.length ≤ l.length → setR ⟨l⟩ o vs = ⟨l.take o ++ vs ++ l.drop (o + vs.length)⟩ := by
  intro vs
  induction vs with
  | nil => intro l o _; simp [setR]
  | cons v vs ih =>
    intro l o h
    simp only [List.length_cons] at h ⊢
    show setR (Array.setIfInBounds ⟨l⟩ o v) (o + 1) vs = _
    rw [List.setIfInBounds_toArray, ih (l.set o v) (o + 1) (by rw [List.length_set]; omega)]
    congr 1
    have e1 : (l.set o v).take (o + 1) = l.take o ++ [v] := by
      rw [List.take_add_one, List.take_set_of_le (Nat.le_refl o)]
      simp [List.getElem?_set]
      omega
    have e2 : (l.set o v).drop (o + 1 + vs.length) = l.drop (o + (vs.length + 1)) := by
      rw [List.drop_set_of_lt (by omega)]
      congr 1; omega
    rw [e1, e2]
    simp
theorem hset_put {h : H} {b e : Nat} {zs vs : List Value} (hl : vs.length = zs.length) :
    hset (hput h b (.cells ⟨zs⟩ e (0, 0))) (bk b) vs = hput h b (.cells ⟨vs⟩ e (0, 0)) := by
  funext k
  unfold hset hput
  by_cases hk : k = b
  · subst hk
    simp only [if_true, Option.map_some]
    rw [setR_list vs zs 0 (by omega)]
    simp [hl]
  · simp [hk]
theorem put_ld {h : H} {b e i : Nat} {vs : List Value} {v : Value} (hi : vs[i]? = some v) : hcell (hput h b (.cells ⟨vs⟩ e (0, 0))) ((bk b).add i) = some v := by
  rw [bk_add, hcell_at (c := ⟨vs⟩) (e := e) (f := (0, 0)) (by simp [hput]), List.getElem?_toArray]
  exact hi
theorem put_wr {h : H} {b e n i : Nat} {vs : List Value} (hn : i + n ≤ vs.length) : hwr (hput h b (.cells ⟨vs⟩ e (0, 0))) ((bk b).add i) n := by
  rw [bk_add]
  exact ⟨⟨vs⟩, e, by simp [hput], rfl, by simpa using hn⟩

end Go.Proofs.YtdcamadeblojdaaGreat

namespace Go.Proofs.YtdcamadeblojdaaGreat
open Go
set_option linter.unusedVariables false

abbrev St := Nat → Nat → Int
abbrev w64 (x : Int) : Int := IntKind.i64.wrap x

/-- At bf lies the head of the slice of n nodes at bn. -/
def Hd (h : H) (bf bn n : Nat) : Prop := bf ≠ bn ∧ ∃ ef, h bf = some (.cells ⟨[.slice (some (bk bn)) n n]⟩ ef (0, 0))
abbrev fo (bf : Nat) : Value := .pointer (some (bk bf))
abbrev vi (v : Nat) : Value := .int .i64 (v : Int)
abbrev unit0 : Value := .tuple ⟨[]⟩

theorem Hd.fp {h0 : H} {bf bn n e k : Nat} {st : St} (hd : Hd h0 bf bn n) : Hd (fp h0 bn e n k st) bf bn n := by
  obtain ⟨ne, ef, h⟩ := hd
  exact ⟨ne, ef, by rw [fp_ne ne]; exact h⟩
theorem Hd.ld {h : H} {bf bn n : Nat} (hd : Hd h bf bn n) : hcell h ((bk bf).add 0) = some (.slice (some (bk bn)) n n) := by
  obtain ⟨ne, ef, h⟩ := hd
  rw [bk_add, hcell_at h]
  rfl
theorem nx {bn n v sz c : Nat} {K : Addr → Prop} (hv : v < n) (k : K ((bk bn).add (v * sz))) : ixS (.slice (some (bk bn)) n c) (v : Int) sz K :=
  ⟨Int.natCast_nonneg _, by omega, by rw [Int.toNat_natCast]; exact k⟩
theorem nd {h : H} {bf bn n v sz : Nat} {K : Addr → Prop} (hd : Hd h bf bn n) (hv : v < n) (k : K ((bk bn).add (v * sz))) :
    ptrP (fo bf) fun a => ldV h (a.add 0) fun x => ixS x (v : Int) sz K :=
  ⟨_, hd.ld, nx hv k⟩
/-- A pointer to a node, or less than 0. -/
def Pt (n : Nat) (c : Int) : Prop := c < 0 ∨ ∃ w : Nat, c = w ∧ w < n

def raiseS (st : St) (c d : Int) : St := if 0 ≤ c then fun w j => if w = c.toNat ∧ (j = 3 ∨ j = 4 ∨ j = 5) then w64 (st w j + d) else st w j else st
def pushS (st : St) (v : Nat) : St :=
  let s1 := raiseS st (st v 0) (st v 5)
  let s2 := raiseS s1 (s1 v 1) (s1 v 5)
  upd2 s2 v 5 0

section
variable {bf bn n e : Nat} {h0 : H} {st : St}

theorem node_T {h : H} (hd : Hd h bf bn n) (v : Int) :
    T Tryz.prog F.links_Forest_node [fo bf, .int .i64 v] h fun r h' => r = .ret (.bool (decide (0 ≤ v ∧ v < (n : Int)))) ∧ h = h' := by
  refine E_links_Forest_node ?_
  unfold B_links_Forest_node
  by_cases hv : 0 ≤ v
  · rw [decide_eq_true hv]
    refine ⟨_, hd.ld, ?_⟩
    refine ⟨?_, rfl⟩
    simp [hv]
  · rw [decide_eq_false hv]
    refine ⟨?_, rfl⟩
    simp [hv]

theorem label_T {h : H} (x : Int) :
    T Tryz.prog F.links_label [.int .i64 x] h fun r h' => r = .ret (.bool (decide (-1048576 ≤ x ∧ x ≤ 1048576))) ∧ h = h' := by
  refine E_links_label ?_
  unfold B_links_label
  by_cases hv : (-1048576) ≤ x
  · rw [decide_eq_true hv]
    exact ⟨by simp [hv], rfl⟩
  · rw [decide_eq_false hv]
    exact ⟨by simp [hv], rfl⟩

theorem raise_T (hd : Hd h0 bf bn n) {c : Int} (hc : Pt n c) (x : Int) :
    T Tryz.prog F.links_Forest_raise [fo bf, .int .i64 c, .int .i64 x] (fp h0 bn e n 6 st) fun r h => r = .ret unit0 ∧ h = fp h0 bn e n 6 (raiseS st c x) := by
  refine E_links_Forest_raise ?_
  unfold B_links_Forest_raise
  rcases hc with hc | ⟨v, rfl, hv⟩
  · rw [decide_eq_false (by omega)]
    exact ⟨rfl, by unfold raiseS; rw [if_neg (by omega)]⟩
  · rw [decide_eq_true (Int.natCast_nonneg v)]
    refine nd hd.fp hv ?_
    refine ⟨_, fp_ld hv (by decide), fp_wr hv (by decide), ?_⟩
    rw [fp_set hv (by decide)]
    refine ⟨_, fp_ld hv (by decide), fp_wr hv (by decide), ?_⟩
    rw [fp_set hv (by decide)]
    refine ⟨_, fp_ld hv (by decide), fp_wr hv (by decide), ?_⟩
    rw [fp_set hv (by decide)]
    refine ⟨rfl, ?_⟩
    congr 1
    unfold raiseS
    rw [if_pos (Int.natCast_nonneg v), Int.toNat_natCast]
    funext w j
    unfold upd2
    by_cases e1 : w = v
    · subst e1
      by_cases e2 : j = 3
      · subst e2; simp [w64]
      · by_cases e3 : j = 4
        · subst e3; simp [w64]
        · by_cases e4 : j = 5
          · subst e4; simp [w64]
          · simp [e2, e3, e4]
    · simp [e1]

theorem raiseS_link {st : St} {c x : Int} {w j : Nat} (hj : j < 3) : raiseS st c x w j = st w j := by
  unfold raiseS
  split
  · show (if w = c.toNat ∧ (j = 3 ∨ j = 4 ∨ j = 5) then _ else _) = _
    rw [if_neg]; omega
  · rfl

theorem push_T (hd : Hd h0 bf bn n) {v : Nat} (hv : v < n) (hl : Pt n (st v 0)) (hr : Pt n (st v 1)) :
    T Tryz.prog F.links_Forest_push [fo bf, vi v] (fp h0 bn e n 6 st) fun r h => r = .ret unit0 ∧ h = fp h0 bn e n 6 (pushS st v) := by
  refine E_links_Forest_push ?_
  unfold B_links_Forest_push
  refine nd hd.fp hv ?_
  refine ⟨_, fp_ld hv (by decide), _, fp_ld hv (by decide), ?_⟩
  refine (raise_T hd hl _).mono ?_
  rintro _ _ ⟨rfl, rfl⟩
  refine ⟨rfl, ?_⟩
  refine ⟨_, fp_ld hv (by decide), _, fp_ld hv (by decide), ?_⟩
  refine (raise_T hd (by rw [raiseS_link (by decide)]; exact hr) _).mono ?_
  rintro _ _ ⟨rfl, rfl⟩
  refine ⟨rfl, fp_wr hv (by decide), ?_⟩
  rw [fp_set hv (by decide)]
  exact ⟨rfl, rfl⟩

def topS (st : St) (v : Nat) : Bool := decide (st v 2 < 0) || (decide (st (st v 2).toNat 0 ≠ v) && decide (st (st v 2).toNat 1 ≠ v))

theorem top_T (hd : Hd h0 bf bn n) {v : Nat} (hv : v < n) (hu : Pt n (st v 2)) :
    T Tryz.prog F.links_Forest_top [fo bf, vi v] (fp h0 bn e n 6 st) fun r h => r = .ret (.bool (topS st v)) ∧ h = fp h0 bn e n 6 st := by
  refine E_links_Forest_top ?_
  unfold B_links_Forest_top
  refine nd hd.fp hv ?_
  refine ⟨_, fp_ld hv (by decide), ?_⟩
  rcases hu with hc | ⟨u, hu, hun⟩
  · rw [decide_eq_true hc]
    refine ⟨?_, rfl⟩
    simp [topS, hc]
  · rw [hu, decide_eq_false (by omega)]
    refine nd hd.fp hun ?_
    refine ⟨_, fp_ld hun (by decide), ?_⟩
    dsimp only
    by_cases e : st u 0 = v
    · rw [decide_eq_true e]
      refine ⟨?_, rfl⟩
      have : ¬ (u : Int) < 0 := by omega
      simp [topS, hu, e, this]
    · rw [decide_eq_false e]
      refine nd hd.fp hun ?_
      refine ⟨_, fp_ld hun (by decide), ?_⟩
      refine ⟨?_, rfl⟩
      have : ¬ (u : Int) < 0 := by omega
      simp [topS, hu, e, this]

/-- The least of a node's value and of what its subtrees have. -/
def least3 (st : St) (v : Nat) : Int :=
  let a := st v 3
  let b := if 0 ≤ st v 0 then (if st (st v 0).toNat 4 < a then st (st v 0).toNat 4 else a) else a
  if 0 ≤ st v 1 then (if st (st v 1).toNat 4 < b then st (st v 1).toNat 4 else b) else b
def pullS (st : St) (v : Nat) : St := upd2 st v 4 (least3 st v)

/-- A child of v, or less than 0. -/
def Pc (n v : Nat) (c : Int) : Prop := c < 0 ∨ ∃ w : Nat, c = w ∧ w < n ∧ w ≠ v
def lstep (st : St) (c a : Int) : Int := if 0 ≤ c then (if st c.toNat 4 < a then st c.toNat 4 else a) else a
theorem least3_eq (st : St) (v : Nat) : least3 st v = lstep st (st v 1) (lstep st (st v 0) (st v 3)) := rfl

theorem pull_T (hd : Hd h0 bf bn n) {v : Nat} (hv : v < n) (hl : Pc n v (st v 0)) (hr : Pc n v (st v 1)) :
    T Tryz.prog F.links_Forest_pull [fo bf, vi v] (fp h0 bn e n 6 st) fun r h => r = .ret unit0 ∧ h = fp h0 bn e n 6 (pullS st v) := by
  refine E_links_Forest_pull ?_
  unfold B_links_Forest_pull
  refine nd hd.fp hv ?_
  refine ⟨_, fp_ld hv (by decide), fp_wr hv (by decide), ?_⟩
  rw [fp_set hv (by decide)]
  refine ⟨_, fp_ld hv (by decide), _, fp_ld hv (by decide), ?_⟩
  rw [show upd2 st v 4 (st v 3) v 0 = st v 0 by simp [upd2], show upd2 st v 4 (st v 3) v 1 = st v 1 by simp [upd2]]
  refine ⟨fun s h => (s.1 = 0 ∧ h = fp h0 bn e n 6 (upd2 st v 4 (st v 3))) ∨ (s.1 = 1 ∧ h = fp h0 bn e n 6 (upd2 st v 4 (lstep st (st v 0) (st v 3)))) ∨ (s.1 = 2 ∧ h = fp h0 bn e n 6 (pullS st v)),
    InvImage (· < ·) fun x => (2 - x.1.1).toNat, InvImage.wf _ Nat.lt_wfRel.wf, .inl ⟨rfl, rfl⟩, ?_⟩
  have key : ∀ c a, Pc n v c → ∀ K : H → Prop, K (fp h0 bn e n 6 (upd2 st v 4 (lstep st c a))) → ∀ K2 : Prop, (c < 0 → K2) →
      ifP (decide (0 ≤ c)) (ptrP (fo bf) fun a13 =>
        ldI (fp h0 bn e n 6 (upd2 st v 4 a)) (((bk bn).add (v * 6)).add 4) .i64 fun x14 =>
        ldV (fp h0 bn e n 6 (upd2 st v 4 a)) (a13.add 0) fun x15 =>
        ixS x15 c 6 fun a16 =>
        ldI (fp h0 bn e n 6 (upd2 st v 4 a)) (a16.add 4) .i64 fun x17 =>
        stC (fp h0 bn e n 6 (upd2 st v 4 a)) (((bk bn).add (v * 6)).add 4) (.int .i64 (if x17 < x14 then x17 else x14)) fun h18 => K h18) K2 := by
    intro c a hc K k K2 k2
    refine ifP_of (fun h => ?_) (fun h => k2 (by have := of_decide_eq_false h; omega))
    rcases hc with hc | ⟨w, rfl, hw, ne⟩
    · have := of_decide_eq_true h; omega
    · refine ⟨_, fp_ld hv (by decide), _, hd.fp.ld, ?_⟩
      refine nx hw ?_
      refine ⟨_, fp_ld hw (by decide), fp_wr hv (by decide), ?_⟩
      rw [fp_set hv (by decide)]
      have e2 : upd2 (upd2 st v 4 a) v 4 (if upd2 st v 4 a w 4 < upd2 st v 4 a v 4 then upd2 st v 4 a w 4 else upd2 st v 4 a v 4) = upd2 st v 4 (lstep st (w : Int) a) := by
        have e3 : upd2 st v 4 a w 4 = st w 4 := by unfold upd2; rw [if_neg (fun h => ne h.1)]
        have e4 : upd2 st v 4 a v 4 = a := by unfold upd2; rw [if_pos ⟨rfl, rfl⟩]
        rw [e3, e4]
        unfold lstep
        rw [if_pos (Int.natCast_nonneg w), Int.toNat_natCast]
        funext x j
        unfold upd2
        split <;> rfl
      rw [e2]
      exact k
  have nolow : ∀ c a, c < 0 → lstep st c a = a := by
    intro c a hc
    unfold lstep
    rw [if_neg (by omega)]
  rintro s h (⟨rfl, rfl⟩ | ⟨rfl, rfl⟩ | ⟨rfl, rfl⟩)
  · refine ⟨by decide, by decide, _, rfl, ?_⟩
    refine key _ _ hl _ ?_ _ ?_
    · exact ⟨.inr (.inl ⟨rfl, rfl⟩), by show (1 : Nat) < 2; decide⟩
    · intro hc
      exact ⟨.inr (.inl ⟨rfl, by rw [nolow _ _ hc]⟩), by show (1 : Nat) < 2; decide⟩
  · refine ⟨by decide, by decide, _, rfl, ?_⟩
    refine key _ _ hr _ ?_ _ ?_
    · exact ⟨.inr (.inr ⟨rfl, rfl⟩), by show (0 : Nat) < 1; decide⟩
    · intro hc
      exact ⟨.inr (.inr ⟨rfl, by unfold pullS; rw [least3_eq, nolow _ _ hc]⟩), by show (0 : Nat) < 1; decide⟩
  · exact ⟨rfl, rfl⟩

end
end Go.Proofs.YtdcamadeblojdaaGreat

namespace Go.Proofs.YtdcamadeblojdaaGreat
open Go
set_option linter.unusedVariables false

def rot1 (st : St) (v u : Nat) : St :=
  if topS st u then st else if st (st u 2).toNat 0 = u then upd2 st (st u 2).toNat 0 v else upd2 st (st u 2).toNat 1 v
def rot2 (st : St) (v u : Nat) : St := upd2 (upd2 st v 2 (st u 2)) u 2 v
def inner (st : St) (v u : Nat) : Int := if st u 0 = v then st v 1 else st v 0
def rot3 (st : St) (v u : Nat) : St :=
  if st u 0 = v then upd2 (upd2 st u 0 (st v 1)) v 1 u else upd2 (upd2 st u 1 (st v 0)) v 0 u
def rot4 (st : St) (c : Int) (u : Nat) : St := if 0 ≤ c then upd2 st c.toNat 2 u else st
def rotL (st : St) (v u : Nat) : St :=
  let s2 := rot2 (rot1 st v u) v u
  rot4 (rot3 s2 v u) (inner s2 v u) u
def rotateS (st : St) (v u : Nat) : St := pullS (pullS (rotL st v u) u) v

section
variable {bf bn n e : Nat} {h0 : H} {st : St}

theorem rotate_T (hd : Hd h0 bf bn n) {v u : Nat} (hv : v < n) (hun : u < n) (ne : v ≠ u) (hu : st v 2 = u) (hg : Pt n (st u 2))
    (hi : Pt n (inner (rot2 (rot1 st v u) v u) v u))
    (p1 : Pc n u (rotL st v u u 0)) (p2 : Pc n u (rotL st v u u 1)) (p3 : Pc n v (rotL st v u v 0)) (p4 : Pc n v (rotL st v u v 1)) :
    T Tryz.prog F.links_Forest_rotate [fo bf, vi v] (fp h0 bn e n 6 st) fun r h => r = .ret unit0 ∧ h = fp h0 bn e n 6 (rotateS st v u) := by
  refine E_links_Forest_rotate ?_
  unfold B_links_Forest_rotate
  refine nd hd.fp hv ?_
  refine ⟨_, fp_ld hv (by decide), ?_⟩
  rw [hu]
  refine ⟨_, hd.fp.ld, ?_⟩
  refine nx hv ?_
  refine ⟨_, hd.fp.ld, ?_⟩
  refine nx hun ?_
  refine ⟨fun _ h => h = fp h0 bn e n 6 (rot1 st v u), ?_, ?_⟩
  · refine (top_T hd hun hg).mono ?_
    rintro _ _ ⟨rfl, rfl⟩
    refine ⟨_, rfl, ?_⟩
    refine ifP_of (fun h => ?_) (fun h => ?_)
    · have h' : topS st u = false := by simpa using h
      rcases hg with hg | ⟨g, hg, hgn⟩
      · simp [topS, hg] at h'
      · refine ⟨_, hd.fp.ld, _, fp_ld hun (by decide), ?_⟩
        rw [hg]
        refine nx hgn ?_
        refine ⟨_, fp_ld hgn (by decide), ?_⟩
        have e1 : rot1 st v u = if st g 0 = u then upd2 st g 0 v else upd2 st g 1 v := by
          unfold rot1; rw [h', hg, Int.toNat_natCast]; rfl
        rw [e1]
        refine ifP_of (fun h2 => ?_) (fun h2 => ?_)
        · refine ⟨fp_wr hgn (by decide), ?_⟩
          rw [fp_set hgn (by decide), if_pos (of_decide_eq_true h2)]
        · refine ⟨fp_wr hgn (by decide), ?_⟩
          rw [fp_set hgn (by decide), if_neg (of_decide_eq_false h2)]
    · have h' : topS st u = true := by simpa using h
      show _ = _
      unfold rot1
      rw [h']; rfl
  · rintro _ rfl
    refine ⟨_, fp_ld hun (by decide), fp_wr hv (by decide), ?_⟩
    rw [fp_set hv (by decide)]
    refine ⟨fp_wr hun (by decide), ?_⟩
    rw [fp_set hun (by decide)]
    show ∃ J28 : (Int × Unit) → H → Prop, _
    have hs : upd2 (upd2 (rot1 st v u) v 2 (rot1 st v u u 2)) u 2 ((v : Nat) : Int) = rot2 (rot1 st v u) v u := rfl
    rw [hs]
    generalize hs2 : rot2 (rot1 st v u) v u = s2 at *
    refine ⟨fun x h => x.1 = inner s2 v u ∧ h = fp h0 bn e n 6 (rot3 s2 v u), ?_, ?_⟩
    · refine ⟨_, fp_ld hun (by decide), ?_⟩
      refine ifP_of (fun h2 => ?_) (fun h2 => ?_)
      · have h2 := of_decide_eq_true h2
        refine ⟨_, fp_ld hv (by decide), _, fp_ld hv (by decide), fp_wr hun (by decide), ?_⟩
        rw [fp_set hun (by decide)]
        refine ⟨fp_wr hv (by decide), ?_⟩
        rw [fp_set hv (by decide)]
        exact ⟨by unfold inner; rw [if_pos h2], by unfold rot3; rw [if_pos h2]⟩
      · have h2 := of_decide_eq_false h2
        refine ⟨_, fp_ld hv (by decide), _, fp_ld hv (by decide), fp_wr hun (by decide), ?_⟩
        rw [fp_set hun (by decide)]
        refine ⟨fp_wr hv (by decide), ?_⟩
        rw [fp_set hv (by decide)]
        exact ⟨by unfold inner; rw [if_neg h2], by unfold rot3; rw [if_neg h2]⟩
    · rintro c _ ⟨rfl, rfl⟩
      have e4 : rotL st v u = rot4 (rot3 s2 v u) (inner s2 v u) u := by unfold rotL; rw [hs2]
      have fin : ∀ s, s = rotL st v u → T Tryz.prog F.links_Forest_pull [fo bf, vi u] (fp h0 bn e n 6 s) (rt (fun v44 h45 =>
          v44 = .tuple ⟨[]⟩ ∧ T Tryz.prog F.links_Forest_pull [fo bf, vi v] h45 (rt (fun v46 h47 => v46 = .tuple ⟨[]⟩ ∧
            ((Res.ret (.tuple ⟨[]⟩) = Res.ret unit0) ∧ h47 = fp h0 bn e n 6 (rotateS st v u)))
            (fun v48 h49 => Res.pan v48 = Res.ret unit0 ∧ h49 = fp h0 bn e n 6 (rotateS st v u)))) (fun v48 h49 => Res.pan v48 = Res.ret unit0 ∧ h49 = fp h0 bn e n 6 (rotateS st v u))) := by
        rintro s rfl
        refine (pull_T hd hun p1 p2).mono ?_
        rintro _ _ ⟨rfl, rfl⟩
        refine ⟨rfl, ?_⟩
        have q : ∀ k, k < 3 → pullS (rotL st v u) u v k = rotL st v u v k := by
          intro k hk
          unfold pullS upd2
          rw [if_neg (fun h => ne h.1)]
        refine (pull_T hd hv (by rw [q _ (by decide)]; exact p3) (by rw [q _ (by decide)]; exact p4)).mono ?_
        rintro _ _ ⟨rfl, rfl⟩
        exact ⟨rfl, rfl, rfl⟩
      refine ifP_of (fun h2 => ?_) (fun h2 => ?_)
      · have h2 := of_decide_eq_true h2
        rcases hi with hi | ⟨w, hi, hw⟩
        · omega
        · rw [hi]
          refine nd hd.fp hw ?_
          refine ⟨fp_wr hw (by decide), ?_⟩
          rw [fp_set hw (by decide)]
          refine fin _ ?_
          rw [e4, hi]
          unfold rot4
          rw [if_pos (Int.natCast_nonneg w), Int.toNat_natCast]
      · have h2 := of_decide_eq_false h2
        refine fin _ ?_
        rw [e4]
        unfold rot4
        rw [if_neg h2]

end
end Go.Proofs.YtdcamadeblojdaaGreat

namespace Go.Proofs.YtdcamadeblojdaaGreat
open Go
set_option linter.unusedVariables false

def Chn (par : Nat → Int) : List Nat → Prop
  | a :: b :: l => par b = a ∧ Chn par (b :: l)
  | _ => True
theorem Chn.tail {par : Nat → Int} {a : Nat} {l : List Nat} (h : Chn par (a :: l)) : Chn par l := by
  cases l with
  | nil => trivial
  | cons b l => exact h.2
theorem Chn.append {par : Nat → Int} {l1 l2 : List Nat} : Chn par (l1 ++ l2) ↔ Chn par l1 ∧ Chn par l2 ∧ ∀ a b, l1.getLast? = some a → l2.head? = some b → par b = a := by
  induction l1 with
  | nil => simp [Chn]
  | cons x l ih =>
    cases l with
    | nil =>
      cases l2 with
      | nil => simp [Chn]
      | cons b l2 =>
        simp only [List.cons_append, List.nil_append, Chn]
        constructor
        · rintro ⟨h1, h2⟩
          exact ⟨trivial, h2, fun a c ha hc => by simp at ha hc; subst ha; subst hc; exact h1⟩
        · rintro ⟨_, h2, h3⟩
          exact ⟨h3 x b rfl rfl, h2⟩
    | cons y l =>
      simp only [List.cons_append, Chn] at ih ⊢
      rw [ih]
      simp only [List.getLast?_cons_cons]
      exact ⟨fun ⟨a, b, c, d⟩ => ⟨⟨a, b⟩, c, d⟩, fun ⟨⟨a, b⟩, c, d⟩ => ⟨a, b, c, d⟩⟩

def mn (tv : Nat → Int) : List Nat → Int
  | [] => 9223372036854775808
  | a :: l => min (tv a) (mn tv l)
theorem mn_append (tv : Nat → Int) (l1 l2 : List Nat) : mn tv (l1 ++ l2) = min (mn tv l1) (mn tv l2) ∨ (∃ a ∈ l1 ++ l2, 9223372036854775808 ≤ tv a) := by
  induction l1 with
  | nil =>
    by_cases h : ∃ a ∈ l2, 9223372036854775808 ≤ tv a
    · exact .inr h
    · left
      have : mn tv l2 ≤ 9223372036854775808 := by
        cases l2 with
        | nil => exact Int.le_refl _
        | cons b l =>
          have : tv b < 9223372036854775808 := by
            apply Int.lt_of_not_ge
            intro k; exact h ⟨b, List.mem_cons_self .., k⟩
          simp only [mn]; omega
      simp only [List.nil_append, mn]; omega
  | cons x l ih =>
    rcases ih with ih | ⟨a, ha, k⟩
    · left; simp only [List.cons_append, mn, ih]; omega
    · right; exact ⟨a, by rw [List.cons_append]; exact List.mem_cons_of_mem _ ha, k⟩

/-- The forest: each node's parent (or -1), and the value above it. -/
structure Fst (n : Nat) (par tv : Nat → Int) : Prop where
  pt : ∀ v, v < n → par v = -1 ∨ ∃ u : Nat, par v = u ∧ u < n
  acy : ∃ d : Nat → Nat, ∀ v u : Nat, v < n → par v = u → d u < d v
  rng : ∀ v, v < n → -9223372036854775808 ≤ tv v ∧ tv v < 9223372036854775808
  zero : ∀ v, v < n → par v = -1 → tv v = 0

def LL (L : Nat → List Nat) (c : Int) : List Nat := if 0 ≤ c then L c.toNat else []
theorem LL_nat (L : Nat → List Nat) (c : Nat) : LL L c = L c := by simp [LL]
theorem LL_neg {L : Nat → List Nat} {c : Int} (h : c < 0) : LL L c = [] := by unfold LL; rw [if_neg (by omega)]

/-- y is a child of u in a splay tree. -/
def Ch (st : St) (u y : Nat) : Prop := st u 0 = y ∨ st u 1 = y
def Top (st : St) (v : Nat) : Prop := ∀ u : Nat, st v 2 = u → ¬ Ch st u v
theorem topS_iff {st : St} {v : Nat} : topS st v = true ↔ Top st v := by
  unfold topS Top Ch
  by_cases h : st v 2 < 0
  · simp [h]
    intro u hu; omega
  · simp [h]
    constructor
    · intro ⟨h1, h2⟩ u hu
      rw [hu] at h1 h2
      exact ⟨h1, h2⟩
    · intro k
      exact k (st v 2).toNat (by omega)
theorem topS_false {st : St} {v : Nat} (h : topS st v = false) : ∃ u : Nat, st v 2 = u ∧ Ch st u v := by
  have : ¬ Top st v := fun t => by rw [topS_iff.2 t] at h; cases h
  unfold Top at this
  apply Classical.byContradiction
  intro k
  exact this fun u hu hc => k ⟨u, hu, hc⟩

structure Inv (n : Nat) (st : St) (L : Nat → List Nat) (par tv pd : Nat → Int) : Prop where
  ch : ∀ u y : Nat, u < n → Ch st u y → y < n ∧ st y 2 = u
  up : ∀ v, v < n → Pt n (st v 2)
  ino : ∀ v, v < n → L v = LL L (st v 0) ++ v :: LL L (st v 1)
  chn : ∀ v, v < n → Chn par (L v)
  hd : ∀ v, v < n → Top st v → ∃ a l, L v = a :: l ∧ par a = st v 2
  pdt : ∀ v, v < n → Top st v → pd v = 0
  pdc : ∀ u y : Nat, u < n → Ch st u y → w64 (pd y) = w64 (pd u + st u 5)
  val : ∀ v, v < n → st v 3 = w64 (tv v - pd v)
  lst : ∀ v, v < n → st v 4 = w64 (mn tv (L v) - pd v)

section
variable {n : Nat} {st : St} {L : Nat → List Nat} {par tv pd : Nat → Int}

theorem Inv.self (I : Inv n st L par tv pd) {v : Nat} (hv : v < n) : v ∈ L v := by
  rw [I.ino v hv]; simp
theorem Inv.sub (I : Inv n st L par tv pd) {u y x : Nat} (hu : u < n) (h : Ch st u y) (hx : x ∈ L y) : x ∈ L u := by
  rw [I.ino u hu]
  rcases h with h | h <;> rw [h, LL_nat] <;> simp [hx]
theorem Inv.len (I : Inv n st L par tv pd) {u y : Nat} (hu : u < n) (h : Ch st u y) : (L y).length < (L u).length := by
  rw [I.ino u hu]
  rcases h with h | h <;> rw [h, LL_nat] <;> simp <;> omega
theorem Inv.ind (I : Inv n st L par tv pd) {P : Nat → Prop} (h : ∀ v, v < n → (∀ c, Ch st v c → P c) → P v) : ∀ v, v < n → P v := by
  have : ∀ k v, v < n → (L v).length ≤ k → P v := by
    intro k
    induction k with
    | zero => intro v hv hk; exact absurd (I.self hv) (by rw [List.eq_nil_of_length_eq_zero (l := L v) (by omega)]; simp)
    | succ k ih =>
      intro v hv hk
      refine h v hv fun c hc => ih c (I.ch v c hv hc).1 ?_
      have := I.len hv hc
      omega
  exact fun v hv => this _ v hv (Nat.le_refl _)
theorem Inv.mem (I : Inv n st L par tv pd) {v x : Nat} (hv : v < n) : x ∈ L v ↔ x = v ∨ ∃ c, Ch st v c ∧ x ∈ L c := by
  constructor
  · intro h
    rw [I.ino v hv] at h
    simp only [List.mem_append, List.mem_cons] at h
    have key : ∀ c : Int, x ∈ LL L c → ∃ w : Nat, c = w ∧ x ∈ L w := by
      intro c hc
      by_cases h0 : 0 ≤ c
      · refine ⟨c.toNat, by omega, ?_⟩
        unfold LL at hc
        rwa [if_pos h0] at hc
      · rw [LL_neg (by omega)] at hc
        cases hc
    rcases h with h | h | h
    · obtain ⟨w, e, hw⟩ := key _ h
      exact .inr ⟨w, .inl e, hw⟩
    · exact .inl h
    · obtain ⟨w, e, hw⟩ := key _ h
      exact .inr ⟨w, .inr e, hw⟩
  · rintro (rfl | ⟨c, hc, hx⟩)
    · exact I.self hv
    · exact I.sub hv hc hx
theorem Inv.lt (I : Inv n st L par tv pd) : ∀ v, v < n → ∀ x ∈ L v, x < n := by
  refine I.ind fun v hv ih x hx => ?_
  rcases (I.mem hv).1 hx with rfl | ⟨c, hc, hx⟩
  · exact hv
  · exact ih c hc x hx
/-- Who stands above a node in its splay tree. -/
theorem Inv.anc (I : Inv n st L par tv pd) : ∀ w, w < n → ∀ y ∈ L w, y = w ∨ ∃ u : Nat, st y 2 = u ∧ u < n ∧ Ch st u y ∧ u ∈ L w := by
  refine I.ind fun w hw ih y hy => ?_
  rcases (I.mem hw).1 hy with rfl | ⟨c, hc, hx⟩
  · exact .inl rfl
  · right
    rcases ih c hc y hx with rfl | ⟨u, hu, hun, hcu, huc⟩
    · exact ⟨w, (I.ch w y hw hc).2, hw, hc, I.self hw⟩
    · exact ⟨u, hu, hun, hcu, I.sub hw hc huc⟩
theorem Inv.cmp (I : Inv n st L par tv pd) {b : Nat} (hb : b < n) : ∀ a, a < n → ∀ y, y ∈ L a → y ∈ L b → a ∈ L b ∨ b ∈ L a := by
  refine I.ind fun a ha ih y hya hyb => ?_
  rcases (I.mem ha).1 hya with rfl | ⟨c, hc, hx⟩
  · exact .inl hyb
  · rcases ih c hc y hx hyb with h | h
    · rcases I.anc b hb c h with rfl | ⟨u, hu, hun, hcu, hub⟩
      · exact .inr (I.sub ha hc (I.self (I.ch a c ha hc).1))
      · have := (I.ch a c ha hc).2
        have e : u = a := by omega
        subst e
        exact .inl hub
    · exact .inr (I.sub ha hc h)
theorem Inv.mtrans (I : Inv n st L par tv pd) : ∀ w, w < n → ∀ y ∈ L w, ∀ x ∈ L y, x ∈ L w := by
  refine I.ind fun w hw ih y hy x hx => ?_
  rcases (I.mem hw).1 hy with rfl | ⟨c, hc, hy⟩
  · exact hx
  · exact I.sub hw hc (ih c hc y hy x hx)

theorem Chn.pair {par : Nat → Int} {d : Nat → Nat} {n : Nat} (hd : ∀ v u : Nat, v < n → par v = u → d u < d v) :
    ∀ {l : List Nat}, Chn par l → (∀ x ∈ l, x < n) → l.Pairwise fun a b => d a < d b := by
  intro l
  induction l with
  | nil => intro _ _; exact List.Pairwise.nil
  | cons a l ih =>
    intro h hl
    have ih := ih h.tail (fun x hx => hl x (List.mem_cons_of_mem _ hx))
    refine List.Pairwise.cons ?_ ih
    cases l with
    | nil => intro b hb; cases hb
    | cons b l =>
      have h1 : d a < d b := hd b a (hl b (by simp)) h.1
      intro c hc
      rcases List.mem_cons.1 hc with rfl | hc
      · exact h1
      · have := (List.pairwise_cons.1 ih).1 c hc
        omega
theorem short {n : Nat} : ∀ {l : List Nat}, l.Nodup → (∀ x ∈ l, x < n) → l.length ≤ n := by
  induction n with
  | zero =>
    intro l _ h
    cases l with
    | nil => simp
    | cons a l => exact absurd (h a (by simp)) (by omega)
  | succ n ih =>
    intro l hn h
    have h1 := ih (hn.erase n) (fun x hx => by
      have := (hn.mem_erase_iff).1 hx
      have := h x this.2
      omega)
    by_cases hm : n ∈ l
    · rw [List.length_erase_of_mem hm] at h1; omega
    · rw [List.erase_of_not_mem hm] at h1; omega
theorem Inv.nodup (I : Inv n st L par tv pd) (F : Fst n par tv) {v : Nat} (hv : v < n) : (L v).Nodup := by
  obtain ⟨d, hd⟩ := F.acy
  refine (Chn.pair hd (I.chn v hv) (I.lt v hv)).imp ?_
  intro a b h e
  subst e
  omega
theorem Inv.short (I : Inv n st L par tv pd) (F : Fst n par tv) {v : Nat} (hv : v < n) : (L v).length ≤ n :=
  Go.Proofs.YtdcamadeblojdaaGreat.short (I.nodup F hv) (I.lt v hv)

theorem Inv.mnEq (I : Inv n st L par tv pd) (F : Fst n par tv) {v : Nat} (hv : v < n) :
    mn tv (L v) = min (min (mn tv (LL L (st v 0))) (tv v)) (mn tv (LL L (st v 1))) := by
  have hr : ∀ a ∈ L v, tv a < 9223372036854775808 := fun a ha => (F.rng a (I.lt v hv a ha)).2
  rw [I.ino v hv] at hr ⊢
  rcases mn_append tv (LL L (st v 0)) (v :: LL L (st v 1)) with h | ⟨a, ha, k⟩
  · rw [h]; simp only [mn]; omega
  · have := hr a ha; omega
theorem Inv.mnRng (I : Inv n st L par tv pd) (F : Fst n par tv) : ∀ v, v < n → -9223372036854775808 ≤ mn tv (L v) ∧ mn tv (L v) < 9223372036854775808 := by
  have low : ∀ l : List Nat, (∀ a ∈ l, -9223372036854775808 ≤ tv a) → -9223372036854775808 ≤ mn tv l := by
    intro l
    induction l with
    | nil => intro _; simp only [mn]; omega
    | cons a l ih =>
      intro h
      have := ih (fun x hx => h x (List.mem_cons_of_mem _ hx))
      have := h a (by simp)
      simp only [mn]; omega
  intro v hv
  refine ⟨low _ fun a ha => (F.rng a (I.lt v hv a ha)).1, ?_⟩
  have := F.rng v hv
  rw [I.mnEq F hv]
  omega

end
end Go.Proofs.YtdcamadeblojdaaGreat

namespace Go.Proofs.YtdcamadeblojdaaGreat
open Go
set_option linter.unusedVariables false

instance (st : St) (u y : Nat) : Decidable (Ch st u y) := inferInstanceAs (Decidable (_ ∨ _))

theorem w64_eq (x : Int) : ∃ k : Int, w64 x = x + 18446744073709551616 * k ∧ -9223372036854775808 ≤ w64 x ∧ w64 x < 9223372036854775808 := by
  have := IntKind.wrap_i64 x
  refine ⟨(w64 x - x) / 18446744073709551616, ?_⟩
  unfold w64
  omega
theorem w64_in {x : Int} (h : -9223372036854775808 ≤ x) (k : x < 9223372036854775808) : w64 x = x := by
  obtain ⟨j, hj, _⟩ := w64_eq x
  omega
theorem w64_of {a b : Int} (h : ∃ k : Int, a = b + 18446744073709551616 * k) : w64 a = w64 b := by
  obtain ⟨k, h⟩ := h
  obtain ⟨i, hi, _⟩ := w64_eq a
  obtain ⟨j, hj, _⟩ := w64_eq b
  omega
theorem w64_cg {a b : Int} : w64 a = w64 b ↔ ∃ k : Int, a = b + 18446744073709551616 * k := by
  refine ⟨fun h => ?_, w64_of⟩
  obtain ⟨i, hi, _⟩ := w64_eq a
  obtain ⟨j, hj, _⟩ := w64_eq b
  exact ⟨j - i, by omega⟩

section
variable {n : Nat} {st : St} {L : Nat → List Nat} {par tv pd : Nat → Int}

theorem Inv.lr (I : Inv n st L par tv pd) (F : Fst n par tv) {v c : Nat} (hv : v < n) (h0 : st v 0 = c) (h1 : st v 1 = c) : False := by
  have nd := I.nodup F hv
  rw [I.ino v hv, h0, h1, LL_nat] at nd
  have hc := I.self (I.ch v c hv (.inl h0)).1
  have := (List.nodup_append.1 nd).2.2 c hc c (List.mem_cons_of_mem _ hc)
  exact this rfl
theorem Inv.chNe (I : Inv n st L par tv pd) {v c : Nat} (hv : v < n) (h : Ch st v c) : c ≠ v := by
  rintro rfl
  exact Nat.lt_irrefl _ (I.len hv h)

theorem raiseS_at {c : Nat} {x : Int} (w j : Nat) : raiseS st c x w j = if w = c ∧ (j = 3 ∨ j = 4 ∨ j = 5) then w64 (st w j + x) else st w j := by
  unfold raiseS
  rw [if_pos (Int.natCast_nonneg c), Int.toNat_natCast]
theorem raiseS_neg {c x : Int} (h : c < 0) : raiseS st c x = st := by
  unfold raiseS
  rw [if_neg (by omega)]
theorem raiseS_int {c x : Int} (w j : Nat) : raiseS st c x w j = if c = w ∧ (j = 3 ∨ j = 4 ∨ j = 5) then w64 (st w j + x) else st w j := by
  unfold raiseS
  by_cases h : 0 ≤ c
  · rw [if_pos h]
    show (if w = c.toNat ∧ _ then _ else _) = _
    congr 1
    refine propext ⟨fun ⟨a, b⟩ => ⟨by omega, b⟩, fun ⟨a, b⟩ => ⟨by omega, b⟩⟩
  · rw [if_neg h, if_neg (by omega)]

theorem pushS_eq (I : Inv n st L par tv pd) (F : Fst n par tv) {v : Nat} (hv : v < n) (w j : Nat) :
    pushS st v w j = if j = 3 ∨ j = 4 then (if Ch st v w then w64 (st w j + st v 5) else st w j)
      else if j = 5 then (if w = v then 0 else if Ch st v w then w64 (st w 5 + st v 5) else st w 5) else st w j := by
  have n0 : st v 0 ≠ v := fun h => I.chNe hv (.inl h) rfl
  have n1 : st v 1 ≠ v := fun h => I.chNe hv (.inr h) rfl
  have n2 : ∀ w : Nat, ¬ (st v 0 = w ∧ st v 1 = w) := fun w h => I.lr F hv h.1 h.2
  have n2 := n2 w
  have e1 : raiseS st (st v 0) (st v 5) v 1 = st v 1 := raiseS_link (by decide)
  have e5 : raiseS st (st v 0) (st v 5) v 5 = st v 5 := by rw [raiseS_int, if_neg (fun h => n0 h.1)]
  unfold pushS
  simp only [e1, e5]
  unfold upd2
  rw [raiseS_int, raiseS_int]
  unfold Ch
  by_cases hw : w = v
  · subst hw
    simp only [n0, n1, false_and, or_false, if_false, true_and]
    by_cases j5 : j = 5
    · subst j5; simp
    · simp [j5]
  · simp only [hw, false_and, if_false]
    by_cases h0 : st v 0 = w <;> by_cases h1 : st v 1 = w
    · exact absurd ⟨h0, h1⟩ n2
    all_goals
      by_cases j3 : j = 3
      · subst j3; simp [h0, h1]
      · by_cases j4 : j = 4
        · subst j4; simp [h0, h1]
        · by_cases j5 : j = 5
          · subst j5; simp [h0, h1]
          · simp [j3, j4, j5]
theorem pushS_link (I : Inv n st L par tv pd) (F : Fst n par tv) {v : Nat} (hv : v < n) (w : Nat) {j : Nat} (hj : j < 3) : pushS st v w j = st w j := by
  rw [pushS_eq I F hv, if_neg (by omega), if_neg (by omega)]

theorem Ch.congr {st st' : St} (h : ∀ w j, j < 3 → st' w j = st w j) {u y : Nat} : Ch st' u y ↔ Ch st u y := by
  unfold Ch; rw [h u 0 (by decide), h u 1 (by decide)]
theorem Top.congr {st st' : St} (h : ∀ w j, j < 3 → st' w j = st w j) {v : Nat} : Top st' v ↔ Top st v := by
  unfold Top
  rw [h v 2 (by decide)]
  exact forall_congr' fun u => imp_congr_right fun _ => not_congr (Ch.congr h)

def pdPush (st : St) (pd : Nat → Int) (v : Nat) : Nat → Int := fun w => if Ch st v w then pd v else pd w

theorem Inv.push (I : Inv n st L par tv pd) (F : Fst n par tv) {v : Nat} (hv : v < n) : Inv n (pushS st v) L par tv (pdPush st pd v) := by
  have lk : ∀ w j, j < 3 → pushS st v w j = st w j := fun w j hj => pushS_link I F hv w hj
  have cv : ∀ y, Ch st v y → w64 (pd y) = w64 (pd v + st v 5) := fun y hy => I.pdc v y hv hy
  refine ⟨?_, ?_, ?_, I.chn, ?_, ?_, ?_, ?_, ?_⟩
  · intro u y hu h
    have := I.ch u y hu ((Ch.congr lk).1 h)
    rw [lk _ _ (by decide)]
    exact this
  · intro w hw
    rw [lk _ _ (by decide)]
    exact I.up w hw
  · intro w hw
    rw [lk _ _ (by decide), lk _ _ (by decide)]
    exact I.ino w hw
  · intro w hw h
    rw [lk _ _ (by decide)]
    exact I.hd w hw ((Top.congr lk).1 h)
  · intro w hw h
    have h := (Top.congr lk).1 h
    unfold pdPush
    rw [if_neg]
    · exact I.pdt w hw h
    · intro hc
      exact h v (I.ch v w hv hc).2 hc
  · intro u y hu h
    replace h := (Ch.congr lk).1 h
    have hy := I.ch u y hu h
    have key := I.pdc u y hu h
    rw [pushS_eq I F hv, if_neg (by decide), if_pos rfl]
    unfold pdPush
    by_cases huv : u = v
    · subst huv
      rw [if_pos h, if_pos rfl, if_neg (fun hc => I.chNe hu hc rfl), Int.add_zero]
    · have hny : ¬ Ch st v y := by
        intro hc
        have := (I.ch v y hv hc).2
        omega
      rw [if_neg hny, if_neg huv]
      by_cases hcu : Ch st v u
      · rw [if_pos hcu, if_pos hcu, key]
        have := cv u hcu
        rw [w64_cg] at this
        obtain ⟨k, hk⟩ := this
        obtain ⟨i, hi, _⟩ := w64_eq (st u 5 + st v 5)
        apply w64_of
        exact ⟨k - i, by omega⟩
      · rw [if_neg hcu, if_neg hcu]
        exact key
  · intro w hw
    rw [pushS_eq I F hv, if_pos (.inl rfl)]
    unfold pdPush
    by_cases hc : Ch st v w
    · rw [if_pos hc, if_pos hc, I.val w hw]
      have := cv w hc
      rw [w64_cg] at this
      obtain ⟨k, hk⟩ := this
      obtain ⟨i, hi, _⟩ := w64_eq (tv w - pd w)
      apply w64_of
      exact ⟨i - k, by omega⟩
    · rw [if_neg hc, if_neg hc]
      exact I.val w hw
  · intro w hw
    rw [pushS_eq I F hv, if_pos (.inr rfl)]
    unfold pdPush
    by_cases hc : Ch st v w
    · rw [if_pos hc, if_pos hc, I.lst w hw]
      have := cv w hc
      rw [w64_cg] at this
      obtain ⟨k, hk⟩ := this
      obtain ⟨i, hi, _⟩ := w64_eq (mn tv (L w) - pd w)
      apply w64_of
      exact ⟨i - k, by omega⟩
    · rw [if_neg hc, if_neg hc]
      exact I.lst w hw

end
end Go.Proofs.YtdcamadeblojdaaGreat

namespace Go.Proofs.YtdcamadeblojdaaGreat
open Go
set_option linter.unusedVariables false

section
variable {n : Nat} {st : St} {L : Nat → List Nat} {par tv pd : Nat → Int}

theorem rot1_eq (I : Inv n st L par tv pd) (F : Fst n par tv) {v u : Nat} (hun : u < n) {w : Nat} (hw : w < n) (j : Nat) :
    rot1 st v u w j = if j < 2 ∧ st w j = u then (v : Int) else st w j := by
  have key : j < 2 → st w j = u → st u 2 = w ∧ Ch st w u := by
    intro hj h
    have hc : Ch st w u := by
      have : j = 0 ∨ j = 1 := by omega
      rcases this with rfl | rfl
      · exact .inl h
      · exact .inr h
    exact ⟨(I.ch w u hw hc).2, hc⟩
  unfold rot1
  cases ht : topS st u with
  | true =>
    rw [if_pos rfl, if_neg]
    rintro ⟨hj, h⟩
    obtain ⟨k1, k2⟩ := key hj h
    exact topS_iff.1 ht w k1 k2
  | false =>
    rw [if_neg (by decide)]
    obtain ⟨g, hg, hcg⟩ := topS_false ht
    rw [hg, Int.toNat_natCast]
    by_cases h0 : st g 0 = u
    · rw [if_pos h0]
      unfold upd2
      by_cases e : w = g ∧ j = 0
      · rw [if_pos e, if_pos]
        obtain ⟨rfl, rfl⟩ := e
        exact ⟨by decide, h0⟩
      · rw [if_neg e, if_neg]
        rintro ⟨hj, h⟩
        obtain ⟨k1, k2⟩ := key hj h
        have ew : w = g := by omega
        subst ew
        have ej : j = 1 := by
          have : ¬ j = 0 := fun h => e ⟨rfl, h⟩
          omega
        subst ej
        exact I.lr F hw h0 h
    · rw [if_neg h0]
      have h1 : st g 1 = u := hcg.resolve_left h0
      unfold upd2
      by_cases e : w = g ∧ j = 1
      · rw [if_pos e, if_pos]
        obtain ⟨rfl, rfl⟩ := e
        exact ⟨by decide, h1⟩
      · rw [if_neg e, if_neg]
        rintro ⟨hj, h⟩
        obtain ⟨k1, k2⟩ := key hj h
        have ew : w = g := by omega
        subst ew
        have ej : j = 0 := by
          have : ¬ j = 1 := fun h => e ⟨rfl, h⟩
          omega
        subst ej
        exact h0 h

/-- s: the side of u on which v hangs; o: the other. -/
structure Side (st : St) (u v s o : Nat) : Prop where
  so : (s = 0 ∧ o = 1) ∨ (s = 1 ∧ o = 0)
  at_ : st u s = v

theorem Side.ch {st : St} {u v s o : Nat} (h : Side st u v s o) {x y : Nat} : Ch st x y ↔ st x s = y ∨ st x o = y := by
  unfold Ch
  rcases h.so with ⟨rfl, rfl⟩ | ⟨rfl, rfl⟩
  · exact Iff.rfl
  · exact Or.comm

/-- What rotate does to the pointers. -/
structure RotE (n : Nat) (st st' : St) (v u s o : Nat) : Prop where
  es : ∀ w, w < n → st' w s = if w = u then st v o else if st w s = u then (v : Int) else st w s
  eo : ∀ w, w < n → st' w o = if w = v then (u : Int) else if st w o = u then (v : Int) else st w o
  e2 : ∀ w, w < n → st' w 2 = if w = u then (v : Int) else if w = v then st u 2 else if st v o = w then (u : Int) else st w 2
  e3 : ∀ w, w < n → ∀ j, 3 ≤ j → j ≠ 4 → st' w j = st w j

theorem rotL_eq (I : Inv n st L par tv pd) (F : Fst n par tv) {v u s o : Nat} (hv : v < n) (hun : u < n) (hs : Side st u v s o) :
    RotE n st (rotL st v u) v u s o ∧ inner (rot2 (rot1 st v u) v u) v u = st v o ∧ ∀ w, w < n → rotL st v u w 4 = st w 4 := by
  have hc : Ch st u v := hs.ch.2 (.inl hs.at_)
  have ne : v ≠ u := I.chNe hun hc
  have r1 := fun w (hw : w < n) j => rot1_eq I F (v := v) hun hw j
  have nuu : ∀ j, j < 2 → st u j ≠ u := by
    intro j hj h
    have : j = 0 ∨ j = 1 := by omega
    rcases this with rfl | rfl
    · exact I.chNe hun (.inl h) rfl
    · exact I.chNe hun (.inr h) rfl
  have nvu : ∀ j, j < 2 → st v j ≠ u := by
    intro j hj h
    have hcv : Ch st v u := by
      have : j = 0 ∨ j = 1 := by omega
      rcases this with rfl | rfl
      · exact .inl h
      · exact .inr h
    have := I.len hv hcv
    have := I.len hun hc
    omega
  have nlr := I.lr F hun (c := v)
  have r2 : ∀ w, w < n → ∀ j, rot2 (rot1 st v u) v u w j = if j = 2 then (if w = u then (v : Int) else if w = v then st u 2 else st w 2) else if j < 2 ∧ st w j = u then (v : Int) else st w j := by
    intro w hw j
    unfold rot2 upd2
    rw [r1 w hw j, r1 u hun 2]
    by_cases e : j = 2
    · subst e
      simp
    · simp [e]
  have ru0 : rot2 (rot1 st v u) v u u 0 = st u 0 := by
    rw [r2 u hun]; simp [nuu 0 (by decide)]
  have ru1 : rot2 (rot1 st v u) v u u 1 = st u 1 := by
    rw [r2 u hun]; simp [nuu 1 (by decide)]
  have rv0 : rot2 (rot1 st v u) v u v 0 = st v 0 := by
    rw [r2 v hv]; simp [nvu 0 (by decide)]
  have rv1 : rot2 (rot1 st v u) v u v 1 = st v 1 := by
    rw [r2 v hv]; simp [nvu 1 (by decide)]
  have hin : inner (rot2 (rot1 st v u) v u) v u = st v o := by
    unfold inner
    rw [ru0, rv0, rv1]
    rcases hs.so with ⟨rfl, rfl⟩ | ⟨rfl, rfl⟩
    · rw [if_pos hs.at_]
    · rw [if_neg (fun h => nlr h hs.at_)]
  have r3 : ∀ w, w < n → ∀ j, rot3 (rot2 (rot1 st v u) v u) v u w j = if w = u ∧ j = s then st v o else if w = v ∧ j = o then (u : Int) else rot2 (rot1 st v u) v u w j := by
    intro w hw j
    unfold rot3
    rw [ru0, rv0, rv1]
    rcases hs.so with ⟨rfl, rfl⟩ | ⟨rfl, rfl⟩
    · rw [if_pos hs.at_]
      unfold upd2
      by_cases e1 : w = u ∧ j = 0
      · rw [if_pos e1, if_pos e1, if_neg (by omega)]
      · rw [if_neg e1, if_neg e1]
    · rw [if_neg (fun h => nlr h hs.at_)]
      unfold upd2
      by_cases e1 : w = u ∧ j = 1
      · rw [if_pos e1, if_pos e1, if_neg (by omega)]
      · rw [if_neg e1, if_neg e1]
  have r4 : ∀ w, w < n → ∀ j, rotL st v u w j = if st v o = w ∧ j = 2 then (u : Int) else rot3 (rot2 (rot1 st v u) v u) v u w j := by
    intro w hw j
    unfold rotL
    simp only [hin]
    unfold rot4
    by_cases h0 : 0 ≤ st v o
    · rw [if_pos h0]
      unfold upd2
      congr 1
      exact propext ⟨fun ⟨a, b⟩ => ⟨by omega, b⟩, fun ⟨a, b⟩ => ⟨by omega, b⟩⟩
    · rw [if_neg h0, if_neg (by omega)]
  have s2 : s < 2 ∧ o < 2 ∧ s ≠ o := by rcases hs.so with ⟨rfl, rfl⟩ | ⟨rfl, rfl⟩ <;> decide
  have nvo : st v o ≠ u := nvu o s2.2.1
  have nvv : st v o ≠ v := by
    intro h
    exact I.chNe hv (hs.ch.2 (.inr h)) rfl
  refine ⟨⟨?_, ?_, ?_, ?_⟩, hin, ?_⟩
  · intro w hw
    rw [r4 w hw, if_neg (by omega), r3 w hw, r2 w hw]
    have a1 : ¬ s = 2 := by omega
    have a2 : ¬ s = o := s2.2.2
    simp [a1, a2, s2.1]
  · intro w hw
    rw [r4 w hw, if_neg (by omega), r3 w hw, r2 w hw]
    have a1 : ¬ o = 2 := by omega
    have a2 : ¬ o = s := fun h => s2.2.2 h.symm
    simp [a1, a2, s2.2.1]
  · intro w hw
    rw [r4 w hw, r3 w hw, r2 w hw]
    have a1 : ¬ 2 = s := by omega
    have a2 : ¬ 2 = o := by omega
    simp only [a1, a2, and_false, if_false, and_true, if_true]
    by_cases e1 : w = u
    · subst e1; simp [nvo]
    · by_cases e2 : w = v
      · subst e2; simp [nvv]
      · simp [e1, e2]
  · intro w hw j hj j4
    rw [r4 w hw, if_neg (by omega), r3 w hw, if_neg (by omega), if_neg (by omega), r2 w hw, if_neg (by omega), if_neg (by omega)]
  · intro w hw
    rw [r4 w hw, if_neg (by omega), r3 w hw, if_neg (by omega), if_neg (by omega), r2 w hw, if_neg (by omega), if_neg (by omega)]

end
end Go.Proofs.YtdcamadeblojdaaGreat

namespace Go.Proofs.YtdcamadeblojdaaGreat
open Go
set_option linter.unusedVariables false

section
variable {n : Nat} {st : St} {L : Nat → List Nat} {par tv pd : Nat → Int}

theorem least3_ok {s : St} {L : Nat → List Nat} {tv : Nat → Int} {v : Nat} (hv : s v 3 = tv v) (hc : ∀ c : Nat, Ch s v c → s c 4 = mn tv (L c))
    (hl : L v = LL L (s v 0) ++ v :: LL L (s v 1)) (hr : ∀ a ∈ L v, tv a < 9223372036854775808) : least3 s v = mn tv (L v) := by
  rw [hl] at hr ⊢
  have hvr := hr v (by simp)
  have e : mn tv (LL L (s v 0) ++ v :: LL L (s v 1)) = min (mn tv (LL L (s v 0))) (min (tv v) (mn tv (LL L (s v 1)))) := by
    rcases mn_append tv (LL L (s v 0)) (v :: LL L (s v 1)) with h | ⟨a, ha, k⟩
    · rw [h]; rfl
    · have := hr a ha; omega
  rw [e, least3_eq]
  have key : ∀ c : Int, (∀ w : Nat, c = w → s w 4 = mn tv (L w)) → ∀ a, a < 9223372036854775808 → lstep s c a = min a (mn tv (LL L c)) := by
    intro c h a ha
    unfold lstep
    by_cases h0 : 0 ≤ c
    · rw [if_pos h0]
      have e := h c.toNat (by omega)
      rw [e]
      have : LL L c = L c.toNat := by unfold LL; rw [if_pos h0]
      rw [this]
      split <;> omega
    · rw [if_neg h0, LL_neg (by omega)]
      simp only [mn]; omega
  rw [key (s v 1) (fun w hw => hc w (.inr hw)), key (s v 0) (fun w hw => hc w (.inl hw)), hv]
  · omega
  · omega
  · rw [key (s v 0) (fun w hw => hc w (.inl hw)) _ (by omega)]; omega

theorem mn_low {tv : Nat → Int} : ∀ l : List Nat, (∀ a ∈ l, -9223372036854775808 ≤ tv a) → -9223372036854775808 ≤ mn tv l := by
  intro l
  induction l with
  | nil => intro _; simp only [mn]; omega
  | cons a l ih =>
    intro h
    have := ih (fun x hx => h x (List.mem_cons_of_mem _ hx))
    have := h a (by simp)
    simp only [mn]; omega
theorem mn_le {tv : Nat → Int} {l : List Nat} {a : Nat} (h : a ∈ l) : mn tv l ≤ tv a := by
  induction l with
  | nil => cases h
  | cons b l ih =>
    simp only [mn]
    rcases List.mem_cons.1 h with rfl | h
    · omega
    · have := ih h; omega
theorem mn_high {tv : Nat → Int} {l : List Nat} {a : Nat} (h : a ∈ l) (k : tv a < 9223372036854775808) : mn tv l < 9223372036854775808 := by
  have := mn_le (tv := tv) h
  omega

def rotLs (st : St) (L : Nat → List Nat) (v u s : Nat) : Nat → List Nat := fun w =>
  if w = v then L u else if w = u then (if s = 0 then LL L (st v 1) ++ u :: LL L (st u 1) else LL L (st u 0) ++ u :: LL L (st v 0)) else L w

theorem rotateS_ne {v u w j : Nat} (hj : j ≠ 4) : rotateS st v u w j = rotL st v u w j := by
  unfold rotateS pullS upd2
  rw [if_neg (by omega), if_neg (by omega)]

structure RotR (n : Nat) (st st' : St) (L L' : Nat → List Nat) (par tv pd : Nat → Int) (v u : Nat) : Prop where
  inv : Inv n st' L' par tv pd
  lv : L' v = L u
  lo : ∀ w, w ≠ v → w ≠ u → L' w = L w
  e5 : ∀ w, w < n → st' w 5 = st w 5
  e2 : st' v 2 = st u 2
  fr : ∀ w, w < n → w ≠ v → w ≠ u → Top st w → Top st' w ∧ st' w 2 = st w 2
  p1 : Pc n u (rotL st v u u 0)
  p2 : Pc n u (rotL st v u u 1)
  p3 : Pc n v (rotL st v u v 0)
  p4 : Pc n v (rotL st v u v 1)
  hi : Pt n (inner (rot2 (rot1 st v u) v u) v u)
  /-- v's new subtrees -/
  tops : Top st u → Top st' v

theorem Inv.rotate (I : Inv n st L par tv pd) (F : Fst n par tv) {v u s o : Nat} (hv : v < n) (hun : u < n) (hs : Side st u v s o)
    (av : st v 5 = 0) (au : st u 5 = 0) (pv : pd v = 0) (pu : pd u = 0) :
    RotR n st (rotateS st v u) L (rotLs st L v u s) par tv pd v u := by
  have hc : Ch st u v := hs.ch.2 (.inl hs.at_)
  have ne : v ≠ u := I.chNe hun hc
  obtain ⟨E, hin, e4⟩ := rotL_eq I F hv hun hs
  generalize hst : rotateS st v u = st'
  have q : ∀ w j, j ≠ 4 → st' w j = rotL st v u w j := by
    intro w j hj; rw [← hst]; exact rotateS_ne hj
  have s2 : s < 2 ∧ o < 2 ∧ s ≠ o := by rcases hs.so with ⟨rfl, rfl⟩ | ⟨rfl, rfl⟩ <;> decide
  have es : ∀ w, w < n → st' w s = if w = u then st v o else if st w s = u then (v : Int) else st w s := by
    intro w hw; rw [q _ _ (by omega)]; exact E.es w hw
  have eo : ∀ w, w < n → st' w o = if w = v then (u : Int) else if st w o = u then (v : Int) else st w o := by
    intro w hw; rw [q _ _ (by omega)]; exact E.eo w hw
  have e2 : ∀ w, w < n → st' w 2 = if w = u then (v : Int) else if w = v then st u 2 else if st v o = w then (u : Int) else st w 2 := by
    intro w hw; rw [q _ _ (by omega)]; exact E.e2 w hw
  have e3 : ∀ w, w < n → st' w 3 = st w 3 := by
    intro w hw; rw [q _ _ (by omega)]; exact E.e3 w hw 3 (by decide) (by decide)
  have e5 : ∀ w, w < n → st' w 5 = st w 5 := by
    intro w hw; rw [q _ _ (by omega)]; exact E.e3 w hw 5 (by decide) (by decide)
  have st2v : st v 2 = u := (I.ch u v hun hc).2
  have chs : ∀ {x y : Nat}, Ch st x y ↔ st x s = y ∨ st x o = y := fun {x y} => hs.ch
  have chs' : ∀ {x y : Nat}, Ch st' x y ↔ st' x s = y ∨ st' x o = y := by
    intro x y
    unfold Ch
    rcases hs.so with ⟨rfl, rfl⟩ | ⟨rfl, rfl⟩
    · exact Iff.rfl
    · exact Or.comm
  have nlr : ∀ x y : Nat, x < n → st x s = y → st x o = y → False := by
    intro x y hx h1 h2
    rcases hs.so with ⟨rfl, rfl⟩ | ⟨rfl, rfl⟩
    · exact I.lr F hx h1 h2
    · exact I.lr F hx h2 h1
  -- u is no child of v
  have nvu : ¬ Ch st v u := by
    intro h
    have := I.len hv h
    have := I.len hun hc
    omega
  have nvv : ¬ Ch st v v := fun h => I.chNe hv h rfl
  have nuu : ¬ Ch st u u := fun h => I.chNe hun h rfl
  have nuo : ¬ st u o = v := fun h => nlr u v hun hs.at_ h
  have CH : ∀ w y : Nat, w < n → Ch st' w y → y < n ∧ st' y 2 = w ∧ w64 (pd y) = w64 (pd w + st' w 5) ∧ y ≠ w := by
    intro w y hw h
    rw [e5 w hw]
    rcases chs'.1 h with h | h
    · rw [es w hw] at h
      by_cases h1 : w = u
      · subst h1
        rw [if_pos rfl] at h
        have hy := I.ch v y hv (chs.2 (.inr h))
        have y1 : y ≠ w := fun e => nvu (chs.2 (.inr (by omega)))
        have y2 : y ≠ v := fun e => nvv (chs.2 (.inr (by omega)))
        refine ⟨hy.1, by rw [e2 y hy.1, if_neg y1, if_neg y2, if_pos h], ?_, y1⟩
        rw [I.pdc v y hv (chs.2 (.inr h)), pv, av, pu, au]
      · rw [if_neg h1] at h
        by_cases h2 : st w s = u
        · rw [if_pos h2] at h
          have : y = v := by omega
          subst this
          refine ⟨hv, ?_, ?_, ?_⟩
          · rw [e2 y hv, if_neg ne, if_pos rfl]
            exact (I.ch w u hw (chs.2 (.inl h2))).2
          · rw [← I.pdc w u hw (chs.2 (.inl h2)), pv, pu]
          · rintro rfl; exact nvu (chs.2 (.inl h2))
        · rw [if_neg h2] at h
          have hcy : Ch st w y := chs.2 (.inl h)
          have hy := I.ch w y hw hcy
          have y1 : y ≠ u := by rintro rfl; exact h2 h
          have y2 : y ≠ v := by rintro rfl; omega
          have y3 : ¬ st v o = y := by
            intro k
            have := (I.ch v y hv (chs.2 (.inr k))).2
            have : w = v := by omega
            subst this
            exact nlr w y hw h k
          exact ⟨hy.1, by rw [e2 y hy.1, if_neg y1, if_neg y2, if_neg y3]; exact hy.2, I.pdc w y hw hcy, I.chNe hw hcy⟩
    · rw [eo w hw] at h
      by_cases h1 : w = v
      · subst h1
        rw [if_pos rfl] at h
        have : y = u := by omega
        subst this
        refine ⟨hun, by rw [e2 y hun, if_pos rfl], ?_, fun h => ne h.symm⟩
        rw [pu, pv, av]; rfl
      · rw [if_neg h1] at h
        by_cases h2 : st w o = u
        · rw [if_pos h2] at h
          have : y = v := by omega
          subst this
          refine ⟨hv, ?_, ?_, fun h => h1 h.symm⟩
          · rw [e2 y hv, if_neg ne, if_pos rfl]
            exact (I.ch w u hw (chs.2 (.inr h2))).2
          · rw [← I.pdc w u hw (chs.2 (.inr h2)), pv, pu]
        · rw [if_neg h2] at h
          have hcy : Ch st w y := chs.2 (.inr h)
          have hy := I.ch w y hw hcy
          have y1 : y ≠ u := by rintro rfl; exact h2 h
          have y2 : y ≠ v := by
            rintro rfl
            have : w = u := by omega
            subst this
            exact nuo h
          have y3 : ¬ st v o = y := by
            intro k
            have := (I.ch v y hv (chs.2 (.inr k))).2
            omega
          exact ⟨hy.1, by rw [e2 y hy.1, if_neg y1, if_neg y2, if_neg y3]; exact hy.2, I.pdc w y hw hcy, I.chNe hw hcy⟩
  -- the lists
  generalize hL : rotLs st L v u s = L'
  have Lv : L' v = L u := by rw [← hL]; unfold rotLs; rw [if_pos rfl]
  have Lo : ∀ w, w ≠ v → w ≠ u → L' w = L w := by
    intro w h1 h2; rw [← hL]; unfold rotLs; rw [if_neg h1, if_neg h2]
  have Lu : L' u = if s = 0 then LL L (st v 1) ++ u :: LL L (st u 1) else LL L (st u 0) ++ u :: LL L (st v 0) := by
    rw [← hL]; unfold rotLs; rw [if_neg (fun h => ne h.symm), if_pos rfl]
  have LLo : ∀ x : Int, x ≠ v → x ≠ u → LL L' x = LL L x := by
    intro x h1 h2
    unfold LL
    split
    · exact Lo _ (by omega) (by omega)
    · rfl
  have nk : ∀ w k, w < n → k < 2 → ∀ y : Nat, st w k = y → Ch st w y := by
    intro w k hw hk y h
    have : k = 0 ∨ k = 1 := by omega
    rcases this with rfl | rfl
    · exact .inl h
    · exact .inr h
  have LLw : ∀ w, w < n → w ≠ u → w ≠ v → LL L' (st' w s) = LL L (st w s) ∧ LL L' (st' w o) = LL L (st w o) := by
    intro w hw h1 h2
    rw [es w hw, eo w hw, if_neg h1, if_neg h2]
    constructor
    · by_cases h3 : st w s = u
      · rw [if_pos h3, h3, LL_nat, LL_nat, Lv]
      · rw [if_neg h3]
        refine LLo _ ?_ h3
        intro h4
        have := (I.ch w v hw (chs.2 (.inl h4))).2
        omega
    · by_cases h3 : st w o = u
      · rw [if_pos h3, h3, LL_nat, LL_nat, Lv]
      · rw [if_neg h3]
        refine LLo _ ?_ h3
        intro h4
        have := (I.ch w v hw (chs.2 (.inr h4))).2
        omega
  have vsu : st v s ≠ u := fun h => nvu (chs.2 (.inl h))
  have vou : st v o ≠ u := fun h => nvu (chs.2 (.inr h))
  have vsv : st v s ≠ v := fun h => nvv (chs.2 (.inl h))
  have vov : st v o ≠ v := fun h => nvv (chs.2 (.inr h))
  have uou : st u o ≠ u := fun h => nuu (chs.2 (.inr h))
  have evs : st' v s = st v s := by rw [es v hv, if_neg ne, if_neg vsu]
  have evo : st' v o = u := by rw [eo v hv, if_pos rfl]
  have eus : st' u s = st v o := by rw [es u hun, if_pos rfl]
  have euo : st' u o = st u o := by rw [eo u hun, if_neg (fun h => ne h.symm), if_neg uou]
  have INO : ∀ w, w < n → L' w = LL L' (st' w 0) ++ w :: LL L' (st' w 1) := by
    intro w hw
    by_cases h1 : w = v
    · subst h1
      rw [Lv, I.ino u hun]
      rcases hs.so with ⟨rfl, rfl⟩ | ⟨rfl, rfl⟩
      · rw [evs, evo, LLo _ vsv vsu, LL_nat, Lu, if_pos rfl, hs.at_, LL_nat, I.ino w hw]
        simp
      · rw [evs, evo, LLo _ vsv vsu, LL_nat, Lu, if_neg (by decide), hs.at_, LL_nat, I.ino w hw]
        simp
    · by_cases h2 : w = u
      · subst h2
        rw [Lu]
        rcases hs.so with ⟨rfl, rfl⟩ | ⟨rfl, rfl⟩
        · rw [if_pos rfl, eus, euo, LLo _ vov vou, LLo _ nuo uou]
        · rw [if_neg (by decide), eus, euo, LLo _ vov vou, LLo _ nuo uou]
      · rw [Lo w h1 h2, I.ino w hw]
        obtain ⟨k1, k2⟩ := LLw w hw h2 h1
        rcases hs.so with ⟨rfl, rfl⟩ | ⟨rfl, rfl⟩
        · rw [k1, k2]
        · rw [k1, k2]
  have TOP : ∀ w, w < n → Top st' w → (w = v ∧ Top st u) ∨ (w ≠ v ∧ w ≠ u ∧ Top st w) := by
    intro w hw ht
    by_cases h1 : w = v
    · subst h1
      refine .inl ⟨rfl, fun g hg hcg => ?_⟩
      have gn : g < n := by
        rcases I.up u hun with h | ⟨x, hx, hxn⟩
        · omega
        · have : g = x := by omega
          subst this; exact hxn
      have g1 : g ≠ u := by rintro rfl; exact nuu hcg
      have g2 : g ≠ w := by rintro rfl; exact nvu hcg
      refine ht g (by rw [e2 w hv, if_neg ne, if_pos rfl]; exact hg) (chs'.2 ?_)
      rcases chs.1 hcg with k | k
      · exact .inl (by rw [es g gn, if_neg g1, if_pos k])
      · exact .inr (by rw [eo g gn, if_neg g2, if_pos k])
    · by_cases h2 : w = u
      · subst h2
        exact absurd (chs'.2 (.inr evo)) (ht v (by rw [e2 w hun, if_pos rfl]))
      · refine .inr ⟨h1, h2, fun x hx hcx => ?_⟩
        have xn : x < n := by
          rcases I.up w hw with h | ⟨y, hy, hyn⟩
          · omega
          · have : x = y := by omega
            subst this; exact hyn
        by_cases h3 : st v o = w
        · exact ht u (by rw [e2 w hw, if_neg h2, if_neg h1, if_pos h3]) (chs'.2 (.inl (by rw [eus]; exact h3)))
        · refine ht x (by rw [e2 w hw, if_neg h2, if_neg h1, if_neg h3]; exact hx) (chs'.2 ?_)
          rcases chs.1 hcx with k | k
          · left
            have x1 : x ≠ u := by rintro rfl; have := hs.at_; omega
            rw [es x xn, if_neg x1, if_neg (by omega)]
            exact k
          · right
            have x1 : x ≠ v := by rintro rfl; exact h3 k
            rw [eo x xn, if_neg x1, if_neg (by omega)]
            exact k
  have chnu : Chn par (L' u) := by
    have hu := I.chn u hun
    rw [I.ino u hun] at hu
    rw [Lu]
    rcases hs.so with ⟨rfl, rfl⟩ | ⟨rfl, rfl⟩
    · rw [if_pos rfl]
      rw [hs.at_, LL_nat, I.ino v hv, List.append_assoc] at hu
      exact (Chn.append.1 hu).2.1.tail
    · rw [if_neg (by decide)]
      rw [hs.at_, LL_nat, I.ino v hv, ← List.cons_append, ← List.append_assoc] at hu
      exact (Chn.append.1 hu).1
  have pdz : ∀ y : Nat, Ch st v y ∨ Ch st u y → st y 4 = mn tv (L y) := by
    intro y hy
    have : y < n ∧ w64 (pd y) = w64 0 := by
      rcases hy with hy | hy
      · exact ⟨(I.ch v y hv hy).1, by rw [I.pdc v y hv hy, pv, av]; rfl⟩
      · exact ⟨(I.ch u y hun hy).1, by rw [I.pdc u y hun hy, pu, au]; rfl⟩
    obtain ⟨yn, h⟩ := this
    rw [I.lst y yn]
    obtain ⟨k, hk⟩ := w64_cg.1 h
    have r := I.mnRng F y yn
    have : w64 (mn tv (L y) - pd y) = w64 (mn tv (L y)) := w64_of ⟨-k, by omega⟩
    rw [this, w64_in r.1 r.2]
  have memU : ∀ a ∈ L' u, a ∈ L u := by
    intro a ha
    rw [Lu] at ha
    rw [I.ino u hun]
    rcases hs.so with ⟨rfl, rfl⟩ | ⟨rfl, rfl⟩
    · rw [if_pos rfl] at ha
      rw [hs.at_, LL_nat, I.ino v hv]
      simp only [List.mem_append, List.mem_cons] at ha ⊢
      rcases ha with h | h | h
      · exact .inl (.inr (.inr h))
      · exact .inr (.inl h)
      · exact .inr (.inr h)
    · rw [if_neg (by decide)] at ha
      rw [hs.at_, LL_nat, I.ino v hv]
      simp only [List.mem_append, List.mem_cons] at ha ⊢
      rcases ha with h | h | h
      · exact .inl h
      · exact .inr (.inl h)
      · exact .inr (.inr (.inl h))
  have rngU : ∀ a ∈ L u, tv a < 9223372036854775808 := fun a ha => (F.rng a (I.lt u hun a ha)).2
  have tvv : ∀ w, w < n → pd w = 0 → st w 3 = tv w := by
    intro w hw h
    rw [I.val w hw, h, Int.sub_zero, w64_in (F.rng w hw).1 (F.rng w hw).2]
  have rl : ∀ w j, j ≠ 4 → rotL st v u w j = st' w j := fun w j hj => (q w j hj).symm
  have lu : least3 (rotL st v u) u = mn tv (L' u) := by
    refine least3_ok ?_ ?_ ?_ (fun a ha => rngU a (memU a ha))
    · rw [rl _ _ (by decide), e3 u hun]; exact tvv u hun pu
    · intro c hcc
      replace hcc : Ch st' u c := by unfold Ch at hcc ⊢; rwa [rl _ _ (by decide), rl _ _ (by decide)] at hcc
      have hcn := CH u c hun hcc
      have hk : Ch st v c ∨ Ch st u c := by
        rcases chs'.1 hcc with h | h
        · exact .inl (chs.2 (.inr (by rw [← eus]; exact h)))
        · exact .inr (chs.2 (.inr (by rw [← euo]; exact h)))
      have c1 : c ≠ v := by
        rintro rfl
        rcases chs'.1 hcc with h | h
        · rw [eus] at h; exact vov h
        · rw [euo] at h; exact nuo h
      rw [e4 c hcn.1, pdz c hk, Lo c c1 hcn.2.2.2]
    · rw [rl _ _ (by decide), rl _ _ (by decide)]
      exact INO u hun
  have lv : least3 (pullS (rotL st v u) u) v = mn tv (L' v) := by
    have pk : ∀ w j, j ≠ 4 → pullS (rotL st v u) u w j = st' w j := by
      intro w j hj
      unfold pullS upd2
      rw [if_neg (by omega), rl w j hj]
    refine least3_ok ?_ ?_ ?_ (fun a ha => rngU a (by rw [Lv] at ha; exact ha))
    · rw [pk _ _ (by decide), e3 v hv]; exact tvv v hv pv
    · intro c hcc
      replace hcc : Ch st' v c := by unfold Ch at hcc ⊢; rwa [pk _ _ (by decide), pk _ _ (by decide)] at hcc
      have hcn := CH v c hv hcc
      by_cases hcu : c = u
      · subst hcu
        unfold pullS upd2
        rw [if_pos ⟨rfl, rfl⟩, lu]
      · have hk : Ch st v c := by
          rcases chs'.1 hcc with h | h
          · exact chs.2 (.inl (by rw [← evs]; exact h))
          · rw [evo] at h; omega
        unfold pullS upd2
        rw [if_neg (fun h => hcu h.1), e4 c hcn.1, pdz c (.inl hk), Lo c hcn.2.2.2 hcu]
    · rw [pk _ _ (by decide), pk _ _ (by decide)]
      exact INO v hv
  have PC : ∀ w k, w < n → k < 2 → Pc n w (rotL st v u w k) := by
    intro w k hw hk
    rw [rl _ _ (by omega)]
    by_cases h0 : 0 ≤ st' w k
    · right
      have hcc : Ch st' w (st' w k).toNat := by
        have : k = 0 ∨ k = 1 := by omega
        rcases this with rfl | rfl
        · exact .inl (by omega)
        · exact .inr (by omega)
      have := CH w _ hw hcc
      exact ⟨(st' w k).toNat, by omega, this.1, this.2.2.2⟩
    · exact .inl (by omega)
  have FR : ∀ w, w < n → w ≠ v → w ≠ u → Top st w → Top st' w ∧ st' w 2 = st w 2 := by
    intro w hw h1 h2 ht
    have h3 : ¬ st v o = w := by
      intro h
      have hcc : Ch st v w := chs.2 (.inr h)
      exact ht v (I.ch v w hv hcc).2 hcc
    have ew : st' w 2 = st w 2 := by rw [e2 w hw, if_neg h2, if_neg h1, if_neg h3]
    refine ⟨fun x hx hcx => ?_, ew⟩
    have xn : x < n := by
      rw [ew] at hx
      rcases I.up w hw with h | ⟨y, hy, hyn⟩
      · omega
      · have : x = y := by omega
        subst this; exact hyn
    rw [ew] at hx
    rcases chs'.1 hcx with k | k
    · rw [es x xn] at k
      by_cases x1 : x = u
      · rw [if_pos x1] at k; exact h3 k
      · rw [if_neg x1] at k
        by_cases x2 : st x s = u
        · rw [if_pos x2] at k; omega
        · rw [if_neg x2] at k; exact ht x hx (chs.2 (.inl k))
    · rw [eo x xn] at k
      by_cases x1 : x = v
      · rw [if_pos x1] at k; omega
      · rw [if_neg x1] at k
        by_cases x2 : st x o = u
        · rw [if_pos x2] at k; omega
        · rw [if_neg x2] at k; exact ht x hx (chs.2 (.inr k))
  refine ⟨⟨fun w y hw h => ⟨(CH w y hw h).1, (CH w y hw h).2.1⟩, ?_, INO, ?_, ?_, ?_, fun w y hw h => (CH w y hw h).2.2.1, ?_, ?_⟩, Lv, Lo, e5, ?_, FR, PC u 0 hun (by decide), PC u 1 hun (by decide), PC v 0 hv (by decide), PC v 1 hv (by decide), ?_, ?_⟩
  · intro w hw
    rw [e2 w hw]
    by_cases h1 : w = u
    · rw [if_pos h1]; exact .inr ⟨v, rfl, hv⟩
    · rw [if_neg h1]
      by_cases h2 : w = v
      · rw [if_pos h2]; exact I.up u hun
      · rw [if_neg h2]
        by_cases h3 : st v o = w
        · rw [if_pos h3]; exact .inr ⟨u, rfl, hun⟩
        · rw [if_neg h3]; exact I.up w hw
  · intro w hw
    by_cases h1 : w = v
    · subst h1; rw [Lv]; exact I.chn u hun
    · by_cases h2 : w = u
      · subst h2; exact chnu
      · rw [Lo w h1 h2]; exact I.chn w hw
  · intro w hw ht
    rcases TOP w hw ht with ⟨rfl, hu⟩ | ⟨h1, h2, hw'⟩
    · rw [Lv, e2 w hv, if_neg ne, if_pos rfl]
      exact I.hd u hun hu
    · rw [Lo w h1 h2, (FR w hw h1 h2 hw').2]
      exact I.hd w hw hw'
  · intro w hw ht
    rcases TOP w hw ht with ⟨rfl, hu⟩ | ⟨h1, h2, hw'⟩
    · exact pv
    · exact I.pdt w hw hw'
  · intro w hw
    rw [e3 w hw]; exact I.val w hw
  · intro w hw
    have f4 : st' w 4 = if w = v then least3 (pullS (rotL st v u) u) v else if w = u then least3 (rotL st v u) u else rotL st v u w 4 := by
      rw [← hst]
      unfold rotateS
      show upd2 (pullS (rotL st v u) u) v 4 _ w 4 = _
      unfold upd2
      by_cases h1 : w = v
      · rw [if_pos ⟨h1, rfl⟩, if_pos h1]
      · rw [if_neg (fun h => h1 h.1), if_neg h1]
        unfold pullS upd2
        by_cases h2 : w = u
        · rw [if_pos ⟨h2, rfl⟩, if_pos h2]
        · rw [if_neg (fun h => h2 h.1), if_neg h2]
    have z : ∀ x, x < n → x = v ∨ x = u → pd x = 0 → mn tv (L' x) = w64 (mn tv (L' x) - pd x) := by
      intro x hx hx2 h0
      have hr : ∀ a ∈ L' x, a < n := by
        intro a ha
        rcases hx2 with rfl | rfl
        · rw [Lv] at ha; exact I.lt u hun a ha
        · exact I.lt x hx a (memU a ha)
      rw [h0, Int.sub_zero, w64_in]
      · exact mn_low _ fun a ha => (F.rng a (hr a ha)).1
      · refine mn_high (a := x) ?_ (F.rng x hx).2
        rw [INO x hx]; simp
    rw [f4]
    by_cases h1 : w = v
    · rw [if_pos h1, lv, h1]; exact z v hv (.inl rfl) pv
    · rw [if_neg h1]
      by_cases h2 : w = u
      · rw [if_pos h2, lu, h2]; exact z u hun (.inr rfl) pu
      · rw [if_neg h2, e4 w hw, Lo w h1 h2]; exact I.lst w hw
  · rw [e2 v hv, if_neg ne, if_pos rfl]
  · rw [hin]
    by_cases h0 : 0 ≤ st v o
    · have hcc : Ch st v (st v o).toNat := chs.2 (.inr (by omega))
      exact .inr ⟨(st v o).toNat, by omega, (I.ch v _ hv hcc).1⟩
    · exact .inl (by omega)
  · intro ht x hx hcx
    rw [e2 v hv, if_neg ne, if_pos rfl] at hx
    have xn : x < n := by
      rcases I.up u hun with h | ⟨y, hy, hyn⟩
      · omega
      · have : x = y := by omega
        subst this; exact hyn
    rcases chs'.1 hcx with k | k
    · rw [es x xn] at k
      by_cases x1 : x = u
      · rw [if_pos x1] at k; exact vov k
      · rw [if_neg x1] at k
        by_cases x2 : st x s = u
        · exact ht x hx (chs.2 (.inl x2))
        · rw [if_neg x2] at k
          have := (I.ch x v xn (chs.2 (.inl k))).2
          omega
    · rw [eo x xn] at k
      by_cases x1 : x = v
      · rw [if_pos x1] at k; omega
      · rw [if_neg x1] at k
        by_cases x2 : st x o = u
        · exact ht x hx (chs.2 (.inr x2))
        · rw [if_neg x2] at k
          have := (I.ch x v xn (chs.2 (.inr k))).2
          have : x = u := by omega
          subst this
          exact nuo k

end
end Go.Proofs.YtdcamadeblojdaaGreat

namespace Go.Proofs.YtdcamadeblojdaaGreat
open Go
set_option linter.unusedVariables false

section
variable {n : Nat} {st : St} {L : Nat → List Nat} {par tv pd : Nat → Int}

theorem Inv.top_of_mem (I : Inv n st L par tv pd) {t x : Nat} (ht : t < n) (hx : x ∈ L t) (hT : Top st x) : x = t := by
  rcases I.anc t ht x hx with h | ⟨u, hu, _, hc, _⟩
  · exact h
  · exact absurd hc (hT u hu)
theorem not_top {st : St} {v : Nat} (h : ¬ Top st v) : ∃ u : Nat, st v 2 = u ∧ Ch st u v := by
  refine topS_false ?_
  cases e : topS st v with
  | false => rfl
  | true => exact absurd (topS_iff.1 e) h
theorem Inv.upn (I : Inv n st L par tv pd) {v u : Nat} (hv : v < n) (hu : st v 2 = u) : u < n := by
  rcases I.up v hv with h | ⟨y, hy, hyn⟩
  · omega
  · have : u = y := by omega
    subst this; exact hyn

/-- v stands in the way of which t is the top; nothing is still to be added above v. -/
structure Sp (n : Nat) (st : St) (L : Nat → List Nat) (par tv pd : Nat → Int) (v t : Nat) : Prop where
  inv : Inv n st L par tv pd
  vn : v < n
  tn : t < n
  top : Top st t
  mem : v ∈ L t
  cl : ∀ w, w < n → v ∈ L w → st w 5 = 0 ∧ pd w = 0

structure SpR (n : Nat) (st st' : St) (L L' : Nat → List Nat) (par tv pd : Nat → Int) (v t t' x y : Nat) : Prop where
  sp : Sp n st' L' par tv pd v t'
  lt : L' t' = L t
  e2 : st' t' 2 = st t 2
  fr : ∀ w, w < n → Top st w → v ∉ L w → Top st' w ∧ st' w 2 = st w 2 ∧ L' w = L w
  lx : L' x = L y
  lo : ∀ w, w ≠ x → w ≠ y → L' w = L w
  tt : t' = x ∨ t' = t
  tt2 : ¬ Top st y → t' = t

theorem Sp.rot {v t : Nat} (S : Sp n st L par tv pd v t) (F : Fst n par tv) {x : Nat} (hx : x < n) (hvx : v ∈ L x) (hxt : ¬ Top st x) :
    ∃ y L' t', y < n ∧ st x 2 = y ∧ Ch st y x ∧ x ≠ y ∧ RotR n st (rotateS st x y) L L' par tv pd x y ∧ SpR n st (rotateS st x y) L L' par tv pd v t t' x y := by
  have I := S.inv
  obtain ⟨y, hy, hc⟩ := not_top hxt
  have hyn := I.upn hx hy
  have hvy : v ∈ L y := I.sub hyn hc hvx
  have hs : ∃ s o, Side st y x s o := by
    rcases hc with h | h
    · exact ⟨0, 1, .inl ⟨rfl, rfl⟩, h⟩
    · exact ⟨1, 0, .inr ⟨rfl, rfl⟩, h⟩
  obtain ⟨s, o, hs⟩ := hs
  have R := I.rotate F hx hyn hs (S.cl x hx hvx).1 (S.cl y hyn hvy).1 (S.cl x hx hvx).2 (S.cl y hyn hvy).2
  generalize rotLs st L x y s = L' at R
  generalize hst : rotateS st x y = st' at R
  have ne : x ≠ y := I.chNe hyn hc
  have memx : v ∈ L' x := by rw [R.lv]; exact hvy
  have tcase : ∃ t', Top st' t' ∧ L' t' = L t ∧ st' t' 2 = st t 2 ∧ t' < n ∧ (t' = x ∨ t' = t) ∧ (¬ Top st y → t' = t) := by
    by_cases hty : Top st y
    · have e : y = t := by
        rcases I.cmp S.tn y hyn v hvy S.mem with h | h
        · exact I.top_of_mem S.tn h hty
        · exact (I.top_of_mem hyn h S.top).symm
      exact ⟨x, R.tops hty, by rw [R.lv, e], by rw [R.e2, e], hx, .inl rfl, fun h => absurd hty h⟩
    · have t1 : t ≠ x := by rintro rfl; exact hxt S.top
      have t2 : t ≠ y := by rintro rfl; exact hty S.top
      exact ⟨t, (R.fr t S.tn t1 t2 S.top).1, R.lo t t1 t2, (R.fr t S.tn t1 t2 S.top).2, S.tn, .inr rfl, fun _ => rfl⟩
  obtain ⟨t', h1, h2, h3, h4, h5, h6⟩ := tcase
  refine ⟨y, L', t', hyn, hy, hc, ne, by rw [hst]; exact R, ?_⟩
  rw [hst]
  refine ⟨⟨R.inv, S.vn, h4, h1, by rw [h2]; exact S.mem, ?_⟩, h2, h3, ?_, R.lv, R.lo, h5, h6⟩
  · intro w hw hvw
    rw [R.e5 w hw]
    by_cases w1 : w = x
    · subst w1; exact S.cl w hw hvx
    · by_cases w2 : w = y
      · subst w2; exact S.cl w hw hvy
      · rw [R.lo w w1 w2] at hvw; exact S.cl w hw hvw
  · intro w hw hT hvw
    have w1 : w ≠ x := by rintro rfl; exact hvw hvx
    have w2 : w ≠ y := by rintro rfl; exact hvw hvy
    exact ⟨(R.fr w hw w1 w2 hT).1, (R.fr w hw w1 w2 hT).2, R.lo w w1 w2⟩

/-- What turning v to the top comes to: W is the way, U what stands above its top. -/
structure SplayR (n : Nat) (st st' : St) (L L' : Nat → List Nat) (par tv pd' : Nat → Int) (v : Nat) : Prop where
  inv : Inv n st' L' par tv pd'
  top : Top st' v
  way : ∃ t, t < n ∧ Top st t ∧ v ∈ L t ∧ L' v = L t ∧ st' v 2 = st t 2
  a0 : st' v 5 = 0
  p0 : pd' v = 0
  fr : ∀ w, w < n → Top st w → v ∉ L w → Top st' w ∧ st' w 2 = st w 2 ∧ L' w = L w

end

def At (h : H) (bn e n : Nat) (st : St) : Prop := h bn = some (.cells ⟨recs n 6 st⟩ e (0, 0))
theorem fp_self {h : H} {bn e n : Nat} {st : St} (ha : At h bn e n st) : fp h bn e n 6 st = h := by
  funext b
  by_cases hb : b = bn
  · subst hb; rw [fp_at]; exact ha.symm
  · rw [fp_ne hb]
theorem at_fp {h : H} {bn e n : Nat} {st : St} : At (fp h bn e n 6 st) bn e n st := fp_at ..

structure Fz (h : H) (bf bn e n : Nat) (st : St) : Prop where
  hd : Hd h bf bn n
  at_ : At h bn e n st
theorem Fz.next {h : H} {bf bn e n : Nat} {st st' : St} (f : Fz h bf bn e n st) : Fz (fp h bn e n 6 st') bf bn e n st' := ⟨f.hd.fp, at_fp⟩

/-- All blocks but b that h knows, h' knows as they were. -/
def Kp (b : Nat) (h h' : H) : Prop := ∀ k o, k ≠ b → h k = some o → h' k = some o
theorem Kp.refl {b : Nat} {h : H} : Kp b h h := fun _ _ _ h => h
theorem Kp.trans {b : Nat} {h1 h2 h3 : H} (a : Kp b h1 h2) (c : Kp b h2 h3) : Kp b h1 h3 := fun k o hk h => c k o hk (a k o hk h)
theorem Kp.fp {bn e n k : Nat} {st : St} {h : H} : Kp bn h (fp h bn e n k st) := fun b o hb h => by rw [fp_ne hb]; exact h
theorem Kp.put {bn b : Nat} {h : H} {o : Obj} (hb : h b = none) : Kp bn h (hput h b o) := fun k ok hk h2 => by
  unfold hput
  split
  · rename_i e; subst e; rw [hb] at h2; cases h2
  · exact h2
section
variable {bf bn n e : Nat} {h : H} {st : St}
theorem push_A (f : Fz h bf bn e n st) {v : Nat} (hv : v < n) (hl : Pt n (st v 0)) (hr : Pt n (st v 1)) :
    T Tryz.prog F.links_Forest_push [fo bf, vi v] h fun r h' => r = .ret unit0 ∧ h' = fp h bn e n 6 (pushS st v) := by
  have := push_T (e := e) f.hd hv hl hr
  rwa [fp_self f.at_] at this
theorem top_A (f : Fz h bf bn e n st) {v : Nat} (hv : v < n) (hu : Pt n (st v 2)) :
    T Tryz.prog F.links_Forest_top [fo bf, vi v] h fun r h' => r = .ret (.bool (topS st v)) ∧ h = h' := by
  have := top_T (e := e) f.hd hv hu
  rw [fp_self f.at_] at this
  exact this.mono fun _ _ h => ⟨h.1, h.2.symm⟩
theorem pull_A (f : Fz h bf bn e n st) {v : Nat} (hv : v < n) (hl : Pc n v (st v 0)) (hr : Pc n v (st v 1)) :
    T Tryz.prog F.links_Forest_pull [fo bf, vi v] h fun r h' => r = .ret unit0 ∧ h' = fp h bn e n 6 (pullS st v) := by
  have := pull_T (e := e) f.hd hv hl hr
  rwa [fp_self f.at_] at this
theorem raise_A (f : Fz h bf bn e n st) {c : Int} (hc : Pt n c) (x : Int) :
    T Tryz.prog F.links_Forest_raise [fo bf, .int .i64 c, .int .i64 x] h fun r h' => r = .ret unit0 ∧ h' = fp h bn e n 6 (raiseS st c x) := by
  have := raise_T (e := e) (st := st) f.hd hc x
  rwa [fp_self f.at_] at this
theorem Fz.ld (f : Fz h bf bn e n st) {v j : Nat} (hv : v < n) (hj : j < 6) : hcell h (((bk bn).add (v * 6)).add j) = some (.int .i64 (st v j)) := by
  have := fp_ld (h0 := h) (b := bn) (e := e) (st := st) hv hj
  rwa [fp_self f.at_] at this
theorem Fz.wr (f : Fz h bf bn e n st) {v j : Nat} (hv : v < n) (hj : j < 6) : hwr h (((bk bn).add (v * 6)).add j) 1 := by
  have := fp_wr (h0 := h) (b := bn) (e := e) (st := st) hv hj
  rwa [fp_self f.at_] at this
theorem Fz.set (f : Fz h bf bn e n st) {v j : Nat} {x : Int} (hv : v < n) (hj : j < 6) :
    hset h (((bk bn).add (v * 6)).add j) [.int .i64 x] = fp h bn e n 6 (upd2 st v j x) := by
  have := fp_set (h0 := h) (b := bn) (e := e) (st := st) (x := x) hv hj
  rwa [fp_self f.at_] at this

theorem Sp.rot_A {L : Nat → List Nat} {par tv pd : Nat → Int} {v t : Nat} (f : Fz h bf bn e n st) (S : Sp n st L par tv pd v t) (Fo : Fst n par tv) {x : Nat} (hx : x < n) (hvx : v ∈ L x) (hxt : ¬ Top st x)
    {R : Res → H → Prop} (k : ∀ y L' t', y < n → st x 2 = y → Ch st y x → x ≠ y → SpR n st (rotateS st x y) L L' par tv pd v t t' x y → R (.ret unit0) (fp h bn e n 6 (rotateS st x y))) :
    T Tryz.prog F.links_Forest_rotate [fo bf, vi x] h R := by
  obtain ⟨y, L', t', hyn, hy, hc, ne, rr, sr⟩ := S.rot Fo hx hvx hxt
  have := rotate_T (e := e) f.hd hx hyn ne hy (S.inv.up y hyn) rr.hi rr.p1 rr.p2 rr.p3 rr.p4
  rw [fp_self f.at_] at this
  refine this.mono ?_
  rintro _ _ ⟨rfl, rfl⟩
  exact k y L' t' hyn hy hc ne sr
end

/-- The slice p holds vs; its block is b. -/
structure Sl (h : H) (b : Nat) (p : Value) (vs : List Value) : Prop where
  ex : ∃ c e zs, p = .slice (some (bk b)) vs.length c ∧ h b = some (.cells ⟨vs ++ zs⟩ e (0, 0)) ∧ vs.length + zs.length = c

theorem Sl.kp {h h' : H} {b b' : Nat} {p : Value} {vs : List Value} (s : Sl h b p vs) (k : Kp b' h h') (ne : b ≠ b') : Sl h' b p vs := by
  obtain ⟨c, e, zs, h1, h2, h3⟩ := s.ex
  exact ⟨c, e, zs, h1, k _ _ ne h2, h3⟩
theorem Sl.get {h : H} {b : Nat} {p : Value} {vs : List Value} (s : Sl h b p vs) {i : Nat} {v : Value} (hi : vs[i]? = some v) : hcell h ((bk b).add (i * 1)) = some v := by
  obtain ⟨c, e, zs, h1, h2, h3⟩ := s.ex
  rw [bk_add, hcell_at h2, Nat.mul_one, List.getElem?_toArray]
  have : i < vs.length := (List.getElem?_eq_some_iff.1 hi).1
  rw [List.getElem?_append_left this]
  exact hi

theorem Sl.app1 {h : H} {b bx ex : Nat} {p x z : Value} {vs : List Value} {K : Value → H → Prop} {e bytes : Nat} (s : Sl h b p vs)
    (hx : h bx = some (.cells ⟨[x]⟩ ex (0, 0))) (one : x.oneCell' = true) (hb : bytes ≤ 8) (hl : vs.length < 1000000)
    (k : ∀ b' p' h', Sl h' b' p' (vs ++ [x]) → Kp b h h' → (b' = b ∨ h b' = none) → K p' h') :
    apP p (.slice (some (bk bx)) 1 1) h 1 e bytes [z] K := by
  obtain ⟨c, eb, zs, rfl, h2, h3⟩ := s.ex
  refine ⟨[x], ⟨rfl, ?_⟩, ?_⟩
  · intro i v hi
    rw [bk_add, hcell_at hx, List.getElem?_toArray]
    exact hi
  · refine ⟨fun hle => ?_, fun hlt => ⟨?_, vs, ⟨by rw [Nat.mul_one], ?_⟩, fun cap hcap nb hnb => ?_⟩⟩
    · refine ⟨fun _ => ?_, ?_, ?_⟩
      · rw [bk_add]
        refine ⟨_, _, h2, rfl, ?_⟩
        simp only [List.size_toArray, List.length_append, List.length_singleton]
        omega
      · intro v hv
        rw [List.mem_singleton.1 hv]; exact one
      · refine k b _ _ ⟨c, eb, zs.drop 1, by simp, ?_, ?_⟩ ?_ (.inl rfl)
        · rw [bk_add]
          unfold hset
          rw [if_pos rfl, h2]
          simp only [Option.map_some, setR, Nat.mul_one]
          rw [List.setIfInBounds_toArray]
          congr 3
          cases zs with
          | nil => simp at h3; omega
          | cons z0 zs => simp
        · simp; omega
        · intro j o hj hj2
          rw [bk_add]
          unfold hset
          rw [if_neg hj]
          exact hj2
    · have := nextcap_le hlt
      calc _ ≤ (2 * (vs.length + 1) + 192) * bytes := Nat.mul_le_mul_right _ this
        _ ≤ (2 * (vs.length + 1) + 192) * 8 := Nat.mul_le_mul_left _ hb
        _ ≤ _ := by omega
    · intro i v hi
      have := s.get hi
      rwa [Nat.mul_one] at this
    · refine k nb _ _ ⟨cap, e, zrep [z] (cap - (vs.length + 1)), by simp, ?_, ?_⟩ ?_ (.inr hnb)
      · simp [hput]
      · have : ∀ m, (zrep [z] m).length = m := by
          intro m
          simp [zrep]
        rw [this]; simp; omega
      · intro j o hj hj2
        exact Kp.put (bn := b) hnb j o hj hj2

end Go.Proofs.YtdcamadeblojdaaGreat

