import Derived.Test.YtdblngaacnpgmaaProg
import Derived.IntWalk
import Derived.Test.YtdblngaacnpgmaaAK1
namespace Go.Proofs.Ytdblngaacnpgmaa
open Go
set_option linter.unusedVariables false
set_option maxRecDepth 100000

abbrev F.compasslaw16_AssignKeeps : FuncId := 7
abbrev F.compasslaw16_awake : FuncId := 8
abbrev F.assign_Solve : FuncId := 9
abbrev F.compassref03_Copy : FuncId := 14
abbrev F.vouch_Heaviest : FuncId := 18
abbrev F.compassref03_Same : FuncId := 19
abbrev F.compasslaw16_path : FuncId := 20
abbrev F.bimatch_Sides : FuncId := 21
abbrev F.assign_table_byRows : FuncId := 22
abbrev F.assign_table_byTrees : FuncId := 23
abbrev F.slices_Sort : FuncId := 24
abbrev F.vouch_look : FuncId := 34
abbrev F.vouch_Heaviest_c1 : FuncId := 35
abbrev F.vouch_right : FuncId := 36
abbrev F.vouch_matched : FuncId := 37
abbrev F.vouch_one : FuncId := 38
abbrev F.vouch_need : FuncId := 39
abbrev F.vouch_loop : FuncId := 40
abbrev F.vouch_cost : FuncId := 41
abbrev F.graph_Check : FuncId := 42
abbrev F.assign_rows_take : FuncId := 43
abbrev F.assign_table_weight : FuncId := 44
abbrev F.assign_trees_grow : FuncId := 45
abbrev F.vouch_rising : FuncId := 59
abbrev F.graph_label : FuncId := 60
abbrev F.assign_rows_gap : FuncId := 61
abbrev F.heaps_New : FuncId := 62
abbrev F.heaps_Queue_Push : FuncId := 63
abbrev F.heaps_Queue_Lower : FuncId := 64
abbrev F.heaps_Queue_Pop : FuncId := 65
abbrev F.assign_trees_turn : FuncId := 66
abbrev F.heaps_Queue_low : FuncId := 80
abbrev F.heaps_Queue_Top : FuncId := 81
abbrev F.heaps_binary_lower : FuncId := 105
abbrev F.heaps_binary_pop : FuncId := 106
abbrev F.heaps_binary_push : FuncId := 107
abbrev F.heaps_binary_top : FuncId := 108
abbrev F.heaps_keyed_ahead : FuncId := 109
abbrev F.heaps_binary_put : FuncId := 110
def A_compasslaw16_AssignKeeps : An := ⟨lkA [(0, rng 2), (1, rng 2), (2, rng 1), (3, rng 4), (4, ⟨[0, 2, 5, 1, 6, 7, 3, 4, 8, 9, 10], lkN [(4, [6])]⟩), (5, rng 13), (6, rng 13), (7, ⟨[0, 1, 2, 3, 4, 5, 7, 12, 6, 8, 9, 10, 11, 13, 14, 15, 16, 17, 18, 19], lkN []⟩), (8, rng 1), (9, rng 3), (10, rng 1), (11, rng 2), (12, rng 4), (13, rng 2), (14, rng 3), (15, rng 1), (16, rng 2), (17, rng 4), (18, rng 2), (19, rng 2), (20, rng 9), (21, rng 9), (22, rng 8)], lkL [(10, [(74, .int .i64)]), (15, [(83, .int .i64)])], lkC []⟩
def B_compasslaw16_AssignKeeps (p0_g : List Value) (p1_left : Int) (p2_kind : Int) (R : Res → H → Prop) (h : H) : Prop :=
  newP h (.cells ⟨p0_g⟩ 24 (0, 0)) fun b1 h2 =>
  T Try.prog F.compasslaw16_awake [] h2 (rt (fun v3 h4 =>
  ∃ r5, v3 = .bool r5 ∧
  ifP (!r5) (R (.ret (.bool false)) h4)
  (ldN h4 (bk b1) 2 fun x6 =>
  T Try.prog F.compassref03_Copy [.agg ⟨x6⟩] h4 (rt (fun v7 h8 =>
  ∃ r9 : List Value, r9.length = 2 ∧ v7 = .agg ⟨r9⟩ ∧
  newP h8 (.cells ⟨[.int .i64 0, .slice none 0 0]⟩ 24 (0, 0)) fun b10 h11 =>
  stN h11 (bk b10) r9 2 fun h12 =>
  ldV h12 ((bk b10).add 1) fun x13 =>
  ldV h12 ((bk b1).add 1) fun x14 =>
  slcP x14 fun a15 l16 c17 =>
  ([.int .i64 0, .int .i64 0, .int .i64 (-7), .int .i64 0] : List Value).length = 4 ∧
  newP h12 (.cells ⟨[.int .i64 0, .int .i64 0, .int .i64 (-7), .int .i64 0]⟩ 41 (0, 0)) fun b18 h19 =>
  apP x13 (.slice (some (bk b18)) 1 1) h19 4 41 32 [.int .i64 0, .int .i64 0, .int .i64 0, .int .i64 0] fun s20 h21 =>
  (sameAt 2 ((bk b1).add 1) h19 h21) ∧
  slcP s20 fun a22 l23 c24 =>
  (0 : Int) ≤ ((l16 : Nat) : Int) ∧ ((l16 : Nat) : Int) ≤ ((c24 : Nat) : Int) ∧
  (0 : Int) ≤ (0 : Int) ∧ (0 : Int) ≤ ((l16 : Nat) : Int) ∧
  oneP (sliceV a22 c24 (0 : Int) ((l16 : Nat) : Int) 4) (stC h21 ((bk b10).add 1) (sliceV a22 c24 (0 : Int) ((l16 : Nat) : Int) 4) fun h25 =>
  ldN h25 (bk b10) 2 fun x26 =>
  T Try.prog F.assign_Solve [.agg ⟨x26⟩, .int .i64 p1_left, .int .i64 p2_kind] h25 (rt (fun v27 h28 =>
  ∃ r29 : Value, ∃ r30 : Value, ∃ r31 : Int, ∃ r32 : Int, v27 = .tuple ⟨[r29, r30, .int .i64 r31, .int .i64 r32]⟩ ∧
  ldN h28 (bk b10) 2 fun x33 =>
  T Try.prog F.assign_Solve [.agg ⟨x33⟩, .int .i64 p1_left, .int .i64 p2_kind] h28 (rt (fun v34 h35 =>
  ∃ r36 : Value, ∃ r37 : Value, ∃ r38 : Int, ∃ r39 : Int, v34 = .tuple ⟨[r36, r37, .int .i64 r38, .int .i64 r39]⟩ ∧
  ldN h35 (bk b10) 2 fun x40 =>
  ldN h35 (bk b1) 2 fun x41 =>
  T Try.prog F.compassref03_Same [.agg ⟨x40⟩, .agg ⟨x41⟩] h35 (rt (fun v42 h43 =>
  ∃ r44, v42 = .bool r44 ∧
  ifP (!r44) (R (.ret (.bool false)) h43) (ldV h43 ((bk b10).add 1) fun x45 =>
  ldV h43 ((bk b1).add 1) fun x46 =>
  slcP x46 fun a47 l48 c49 =>
  slcP x45 fun a50 l51 c52 =>
  (0 : Int) ≤ (IntKind.i64.wrap (((l48 : Nat) : Int) + 1)) ∧ (IntKind.i64.wrap (((l48 : Nat) : Int) + 1)) ≤ ((c52 : Nat) : Int) ∧
  (0 : Int) ≤ (0 : Int) ∧ (0 : Int) ≤ (IntKind.i64.wrap (((l48 : Nat) : Int) + 1)) ∧
  ldV h43 ((bk b1).add 1) fun x53 =>
  slcP x53 fun a54 l55 c56 =>
  ixS (sliceV a50 c52 (0 : Int) (IntKind.i64.wrap (((l48 : Nat) : Int) + 1)) 4) ((l55 : Nat) : Int) 4 fun a57 =>
  ldI h43 (a57.add 2) .i64 fun x58 =>
  ifP (!decide (x58 = (-7))) (R (.ret (.bool false)) h43)
  (slcP r29 fun a59 l60 c61 =>
  ∃ (I62 : (Int × Unit) → H → Prop) (r63 : (Int × Unit) × H → (Int × Unit) × H → Prop), WellFounded r63 ∧ I62 (0, ()) h43 ∧
  ∀ (s65 : Int) (h64 : H), I62 (s65, ()) h64 →
  ifP (decide (s65 < ((l60 : Nat) : Int))) (ixS r29 s65 1 fun a66 =>
  stC h64 a66 (.int .i64 (-9)) fun h67 =>
  I62 ((IntKind.i64.wrap (s65 + 1)), ()) h67 ∧ r63 (((IntKind.i64.wrap (s65 + 1)), ()), h67) ((s65, ()), h64))
  (slcP r30 fun a68 l69 c70 =>
  ∃ (I71 : (Int × Unit) → H → Prop) (r72 : (Int × Unit) × H → (Int × Unit) × H → Prop), WellFounded r72 ∧ I71 (0, ()) h64 ∧
  ∀ (s74 : Int) (h73 : H), I71 (s74, ()) h73 →
  ifP (decide (s74 < ((l69 : Nat) : Int))) (ixS r30 s74 1 fun a75 =>
  stC h73 a75 (.int .i64 (-9)) fun h76 =>
  I71 ((IntKind.i64.wrap (s74 + 1)), ()) h76 ∧ r72 (((IntKind.i64.wrap (s74 + 1)), ()), h76) ((s74, ()), h73))
  (ifP (!decide (r32 = 0)) (slcP r36 fun a77 l78 c79 =>
  ifP (decide (((l78 : Nat) : Int) = 0)) (slcP r37 fun a80 l81 c82 =>
  R (.ret (.bool (decide (((l81 : Nat) : Int) = 0)))) h73) (R (.ret (.bool false)) h73))
  (ldN h73 (bk b1) 2 fun x83 =>
  T Try.prog F.vouch_Heaviest [.agg ⟨x83⟩, r36, r37] h73 (rt (fun v84 h85 =>
  ∃ r86 : Int, ∃ r87 : Int, v84 = .tuple ⟨[.int .i64 r86, .int .i64 r87]⟩ ∧
  ifP (decide (r87 = 0)) (R (.ret (.bool (decide (r86 = r38)))) h85) (R (.ret (.bool false)) h85)) (fun v88 h89 => R (.pan v88) h89)))))))) (fun v90 h91 => R (.pan v90) h91))) (fun v92 h93 => R (.pan v92) h93))) (fun v94 h95 => R (.pan v94) h95)))) (fun v96 h97 => R (.pan v96) h97)))) (fun v98 h99 => R (.pan v98) h99))
theorem E_compasslaw16_AssignKeeps {p0_g : List Value} {p1_left : Int} {p2_kind : Int} {R : Res → H → Prop} {h : H} (H0 : B_compasslaw16_AssignKeeps p0_g p1_left p2_kind R h) : T Try.prog F.compasslaw16_AssignKeeps [.agg ⟨p0_g⟩, .int .i64 p1_left, .int .i64 p2_kind] h R :=
  T_intro A_compasslaw16_AssignKeeps Try.func7 (c := bodyOf Try.f7) (by kernel_rfl) (by kernel_rfl) (by kernel_rfl) (cast_of (by kernel_rfl) H0)

def A_compasslaw16_awake : An := ⟨lkA [(0, rng 1), (1, rng 1), (2, rng 2), (3, rng 3), (4, rng 12), (5, rng 22), (6, rng 1), (7, rng 1)], lkL [(2, [(1, .int .i64)])], lkC []⟩
def B_compasslaw16_awake  (R : Res → H → Prop) (h : H) : Prop :=
  ∃ (I1 : (Int × Unit) → H → Prop) (r2 : (Int × Unit) × H → (Int × Unit) × H → Prop), WellFounded r2 ∧ I1 (1, ()) h ∧
  ∀ (kind_4 : Int) (h3 : H), I1 (kind_4, ()) h3 →
  ifP (decide (kind_4 ≤ 2)) (T Try.prog F.compasslaw16_path [] h3 (rt (fun v5 h6 =>
  ∃ r7 : List Value, r7.length = 2 ∧ v5 = .agg ⟨r7⟩ ∧
  T Try.prog F.assign_Solve [.agg ⟨r7⟩, .int .i64 2, .int .i64 kind_4] h6 (rt (fun v8 h9 =>
  ∃ r10 : Value, ∃ r11 : Value, ∃ r12 : Int, ∃ r13 : Int, v8 = .tuple ⟨[r10, r11, .int .i64 r12, .int .i64 r13]⟩ ∧
  ifP (!decide (r13 = 0)) (R (.ret (.bool false)) h9) (slcP r10 fun a14 l15 c16 =>
  ifP (!decide (((l15 : Nat) : Int) = 1)) (R (.ret (.bool false)) h9) (ixS r10 0 1 fun a17 =>
  ldI h9 a17 .i64 fun x18 =>
  ifP (!decide (x18 = 1)) (R (.ret (.bool false)) h9) (ifP (!decide (r12 = 7)) (R (.ret (.bool false)) h9) (slcP r11 fun a19 l20 c21 =>
  ifP (!decide (((l20 : Nat) : Int) = 4)) (R (.ret (.bool false)) h9)
  (I1 ((IntKind.i64.wrap (kind_4 + 1)), ()) h9 ∧ r2 (((IntKind.i64.wrap (kind_4 + 1)), ()), h9) ((kind_4, ()), h3))))))) (fun v22 h23 => R (.pan v22) h23))) (fun v24 h25 => R (.pan v24) h25)))
  (R (.ret (.bool true)) h3)
theorem E_compasslaw16_awake  {R : Res → H → Prop} {h : H} (H0 : B_compasslaw16_awake  R h) : T Try.prog F.compasslaw16_awake [] h R :=
  T_intro A_compasslaw16_awake Try.func8 (c := bodyOf Try.f8) (by kernel_rfl) (by kernel_rfl) (by kernel_rfl) (cast_of (by kernel_rfl) H0)

def A_assign_Solve : An := ⟨lkA [(0, rng 5), (1, rng 5), (2, rng 3), (3, ⟨[0, 2, 3, 4, 1, 5], lkN []⟩), (4, rng 6), (5, rng 4), (6, ⟨[0, 1, 3, 2, 4, 5, 6, 7], lkN []⟩), (7, rng 6), (8, rng 1), (9, rng 2), (10, ⟨[0, 1, 2, 4, 5, 7, 3, 6, 8, 9, 10, 11], lkN []⟩), (11, rng 2), (12, rng 4), (13, rng 1), (14, rng 6), (15, ⟨[0, 1, 2, 3, 5, 4, 6, 7, 8, 9, 10, 11], lkN []⟩), (16, ⟨[0, 2, 5, 7, 1, 3, 4, 10, 6, 8, 9, 11], lkN []⟩), (17, rng 12), (18, ⟨[0, 1, 2, 3, 4, 5, 6, 7, 8, 9, 11, 12, 13, 15, 16, 10, 14, 17, 18, 19, 20, 21, 22, 23], lkN []⟩), (19, rng 5), (20, rng 2), (21, rng 2), (22, rng 7), (23, rng 7), (24, rng 2), (25, rng 3), (26, rng 1), (27, rng 3), (28, rng 10), (29, rng 2), (30, rng 7)], lkL [(8, [(46, .int .i64)]), (13, [(64, .int .i64)]), (26, [(8, .int .i64), (146, .int .i64)])], lkC [(24, [(6, .val), (7, .val)])]⟩
def B_assign_Solve (p0_g : List Value) (p1_left : Int) (p2_kind : Int) (R : Res → H → Prop) (h : H) : Prop :=
  newP h (.cells ⟨p0_g⟩ 24 (0, 0)) fun b1 h2 =>
  ldN h2 (bk b1) 2 fun x3 =>
  T Try.prog F.bimatch_Sides [.agg ⟨x3⟩, .int .i64 p1_left] h2 (rt (fun v4 h5 =>
  ∃ r6 : List Value, r6.length = 2 ∧ v4 = .agg ⟨r6⟩ ∧
  newP h5 (.cells ⟨[.int .i64 0, .int .i64 0]⟩ 53 (0, 0)) fun b7 h8 =>
  stN h8 (bk b7) r6 2 fun h9 =>
  ldI h9 ((bk b7).add 0) .i64 fun x10 =>
  ifP (!decide (x10 = 0)) (ldI h9 ((bk b7).add 0) .i64 fun x11 =>
  R (.ret (.tuple ⟨[.slice none 0 0, .slice none 0 0, .int .i64 0, .int .i64 x11]⟩)) h9)
  (ifP (!decide (p2_kind = 1)) (ifP (!decide (p2_kind = 2)) (R (.ret (.tuple ⟨[.slice none 0 0, .slice none 0 0, .int .i64 0, .int .i64 50]⟩)) h9)
  (ldI h9 ((bk b1).add 0) .i64 fun x12 =>
  mkS p1_left p1_left 24 [.slice none 0 0] 26 h9 fun b13 h14 =>
  newP h14 (.cells ⟨[.int .i64 p1_left, .int .i64 x12, .slice (some (bk b13)) p1_left.toNat p1_left.toNat, .slice none 0 0]⟩ 58 (0, 0)) fun b15 h16 =>
  ldV h16 ((bk b15).add 2) fun x17 =>
  slcP x17 fun a18 l19 c20 =>
  ∃ (I21 : (Int × Unit) → H → Prop) (r22 : (Int × Unit) × H → (Int × Unit) × H → Prop), WellFounded r22 ∧ I21 (0, ()) h16 ∧
  ∀ (s24 : Int) (h23 : H), I21 (s24, ()) h23 →
  ifP (decide (s24 < ((l19 : Nat) : Int))) (ldV h23 ((bk b15).add 2) fun x25 =>
  ldI h23 ((bk b1).add 0) .i64 fun x26 =>
  mkS (IntKind.i64.wrap (x26 - p1_left)) (IntKind.i64.wrap (x26 - p1_left)) 8 [.int .i64 0] 3 h23 fun b27 h28 =>
  ixS x25 s24 1 fun a29 =>
  stC h28 a29 (.slice (some (bk b27)) ((IntKind.i64.wrap (x26 - p1_left)).toNat) ((IntKind.i64.wrap (x26 - p1_left)).toNat)) fun h30 =>
  I21 ((IntKind.i64.wrap (s24 + 1)), ()) h30 ∧ r22 (((IntKind.i64.wrap (s24 + 1)), ()), h30) ((s24, ()), h23))
  (ldV h23 ((bk b1).add 1) fun x31 =>
  slcP x31 fun a32 l33 c34 =>
  ∃ (I35 : (Int × Unit) → H → Prop) (r36 : (Int × Unit) × H → (Int × Unit) × H → Prop), WellFounded r36 ∧ I35 (0, ()) h23 ∧
  ∀ (s38 : Int) (h37 : H), I35 (s38, ()) h37 →
  ifP (decide (s38 < ((l33 : Nat) : Int))) (ixS x31 s38 4 fun a39 =>
  ldN h37 a39 4 fun x40 =>
  newP h37 (.cells ⟨[.int .i64 0, .int .i64 0, .int .i64 0, .int .i64 0]⟩ 41 (0, 0)) fun b41 h42 =>
  stN h42 (bk b41) x40 4 fun h43 =>
  ldV h43 ((bk b15).add 3) fun x44 =>
  ldI h43 ((bk b41).add 3) .i64 fun x45 =>
  newP h43 (.cells ⟨[.int .i64 x45]⟩ 2 (0, 0)) fun b46 h47 =>
  apP x44 (.slice (some (bk b46)) 1 1) h47 1 2 8 [.int .i64 0] fun s48 h49 =>
  oneP s48 (stC h49 ((bk b15).add 3) s48 fun h50 =>
  ldI h50 ((bk b41).add 0) .i64 fun x51 =>
  ldI h50 ((bk b41).add 1) .i64 fun x52 =>
  ldI h50 ((bk b41).add 0) .i64 fun x53 =>
  ldI h50 ((bk b41).add 1) .i64 fun x54 =>
  ldV h50 ((bk b15).add 2) fun x55 =>
  ixS x55 (if x52 < x51 then x52 else x51) 1 fun a56 =>
  ldV h50 a56 fun x57 =>
  ixS x57 (IntKind.i64.wrap ((if x53 < x54 then x54 else x53) - p1_left)) 1 fun a58 =>
  ldI h50 ((bk b41).add 3) .i64 fun x59 =>
  ifP (decide (0 < x59)) (ldI h50 a58 .i64 fun x60 =>
  ifP (decide (x60 = 0)) (stC h50 a58 (.int .i64 (IntKind.i64.wrap (s38 + 1))) fun h61 =>
  I35 ((IntKind.i64.wrap (s38 + 1)), ()) h61 ∧ r36 (((IntKind.i64.wrap (s38 + 1)), ()), h61) ((s38, ()), h37)) (ldI h50 ((bk b41).add 3) .i64 fun x62 =>
  ldV h50 ((bk b15).add 3) fun x63 =>
  ldI h50 a58 .i64 fun x64 =>
  ixS x63 (IntKind.i64.wrap (x64 - 1)) 1 fun a65 =>
  ldI h50 a65 .i64 fun x66 =>
  ifP (decide (x66 < x62)) (stC h50 a58 (.int .i64 (IntKind.i64.wrap (s38 + 1))) fun h67 =>
  I35 ((IntKind.i64.wrap (s38 + 1)), ()) h67 ∧ r36 (((IntKind.i64.wrap (s38 + 1)), ()), h67) ((s38, ()), h37))
  (I35 ((IntKind.i64.wrap (s38 + 1)), ()) h50 ∧ r36 (((IntKind.i64.wrap (s38 + 1)), ()), h50) ((s38, ()), h37)))) (I35 ((IntKind.i64.wrap (s38 + 1)), ()) h50 ∧ r36 (((IntKind.i64.wrap (s38 + 1)), ()), h50) ((s38, ()), h37))))
  (∃ J68 : (Value × Value × Unit) → H → Prop, (ifP (decide (p2_kind = 1)) (T Try.prog F.assign_table_byRows [.pointer (some (bk b15))] h37 (rt (fun v72 h73 =>
  ∃ r74 : Value, ∃ r75 : Value, v72 = .tuple ⟨[r74, r75]⟩ ∧
  J68 (r74, r75, ()) h73) (fun v76 h77 => R (.pan v76) h77)))
  (T Try.prog F.assign_table_byTrees [.pointer (some (bk b15))] h37 (rt (fun v78 h79 =>
  ∃ r80 : Value, ∃ r81 : Value, v78 = .tuple ⟨[r80, r81]⟩ ∧
  J68 (r80, r81, ()) h79) (fun v82 h83 => R (.pan v82) h83)))) ∧
  (∀ (match_70 : Value) (pot_71 : Value) (h69 : H), J68 (match_70, pot_71, ()) h69 →
  T Try.prog F.slices_Sort [match_70] h69 (rt (fun v84 h85 =>
  v84 = .tuple ⟨[]⟩ ∧
  slcP match_70 fun a86 l87 c88 =>
  ∃ (I89 : (Int × Int × Unit) → H → Prop) (r90 : (Int × Int × Unit) × H → (Int × Int × Unit) × H → Prop), WellFounded r90 ∧ I89 (0, 0, ()) h85 ∧
  ∀ (cost_92 : Int) (s93 : Int) (h91 : H), I89 (cost_92, s93, ()) h91 →
  ifP (decide (s93 < ((l87 : Nat) : Int))) (ixS match_70 s93 1 fun a94 =>
  ldI h91 a94 .i64 fun x95 =>
  ldV h91 ((bk b15).add 3) fun x96 =>
  ixS x96 x95 1 fun a97 =>
  ldI h91 a97 .i64 fun x98 =>
  I89 ((IntKind.i64.wrap (cost_92 + x98)), (IntKind.i64.wrap (s93 + 1)), ()) h91 ∧ r90 (((IntKind.i64.wrap (cost_92 + x98)), (IntKind.i64.wrap (s93 + 1)), ()), h91) ((cost_92, s93, ()), h91))
  (R (.ret (.tuple ⟨[match_70, pot_71, .int .i64 cost_92, .int .i64 0]⟩)) h91)) (fun v99 h100 => R (.pan v99) h100))))))) (ldI h9 ((bk b1).add 0) .i64 fun x101 =>
  mkS p1_left p1_left 24 [.slice none 0 0] 26 h9 fun b102 h103 =>
  newP h103 (.cells ⟨[.int .i64 p1_left, .int .i64 x101, .slice (some (bk b102)) p1_left.toNat p1_left.toNat, .slice none 0 0]⟩ 58 (0, 0)) fun b104 h105 =>
  ldV h105 ((bk b104).add 2) fun x106 =>
  slcP x106 fun a107 l108 c109 =>
  ∃ (I110 : (Int × Unit) → H → Prop) (r111 : (Int × Unit) × H → (Int × Unit) × H → Prop), WellFounded r111 ∧ I110 (0, ()) h105 ∧
  ∀ (s113 : Int) (h112 : H), I110 (s113, ()) h112 →
  ifP (decide (s113 < ((l108 : Nat) : Int))) (ldV h112 ((bk b104).add 2) fun x114 =>
  ldI h112 ((bk b1).add 0) .i64 fun x115 =>
  mkS (IntKind.i64.wrap (x115 - p1_left)) (IntKind.i64.wrap (x115 - p1_left)) 8 [.int .i64 0] 3 h112 fun b116 h117 =>
  ixS x114 s113 1 fun a118 =>
  stC h117 a118 (.slice (some (bk b116)) ((IntKind.i64.wrap (x115 - p1_left)).toNat) ((IntKind.i64.wrap (x115 - p1_left)).toNat)) fun h119 =>
  I110 ((IntKind.i64.wrap (s113 + 1)), ()) h119 ∧ r111 (((IntKind.i64.wrap (s113 + 1)), ()), h119) ((s113, ()), h112))
  (ldV h112 ((bk b1).add 1) fun x120 =>
  slcP x120 fun a121 l122 c123 =>
  ∃ (I124 : (Int × Unit) → H → Prop) (r125 : (Int × Unit) × H → (Int × Unit) × H → Prop), WellFounded r125 ∧ I124 (0, ()) h112 ∧
  ∀ (s127 : Int) (h126 : H), I124 (s127, ()) h126 →
  ifP (decide (s127 < ((l122 : Nat) : Int))) (ixS x120 s127 4 fun a128 =>
  ldN h126 a128 4 fun x129 =>
  newP h126 (.cells ⟨[.int .i64 0, .int .i64 0, .int .i64 0, .int .i64 0]⟩ 41 (0, 0)) fun b130 h131 =>
  stN h131 (bk b130) x129 4 fun h132 =>
  ldV h132 ((bk b104).add 3) fun x133 =>
  ldI h132 ((bk b130).add 3) .i64 fun x134 =>
  newP h132 (.cells ⟨[.int .i64 x134]⟩ 2 (0, 0)) fun b135 h136 =>
  apP x133 (.slice (some (bk b135)) 1 1) h136 1 2 8 [.int .i64 0] fun s137 h138 =>
  oneP s137 (stC h138 ((bk b104).add 3) s137 fun h139 =>
  ldI h139 ((bk b130).add 0) .i64 fun x140 =>
  ldI h139 ((bk b130).add 1) .i64 fun x141 =>
  ldI h139 ((bk b130).add 0) .i64 fun x142 =>
  ldI h139 ((bk b130).add 1) .i64 fun x143 =>
  ldV h139 ((bk b104).add 2) fun x144 =>
  ixS x144 (if x141 < x140 then x141 else x140) 1 fun a145 =>
  ldV h139 a145 fun x146 =>
  ixS x146 (IntKind.i64.wrap ((if x142 < x143 then x143 else x142) - p1_left)) 1 fun a147 =>
  ldI h139 ((bk b130).add 3) .i64 fun x148 =>
  ifP (decide (0 < x148)) (ldI h139 a147 .i64 fun x149 =>
  ifP (decide (x149 = 0)) (stC h139 a147 (.int .i64 (IntKind.i64.wrap (s127 + 1))) fun h150 =>
  I124 ((IntKind.i64.wrap (s127 + 1)), ()) h150 ∧ r125 (((IntKind.i64.wrap (s127 + 1)), ()), h150) ((s127, ()), h126)) (ldI h139 ((bk b130).add 3) .i64 fun x151 =>
  ldV h139 ((bk b104).add 3) fun x152 =>
  ldI h139 a147 .i64 fun x153 =>
  ixS x152 (IntKind.i64.wrap (x153 - 1)) 1 fun a154 =>
  ldI h139 a154 .i64 fun x155 =>
  ifP (decide (x155 < x151)) (stC h139 a147 (.int .i64 (IntKind.i64.wrap (s127 + 1))) fun h156 =>
  I124 ((IntKind.i64.wrap (s127 + 1)), ()) h156 ∧ r125 (((IntKind.i64.wrap (s127 + 1)), ()), h156) ((s127, ()), h126))
  (I124 ((IntKind.i64.wrap (s127 + 1)), ()) h139 ∧ r125 (((IntKind.i64.wrap (s127 + 1)), ()), h139) ((s127, ()), h126)))) (I124 ((IntKind.i64.wrap (s127 + 1)), ()) h139 ∧ r125 (((IntKind.i64.wrap (s127 + 1)), ()), h139) ((s127, ()), h126))))
  (∃ J157 : (Value × Value × Unit) → H → Prop, (ifP (decide (p2_kind = 1)) (T Try.prog F.assign_table_byRows [.pointer (some (bk b104))] h126 (rt (fun v161 h162 =>
  ∃ r163 : Value, ∃ r164 : Value, v161 = .tuple ⟨[r163, r164]⟩ ∧
  J157 (r163, r164, ()) h162) (fun v165 h166 => R (.pan v165) h166)))
  (T Try.prog F.assign_table_byTrees [.pointer (some (bk b104))] h126 (rt (fun v167 h168 =>
  ∃ r169 : Value, ∃ r170 : Value, v167 = .tuple ⟨[r169, r170]⟩ ∧
  J157 (r169, r170, ()) h168) (fun v171 h172 => R (.pan v171) h172)))) ∧
  (∀ (match_159 : Value) (pot_160 : Value) (h158 : H), J157 (match_159, pot_160, ()) h158 →
  T Try.prog F.slices_Sort [match_159] h158 (rt (fun v173 h174 =>
  v173 = .tuple ⟨[]⟩ ∧
  slcP match_159 fun a175 l176 c177 =>
  ∃ (I178 : (Int × Int × Unit) → H → Prop) (r179 : (Int × Int × Unit) × H → (Int × Int × Unit) × H → Prop), WellFounded r179 ∧ I178 (0, 0, ()) h174 ∧
  ∀ (cost_181 : Int) (s182 : Int) (h180 : H), I178 (cost_181, s182, ()) h180 →
  ifP (decide (s182 < ((l176 : Nat) : Int))) (ixS match_159 s182 1 fun a183 =>
  ldI h180 a183 .i64 fun x184 =>
  ldV h180 ((bk b104).add 3) fun x185 =>
  ixS x185 x184 1 fun a186 =>
  ldI h180 a186 .i64 fun x187 =>
  I178 ((IntKind.i64.wrap (cost_181 + x187)), (IntKind.i64.wrap (s182 + 1)), ()) h180 ∧ r179 (((IntKind.i64.wrap (cost_181 + x187)), (IntKind.i64.wrap (s182 + 1)), ()), h180) ((cost_181, s182, ()), h180))
  (R (.ret (.tuple ⟨[match_159, pot_160, .int .i64 cost_181, .int .i64 0]⟩)) h180)) (fun v188 h189 => R (.pan v188) h189)))))))) (fun v190 h191 => R (.pan v190) h191))
theorem E_assign_Solve {p0_g : List Value} {p1_left : Int} {p2_kind : Int} {R : Res → H → Prop} {h : H} (H0 : B_assign_Solve p0_g p1_left p2_kind R h) : T Try.prog F.assign_Solve [.agg ⟨p0_g⟩, .int .i64 p1_left, .int .i64 p2_kind] h R :=
  T_intro A_assign_Solve Try.func9 (c := bodyOf Try.f9) (by kernel_rfl) (by kernel_rfl) (by kernel_rfl) (cast_of (by kernel_rfl) H0)

def A_compassref03_Copy : An := ⟨lkA [(0, rng 2), (1, rng 5), (2, rng 1), (3, rng 5), (4, rng 3), (5, ⟨[0, 2, 4, 1, 3, 5, 6, 7, 8, 9, 10], lkN []⟩), (6, rng 2)], lkL [(3, [(4, .int .i64)])], lkC []⟩
def B_compassref03_Copy (p0_g : List Value) (R : Res → H → Prop) (h : H) : Prop :=
  newP h (.cells ⟨p0_g⟩ 24 (0, 0)) fun b1 h2 =>
  newP h2 (.cells ⟨[.int .i64 0, .slice none 0 0]⟩ 24 (0, 0)) fun b3 h4 =>
  ldI h4 ((bk b1).add 0) .i64 fun x5 =>
  newP h4 (.cells ⟨[.int .i64 0, .slice none 0 0]⟩ 24 (0, 0)) fun b6 h7 =>
  stN h7 (bk b6) [.int .i64 x5, .slice none 0 0] 2 fun h8 =>
  ∃ (I9 : (Int × Unit) → H → Prop) (r10 : (Int × Unit) × H → (Int × Unit) × H → Prop), WellFounded r10 ∧ I9 (0, ()) h8 ∧
  ∀ (i_12 : Int) (h11 : H), I9 (i_12, ()) h11 →
  ldV h11 ((bk b1).add 1) fun x13 =>
  slcP x13 fun a14 l15 c16 =>
  ifP (decide (i_12 < ((l15 : Nat) : Int))) (ldV h11 ((bk b6).add 1) fun x17 =>
  ldV h11 ((bk b1).add 1) fun x18 =>
  ixS x18 i_12 4 fun a19 =>
  ldN h11 a19 4 fun x20 =>
  (x20).length = 4 ∧
  newP h11 (.cells ⟨(x20 ++ [])⟩ 41 (0, 0)) fun b21 h22 =>
  apP x17 (.slice (some (bk b21)) 1 1) h22 4 41 32 [.int .i64 0, .int .i64 0, .int .i64 0, .int .i64 0] fun s23 h24 =>
  oneP s23 (stC h24 ((bk b6).add 1) s23 fun h25 =>
  I9 ((IntKind.i64.wrap (i_12 + 1)), ()) h25 ∧ r10 (((IntKind.i64.wrap (i_12 + 1)), ()), h25) ((i_12, ()), h11)))
  (ldN h11 (bk b6) 2 fun x26 =>
  stN h11 (bk b3) x26 2 fun h27 =>
  ldN h27 (bk b3) 2 fun x28 =>
  R (.ret (.agg ⟨x28⟩)) h27)
theorem E_compassref03_Copy {p0_g : List Value} {R : Res → H → Prop} {h : H} (H0 : B_compassref03_Copy p0_g R h) : T Try.prog F.compassref03_Copy [.agg ⟨p0_g⟩] h R :=
  T_intro A_compassref03_Copy Try.func14 (c := bodyOf Try.f14) (by kernel_rfl) (by kernel_rfl) (by kernel_rfl) (cast_of (by kernel_rfl) H0)

def A_vouch_Heaviest : An := ⟨lkA [(0, rng 5), (1, rng 2), (2, rng 3), (3, rng 4)], lkL [], lkC []⟩
def B_vouch_Heaviest (p0_g : List Value) (p1_m : Value) (p2_pot : Value) (R : Res → H → Prop) (h : H) : Prop :=
  newP h (.cells ⟨p0_g⟩ 24 (0, 0)) fun b1 h2 =>
  newP h2 (.cells ⟨(cellsV p1_m)⟩ 26 (0, 0)) fun b3 h4 =>
  newP h4 (.cells ⟨(cellsV p2_pot)⟩ 27 (0, 0)) fun b5 h6 =>
  newP h6 (.cells ⟨[.int .i64 0]⟩ 2 (0, 0)) fun b7 h8 =>
  stC h8 (bk b7) (.int .i64 0) fun h9 =>
  T Try.prog F.vouch_look [.func (.func 35) ⟨[]⟩ ⟨[.pointer (some (bk b1)), .pointer (some (bk b3)), .pointer (some (bk b5)), .pointer (some (bk b7))]⟩] h9 (rt (fun v10 h11 =>
  ∃ r12, v10 = .int .i64 r12 ∧
  ldI h11 (bk b7) .i64 fun x13 =>
  R (.ret (.tuple ⟨[.int .i64 x13, .int .i64 r12]⟩)) h11) (fun v14 h15 => R (.pan v14) h15))
theorem E_vouch_Heaviest {p0_g : List Value} {p1_m : Value} {p2_pot : Value} {R : Res → H → Prop} {h : H} (H0 : B_vouch_Heaviest p0_g p1_m p2_pot R h) : T Try.prog F.vouch_Heaviest [.agg ⟨p0_g⟩, p1_m, p2_pot] h R :=
  T_intro A_vouch_Heaviest Try.func18 (c := bodyOf Try.f18) (by kernel_rfl) (by kernel_rfl) (by kernel_rfl) (cast_of (by kernel_rfl) H0)

def A_compassref03_Same : An := ⟨lkA [(0, rng 3), (1, rng 14), (2, rng 1), (3, rng 1), (4, rng 5), (5, rng 3), (6, ⟨[0, 2, 5, 7, 1, 3, 4, 6, 8, 9, 10], lkN []⟩), (7, rng 1), (8, rng 1)], lkL [(4, [(5, .int .i64)])], lkC []⟩
def B_compassref03_Same (p0_a : List Value) (p1_b : List Value) (R : Res → H → Prop) (h : H) : Prop :=
  newP h (.cells ⟨p0_a⟩ 24 (0, 0)) fun b1 h2 =>
  newP h2 (.cells ⟨p1_b⟩ 24 (0, 0)) fun b3 h4 =>
  ldI h4 ((bk b1).add 0) .i64 fun x5 =>
  ldI h4 ((bk b3).add 0) .i64 fun x6 =>
  ifP (!decide (x5 = x6)) (R (.ret (.bool false)) h4) (ldV h4 ((bk b1).add 1) fun x7 =>
  slcP x7 fun a8 l9 c10 =>
  ldV h4 ((bk b3).add 1) fun x11 =>
  slcP x11 fun a12 l13 c14 =>
  ifP (!decide (((l9 : Nat) : Int) = ((l13 : Nat) : Int))) (R (.ret (.bool false)) h4)
  (∃ (I15 : (Int × Unit) → H → Prop) (r16 : (Int × Unit) × H → (Int × Unit) × H → Prop), WellFounded r16 ∧ I15 (0, ()) h4 ∧
  ∀ (i_18 : Int) (h17 : H), I15 (i_18, ()) h17 →
  ldV h17 ((bk b1).add 1) fun x19 =>
  slcP x19 fun a20 l21 c22 =>
  ifP (decide (i_18 < ((l21 : Nat) : Int))) (ldV h17 ((bk b1).add 1) fun x23 =>
  ixS x23 i_18 4 fun a24 =>
  ldN h17 a24 4 fun x25 =>
  ldV h17 ((bk b3).add 1) fun x26 =>
  ixS x26 i_18 4 fun a27 =>
  ldN h17 a27 4 fun x28 =>
  runP Try.prog h17 (do eqGuard .neq 41 (.tmp 31) (.tmp 36) (.agg ⟨x25⟩) (.agg ⟨x28⟩); binOp .neq 41 (.agg ⟨x25⟩) (.agg ⟨x28⟩)) fun r29 =>
  boolP r29 fun b30 =>
  ifP b30 (R (.ret (.bool false)) h17)
  (I15 ((IntKind.i64.wrap (i_18 + 1)), ()) h17 ∧ r16 (((IntKind.i64.wrap (i_18 + 1)), ()), h17) ((i_18, ()), h17)))
  (R (.ret (.bool true)) h17)))
theorem E_compassref03_Same {p0_a : List Value} {p1_b : List Value} {R : Res → H → Prop} {h : H} (H0 : B_compassref03_Same p0_a p1_b R h) : T Try.prog F.compassref03_Same [.agg ⟨p0_a⟩, .agg ⟨p1_b⟩] h R :=
  T_intro A_compassref03_Same Try.func19 (c := bodyOf Try.f19) (by kernel_rfl) (by kernel_rfl) (by kernel_rfl) (cast_of (by kernel_rfl) H0)

def A_compasslaw16_path : An := ⟨lkA [(0, rng 1), (1, rng 6)], lkL [], lkC []⟩
def B_compasslaw16_path  (R : Res → H → Prop) (h : H) : Prop :=
  newP h (.cells ⟨[.int .i64 0, .slice none 0 0]⟩ 24 (0, 0)) fun b1 h2 =>
  ([.int .i64 0, .int .i64 2, .int .i64 0, .int .i64 3] : List Value).length = 4 ∧
  ([.int .i64 2, .int .i64 1, .int .i64 0, .int .i64 7] : List Value).length = 4 ∧
  ([.int .i64 1, .int .i64 3, .int .i64 0, .int .i64 3] : List Value).length = 4 ∧
  newP h2 (.cells ⟨[.int .i64 0, .int .i64 2, .int .i64 0, .int .i64 3, .int .i64 2, .int .i64 1, .int .i64 0, .int .i64 7, .int .i64 1, .int .i64 3, .int .i64 0, .int .i64 3]⟩ 41 (0, 0)) fun b3 h4 =>
  stN h4 (bk b1) [.int .i64 4, .slice (some (bk b3)) 3 3] 2 fun h5 =>
  ldN h5 (bk b1) 2 fun x6 =>
  R (.ret (.agg ⟨x6⟩)) h5
theorem E_compasslaw16_path  {R : Res → H → Prop} {h : H} (H0 : B_compasslaw16_path  R h) : T Try.prog F.compasslaw16_path [] h R :=
  T_intro A_compasslaw16_path Try.func20 (c := bodyOf Try.f20) (by kernel_rfl) (by kernel_rfl) (by kernel_rfl) (cast_of (by kernel_rfl) H0)

def A_bimatch_Sides : An := ⟨lkA [(0, rng 2), (1, rng 4), (2, rng 3), (3, rng 2), (4, rng 8), (5, rng 2), (6, rng 4), (7, rng 1), (8, rng 6), (9, rng 9), (10, rng 3), (11, rng 2), (12, rng 2)], lkL [(7, [(26, .int .i64)])], lkC []⟩
def B_bimatch_Sides (p0_g : List Value) (p1_left : Int) (R : Res → H → Prop) (h : H) : Prop :=
  newP h (.cells ⟨p0_g⟩ 24 (0, 0)) fun b1 h2 =>
  newP h2 (.cells ⟨[.int .i64 0, .int .i64 0]⟩ 53 (0, 0)) fun b3 h4 =>
  ldN h4 (bk b1) 2 fun x5 =>
  T Try.prog F.graph_Check [.agg ⟨x5⟩] h4 (rt (fun v6 h7 =>
  ∃ r8 : List Value, r8.length = 2 ∧ v6 = .agg ⟨r8⟩ ∧
  newP h7 (.cells ⟨[.int .i64 0, .int .i64 0]⟩ 53 (0, 0)) fun b9 h10 =>
  stN h10 (bk b9) r8 2 fun h11 =>
  ldI h11 ((bk b9).add 0) .i64 fun x12 =>
  ifP (!decide (x12 = 0)) (ldN h11 (bk b9) 2 fun x13 =>
  stN h11 (bk b3) x13 2 fun h14 =>
  ldN h14 (bk b3) 2 fun x15 =>
  R (.ret (.agg ⟨x15⟩)) h14)
  (ifP (decide (p1_left < 0)) (stN h11 (bk b3) [.int .i64 140, .int .i64 0] 2 fun h16 =>
  ldN h16 (bk b3) 2 fun x17 =>
  R (.ret (.agg ⟨x17⟩)) h16) (ldI h11 ((bk b1).add 0) .i64 fun x18 =>
  ifP (decide (x18 < p1_left)) (stN h11 (bk b3) [.int .i64 140, .int .i64 0] 2 fun h19 =>
  ldN h19 (bk b3) 2 fun x20 =>
  R (.ret (.agg ⟨x20⟩)) h19)
  (ldV h11 ((bk b1).add 1) fun x21 =>
  slcP x21 fun a22 l23 c24 =>
  ∃ (I25 : (Int × Unit) → H → Prop) (r26 : (Int × Unit) × H → (Int × Unit) × H → Prop), WellFounded r26 ∧ I25 (0, ()) h11 ∧
  ∀ (s28 : Int) (h27 : H), I25 (s28, ()) h27 →
  ifP (decide (s28 < ((l23 : Nat) : Int))) (ixS x21 s28 4 fun a29 =>
  ldN h27 a29 4 fun x30 =>
  newP h27 (.cells ⟨[.int .i64 0, .int .i64 0, .int .i64 0, .int .i64 0]⟩ 41 (0, 0)) fun b31 h32 =>
  stN h32 (bk b31) x30 4 fun h33 =>
  ldI h33 ((bk b31).add 0) .i64 fun x34 =>
  ldI h33 ((bk b31).add 1) .i64 fun x35 =>
  ifP ((decide (x34 < p1_left)) == (decide (x35 < p1_left))) (stN h33 (bk b3) [.int .i64 140, .int .i64 s28] 2 fun h36 =>
  ldN h36 (bk b3) 2 fun x37 =>
  R (.ret (.agg ⟨x37⟩)) h36)
  (I25 ((IntKind.i64.wrap (s28 + 1)), ()) h33 ∧ r26 (((IntKind.i64.wrap (s28 + 1)), ()), h33) ((s28, ()), h27)))
  (stN h27 (bk b3) [.int .i64 0, .int .i64 0] 2 fun h38 =>
  ldN h38 (bk b3) 2 fun x39 =>
  R (.ret (.agg ⟨x39⟩)) h38))))) (fun v40 h41 => R (.pan v40) h41))
theorem E_bimatch_Sides {p0_g : List Value} {p1_left : Int} {R : Res → H → Prop} {h : H} (H0 : B_bimatch_Sides p0_g p1_left R h) : T Try.prog F.bimatch_Sides [.agg ⟨p0_g⟩, .int .i64 p1_left] h R :=
  T_intro A_bimatch_Sides Try.func21 (c := bodyOf Try.f21) (by kernel_rfl) (by kernel_rfl) (by kernel_rfl) (cast_of (by kernel_rfl) H0)

def A_assign_table_byRows : An := ⟨lkA [(0, rng 2), (1, ⟨[0, 1, 2, 4, 5, 6, 3, 7, 8, 9], lkN []⟩), (2, ⟨[0, 1, 2, 3, 4, 7, 8, 9, 12, 13, 14, 5, 10, 15, 6, 11, 16, 17, 18, 19], lkN []⟩), (3, rng 6), (4, rng 1), (5, rng 2), (6, rng 7), (7, rng 2), (8, rng 5), (9, rng 1), (10, rng 2), (11, rng 3), (12, rng 2), (13, rng 1), (14, rng 8), (15, rng 1), (16, rng 5), (17, rng 15), (18, rng 15), (19, rng 2), (20, rng 6), (21, rng 1), (22, rng 2), (23, ⟨[0, 1, 2, 4, 5, 6, 7, 9, 3, 8, 10, 11, 12, 13, 14], lkN []⟩), (24, rng 2), (25, ⟨[0, 1, 2, 3, 5, 6, 7, 9, 4, 8, 10, 11, 12, 13], lkN []⟩)], lkL [(4, [(45, .int .i64)]), (9, [(59, .int .i64)]), (15, [(8, .val), (73, .int .i64)]), (21, [(113, .int .i64)])], lkC []⟩
def B_assign_table_byRows (p0_t : Value) (R : Res → H → Prop) (h : H) : Prop :=
  ptrP p0_t fun a1 =>
  ptrP p0_t fun a2 =>
  ldI h (a1.add 1) .i64 fun x3 =>
  ldI h (a2.add 0) .i64 fun x4 =>
  ptrP p0_t fun a5 =>
  ptrP p0_t fun a6 =>
  ptrP p0_t fun a7 =>
  ldI h (a5.add 0) .i64 fun x8 =>
  ldI h (a6.add 1) .i64 fun x9 =>
  ldI h (a7.add 1) .i64 fun x10 =>
  mkS x8 x8 8 [.int .i64 0] 2 h fun b11 h12 =>
  mkS x9 x9 8 [.int .i64 0] 2 h12 fun b13 h14 =>
  mkS x10 x10 8 [.int .i64 0] 3 h14 fun b15 h16 =>
  oneP p0_t (newP h16 (.cells ⟨[p0_t, .slice (some (bk b11)) x8.toNat x8.toNat, .slice (some (bk b13)) x9.toNat x9.toNat, .slice (some (bk b15)) x10.toNat x10.toNat, .int .i64 (IntKind.i64.wrap (x3 - x4))]⟩ 84 (0, 0)) fun b17 h18 =>
  ldV h18 ((bk b17).add 3) fun x19 =>
  slcP x19 fun a20 l21 c22 =>
  ∃ (I23 : (Int × Unit) → H → Prop) (r24 : (Int × Unit) × H → (Int × Unit) × H → Prop), WellFounded r24 ∧ I23 (0, ()) h18 ∧
  ∀ (s26 : Int) (h25 : H), I23 (s26, ()) h25 →
  ifP (decide (s26 < ((l21 : Nat) : Int))) (ldV h25 ((bk b17).add 3) fun x27 =>
  ixS x27 s26 1 fun a28 =>
  stC h25 a28 (.int .i64 (-1)) fun h29 =>
  I23 ((IntKind.i64.wrap (s26 + 1)), ()) h29 ∧ r24 (((IntKind.i64.wrap (s26 + 1)), ()), h29) ((s26, ()), h25))
  (ptrP p0_t fun a30 =>
  ldI h25 (a30.add 0) .i64 fun x31 =>
  ∃ (I32 : (Int × Unit) → H → Prop) (r33 : (Int × Unit) × H → (Int × Unit) × H → Prop), WellFounded r33 ∧ I32 (0, ()) h25 ∧
  ∀ (s35 : Int) (h34 : H), I32 (s35, ()) h34 →
  ifP (decide (s35 < x31)) (T Try.prog F.assign_rows_take [.pointer (some (bk b17)), .int .i64 s35] h34 (rt (fun v36 h37 =>
  v36 = .tuple ⟨[]⟩ ∧
  I32 ((IntKind.i64.wrap (s35 + 1)), ()) h37 ∧ r33 (((IntKind.i64.wrap (s35 + 1)), ()), h37) ((s35, ()), h34)) (fun v38 h39 => R (.pan v38) h39)))
  (ldV h34 ((bk b17).add 3) fun x40 =>
  slcP x40 fun a41 l42 c43 =>
  (0 : Int) ≤ (IntKind.i64.wrap (x3 - x4)) ∧ (IntKind.i64.wrap (x3 - x4)) ≤ ((c43 : Nat) : Int) ∧
  (0 : Int) ≤ (0 : Int) ∧ (0 : Int) ≤ (IntKind.i64.wrap (x3 - x4)) ∧
  slcP (sliceV a41 c43 (0 : Int) (IntKind.i64.wrap (x3 - x4)) 1) fun a44 l45 c46 =>
  ∃ (I47 : (Value × Int × Unit) → H → Prop) (r48 : (Value × Int × Unit) × H → (Value × Int × Unit) × H → Prop), WellFounded r48 ∧ I47 ((.slice none 0 0 : Value), 0, ()) h34 ∧
  ∀ (match_50 : Value) (s51 : Int) (h49 : H), I47 (match_50, s51, ()) h49 →
  ifP (decide (s51 < ((l45 : Nat) : Int))) (ixS (sliceV a41 c43 (0 : Int) (IntKind.i64.wrap (x3 - x4)) 1) s51 1 fun a52 =>
  ldI h49 a52 .i64 fun x53 =>
  ifP (decide (0 ≤ x53)) (ptrP p0_t fun a54 =>
  ldV h49 (a54.add 2) fun x55 =>
  ixS x55 x53 1 fun a56 =>
  ldV h49 a56 fun x57 =>
  ixS x57 s51 1 fun a58 =>
  ldI h49 a58 .i64 fun x59 =>
  ifP (decide (0 < x59)) (ptrP p0_t fun a60 =>
  ldV h49 (a60.add 2) fun x61 =>
  ixS x61 x53 1 fun a62 =>
  ldV h49 a62 fun x63 =>
  ixS x63 s51 1 fun a64 =>
  ldI h49 a64 .i64 fun x65 =>
  newP h49 (.cells ⟨[.int .i64 (IntKind.i64.wrap (x65 - 1))]⟩ 3 (0, 0)) fun b66 h67 =>
  apP match_50 (.slice (some (bk b66)) 1 1) h67 1 3 8 [.int .i64 0] fun s68 h69 =>
  I47 (s68, (IntKind.i64.wrap (s51 + 1)), ()) h69 ∧ r48 ((s68, (IntKind.i64.wrap (s51 + 1)), ()), h69) ((match_50, s51, ()), h49))
  (I47 (match_50, (IntKind.i64.wrap (s51 + 1)), ()) h49 ∧ r48 ((match_50, (IntKind.i64.wrap (s51 + 1)), ()), h49) ((match_50, s51, ()), h49))) (I47 (match_50, (IntKind.i64.wrap (s51 + 1)), ()) h49 ∧ r48 ((match_50, (IntKind.i64.wrap (s51 + 1)), ()), h49) ((match_50, s51, ()), h49)))
  (ldV h49 ((bk b17).add 1) fun x70 =>
  slcP x70 fun a71 l72 c73 =>
  ∃ (I74 : (Int × Unit) → H → Prop) (r75 : (Int × Unit) × H → (Int × Unit) × H → Prop), WellFounded r75 ∧ I74 (0, ()) h49 ∧
  ∀ (s77 : Int) (h76 : H), I74 (s77, ()) h76 →
  ifP (decide (s77 < ((l72 : Nat) : Int))) (ldV h76 ((bk b17).add 1) fun x78 =>
  ldV h76 ((bk b17).add 1) fun x79 =>
  ixS x79 s77 1 fun a80 =>
  ldI h76 a80 .i64 fun x81 =>
  ixS x78 s77 1 fun a82 =>
  stC h76 a82 (.int .i64 (if x81 < 0 then 0 else x81)) fun h83 =>
  I74 ((IntKind.i64.wrap (s77 + 1)), ()) h83 ∧ r75 (((IntKind.i64.wrap (s77 + 1)), ()), h83) ((s77, ()), h76))
  (ldV h76 ((bk b17).add 1) fun x84 =>
  ldV h76 ((bk b17).add 2) fun x85 =>
  slcP x85 fun a86 l87 c88 =>
  (0 : Int) ≤ (IntKind.i64.wrap (x3 - x4)) ∧ (IntKind.i64.wrap (x3 - x4)) ≤ ((c88 : Nat) : Int) ∧
  (0 : Int) ≤ (0 : Int) ∧ (0 : Int) ≤ (IntKind.i64.wrap (x3 - x4)) ∧
  apP x84 (sliceV a86 c88 (0 : Int) (IntKind.i64.wrap (x3 - x4)) 1) h76 1 2 8 [.int .i64 0] fun s89 h90 =>
  R (.ret (.tuple ⟨[match_50, s89]⟩)) h90)))))
theorem E_assign_table_byRows {p0_t : Value} {R : Res → H → Prop} {h : H} (H0 : B_assign_table_byRows p0_t R h) : T Try.prog F.assign_table_byRows [p0_t] h R :=
  T_intro A_assign_table_byRows Try.func22 (c := bodyOf Try.f22) (by kernel_rfl) (by kernel_rfl) (by kernel_rfl) (cast_of (by kernel_rfl) H0)

def A_assign_table_byTrees : An := ⟨lkA [(0, rng 2), (1, ⟨[0, 1, 2, 3, 6, 7, 8, 4, 9, 5, 10, 11, 12, 13], lkN []⟩), (2, rng 6), (3, rng 1), (4, rng 2), (5, rng 7), (6, rng 5), (7, rng 14), (8, rng 3), (9, ⟨[0, 1, 2, 4, 5, 6, 7, 9, 12, 13, 14, 3, 8, 10, 11, 15, 16, 17, 18], lkN [(15, [3, 8, 11])]⟩), (10, rng 2), (11, rng 5), (12, rng 1), (13, rng 2), (14, rng 3), (15, rng 2), (16, rng 1), (17, ⟨[0, 1, 2, 4, 5, 6, 10, 3, 7, 8, 9], lkN []⟩), (18, rng 1), (19, rng 5), (20, rng 2), (21, ⟨[0, 1, 2, 3, 5, 8, 9, 10, 11, 4, 6, 7, 12, 13, 14, 15, 16, 17, 18, 19], lkN []⟩), (22, rng 2), (23, ⟨[0, 1, 2, 3, 5, 4, 6], lkN []⟩)], lkL [(3, [(29, .int .i64)]), (7, [(6, .int .i64)]), (12, [(81, .int .i64)]), (18, [(8, .val), (98, .int .i64)])], lkC []⟩
def B_assign_table_byTrees (p0_t : Value) (R : Res → H → Prop) (h : H) : Prop :=
  ptrP p0_t fun a1 =>
  ptrP p0_t fun a2 =>
  ldI h (a1.add 1) .i64 fun x3 =>
  ldI h (a2.add 1) .i64 fun x4 =>
  mkS x3 x3 8 [.int .i64 0] 2 h fun b5 h6 =>
  mkS x4 x4 8 [.int .i64 0] 3 h6 fun b7 h8 =>
  oneP p0_t (newP h8 (.cells ⟨[p0_t, .slice (some (bk b5)) x3.toNat x3.toNat, .slice (some (bk b7)) x4.toNat x4.toNat]⟩ 88 (0, 0)) fun b9 h10 =>
  ldV h10 ((bk b9).add 2) fun x11 =>
  slcP x11 fun a12 l13 c14 =>
  ∃ (I15 : (Int × Unit) → H → Prop) (r16 : (Int × Unit) × H → (Int × Unit) × H → Prop), WellFounded r16 ∧ I15 (0, ()) h10 ∧
  ∀ (s18 : Int) (h17 : H), I15 (s18, ()) h17 →
  ifP (decide (s18 < ((l13 : Nat) : Int))) (ldV h17 ((bk b9).add 2) fun x19 =>
  ixS x19 s18 1 fun a20 =>
  stC h17 a20 (.int .i64 (-1)) fun h21 =>
  ptrP p0_t fun a22 =>
  ldI h21 (a22.add 0) .i64 fun x23 =>
  ∃ (I24 : (Int × Unit) → H → Prop) (r25 : (Int × Unit) × H → (Int × Unit) × H → Prop), WellFounded r25 ∧ I24 (x23, ()) h21 ∧
  ∀ (w_27 : Int) (h26 : H), I24 (w_27, ()) h26 →
  ptrP p0_t fun a28 =>
  ldI h26 (a28.add 0) .i64 fun x29 =>
  ifP (decide (s18 < x29)) (ptrP p0_t fun a30 =>
  ldI h26 (a30.add 1) .i64 fun x31 =>
  ifP (decide (w_27 < x31)) (ldV h26 ((bk b9).add 1) fun x32 =>
  ldV h26 ((bk b9).add 1) fun x33 =>
  ixS x33 s18 1 fun a34 =>
  ldI h26 a34 .i64 fun x35 =>
  T Try.prog F.assign_table_weight [p0_t, .int .i64 s18, .int .i64 w_27] h26 (rt (fun v36 h37 =>
  ∃ r38, v36 = .int .i64 r38 ∧
  (sameAt 2 a34 h26 h37) ∧
  (sameAt 2 ((bk b9).add 1) h26 h37) ∧
  (sameAt 2 ((bk b9).add 1) h26 h37) ∧
  ixS x32 s18 1 fun a39 =>
  stC h37 a39 (.int .i64 (if x35 < r38 then r38 else x35)) fun h40 =>
  I24 ((IntKind.i64.wrap (w_27 + 1)), ()) h40 ∧ r25 (((IntKind.i64.wrap (w_27 + 1)), ()), h40) ((w_27, ()), h26)) (fun v41 h42 => R (.pan v41) h42)))
  (I15 ((IntKind.i64.wrap (s18 + 1)), ()) h26 ∧ r16 (((IntKind.i64.wrap (s18 + 1)), ()), h26) ((s18, ()), h17))) (I15 ((IntKind.i64.wrap (s18 + 1)), ()) h26 ∧ r16 (((IntKind.i64.wrap (s18 + 1)), ()), h26) ((s18, ()), h17)))
  (ptrP p0_t fun a43 =>
  ldI h17 (a43.add 0) .i64 fun x44 =>
  ∃ (I45 : (Int × Unit) → H → Prop) (r46 : (Int × Unit) × H → (Int × Unit) × H → Prop), WellFounded r46 ∧ I45 (0, ()) h17 ∧
  ∀ (s48 : Int) (h47 : H), I45 (s48, ()) h47 →
  ifP (decide (s48 < x44)) (T Try.prog F.assign_trees_grow [.pointer (some (bk b9)), .int .i64 s48] h47 (rt (fun v49 h50 =>
  v49 = .tuple ⟨[]⟩ ∧
  I45 ((IntKind.i64.wrap (s48 + 1)), ()) h50 ∧ r46 (((IntKind.i64.wrap (s48 + 1)), ()), h50) ((s48, ()), h47)) (fun v51 h52 => R (.pan v51) h52)))
  (ptrP p0_t fun a53 =>
  ldV h47 ((bk b9).add 2) fun x54 =>
  ldI h47 (a53.add 0) .i64 fun x55 =>
  slcP x54 fun a56 l57 c58 =>
  (0 : Int) ≤ x55 ∧ x55 ≤ ((c58 : Nat) : Int) ∧
  (0 : Int) ≤ (0 : Int) ∧ (0 : Int) ≤ x55 ∧
  slcP (sliceV a56 c58 (0 : Int) x55 1) fun a59 l60 c61 =>
  ∃ (I62 : (Value × Int × Unit) → H → Prop) (r63 : (Value × Int × Unit) × H → (Value × Int × Unit) × H → Prop), WellFounded r63 ∧ I62 ((.slice none 0 0 : Value), 0, ()) h47 ∧
  ∀ (match_65 : Value) (s66 : Int) (h64 : H), I62 (match_65, s66, ()) h64 →
  ifP (decide (s66 < ((l60 : Nat) : Int))) (ixS (sliceV a56 c58 (0 : Int) x55 1) s66 1 fun a67 =>
  ldI h64 a67 .i64 fun x68 =>
  ifP (decide (0 ≤ x68)) (ptrP p0_t fun a69 =>
  ptrP p0_t fun a70 =>
  ldV h64 (a69.add 2) fun x71 =>
  ixS x71 s66 1 fun a72 =>
  ldV h64 a72 fun x73 =>
  ldI h64 (a70.add 0) .i64 fun x74 =>
  ixS x73 (IntKind.i64.wrap (x68 - x74)) 1 fun a75 =>
  ldI h64 a75 .i64 fun x76 =>
  newP h64 (.cells ⟨[.int .i64 (IntKind.i64.wrap (x76 - 1))]⟩ 3 (0, 0)) fun b77 h78 =>
  apP match_65 (.slice (some (bk b77)) 1 1) h78 1 3 8 [.int .i64 0] fun s79 h80 =>
  I62 (s79, (IntKind.i64.wrap (s66 + 1)), ()) h80 ∧ r63 ((s79, (IntKind.i64.wrap (s66 + 1)), ()), h80) ((match_65, s66, ()), h64))
  (I62 (match_65, (IntKind.i64.wrap (s66 + 1)), ()) h64 ∧ r63 ((match_65, (IntKind.i64.wrap (s66 + 1)), ()), h64) ((match_65, s66, ()), h64)))
  (ldV h64 ((bk b9).add 1) fun x81 =>
  R (.ret (.tuple ⟨[match_65, x81]⟩)) h64))))
theorem E_assign_table_byTrees {p0_t : Value} {R : Res → H → Prop} {h : H} (H0 : B_assign_table_byTrees p0_t R h) : T Try.prog F.assign_table_byTrees [p0_t] h R :=
  T_intro A_assign_table_byTrees Try.func23 (c := bodyOf Try.f23) (by kernel_rfl) (by kernel_rfl) (by kernel_rfl) (cast_of (by kernel_rfl) H0)

def A_vouch_Heaviest_c1 : An := ⟨lkA [(0, rng 2), (1, rng 3), (2, rng 6), (3, rng 1), (4, rng 3), (5, rng 1), (6, rng 3), (7, rng 7), (8, rng 4), (9, rng 2), (10, rng 4), (11, rng 1), (12, rng 4), (13, ⟨[0, 1, 2, 4, 9, 14, 3, 5, 6, 7, 8, 10, 11, 12, 13, 15, 16, 17, 18], lkN []⟩), (14, rng 2), (15, rng 6), (16, rng 2)], lkL [(5, [(4, .int .i64), (22, .int .i64)]), (11, [(40, .int .i64)])], lkC []⟩
def B_vouch_Heaviest_c1 (c0 : Value) (c1 : Value) (c2 : Value) (c3 : Value) (R : Res → H → Prop) (h : H) : Prop :=
  ptrP c0 fun a1 =>
  ldN h a1 2 fun x2 =>
  T Try.prog F.vouch_right [.agg ⟨x2⟩] h (rt (fun v3 h4 =>
  v3 = .tuple ⟨[]⟩ ∧
  ptrP c0 fun a5 =>
  ldN h4 a5 2 fun x6 =>
  ptrP c1 fun a7 =>
  ldV h4 a7 fun x8 =>
  T Try.prog F.vouch_matched [.agg ⟨x6⟩, x8, .func (.func 38) ⟨[]⟩ ⟨[]⟩] h4 (rt (fun v9 h10 =>
  v9 = .tuple ⟨[]⟩ ∧
  ptrP c2 fun a11 =>
  ldV h10 a11 fun x12 =>
  slcP x12 fun a13 l14 c15 =>
  ptrP c0 fun a16 =>
  ldI h10 (a16.add 0) .i64 fun x17 =>
  T Try.prog F.vouch_need [.bool (decide (((l14 : Nat) : Int) = x17)), .int .i64 221] h10 (rt (fun v18 h19 =>
  v18 = .tuple ⟨[]⟩ ∧
  ptrP c2 fun a20 =>
  ldV h19 a20 fun x21 =>
  slcP x21 fun a22 l23 c24 =>
  ∃ (I25 : (Int × Int × Unit) → H → Prop) (r26 : (Int × Int × Unit) × H → (Int × Int × Unit) × H → Prop), WellFounded r26 ∧ I25 (0, 0, ()) h19 ∧
  ∀ (sum_28 : Int) (s29 : Int) (h27 : H), I25 (sum_28, s29, ()) h27 →
  ifP (decide (s29 < ((l23 : Nat) : Int))) (ixS x21 s29 1 fun a30 =>
  ldI h27 a30 .i64 fun x31 =>
  ifP (decide (0 ≤ x31)) (T Try.prog F.vouch_need [.bool (decide (x31 ≤ 4398046511104)), .int .i64 221] h27 (rt (fun v32 h33 =>
  v32 = .tuple ⟨[]⟩ ∧
  I25 ((IntKind.i64.wrap (sum_28 + x31)), (IntKind.i64.wrap (s29 + 1)), ()) h33 ∧ r26 (((IntKind.i64.wrap (sum_28 + x31)), (IntKind.i64.wrap (s29 + 1)), ()), h33) ((sum_28, s29, ()), h27)) (fun v34 h35 => R (.pan v34) h35))) (T Try.prog F.vouch_need [.bool false, .int .i64 221] h27 (rt (fun v36 h37 =>
  v36 = .tuple ⟨[]⟩ ∧
  I25 ((IntKind.i64.wrap (sum_28 + x31)), (IntKind.i64.wrap (s29 + 1)), ()) h37 ∧ r26 (((IntKind.i64.wrap (sum_28 + x31)), (IntKind.i64.wrap (s29 + 1)), ()), h37) ((sum_28, s29, ()), h27)) (fun v38 h39 => R (.pan v38) h39))))
  (ptrP c0 fun a40 =>
  ldV h27 (a40.add 1) fun x41 =>
  slcP x41 fun a42 l43 c44 =>
  ∃ (I45 : (Int × Unit) → H → Prop) (r46 : (Int × Unit) × H → (Int × Unit) × H → Prop), WellFounded r46 ∧ I45 (0, ()) h27 ∧
  ∀ (s48 : Int) (h47 : H), I45 (s48, ()) h47 →
  ifP (decide (s48 < ((l43 : Nat) : Int))) (ixS x41 s48 4 fun a49 =>
  ldN h47 a49 4 fun x50 =>
  newP h47 (.cells ⟨[.int .i64 0, .int .i64 0, .int .i64 0, .int .i64 0]⟩ 41 (0, 0)) fun b51 h52 =>
  stN h52 (bk b51) x50 4 fun h53 =>
  ldN h53 (bk b51) 4 fun x54 =>
  T Try.prog F.vouch_loop [.agg ⟨x54⟩] h53 (rt (fun v55 h56 =>
  ∃ r57, v55 = .bool r57 ∧
  ifP r57 (T Try.prog F.vouch_need [.bool true, .int .i64 221] h56 (rt (fun v58 h59 =>
  v58 = .tuple ⟨[]⟩ ∧
  I45 ((IntKind.i64.wrap (s48 + 1)), ()) h59 ∧ r46 (((IntKind.i64.wrap (s48 + 1)), ()), h59) ((s48, ()), h47)) (fun v60 h61 => R (.pan v60) h61))) (ptrP c2 fun a62 =>
  ldV h56 a62 fun x63 =>
  ldI h56 ((bk b51).add 0) .i64 fun x64 =>
  ixS x63 x64 1 fun a65 =>
  ldI h56 a65 .i64 fun x66 =>
  ptrP c2 fun a67 =>
  ldV h56 a67 fun x68 =>
  ldI h56 ((bk b51).add 1) .i64 fun x69 =>
  ixS x68 x69 1 fun a70 =>
  ldI h56 a70 .i64 fun x71 =>
  ldI h56 ((bk b51).add 3) .i64 fun x72 =>
  T Try.prog F.vouch_need [.bool (decide (x72 ≤ (IntKind.i64.wrap (x66 + x71)))), .int .i64 221] h56 (rt (fun v73 h74 =>
  v73 = .tuple ⟨[]⟩ ∧
  I45 ((IntKind.i64.wrap (s48 + 1)), ()) h74 ∧ r46 (((IntKind.i64.wrap (s48 + 1)), ()), h74) ((s48, ()), h47)) (fun v75 h76 => R (.pan v75) h76)))) (fun v77 h78 => R (.pan v77) h78)))
  (ptrP c0 fun a79 =>
  ldN h47 a79 2 fun x80 =>
  ptrP c1 fun a81 =>
  ldV h47 a81 fun x82 =>
  T Try.prog F.vouch_cost [.agg ⟨x80⟩, x82] h47 (rt (fun v83 h84 =>
  ∃ r85, v83 = .int .i64 r85 ∧
  T Try.prog F.vouch_need [.bool (decide (sum_28 = r85)), .int .i64 221] h84 (rt (fun v86 h87 =>
  v86 = .tuple ⟨[]⟩ ∧
  ptrP c3 fun a88 =>
  stC h87 a88 (.int .i64 sum_28) fun h89 =>
  R (.ret (.tuple ⟨[]⟩)) h89) (fun v90 h91 => R (.pan v90) h91))) (fun v92 h93 => R (.pan v92) h93))))) (fun v94 h95 => R (.pan v94) h95))) (fun v96 h97 => R (.pan v96) h97))) (fun v98 h99 => R (.pan v98) h99))
theorem E_vouch_Heaviest_c1 {c0 : Value} {c1 : Value} {c2 : Value} {c3 : Value} {R : Res → H → Prop} {h : H} (H0 : B_vouch_Heaviest_c1 c0 c1 c2 c3 R h) : T Try.prog F.vouch_Heaviest_c1 [c0, c1, c2, c3] h R :=
  T_intro A_vouch_Heaviest_c1 Try.func35 (c := bodyOf Try.f35) (by kernel_rfl) (by kernel_rfl) (by kernel_rfl) (cast_of (by kernel_rfl) H0)

def A_vouch_right : An := ⟨lkA [(0, rng 1), (1, rng 4), (2, rng 6)], lkL [], lkC []⟩
def B_vouch_right (p0_g : List Value) (R : Res → H → Prop) (h : H) : Prop :=
  newP h (.cells ⟨p0_g⟩ 24 (0, 0)) fun b1 h2 =>
  ldN h2 (bk b1) 2 fun x3 =>
  T Try.prog F.graph_Check [.agg ⟨x3⟩] h2 (rt (fun v4 h5 =>
  ∃ r6 : List Value, r6.length = 2 ∧ v4 = .agg ⟨r6⟩ ∧
  newP h5 (.cells ⟨[.int .i64 0, .int .i64 0]⟩ 53 (0, 0)) fun b7 h8 =>
  stN h8 (bk b7) r6 2 fun h9 =>
  ldI h9 ((bk b7).add 0) .i64 fun x10 =>
  ldI h9 ((bk b7).add 0) .i64 fun x11 =>
  T Try.prog F.vouch_need [.bool (decide (x10 = 0)), .int .i64 x11] h9 (rt (fun v12 h13 =>
  v12 = .tuple ⟨[]⟩ ∧
  R (.ret (.tuple ⟨[]⟩)) h13) (fun v14 h15 => R (.pan v14) h15))) (fun v16 h17 => R (.pan v16) h17))
theorem E_vouch_right {p0_g : List Value} {R : Res → H → Prop} {h : H} (H0 : B_vouch_right p0_g R h) : T Try.prog F.vouch_right [.agg ⟨p0_g⟩] h R :=
  T_intro A_vouch_right Try.func36 (c := bodyOf Try.f36) (by kernel_rfl) (by kernel_rfl) (by kernel_rfl) (cast_of (by kernel_rfl) H0)

def A_vouch_matched : An := ⟨lkA [(0, rng 1), (1, rng 5), (2, rng 4), (3, rng 3), (4, rng 1), (5, rng 3), (6, rng 7), (7, rng 4), (8, rng 6), (9, rng 1), (10, rng 2), (11, rng 7), (12, ⟨[0, 1, 2, 4, 5, 3, 6, 7, 8], lkN [(6, [3])]⟩), (13, rng 2), (14, rng 2)], lkL [(4, [(22, .int .i64)]), (9, [(40, .int .i64)])], lkC []⟩
def B_vouch_matched (p0_g : List Value) (p1_m : Value) (p2_most : Value) (R : Res → H → Prop) (h : H) : Prop :=
  newP h (.cells ⟨p0_g⟩ 24 (0, 0)) fun b1 h2 =>
  ldV h2 ((bk b1).add 1) fun x3 =>
  slcP x3 fun a4 l5 c6 =>
  T Try.prog F.vouch_rising [p1_m, .int .i64 ((l5 : Nat) : Int)] h2 (rt (fun v7 h8 =>
  v7 = .tuple ⟨[]⟩ ∧
  ldI h8 ((bk b1).add 0) .i64 fun x9 =>
  mkS x9 x9 8 [.int .i64 0] 3 h8 fun b10 h11 =>
  slcP p1_m fun a12 l13 c14 =>
  ∃ (I15 : (Int × Unit) → H → Prop) (r16 : (Int × Unit) × H → (Int × Unit) × H → Prop), WellFounded r16 ∧ I15 (0, ()) h11 ∧
  ∀ (s18 : Int) (h17 : H), I15 (s18, ()) h17 →
  ifP (decide (s18 < ((l13 : Nat) : Int))) (ixS p1_m s18 1 fun a19 =>
  ldI h17 a19 .i64 fun x20 =>
  ldV h17 ((bk b1).add 1) fun x21 =>
  ixS x21 x20 4 fun a22 =>
  ldN h17 a22 4 fun x23 =>
  newP h17 (.cells ⟨[.int .i64 0, .int .i64 0, .int .i64 0, .int .i64 0]⟩ 41 (0, 0)) fun b24 h25 =>
  stN h25 (bk b24) x23 4 fun h26 =>
  ldN h26 (bk b24) 4 fun x27 =>
  T Try.prog F.vouch_loop [.agg ⟨x27⟩] h26 (rt (fun v28 h29 =>
  ∃ r30, v28 = .bool r30 ∧
  T Try.prog F.vouch_need [.bool (!r30), .int .i64 221] h29 (rt (fun v31 h32 =>
  v31 = .tuple ⟨[]⟩ ∧
  ldI h32 ((bk b24).add 0) .i64 fun x33 =>
  ldI h32 ((bk b24).add 1) .i64 fun x34 =>
  ∃ (I35 : (Int × Unit) → H → Prop) (r36 : (Int × Unit) × H → (Int × Unit) × H → Prop), WellFounded r36 ∧ I35 (0, ()) h32 ∧
  ∀ (s38 : Int) (h37 : H), I35 (s38, ()) h37 →
  ifP (decide (s38 < 2)) (0 ≤ s38 ∧ s38 < ((2 : Nat) : Int) ∧
  ptI [.int .i64 x33, .int .i64 x34] (s38.toNat * 1) .i64 fun x39 =>
  ixS (.slice (some (bk b10)) x9.toNat x9.toNat) x39 1 fun a40 =>
  ldI h37 a40 .i64 fun x41 =>
  ixS (.slice (some (bk b10)) x9.toNat x9.toNat) x39 1 fun a42 =>
  stC h37 a42 (.int .i64 (IntKind.i64.wrap (x41 + 1))) fun h43 =>
  ixS (.slice (some (bk b10)) x9.toNat x9.toNat) x39 1 fun a44 =>
  ldI h43 a44 .i64 fun x45 =>
  funP Try.prog p2_most [.int .i64 x39] fun f46 as47 =>
  T Try.prog f46 as47 h43 (rt (fun v48 h49 =>
  ∃ r50, v48 = .int .i64 r50 ∧
  (sameAt 2 a44 h43 h49) ∧
  T Try.prog F.vouch_need [.bool (decide (x45 ≤ r50)), .int .i64 221] h49 (rt (fun v51 h52 =>
  v51 = .tuple ⟨[]⟩ ∧
  I35 ((IntKind.i64.wrap (s38 + 1)), ()) h52 ∧ r36 (((IntKind.i64.wrap (s38 + 1)), ()), h52) ((s38, ()), h37)) (fun v53 h54 => R (.pan v53) h54))) (fun v55 h56 => R (.pan v55) h56)))
  (I15 ((IntKind.i64.wrap (s18 + 1)), ()) h37 ∧ r16 (((IntKind.i64.wrap (s18 + 1)), ()), h37) ((s18, ()), h17))) (fun v57 h58 => R (.pan v57) h58))) (fun v59 h60 => R (.pan v59) h60)))
  (R (.ret (.tuple ⟨[]⟩)) h17)) (fun v61 h62 => R (.pan v61) h62))
theorem E_vouch_matched {p0_g : List Value} {p1_m : Value} {p2_most : Value} {R : Res → H → Prop} {h : H} (H0 : B_vouch_matched p0_g p1_m p2_most R h) : T Try.prog F.vouch_matched [.agg ⟨p0_g⟩, p1_m, p2_most] h R :=
  T_intro A_vouch_matched Try.func37 (c := bodyOf Try.f37) (by kernel_rfl) (by kernel_rfl) (by kernel_rfl) (cast_of (by kernel_rfl) H0)

def A_vouch_one : An := ⟨lkA [(0, rng 1), (1, rng 1)], lkL [], lkC []⟩
def B_vouch_one (p0 : Int) (R : Res → H → Prop) (h : H) : Prop :=
  R (.ret (.int .i64 1)) h
theorem E_vouch_one {p0 : Int} {R : Res → H → Prop} {h : H} (H0 : B_vouch_one p0 R h) : T Try.prog F.vouch_one [.int .i64 p0] h R :=
  T_intro A_vouch_one Try.func38 (c := bodyOf Try.f38) (by kernel_rfl) (by kernel_rfl) (by kernel_rfl) (cast_of (by kernel_rfl) H0)

def A_vouch_need : An := ⟨lkA [(0, rng 2), (1, rng 4)], lkL [], lkC []⟩
def B_vouch_need (p0_ok : Bool) (p1_code : Int) (R : Res → H → Prop) (h : H) : Prop :=
  ifP (!p0_ok) (R (.pan (.iface 104 (.agg ⟨[.int .i64 p1_code]⟩))) h)
  (R (.ret (.tuple ⟨[]⟩)) h)
theorem E_vouch_need {p0_ok : Bool} {p1_code : Int} {R : Res → H → Prop} {h : H} (H0 : B_vouch_need p0_ok p1_code R h) : T Try.prog F.vouch_need [.bool p0_ok, .int .i64 p1_code] h R :=
  T_intro A_vouch_need Try.func39 (c := bodyOf Try.f39) (by kernel_rfl) (by kernel_rfl) (by kernel_rfl) (cast_of (by kernel_rfl) H0)

def A_vouch_loop : An := ⟨lkA [(0, rng 2), (1, rng 6)], lkL [], lkC []⟩
def B_vouch_loop (p0_e : List Value) (R : Res → H → Prop) (h : H) : Prop :=
  newP h (.cells ⟨p0_e⟩ 41 (0, 0)) fun b1 h2 =>
  ldI h2 ((bk b1).add 0) .i64 fun x3 =>
  ldI h2 ((bk b1).add 1) .i64 fun x4 =>
  R (.ret (.bool (decide (x3 = x4)))) h2
theorem E_vouch_loop {p0_e : List Value} {R : Res → H → Prop} {h : H} (H0 : B_vouch_loop p0_e R h) : T Try.prog F.vouch_loop [.agg ⟨p0_e⟩] h R :=
  T_intro A_vouch_loop Try.func40 (c := bodyOf Try.f40) (by kernel_rfl) (by kernel_rfl) (by kernel_rfl) (cast_of (by kernel_rfl) H0)

def A_vouch_cost : An := ⟨lkA [(0, rng 2), (1, rng 1), (2, rng 3), (3, rng 1), (4, rng 3), (5, rng 9), (6, rng 2), (7, rng 2)], lkL [(3, [(5, .int .i64), (10, .int .i64)])], lkC []⟩
def B_vouch_cost (p0_g : List Value) (p1_m : Value) (R : Res → H → Prop) (h : H) : Prop :=
  newP h (.cells ⟨p0_g⟩ 24 (0, 0)) fun b1 h2 =>
  slcP p1_m fun a3 l4 c5 =>
  ∃ (I6 : (Int × Int × Unit) → H → Prop) (r7 : (Int × Int × Unit) × H → (Int × Int × Unit) × H → Prop), WellFounded r7 ∧ I6 (0, 0, ()) h2 ∧
  ∀ (n_9 : Int) (s10 : Int) (h8 : H), I6 (n_9, s10, ()) h8 →
  ifP (decide (s10 < ((l4 : Nat) : Int))) (ixS p1_m s10 1 fun a11 =>
  ldI h8 a11 .i64 fun x12 =>
  ldV h8 ((bk b1).add 1) fun x13 =>
  ixS x13 x12 4 fun a14 =>
  ldI h8 (a14.add 3) .i64 fun x15 =>
  I6 ((IntKind.i64.wrap (n_9 + x15)), (IntKind.i64.wrap (s10 + 1)), ()) h8 ∧ r7 (((IntKind.i64.wrap (n_9 + x15)), (IntKind.i64.wrap (s10 + 1)), ()), h8) ((n_9, s10, ()), h8))
  (R (.ret (.int .i64 n_9)) h8)
theorem E_vouch_cost {p0_g : List Value} {p1_m : Value} {R : Res → H → Prop} {h : H} (H0 : B_vouch_cost p0_g p1_m R h) : T Try.prog F.vouch_cost [.agg ⟨p0_g⟩, p1_m] h R :=
  T_intro A_vouch_cost Try.func41 (c := bodyOf Try.f41) (by kernel_rfl) (by kernel_rfl) (by kernel_rfl) (cast_of (by kernel_rfl) H0)

def A_graph_Check : An := ⟨lkA [(0, rng 2), (1, rng 14), (2, rng 2), (3, rng 4), (4, rng 1), (5, rng 6), (6, rng 23), (7, rng 3), (8, rng 4), (9, rng 3), (10, rng 2), (11, rng 2)], lkL [(4, [(23, .int .i64)])], lkC [(3, [])]⟩
def B_graph_Check (p0_g : List Value) (R : Res → H → Prop) (h : H) : Prop :=
  newP h (.cells ⟨p0_g⟩ 24 (0, 0)) fun b1 h2 =>
  newP h2 (.cells ⟨[.int .i64 0, .int .i64 0]⟩ 53 (0, 0)) fun b3 h4 =>
  ∃ J5 : (Unit) → H → Prop, (ldI h4 ((bk b1).add 0) .i64 fun x7 =>
  ifP (decide (x7 < 0)) (stN h4 (bk b3) [.int .i64 3, .int .i64 0] 2 fun h8 =>
  ldN h8 (bk b3) 2 fun x9 =>
  R (.ret (.agg ⟨x9⟩)) h8) (ldI h4 ((bk b1).add 0) .i64 fun x10 =>
  ifP (decide (1024 < x10)) (stN h4 (bk b3) [.int .i64 3, .int .i64 0] 2 fun h11 =>
  ldN h11 (bk b3) 2 fun x12 =>
  R (.ret (.agg ⟨x12⟩)) h11) (ldV h4 ((bk b1).add 1) fun x13 =>
  slcP x13 fun a14 l15 c16 =>
  ifP (decide (4096 < ((l15 : Nat) : Int))) (stN h4 (bk b3) [.int .i64 3, .int .i64 0] 2 fun h17 =>
  ldN h17 (bk b3) 2 fun x18 =>
  R (.ret (.agg ⟨x18⟩)) h17)
  (J5 (()) h4)))) ∧
  (∀  (h6 : H), J5 (()) h6 →
  ldV h6 ((bk b1).add 1) fun x19 =>
  slcP x19 fun a20 l21 c22 =>
  ∃ (I23 : (Int × Unit) → H → Prop) (r24 : (Int × Unit) × H → (Int × Unit) × H → Prop), WellFounded r24 ∧ I23 (0, ()) h6 ∧
  ∀ (s26 : Int) (h25 : H), I23 (s26, ()) h25 →
  ifP (decide (s26 < ((l21 : Nat) : Int))) (ixS x19 s26 4 fun a27 =>
  ldN h25 a27 4 fun x28 =>
  newP h25 (.cells ⟨[.int .i64 0, .int .i64 0, .int .i64 0, .int .i64 0]⟩ 41 (0, 0)) fun b29 h30 =>
  stN h30 (bk b29) x28 4 fun h31 =>
  ldI h31 ((bk b29).add 0) .i64 fun x32 =>
  ifP (decide (x32 < 0)) (stN h31 (bk b3) [.int .i64 30, .int .i64 s26] 2 fun h33 =>
  ldN h33 (bk b3) 2 fun x34 =>
  R (.ret (.agg ⟨x34⟩)) h33) (ldI h31 ((bk b29).add 0) .i64 fun x35 =>
  ldI h31 ((bk b1).add 0) .i64 fun x36 =>
  ifP (decide (x36 ≤ x35)) (stN h31 (bk b3) [.int .i64 30, .int .i64 s26] 2 fun h37 =>
  ldN h37 (bk b3) 2 fun x38 =>
  R (.ret (.agg ⟨x38⟩)) h37) (ldI h31 ((bk b29).add 1) .i64 fun x39 =>
  ifP (decide (x39 < 0)) (stN h31 (bk b3) [.int .i64 30, .int .i64 s26] 2 fun h40 =>
  ldN h40 (bk b3) 2 fun x41 =>
  R (.ret (.agg ⟨x41⟩)) h40) (ldI h31 ((bk b29).add 1) .i64 fun x42 =>
  ldI h31 ((bk b1).add 0) .i64 fun x43 =>
  ifP (decide (x43 ≤ x42)) (stN h31 (bk b3) [.int .i64 30, .int .i64 s26] 2 fun h44 =>
  ldN h44 (bk b3) 2 fun x45 =>
  R (.ret (.agg ⟨x45⟩)) h44)
  (ldN h31 (bk b29) 4 fun x46 =>
  T Try.prog F.graph_label [.agg ⟨x46⟩] h31 (rt (fun v47 h48 =>
  ∃ r49, v47 = .bool r49 ∧
  ifP (!r49) (stN h48 (bk b3) [.int .i64 31, .int .i64 s26] 2 fun h50 =>
  ldN h50 (bk b3) 2 fun x51 =>
  R (.ret (.agg ⟨x51⟩)) h50)
  (I23 ((IntKind.i64.wrap (s26 + 1)), ()) h48 ∧ r24 (((IntKind.i64.wrap (s26 + 1)), ()), h48) ((s26, ()), h25))) (fun v52 h53 => R (.pan v52) h53)))))))
  (stN h25 (bk b3) [.int .i64 0, .int .i64 0] 2 fun h54 =>
  ldN h54 (bk b3) 2 fun x55 =>
  R (.ret (.agg ⟨x55⟩)) h54))
theorem E_graph_Check {p0_g : List Value} {R : Res → H → Prop} {h : H} (H0 : B_graph_Check p0_g R h) : T Try.prog F.graph_Check [.agg ⟨p0_g⟩] h R :=
  T_intro A_graph_Check Try.func42 (c := bodyOf Try.f42) (by kernel_rfl) (by kernel_rfl) (by kernel_rfl) (cast_of (by kernel_rfl) H0)

def A_assign_rows_take : An := ⟨lkA [(0, rng 6), (1, ⟨[0, 2, 4, 1, 6, 3, 7, 5, 8], lkN []⟩), (2, rng 3), (3, rng 1), (4, rng 2), (5, rng 8), (6, rng 2), (7, rng 5), (8, rng 1), (9, rng 2), (10, ⟨[0, 1, 2, 4, 5, 6, 7, 9, 12, 13, 14, 16, 17, 18, 19, 20, 27, 28, 29, 31, 3, 8, 10, 11, 15, 21, 22, 23, 24, 25, 30, 32, 33, 26, 34, 35, 36, 37], lkN [(26, [3, 8, 11, 30, 33])]⟩), (11, rng 2), (12, ⟨[0, 1, 2, 4, 5, 6, 7, 9, 12, 13, 14, 16, 17, 18, 20, 3, 8, 10, 11, 15, 19, 21, 22, 23, 24, 25, 26, 27], lkN []⟩), (13, rng 3), (14, rng 3), (15, rng 2), (16, rng 1), (17, rng 2), (18, rng 5), (19, rng 17), (20, rng 10), (21, rng 2), (22, rng 1), (23, rng 2), (24, rng 1), (25, rng 2), (26, ⟨[0, 1, 2, 3, 4, 5, 6, 7, 8, 9, 10, 11, 13, 14, 15, 12, 16, 17, 18, 19], lkN []⟩), (27, rng 2), (28, rng 2), (29, rng 5), (30, rng 3), (31, rng 1), (32, rng 3), (33, rng 11), (34, rng 2), (35, rng 2), (36, rng 1), (37, rng 2), (38, rng 4), (39, rng 11), (40, rng 5), (41, rng 8), (42, rng 2), (43, rng 4), (44, rng 2), (45, rng 8), (46, rng 8), (47, rng 5), (48, rng 2), (49, rng 2), (50, rng 5), (51, rng 2), (52, rng 8), (53, ⟨[0, 1, 2, 4, 5, 6, 7, 9, 3, 8, 10, 11, 12, 13], lkN []⟩), (54, rng 2)], lkL [(3, [(36, .int .i64)]), (8, [(50, .int .i64)]), (15, [(10, .val), (11, .int .i64), (12, .int .i64)]), (16, [(122, .int .i64)]), (24, [(15, .int .i64), (156, .int .i64)]), (31, [(187, .int .i64)]), (36, [(203, .int .i64)]), (49, [(21, .int .i64)])], lkC []⟩
def B_assign_rows_take (p0_r : Value) (p1_v : Int) (R : Res → H → Prop) (h : H) : Prop :=
  ptrP p0_r fun a1 =>
  ldV h (a1.add 3) fun x2 =>
  slcP x2 fun a3 l4 c5 =>
  mkS ((l4 : Nat) : Int) ((l4 : Nat) : Int) 8 [.int .i64 0] 2 h fun b6 h7 =>
  mkS ((l4 : Nat) : Int) ((l4 : Nat) : Int) 8 [.int .i64 0] 3 h7 fun b8 h9 =>
  mkS ((l4 : Nat) : Int) ((l4 : Nat) : Int) 1 [.bool false] 4 h9 fun b10 h11 =>
  ∃ (I12 : (Int × Unit) → H → Prop) (r13 : (Int × Unit) × H → (Int × Unit) × H → Prop), WellFounded r13 ∧ I12 (0, ()) h11 ∧
  ∀ (s15 : Int) (h14 : H), I12 (s15, ()) h14 →
  ifP (decide (s15 < ((((l4 : Nat) : Int).toNat : Nat) : Int))) (ixS (.slice (some (bk b6)) (((l4 : Nat) : Int).toNat) (((l4 : Nat) : Int).toNat)) s15 1 fun a16 =>
  stC h14 a16 (.int .i64 4611686018427387904) fun h17 =>
  ixS (.slice (some (bk b8)) (((l4 : Nat) : Int).toNat) (((l4 : Nat) : Int).toNat)) s15 1 fun a18 =>
  stC h17 a18 (.int .i64 (-1)) fun h19 =>
  I12 ((IntKind.i64.wrap (s15 + 1)), ()) h19 ∧ r13 (((IntKind.i64.wrap (s15 + 1)), ()), h19) ((s15, ()), h14))
  (ptrP p0_r fun a20 =>
  ldI h14 (a20.add 4) .i64 fun x21 =>
  ∃ (I22 : (Int × Unit) → H → Prop) (r23 : (Int × Unit) × H → (Int × Unit) × H → Prop), WellFounded r23 ∧ I22 (0, ()) h14 ∧
  ∀ (s25 : Int) (h24 : H), I22 (s25, ()) h24 →
  ifP (decide (s25 < x21)) (ptrP p0_r fun a26 =>
  ptrP p0_r fun a27 =>
  ptrP p0_r fun a28 =>
  ptrP p0_r fun a29 =>
  ptrP p0_r fun a30 =>
  ldV h24 (a26.add 1) fun x31 =>
  ldV h24 (a27.add 1) fun x32 =>
  ixS x32 p1_v 1 fun a33 =>
  ldI h24 a33 .i64 fun x34 =>
  ldV h24 (a28.add 0) fun x35 =>
  ldV h24 (a29.add 0) fun x36 =>
  ptrP x36 fun a37 =>
  ldI h24 (a37.add 0) .i64 fun x38 =>
  ldV h24 (a30.add 2) fun x39 =>
  ixS x39 s25 1 fun a40 =>
  ldI h24 a40 .i64 fun x41 =>
  T Try.prog F.assign_table_weight [x35, .int .i64 p1_v, .int .i64 (IntKind.i64.wrap (s25 + x38))] h24 (rt (fun v42 h43 =>
  ∃ r44, v42 = .int .i64 r44 ∧
  (sameAt 2 a40 h24 h43) ∧
  (sameAt 2 (a30.add 2) h24 h43) ∧
  (sameAt 2 a33 h24 h43) ∧
  (sameAt 2 (a27.add 1) h24 h43) ∧
  (sameAt 2 (a26.add 1) h24 h43) ∧
  ixS x31 p1_v 1 fun a45 =>
  stC h43 a45 (.int .i64 (if x34 < (IntKind.i64.wrap (r44 - x41)) then (IntKind.i64.wrap (r44 - x41)) else x34)) fun h46 =>
  I22 ((IntKind.i64.wrap (s25 + 1)), ()) h46 ∧ r23 (((IntKind.i64.wrap (s25 + 1)), ()), h46) ((s25, ()), h24)) (fun v47 h48 => R (.pan v47) h48)))
  (ptrP p0_r fun a49 =>
  ptrP p0_r fun a50 =>
  ptrP p0_r fun a51 =>
  ptrP p0_r fun a52 =>
  ldV h24 (a49.add 1) fun x53 =>
  ldV h24 (a50.add 1) fun x54 =>
  ixS x54 p1_v 1 fun a55 =>
  ldI h24 a55 .i64 fun x56 =>
  ldV h24 (a51.add 2) fun x57 =>
  ldI h24 (a52.add 4) .i64 fun x58 =>
  ixS x57 (IntKind.i64.wrap (x58 + p1_v)) 1 fun a59 =>
  ldI h24 a59 .i64 fun x60 =>
  ixS x53 p1_v 1 fun a61 =>
  stC h24 a61 (.int .i64 (if x56 < (IntKind.i64.wrap (0 - x60)) then (IntKind.i64.wrap (0 - x60)) else x56)) fun h62 =>
  newP h62 (.cells ⟨[.int .i64 p1_v]⟩ 3 (0, 0)) fun b63 h64 =>
  ∃ (I65 : (Value × Int × Int × Unit) → H → Prop) (r66 : (Value × Int × Int × Unit) × H → (Value × Int × Int × Unit) × H → Prop), WellFounded r66 ∧ I65 ((.slice (some (bk b63)) 1 1 : Value), p1_v, (-1), ()) h64 ∧
  ∀ (reached_68 : Value) (at_69 : Int) (in_70 : Int) (h67 : H), I65 (reached_68, at_69, in_70, ()) h67 →
  ∃ (I71 : (Int × Unit) → H → Prop) (r72 : (Int × Unit) × H → (Int × Unit) × H → Prop), WellFounded r72 ∧ I71 (0, ()) h67 ∧
  ∀ (s74 : Int) (h73 : H), I71 (s74, ()) h73 →
  ifP (decide (s74 < ((l4 : Nat) : Int))) (T Try.prog F.assign_rows_gap [p0_r, .int .i64 at_69, .int .i64 s74] h73 (rt (fun v75 h76 =>
  ∃ r77, v75 = .int .i64 r77 ∧
  ixS (.slice (some (bk b10)) (((l4 : Nat) : Int).toNat) (((l4 : Nat) : Int).toNat)) s74 1 fun a78 =>
  ldB h76 a78 fun x79 =>
  ifP (!x79) (ifP (decide (0 ≤ r77)) (ixS (.slice (some (bk b6)) (((l4 : Nat) : Int).toNat) (((l4 : Nat) : Int).toNat)) s74 1 fun a80 =>
  ldI h76 a80 .i64 fun x81 =>
  ifP (decide (r77 < x81)) (ixS (.slice (some (bk b6)) (((l4 : Nat) : Int).toNat) (((l4 : Nat) : Int).toNat)) s74 1 fun a82 =>
  stC h76 a82 (.int .i64 r77) fun h83 =>
  ixS (.slice (some (bk b8)) (((l4 : Nat) : Int).toNat) (((l4 : Nat) : Int).toNat)) s74 1 fun a84 =>
  stC h83 a84 (.int .i64 in_70) fun h85 =>
  I71 ((IntKind.i64.wrap (s74 + 1)), ()) h85 ∧ r72 (((IntKind.i64.wrap (s74 + 1)), ()), h85) ((s74, ()), h73))
  (I71 ((IntKind.i64.wrap (s74 + 1)), ()) h76 ∧ r72 (((IntKind.i64.wrap (s74 + 1)), ()), h76) ((s74, ()), h73))) (I71 ((IntKind.i64.wrap (s74 + 1)), ()) h76 ∧ r72 (((IntKind.i64.wrap (s74 + 1)), ()), h76) ((s74, ()), h73))) (I71 ((IntKind.i64.wrap (s74 + 1)), ()) h76 ∧ r72 (((IntKind.i64.wrap (s74 + 1)), ()), h76) ((s74, ()), h73))) (fun v86 h87 => R (.pan v86) h87)))
  (∃ (I88 : (Int × Int × Unit) → H → Prop) (r89 : (Int × Int × Unit) × H → (Int × Int × Unit) × H → Prop), WellFounded r89 ∧ I88 ((-1), 0, ()) h73 ∧
  ∀ (next_91 : Int) (s92 : Int) (h90 : H), I88 (next_91, s92, ()) h90 →
  ifP (decide (s92 < ((l4 : Nat) : Int))) (ixS (.slice (some (bk b10)) (((l4 : Nat) : Int).toNat) (((l4 : Nat) : Int).toNat)) s92 1 fun a93 =>
  ldB h90 a93 fun x94 =>
  ifP (!x94) (ifP (decide (next_91 < 0)) (I88 (s92, (IntKind.i64.wrap (s92 + 1)), ()) h90 ∧ r89 ((s92, (IntKind.i64.wrap (s92 + 1)), ()), h90) ((next_91, s92, ()), h90)) (ixS (.slice (some (bk b6)) (((l4 : Nat) : Int).toNat) (((l4 : Nat) : Int).toNat)) s92 1 fun a95 =>
  ixS (.slice (some (bk b6)) (((l4 : Nat) : Int).toNat) (((l4 : Nat) : Int).toNat)) next_91 1 fun a96 =>
  ldI h90 a95 .i64 fun x97 =>
  ldI h90 a96 .i64 fun x98 =>
  ifP (decide (x97 < x98)) (I88 (s92, (IntKind.i64.wrap (s92 + 1)), ()) h90 ∧ r89 ((s92, (IntKind.i64.wrap (s92 + 1)), ()), h90) ((next_91, s92, ()), h90))
  (I88 (next_91, (IntKind.i64.wrap (s92 + 1)), ()) h90 ∧ r89 ((next_91, (IntKind.i64.wrap (s92 + 1)), ()), h90) ((next_91, s92, ()), h90)))) (I88 (next_91, (IntKind.i64.wrap (s92 + 1)), ()) h90 ∧ r89 ((next_91, (IntKind.i64.wrap (s92 + 1)), ()), h90) ((next_91, s92, ()), h90)))
  (ixS (.slice (some (bk b6)) (((l4 : Nat) : Int).toNat) (((l4 : Nat) : Int).toNat)) next_91 1 fun a99 =>
  ldI h90 a99 .i64 fun x100 =>
  slcP reached_68 fun a101 l102 c103 =>
  ∃ (I104 : (Int × Unit) → H → Prop) (r105 : (Int × Unit) × H → (Int × Unit) × H → Prop), WellFounded r105 ∧ I104 (0, ()) h90 ∧
  ∀ (s107 : Int) (h106 : H), I104 (s107, ()) h106 →
  ifP (decide (s107 < ((l102 : Nat) : Int))) (ixS reached_68 s107 1 fun a108 =>
  ldI h106 a108 .i64 fun x109 =>
  ptrP p0_r fun a110 =>
  ldV h106 (a110.add 1) fun x111 =>
  ixS x111 x109 1 fun a112 =>
  ldI h106 a112 .i64 fun x113 =>
  ixS x111 x109 1 fun a114 =>
  stC h106 a114 (.int .i64 (IntKind.i64.wrap (x113 - x100))) fun h115 =>
  I104 ((IntKind.i64.wrap (s107 + 1)), ()) h115 ∧ r105 (((IntKind.i64.wrap (s107 + 1)), ()), h115) ((s107, ()), h106))
  (∃ (I116 : (Int × Unit) → H → Prop) (r117 : (Int × Unit) × H → (Int × Unit) × H → Prop), WellFounded r117 ∧ I116 (0, ()) h106 ∧
  ∀ (s119 : Int) (h118 : H), I116 (s119, ()) h118 →
  ifP (decide (s119 < ((l4 : Nat) : Int))) (ixS (.slice (some (bk b10)) (((l4 : Nat) : Int).toNat) (((l4 : Nat) : Int).toNat)) s119 1 fun a120 =>
  ldB h118 a120 fun x121 =>
  ifP x121 (ptrP p0_r fun a122 =>
  ldV h118 (a122.add 2) fun x123 =>
  ixS x123 s119 1 fun a124 =>
  ldI h118 a124 .i64 fun x125 =>
  ixS x123 s119 1 fun a126 =>
  stC h118 a126 (.int .i64 (IntKind.i64.wrap (x125 + x100))) fun h127 =>
  I116 ((IntKind.i64.wrap (s119 + 1)), ()) h127 ∧ r117 (((IntKind.i64.wrap (s119 + 1)), ()), h127) ((s119, ()), h118))
  (ixS (.slice (some (bk b6)) (((l4 : Nat) : Int).toNat) (((l4 : Nat) : Int).toNat)) s119 1 fun a128 =>
  ldI h118 a128 .i64 fun x129 =>
  ifP (decide (x129 < 4611686018427387904)) (ixS (.slice (some (bk b6)) (((l4 : Nat) : Int).toNat) (((l4 : Nat) : Int).toNat)) s119 1 fun a130 =>
  ldI h118 a130 .i64 fun x131 =>
  ixS (.slice (some (bk b6)) (((l4 : Nat) : Int).toNat) (((l4 : Nat) : Int).toNat)) s119 1 fun a132 =>
  stC h118 a132 (.int .i64 (IntKind.i64.wrap (x131 - x100))) fun h133 =>
  I116 ((IntKind.i64.wrap (s119 + 1)), ()) h133 ∧ r117 (((IntKind.i64.wrap (s119 + 1)), ()), h133) ((s119, ()), h118))
  (I116 ((IntKind.i64.wrap (s119 + 1)), ()) h118 ∧ r117 (((IntKind.i64.wrap (s119 + 1)), ()), h118) ((s119, ()), h118))))
  (ixS (.slice (some (bk b10)) (((l4 : Nat) : Int).toNat) (((l4 : Nat) : Int).toNat)) next_91 1 fun a134 =>
  stC h118 a134 (.bool true) fun h135 =>
  ptrP p0_r fun a136 =>
  ldV h135 (a136.add 3) fun x137 =>
  ixS x137 next_91 1 fun a138 =>
  ldI h135 a138 .i64 fun x139 =>
  ifP (decide (x139 < 0)) (∃ (I140 : (Int × Unit) → H → Prop) (r141 : (Int × Unit) × H → (Int × Unit) × H → Prop), WellFounded r141 ∧ I140 (next_91, ()) h135 ∧
  ∀ (c_143 : Int) (h142 : H), I140 (c_143, ()) h142 →
  ifP (decide (0 ≤ c_143)) (ixS (.slice (some (bk b8)) (((l4 : Nat) : Int).toNat) (((l4 : Nat) : Int).toNat)) c_143 1 fun a144 =>
  ldI h142 a144 .i64 fun x145 =>
  ifP (decide (x145 < 0)) (ptrP p0_r fun a146 =>
  ldV h142 (a146.add 3) fun x147 =>
  ixS x147 c_143 1 fun a148 =>
  stC h142 a148 (.int .i64 p1_v) fun h149 =>
  I140 (x145, ()) h149 ∧ r141 ((x145, ()), h149) ((c_143, ()), h142))
  (ptrP p0_r fun a150 =>
  ptrP p0_r fun a151 =>
  ldV h142 (a150.add 3) fun x152 =>
  ldV h142 (a151.add 3) fun x153 =>
  ixS x153 x145 1 fun a154 =>
  ldI h142 a154 .i64 fun x155 =>
  ixS x152 c_143 1 fun a156 =>
  stC h142 a156 (.int .i64 x155) fun h157 =>
  I140 (x145, ()) h157 ∧ r141 ((x145, ()), h157) ((c_143, ()), h142)))
  (R (.ret (.tuple ⟨[]⟩)) h142))
  (ptrP p0_r fun a158 =>
  ldV h135 (a158.add 3) fun x159 =>
  ixS x159 next_91 1 fun a160 =>
  ldI h135 a160 .i64 fun x161 =>
  newP h135 (.cells ⟨[.int .i64 x161]⟩ 3 (0, 0)) fun b162 h163 =>
  apP reached_68 (.slice (some (bk b162)) 1 1) h163 1 3 8 [.int .i64 0] fun s164 h165 =>
  I65 (s164, x161, next_91, ()) h165 ∧ r66 ((s164, x161, next_91, ()), h165) ((reached_68, at_69, in_70, ()), h67))))))))
theorem E_assign_rows_take {p0_r : Value} {p1_v : Int} {R : Res → H → Prop} {h : H} (H0 : B_assign_rows_take p0_r p1_v R h) : T Try.prog F.assign_rows_take [p0_r, .int .i64 p1_v] h R :=
  T_intro A_assign_rows_take Try.func43 (c := bodyOf Try.f43) (by kernel_rfl) (by kernel_rfl) (by kernel_rfl) (cast_of (by kernel_rfl) H0)

def A_assign_table_weight : An := ⟨lkA [(0, rng 1), (1, ⟨[0, 1, 2, 4, 7, 8, 9, 10, 3, 5, 6, 11, 12, 13, 14, 15], lkN []⟩), (2, rng 2), (3, rng 9), (4, rng 1)], lkL [], lkC []⟩
def B_assign_table_weight (p0_t : Value) (p1_v : Int) (p2_w : Int) (R : Res → H → Prop) (h : H) : Prop :=
  ptrP p0_t fun a1 =>
  ptrP p0_t fun a2 =>
  ldV h (a1.add 2) fun x3 =>
  ixS x3 p1_v 1 fun a4 =>
  ldV h a4 fun x5 =>
  ldI h (a2.add 0) .i64 fun x6 =>
  ixS x5 (IntKind.i64.wrap (p2_w - x6)) 1 fun a7 =>
  ldI h a7 .i64 fun x8 =>
  ifP (decide (0 < x8)) (ptrP p0_t fun a9 =>
  ldV h (a9.add 3) fun x10 =>
  ixS x10 (IntKind.i64.wrap (x8 - 1)) 1 fun a11 =>
  ldI h a11 .i64 fun x12 =>
  R (.ret (.int .i64 x12)) h)
  (R (.ret (.int .i64 0)) h)
theorem E_assign_table_weight {p0_t : Value} {p1_v : Int} {p2_w : Int} {R : Res → H → Prop} {h : H} (H0 : B_assign_table_weight p0_t p1_v p2_w R h) : T Try.prog F.assign_table_weight [p0_t, .int .i64 p1_v, .int .i64 p2_w] h R :=
  T_intro A_assign_table_weight Try.func44 (c := bodyOf Try.f44) (by kernel_rfl) (by kernel_rfl) (by kernel_rfl) (cast_of (by kernel_rfl) H0)

def A_assign_trees_grow : An := ⟨lkA [(0, ⟨[0, 1, 2, 8, 9, 10, 3, 4, 5, 6, 11, 12, 13, 14, 7, 16, 15, 17], lkN []⟩), (1, rng 3), (2, rng 1), (3, rng 2), (4, rng 8), (5, rng 2), (6, rng 13), (7, rng 4), (8, ⟨[0, 1, 2, 3, 5, 8, 4, 6, 7, 9], lkN []⟩), (9, rng 2), (10, rng 1), (11, rng 5), (12, ⟨[0, 1, 2, 4, 5, 6, 8, 3, 7, 9, 10, 11, 12], lkN []⟩), (13, rng 3), (14, rng 4), (15, rng 8), (16, rng 9), (17, rng 3), (18, ⟨[0, 1, 2, 4, 5, 6, 8, 12, 13, 14, 16, 20, 21, 22, 24, 25, 3, 7, 9, 10, 11, 15, 17, 18, 19, 23, 26, 27, 28], lkN [(26, [3, 7, 10, 15, 18])]⟩), (19, ⟨[0, 1, 2, 7, 10, 11, 12, 13, 3, 4, 5, 6, 8, 9, 14, 15, 16, 17, 18, 19, 20, 21, 22, 23, 24, 25, 26, 27, 28, 29], lkN []⟩), (20, rng 5), (21, rng 4), (22, rng 4), (23, rng 10), (24, rng 9), (25, rng 8), (26, rng 9), (27, rng 4), (28, rng 5), (29, rng 8), (30, rng 5), (31, rng 3), (32, rng 1), (33, rng 3), (34, rng 9), (35, ⟨[0, 1, 2, 4, 7, 8, 9, 10, 3, 5, 6, 11, 12, 13, 14, 15], lkN []⟩), (36, ⟨[0, 1, 2, 4, 7, 8, 9, 10, 3, 5, 6, 11, 12, 13, 14, 15], lkN []⟩), (37, rng 2), (38, rng 5)], lkL [(2, [(39, .int .i64)]), (11, [(9, .int .i64), (10, .int .i64), (11, .int .i64), (12, .val)]), (16, [(14, .int .i64)]), (32, [(232, .int .i64)])], lkC [(15, [(9, .int .i64), (10, .int .i64)]), (23, []), (31, [(9, .int .i64), (10, .int .i64), (12, .val)])]⟩
def B_assign_trees_grow (p0_t : Value) (p1_s : Int) (R : Res → H → Prop) (h : H) : Prop :=
  ptrP p0_t fun a1 =>
  ptrP p0_t fun a2 =>
  ldV h (a1.add 0) fun x3 =>
  ptrP x3 fun a4 =>
  ldI h (a4.add 1) .i64 fun x5 =>
  ldV h (a2.add 0) fun x6 =>
  ptrP x6 fun a7 =>
  ldI h (a7.add 1) .i64 fun x8 =>
  mkS x5 x5 8 [.int .i64 0] 2 h fun b9 h10 =>
  mkS x8 x8 8 [.int .i64 0] 3 h10 fun b11 h12 =>
  ∃ (I13 : (Int × Unit) → H → Prop) (r14 : (Int × Unit) × H → (Int × Unit) × H → Prop), WellFounded r14 ∧ I13 (0, ()) h12 ∧
  ∀ (s16 : Int) (h15 : H), I13 (s16, ()) h15 →
  ifP (decide (s16 < ((x5.toNat : Nat) : Int))) (ixS (.slice (some (bk b9)) x5.toNat x5.toNat) s16 1 fun a17 =>
  stC h15 a17 (.int .i64 4611686018427387904) fun h18 =>
  ixS (.slice (some (bk b11)) x8.toNat x8.toNat) s16 1 fun a19 =>
  stC h18 a19 (.int .i64 (-1)) fun h20 =>
  I13 ((IntKind.i64.wrap (s16 + 1)), ()) h20 ∧ r14 (((IntKind.i64.wrap (s16 + 1)), ()), h20) ((s16, ()), h15))
  (ptrP p0_t fun a21 =>
  ldV h15 (a21.add 0) fun x22 =>
  ptrP x22 fun a23 =>
  ldI h15 (a23.add 1) .i64 fun x24 =>
  T Try.prog F.heaps_New [.int .i64 1, .int .i64 x24] h15 (rt (fun v25 h26 =>
  ∃ r27 : Value, ∃ r28 : Int, v25 = .tuple ⟨[r27, .int .i64 r28]⟩ ∧
  ixS (.slice (some (bk b9)) x5.toNat x5.toNat) p1_s 1 fun a29 =>
  stC h26 a29 (.int .i64 0) fun h30 =>
  ptrP p0_t fun a31 =>
  ldV h30 (a31.add 1) fun x32 =>
  ixS x32 p1_s 1 fun a33 =>
  ldI h30 a33 .i64 fun x34 =>
  ∃ J35 : (Int × Int × Value × Unit) → H → Prop, (∃ (I40 : (Int × Int × Int × Value × Unit) → H → Prop) (r41 : (Int × Int × Int × Value × Unit) × H → (Int × Int × Int × Value × Unit) × H → Prop), WellFounded r41 ∧ I40 (p1_s, x34, p1_s, (.slice none 0 0 : Value), ()) h30 ∧
  ∀ (end_43 : Int) (best_44 : Int) (at_45 : Int) (seen_46 : Value) (h42 : H), I40 (end_43, best_44, at_45, seen_46, ()) h42 →
  newP h42 (.cells ⟨[.int .i64 at_45]⟩ 3 (0, 0)) fun b47 h48 =>
  apP seen_46 (.slice (some (bk b47)) 1 1) h48 1 3 8 [.int .i64 0] fun s49 h50 =>
  ∃ J51 : (Int × Int × Unit) → H → Prop, (ixS (.slice (some (bk b9)) x5.toNat x5.toNat) at_45 1 fun a55 =>
  ptrP p0_t fun a56 =>
  ldI h50 a55 .i64 fun x57 =>
  ldV h50 (a56.add 1) fun x58 =>
  ixS x58 at_45 1 fun a59 =>
  ldI h50 a59 .i64 fun x60 =>
  ifP (decide ((IntKind.i64.wrap (x57 + x60)) < best_44)) (J51 (at_45, (IntKind.i64.wrap (x57 + x60)), ()) h50)
  (J51 (end_43, best_44, ()) h50)) ∧
  (∀ (end_53 : Int) (best_54 : Int) (h52 : H), J51 (end_53, best_54, ()) h52 →
  ptrP p0_t fun a61 =>
  ldV h52 (a61.add 0) fun x62 =>
  ptrP x62 fun a63 =>
  ldI h52 (a63.add 0) .i64 fun x64 =>
  ∃ (I65 : (Int × Unit) → H → Prop) (r66 : (Int × Unit) × H → (Int × Unit) × H → Prop), WellFounded r66 ∧ I65 (x64, ()) h52 ∧
  ∀ (w_68 : Int) (h67 : H), I65 (w_68, ()) h67 →
  ptrP p0_t fun a69 =>
  ldV h67 (a69.add 0) fun x70 =>
  ptrP x70 fun a71 =>
  ldI h67 (a71.add 1) .i64 fun x72 =>
  ifP (decide (w_68 < x72)) (ixS (.slice (some (bk b9)) x5.toNat x5.toNat) at_45 1 fun a73 =>
  ptrP p0_t fun a74 =>
  ptrP p0_t fun a75 =>
  ptrP p0_t fun a76 =>
  ldI h67 a73 .i64 fun x77 =>
  ldV h67 (a74.add 1) fun x78 =>
  ixS x78 at_45 1 fun a79 =>
  ldI h67 a79 .i64 fun x80 =>
  ldV h67 (a75.add 1) fun x81 =>
  ixS x81 w_68 1 fun a82 =>
  ldI h67 a82 .i64 fun x83 =>
  ldV h67 (a76.add 0) fun x84 =>
  T Try.prog F.assign_table_weight [x84, .int .i64 at_45, .int .i64 w_68] h67 (rt (fun v85 h86 =>
  ∃ r87, v85 = .int .i64 r87 ∧
  (sameAt 2 a82 h67 h86) ∧
  (sameAt 2 (a75.add 1) h67 h86) ∧
  (sameAt 2 a79 h67 h86) ∧
  (sameAt 2 (a74.add 1) h67 h86) ∧
  (sameAt 2 a73 h67 h86) ∧
  ptrP p0_t fun a88 =>
  ptrP p0_t fun a89 =>
  ldV h86 (a88.add 0) fun x90 =>
  ptrP x90 fun a91 =>
  ldV h86 (a91.add 2) fun x92 =>
  ixS x92 at_45 1 fun a93 =>
  ldV h86 a93 fun x94 =>
  ldV h86 (a89.add 0) fun x95 =>
  ptrP x95 fun a96 =>
  ldI h86 (a96.add 0) .i64 fun x97 =>
  ixS x94 (IntKind.i64.wrap (w_68 - x97)) 1 fun a98 =>
  ldI h86 a98 .i64 fun x99 =>
  ifP (decide (x99 = 0)) (I65 ((IntKind.i64.wrap (w_68 + 1)), ()) h86 ∧ r66 (((IntKind.i64.wrap (w_68 + 1)), ()), h86) ((w_68, ()), h67)) (ixS (.slice (some (bk b9)) x5.toNat x5.toNat) w_68 1 fun a100 =>
  ldI h86 a100 .i64 fun x101 =>
  ifP (decide (x101 ≤ (IntKind.i64.wrap ((IntKind.i64.wrap ((IntKind.i64.wrap (x77 + x80)) + x83)) - r87)))) (I65 ((IntKind.i64.wrap (w_68 + 1)), ()) h86 ∧ r66 (((IntKind.i64.wrap (w_68 + 1)), ()), h86) ((w_68, ()), h67))
  (∃ J102 : (Unit) → H → Prop, (ixS (.slice (some (bk b9)) x5.toNat x5.toNat) w_68 1 fun a104 =>
  ldI h86 a104 .i64 fun x105 =>
  ifP (decide (x105 = 4611686018427387904)) (T Try.prog F.heaps_Queue_Push [r27, .int .i64 w_68, .int .i64 (IntKind.i64.wrap ((IntKind.i64.wrap ((IntKind.i64.wrap (x77 + x80)) + x83)) - r87))] h86 (rt (fun v106 h107 =>
  ∃ r108, v106 = .int .i64 r108 ∧
  J102 (()) h107) (fun v109 h110 => R (.pan v109) h110)))
  (T Try.prog F.heaps_Queue_Lower [r27, .int .i64 w_68, .int .i64 (IntKind.i64.wrap ((IntKind.i64.wrap ((IntKind.i64.wrap (x77 + x80)) + x83)) - r87))] h86 (rt (fun v111 h112 =>
  ∃ r113, v111 = .int .i64 r113 ∧
  J102 (()) h112) (fun v114 h115 => R (.pan v114) h115)))) ∧
  (∀  (h103 : H), J102 (()) h103 →
  ixS (.slice (some (bk b9)) x5.toNat x5.toNat) w_68 1 fun a116 =>
  stC h103 a116 (.int .i64 (IntKind.i64.wrap ((IntKind.i64.wrap ((IntKind.i64.wrap (x77 + x80)) + x83)) - r87))) fun h117 =>
  ixS (.slice (some (bk b11)) x8.toNat x8.toNat) w_68 1 fun a118 =>
  stC h117 a118 (.int .i64 at_45) fun h119 =>
  I65 ((IntKind.i64.wrap (w_68 + 1)), ()) h119 ∧ r66 (((IntKind.i64.wrap (w_68 + 1)), ()), h119) ((w_68, ()), h67))))) (fun v120 h121 => R (.pan v120) h121)))
  (T Try.prog F.heaps_Queue_Pop [r27] h67 (rt (fun v122 h123 =>
  ∃ r124 : Int, ∃ r125 : Int, ∃ r126 : Int, v122 = .tuple ⟨[.int .i64 r124, .int .i64 r125, .int .i64 r126]⟩ ∧
  ifP (!decide (r126 = 0)) (J35 (end_53, best_54, s49, ()) h123) (ifP (decide (best_54 ≤ r125)) (J35 (end_53, best_54, s49, ()) h123)
  (ptrP p0_t fun a127 =>
  ldV h123 (a127.add 2) fun x128 =>
  ixS x128 r124 1 fun a129 =>
  ldI h123 a129 .i64 fun x130 =>
  ifP (decide (x130 < 0)) (J35 (r124, r125, s49, ()) h123)
  (newP h123 (.cells ⟨[.int .i64 r124]⟩ 3 (0, 0)) fun b131 h132 =>
  apP s49 (.slice (some (bk b131)) 1 1) h132 1 3 8 [.int .i64 0] fun s133 h134 =>
  ptrP p0_t fun a135 =>
  ldV h134 (a135.add 2) fun x136 =>
  ixS x136 r124 1 fun a137 =>
  ldI h134 a137 .i64 fun x138 =>
  ixS (.slice (some (bk b9)) x5.toNat x5.toNat) x138 1 fun a139 =>
  stC h134 a139 (.int .i64 r125) fun h140 =>
  I40 (end_53, best_54, x138, s133, ()) h140 ∧ r41 ((end_53, best_54, x138, s133, ()), h140) ((end_43, best_44, at_45, seen_46, ()), h42))))) (fun v141 h142 => R (.pan v141) h142))))) ∧
  (∀ (end_37 : Int) (best_38 : Int) (seen_39 : Value) (h36 : H), J35 (end_37, best_38, seen_39, ()) h36 →
  slcP seen_39 fun a143 l144 c145 =>
  ∃ (I146 : (Int × Unit) → H → Prop) (r147 : (Int × Unit) × H → (Int × Unit) × H → Prop), WellFounded r147 ∧ I146 (0, ()) h36 ∧
  ∀ (s149 : Int) (h148 : H), I146 (s149, ()) h148 →
  ifP (decide (s149 < ((l144 : Nat) : Int))) (ixS seen_39 s149 1 fun a150 =>
  ldI h148 a150 .i64 fun x151 =>
  ptrP p0_t fun a152 =>
  ldV h148 (a152.add 0) fun x153 =>
  ptrP x153 fun a154 =>
  ldI h148 (a154.add 0) .i64 fun x155 =>
  ifP (decide (x151 < x155)) (ptrP p0_t fun a156 =>
  ixS (.slice (some (bk b9)) x5.toNat x5.toNat) x151 1 fun a157 =>
  ldV h148 (a156.add 1) fun x158 =>
  ixS x158 x151 1 fun a159 =>
  ldI h148 a159 .i64 fun x160 =>
  ldI h148 a157 .i64 fun x161 =>
  ixS x158 x151 1 fun a162 =>
  stC h148 a162 (.int .i64 (IntKind.i64.wrap (x160 - (IntKind.i64.wrap (best_38 - x161))))) fun h163 =>
  I146 ((IntKind.i64.wrap (s149 + 1)), ()) h163 ∧ r147 (((IntKind.i64.wrap (s149 + 1)), ()), h163) ((s149, ()), h148))
  (ptrP p0_t fun a164 =>
  ixS (.slice (some (bk b9)) x5.toNat x5.toNat) x151 1 fun a165 =>
  ldV h148 (a164.add 1) fun x166 =>
  ixS x166 x151 1 fun a167 =>
  ldI h148 a167 .i64 fun x168 =>
  ldI h148 a165 .i64 fun x169 =>
  ixS x166 x151 1 fun a170 =>
  stC h148 a170 (.int .i64 (IntKind.i64.wrap (x168 + (IntKind.i64.wrap (best_38 - x169))))) fun h171 =>
  I146 ((IntKind.i64.wrap (s149 + 1)), ()) h171 ∧ r147 (((IntKind.i64.wrap (s149 + 1)), ()), h171) ((s149, ()), h148)))
  (T Try.prog F.assign_trees_turn [p0_t, .int .i64 p1_s, .int .i64 end_37, .slice (some (bk b11)) x8.toNat x8.toNat] h148 (rt (fun v172 h173 =>
  v172 = .tuple ⟨[]⟩ ∧
  R (.ret (.tuple ⟨[]⟩)) h173) (fun v174 h175 => R (.pan v174) h175))))) (fun v176 h177 => R (.pan v176) h177)))
theorem E_assign_trees_grow {p0_t : Value} {p1_s : Int} {R : Res → H → Prop} {h : H} (H0 : B_assign_trees_grow p0_t p1_s R h) : T Try.prog F.assign_trees_grow [p0_t, .int .i64 p1_s] h R :=
  T_intro A_assign_trees_grow Try.func45 (c := bodyOf Try.f45) (by kernel_rfl) (by kernel_rfl) (by kernel_rfl) (cast_of (by kernel_rfl) H0)

def A_vouch_rising : An := ⟨lkA [(0, rng 1), (1, rng 3), (2, rng 1), (3, rng 3), (4, rng 9), (5, rng 2), (6, rng 2)], lkL [(2, [(4, .int .i64), (9, .int .i64)])], lkC []⟩
def B_vouch_rising (p0_list : Value) (p1_n : Int) (R : Res → H → Prop) (h : H) : Prop :=
  slcP p0_list fun a1 l2 c3 =>
  ∃ (I4 : (Int × Int × Unit) → H → Prop) (r5 : (Int × Int × Unit) × H → (Int × Int × Unit) × H → Prop), WellFounded r5 ∧ I4 ((-1), 0, ()) h ∧
  ∀ (last_7 : Int) (s8 : Int) (h6 : H), I4 (last_7, s8, ()) h6 →
  ifP (decide (s8 < ((l2 : Nat) : Int))) (ixS p0_list s8 1 fun a9 =>
  ldI h6 a9 .i64 fun x10 =>
  ifP (decide (last_7 < x10)) (T Try.prog F.vouch_need [.bool (decide (x10 < p1_n)), .int .i64 221] h6 (rt (fun v11 h12 =>
  v11 = .tuple ⟨[]⟩ ∧
  I4 (x10, (IntKind.i64.wrap (s8 + 1)), ()) h12 ∧ r5 ((x10, (IntKind.i64.wrap (s8 + 1)), ()), h12) ((last_7, s8, ()), h6)) (fun v13 h14 => R (.pan v13) h14))) (T Try.prog F.vouch_need [.bool false, .int .i64 221] h6 (rt (fun v15 h16 =>
  v15 = .tuple ⟨[]⟩ ∧
  I4 (x10, (IntKind.i64.wrap (s8 + 1)), ()) h16 ∧ r5 ((x10, (IntKind.i64.wrap (s8 + 1)), ()), h16) ((last_7, s8, ()), h6)) (fun v17 h18 => R (.pan v17) h18))))
  (R (.ret (.tuple ⟨[]⟩)) h6)
theorem E_vouch_rising {p0_list : Value} {p1_n : Int} {R : Res → H → Prop} {h : H} (H0 : B_vouch_rising p0_list p1_n R h) : T Try.prog F.vouch_rising [p0_list, .int .i64 p1_n] h R :=
  T_intro A_vouch_rising Try.func59 (c := bodyOf Try.f59) (by kernel_rfl) (by kernel_rfl) (by kernel_rfl) (cast_of (by kernel_rfl) H0)

def A_graph_label : An := ⟨lkA [(0, rng 2), (1, rng 19)], lkL [], lkC []⟩
def B_graph_label (p0_e : List Value) (R : Res → H → Prop) (h : H) : Prop :=
  newP h (.cells ⟨p0_e⟩ 41 (0, 0)) fun b1 h2 =>
  ldI h2 ((bk b1).add 2) .i64 fun x3 =>
  ifP (decide (0 ≤ x3)) (ldI h2 ((bk b1).add 2) .i64 fun x4 =>
  ifP (decide (x4 ≤ 1048576)) (ldI h2 ((bk b1).add 3) .i64 fun x5 =>
  ifP (decide ((-1048576) ≤ x5)) (ldI h2 ((bk b1).add 3) .i64 fun x6 =>
  R (.ret (.bool (decide (x6 ≤ 1048576)))) h2) (R (.ret (.bool false)) h2)) (R (.ret (.bool false)) h2)) (R (.ret (.bool false)) h2)
theorem E_graph_label {p0_e : List Value} {R : Res → H → Prop} {h : H} (H0 : B_graph_label p0_e R h) : T Try.prog F.graph_label [.agg ⟨p0_e⟩] h R :=
  T_intro A_graph_label Try.func60 (c := bodyOf Try.f60) (by kernel_rfl) (by kernel_rfl) (by kernel_rfl) (cast_of (by kernel_rfl) H0)

def A_assign_rows_gap : An := ⟨lkA [(0, rng 1), (1, rng 7), (2, ⟨[0, 1, 2, 4, 7, 8, 9, 11, 15, 16, 17, 19, 20, 21, 22, 23, 3, 5, 6, 10, 12, 13, 14, 18, 24, 25, 26, 27, 28, 29, 30, 31], lkN [(29, [3, 6, 10, 13])]⟩), (3, rng 9), (4, ⟨[0, 1, 2, 4, 7, 8, 9, 11, 3, 5, 6, 10, 12, 13, 14, 15], lkN []⟩), (5, rng 1)], lkL [], lkC []⟩
def B_assign_rows_gap (p0_r : Value) (p1_v : Int) (p2_c : Int) (R : Res → H → Prop) (h : H) : Prop :=
  ptrP p0_r fun a1 =>
  ldI h (a1.add 4) .i64 fun x2 =>
  ifP (decide (p2_c < x2)) (ptrP p0_r fun a3 =>
  ptrP p0_r fun a4 =>
  ptrP p0_r fun a5 =>
  ptrP p0_r fun a6 =>
  ldV h (a3.add 1) fun x7 =>
  ixS x7 p1_v 1 fun a8 =>
  ldI h a8 .i64 fun x9 =>
  ldV h (a4.add 2) fun x10 =>
  ixS x10 p2_c 1 fun a11 =>
  ldI h a11 .i64 fun x12 =>
  ldV h (a5.add 0) fun x13 =>
  ldV h (a6.add 0) fun x14 =>
  ptrP x14 fun a15 =>
  ldI h (a15.add 0) .i64 fun x16 =>
  T Try.prog F.assign_table_weight [x13, .int .i64 p1_v, .int .i64 (IntKind.i64.wrap (p2_c + x16))] h (rt (fun v17 h18 =>
  ∃ r19, v17 = .int .i64 r19 ∧
  (sameAt 2 a11 h h18) ∧
  (sameAt 2 (a4.add 2) h h18) ∧
  (sameAt 2 a8 h h18) ∧
  (sameAt 2 (a3.add 1) h h18) ∧
  R (.ret (.int .i64 (IntKind.i64.wrap ((IntKind.i64.wrap (x9 + x12)) - r19)))) h18) (fun v20 h21 => R (.pan v20) h21)))
  (ptrP p0_r fun a22 =>
  ldI h (a22.add 4) .i64 fun x23 =>
  ifP (decide (p2_c = (IntKind.i64.wrap (x23 + p1_v)))) (ptrP p0_r fun a24 =>
  ptrP p0_r fun a25 =>
  ldV h (a24.add 1) fun x26 =>
  ixS x26 p1_v 1 fun a27 =>
  ldI h a27 .i64 fun x28 =>
  ldV h (a25.add 2) fun x29 =>
  ixS x29 p2_c 1 fun a30 =>
  ldI h a30 .i64 fun x31 =>
  R (.ret (.int .i64 (IntKind.i64.wrap (x28 + x31)))) h)
  (R (.ret (.int .i64 (-1))) h))
theorem E_assign_rows_gap {p0_r : Value} {p1_v : Int} {p2_c : Int} {R : Res → H → Prop} {h : H} (H0 : B_assign_rows_gap p0_r p1_v p2_c R h) : T Try.prog F.assign_rows_gap [p0_r, .int .i64 p1_v, .int .i64 p2_c] h R :=
  T_intro A_assign_rows_gap Try.func61 (c := bodyOf Try.f61) (by kernel_rfl) (by kernel_rfl) (by kernel_rfl) (cast_of (by kernel_rfl) H0)

def A_heaps_New : An := ⟨lkA [(0, rng 2), (1, rng 6), (2, rng 2), (3, rng 6), (4, rng 2), (5, ⟨[0, 1, 3, 2, 4, 5, 6, 7, 8], lkN []⟩), (6, rng 1), (7, rng 2), (8, rng 12), (9, rng 2), (10, rng 12), (11, rng 2), (12, rng 12), (13, rng 2), (14, rng 8), (15, rng 3)], lkL [], lkC []⟩
def B_heaps_New (p0_kind : Int) (p1_n : Int) (R : Res → H → Prop) (h : H) : Prop :=
  ifP (decide (p0_kind < 1)) (R (.ret (.tuple ⟨[.pointer none, .int .i64 50]⟩)) h) (ifP (decide (4 < p0_kind)) (R (.ret (.tuple ⟨[.pointer none, .int .i64 50]⟩)) h)
  (ifP (decide (p1_n < 0)) (R (.ret (.tuple ⟨[.pointer none, .int .i64 3]⟩)) h) (ifP (decide (1024 < p1_n)) (R (.ret (.tuple ⟨[.pointer none, .int .i64 3]⟩)) h)
  (mkS p1_n p1_n 8 [.int .i64 0] 2 h fun b1 h2 =>
  mkS p1_n p1_n 1 [.bool false] 4 h2 fun b3 h4 =>
  ([.slice (some (bk b1)) p1_n.toNat p1_n.toNat, .slice (some (bk b3)) p1_n.toNat p1_n.toNat] : List Value).length = 2 ∧
  newP h4 (.cells ⟨[.slice (some (bk b1)) p1_n.toNat p1_n.toNat, .slice (some (bk b3)) p1_n.toNat p1_n.toNat, .nilIface, .int .i64 0, .int .i64 p0_kind, .int .i64 0]⟩ 134 (0, 0)) fun b5 h6 =>
  ifP (decide (p0_kind = 1)) (mkS p1_n p1_n 8 [.int .i64 0] 3 h6 fun b7 h8 =>
  newP h8 (.cells ⟨[.pointer (some ((bk b5).add 0)), .slice none 0 0, .slice (some (bk b7)) p1_n.toNat p1_n.toNat]⟩ 138 (0, 0)) fun b9 h10 =>
  stC h10 ((bk b5).add 2) (.iface 135 (.pointer (some (bk b9)))) fun h11 =>
  R (.ret (.tuple ⟨[.pointer (some (bk b5)), .int .i64 0]⟩)) h11)
  (ifP (decide (p0_kind = 2)) (mkS p1_n p1_n 24 [.int .i64 0, .int .i64 0, .int .i64 0] 178 h6 fun b12 h13 =>
  newP h13 (.cells ⟨[.pointer (some ((bk b5).add 0)), .int .i64 (-1), .slice (some (bk b12)) p1_n.toNat p1_n.toNat]⟩ 142 (0, 0)) fun b14 h15 =>
  stC h15 ((bk b5).add 2) (.iface 139 (.pointer (some (bk b14)))) fun h16 =>
  R (.ret (.tuple ⟨[.pointer (some (bk b5)), .int .i64 0]⟩)) h16)
  (ifP (decide (p0_kind = 3)) (mkS p1_n p1_n 48 [.int .i64 0, .int .i64 0, .int .i64 0, .int .i64 0, .int .i64 0, .bool false] 181 h6 fun b17 h18 =>
  newP h18 (.cells ⟨[.pointer (some ((bk b5).add 0)), .int .i64 (-1), .slice (some (bk b17)) p1_n.toNat p1_n.toNat]⟩ 146 (0, 0)) fun b19 h20 =>
  stC h20 ((bk b5).add 2) (.iface 143 (.pointer (some (bk b19)))) fun h21 =>
  R (.ret (.tuple ⟨[.pointer (some (bk b5)), .int .i64 0]⟩)) h21)
  (ifP (decide (p0_kind = 4)) (newP h6 (.cells ⟨[.pointer (some (bk b5)), .int .i64 0, .slice none 0 0, .slice none 0 0, .slice none 0 0, .slice none 0 0, .slice none 0 0, .slice none 0 0, .slice none 0 0, .slice none 0 0, .slice none 0 0, .slice none 0 0, .slice none 0 0, .slice none 0 0, .slice none 0 0, .slice none 0 0, .slice none 0 0, .slice none 0 0, .slice none 0 0, .slice none 0 0, .slice none 0 0, .slice none 0 0, .slice none 0 0, .slice none 0 0, .slice none 0 0, .slice none 0 0, .slice none 0 0, .slice none 0 0, .slice none 0 0, .slice none 0 0, .slice none 0 0, .slice none 0 0, .slice none 0 0, .slice none 0 0, .slice none 0 0, .slice none 0 0, .slice none 0 0, .slice none 0 0, .slice none 0 0, .slice none 0 0, .slice none 0 0, .slice none 0 0, .slice none 0 0, .slice none 0 0, .slice none 0 0, .slice none 0 0, .slice none 0 0, .slice none 0 0, .slice none 0 0, .slice none 0 0, .slice none 0 0, .slice none 0 0, .slice none 0 0, .slice none 0 0, .slice none 0 0, .slice none 0 0, .slice none 0 0, .slice none 0 0, .slice none 0 0, .slice none 0 0, .slice none 0 0, .slice none 0 0, .slice none 0 0, .slice none 0 0, .slice none 0 0, .slice none 0 0, .slice none 0 0]⟩ 150 (0, 0)) fun b22 h23 =>
  stC h23 ((bk b5).add 2) (.iface 147 (.pointer (some (bk b22)))) fun h24 =>
  R (.ret (.tuple ⟨[.pointer (some (bk b5)), .int .i64 0]⟩)) h24)
  (R (.ret (.tuple ⟨[.pointer (some (bk b5)), .int .i64 0]⟩)) h6))))))))
theorem E_heaps_New {p0_kind : Int} {p1_n : Int} {R : Res → H → Prop} {h : H} (H0 : B_heaps_New p0_kind p1_n R h) : T Try.prog F.heaps_New [.int .i64 p0_kind, .int .i64 p1_n] h R :=
  T_intro A_heaps_New Try.func62 (c := bodyOf Try.f62) (by kernel_rfl) (by kernel_rfl) (by kernel_rfl) (cast_of (by kernel_rfl) H0)

def A_heaps_Queue_Push : An := ⟨lkA [(0, rng 1), (1, rng 13), (2, rng 1), (3, rng 9), (4, rng 1), (5, rng 4), (6, rng 1), (7, ⟨[0, 1, 2, 3, 5, 6, 7, 8, 9, 11, 12, 4, 10, 13, 14, 15, 16], lkN []⟩), (8, rng 8), (9, rng 6), (10, rng 1)], lkL [], lkC []⟩
def B_heaps_Queue_Push (p0_q : Value) (p1_h : Int) (p2_key : Int) (R : Res → H → Prop) (h : H) : Prop :=
  ifP (decide (p1_h < 0)) (R (.ret (.int .i64 30)) h) (ptrP p0_q fun a1 =>
  ldV h ((a1.add 0).add 1) fun x2 =>
  slcP x2 fun a3 l4 c5 =>
  ifP (decide (((l4 : Nat) : Int) ≤ p1_h)) (R (.ret (.int .i64 30)) h)
  (ptrP p0_q fun a6 =>
  ldV h ((a6.add 0).add 1) fun x7 =>
  ixS x7 p1_h 1 fun a8 =>
  ldB h a8 fun x9 =>
  ifP x9 (R (.ret (.int .i64 51)) h)
  (T Try.prog F.heaps_Queue_low [p0_q, .int .i64 p2_key] h (rt (fun v10 h11 =>
  ∃ r12, v10 = .bool r12 ∧
  ifP r12 (R (.ret (.int .i64 80)) h11)
  (ptrP p0_q fun a13 =>
  ptrP p0_q fun a14 =>
  ldV h11 ((a13.add 0).add 0) fun x15 =>
  ldV h11 ((a14.add 0).add 1) fun x16 =>
  ixS x15 p1_h 1 fun a17 =>
  stC h11 a17 (.int .i64 p2_key) fun h18 =>
  ixS x16 p1_h 1 fun a19 =>
  stC h18 a19 (.bool true) fun h20 =>
  ptrP p0_q fun a21 =>
  ldI h20 (a21.add 3) .i64 fun x22 =>
  ptrP p0_q fun a23 =>
  stC h20 (a23.add 3) (.int .i64 (IntKind.i64.wrap (x22 + 1))) fun h24 =>
  ptrP p0_q fun a25 =>
  ldV h24 (a25.add 2) fun x26 =>
  methP Try.prog h24 x26 "compass/heaps.push" fun f27 rv28 =>
  T Try.prog f27 (rv28 :: [.int .i64 p1_h]) h24 (rt (fun v29 h30 =>
  v29 = .tuple ⟨[]⟩ ∧
  R (.ret (.int .i64 0)) h30) (fun v31 h32 => R (.pan v31) h32)))) (fun v33 h34 => R (.pan v33) h34)))))
theorem E_heaps_Queue_Push {p0_q : Value} {p1_h : Int} {p2_key : Int} {R : Res → H → Prop} {h : H} (H0 : B_heaps_Queue_Push p0_q p1_h p2_key R h) : T Try.prog F.heaps_Queue_Push [p0_q, .int .i64 p1_h, .int .i64 p2_key] h R :=
  T_intro A_heaps_Queue_Push Try.func63 (c := bodyOf Try.f63) (by kernel_rfl) (by kernel_rfl) (by kernel_rfl) (cast_of (by kernel_rfl) H0)

def A_heaps_Queue_Lower : An := ⟨lkA [(0, rng 1), (1, rng 13), (2, rng 1), (3, rng 10), (4, rng 1), (5, rng 11), (6, rng 1), (7, rng 4), (8, rng 1), (9, rng 10), (10, rng 9), (11, rng 6), (12, rng 1)], lkL [], lkC []⟩
def B_heaps_Queue_Lower (p0_q : Value) (p1_h : Int) (p2_key : Int) (R : Res → H → Prop) (h : H) : Prop :=
  ifP (decide (p1_h < 0)) (R (.ret (.int .i64 30)) h) (ptrP p0_q fun a1 =>
  ldV h ((a1.add 0).add 1) fun x2 =>
  slcP x2 fun a3 l4 c5 =>
  ifP (decide (((l4 : Nat) : Int) ≤ p1_h)) (R (.ret (.int .i64 30)) h)
  (ptrP p0_q fun a6 =>
  ldV h ((a6.add 0).add 1) fun x7 =>
  ixS x7 p1_h 1 fun a8 =>
  ldB h a8 fun x9 =>
  ifP (!x9) (R (.ret (.int .i64 2)) h)
  (ptrP p0_q fun a10 =>
  ldV h ((a10.add 0).add 0) fun x11 =>
  ixS x11 p1_h 1 fun a12 =>
  ldI h a12 .i64 fun x13 =>
  ifP (decide (x13 < p2_key)) (R (.ret (.int .i64 52)) h)
  (T Try.prog F.heaps_Queue_low [p0_q, .int .i64 p2_key] h (rt (fun v14 h15 =>
  ∃ r16, v14 = .bool r16 ∧
  ifP r16 (R (.ret (.int .i64 80)) h15)
  (ptrP p0_q fun a17 =>
  ldV h15 ((a17.add 0).add 0) fun x18 =>
  ixS x18 p1_h 1 fun a19 =>
  ldI h15 a19 .i64 fun x20 =>
  ifP (decide (p2_key < x20)) (ptrP p0_q fun a21 =>
  ldV h15 ((a21.add 0).add 0) fun x22 =>
  ixS x22 p1_h 1 fun a23 =>
  stC h15 a23 (.int .i64 p2_key) fun h24 =>
  ptrP p0_q fun a25 =>
  ldV h24 (a25.add 2) fun x26 =>
  methP Try.prog h24 x26 "compass/heaps.lower" fun f27 rv28 =>
  T Try.prog f27 (rv28 :: [.int .i64 p1_h]) h24 (rt (fun v29 h30 =>
  v29 = .tuple ⟨[]⟩ ∧
  R (.ret (.int .i64 0)) h30) (fun v31 h32 => R (.pan v31) h32)))
  (R (.ret (.int .i64 0)) h15))) (fun v33 h34 => R (.pan v33) h34))))))
theorem E_heaps_Queue_Lower {p0_q : Value} {p1_h : Int} {p2_key : Int} {R : Res → H → Prop} {h : H} (H0 : B_heaps_Queue_Lower p0_q p1_h p2_key R h) : T Try.prog F.heaps_Queue_Lower [p0_q, .int .i64 p1_h, .int .i64 p2_key] h R :=
  T_intro A_heaps_Queue_Lower Try.func64 (c := bodyOf Try.f64) (by kernel_rfl) (by kernel_rfl) (by kernel_rfl) (cast_of (by kernel_rfl) H0)

def A_heaps_Queue_Pop : An := ⟨lkA [(0, rng 3), (1, rng 9), (2, rng 2), (3, rng 5), (4, rng 8), (5, rng 8), (6, rng 5), (7, rng 6)], lkL [], lkC []⟩
def B_heaps_Queue_Pop (p0_q : Value) (R : Res → H → Prop) (h : H) : Prop :=
  T Try.prog F.heaps_Queue_Top [p0_q] h (rt (fun v1 h2 =>
  ∃ r3 : Int, ∃ r4 : Int, ∃ r5 : Int, v1 = .tuple ⟨[.int .i64 r3, .int .i64 r4, .int .i64 r5]⟩ ∧
  ifP (decide (r5 = 0)) (ptrP p0_q fun a6 =>
  ldV h2 (a6.add 2) fun x7 =>
  methP Try.prog h2 x7 "compass/heaps.pop" fun f8 rv9 =>
  T Try.prog f8 (rv9 :: []) h2 (rt (fun v10 h11 =>
  v10 = .tuple ⟨[]⟩ ∧
  ptrP p0_q fun a12 =>
  ldV h11 ((a12.add 0).add 1) fun x13 =>
  ixS x13 r3 1 fun a14 =>
  stC h11 a14 (.bool false) fun h15 =>
  ptrP p0_q fun a16 =>
  ldI h15 (a16.add 3) .i64 fun x17 =>
  ptrP p0_q fun a18 =>
  stC h15 (a18.add 3) (.int .i64 (IntKind.i64.wrap (x17 - 1))) fun h19 =>
  ptrP p0_q fun a20 =>
  stC h19 (a20.add 5) (.int .i64 r4) fun h21 =>
  R (.ret (.tuple ⟨[.int .i64 r3, .int .i64 r4, .int .i64 r5]⟩)) h21) (fun v22 h23 => R (.pan v22) h23)))
  (R (.ret (.tuple ⟨[.int .i64 r3, .int .i64 r4, .int .i64 r5]⟩)) h2)) (fun v24 h25 => R (.pan v24) h25))
theorem E_heaps_Queue_Pop {p0_q : Value} {R : Res → H → Prop} {h : H} (H0 : B_heaps_Queue_Pop p0_q R h) : T Try.prog F.heaps_Queue_Pop [p0_q] h R :=
  T_intro A_heaps_Queue_Pop Try.func65 (c := bodyOf Try.f65) (by kernel_rfl) (by kernel_rfl) (by kernel_rfl) (cast_of (by kernel_rfl) H0)

def A_assign_trees_turn : An := ⟨lkA [(0, rng 2), (1, rng 9), (2, rng 3), (3, rng 8), (4, rng 7), (5, rng 5), (6, rng 8), (7, ⟨[0, 1, 2, 4, 5, 6, 7, 9, 10, 11, 3, 8, 12, 13, 14, 15], lkN []⟩), (8, rng 3), (9, rng 2)], lkL [(5, [(8, .int .i64)])], lkC [(5, [(8, .int .i64)])]⟩
def B_assign_trees_turn (p0_t : Value) (p1_s : Int) (p2_end : Int) (p3_via : Value) (R : Res → H → Prop) (h : H) : Prop :=
  ∃ J1 : (Int × Unit) → H → Prop, (ptrP p0_t fun a4 =>
  ldV h (a4.add 0) fun x5 =>
  ptrP x5 fun a6 =>
  ldI h (a6.add 0) .i64 fun x7 =>
  ifP (decide (p2_end < x7)) (ifP (decide (p2_end = p1_s)) (R (.ret (.tuple ⟨[]⟩)) h)
  (ptrP p0_t fun a8 =>
  ldV h (a8.add 2) fun x9 =>
  ixS x9 p2_end 1 fun a10 =>
  ldI h a10 .i64 fun x11 =>
  ptrP p0_t fun a12 =>
  ldV h (a12.add 2) fun x13 =>
  ixS x13 p2_end 1 fun a14 =>
  stC h a14 (.int .i64 (-1)) fun h15 =>
  J1 (x11, ()) h15))
  (J1 (p2_end, ()) h)) ∧
  (∀ (w_3 : Int) (h2 : H), J1 (w_3, ()) h2 →
  ∃ (I16 : (Int × Unit) → H → Prop) (r17 : (Int × Unit) × H → (Int × Unit) × H → Prop), WellFounded r17 ∧ I16 (w_3, ()) h2 ∧
  ∀ (w_19 : Int) (h18 : H), I16 (w_19, ()) h18 →
  ixS p3_via w_19 1 fun a20 =>
  ldI h18 a20 .i64 fun x21 =>
  ptrP p0_t fun a22 =>
  ldV h18 (a22.add 2) fun x23 =>
  ixS x23 x21 1 fun a24 =>
  ldI h18 a24 .i64 fun x25 =>
  ptrP p0_t fun a26 =>
  ptrP p0_t fun a27 =>
  ldV h18 (a26.add 2) fun x28 =>
  ldV h18 (a27.add 2) fun x29 =>
  ixS x28 x21 1 fun a30 =>
  stC h18 a30 (.int .i64 w_19) fun h31 =>
  ixS x29 w_19 1 fun a32 =>
  stC h31 a32 (.int .i64 x21) fun h33 =>
  ifP (decide (x21 = p1_s)) (R (.ret (.tuple ⟨[]⟩)) h33)
  (I16 (x25, ()) h33 ∧ r17 ((x25, ()), h33) ((w_19, ()), h18)))
theorem E_assign_trees_turn {p0_t : Value} {p1_s : Int} {p2_end : Int} {p3_via : Value} {R : Res → H → Prop} {h : H} (H0 : B_assign_trees_turn p0_t p1_s p2_end p3_via R h) : T Try.prog F.assign_trees_turn [p0_t, .int .i64 p1_s, .int .i64 p2_end, p3_via] h R :=
  T_intro A_assign_trees_turn Try.func66 (c := bodyOf Try.f66) (by kernel_rfl) (by kernel_rfl) (by kernel_rfl) (cast_of (by kernel_rfl) H0)

def A_heaps_Queue_low : An := ⟨lkA [(0, rng 1), (1, rng 14)], lkL [], lkC []⟩
def B_heaps_Queue_low (p0_q : Value) (p1_key : Int) (R : Res → H → Prop) (h : H) : Prop :=
  ptrP p0_q fun a1 =>
  ldI h (a1.add 4) .i64 fun x2 =>
  ifP (decide (x2 = 4)) (ptrP p0_q fun a3 =>
  ldI h (a3.add 5) .i64 fun x4 =>
  R (.ret (.bool (decide (p1_key < x4)))) h) (R (.ret (.bool false)) h)
theorem E_heaps_Queue_low {p0_q : Value} {p1_key : Int} {R : Res → H → Prop} {h : H} (H0 : B_heaps_Queue_low p0_q p1_key R h) : T Try.prog F.heaps_Queue_low [p0_q, .int .i64 p1_key] h R :=
  T_intro A_heaps_Queue_low Try.func80 (c := bodyOf Try.f80) (by kernel_rfl) (by kernel_rfl) (by kernel_rfl) (cast_of (by kernel_rfl) H0)

def A_heaps_Queue_Top : An := ⟨lkA [(0, rng 3), (1, rng 5), (2, rng 3), (3, rng 6), (4, ⟨[0, 1, 2, 3, 4, 6, 9, 5, 7, 8, 10, 11], lkN []⟩)], lkL [], lkC []⟩
def B_heaps_Queue_Top (p0_q : Value) (R : Res → H → Prop) (h : H) : Prop :=
  ptrP p0_q fun a1 =>
  ldI h (a1.add 3) .i64 fun x2 =>
  ifP (decide (x2 = 0)) (R (.ret (.tuple ⟨[.int .i64 0, .int .i64 0, .int .i64 4]⟩)) h)
  (ptrP p0_q fun a3 =>
  ldV h (a3.add 2) fun x4 =>
  methP Try.prog h x4 "compass/heaps.top" fun f5 rv6 =>
  T Try.prog f5 (rv6 :: []) h (rt (fun v7 h8 =>
  ∃ r9, v7 = .int .i64 r9 ∧
  ptrP p0_q fun a10 =>
  ldV h8 ((a10.add 0).add 0) fun x11 =>
  ixS x11 r9 1 fun a12 =>
  ldI h8 a12 .i64 fun x13 =>
  R (.ret (.tuple ⟨[.int .i64 r9, .int .i64 x13, .int .i64 0]⟩)) h8) (fun v14 h15 => R (.pan v14) h15)))
theorem E_heaps_Queue_Top {p0_q : Value} {R : Res → H → Prop} {h : H} (H0 : B_heaps_Queue_Top p0_q R h) : T Try.prog F.heaps_Queue_Top [p0_q] h R :=
  T_intro A_heaps_Queue_Top Try.func81 (c := bodyOf Try.f81) (by kernel_rfl) (by kernel_rfl) (by kernel_rfl) (cast_of (by kernel_rfl) H0)

def A_heaps_binary_lower : An := ⟨lkA [(0, rng 8), (1, ⟨[0, 1, 2, 3, 4, 5, 7, 8, 9, 10, 12, 13, 14, 6, 11, 15, 16, 17, 18], lkN []⟩), (2, rng 12), (3, rng 4), (4, rng 4)], lkL [(1, [(4, .int .i64)])], lkC []⟩
def B_heaps_binary_lower (p0_b : Value) (p1_h : Int) (R : Res → H → Prop) (h : H) : Prop :=
  ptrP p0_b fun a1 =>
  ldV h (a1.add 2) fun x2 =>
  ixS x2 p1_h 1 fun a3 =>
  ldI h a3 .i64 fun x4 =>
  ∃ (I5 : (Int × Unit) → H → Prop) (r6 : (Int × Unit) × H → (Int × Unit) × H → Prop), WellFounded r6 ∧ I5 (x4, ()) h ∧
  ∀ (i_8 : Int) (h7 : H), I5 (i_8, ()) h7 →
  ifP (decide (0 < i_8)) (ptrP p0_b fun a9 =>
  ptrP p0_b fun a10 =>
  (2 : Int) ≠ 0 ∧
  ldV h7 (a9.add 0) fun x11 =>
  ldV h7 (a10.add 1) fun x12 =>
  ixS x12 (IntKind.i64.wrap ((IntKind.i64.wrap (i_8 - 1)).tdiv 2)) 1 fun a13 =>
  ldI h7 a13 .i64 fun x14 =>
  T Try.prog F.heaps_keyed_ahead [x11, .int .i64 p1_h, .int .i64 x14] h7 (rt (fun v15 h16 =>
  ∃ r17, v15 = .bool r17 ∧
  ifP r17 (ptrP p0_b fun a18 =>
  ldV h16 (a18.add 1) fun x19 =>
  (2 : Int) ≠ 0 ∧
  ixS x19 (IntKind.i64.wrap ((IntKind.i64.wrap (i_8 - 1)).tdiv 2)) 1 fun a20 =>
  ldI h16 a20 .i64 fun x21 =>
  T Try.prog F.heaps_binary_put [p0_b, .int .i64 i_8, .int .i64 x21] h16 (rt (fun v22 h23 =>
  v22 = .tuple ⟨[]⟩ ∧
  (2 : Int) ≠ 0 ∧
  I5 ((IntKind.i64.wrap ((IntKind.i64.wrap (i_8 - 1)).tdiv 2)), ()) h23 ∧ r6 (((IntKind.i64.wrap ((IntKind.i64.wrap (i_8 - 1)).tdiv 2)), ()), h23) ((i_8, ()), h7)) (fun v24 h25 => R (.pan v24) h25)))
  (T Try.prog F.heaps_binary_put [p0_b, .int .i64 i_8, .int .i64 p1_h] h16 (rt (fun v26 h27 =>
  v26 = .tuple ⟨[]⟩ ∧
  R (.ret (.tuple ⟨[]⟩)) h27) (fun v28 h29 => R (.pan v28) h29)))) (fun v30 h31 => R (.pan v30) h31))) (T Try.prog F.heaps_binary_put [p0_b, .int .i64 i_8, .int .i64 p1_h] h7 (rt (fun v32 h33 =>
  v32 = .tuple ⟨[]⟩ ∧
  R (.ret (.tuple ⟨[]⟩)) h33) (fun v34 h35 => R (.pan v34) h35)))
theorem E_heaps_binary_lower {p0_b : Value} {p1_h : Int} {R : Res → H → Prop} {h : H} (H0 : B_heaps_binary_lower p0_b p1_h R h) : T Try.prog F.heaps_binary_lower [p0_b, .int .i64 p1_h] h R :=
  T_intro A_heaps_binary_lower Try.func105 (c := bodyOf Try.f105) (by kernel_rfl) (by kernel_rfl) (by kernel_rfl) (cast_of (by kernel_rfl) H0)

def A_heaps_binary_pop : An := ⟨lkA [(0, ⟨[0, 1, 2, 4, 5, 6, 3, 7, 8, 9, 10, 11, 12], lkN []⟩), (1, ⟨[0, 1, 2, 3, 5, 6, 7, 4, 8, 9, 10, 11, 12, 13, 14], lkN []⟩), (2, rng 6), (3, rng 2), (4, rng 1), (5, rng 4), (6, ⟨[0, 1, 2, 3, 4, 5, 6, 7, 9, 10, 11, 13, 14, 17, 18, 19, 21, 8, 12, 15, 16, 20, 22, 23, 24, 25], lkN []⟩), (7, rng 3), (8, ⟨[0, 1, 2, 3, 4, 5, 6, 8, 9, 10, 12, 15, 7, 11, 13, 14, 16, 17, 18], lkN []⟩), (9, rng 10), (10, rng 2), (11, rng 4)], lkL [(5, [(4, .int .i64)])], lkC [(8, [(5, .int .i64)])]⟩
def B_heaps_binary_pop (p0_b : Value) (R : Res → H → Prop) (h : H) : Prop :=
  ptrP p0_b fun a1 =>
  ptrP p0_b fun a2 =>
  ldV h (a1.add 1) fun x3 =>
  ldV h (a2.add 1) fun x4 =>
  slcP x4 fun a5 l6 c7 =>
  ixS x3 (IntKind.i64.wrap (((l6 : Nat) : Int) - 1)) 1 fun a8 =>
  ldI h a8 .i64 fun x9 =>
  ptrP p0_b fun a10 =>
  ptrP p0_b fun a11 =>
  ldV h (a10.add 1) fun x12 =>
  ldV h (a11.add 1) fun x13 =>
  slcP x13 fun a14 l15 c16 =>
  slcP x12 fun a17 l18 c19 =>
  (0 : Int) ≤ (IntKind.i64.wrap (((l15 : Nat) : Int) - 1)) ∧ (IntKind.i64.wrap (((l15 : Nat) : Int) - 1)) ≤ ((c19 : Nat) : Int) ∧
  (0 : Int) ≤ (0 : Int) ∧ (0 : Int) ≤ (IntKind.i64.wrap (((l15 : Nat) : Int) - 1)) ∧
  ptrP p0_b fun a20 =>
  oneP (sliceV a17 c19 (0 : Int) (IntKind.i64.wrap (((l15 : Nat) : Int) - 1)) 1) (stC h (a20.add 1) (sliceV a17 c19 (0 : Int) (IntKind.i64.wrap (((l15 : Nat) : Int) - 1)) 1) fun h21 =>
  ptrP p0_b fun a22 =>
  ldV h21 (a22.add 1) fun x23 =>
  slcP x23 fun a24 l25 c26 =>
  ifP (decide (((l25 : Nat) : Int) = 0)) (R (.ret (.tuple ⟨[]⟩)) h21)
  (∃ (I27 : (Int × Unit) → H → Prop) (r28 : (Int × Unit) × H → (Int × Unit) × H → Prop), WellFounded r28 ∧ I27 (0, ()) h21 ∧
  ∀ (i_30 : Int) (h29 : H), I27 (i_30, ()) h29 →
  ∃ J31 : (Int × Unit) → H → Prop, (ifP (decide ((IntKind.i64.wrap ((IntKind.i64.wrap ((IntKind.i64.wrap (2 * i_30)) + 1)) + 1)) < ((l25 : Nat) : Int))) (ptrP p0_b fun a34 =>
  ptrP p0_b fun a35 =>
  ptrP p0_b fun a36 =>
  ldV h29 (a34.add 0) fun x37 =>
  ldV h29 (a35.add 1) fun x38 =>
  ixS x38 (IntKind.i64.wrap ((IntKind.i64.wrap ((IntKind.i64.wrap (2 * i_30)) + 1)) + 1)) 1 fun a39 =>
  ldI h29 a39 .i64 fun x40 =>
  ldV h29 (a36.add 1) fun x41 =>
  ixS x41 (IntKind.i64.wrap ((IntKind.i64.wrap (2 * i_30)) + 1)) 1 fun a42 =>
  ldI h29 a42 .i64 fun x43 =>
  T Try.prog F.heaps_keyed_ahead [x37, .int .i64 x40, .int .i64 x43] h29 (rt (fun v44 h45 =>
  ∃ r46, v44 = .bool r46 ∧
  ifP r46 (J31 ((IntKind.i64.wrap ((IntKind.i64.wrap ((IntKind.i64.wrap (2 * i_30)) + 1)) + 1)), ()) h45)
  (J31 ((IntKind.i64.wrap ((IntKind.i64.wrap (2 * i_30)) + 1)), ()) h45)) (fun v47 h48 => R (.pan v47) h48))) (J31 ((IntKind.i64.wrap ((IntKind.i64.wrap (2 * i_30)) + 1)), ()) h29)) ∧
  (∀ (c_33 : Int) (h32 : H), J31 (c_33, ()) h32 →
  ifP (decide (((l25 : Nat) : Int) ≤ c_33)) (T Try.prog F.heaps_binary_put [p0_b, .int .i64 i_30, .int .i64 x9] h32 (rt (fun v49 h50 =>
  v49 = .tuple ⟨[]⟩ ∧
  R (.ret (.tuple ⟨[]⟩)) h50) (fun v51 h52 => R (.pan v51) h52))) (ptrP p0_b fun a53 =>
  ptrP p0_b fun a54 =>
  ldV h32 (a53.add 0) fun x55 =>
  ldV h32 (a54.add 1) fun x56 =>
  ixS x56 c_33 1 fun a57 =>
  ldI h32 a57 .i64 fun x58 =>
  T Try.prog F.heaps_keyed_ahead [x55, .int .i64 x58, .int .i64 x9] h32 (rt (fun v59 h60 =>
  ∃ r61, v59 = .bool r61 ∧
  ifP (!r61) (T Try.prog F.heaps_binary_put [p0_b, .int .i64 i_30, .int .i64 x9] h60 (rt (fun v62 h63 =>
  v62 = .tuple ⟨[]⟩ ∧
  R (.ret (.tuple ⟨[]⟩)) h63) (fun v64 h65 => R (.pan v64) h65)))
  (ptrP p0_b fun a66 =>
  ldV h60 (a66.add 1) fun x67 =>
  ixS x67 c_33 1 fun a68 =>
  ldI h60 a68 .i64 fun x69 =>
  T Try.prog F.heaps_binary_put [p0_b, .int .i64 i_30, .int .i64 x69] h60 (rt (fun v70 h71 =>
  v70 = .tuple ⟨[]⟩ ∧
  I27 (c_33, ()) h71 ∧ r28 ((c_33, ()), h71) ((i_30, ()), h29)) (fun v72 h73 => R (.pan v72) h73)))) (fun v74 h75 => R (.pan v74) h75))))))
theorem E_heaps_binary_pop {p0_b : Value} {R : Res → H → Prop} {h : H} (H0 : B_heaps_binary_pop p0_b R h) : T Try.prog F.heaps_binary_pop [p0_b] h R :=
  T_intro A_heaps_binary_pop Try.func106 (c := bodyOf Try.f106) (by kernel_rfl) (by kernel_rfl) (by kernel_rfl) (cast_of (by kernel_rfl) H0)

def A_heaps_binary_push : An := ⟨lkA [(0, rng 11), (1, ⟨[0, 1, 2, 4, 5, 6, 7, 3, 8, 9, 10, 11, 12], lkN []⟩), (2, rng 3)], lkL [], lkC []⟩
def B_heaps_binary_push (p0_b : Value) (p1_h : Int) (R : Res → H → Prop) (h : H) : Prop :=
  ptrP p0_b fun a1 =>
  ldV h (a1.add 1) fun x2 =>
  newP h (.cells ⟨[.int .i64 p1_h]⟩ 3 (0, 0)) fun b3 h4 =>
  apP x2 (.slice (some (bk b3)) 1 1) h4 1 3 8 [.int .i64 0] fun s5 h6 =>
  ptrP p0_b fun a7 =>
  oneP s5 (stC h6 (a7.add 1) s5 fun h8 =>
  ptrP p0_b fun a9 =>
  ptrP p0_b fun a10 =>
  ldV h8 (a9.add 2) fun x11 =>
  ldV h8 (a10.add 1) fun x12 =>
  slcP x12 fun a13 l14 c15 =>
  ixS x11 p1_h 1 fun a16 =>
  stC h8 a16 (.int .i64 (IntKind.i64.wrap (((l14 : Nat) : Int) - 1))) fun h17 =>
  T Try.prog F.heaps_binary_lower [p0_b, .int .i64 p1_h] h17 (rt (fun v18 h19 =>
  v18 = .tuple ⟨[]⟩ ∧
  R (.ret (.tuple ⟨[]⟩)) h19) (fun v20 h21 => R (.pan v20) h21)))
theorem E_heaps_binary_push {p0_b : Value} {p1_h : Int} {R : Res → H → Prop} {h : H} (H0 : B_heaps_binary_push p0_b p1_h R h) : T Try.prog F.heaps_binary_push [p0_b, .int .i64 p1_h] h R :=
  T_intro A_heaps_binary_push Try.func107 (c := bodyOf Try.f107) (by kernel_rfl) (by kernel_rfl) (by kernel_rfl) (cast_of (by kernel_rfl) H0)

def A_heaps_binary_top : An := ⟨lkA [(0, rng 1), (1, rng 7)], lkL [], lkC []⟩
def B_heaps_binary_top (p0_b : Value) (R : Res → H → Prop) (h : H) : Prop :=
  ptrP p0_b fun a1 =>
  ldV h (a1.add 1) fun x2 =>
  ixS x2 0 1 fun a3 =>
  ldI h a3 .i64 fun x4 =>
  R (.ret (.int .i64 x4)) h
theorem E_heaps_binary_top {p0_b : Value} {R : Res → H → Prop} {h : H} (H0 : B_heaps_binary_top p0_b R h) : T Try.prog F.heaps_binary_top [p0_b] h R :=
  T_intro A_heaps_binary_top Try.func108 (c := bodyOf Try.f108) (by kernel_rfl) (by kernel_rfl) (by kernel_rfl) (cast_of (by kernel_rfl) H0)

def A_heaps_keyed_ahead : An := ⟨lkA [(0, rng 1), (1, ⟨[0, 1, 2, 4, 7, 8, 9, 11, 3, 5, 6, 10, 12, 13, 14, 15, 16, 17, 18, 20, 23, 24, 25, 27, 19, 21, 22, 26, 28, 29, 30, 31, 32, 33, 34, 35, 36, 37], lkN []⟩)], lkL [], lkC []⟩
def B_heaps_keyed_ahead (p0_k : Value) (p1_a : Int) (p2_b : Int) (R : Res → H → Prop) (h : H) : Prop :=
  ptrP p0_k fun a1 =>
  ptrP p0_k fun a2 =>
  ldV h (a1.add 0) fun x3 =>
  ixS x3 p1_a 1 fun a4 =>
  ldI h a4 .i64 fun x5 =>
  ldV h (a2.add 0) fun x6 =>
  ixS x6 p2_b 1 fun a7 =>
  ldI h a7 .i64 fun x8 =>
  ifP (decide (x5 < x8)) (R (.ret (.bool true)) h) (ptrP p0_k fun a9 =>
  ptrP p0_k fun a10 =>
  ldV h (a9.add 0) fun x11 =>
  ixS x11 p1_a 1 fun a12 =>
  ldI h a12 .i64 fun x13 =>
  ldV h (a10.add 0) fun x14 =>
  ixS x14 p2_b 1 fun a15 =>
  ldI h a15 .i64 fun x16 =>
  ifP (decide (x13 = x16)) (R (.ret (.bool (decide (p1_a < p2_b)))) h) (R (.ret (.bool false)) h))
theorem E_heaps_keyed_ahead {p0_k : Value} {p1_a : Int} {p2_b : Int} {R : Res → H → Prop} {h : H} (H0 : B_heaps_keyed_ahead p0_k p1_a p2_b R h) : T Try.prog F.heaps_keyed_ahead [p0_k, .int .i64 p1_a, .int .i64 p2_b] h R :=
  T_intro A_heaps_keyed_ahead Try.func109 (c := bodyOf Try.f109) (by kernel_rfl) (by kernel_rfl) (by kernel_rfl) (cast_of (by kernel_rfl) H0)

def A_heaps_binary_put : An := ⟨lkA [(0, ⟨[0, 1, 2, 4, 5, 6, 7, 9, 10, 11, 3, 8, 12, 13, 14, 15], lkN []⟩)], lkL [], lkC []⟩
def B_heaps_binary_put (p0_b : Value) (p1_i : Int) (p2_h : Int) (R : Res → H → Prop) (h : H) : Prop :=
  ptrP p0_b fun a1 =>
  ptrP p0_b fun a2 =>
  ldV h (a1.add 1) fun x3 =>
  ldV h (a2.add 2) fun x4 =>
  ixS x3 p1_i 1 fun a5 =>
  stC h a5 (.int .i64 p2_h) fun h6 =>
  ixS x4 p2_h 1 fun a7 =>
  stC h6 a7 (.int .i64 p1_i) fun h8 =>
  R (.ret (.tuple ⟨[]⟩)) h8
theorem E_heaps_binary_put {p0_b : Value} {p1_i : Int} {p2_h : Int} {R : Res → H → Prop} {h : H} (H0 : B_heaps_binary_put p0_b p1_i p2_h R h) : T Try.prog F.heaps_binary_put [p0_b, .int .i64 p1_i, .int .i64 p2_h] h R :=
  T_intro A_heaps_binary_put Try.func110 (c := bodyOf Try.f110) (by kernel_rfl) (by kernel_rfl) (by kernel_rfl) (cast_of (by kernel_rfl) H0)

end Go.Proofs.Ytdblngaacnpgmaa

namespace Go.Proofs.Ytdblngaacnpgmaa
open Go
set_option linter.unusedVariables false

theorem bk_add (b i : Nat) : (bk b).add i = ⟨b, i, none⟩ := by
  unfold Addr.add
  split
  · rename_i h; subst h; rfl
  · simp
theorem bk_add2 (b i j : Nat) : Addr.add ⟨b, i, none⟩ j = ⟨b, i + j, none⟩ := by
  unfold Addr.add
  split
  · rename_i h; subst h; rfl
  · rfl

theorem ifP_of {b : Bool} {A B : Prop} (h1 : b = true → A) (h2 : b = false → B) : ifP b A B := by
  cases b
  · exact h2 rfl
  · exact h1 rfl

theorem least {P : Nat → Prop} (h : ∃ k, P k) : ∃ m, P m ∧ ∀ j, P j → m ≤ j := by
  obtain ⟨k, hk⟩ := h
  induction k using Nat.strongRecOn with
  | _ k ih =>
    by_cases e : ∃ j, j < k ∧ P j
    · obtain ⟨j, lt, hj⟩ := e
      exact ih j lt hj
    · exact ⟨k, hk, fun j hj => Nat.le_of_not_lt fun lt => e ⟨j, lt, hj⟩⟩
open Classical in
noncomputable def mu {σ : Type} (I : σ → H → Nat → Prop) (x : σ × H) : Nat :=
  if h : ∃ k, I x.1 x.2 k then Classical.choose (least h) else 0
def rk {σ : Type} (I : σ → H → Nat → Prop) (x y : σ × H) : Prop := mu I x < mu I y
theorem rk_wf {σ : Type} (I : σ → H → Nat → Prop) : WellFounded (rk I) := (measure (mu I)).wf
theorem mu_spec {σ : Type} {I : σ → H → Nat → Prop} {s : σ} {h : H} (k : ∃ k, I s h k) : I s h (mu I (s, h)) := by
  unfold mu
  rw [dif_pos k]
  exact (Classical.choose_spec (least k)).1
theorem mu_le {σ : Type} {I : σ → H → Nat → Prop} {s : σ} {h : H} {k : Nat} (i : I s h k) : mu I (s, h) ≤ k := by
  have e : ∃ k, I s h k := ⟨k, i⟩
  unfold mu
  rw [dif_pos e]
  exact (Classical.choose_spec (least e)).2 k i
theorem mu_next {σ : Type} {I : σ → H → Nat → Prop} {s s' : σ} {h h' : H} {k : Nat} (i : I s' h' k) (lt : k < mu I (s, h)) :
    (∃ k, I s' h' k) ∧ rk I (s', h') (s, h) := ⟨⟨k, i⟩, Nat.lt_of_le_of_lt (mu_le i) lt⟩

def ints (n : Nat) (f : Nat → Int) : List Value := (List.range n).map fun i => .int .i64 (f i)
theorem ints_length (n : Nat) (f : Nat → Int) : (ints n f).length = n := by simp [ints]
theorem ints_get {n : Nat} {f : Nat → Int} {i : Nat} (h : i < n) : (ints n f)[i]? = some (.int .i64 (f i)) := by
  simp [ints, List.getElem?_map, List.getElem?_range h]
theorem ints_ext {n : Nat} {f g : Nat → Int} (h : ∀ i, i < n → f i = g i) : ints n f = ints n g := by
  unfold ints
  apply List.map_congr_left
  intro i hi
  rw [h i (List.mem_range.1 hi)]
def upd (f : Nat → Int) (i : Nat) (x : Int) : Nat → Int := fun j => if j = i then x else f j
theorem ints_set {n : Nat} {f : Nat → Int} {i : Nat} {x : Int} : (ints n f).set i (.int .i64 x) = ints n (upd f i x) := by
  apply List.ext_getElem
  · simp [ints]
  · intro j h1 h2
    simp only [ints, List.getElem_set, List.getElem_map, List.getElem_range, upd]
    by_cases e : i = j
    · subst e; simp
    · rw [if_neg e, if_neg (fun h => e h.symm)]

def recs (n k : Nat) (st : Nat → Nat → Int) : List Value := ints (n * k) fun i => st (i / k) (i % k)
def upd2 (st : Nat → Nat → Int) (v j : Nat) (x : Int) : Nat → Nat → Int := fun w i => if w = v ∧ i = j then x else st w i
theorem recs_length (n k : Nat) (st : Nat → Nat → Int) : (recs n k st).length = n * k := ints_length _ _
theorem at_lt {n k v j : Nat} (hv : v < n) (hj : j < k) : v * k + j < n * k := by
  calc v * k + j < v * k + k := by omega
    _ = (v + 1) * k := by rw [Nat.add_mul]; omega
    _ ≤ n * k := Nat.mul_le_mul_right _ hv
theorem at_div {k v j : Nat} (hj : j < k) : (v * k + j) / k = v := by
  rw [Nat.mul_comm, Nat.mul_add_div (by omega), Nat.div_eq_of_lt hj]; omega
theorem at_mod {k v j : Nat} (hj : j < k) : (v * k + j) % k = j := by
  rw [Nat.mul_comm, Nat.mul_add_mod, Nat.mod_eq_of_lt hj]
theorem recs_get {n k : Nat} {st : Nat → Nat → Int} {v j : Nat} (hv : v < n) (hj : j < k) : (recs n k st)[v * k + j]? = some (.int .i64 (st v j)) := by
  unfold recs
  rw [ints_get (at_lt hv hj), at_div hj, at_mod hj]
theorem recs_set {n k : Nat} {st : Nat → Nat → Int} {v j : Nat} {x : Int} (hv : v < n) (hj : j < k) :
    (recs n k st).set (v * k + j) (.int .i64 x) = recs n k (upd2 st v j x) := by
  unfold recs
  rw [ints_set]
  apply ints_ext
  intro i hi
  unfold upd upd2
  by_cases e : i = v * k + j
  · subst e; rw [if_pos rfl, at_div hj, at_mod hj, if_pos ⟨rfl, rfl⟩]
  · rw [if_neg e, if_neg]
    rintro ⟨rfl, rfl⟩
    apply e
    rw [Nat.mul_comm]; exact (Nat.div_add_mod i k).symm

/-- The heap h0 with an array of records at b. -/
def fp (h0 : H) (b e n k : Nat) (st : Nat → Nat → Int) : H := hput h0 b (.cells ⟨recs n k st⟩ e (0, 0))

theorem hcell_at {h : H} {b i : Nat} {c : Array Value} {e : TypeId} {f : Nat × Nat} (hb : h b = some (.cells c e f)) : hcell h ⟨b, i, none⟩ = c[i]? := by
  unfold hcell
  simp [hb]
theorem fp_at (h0 : H) (b e n k : Nat) (st : Nat → Nat → Int) : fp h0 b e n k st b = some (.cells ⟨recs n k st⟩ e (0, 0)) := by simp [fp, hput]
theorem fp_ne {h0 : H} {b e n k : Nat} {st : Nat → Nat → Int} {b' : Nat} (hb : b' ≠ b) : fp h0 b e n k st b' = h0 b' := by simp [fp, hput, hb]
theorem fp_ld {h0 : H} {b e n k : Nat} {st : Nat → Nat → Int} {v j : Nat} (hv : v < n) (hj : j < k) :
    hcell (fp h0 b e n k st) (((bk b).add (v * k)).add j) = some (.int .i64 (st v j)) := by
  rw [bk_add, bk_add2, hcell_at (fp_at ..)]
  simp only [List.getElem?_toArray]
  exact recs_get hv hj
theorem fp_set {h0 : H} {b e n k : Nat} {st : Nat → Nat → Int} {v j : Nat} {x : Int} (hv : v < n) (hj : j < k) :
    hset (fp h0 b e n k st) (((bk b).add (v * k)).add j) [.int .i64 x] = fp h0 b e n k (upd2 st v j x) := by
  rw [bk_add, bk_add2]
  funext b'
  unfold hset
  by_cases hb : b' = b
  · subst hb
    rw [if_pos rfl, fp_at, fp_at]
    simp only [Option.map_some, setR]
    rw [List.setIfInBounds_toArray, recs_set hv hj]
  · rw [if_neg hb, fp_ne hb, fp_ne hb]
theorem setR_list : ∀ (vs l : List Value) (o : Nat), o + vs.length ≤ l.length → setR ⟨l⟩ o vs = ⟨l.take o ++ vs ++ l.drop (o + vs.length)⟩ := by
  intro vs
  induction vs with
  | nil => intro l o _; simp [setR]
  | cons v vs ih =>
    intro l o h
    simp only [List.length_cons] at h ⊢
    show setR (Array.setIfInBounds ⟨l⟩ o v) (o + 1) vs = _
    rw [List.setIfInBounds_toArray, ih (l.set o v) (o + 1) (by rw [List.length_set]; omega)]
    congr 1
    have e1 : (l.set o v).take (o + 1) = l.take o ++ [v] := by
      rw [List.take_add_one, List.take_set_of_le (Nat.le_refl o)]
      simp [List.getElem?_set]
      omega
    have e2 : (l.set o v).drop (o + 1 + vs.length) = l.drop (o + (vs.length + 1)) := by
      rw [List.drop_set_of_lt (by omega)]
      congr 1; omega
    rw [e1, e2]
    simp
theorem hset_put {h : H} {b e : Nat} {zs vs : List Value} (hl : vs.length = zs.length) :
    hset (hput h b (.cells ⟨zs⟩ e (0, 0))) (bk b) vs = hput h b (.cells ⟨vs⟩ e (0, 0)) := by
  funext k
  unfold hset hput
  by_cases hk : k = b
  · subst hk
    simp only [if_true, Option.map_some]
    rw [setR_list vs zs 0 (by omega)]
    simp [hl]
  · simp [hk]
theorem put_ld {h : H} {b e i : Nat} {vs : List Value} {v : Value} (hi : vs[i]? = some v) : hcell (hput h b (.cells ⟨vs⟩ e (0, 0))) ((bk b).add i) = some v := by
  rw [bk_add, hcell_at (c := ⟨vs⟩) (e := e) (f := (0, 0)) (by simp [hput]), List.getElem?_toArray]
  exact hi
theorem put_wr {h : H} {b e n i : Nat} {vs : List Value} (hn : i + n ≤ vs.length) : hwr (hput h b (.cells ⟨vs⟩ e (0, 0))) ((bk b).add i) n := by
  rw [bk_add]
  exact ⟨⟨vs⟩, e, by simp [hput], rfl, by simpa using hn⟩

end Go.Proofs.Ytdblngaacnpgmaa

namespace Go.Proofs.Ytdblngaacnpgmaa
open Go
set_option linter.unusedVariables false

abbrev St := Nat → Nat → Int
abbrev w64 (x : Int) : Int := IntKind.i64.wrap x

/-- At bf lies the head of the slice of n nodes at bn. -/
def Hd (h : H) (bf bn n : Nat) : Prop := bf ≠ bn ∧ ∃ ef, h bf = some (.cells ⟨[.slice (some (bk bn)) n n]⟩ ef (0, 0))
abbrev fo (bf : Nat) : Value := .pointer (some (bk bf))
abbrev vi (v : Nat) : Value := .int .i64 (v : Int)
theorem Hd.fp {h0 : H} {bf bn n e k : Nat} {st : St} (hd : Hd h0 bf bn n) : Hd (fp h0 bn e n k st) bf bn n := by
  obtain ⟨ne, ef, h⟩ := hd
  exact ⟨ne, ef, by rw [fp_ne ne]; exact h⟩
theorem Hd.ld {h : H} {bf bn n : Nat} (hd : Hd h bf bn n) : hcell h ((bk bf).add 0) = some (.slice (some (bk bn)) n n) := by
  obtain ⟨ne, ef, h⟩ := hd
  rw [bk_add, hcell_at h]
  rfl
theorem nx {bn n v sz c : Nat} {K : Addr → Prop} (hv : v < n) (k : K ((bk bn).add (v * sz))) : ixS (.slice (some (bk bn)) n c) (v : Int) sz K :=
  ⟨Int.natCast_nonneg _, by omega, by rw [Int.toNat_natCast]; exact k⟩
theorem nd {h : H} {bf bn n v sz : Nat} {K : Addr → Prop} (hd : Hd h bf bn n) (hv : v < n) (k : K ((bk bn).add (v * sz))) :
    ptrP (fo bf) fun a => ldV h (a.add 0) fun x => ixS x (v : Int) sz K :=
  ⟨_, hd.ld, nx hv k⟩
/-- A pointer to a node, or less than 0. -/
def Pt (n : Nat) (c : Int) : Prop := c < 0 ∨ ∃ w : Nat, c = w ∧ w < n

def raiseS (st : St) (c d : Int) : St := if 0 ≤ c then fun w j => if w = c.toNat ∧ (j = 3 ∨ j = 4 ∨ j = 5) then w64 (st w j + d) else st w j else st
def pushS (st : St) (v : Nat) : St :=
  let s1 := raiseS st (st v 0) (st v 5)
  let s2 := raiseS s1 (s1 v 1) (s1 v 5)
  upd2 s2 v 5 0

section
variable {bf bn n e : Nat} {h0 : H} {st : St}

theorem raiseS_link {st : St} {c x : Int} {w j : Nat} (hj : j < 3) : raiseS st c x w j = st w j := by
  unfold raiseS
  split
  · show (if w = c.toNat ∧ (j = 3 ∨ j = 4 ∨ j = 5) then _ else _) = _
    rw [if_neg]; omega
  · rfl

def topS (st : St) (v : Nat) : Bool := decide (st v 2 < 0) || (decide (st (st v 2).toNat 0 ≠ v) && decide (st (st v 2).toNat 1 ≠ v))

/-- The least of a node's value and of what its subtrees have. -/
def least3 (st : St) (v : Nat) : Int :=
  let a := st v 3
  let b := if 0 ≤ st v 0 then (if st (st v 0).toNat 4 < a then st (st v 0).toNat 4 else a) else a
  if 0 ≤ st v 1 then (if st (st v 1).toNat 4 < b then st (st v 1).toNat 4 else b) else b
def pullS (st : St) (v : Nat) : St := upd2 st v 4 (least3 st v)

/-- A child of v, or less than 0. -/
def Pc (n v : Nat) (c : Int) : Prop := c < 0 ∨ ∃ w : Nat, c = w ∧ w < n ∧ w ≠ v
theorem Pc.pt {n v : Nat} {c : Int} (h : Pc n v c) : Pt n c := h.imp id fun ⟨w, e, lt, _⟩ => ⟨w, e, lt⟩

def lstep (st : St) (c a : Int) : Int := if 0 ≤ c then (if st c.toNat 4 < a then st c.toNat 4 else a) else a
theorem least3_eq (st : St) (v : Nat) : least3 st v = lstep st (st v 1) (lstep st (st v 0) (st v 3)) := rfl

end
end Go.Proofs.Ytdblngaacnpgmaa

namespace Go.Proofs.Ytdblngaacnpgmaa
open Go
set_option linter.unusedVariables false

def rot1 (st : St) (v u : Nat) : St :=
  if topS st u then st else if st (st u 2).toNat 0 = u then upd2 st (st u 2).toNat 0 v else upd2 st (st u 2).toNat 1 v
def rot2 (st : St) (v u : Nat) : St := upd2 (upd2 st v 2 (st u 2)) u 2 v
def inner (st : St) (v u : Nat) : Int := if st u 0 = v then st v 1 else st v 0
def rot3 (st : St) (v u : Nat) : St :=
  if st u 0 = v then upd2 (upd2 st u 0 (st v 1)) v 1 u else upd2 (upd2 st u 1 (st v 0)) v 0 u
def rot4 (st : St) (c : Int) (u : Nat) : St := if 0 ≤ c then upd2 st c.toNat 2 u else st
def rotL (st : St) (v u : Nat) : St :=
  let s2 := rot2 (rot1 st v u) v u
  rot4 (rot3 s2 v u) (inner s2 v u) u
def rotateS (st : St) (v u : Nat) : St := pullS (pullS (rotL st v u) u) v

end Go.Proofs.Ytdblngaacnpgmaa

namespace Go.Proofs.Ytdblngaacnpgmaa
open Go
set_option linter.unusedVariables false

def Chn (par : Nat → Int) : List Nat → Prop
  | a :: b :: l => par b = a ∧ Chn par (b :: l)
  | _ => True
theorem Chn.tail {par : Nat → Int} {a : Nat} {l : List Nat} (h : Chn par (a :: l)) : Chn par l := by
  cases l with
  | nil => trivial
  | cons b l => exact h.2
theorem Chn.append {par : Nat → Int} {l1 l2 : List Nat} : Chn par (l1 ++ l2) ↔ Chn par l1 ∧ Chn par l2 ∧ ∀ a b, l1.getLast? = some a → l2.head? = some b → par b = a := by
  induction l1 with
  | nil => simp [Chn]
  | cons x l ih =>
    cases l with
    | nil =>
      cases l2 with
      | nil => simp [Chn]
      | cons b l2 =>
        simp only [List.cons_append, List.nil_append, Chn]
        constructor
        · rintro ⟨h1, h2⟩
          exact ⟨trivial, h2, fun a c ha hc => by simp at ha hc; subst ha; subst hc; exact h1⟩
        · rintro ⟨_, h2, h3⟩
          exact ⟨h3 x b rfl rfl, h2⟩
    | cons y l =>
      simp only [List.cons_append, Chn] at ih ⊢
      rw [ih]
      simp only [List.getLast?_cons_cons]
      exact ⟨fun ⟨a, b, c, d⟩ => ⟨⟨a, b⟩, c, d⟩, fun ⟨⟨a, b⟩, c, d⟩ => ⟨a, b, c, d⟩⟩

def mn (tv : Nat → Int) : List Nat → Int
  | [] => 9223372036854775808
  | a :: l => min (tv a) (mn tv l)
theorem mn_append (tv : Nat → Int) (l1 l2 : List Nat) : mn tv (l1 ++ l2) = min (mn tv l1) (mn tv l2) ∨ (∃ a ∈ l1 ++ l2, 9223372036854775808 ≤ tv a) := by
  induction l1 with
  | nil =>
    by_cases h : ∃ a ∈ l2, 9223372036854775808 ≤ tv a
    · exact .inr h
    · left
      have : mn tv l2 ≤ 9223372036854775808 := by
        cases l2 with
        | nil => exact Int.le_refl _
        | cons b l =>
          have : tv b < 9223372036854775808 := by
            apply Int.lt_of_not_ge
            intro k; exact h ⟨b, List.mem_cons_self .., k⟩
          simp only [mn]; omega
      simp only [List.nil_append, mn]; omega
  | cons x l ih =>
    rcases ih with ih | ⟨a, ha, k⟩
    · left; simp only [List.cons_append, mn, ih]; omega
    · right; exact ⟨a, by rw [List.cons_append]; exact List.mem_cons_of_mem _ ha, k⟩

/-- The forest: each node's parent (or -1), and the value above it. -/
structure Fst (n : Nat) (par tv : Nat → Int) : Prop where
  pt : ∀ v, v < n → par v = -1 ∨ ∃ u : Nat, par v = u ∧ u < n
  acy : ∃ d : Nat → Nat, ∀ v u : Nat, v < n → par v = u → d u < d v
  rng : ∀ v, v < n → -9223372036854775808 ≤ tv v ∧ tv v < 9223372036854775808
  zero : ∀ v, v < n → par v = -1 → tv v = 0

def LL (L : Nat → List Nat) (c : Int) : List Nat := if 0 ≤ c then L c.toNat else []
theorem LL_nat (L : Nat → List Nat) (c : Nat) : LL L c = L c := by simp [LL]
theorem LL_neg {L : Nat → List Nat} {c : Int} (h : c < 0) : LL L c = [] := by unfold LL; rw [if_neg (by omega)]

/-- y is a child of u in a splay tree. -/
def Ch (st : St) (u y : Nat) : Prop := st u 0 = y ∨ st u 1 = y
def Top (st : St) (v : Nat) : Prop := ∀ u : Nat, st v 2 = u → ¬ Ch st u v
theorem topS_iff {st : St} {v : Nat} : topS st v = true ↔ Top st v := by
  unfold topS Top Ch
  by_cases h : st v 2 < 0
  · simp [h]
    intro u hu; omega
  · simp [h]
    constructor
    · intro ⟨h1, h2⟩ u hu
      rw [hu] at h1 h2
      exact ⟨h1, h2⟩
    · intro k
      exact k (st v 2).toNat (by omega)
theorem topS_false {st : St} {v : Nat} (h : topS st v = false) : ∃ u : Nat, st v 2 = u ∧ Ch st u v := by
  have : ¬ Top st v := fun t => by rw [topS_iff.2 t] at h; cases h
  unfold Top at this
  apply Classical.byContradiction
  intro k
  exact this fun u hu hc => k ⟨u, hu, hc⟩

structure Inv (n : Nat) (st : St) (L : Nat → List Nat) (par tv pd : Nat → Int) : Prop where
  ch : ∀ u y : Nat, u < n → Ch st u y → y < n ∧ st y 2 = u
  up : ∀ v, v < n → Pt n (st v 2)
  ino : ∀ v, v < n → L v = LL L (st v 0) ++ v :: LL L (st v 1)
  chn : ∀ v, v < n → Chn par (L v)
  hd : ∀ v, v < n → Top st v → ∃ a l, L v = a :: l ∧ par a = st v 2
  pdt : ∀ v, v < n → Top st v → pd v = 0
  pdc : ∀ u y : Nat, u < n → Ch st u y → w64 (pd y) = w64 (pd u + st u 5)
  val : ∀ v, v < n → st v 3 = w64 (tv v - pd v)
  lst : ∀ v, v < n → st v 4 = w64 (mn tv (L v) - pd v)

section
variable {n : Nat} {st : St} {L : Nat → List Nat} {par tv pd : Nat → Int}

theorem Inv.self (I : Inv n st L par tv pd) {v : Nat} (hv : v < n) : v ∈ L v := by
  rw [I.ino v hv]; simp
theorem Inv.sub (I : Inv n st L par tv pd) {u y x : Nat} (hu : u < n) (h : Ch st u y) (hx : x ∈ L y) : x ∈ L u := by
  rw [I.ino u hu]
  rcases h with h | h <;> rw [h, LL_nat] <;> simp [hx]
theorem Inv.len (I : Inv n st L par tv pd) {u y : Nat} (hu : u < n) (h : Ch st u y) : (L y).length < (L u).length := by
  rw [I.ino u hu]
  rcases h with h | h <;> rw [h, LL_nat] <;> simp <;> omega
theorem Inv.ind (I : Inv n st L par tv pd) {P : Nat → Prop} (h : ∀ v, v < n → (∀ c, Ch st v c → P c) → P v) : ∀ v, v < n → P v := by
  have : ∀ k v, v < n → (L v).length ≤ k → P v := by
    intro k
    induction k with
    | zero => intro v hv hk; exact absurd (I.self hv) (by rw [List.eq_nil_of_length_eq_zero (l := L v) (by omega)]; simp)
    | succ k ih =>
      intro v hv hk
      refine h v hv fun c hc => ih c (I.ch v c hv hc).1 ?_
      have := I.len hv hc
      omega
  exact fun v hv => this _ v hv (Nat.le_refl _)
theorem Inv.mem (I : Inv n st L par tv pd) {v x : Nat} (hv : v < n) : x ∈ L v ↔ x = v ∨ ∃ c, Ch st v c ∧ x ∈ L c := by
  constructor
  · intro h
    rw [I.ino v hv] at h
    simp only [List.mem_append, List.mem_cons] at h
    have key : ∀ c : Int, x ∈ LL L c → ∃ w : Nat, c = w ∧ x ∈ L w := by
      intro c hc
      by_cases h0 : 0 ≤ c
      · refine ⟨c.toNat, by omega, ?_⟩
        unfold LL at hc
        rwa [if_pos h0] at hc
      · rw [LL_neg (by omega)] at hc
        cases hc
    rcases h with h | h | h
    · obtain ⟨w, e, hw⟩ := key _ h
      exact .inr ⟨w, .inl e, hw⟩
    · exact .inl h
    · obtain ⟨w, e, hw⟩ := key _ h
      exact .inr ⟨w, .inr e, hw⟩
  · rintro (rfl | ⟨c, hc, hx⟩)
    · exact I.self hv
    · exact I.sub hv hc hx
theorem Inv.lt (I : Inv n st L par tv pd) : ∀ v, v < n → ∀ x ∈ L v, x < n := by
  refine I.ind fun v hv ih x hx => ?_
  rcases (I.mem hv).1 hx with rfl | ⟨c, hc, hx⟩
  · exact hv
  · exact ih c hc x hx
/-- Who stands above a node in its splay tree. -/
theorem Inv.anc (I : Inv n st L par tv pd) : ∀ w, w < n → ∀ y ∈ L w, y = w ∨ ∃ u : Nat, st y 2 = u ∧ u < n ∧ Ch st u y ∧ u ∈ L w := by
  refine I.ind fun w hw ih y hy => ?_
  rcases (I.mem hw).1 hy with rfl | ⟨c, hc, hx⟩
  · exact .inl rfl
  · right
    rcases ih c hc y hx with rfl | ⟨u, hu, hun, hcu, huc⟩
    · exact ⟨w, (I.ch w y hw hc).2, hw, hc, I.self hw⟩
    · exact ⟨u, hu, hun, hcu, I.sub hw hc huc⟩
theorem Inv.cmp (I : Inv n st L par tv pd) {b : Nat} (hb : b < n) : ∀ a, a < n → ∀ y, y ∈ L a → y ∈ L b → a ∈ L b ∨ b ∈ L a := by
  refine I.ind fun a ha ih y hya hyb => ?_
  rcases (I.mem ha).1 hya with rfl | ⟨c, hc, hx⟩
  · exact .inl hyb
  · rcases ih c hc y hx hyb with h | h
    · rcases I.anc b hb c h with rfl | ⟨u, hu, hun, hcu, hub⟩
      · exact .inr (I.sub ha hc (I.self (I.ch a c ha hc).1))
      · have := (I.ch a c ha hc).2
        have e : u = a := by omega
        subst e
        exact .inl hub
    · exact .inr (I.sub ha hc h)
theorem Inv.mtrans (I : Inv n st L par tv pd) : ∀ w, w < n → ∀ y ∈ L w, ∀ x ∈ L y, x ∈ L w := by
  refine I.ind fun w hw ih y hy x hx => ?_
  rcases (I.mem hw).1 hy with rfl | ⟨c, hc, hy⟩
  · exact hx
  · exact I.sub hw hc (ih c hc y hy x hx)

theorem Chn.pair {par : Nat → Int} {d : Nat → Nat} {n : Nat} (hd : ∀ v u : Nat, v < n → par v = u → d u < d v) :
    ∀ {l : List Nat}, Chn par l → (∀ x ∈ l, x < n) → l.Pairwise fun a b => d a < d b := by
  intro l
  induction l with
  | nil => intro _ _; exact List.Pairwise.nil
  | cons a l ih =>
    intro h hl
    have ih := ih h.tail (fun x hx => hl x (List.mem_cons_of_mem _ hx))
    refine List.Pairwise.cons ?_ ih
    cases l with
    | nil => intro b hb; cases hb
    | cons b l =>
      have h1 : d a < d b := hd b a (hl b (by simp)) h.1
      intro c hc
      rcases List.mem_cons.1 hc with rfl | hc
      · exact h1
      · have := (List.pairwise_cons.1 ih).1 c hc
        omega
theorem short {n : Nat} : ∀ {l : List Nat}, l.Nodup → (∀ x ∈ l, x < n) → l.length ≤ n := by
  induction n with
  | zero =>
    intro l _ h
    cases l with
    | nil => simp
    | cons a l => exact absurd (h a (by simp)) (by omega)
  | succ n ih =>
    intro l hn h
    have h1 := ih (hn.erase n) (fun x hx => by
      have := (hn.mem_erase_iff).1 hx
      have := h x this.2
      omega)
    by_cases hm : n ∈ l
    · rw [List.length_erase_of_mem hm] at h1; omega
    · rw [List.erase_of_not_mem hm] at h1; omega
theorem Inv.nodup (I : Inv n st L par tv pd) (F : Fst n par tv) {v : Nat} (hv : v < n) : (L v).Nodup := by
  obtain ⟨d, hd⟩ := F.acy
  refine (Chn.pair hd (I.chn v hv) (I.lt v hv)).imp ?_
  intro a b h e
  subst e
  omega
theorem Inv.short (I : Inv n st L par tv pd) (F : Fst n par tv) {v : Nat} (hv : v < n) : (L v).length ≤ n :=
  Go.Proofs.Ytdblngaacnpgmaa.short (I.nodup F hv) (I.lt v hv)

theorem Inv.mnEq (I : Inv n st L par tv pd) (F : Fst n par tv) {v : Nat} (hv : v < n) :
    mn tv (L v) = min (min (mn tv (LL L (st v 0))) (tv v)) (mn tv (LL L (st v 1))) := by
  have hr : ∀ a ∈ L v, tv a < 9223372036854775808 := fun a ha => (F.rng a (I.lt v hv a ha)).2
  rw [I.ino v hv] at hr ⊢
  rcases mn_append tv (LL L (st v 0)) (v :: LL L (st v 1)) with h | ⟨a, ha, k⟩
  · rw [h]; simp only [mn]; omega
  · have := hr a ha; omega
theorem Inv.mnRng (I : Inv n st L par tv pd) (F : Fst n par tv) : ∀ v, v < n → -9223372036854775808 ≤ mn tv (L v) ∧ mn tv (L v) < 9223372036854775808 := by
  have low : ∀ l : List Nat, (∀ a ∈ l, -9223372036854775808 ≤ tv a) → -9223372036854775808 ≤ mn tv l := by
    intro l
    induction l with
    | nil => intro _; simp only [mn]; omega
    | cons a l ih =>
      intro h
      have := ih (fun x hx => h x (List.mem_cons_of_mem _ hx))
      have := h a (by simp)
      simp only [mn]; omega
  intro v hv
  refine ⟨low _ fun a ha => (F.rng a (I.lt v hv a ha)).1, ?_⟩
  have := F.rng v hv
  rw [I.mnEq F hv]
  omega

end
end Go.Proofs.Ytdblngaacnpgmaa

namespace Go.Proofs.Ytdblngaacnpgmaa
open Go
set_option linter.unusedVariables false

instance (st : St) (u y : Nat) : Decidable (Ch st u y) := inferInstanceAs (Decidable (_ ∨ _))

theorem w64_eq (x : Int) : ∃ k : Int, w64 x = x + 18446744073709551616 * k ∧ -9223372036854775808 ≤ w64 x ∧ w64 x < 9223372036854775808 := by
  have := IntKind.wrap_i64 x
  refine ⟨(w64 x - x) / 18446744073709551616, ?_⟩
  unfold w64
  omega
theorem w64_in {x : Int} (h : -9223372036854775808 ≤ x) (k : x < 9223372036854775808) : w64 x = x := by
  obtain ⟨j, hj, _⟩ := w64_eq x
  omega
theorem w64_of {a b : Int} (h : ∃ k : Int, a = b + 18446744073709551616 * k) : w64 a = w64 b := by
  obtain ⟨k, h⟩ := h
  obtain ⟨i, hi, _⟩ := w64_eq a
  obtain ⟨j, hj, _⟩ := w64_eq b
  omega
theorem w64_cg {a b : Int} : w64 a = w64 b ↔ ∃ k : Int, a = b + 18446744073709551616 * k := by
  refine ⟨fun h => ?_, w64_of⟩
  obtain ⟨i, hi, _⟩ := w64_eq a
  obtain ⟨j, hj, _⟩ := w64_eq b
  exact ⟨j - i, by omega⟩

section
variable {n : Nat} {st : St} {L : Nat → List Nat} {par tv pd : Nat → Int}

theorem Inv.lr (I : Inv n st L par tv pd) (F : Fst n par tv) {v c : Nat} (hv : v < n) (h0 : st v 0 = c) (h1 : st v 1 = c) : False := by
  have nd := I.nodup F hv
  rw [I.ino v hv, h0, h1, LL_nat] at nd
  have hc := I.self (I.ch v c hv (.inl h0)).1
  have := (List.nodup_append.1 nd).2.2 c hc c (List.mem_cons_of_mem _ hc)
  exact this rfl
theorem Inv.chNe (I : Inv n st L par tv pd) {v c : Nat} (hv : v < n) (h : Ch st v c) : c ≠ v := by
  rintro rfl
  exact Nat.lt_irrefl _ (I.len hv h)

theorem raiseS_at {c : Nat} {x : Int} (w j : Nat) : raiseS st c x w j = if w = c ∧ (j = 3 ∨ j = 4 ∨ j = 5) then w64 (st w j + x) else st w j := by
  unfold raiseS
  rw [if_pos (Int.natCast_nonneg c), Int.toNat_natCast]
theorem raiseS_neg {c x : Int} (h : c < 0) : raiseS st c x = st := by
  unfold raiseS
  rw [if_neg (by omega)]
theorem raiseS_int {c x : Int} (w j : Nat) : raiseS st c x w j = if c = w ∧ (j = 3 ∨ j = 4 ∨ j = 5) then w64 (st w j + x) else st w j := by
  unfold raiseS
  by_cases h : 0 ≤ c
  · rw [if_pos h]
    show (if w = c.toNat ∧ _ then _ else _) = _
    congr 1
    refine propext ⟨fun ⟨a, b⟩ => ⟨by omega, b⟩, fun ⟨a, b⟩ => ⟨by omega, b⟩⟩
  · rw [if_neg h, if_neg (by omega)]

theorem pushS_eq (I : Inv n st L par tv pd) (F : Fst n par tv) {v : Nat} (hv : v < n) (w j : Nat) :
    pushS st v w j = if j = 3 ∨ j = 4 then (if Ch st v w then w64 (st w j + st v 5) else st w j)
      else if j = 5 then (if w = v then 0 else if Ch st v w then w64 (st w 5 + st v 5) else st w 5) else st w j := by
  have n0 : st v 0 ≠ v := fun h => I.chNe hv (.inl h) rfl
  have n1 : st v 1 ≠ v := fun h => I.chNe hv (.inr h) rfl
  have n2 : ∀ w : Nat, ¬ (st v 0 = w ∧ st v 1 = w) := fun w h => I.lr F hv h.1 h.2
  have n2 := n2 w
  have e1 : raiseS st (st v 0) (st v 5) v 1 = st v 1 := raiseS_link (by decide)
  have e5 : raiseS st (st v 0) (st v 5) v 5 = st v 5 := by rw [raiseS_int, if_neg (fun h => n0 h.1)]
  unfold pushS
  simp only [e1, e5]
  unfold upd2
  rw [raiseS_int, raiseS_int]
  unfold Ch
  by_cases hw : w = v
  · subst hw
    simp only [n0, n1, false_and, or_false, if_false, true_and]
    by_cases j5 : j = 5
    · subst j5; simp
    · simp [j5]
  · simp only [hw, false_and, if_false]
    by_cases h0 : st v 0 = w <;> by_cases h1 : st v 1 = w
    · exact absurd ⟨h0, h1⟩ n2
    all_goals
      by_cases j3 : j = 3
      · subst j3; simp [h0, h1]
      · by_cases j4 : j = 4
        · subst j4; simp [h0, h1]
        · by_cases j5 : j = 5
          · subst j5; simp [h0, h1]
          · simp [j3, j4, j5]
theorem pushS_link (I : Inv n st L par tv pd) (F : Fst n par tv) {v : Nat} (hv : v < n) (w : Nat) {j : Nat} (hj : j < 3) : pushS st v w j = st w j := by
  rw [pushS_eq I F hv, if_neg (by omega), if_neg (by omega)]

theorem Ch.congr {st st' : St} (h : ∀ w j, j < 3 → st' w j = st w j) {u y : Nat} : Ch st' u y ↔ Ch st u y := by
  unfold Ch; rw [h u 0 (by decide), h u 1 (by decide)]
theorem Top.congr {st st' : St} (h : ∀ w j, j < 3 → st' w j = st w j) {v : Nat} : Top st' v ↔ Top st v := by
  unfold Top
  rw [h v 2 (by decide)]
  exact forall_congr' fun u => imp_congr_right fun _ => not_congr (Ch.congr h)

def pdPush (st : St) (pd : Nat → Int) (v : Nat) : Nat → Int := fun w => if Ch st v w then pd v else pd w

theorem Inv.push (I : Inv n st L par tv pd) (F : Fst n par tv) {v : Nat} (hv : v < n) : Inv n (pushS st v) L par tv (pdPush st pd v) := by
  have lk : ∀ w j, j < 3 → pushS st v w j = st w j := fun w j hj => pushS_link I F hv w hj
  have cv : ∀ y, Ch st v y → w64 (pd y) = w64 (pd v + st v 5) := fun y hy => I.pdc v y hv hy
  refine ⟨?_, ?_, ?_, I.chn, ?_, ?_, ?_, ?_, ?_⟩
  · intro u y hu h
    have := I.ch u y hu ((Ch.congr lk).1 h)
    rw [lk _ _ (by decide)]
    exact this
  · intro w hw
    rw [lk _ _ (by decide)]
    exact I.up w hw
  · intro w hw
    rw [lk _ _ (by decide), lk _ _ (by decide)]
    exact I.ino w hw
  · intro w hw h
    rw [lk _ _ (by decide)]
    exact I.hd w hw ((Top.congr lk).1 h)
  · intro w hw h
    have h := (Top.congr lk).1 h
    unfold pdPush
    rw [if_neg]
    · exact I.pdt w hw h
    · intro hc
      exact h v (I.ch v w hv hc).2 hc
  · intro u y hu h
    replace h := (Ch.congr lk).1 h
    have hy := I.ch u y hu h
    have key := I.pdc u y hu h
    rw [pushS_eq I F hv, if_neg (by decide), if_pos rfl]
    unfold pdPush
    by_cases huv : u = v
    · subst huv
      rw [if_pos h, if_pos rfl, if_neg (fun hc => I.chNe hu hc rfl), Int.add_zero]
    · have hny : ¬ Ch st v y := by
        intro hc
        have := (I.ch v y hv hc).2
        omega
      rw [if_neg hny, if_neg huv]
      by_cases hcu : Ch st v u
      · rw [if_pos hcu, if_pos hcu, key]
        have := cv u hcu
        rw [w64_cg] at this
        obtain ⟨k, hk⟩ := this
        obtain ⟨i, hi, _⟩ := w64_eq (st u 5 + st v 5)
        apply w64_of
        exact ⟨k - i, by omega⟩
      · rw [if_neg hcu, if_neg hcu]
        exact key
  · intro w hw
    rw [pushS_eq I F hv, if_pos (.inl rfl)]
    unfold pdPush
    by_cases hc : Ch st v w
    · rw [if_pos hc, if_pos hc, I.val w hw]
      have := cv w hc
      rw [w64_cg] at this
      obtain ⟨k, hk⟩ := this
      obtain ⟨i, hi, _⟩ := w64_eq (tv w - pd w)
      apply w64_of
      exact ⟨i - k, by omega⟩
    · rw [if_neg hc, if_neg hc]
      exact I.val w hw
  · intro w hw
    rw [pushS_eq I F hv, if_pos (.inr rfl)]
    unfold pdPush
    by_cases hc : Ch st v w
    · rw [if_pos hc, if_pos hc, I.lst w hw]
      have := cv w hc
      rw [w64_cg] at this
      obtain ⟨k, hk⟩ := this
      obtain ⟨i, hi, _⟩ := w64_eq (mn tv (L w) - pd w)
      apply w64_of
      exact ⟨i - k, by omega⟩
    · rw [if_neg hc, if_neg hc]
      exact I.lst w hw

end
end Go.Proofs.Ytdblngaacnpgmaa

namespace Go.Proofs.Ytdblngaacnpgmaa
open Go
set_option linter.unusedVariables false

section
variable {n : Nat} {st : St} {L : Nat → List Nat} {par tv pd : Nat → Int}

theorem rot1_eq (I : Inv n st L par tv pd) (F : Fst n par tv) {v u : Nat} (hun : u < n) {w : Nat} (hw : w < n) (j : Nat) :
    rot1 st v u w j = if j < 2 ∧ st w j = u then (v : Int) else st w j := by
  have key : j < 2 → st w j = u → st u 2 = w ∧ Ch st w u := by
    intro hj h
    have hc : Ch st w u := by
      have : j = 0 ∨ j = 1 := by omega
      rcases this with rfl | rfl
      · exact .inl h
      · exact .inr h
    exact ⟨(I.ch w u hw hc).2, hc⟩
  unfold rot1
  cases ht : topS st u with
  | true =>
    rw [if_pos rfl, if_neg]
    rintro ⟨hj, h⟩
    obtain ⟨k1, k2⟩ := key hj h
    exact topS_iff.1 ht w k1 k2
  | false =>
    rw [if_neg (by decide)]
    obtain ⟨g, hg, hcg⟩ := topS_false ht
    rw [hg, Int.toNat_natCast]
    by_cases h0 : st g 0 = u
    · rw [if_pos h0]
      unfold upd2
      by_cases e : w = g ∧ j = 0
      · rw [if_pos e, if_pos]
        obtain ⟨rfl, rfl⟩ := e
        exact ⟨by decide, h0⟩
      · rw [if_neg e, if_neg]
        rintro ⟨hj, h⟩
        obtain ⟨k1, k2⟩ := key hj h
        have ew : w = g := by omega
        subst ew
        have ej : j = 1 := by
          have : ¬ j = 0 := fun h => e ⟨rfl, h⟩
          omega
        subst ej
        exact I.lr F hw h0 h
    · rw [if_neg h0]
      have h1 : st g 1 = u := hcg.resolve_left h0
      unfold upd2
      by_cases e : w = g ∧ j = 1
      · rw [if_pos e, if_pos]
        obtain ⟨rfl, rfl⟩ := e
        exact ⟨by decide, h1⟩
      · rw [if_neg e, if_neg]
        rintro ⟨hj, h⟩
        obtain ⟨k1, k2⟩ := key hj h
        have ew : w = g := by omega
        subst ew
        have ej : j = 0 := by
          have : ¬ j = 1 := fun h => e ⟨rfl, h⟩
          omega
        subst ej
        exact h0 h

/-- s: the side of u on which v hangs; o: the other. -/
structure Side (st : St) (u v s o : Nat) : Prop where
  so : (s = 0 ∧ o = 1) ∨ (s = 1 ∧ o = 0)
  at_ : st u s = v

theorem Side.ch {st : St} {u v s o : Nat} (h : Side st u v s o) {x y : Nat} : Ch st x y ↔ st x s = y ∨ st x o = y := by
  unfold Ch
  rcases h.so with ⟨rfl, rfl⟩ | ⟨rfl, rfl⟩
  · exact Iff.rfl
  · exact Or.comm

/-- What rotate does to the pointers. -/
structure RotE (n : Nat) (st st' : St) (v u s o : Nat) : Prop where
  es : ∀ w, w < n → st' w s = if w = u then st v o else if st w s = u then (v : Int) else st w s
  eo : ∀ w, w < n → st' w o = if w = v then (u : Int) else if st w o = u then (v : Int) else st w o
  e2 : ∀ w, w < n → st' w 2 = if w = u then (v : Int) else if w = v then st u 2 else if st v o = w then (u : Int) else st w 2
  e3 : ∀ w, w < n → ∀ j, 3 ≤ j → j ≠ 4 → st' w j = st w j

theorem rotL_eq (I : Inv n st L par tv pd) (F : Fst n par tv) {v u s o : Nat} (hv : v < n) (hun : u < n) (hs : Side st u v s o) :
    RotE n st (rotL st v u) v u s o ∧ inner (rot2 (rot1 st v u) v u) v u = st v o ∧ ∀ w, w < n → rotL st v u w 4 = st w 4 := by
  have hc : Ch st u v := hs.ch.2 (.inl hs.at_)
  have ne : v ≠ u := I.chNe hun hc
  have r1 := fun w (hw : w < n) j => rot1_eq I F (v := v) hun hw j
  have nuu : ∀ j, j < 2 → st u j ≠ u := by
    intro j hj h
    have : j = 0 ∨ j = 1 := by omega
    rcases this with rfl | rfl
    · exact I.chNe hun (.inl h) rfl
    · exact I.chNe hun (.inr h) rfl
  have nvu : ∀ j, j < 2 → st v j ≠ u := by
    intro j hj h
    have hcv : Ch st v u := by
      have : j = 0 ∨ j = 1 := by omega
      rcases this with rfl | rfl
      · exact .inl h
      · exact .inr h
    have := I.len hv hcv
    have := I.len hun hc
    omega
  have nlr := I.lr F hun (c := v)
  have r2 : ∀ w, w < n → ∀ j, rot2 (rot1 st v u) v u w j = if j = 2 then (if w = u then (v : Int) else if w = v then st u 2 else st w 2) else if j < 2 ∧ st w j = u then (v : Int) else st w j := by
    intro w hw j
    unfold rot2 upd2
    rw [r1 w hw j, r1 u hun 2]
    by_cases e : j = 2
    · subst e
      simp
    · simp [e]
  have ru0 : rot2 (rot1 st v u) v u u 0 = st u 0 := by
    rw [r2 u hun]; simp [nuu 0 (by decide)]
  have ru1 : rot2 (rot1 st v u) v u u 1 = st u 1 := by
    rw [r2 u hun]; simp [nuu 1 (by decide)]
  have rv0 : rot2 (rot1 st v u) v u v 0 = st v 0 := by
    rw [r2 v hv]; simp [nvu 0 (by decide)]
  have rv1 : rot2 (rot1 st v u) v u v 1 = st v 1 := by
    rw [r2 v hv]; simp [nvu 1 (by decide)]
  have hin : inner (rot2 (rot1 st v u) v u) v u = st v o := by
    unfold inner
    rw [ru0, rv0, rv1]
    rcases hs.so with ⟨rfl, rfl⟩ | ⟨rfl, rfl⟩
    · rw [if_pos hs.at_]
    · rw [if_neg (fun h => nlr h hs.at_)]
  have r3 : ∀ w, w < n → ∀ j, rot3 (rot2 (rot1 st v u) v u) v u w j = if w = u ∧ j = s then st v o else if w = v ∧ j = o then (u : Int) else rot2 (rot1 st v u) v u w j := by
    intro w hw j
    unfold rot3
    rw [ru0, rv0, rv1]
    rcases hs.so with ⟨rfl, rfl⟩ | ⟨rfl, rfl⟩
    · rw [if_pos hs.at_]
      unfold upd2
      by_cases e1 : w = u ∧ j = 0
      · rw [if_pos e1, if_pos e1, if_neg (by omega)]
      · rw [if_neg e1, if_neg e1]
    · rw [if_neg (fun h => nlr h hs.at_)]
      unfold upd2
      by_cases e1 : w = u ∧ j = 1
      · rw [if_pos e1, if_pos e1, if_neg (by omega)]
      · rw [if_neg e1, if_neg e1]
  have r4 : ∀ w, w < n → ∀ j, rotL st v u w j = if st v o = w ∧ j = 2 then (u : Int) else rot3 (rot2 (rot1 st v u) v u) v u w j := by
    intro w hw j
    unfold rotL
    simp only [hin]
    unfold rot4
    by_cases h0 : 0 ≤ st v o
    · rw [if_pos h0]
      unfold upd2
      congr 1
      exact propext ⟨fun ⟨a, b⟩ => ⟨by omega, b⟩, fun ⟨a, b⟩ => ⟨by omega, b⟩⟩
    · rw [if_neg h0, if_neg (by omega)]
  have s2 : s < 2 ∧ o < 2 ∧ s ≠ o := by rcases hs.so with ⟨rfl, rfl⟩ | ⟨rfl, rfl⟩ <;> decide
  have nvo : st v o ≠ u := nvu o s2.2.1
  have nvv : st v o ≠ v := by
    intro h
    exact I.chNe hv (hs.ch.2 (.inr h)) rfl
  refine ⟨⟨?_, ?_, ?_, ?_⟩, hin, ?_⟩
  · intro w hw
    rw [r4 w hw, if_neg (by omega), r3 w hw, r2 w hw]
    have a1 : ¬ s = 2 := by omega
    have a2 : ¬ s = o := s2.2.2
    simp [a1, a2, s2.1]
  · intro w hw
    rw [r4 w hw, if_neg (by omega), r3 w hw, r2 w hw]
    have a1 : ¬ o = 2 := by omega
    have a2 : ¬ o = s := fun h => s2.2.2 h.symm
    simp [a1, a2, s2.2.1]
  · intro w hw
    rw [r4 w hw, r3 w hw, r2 w hw]
    have a1 : ¬ 2 = s := by omega
    have a2 : ¬ 2 = o := by omega
    simp only [a1, a2, and_false, if_false, and_true, if_true]
    by_cases e1 : w = u
    · subst e1; simp [nvo]
    · by_cases e2 : w = v
      · subst e2; simp [nvv]
      · simp [e1, e2]
  · intro w hw j hj j4
    rw [r4 w hw, if_neg (by omega), r3 w hw, if_neg (by omega), if_neg (by omega), r2 w hw, if_neg (by omega), if_neg (by omega)]
  · intro w hw
    rw [r4 w hw, if_neg (by omega), r3 w hw, if_neg (by omega), if_neg (by omega), r2 w hw, if_neg (by omega), if_neg (by omega)]

end
end Go.Proofs.Ytdblngaacnpgmaa

namespace Go.Proofs.Ytdblngaacnpgmaa
open Go
set_option linter.unusedVariables false

section
variable {n : Nat} {st : St} {L : Nat → List Nat} {par tv pd : Nat → Int}

theorem least3_ok {s : St} {L : Nat → List Nat} {tv : Nat → Int} {v : Nat} (hv : s v 3 = tv v) (hc : ∀ c : Nat, Ch s v c → s c 4 = mn tv (L c))
    (hl : L v = LL L (s v 0) ++ v :: LL L (s v 1)) (hr : ∀ a ∈ L v, tv a < 9223372036854775808) : least3 s v = mn tv (L v) := by
  rw [hl] at hr ⊢
  have hvr := hr v (by simp)
  have e : mn tv (LL L (s v 0) ++ v :: LL L (s v 1)) = min (mn tv (LL L (s v 0))) (min (tv v) (mn tv (LL L (s v 1)))) := by
    rcases mn_append tv (LL L (s v 0)) (v :: LL L (s v 1)) with h | ⟨a, ha, k⟩
    · rw [h]; rfl
    · have := hr a ha; omega
  rw [e, least3_eq]
  have key : ∀ c : Int, (∀ w : Nat, c = w → s w 4 = mn tv (L w)) → ∀ a, a < 9223372036854775808 → lstep s c a = min a (mn tv (LL L c)) := by
    intro c h a ha
    unfold lstep
    by_cases h0 : 0 ≤ c
    · rw [if_pos h0]
      have e := h c.toNat (by omega)
      rw [e]
      have : LL L c = L c.toNat := by unfold LL; rw [if_pos h0]
      rw [this]
      split <;> omega
    · rw [if_neg h0, LL_neg (by omega)]
      simp only [mn]; omega
  rw [key (s v 1) (fun w hw => hc w (.inr hw)), key (s v 0) (fun w hw => hc w (.inl hw)), hv]
  · omega
  · omega
  · rw [key (s v 0) (fun w hw => hc w (.inl hw)) _ (by omega)]; omega

theorem mn_low {tv : Nat → Int} : ∀ l : List Nat, (∀ a ∈ l, -9223372036854775808 ≤ tv a) → -9223372036854775808 ≤ mn tv l := by
  intro l
  induction l with
  | nil => intro _; simp only [mn]; omega
  | cons a l ih =>
    intro h
    have := ih (fun x hx => h x (List.mem_cons_of_mem _ hx))
    have := h a (by simp)
    simp only [mn]; omega
theorem mn_le {tv : Nat → Int} {l : List Nat} {a : Nat} (h : a ∈ l) : mn tv l ≤ tv a := by
  induction l with
  | nil => cases h
  | cons b l ih =>
    simp only [mn]
    rcases List.mem_cons.1 h with rfl | h
    · omega
    · have := ih h; omega
theorem mn_high {tv : Nat → Int} {l : List Nat} {a : Nat} (h : a ∈ l) (k : tv a < 9223372036854775808) : mn tv l < 9223372036854775808 := by
  have := mn_le (tv := tv) h
  omega

def rotLs (st : St) (L : Nat → List Nat) (v u s : Nat) : Nat → List Nat := fun w =>
  if w = v then L u else if w = u then (if s = 0 then LL L (st v 1) ++ u :: LL L (st u 1) else LL L (st u 0) ++ u :: LL L (st v 0)) else L w

theorem rotateS_ne {v u w j : Nat} (hj : j ≠ 4) : rotateS st v u w j = rotL st v u w j := by
  unfold rotateS pullS upd2
  rw [if_neg (by omega), if_neg (by omega)]

structure RotR (n : Nat) (st st' : St) (L L' : Nat → List Nat) (par tv pd : Nat → Int) (v u : Nat) : Prop where
  inv : Inv n st' L' par tv pd
  lv : L' v = L u
  lo : ∀ w, w ≠ v → w ≠ u → L' w = L w
  e5 : ∀ w, w < n → st' w 5 = st w 5
  e2 : st' v 2 = st u 2
  fr : ∀ w, w < n → w ≠ v → w ≠ u → Top st w → Top st' w ∧ st' w 2 = st w 2
  p1 : Pc n u (rotL st v u u 0)
  p2 : Pc n u (rotL st v u u 1)
  p3 : Pc n v (rotL st v u v 0)
  p4 : Pc n v (rotL st v u v 1)
  hi : Pt n (inner (rot2 (rot1 st v u) v u) v u)
  /-- v's new subtrees -/
  tops : Top st u → Top st' v

theorem Inv.rotate (I : Inv n st L par tv pd) (F : Fst n par tv) {v u s o : Nat} (hv : v < n) (hun : u < n) (hs : Side st u v s o)
    (av : st v 5 = 0) (au : st u 5 = 0) (pv : pd v = 0) (pu : pd u = 0) :
    RotR n st (rotateS st v u) L (rotLs st L v u s) par tv pd v u := by
  have hc : Ch st u v := hs.ch.2 (.inl hs.at_)
  have ne : v ≠ u := I.chNe hun hc
  obtain ⟨E, hin, e4⟩ := rotL_eq I F hv hun hs
  generalize hst : rotateS st v u = st'
  have q : ∀ w j, j ≠ 4 → st' w j = rotL st v u w j := by
    intro w j hj; rw [← hst]; exact rotateS_ne hj
  have s2 : s < 2 ∧ o < 2 ∧ s ≠ o := by rcases hs.so with ⟨rfl, rfl⟩ | ⟨rfl, rfl⟩ <;> decide
  have es : ∀ w, w < n → st' w s = if w = u then st v o else if st w s = u then (v : Int) else st w s := by
    intro w hw; rw [q _ _ (by omega)]; exact E.es w hw
  have eo : ∀ w, w < n → st' w o = if w = v then (u : Int) else if st w o = u then (v : Int) else st w o := by
    intro w hw; rw [q _ _ (by omega)]; exact E.eo w hw
  have e2 : ∀ w, w < n → st' w 2 = if w = u then (v : Int) else if w = v then st u 2 else if st v o = w then (u : Int) else st w 2 := by
    intro w hw; rw [q _ _ (by omega)]; exact E.e2 w hw
  have e3 : ∀ w, w < n → st' w 3 = st w 3 := by
    intro w hw; rw [q _ _ (by omega)]; exact E.e3 w hw 3 (by decide) (by decide)
  have e5 : ∀ w, w < n → st' w 5 = st w 5 := by
    intro w hw; rw [q _ _ (by omega)]; exact E.e3 w hw 5 (by decide) (by decide)
  have st2v : st v 2 = u := (I.ch u v hun hc).2
  have chs : ∀ {x y : Nat}, Ch st x y ↔ st x s = y ∨ st x o = y := fun {x y} => hs.ch
  have chs' : ∀ {x y : Nat}, Ch st' x y ↔ st' x s = y ∨ st' x o = y := by
    intro x y
    unfold Ch
    rcases hs.so with ⟨rfl, rfl⟩ | ⟨rfl, rfl⟩
    · exact Iff.rfl
    · exact Or.comm
  have nlr : ∀ x y : Nat, x < n → st x s = y → st x o = y → False := by
    intro x y hx h1 h2
    rcases hs.so with ⟨rfl, rfl⟩ | ⟨rfl, rfl⟩
    · exact I.lr F hx h1 h2
    · exact I.lr F hx h2 h1
  -- u is no child of v
  have nvu : ¬ Ch st v u := by
    intro h
    have := I.len hv h
    have := I.len hun hc
    omega
  have nvv : ¬ Ch st v v := fun h => I.chNe hv h rfl
  have nuu : ¬ Ch st u u := fun h => I.chNe hun h rfl
  have nuo : ¬ st u o = v := fun h => nlr u v hun hs.at_ h
  have CH : ∀ w y : Nat, w < n → Ch st' w y → y < n ∧ st' y 2 = w ∧ w64 (pd y) = w64 (pd w + st' w 5) ∧ y ≠ w := by
    intro w y hw h
    rw [e5 w hw]
    rcases chs'.1 h with h | h
    · rw [es w hw] at h
      by_cases h1 : w = u
      · subst h1
        rw [if_pos rfl] at h
        have hy := I.ch v y hv (chs.2 (.inr h))
        have y1 : y ≠ w := fun e => nvu (chs.2 (.inr (by omega)))
        have y2 : y ≠ v := fun e => nvv (chs.2 (.inr (by omega)))
        refine ⟨hy.1, by rw [e2 y hy.1, if_neg y1, if_neg y2, if_pos h], ?_, y1⟩
        rw [I.pdc v y hv (chs.2 (.inr h)), pv, av, pu, au]
      · rw [if_neg h1] at h
        by_cases h2 : st w s = u
        · rw [if_pos h2] at h
          have : y = v := by omega
          subst this
          refine ⟨hv, ?_, ?_, ?_⟩
          · rw [e2 y hv, if_neg ne, if_pos rfl]
            exact (I.ch w u hw (chs.2 (.inl h2))).2
          · rw [← I.pdc w u hw (chs.2 (.inl h2)), pv, pu]
          · rintro rfl; exact nvu (chs.2 (.inl h2))
        · rw [if_neg h2] at h
          have hcy : Ch st w y := chs.2 (.inl h)
          have hy := I.ch w y hw hcy
          have y1 : y ≠ u := by rintro rfl; exact h2 h
          have y2 : y ≠ v := by rintro rfl; omega
          have y3 : ¬ st v o = y := by
            intro k
            have := (I.ch v y hv (chs.2 (.inr k))).2
            have : w = v := by omega
            subst this
            exact nlr w y hw h k
          exact ⟨hy.1, by rw [e2 y hy.1, if_neg y1, if_neg y2, if_neg y3]; exact hy.2, I.pdc w y hw hcy, I.chNe hw hcy⟩
    · rw [eo w hw] at h
      by_cases h1 : w = v
      · subst h1
        rw [if_pos rfl] at h
        have : y = u := by omega
        subst this
        refine ⟨hun, by rw [e2 y hun, if_pos rfl], ?_, fun h => ne h.symm⟩
        rw [pu, pv, av]; rfl
      · rw [if_neg h1] at h
        by_cases h2 : st w o = u
        · rw [if_pos h2] at h
          have : y = v := by omega
          subst this
          refine ⟨hv, ?_, ?_, fun h => h1 h.symm⟩
          · rw [e2 y hv, if_neg ne, if_pos rfl]
            exact (I.ch w u hw (chs.2 (.inr h2))).2
          · rw [← I.pdc w u hw (chs.2 (.inr h2)), pv, pu]
        · rw [if_neg h2] at h
          have hcy : Ch st w y := chs.2 (.inr h)
          have hy := I.ch w y hw hcy
          have y1 : y ≠ u := by rintro rfl; exact h2 h
          have y2 : y ≠ v := by
            rintro rfl
            have : w = u := by omega
            subst this
            exact nuo h
          have y3 : ¬ st v o = y := by
            intro k
            have := (I.ch v y hv (chs.2 (.inr k))).2
            omega
          exact ⟨hy.1, by rw [e2 y hy.1, if_neg y1, if_neg y2, if_neg y3]; exact hy.2, I.pdc w y hw hcy, I.chNe hw hcy⟩
  -- the lists
  generalize hL : rotLs st L v u s = L'
  have Lv : L' v = L u := by rw [← hL]; unfold rotLs; rw [if_pos rfl]
  have Lo : ∀ w, w ≠ v → w ≠ u → L' w = L w := by
    intro w h1 h2; rw [← hL]; unfold rotLs; rw [if_neg h1, if_neg h2]
  have Lu : L' u = if s = 0 then LL L (st v 1) ++ u :: LL L (st u 1) else LL L (st u 0) ++ u :: LL L (st v 0) := by
    rw [← hL]; unfold rotLs; rw [if_neg (fun h => ne h.symm), if_pos rfl]
  have LLo : ∀ x : Int, x ≠ v → x ≠ u → LL L' x = LL L x := by
    intro x h1 h2
    unfold LL
    split
    · exact Lo _ (by omega) (by omega)
    · rfl
  have nk : ∀ w k, w < n → k < 2 → ∀ y : Nat, st w k = y → Ch st w y := by
    intro w k hw hk y h
    have : k = 0 ∨ k = 1 := by omega
    rcases this with rfl | rfl
    · exact .inl h
    · exact .inr h
  have LLw : ∀ w, w < n → w ≠ u → w ≠ v → LL L' (st' w s) = LL L (st w s) ∧ LL L' (st' w o) = LL L (st w o) := by
    intro w hw h1 h2
    rw [es w hw, eo w hw, if_neg h1, if_neg h2]
    constructor
    · by_cases h3 : st w s = u
      · rw [if_pos h3, h3, LL_nat, LL_nat, Lv]
      · rw [if_neg h3]
        refine LLo _ ?_ h3
        intro h4
        have := (I.ch w v hw (chs.2 (.inl h4))).2
        omega
    · by_cases h3 : st w o = u
      · rw [if_pos h3, h3, LL_nat, LL_nat, Lv]
      · rw [if_neg h3]
        refine LLo _ ?_ h3
        intro h4
        have := (I.ch w v hw (chs.2 (.inr h4))).2
        omega
  have vsu : st v s ≠ u := fun h => nvu (chs.2 (.inl h))
  have vou : st v o ≠ u := fun h => nvu (chs.2 (.inr h))
  have vsv : st v s ≠ v := fun h => nvv (chs.2 (.inl h))
  have vov : st v o ≠ v := fun h => nvv (chs.2 (.inr h))
  have uou : st u o ≠ u := fun h => nuu (chs.2 (.inr h))
  have evs : st' v s = st v s := by rw [es v hv, if_neg ne, if_neg vsu]
  have evo : st' v o = u := by rw [eo v hv, if_pos rfl]
  have eus : st' u s = st v o := by rw [es u hun, if_pos rfl]
  have euo : st' u o = st u o := by rw [eo u hun, if_neg (fun h => ne h.symm), if_neg uou]
  have INO : ∀ w, w < n → L' w = LL L' (st' w 0) ++ w :: LL L' (st' w 1) := by
    intro w hw
    by_cases h1 : w = v
    · subst h1
      rw [Lv, I.ino u hun]
      rcases hs.so with ⟨rfl, rfl⟩ | ⟨rfl, rfl⟩
      · rw [evs, evo, LLo _ vsv vsu, LL_nat, Lu, if_pos rfl, hs.at_, LL_nat, I.ino w hw]
        simp
      · rw [evs, evo, LLo _ vsv vsu, LL_nat, Lu, if_neg (by decide), hs.at_, LL_nat, I.ino w hw]
        simp
    · by_cases h2 : w = u
      · subst h2
        rw [Lu]
        rcases hs.so with ⟨rfl, rfl⟩ | ⟨rfl, rfl⟩
        · rw [if_pos rfl, eus, euo, LLo _ vov vou, LLo _ nuo uou]
        · rw [if_neg (by decide), eus, euo, LLo _ vov vou, LLo _ nuo uou]
      · rw [Lo w h1 h2, I.ino w hw]
        obtain ⟨k1, k2⟩ := LLw w hw h2 h1
        rcases hs.so with ⟨rfl, rfl⟩ | ⟨rfl, rfl⟩
        · rw [k1, k2]
        · rw [k1, k2]
  have TOP : ∀ w, w < n → Top st' w → (w = v ∧ Top st u) ∨ (w ≠ v ∧ w ≠ u ∧ Top st w) := by
    intro w hw ht
    by_cases h1 : w = v
    · subst h1
      refine .inl ⟨rfl, fun g hg hcg => ?_⟩
      have gn : g < n := by
        rcases I.up u hun with h | ⟨x, hx, hxn⟩
        · omega
        · have : g = x := by omega
          subst this; exact hxn
      have g1 : g ≠ u := by rintro rfl; exact nuu hcg
      have g2 : g ≠ w := by rintro rfl; exact nvu hcg
      refine ht g (by rw [e2 w hv, if_neg ne, if_pos rfl]; exact hg) (chs'.2 ?_)
      rcases chs.1 hcg with k | k
      · exact .inl (by rw [es g gn, if_neg g1, if_pos k])
      · exact .inr (by rw [eo g gn, if_neg g2, if_pos k])
    · by_cases h2 : w = u
      · subst h2
        exact absurd (chs'.2 (.inr evo)) (ht v (by rw [e2 w hun, if_pos rfl]))
      · refine .inr ⟨h1, h2, fun x hx hcx => ?_⟩
        have xn : x < n := by
          rcases I.up w hw with h | ⟨y, hy, hyn⟩
          · omega
          · have : x = y := by omega
            subst this; exact hyn
        by_cases h3 : st v o = w
        · exact ht u (by rw [e2 w hw, if_neg h2, if_neg h1, if_pos h3]) (chs'.2 (.inl (by rw [eus]; exact h3)))
        · refine ht x (by rw [e2 w hw, if_neg h2, if_neg h1, if_neg h3]; exact hx) (chs'.2 ?_)
          rcases chs.1 hcx with k | k
          · left
            have x1 : x ≠ u := by rintro rfl; have := hs.at_; omega
            rw [es x xn, if_neg x1, if_neg (by omega)]
            exact k
          · right
            have x1 : x ≠ v := by rintro rfl; exact h3 k
            rw [eo x xn, if_neg x1, if_neg (by omega)]
            exact k
  have chnu : Chn par (L' u) := by
    have hu := I.chn u hun
    rw [I.ino u hun] at hu
    rw [Lu]
    rcases hs.so with ⟨rfl, rfl⟩ | ⟨rfl, rfl⟩
    · rw [if_pos rfl]
      rw [hs.at_, LL_nat, I.ino v hv, List.append_assoc] at hu
      exact (Chn.append.1 hu).2.1.tail
    · rw [if_neg (by decide)]
      rw [hs.at_, LL_nat, I.ino v hv, ← List.cons_append, ← List.append_assoc] at hu
      exact (Chn.append.1 hu).1
  have pdz : ∀ y : Nat, Ch st v y ∨ Ch st u y → st y 4 = mn tv (L y) := by
    intro y hy
    have : y < n ∧ w64 (pd y) = w64 0 := by
      rcases hy with hy | hy
      · exact ⟨(I.ch v y hv hy).1, by rw [I.pdc v y hv hy, pv, av]; rfl⟩
      · exact ⟨(I.ch u y hun hy).1, by rw [I.pdc u y hun hy, pu, au]; rfl⟩
    obtain ⟨yn, h⟩ := this
    rw [I.lst y yn]
    obtain ⟨k, hk⟩ := w64_cg.1 h
    have r := I.mnRng F y yn
    have : w64 (mn tv (L y) - pd y) = w64 (mn tv (L y)) := w64_of ⟨-k, by omega⟩
    rw [this, w64_in r.1 r.2]
  have memU : ∀ a ∈ L' u, a ∈ L u := by
    intro a ha
    rw [Lu] at ha
    rw [I.ino u hun]
    rcases hs.so with ⟨rfl, rfl⟩ | ⟨rfl, rfl⟩
    · rw [if_pos rfl] at ha
      rw [hs.at_, LL_nat, I.ino v hv]
      simp only [List.mem_append, List.mem_cons] at ha ⊢
      rcases ha with h | h | h
      · exact .inl (.inr (.inr h))
      · exact .inr (.inl h)
      · exact .inr (.inr h)
    · rw [if_neg (by decide)] at ha
      rw [hs.at_, LL_nat, I.ino v hv]
      simp only [List.mem_append, List.mem_cons] at ha ⊢
      rcases ha with h | h | h
      · exact .inl h
      · exact .inr (.inl h)
      · exact .inr (.inr (.inl h))
  have rngU : ∀ a ∈ L u, tv a < 9223372036854775808 := fun a ha => (F.rng a (I.lt u hun a ha)).2
  have tvv : ∀ w, w < n → pd w = 0 → st w 3 = tv w := by
    intro w hw h
    rw [I.val w hw, h, Int.sub_zero, w64_in (F.rng w hw).1 (F.rng w hw).2]
  have rl : ∀ w j, j ≠ 4 → rotL st v u w j = st' w j := fun w j hj => (q w j hj).symm
  have lu : least3 (rotL st v u) u = mn tv (L' u) := by
    refine least3_ok ?_ ?_ ?_ (fun a ha => rngU a (memU a ha))
    · rw [rl _ _ (by decide), e3 u hun]; exact tvv u hun pu
    · intro c hcc
      replace hcc : Ch st' u c := by unfold Ch at hcc ⊢; rwa [rl _ _ (by decide), rl _ _ (by decide)] at hcc
      have hcn := CH u c hun hcc
      have hk : Ch st v c ∨ Ch st u c := by
        rcases chs'.1 hcc with h | h
        · exact .inl (chs.2 (.inr (by rw [← eus]; exact h)))
        · exact .inr (chs.2 (.inr (by rw [← euo]; exact h)))
      have c1 : c ≠ v := by
        rintro rfl
        rcases chs'.1 hcc with h | h
        · rw [eus] at h; exact vov h
        · rw [euo] at h; exact nuo h
      rw [e4 c hcn.1, pdz c hk, Lo c c1 hcn.2.2.2]
    · rw [rl _ _ (by decide), rl _ _ (by decide)]
      exact INO u hun
  have lv : least3 (pullS (rotL st v u) u) v = mn tv (L' v) := by
    have pk : ∀ w j, j ≠ 4 → pullS (rotL st v u) u w j = st' w j := by
      intro w j hj
      unfold pullS upd2
      rw [if_neg (by omega), rl w j hj]
    refine least3_ok ?_ ?_ ?_ (fun a ha => rngU a (by rw [Lv] at ha; exact ha))
    · rw [pk _ _ (by decide), e3 v hv]; exact tvv v hv pv
    · intro c hcc
      replace hcc : Ch st' v c := by unfold Ch at hcc ⊢; rwa [pk _ _ (by decide), pk _ _ (by decide)] at hcc
      have hcn := CH v c hv hcc
      by_cases hcu : c = u
      · subst hcu
        unfold pullS upd2
        rw [if_pos ⟨rfl, rfl⟩, lu]
      · have hk : Ch st v c := by
          rcases chs'.1 hcc with h | h
          · exact chs.2 (.inl (by rw [← evs]; exact h))
          · rw [evo] at h; omega
        unfold pullS upd2
        rw [if_neg (fun h => hcu h.1), e4 c hcn.1, pdz c (.inl hk), Lo c hcn.2.2.2 hcu]
    · rw [pk _ _ (by decide), pk _ _ (by decide)]
      exact INO v hv
  have PC : ∀ w k, w < n → k < 2 → Pc n w (rotL st v u w k) := by
    intro w k hw hk
    rw [rl _ _ (by omega)]
    by_cases h0 : 0 ≤ st' w k
    · right
      have hcc : Ch st' w (st' w k).toNat := by
        have : k = 0 ∨ k = 1 := by omega
        rcases this with rfl | rfl
        · exact .inl (by omega)
        · exact .inr (by omega)
      have := CH w _ hw hcc
      exact ⟨(st' w k).toNat, by omega, this.1, this.2.2.2⟩
    · exact .inl (by omega)
  have FR : ∀ w, w < n → w ≠ v → w ≠ u → Top st w → Top st' w ∧ st' w 2 = st w 2 := by
    intro w hw h1 h2 ht
    have h3 : ¬ st v o = w := by
      intro h
      have hcc : Ch st v w := chs.2 (.inr h)
      exact ht v (I.ch v w hv hcc).2 hcc
    have ew : st' w 2 = st w 2 := by rw [e2 w hw, if_neg h2, if_neg h1, if_neg h3]
    refine ⟨fun x hx hcx => ?_, ew⟩
    have xn : x < n := by
      rw [ew] at hx
      rcases I.up w hw with h | ⟨y, hy, hyn⟩
      · omega
      · have : x = y := by omega
        subst this; exact hyn
    rw [ew] at hx
    rcases chs'.1 hcx with k | k
    · rw [es x xn] at k
      by_cases x1 : x = u
      · rw [if_pos x1] at k; exact h3 k
      · rw [if_neg x1] at k
        by_cases x2 : st x s = u
        · rw [if_pos x2] at k; omega
        · rw [if_neg x2] at k; exact ht x hx (chs.2 (.inl k))
    · rw [eo x xn] at k
      by_cases x1 : x = v
      · rw [if_pos x1] at k; omega
      · rw [if_neg x1] at k
        by_cases x2 : st x o = u
        · rw [if_pos x2] at k; omega
        · rw [if_neg x2] at k; exact ht x hx (chs.2 (.inr k))
  refine ⟨⟨fun w y hw h => ⟨(CH w y hw h).1, (CH w y hw h).2.1⟩, ?_, INO, ?_, ?_, ?_, fun w y hw h => (CH w y hw h).2.2.1, ?_, ?_⟩, Lv, Lo, e5, ?_, FR, PC u 0 hun (by decide), PC u 1 hun (by decide), PC v 0 hv (by decide), PC v 1 hv (by decide), ?_, ?_⟩
  · intro w hw
    rw [e2 w hw]
    by_cases h1 : w = u
    · rw [if_pos h1]; exact .inr ⟨v, rfl, hv⟩
    · rw [if_neg h1]
      by_cases h2 : w = v
      · rw [if_pos h2]; exact I.up u hun
      · rw [if_neg h2]
        by_cases h3 : st v o = w
        · rw [if_pos h3]; exact .inr ⟨u, rfl, hun⟩
        · rw [if_neg h3]; exact I.up w hw
  · intro w hw
    by_cases h1 : w = v
    · subst h1; rw [Lv]; exact I.chn u hun
    · by_cases h2 : w = u
      · subst h2; exact chnu
      · rw [Lo w h1 h2]; exact I.chn w hw
  · intro w hw ht
    rcases TOP w hw ht with ⟨rfl, hu⟩ | ⟨h1, h2, hw'⟩
    · rw [Lv, e2 w hv, if_neg ne, if_pos rfl]
      exact I.hd u hun hu
    · rw [Lo w h1 h2, (FR w hw h1 h2 hw').2]
      exact I.hd w hw hw'
  · intro w hw ht
    rcases TOP w hw ht with ⟨rfl, hu⟩ | ⟨h1, h2, hw'⟩
    · exact pv
    · exact I.pdt w hw hw'
  · intro w hw
    rw [e3 w hw]; exact I.val w hw
  · intro w hw
    have f4 : st' w 4 = if w = v then least3 (pullS (rotL st v u) u) v else if w = u then least3 (rotL st v u) u else rotL st v u w 4 := by
      rw [← hst]
      unfold rotateS
      show upd2 (pullS (rotL st v u) u) v 4 _ w 4 = _
      unfold upd2
      by_cases h1 : w = v
      · rw [if_pos ⟨h1, rfl⟩, if_pos h1]
      · rw [if_neg (fun h => h1 h.1), if_neg h1]
        unfold pullS upd2
        by_cases h2 : w = u
        · rw [if_pos ⟨h2, rfl⟩, if_pos h2]
        · rw [if_neg (fun h => h2 h.1), if_neg h2]
    have z : ∀ x, x < n → x = v ∨ x = u → pd x = 0 → mn tv (L' x) = w64 (mn tv (L' x) - pd x) := by
      intro x hx hx2 h0
      have hr : ∀ a ∈ L' x, a < n := by
        intro a ha
        rcases hx2 with rfl | rfl
        · rw [Lv] at ha; exact I.lt u hun a ha
        · exact I.lt x hx a (memU a ha)
      rw [h0, Int.sub_zero, w64_in]
      · exact mn_low _ fun a ha => (F.rng a (hr a ha)).1
      · refine mn_high (a := x) ?_ (F.rng x hx).2
        rw [INO x hx]; simp
    rw [f4]
    by_cases h1 : w = v
    · rw [if_pos h1, lv, h1]; exact z v hv (.inl rfl) pv
    · rw [if_neg h1]
      by_cases h2 : w = u
      · rw [if_pos h2, lu, h2]; exact z u hun (.inr rfl) pu
      · rw [if_neg h2, e4 w hw, Lo w h1 h2]; exact I.lst w hw
  · rw [e2 v hv, if_neg ne, if_pos rfl]
  · rw [hin]
    by_cases h0 : 0 ≤ st v o
    · have hcc : Ch st v (st v o).toNat := chs.2 (.inr (by omega))
      exact .inr ⟨(st v o).toNat, by omega, (I.ch v _ hv hcc).1⟩
    · exact .inl (by omega)
  · intro ht x hx hcx
    rw [e2 v hv, if_neg ne, if_pos rfl] at hx
    have xn : x < n := by
      rcases I.up u hun with h | ⟨y, hy, hyn⟩
      · omega
      · have : x = y := by omega
        subst this; exact hyn
    rcases chs'.1 hcx with k | k
    · rw [es x xn] at k
      by_cases x1 : x = u
      · rw [if_pos x1] at k; exact vov k
      · rw [if_neg x1] at k
        by_cases x2 : st x s = u
        · exact ht x hx (chs.2 (.inl x2))
        · rw [if_neg x2] at k
          have := (I.ch x v xn (chs.2 (.inl k))).2
          omega
    · rw [eo x xn] at k
      by_cases x1 : x = v
      · rw [if_pos x1] at k; omega
      · rw [if_neg x1] at k
        by_cases x2 : st x o = u
        · exact ht x hx (chs.2 (.inr x2))
        · rw [if_neg x2] at k
          have := (I.ch x v xn (chs.2 (.inr k))).2
          have : x = u := by omega
          subst this
          exact nuo k

end
end Go.Proofs.Ytdblngaacnpgmaa

namespace Go.Proofs.Ytdblngaacnpgmaa
open Go
set_option linter.unusedVariables false

section
variable {n : Nat} {st : St} {L : Nat → List Nat} {par tv pd : Nat → Int}

theorem Inv.top_of_mem (I : Inv n st L par tv pd) {t x : Nat} (ht : t < n) (hx : x ∈ L t) (hT : Top st x) : x = t := by
  rcases I.anc t ht x hx with h | ⟨u, hu, _, hc, _⟩
  · exact h
  · exact absurd hc (hT u hu)
theorem not_top {st : St} {v : Nat} (h : ¬ Top st v) : ∃ u : Nat, st v 2 = u ∧ Ch st u v := by
  refine topS_false ?_
  cases e : topS st v with
  | false => rfl
  | true => exact absurd (topS_iff.1 e) h
theorem Inv.upn (I : Inv n st L par tv pd) {v u : Nat} (hv : v < n) (hu : st v 2 = u) : u < n := by
  rcases I.up v hv with h | ⟨y, hy, hyn⟩
  · omega
  · have : u = y := by omega
    subst this; exact hyn

/-- v stands in the way of which t is the top; nothing is still to be added above v. -/
structure Sp (n : Nat) (st : St) (L : Nat → List Nat) (par tv pd : Nat → Int) (v t : Nat) : Prop where
  inv : Inv n st L par tv pd
  vn : v < n
  tn : t < n
  top : Top st t
  mem : v ∈ L t
  cl : ∀ w, w < n → v ∈ L w → st w 5 = 0 ∧ pd w = 0

structure SpR (n : Nat) (st st' : St) (L L' : Nat → List Nat) (par tv pd : Nat → Int) (v t t' x y : Nat) : Prop where
  sp : Sp n st' L' par tv pd v t'
  lt : L' t' = L t
  e2 : st' t' 2 = st t 2
  fr : ∀ w, w < n → Top st w → v ∉ L w → Top st' w ∧ st' w 2 = st w 2 ∧ L' w = L w
  lx : L' x = L y
  lo : ∀ w, w ≠ x → w ≠ y → L' w = L w
  tt : t' = x ∨ t' = t
  tt2 : ¬ Top st y → t' = t

theorem Sp.rot {v t : Nat} (S : Sp n st L par tv pd v t) (F : Fst n par tv) {x : Nat} (hx : x < n) (hvx : v ∈ L x) (hxt : ¬ Top st x) :
    ∃ y L' t', y < n ∧ st x 2 = y ∧ Ch st y x ∧ x ≠ y ∧ RotR n st (rotateS st x y) L L' par tv pd x y ∧ SpR n st (rotateS st x y) L L' par tv pd v t t' x y := by
  have I := S.inv
  obtain ⟨y, hy, hc⟩ := not_top hxt
  have hyn := I.upn hx hy
  have hvy : v ∈ L y := I.sub hyn hc hvx
  have hs : ∃ s o, Side st y x s o := by
    rcases hc with h | h
    · exact ⟨0, 1, .inl ⟨rfl, rfl⟩, h⟩
    · exact ⟨1, 0, .inr ⟨rfl, rfl⟩, h⟩
  obtain ⟨s, o, hs⟩ := hs
  have R := I.rotate F hx hyn hs (S.cl x hx hvx).1 (S.cl y hyn hvy).1 (S.cl x hx hvx).2 (S.cl y hyn hvy).2
  generalize rotLs st L x y s = L' at R
  generalize hst : rotateS st x y = st' at R
  have ne : x ≠ y := I.chNe hyn hc
  have memx : v ∈ L' x := by rw [R.lv]; exact hvy
  have tcase : ∃ t', Top st' t' ∧ L' t' = L t ∧ st' t' 2 = st t 2 ∧ t' < n ∧ (t' = x ∨ t' = t) ∧ (¬ Top st y → t' = t) := by
    by_cases hty : Top st y
    · have e : y = t := by
        rcases I.cmp S.tn y hyn v hvy S.mem with h | h
        · exact I.top_of_mem S.tn h hty
        · exact (I.top_of_mem hyn h S.top).symm
      exact ⟨x, R.tops hty, by rw [R.lv, e], by rw [R.e2, e], hx, .inl rfl, fun h => absurd hty h⟩
    · have t1 : t ≠ x := by rintro rfl; exact hxt S.top
      have t2 : t ≠ y := by rintro rfl; exact hty S.top
      exact ⟨t, (R.fr t S.tn t1 t2 S.top).1, R.lo t t1 t2, (R.fr t S.tn t1 t2 S.top).2, S.tn, .inr rfl, fun _ => rfl⟩
  obtain ⟨t', h1, h2, h3, h4, h5, h6⟩ := tcase
  refine ⟨y, L', t', hyn, hy, hc, ne, by rw [hst]; exact R, ?_⟩
  rw [hst]
  refine ⟨⟨R.inv, S.vn, h4, h1, by rw [h2]; exact S.mem, ?_⟩, h2, h3, ?_, R.lv, R.lo, h5, h6⟩
  · intro w hw hvw
    rw [R.e5 w hw]
    by_cases w1 : w = x
    · subst w1; exact S.cl w hw hvx
    · by_cases w2 : w = y
      · subst w2; exact S.cl w hw hvy
      · rw [R.lo w w1 w2] at hvw; exact S.cl w hw hvw
  · intro w hw hT hvw
    have w1 : w ≠ x := by rintro rfl; exact hvw hvx
    have w2 : w ≠ y := by rintro rfl; exact hvw hvy
    exact ⟨(R.fr w hw w1 w2 hT).1, (R.fr w hw w1 w2 hT).2, R.lo w w1 w2⟩

end

def At (h : H) (bn e n : Nat) (st : St) : Prop := h bn = some (.cells ⟨recs n 6 st⟩ e (0, 0))
theorem fp_self {h : H} {bn e n : Nat} {st : St} (ha : At h bn e n st) : fp h bn e n 6 st = h := by
  funext b
  by_cases hb : b = bn
  · subst hb; rw [fp_at]; exact ha.symm
  · rw [fp_ne hb]
theorem at_fp {h : H} {bn e n : Nat} {st : St} : At (fp h bn e n 6 st) bn e n st := fp_at ..

structure Fz (h : H) (bf bn e n : Nat) (st : St) : Prop where
  hd : Hd h bf bn n
  at_ : At h bn e n st
theorem Fz.next {h : H} {bf bn e n : Nat} {st st' : St} (f : Fz h bf bn e n st) : Fz (fp h bn e n 6 st') bf bn e n st' := ⟨f.hd.fp, at_fp⟩

/-- All blocks but b that h knows, h' knows as they were. -/
def Kp (b : Nat) (h h' : H) : Prop := ∀ k o, k ≠ b → h k = some o → h' k = some o
theorem Kp.refl {b : Nat} {h : H} : Kp b h h := fun _ _ _ h => h
theorem Kp.trans {b : Nat} {h1 h2 h3 : H} (a : Kp b h1 h2) (c : Kp b h2 h3) : Kp b h1 h3 := fun k o hk h => c k o hk (a k o hk h)
theorem Kp.fp {bn e n k : Nat} {st : St} {h : H} : Kp bn h (fp h bn e n k st) := fun b o hb h => by rw [fp_ne hb]; exact h
theorem Kp.put {bn b : Nat} {h : H} {o : Obj} (hb : h b = none) : Kp bn h (hput h b o) := fun k ok hk h2 => by
  unfold hput
  split
  · rename_i e; subst e; rw [hb] at h2; cases h2
  · exact h2
theorem Hd.kp {h h' : H} {bf bn n : Nat} (hd : Hd h bf bn n) (k : Kp bn h h') : Hd h' bf bn n := by
  obtain ⟨ne, ef, h⟩ := hd
  exact ⟨ne, ef, k _ _ ne h⟩

section
variable {bf bn n e : Nat} {h : H} {st : St}
theorem Fz.ld (f : Fz h bf bn e n st) {v j : Nat} (hv : v < n) (hj : j < 6) : hcell h (((bk bn).add (v * 6)).add j) = some (.int .i64 (st v j)) := by
  have := fp_ld (h0 := h) (b := bn) (e := e) (st := st) hv hj
  rwa [fp_self f.at_] at this
theorem Fz.set (f : Fz h bf bn e n st) {v j : Nat} {x : Int} (hv : v < n) (hj : j < 6) :
    hset h (((bk bn).add (v * 6)).add j) [.int .i64 x] = fp h bn e n 6 (upd2 st v j x) := by
  have := fp_set (h0 := h) (b := bn) (e := e) (st := st) (x := x) hv hj
  rwa [fp_self f.at_] at this

end

/-- The slice p holds vs; its block is b. -/
structure Sl (h : H) (b : Nat) (p : Value) (vs : List Value) : Prop where
  ex : ∃ c e zs, p = .slice (some (bk b)) vs.length c ∧ h b = some (.cells ⟨vs ++ zs⟩ e (0, 0)) ∧ vs.length + zs.length = c

theorem Sl.kp {h h' : H} {b b' : Nat} {p : Value} {vs : List Value} (s : Sl h b p vs) (k : Kp b' h h') (ne : b ≠ b') : Sl h' b p vs := by
  obtain ⟨c, e, zs, h1, h2, h3⟩ := s.ex
  exact ⟨c, e, zs, h1, k _ _ ne h2, h3⟩
theorem Sl.get {h : H} {b : Nat} {p : Value} {vs : List Value} (s : Sl h b p vs) {i : Nat} {v : Value} (hi : vs[i]? = some v) : hcell h ((bk b).add (i * 1)) = some v := by
  obtain ⟨c, e, zs, h1, h2, h3⟩ := s.ex
  rw [bk_add, hcell_at h2, Nat.mul_one, List.getElem?_toArray]
  have : i < vs.length := (List.getElem?_eq_some_iff.1 hi).1
  rw [List.getElem?_append_left this]
  exact hi

end Go.Proofs.Ytdblngaacnpgmaa

namespace Go.Proofs.Ytdblngaacnpgmaa
open Go
set_option linter.unusedVariables false

theorem Kp.to {b c : Nat} {h1 h2 h3 : H} (a : Kp b h1 h2) (k : Kp c h2 h3) (hc : h1 c = none) : Kp b h1 h3 := fun j o hj hh =>
  k j o (by rintro rfl; rw [hc] at hh; cases hh) (a j o hj hh)
theorem Fz.kp {h h' : H} {bf bn e n b : Nat} {st : St} (f : Fz h bf bn e n st) (k : Kp b h h') (h1 : b ≠ bf) (h2 : b ≠ bn) : Fz h' bf bn e n st := by
  obtain ⟨ne, ef, hf⟩ := f.hd
  exact ⟨⟨ne, ef, k _ _ (fun e => h1 e.symm) hf⟩, k _ _ (fun e => h2 e.symm) f.at_⟩
theorem Fz.put {h : H} {bf bn e n b : Nat} {st : St} {o : Obj} (f : Fz h bf bn e n st) (hb : h b = none) : Fz (hput h b o) bf bn e n st := by
  have h1 : b ≠ bf := by rintro rfl; obtain ⟨_, _, hf⟩ := f.hd; rw [hb] at hf; cases hf
  have h2 : b ≠ bn := by rintro rfl; have := f.at_; unfold At at this; rw [hb] at this; cases this
  exact f.kp (Kp.put (bn := b) hb) h1 h2
theorem Fz.ne {h : H} {bf bn e n b : Nat} {st : St} (f : Fz h bf bn e n st) (hb : h b = none) : b ≠ bf ∧ b ≠ bn := by
  constructor
  · rintro rfl; obtain ⟨_, _, hf⟩ := f.hd; rw [hb] at hf; cases hf
  · rintro rfl; have := f.at_; unfold At at this; rw [hb] at this; cases this
theorem Kp.none {bn b : Nat} {h h' : H} (k : Kp bn h h') (hb : h' b = none) (hn : b ≠ bn) : h b = none := by
  cases e : h b with
  | none => rfl
  | some o => rw [k b o hn e] at hb; cases hb
theorem Sl.put {h : H} {b b' : Nat} {p : Value} {vs : List Value} {o : Obj} (s : Sl h b p vs) (hb : h b' = none) : Sl (hput h b' o) b p vs := by
  have : b ≠ b' := by
    rintro rfl
    obtain ⟨c, e, zs, _, h2, _⟩ := s.ex
    rw [hb] at h2; cases h2
  exact s.kp (Kp.put (bn := b') hb) this

section
variable {bf bn n e : Nat} {h : H} {st : St} {L : Nat → List Nat} {par tv pd : Nat → Int}

theorem pt_of (I : Inv n st L par tv pd) {v k : Nat} (hv : v < n) (hk : k < 2) : Pt n (st v k) := by
  by_cases h0 : 0 ≤ st v k
  · right
    have hc : Ch st v (st v k).toNat := by
      have : k = 0 ∨ k = 1 := by omega
      rcases this with rfl | rfl
      · exact .inl (by omega)
      · exact .inr (by omega)
    exact ⟨(st v k).toNat, by omega, (I.ch v _ hv hc).1⟩
  · exact .inl (by omega)
end
end Go.Proofs.Ytdblngaacnpgmaa

namespace Go.Proofs.Ytdblngaacnpgmaa
open Go
set_option linter.unusedVariables false

section
variable {n : Nat} {st : St} {L : Nat → List Nat} {par tv pd : Nat → Int}

theorem Inv.pd_cg {pd' : Nat → Int} {v : Nat} {x : Int} (h : w64 (pd' v) = w64 (pd v)) : w64 (x - pd v) = w64 (x - pd' v) := by
  obtain ⟨k, hk⟩ := w64_cg.1 h
  exact w64_of ⟨k, by omega⟩

/-- A child under nothing that is still to be added has its least. -/
theorem Inv.lstZ (I : Inv n st L par tv pd) (F : Fst n par tv) {c : Nat} (hc : c < n) (h : w64 (pd c) = w64 0) : st c 4 = mn tv (L c) := by
  rw [I.lst c hc]
  obtain ⟨k, hk⟩ := w64_cg.1 h
  have r := I.mnRng F c hc
  have : w64 (mn tv (L c) - pd c) = w64 (mn tv (L c)) := w64_of ⟨-k, by omega⟩
  rw [this, w64_in r.1 r.2]

def hang (st : St) (u : Nat) (c : Int) : St := pullS (upd2 st u 1 c) u
end
end Go.Proofs.Ytdblngaacnpgmaa

namespace Go.Proofs.Ytdblngaacnpgmaa
open Go
set_option linter.unusedVariables false

section
variable {bf bn n e : Nat} {h : H} {st : St} {L : Nat → List Nat} {par tv pd : Nat → Int}

/-- The way to v is one splay tree, v on top, nothing below it. -/
structure AccR (n : Nat) (st : St) (L : Nat → List Nat) (par tv pd : Nat → Int) (v : Nat) : Prop where
  inv : Inv n st L par tv pd
  top : Top st v
  up : st v 2 = -1
  rt : st v 1 < 0
  last : (L v).getLast? = some v
  a0 : st v 5 = 0
  p0 : pd v = 0

/-- The root r of v's tree on top of the way to v. -/
structure RootR (n : Nat) (st : St) (L : Nat → List Nat) (par tv pd : Nat → Int) (r v : Nat) : Prop where
  inv : Inv n st L par tv pd
  rn : r < n
  top : Top st r
  up : st r 2 = -1
  lf : st r 0 < 0
  head : (L r).head? = some r
  last : (L r).getLast? = some v
  a0 : st r 5 = 0
  p0 : pd r = 0
  root : par r = -1

end
end Go.Proofs.Ytdblngaacnpgmaa

namespace Go.Proofs.Ytdblngaacnpgmaa
open Go
set_option linter.unusedVariables false

/-- The nodes from a node up to its root. -/
inductive UpW (par : Nat → Int) : Nat → List Nat → Prop
  | root {v : Nat} : par v = -1 → UpW par v [v]
  | step {v u : Nat} {l : List Nat} : par v = u → UpW par u l → UpW par v (v :: l)

theorem UpW.uniq {par : Nat → Int} {v : Nat} {l l' : List Nat} (a : UpW par v l) (b : UpW par v l') : l = l' := by
  induction a generalizing l' with
  | root h =>
    cases b with
    | root _ => rfl
    | step k _ => omega
  | step h _ ih =>
    cases b with
    | root k => omega
    | step k b2 =>
      have e := h.symm.trans k
      have e := Int.ofNat_inj.1 e
      subst e
      rw [ih b2]
theorem UpW.last {par : Nat → Int} {v : Nat} {l : List Nat} (a : UpW par v l) : ∃ r, l.getLast? = some r ∧ par r = -1 := by
  induction a with
  | root h => exact ⟨_, rfl, h⟩
  | @step v u l h a ih =>
    obtain ⟨r, h1, h2⟩ := ih
    refine ⟨r, ?_, h2⟩
    rw [List.getLast?_cons, h1]; rfl
theorem UpW.head {par : Nat → Int} {v : Nat} {l : List Nat} (a : UpW par v l) : ∃ m, l = v :: m := by
  cases a <;> exact ⟨_, rfl⟩
theorem UpW.of_chn {par : Nat → Int} : ∀ {l : List Nat} {a : Nat} {m : List Nat}, Chn par (a :: l) → UpW par a m → ∀ v, (a :: l).getLast? = some v → UpW par v (l.reverse ++ m) := by
  intro l
  induction l with
  | nil => intro a m _ h v hv; cases hv; exact h
  | cons b l ih =>
    intro a m hc h v hv
    have := ih (m := b :: m) hc.2 (.step hc.1 h) v (by rw [List.getLast?_cons_cons] at hv; exact hv)
    simpa using this
theorem UpW.of_way {par : Nat → Int} {l : List Nat} {r v : Nat} (hc : Chn par l) (hh : l.head? = some r) (hl : l.getLast? = some v) (hr : par r = -1) : UpW par v l.reverse := by
  cases l with
  | nil => cases hh
  | cons a l =>
    cases hh
    simpa using UpW.of_chn hc (.root hr) v hl
theorem UpW.exists {n : Nat} {par tv : Nat → Int} (F : Fst n par tv) : ∀ v, v < n → ∃ l, UpW par v l ∧ ∀ x ∈ l, x < n := by
  obtain ⟨d, hd⟩ := F.acy
  have : ∀ k v, v < n → d v ≤ k → ∃ l, UpW par v l ∧ ∀ x ∈ l, x < n := by
    intro k
    induction k with
    | zero =>
      intro v hv hk
      rcases F.pt v hv with h | ⟨u, h, hu⟩
      · exact ⟨_, .root h, by simpa using hv⟩
      · have := hd v u hv h; omega
    | succ k ih =>
      intro v hv hk
      rcases F.pt v hv with h | ⟨u, h, hu⟩
      · exact ⟨_, .root h, by simpa using hv⟩
      · have := hd v u hv h
        obtain ⟨l, h1, h2⟩ := ih u hu (by omega)
        refine ⟨_, .step h h1, ?_⟩
        intro x hx
        rcases List.mem_cons.1 hx with rfl | hx
        · exact hv
        · exact h2 x hx
  exact fun v hv => this _ v hv (Nat.le_refl _)

/-- r is the root of v's tree. -/
def Rt (par : Nat → Int) (v r : Nat) : Prop := ∃ l, UpW par v l ∧ l.getLast? = some r
theorem Rt.uniq {par : Nat → Int} {v r r' : Nat} (a : Rt par v r) (b : Rt par v r') : r = r' := by
  obtain ⟨l, h1, h2⟩ := a
  obtain ⟨l', h3, h4⟩ := b
  rw [h1.uniq h3, h4] at h2
  cases h2; rfl
theorem Rt.root {par : Nat → Int} {v r : Nat} (a : Rt par v r) : par r = -1 := by
  obtain ⟨l, h1, h2⟩ := a
  obtain ⟨r', h3, h4⟩ := h1.last
  rw [h2] at h3; cases h3; exact h4
theorem Rt.self {par : Nat → Int} {v : Nat} (h : par v = -1) : Rt par v v := ⟨_, .root h, rfl⟩
theorem Rt.up {par : Nat → Int} {v u r : Nat} (h : par v = u) : Rt par u r → Rt par v r := by
  rintro ⟨l, h1, h2⟩
  exact ⟨_, .step h h1, by rw [List.getLast?_cons, h2]; rfl⟩

section
variable {n : Nat} {st : St} {L : Nat → List Nat} {par tv pd : Nat → Int}

theorem Chn.congr {par par' : Nat → Int} : ∀ {l : List Nat}, (∀ x ∈ l, par' x = par x) → Chn par l → Chn par' l := by
  intro l
  induction l with
  | nil => intro _ _; trivial
  | cons a l ih =>
    intro h hc
    have ih := ih (fun x hx => h x (List.mem_cons_of_mem _ hx)) hc.tail
    cases l with
    | nil => trivial
    | cons b l => exact ⟨by rw [h b (by simp)]; exact hc.1, ih⟩
theorem mn_congr {tv tv' : Nat → Int} : ∀ {l : List Nat}, (∀ x ∈ l, tv' x = tv x) → mn tv' l = mn tv l := by
  intro l
  induction l with
  | nil => intro _; rfl
  | cons a l ih =>
    intro h
    simp only [mn]
    rw [h a (by simp), ih (fun x hx => h x (List.mem_cons_of_mem _ hx))]

end

section
variable {n : Nat} {st : St} {L : Nat → List Nat} {par tv pd : Nat → Int}

theorem AccR.upw {v : Nat} (A : AccR n st L par tv pd v) (hv : v < n) : UpW par v (L v).reverse := by
  obtain ⟨a, l, e1, e2⟩ := A.inv.hd v hv A.top
  exact UpW.of_way (A.inv.chn v hv) (by rw [e1]; rfl) A.last (by rw [e2, A.up])
theorem AccR.alone {v : Nat} (A : AccR n st L par tv pd v) (hv : v < n) (hp : par v = -1) : L v = [v] := by
  have := (A.upw hv).uniq (.root hp)
  have h2 := congrArg List.reverse this
  simpa using h2
theorem RootR.upw {v r : Nat} (A : RootR n st L par tv pd r v) : UpW par v (L r).reverse :=
  UpW.of_way (A.inv.chn r A.rn) A.head A.last A.root
theorem RootR.rt {v r : Nat} (A : RootR n st L par tv pd r v) : Rt par v r :=
  ⟨_, A.upw, by rw [List.getLast?_reverse]; exact A.head⟩

theorem Inv.nmem (I : Inv n st L par tv pd) {v u x : Nat} (ht : Top st v) (hu : u < n) (hne : u ≠ v) (hx : x ∈ L u) : x ≠ v := by
  rintro rfl
  exact hne (I.top_of_mem hu hx ht).symm

/-- v leaves its parent. -/
theorem AccR.cut {v c : Nat} (A : AccR n st L par tv pd v) (F : Fst n par tv) (hv : v < n) (hc : st v 0 = c) :
    Inv n (pullS (upd2 (upd2 (upd2 st c 2 (-1)) v 0 (-1)) v 3 0) v) (fun u => if u = v then [v] else L u) (upd par v (-1)) (upd tv v 0) (fun u => if u = c then 0 else pd u) := by
  have I := A.inv
  have hcc : Ch st v c := .inl hc
  have hcn := (I.ch v c hv hcc)
  have cv : c ≠ v := I.chNe hv hcc
  have l1 : st v 1 < 0 := A.rt
  have pdz : w64 (pd c) = w64 0 := by rw [I.pdc v c hv hcc, A.p0, A.a0]; rfl
  have l3 : least3 (upd2 (upd2 (upd2 st c 2 (-1)) v 0 (-1)) v 3 0) v = 0 := by
    rw [least3_eq]
    have e0 : upd2 (upd2 (upd2 st c 2 (-1)) v 0 (-1)) v 3 0 v 0 = -1 := by simp [upd2]
    have e1 : upd2 (upd2 (upd2 st c 2 (-1)) v 0 (-1)) v 3 0 v 1 = st v 1 := by simp [upd2]
    have e3 : upd2 (upd2 (upd2 st c 2 (-1)) v 0 (-1)) v 3 0 v 3 = 0 := by simp [upd2]
    rw [e0, e1, e3]
    unfold lstep
    rw [if_neg (by omega), if_neg (by omega)]
  generalize hst : pullS (upd2 (upd2 (upd2 st c 2 (-1)) v 0 (-1)) v 3 0) v = st'
  have E : ∀ u j, st' u j = if u = v then (if j = 0 then -1 else if j = 3 ∨ j = 4 then 0 else st v j) else if u = c ∧ j = 2 then -1 else st u j := by
    intro u j
    rw [← hst]
    unfold pullS
    rw [l3]
    unfold upd2
    by_cases hu : u = v
    · subst hu
      have : ¬ u = c := fun h => cv h.symm
      by_cases j0 : j = 0
      · subst j0; simp
      · by_cases j3 : j = 3
        · subst j3; simp
        · by_cases j4 : j = 4
          · subst j4; simp
          · simp [j0, j3, j4, this]
    · simp [hu]
  have nch : ∀ u, u < n → ¬ Ch st u v := fun u hu h => A.top u (I.ch u v hu h).2 h
  have CH : ∀ u y, u < n → Ch st' u y → u ≠ v ∧ Ch st u y ∧ y ≠ c ∧ y ≠ v := by
    intro u y hu h
    by_cases huv : u = v
    · subst huv
      exfalso
      rcases h with h | h
      · rw [E, if_pos rfl, if_pos rfl] at h; omega
      · rw [E, if_pos rfl, if_neg (by omega), if_neg (by omega)] at h; omega
    · have h' : Ch st u y := by
        unfold Ch at h ⊢
        rw [E, E, if_neg huv, if_neg huv, if_neg (by omega), if_neg (by omega)] at h
        exact h
      refine ⟨huv, h', ?_, ?_⟩
      · rintro rfl
        have := (I.ch u y hu h').2
        omega
      · rintro rfl
        exact nch u hu h'
  have CH2 : ∀ u y, u ≠ v → Ch st u y → Ch st' u y := by
    intro u y huv h
    unfold Ch at h ⊢
    rw [E, E, if_neg huv, if_neg huv, if_neg (by omega), if_neg (by omega)]
    exact h
  have tv' : ∀ u, u ≠ v → upd tv v 0 u = tv u := fun u hu => if_neg hu
  have par' : ∀ u, u ≠ v → upd par v (-1) u = par u := fun u hu => if_neg hu
  have tvv : upd tv v 0 v = 0 := if_pos rfl
  have parv : upd par v (-1) v = -1 := if_pos rfl
  generalize hpd : (fun u => if u = c then (0 : Int) else pd u) = pd'
  have pdD : ∀ w, pd' w = if w = c then (0 : Int) else pd w := fun w => by rw [← hpd]
  have pdE : ∀ w, w64 (pd' w) = w64 (pd w) := by
    intro w
    rw [pdD]
    by_cases h : w = c
    · rw [if_pos h, h, pdz]
    · rw [if_neg h]
  have lvE : L v = L c ++ [v] := by
    rw [I.ino v hv, hc, LL_nat, LL_neg l1]
  have TOP : ∀ u, u < n → u ≠ v → Top st' u → u = c ∨ (u ≠ c ∧ Top st u) := by
    intro u hu huv hT
    by_cases e : u = c
    · exact .inl e
    · refine .inr ⟨e, fun y hy hc' => ?_⟩
      by_cases e2 : y = v
      · subst e2
        rcases hc' with k | k <;> omega
      · exact hT y (by rw [E, if_neg huv, if_neg (by omega)]; exact hy) (CH2 y u e2 hc')
  refine ⟨?_, ?_, ?_, ?_, ?_, ?_, ?_, ?_, ?_⟩
  · intro u y hu h
    obtain ⟨h1, h2, h3, h4⟩ := CH u y hu h
    rw [E, if_neg h4, if_neg (by omega)]
    exact I.ch u y hu h2
  · intro u hu
    rw [E]
    by_cases h : u = v
    · subst h
      rw [if_pos rfl, if_neg (by omega), if_neg (by omega)]
      exact I.up u hu
    · rw [if_neg h]
      split
      · exact .inl (by omega)
      · exact I.up u hu
  · intro u hu
    by_cases h : u = v
    · subst h
      rw [E, E, if_pos rfl, if_pos rfl, if_pos rfl, if_pos rfl, if_neg (by omega), if_neg (by omega), LL_neg (by omega), LL_neg l1]
      rfl
    · rw [E, E, if_neg h, if_neg h, if_neg h, if_neg (by omega), if_neg (by omega), I.ino u hu]
      have q : ∀ z : Int, z ≠ v → LL (fun u => if u = v then [v] else L u) z = LL L z := by
        intro z hz
        unfold LL
        split
        · exact if_neg (by omega)
        · rfl
      rw [q, q]
      · exact fun h => nch u hu (.inr h)
      · exact fun h => nch u hu (.inl h)
  · intro u hu
    by_cases h : u = v
    · show Chn _ (if u = v then [v] else L u)
      rw [if_pos h]; trivial
    · show Chn _ (if u = v then [v] else L u)
      rw [if_neg h]
      exact (I.chn u hu).congr fun y hy => par' y (I.nmem A.top hu h hy)
  · intro u hu hT
    show ∃ a l, (if u = v then [v] else L u) = a :: l ∧ _
    by_cases h : u = v
    · subst h
      rw [if_pos rfl]
      refine ⟨u, [], rfl, ?_⟩
      rw [parv, E, if_pos rfl, if_neg (by omega), if_neg (by omega), A.up]
    · rw [if_neg h]
      rcases TOP u hu h hT with e | ⟨e, hT'⟩
      · subst e
        rw [E, if_neg h, if_pos ⟨rfl, rfl⟩]
        obtain ⟨a, l, e1, e2⟩ := I.hd v hv A.top
        rw [lvE] at e1
        cases hl : L u with
        | nil => have := I.self hu; rw [hl] at this; cases this
        | cons b l' =>
          rw [hl] at e1
          simp at e1
          refine ⟨b, l', rfl, ?_⟩
          rw [par' b (I.nmem A.top hu h (by rw [hl]; simp)), e1.1, e2, A.up]
      · obtain ⟨a, l, e1, e2⟩ := I.hd u hu hT'
        refine ⟨a, l, e1, ?_⟩
        rw [par' a (I.nmem A.top hu h (by rw [e1]; simp)), E, if_neg h, if_neg (by omega), e2]
  · intro u hu hT
    rw [pdD]
    by_cases e : u = c
    · rw [if_pos e]
    · rw [if_neg e]
      by_cases h : u = v
      · subst h; exact A.p0
      · rcases TOP u hu h hT with e' | ⟨_, hT'⟩
        · exact absurd e' e
        · exact I.pdt u hu hT'
  · intro u y hu h
    obtain ⟨h1, h2, h3, h4⟩ := CH u y hu h
    rw [pdE, I.pdc u y hu h2, E, if_neg h1, if_neg (by omega)]
    obtain ⟨k, hk⟩ := w64_cg.1 (pdE u)
    exact w64_of ⟨-k, by omega⟩
  · intro u hu
    rw [E]
    by_cases h : u = v
    · subst h
      have e1 : pd' u = 0 := by rw [pdD, if_neg (fun h => cv h.symm)]; exact A.p0
      rw [if_pos rfl, if_neg (by omega), if_pos (.inl rfl), tvv, e1]
      rfl
    · rw [if_neg h, if_neg (by omega), tv' u h, I.val u hu]
      exact Inv.pd_cg (pdE u)
  · intro u hu
    rw [E]
    by_cases h : u = v
    · subst h
      have e1 : pd' u = 0 := by rw [pdD, if_neg (fun h => cv h.symm)]; exact A.p0
      have e2 : (if u = u then [u] else L u) = [u] := if_pos rfl
      rw [if_pos rfl, if_neg (by omega), if_pos (.inr rfl), e1, e2]
      simp only [mn, tvv]
      rfl
    · have e2 : (if u = v then [v] else L u) = L u := if_neg h
      rw [if_neg h, if_neg (by omega), e2, mn_congr fun y hy => tv' y (I.nmem A.top hu h hy), I.lst u hu]
      exact Inv.pd_cg (pdE u)

theorem Fst.cut {v : Nat} (F : Fst n par tv) (hv : v < n) : Fst n (upd par v (-1)) (upd tv v 0) := by
  obtain ⟨d, hd⟩ := F.acy
  refine ⟨?_, ⟨d, ?_⟩, ?_, ?_⟩
  · intro u hu
    unfold upd
    split
    · exact .inl rfl
    · exact F.pt u hu
  · intro y u hy h
    unfold upd at h
    split at h
    · omega
    · exact hd y u hy h
  · intro u hu
    unfold upd
    split
    · omega
    · exact F.rng u hu
  · intro u hu h
    unfold upd at h ⊢
    split
    · rfl
    · rename_i e
      rw [if_neg e] at h
      exact F.zero u hu h

end
end Go.Proofs.Ytdblngaacnpgmaa

namespace Go.Proofs.Ytdblngaacnpgmaa
open Go
set_option linter.unusedVariables false

theorem mn_add {tv tv' : Nat → Int} {x : Int} : ∀ {l : List Nat}, l ≠ [] → (∀ y ∈ l, tv' y = tv y + x) → (∀ y ∈ l, tv y < 9223372036854775808 ∧ tv' y < 9223372036854775808) → mn tv' l = mn tv l + x := by
  intro l
  induction l with
  | nil => intro h; exact absurd rfl h
  | cons a l ih =>
    intro _ h hr
    have ha := h a (by simp)
    have hra := hr a (by simp)
    simp only [mn]
    cases l with
    | nil => simp only [mn]; omega
    | cons b l =>
      have := ih (by simp) (fun y hy => h y (List.mem_cons_of_mem _ hy)) (fun y hy => hr y (List.mem_cons_of_mem _ hy))
      rw [this, ha]
      omega
theorem Chn.par_of {par : Nat → Int} : ∀ {l : List Nat} {a : Nat}, Chn par (a :: l) → ∀ x ∈ l, ∃ u : Nat, par x = u := by
  intro l
  induction l with
  | nil => intro a _ x hx; cases hx
  | cons b l ih =>
    intro a h x hx
    rcases List.mem_cons.1 hx with rfl | hx
    · exact ⟨a, h.1⟩
    · exact ih h.2 x hx

section
variable {n : Nat} {st : St} {L : Nat → List Nat} {par tv pd : Nat → Int}

/-- What is added to the values of the nodes l. -/
def addT (tv : Nat → Int) (l : List Nat) (x : Int) : Nat → Int := fun w => if w ∈ l then tv w + x else tv w

theorem Fst.add {l : List Nat} {x : Int} (F : Fst n par tv) (hl : ∀ w ∈ l, par w ≠ -1)
    (hr : ∀ w, w < n → -9223372036854775808 ≤ tv w + x ∧ tv w + x < 9223372036854775808) : Fst n par (addT tv l x) := by
  refine ⟨F.pt, F.acy, ?_, ?_⟩
  · intro v hv
    unfold addT
    split
    · exact hr v hv
    · exact F.rng v hv
  · intro v hv h
    unfold addT
    rw [if_neg (fun hm => hl v hm h)]
    exact F.zero v hv h

theorem RootR.tail {r v : Nat} (A : RootR n st L par tv pd r v) : L r = r :: LL L (st r 1) := by
  rw [A.inv.ino r A.rn, LL_neg A.lf]; rfl

theorem RootR.add {r v : Nat} {x : Int} (A : RootR n st L par tv pd r v) (F : Fst n par tv)
    (hr : ∀ w, w < n → -9223372036854775808 ≤ tv w + x ∧ tv w + x < 9223372036854775808) :
    ∃ pd', Inv n (pullS (raiseS st (st r 1) x) r) L par (addT tv (LL L (st r 1)) x) pd' := by
  have I := A.inv
  have hrn := A.rn
  have tl := A.tail
  have hrng : ∀ w l, w < n → -9223372036854775808 ≤ addT tv l x w ∧ addT tv l x w < 9223372036854775808 := by
    intro w l hw
    unfold addT
    split
    · exact hr w hw
    · exact F.rng w hw
  rcases pt_of I hrn (k := 1) (by decide) with h0 | ⟨c, hc, hcn⟩
  · -- the root alone
    refine ⟨pd, ?_⟩
    rw [raiseS_neg h0, LL_neg h0]
    have et : addT tv [] x = tv := by funext w; exact if_neg (by simp)
    rw [et]
    have l3 : least3 st r = mn tv (L r) := by
      refine least3_ok ?_ ?_ (I.ino r hrn) (fun a ha => (F.rng a (I.lt r hrn a ha)).2)
      · rw [I.val r hrn, A.p0, Int.sub_zero, w64_in (F.rng r hrn).1 (F.rng r hrn).2]
      · intro c hc
        exact I.lstZ F (I.ch r c hrn hc).1 (by rw [I.pdc r c hrn hc, A.p0, A.a0]; rfl)
    have e4 : st r 4 = mn tv (L r) := I.lstZ F hrn (by rw [A.p0])
    have : pullS st r = st := by
      funext w j
      unfold pullS upd2
      rw [l3]
      split
      · rename_i h; obtain ⟨rfl, rfl⟩ := h; exact e4.symm
      · rfl
    rw [this]; exact I
  · rw [hc, LL_nat]
    have hcc : Ch st r c := .inr hc
    have tl' : L r = r :: L c := by rw [tl, hc, LL_nat]
    have cr : c ≠ r := I.chNe hrn hcc
    have nr : r ∉ L c := by
      have := I.nodup F hrn
      rw [tl'] at this
      exact (List.nodup_cons.1 this).1
    have c2 : st c 2 = r := (I.ch r c hrn hcc).2
    have pcz : w64 (pd c) = w64 0 := by rw [I.pdc r c hrn hcc, A.p0, A.a0]; rfl
    generalize htv : addT tv (L c) x = tv'
    have tvD : ∀ w, tv' w = if w ∈ L c then tv w + x else tv w := fun w => by rw [← htv]; rfl
    have tvr : ∀ w, w < n → -9223372036854775808 ≤ tv' w ∧ tv' w < 9223372036854775808 := fun w hw => by rw [← htv]; exact hrng w _ hw
    generalize hpd : (fun w => if w ∈ L c ∧ w ≠ c then pd w + x else pd w) = pd'
    have pdD : ∀ w, pd' w = if w ∈ L c ∧ w ≠ c then pd w + x else pd w := fun w => by rw [← hpd]
    generalize hst : pullS (raiseS st c x) r = st'
    have E : ∀ w j, j ≠ 4 → st' w j = if w = c ∧ (j = 3 ∨ j = 5) then w64 (st w j + x) else st w j := by
      intro w j hj
      rw [← hst]
      unfold pullS
      show upd2 _ r 4 _ w j = _
      unfold upd2
      rw [if_neg (by omega), raiseS_at]
      congr 1
      exact propext ⟨fun ⟨a, b⟩ => ⟨a, by omega⟩, fun ⟨a, b⟩ => ⟨a, by omega⟩⟩
    have E4 : ∀ w, st' w 4 = if w = r then least3 (raiseS st c x) r else if w = c then w64 (st w 4 + x) else st w 4 := by
      intro w
      rw [← hst]
      unfold pullS
      show upd2 _ r 4 _ w 4 = _
      unfold upd2
      by_cases h : w = r
      · rw [if_pos ⟨h, rfl⟩, if_pos h]
      · rw [if_neg (fun k => h k.1), if_neg h, raiseS_at]
        congr 1
        exact propext ⟨fun ⟨a, b⟩ => a, fun a => ⟨a, by omega⟩⟩
    have lk : ∀ w j, j < 3 → st' w j = st w j := fun w j hj => by rw [E w j (by omega), if_neg (by omega)]
    -- children and the set below c
    have chm : ∀ u y, u < n → Ch st u y → (y ∈ L c ↔ u ∈ L c ∨ y = c) := by
      intro u y hu h
      constructor
      · intro hy
        rcases I.anc c hcn y hy with h1 | ⟨z, hz, hzn, hcz, hzc⟩
        · exact .inr h1
        · have := (I.ch u y hu h).2
          have e : z = u := by omega
          subst e
          exact .inl hzc
      · rintro (h1 | rfl)
        · exact I.mtrans c hcn u h1 y (I.sub hu h (I.self (I.ch u y hu h).1))
        · exact I.self hcn
    have chc : ∀ u y, u < n → Ch st u y → y = c → u = r := by
      rintro u y hu h rfl
      have := (I.ch u y hu h).2
      omega
    have least_c : mn tv' (L c) = mn tv (L c) + x := by
      refine mn_add (fun h => by have := I.self hcn; rw [h] at this; cases this) (fun y hy => by rw [tvD, if_pos hy]) (fun y hy => ?_)
      have := I.lt c hcn y hy
      exact ⟨(F.rng y this).2, (tvr y this).2⟩
    have rngR : ∀ a ∈ L r, a < n := I.lt r hrn
    have mnr : ∀ w, w < n → -9223372036854775808 ≤ mn tv' (L w) ∧ mn tv' (L w) < 9223372036854775808 := fun w hw =>
      ⟨mn_low _ fun a ha => (tvr a (I.lt w hw a ha)).1, mn_high (I.self hw) (tvr w hw).2⟩
    refine ⟨pd', ⟨?_, ?_, ?_, I.chn, ?_, ?_, ?_, ?_, ?_⟩⟩
    · intro u y hu h
      rw [lk _ _ (by decide)]
      exact I.ch u y hu ((Ch.congr lk).1 h)
    · intro u hu
      rw [lk _ _ (by decide)]; exact I.up u hu
    · intro u hu
      rw [lk _ _ (by decide), lk _ _ (by decide)]; exact I.ino u hu
    · intro u hu hT
      rw [lk _ _ (by decide)]
      exact I.hd u hu ((Top.congr lk).1 hT)
    · intro u hu hT
      have hT := (Top.congr lk).1 hT
      rw [pdD, if_neg]
      · exact I.pdt u hu hT
      · rintro ⟨h1, h2⟩
        exact h2 (I.top_of_mem hcn h1 hT)
    · intro u y hu h
      replace h := (Ch.congr lk).1 h
      have k := I.pdc u y hu h
      have m := chm u y hu h
      rw [E _ _ (by decide), pdD, pdD]
      by_cases hy : y = c
      · have hur := chc u y hu h hy
        subst hur
        rw [if_neg (fun h => h.2 hy), if_neg (fun h => nr h.1), if_neg (fun h => cr h.1.symm)]
        exact k
      · by_cases hm : u ∈ L c
        · rw [if_pos ⟨m.2 (.inl hm), hy⟩]
          by_cases huc : u = c
          · subst huc
            rw [if_neg (fun h => h.2 rfl), if_pos ⟨rfl, .inr rfl⟩]
            obtain ⟨i, hi⟩ := w64_cg.1 k
            obtain ⟨j, hj, _⟩ := w64_eq (st u 5 + x)
            exact w64_of ⟨i - j, by omega⟩
          · rw [if_pos ⟨hm, huc⟩, if_neg (fun h => huc h.1)]
            obtain ⟨i, hi⟩ := w64_cg.1 k
            exact w64_of ⟨i, by omega⟩
        · have : ¬ y ∈ L c := fun h => (m.1 h).elim hm hy
          rw [if_neg (fun h => this h.1), if_neg (fun h => hm h.1), if_neg (fun h => hm (by rw [h.1]; exact I.self hcn))]
          exact k
    · intro u hu
      rw [E _ _ (by decide), pdD, tvD]
      by_cases huc : u = c
      · subst huc
        rw [if_pos ⟨rfl, .inl rfl⟩, if_pos (I.self hcn), if_neg (fun h => h.2 rfl), I.val u hu]
        obtain ⟨j, hj, _⟩ := w64_eq (tv u - pd u)
        exact w64_of ⟨j, by omega⟩
      · rw [if_neg (fun h => huc h.1), I.val u hu]
        by_cases hm : u ∈ L c
        · rw [if_pos hm, if_pos ⟨hm, huc⟩]
          congr 1; omega
        · rw [if_neg hm, if_neg (fun h => hm h.1)]
    · intro u hu
      rw [E4, pdD]
      by_cases hur : u = r
      · subst hur
        rw [if_pos rfl, if_neg (fun h => nr h.1), A.p0, Int.sub_zero, w64_in (mnr u hu).1 (mnr u hu).2]
        refine least3_ok ?_ ?_ ?_ (fun a ha => (tvr a (rngR a ha)).2)
        · rw [raiseS_at, if_neg (fun h => cr h.1.symm), I.val u hu, A.p0, Int.sub_zero, w64_in (F.rng u hu).1 (F.rng u hu).2, tvD, if_neg nr]
        · intro y hy
          have hy' : Ch st u y := by
            unfold Ch at hy ⊢
            rw [raiseS_at, raiseS_at, if_neg (by omega), if_neg (by omega)] at hy
            exact hy
          have hyc : y = c := by
            rcases hy' with h | h
            · have := A.lf; omega
            · omega
          subst hyc
          rw [raiseS_at, if_pos ⟨rfl, by omega⟩, I.lstZ F hcn pcz, ← least_c, w64_in (mnr y hcn).1 (mnr y hcn).2]
        · rw [raiseS_at, raiseS_at, if_neg (by omega), if_neg (by omega)]
          exact I.ino u hu
      · rw [if_neg hur]
        by_cases huc : u = c
        · subst huc
          rw [if_pos rfl, if_neg (fun h => h.2 rfl), least_c, I.lst u hu]
          obtain ⟨j, hj, _⟩ := w64_eq (mn tv (L u) - pd u)
          exact w64_of ⟨j, by omega⟩
        · rw [if_neg huc]
          by_cases hm : u ∈ L c
          · rw [if_pos ⟨hm, huc⟩]
            have : mn tv' (L u) = mn tv (L u) + x := by
              refine mn_add (fun h => by have := I.self hu; rw [h] at this; cases this) (fun y hy => by rw [tvD, if_pos (I.mtrans c hcn u hm y hy)]) (fun y hy => ?_)
              have := I.lt u hu y hy
              exact ⟨(F.rng y this).2, (tvr y this).2⟩
            rw [this, I.lst u hu]
            congr 1; omega
          · rw [if_neg (fun h => hm h.1), I.lst u hu]
            have : mn tv' (L u) = mn tv (L u) := by
              refine mn_congr fun y hy => ?_
              rw [tvD, if_neg]
              intro hyc
              rcases I.cmp hcn u hu y hy hyc with h | h
              · exact hm h
              · rcases I.anc u hu c h with h1 | ⟨z, hz, _, _, hzu⟩
                · exact huc h1.symm
                · have : z = r := by omega
                  subst this
                  exact hur (I.top_of_mem hu hzu A.top).symm
            rw [this]

end
end Go.Proofs.Ytdblngaacnpgmaa

namespace Go.Proofs.Ytdblngaacnpgmaa
open Go
set_option linter.unusedVariables false

/-- In h there is a forest of n nodes at bf (its nodes at bn), which means par and tv. -/
structure Forest (h : H) (bf bn n : Nat) (par tv : Nat → Int) : Prop where
  small : n ≤ 1024
  fst : Fst n par tv
  ex : ∃ e st L pd, Fz h bf bn e n st ∧ Inv n st L par tv pd

def isN (n : Nat) (v : Int) : Prop := 0 ≤ v ∧ v < (n : Int)
instance (n : Nat) (v : Int) : Decidable (isN n v) := inferInstanceAs (Decidable (_ ∧ _))
def isL (x : Int) : Prop := -1048576 ≤ x ∧ x ≤ 1048576
instance (x : Int) : Decidable (isL x) := inferInstanceAs (Decidable (_ ∧ _))
section
variable {bf bn n : Nat} {h : H} {par tv : Nat → Int}

theorem Forest.hd (P : Forest h bf bn n par tv) : Hd h bf bn n := by
  obtain ⟨e, st, L, pd, f, _⟩ := P.ex
  exact f.hd

end
end Go.Proofs.Ytdblngaacnpgmaa

namespace Go.Proofs.Ytdblngaacnpgmaa
open Go
set_option linter.unusedVariables false

/-- The nodes of a way that have an edge above. -/
def edges (par : Nat → Int) (l : List Nat) : List Nat := l.filter fun w => decide (par w ≠ -1)

section
variable {bf bn n : Nat} {h : H} {par tv : Nat → Int}

theorem RootR.edges {st : St} {L : Nat → List Nat} {pd : Nat → Int} {r v : Nat} {x : Int} (A : RootR n st L par tv pd r v) (w : Nat) :
    w ∈ LL L (st r 1) ↔ w ∈ edges par (L r).reverse := by
  have tl := A.tail
  have ch := A.inv.chn r A.rn
  rw [tl] at ch
  rw [tl]
  unfold Go.Proofs.Ytdblngaacnpgmaa.edges
  simp only [List.mem_filter, List.mem_reverse, List.mem_cons, decide_eq_true_eq]
  constructor
  · intro h
    obtain ⟨u, hu⟩ := ch.par_of w h
    exact ⟨.inr h, by omega⟩
  · rintro ⟨rfl | h, h2⟩
    · exact absurd A.root h2
    · exact h

theorem st_new {h : H} {b e n : Nat} {zs vs : List Value} {K : H → Prop} (hn : vs.length = n) (hl : zs.length = n) (one : ∀ v ∈ vs, v.oneCell' = true)
    (k : K (hput h b (.cells ⟨vs⟩ e (0, 0)))) : stN (hput h b (.cells ⟨zs⟩ e (0, 0))) (bk b) vs n K := by
  refine ⟨hn, one, put_wr (i := 0) (by omega), ?_⟩
  rw [hset_put (by omega)]
  exact k
/-- A new block that is filled at once. -/
theorem new_st {h : H} {e n : Nat} {zs vs : List Value} {K : Nat → H → Prop} (hn : vs.length = n) (hl : zs.length = n) (one : ∀ v ∈ vs, v.oneCell' = true)
    (k : ∀ b g, h b = none → (∀ c, Kp c h g) → g b = some (.cells ⟨vs⟩ e (0, 0)) → (∀ i v, vs[i]? = some v → hcell g ((bk b).add i) = some v) → K b g) :
    newP h (.cells ⟨zs⟩ e (0, 0)) fun b h1 => stN h1 (bk b) vs n (K b) := by
  intro b hb
  refine st_new hn hl one ?_
  exact k b _ hb (fun c => Kp.put hb) (by simp [hput]) fun i v hi => put_ld hi

end
end Go.Proofs.Ytdblngaacnpgmaa

namespace Go.Proofs.Ytdblngaacnpgmaa
open Go
set_option linter.unusedVariables false

theorem Ext.kp {h h' : H} (x : Ext h h') (b : Nat) : Kp b h h' := fun k o _ e => x k o e
theorem Ext.trans' {a b c : H} (x : Ext a b) (y : Ext b c) : Ext a c := fun k o e => y k o (x k o e)
/-- What keeps all but a block that was not known keeps all. -/
theorem Ext.of_kp {h1 h2 h3 : H} {b : Nat} (x : Ext h1 h2) (k : Kp b h2 h3) (hb : h1 b = none) : Ext h1 h3 := fun j o e =>
  k j o (by rintro rfl; rw [hb] at e; cases e) (x j o e)

/-- A new block, seen from outside. -/
theorem new_put {h : H} {o : Obj} {K : Nat → H → Prop} (k : ∀ b g, h b = none → Ext h g → g b = some o → K b g) : newP h o K := fun b hb =>
  k b _ hb (Ext.put hb o) (by simp [hput])

end Go.Proofs.Ytdblngaacnpgmaa

namespace Go.Proofs.Ytdblngaacnpgmaa
open Go
set_option linter.unusedVariables false

theorem rt_ret {A X : Value → H → Prop} {v : Value} {h : H} (k : A v h) : rt A X (.ret v) h := k
theorem i64_inc {i : Nat} (h : i < 9223372036854775807) : IntKind.i64.wrap ((i : Int) + 1) = ((i + 1 : Nat) : Int) := by
  have : IntKind.i64.wrap ((i : Int) + 1) = (i : Int) + 1 := w64_in (by omega) (by omega)
  rw [this]; omega
def va (n : Nat) (f : Nat → Value) : List Value := (List.range n).map f
theorem va_length (n : Nat) (f : Nat → Value) : (va n f).length = n := by simp [va]
theorem va_get {n : Nat} {f : Nat → Value} {i : Nat} (h : i < n) : (va n f)[i]? = some (f i) := by
  simp [va, List.getElem?_map, List.getElem?_range h]
def updV (f : Nat → Value) (i : Nat) (x : Value) : Nat → Value := fun j => if j = i then x else f j
theorem va_set {n : Nat} {f : Nat → Value} {i : Nat} {x : Value} : (va n f).set i x = va n (updV f i x) := by
  apply List.ext_getElem
  · simp [va]
  · intro j h1 h2
    simp only [va, List.getElem_set, List.getElem_map, List.getElem_range, updV]
    by_cases e : i = j
    · subst e; simp
    · rw [if_neg e, if_neg (fun h => e h.symm)]
def VA (h : H) (b e n : Nat) (f : Nat → Value) : Prop := h b = some (.cells ⟨va n f⟩ e (0, 0))
theorem VA.ld {h : H} {b e n : Nat} {f : Nat → Value} (a : VA h b e n f) {i : Nat} (hi : i < n) : hcell h ((bk b).add (i * 1)) = some (f i) := by
  rw [bk_add, hcell_at a, Nat.mul_one, List.getElem?_toArray]
  exact va_get hi
theorem VA.set {h : H} {b e n : Nat} {f : Nat → Value} (a : VA h b e n f) {i : Nat} {x : Value} (hi : i < n) :
    VA (hset h ((bk b).add (i * 1)) [x]) b e n (updV f i x) ∧ Kp b h (hset h ((bk b).add (i * 1)) [x]) := by
  rw [bk_add]
  constructor
  · unfold VA hset
    rw [if_pos rfl, a]
    simp only [Option.map_some, setR, Nat.mul_one]
    rw [List.setIfInBounds_toArray, va_set]
  · intro k o hk hh
    unfold hset
    rw [if_neg hk]
    exact hh
theorem VA.kp {h h' : H} {b b' e n : Nat} {f : Nat → Value} (a : VA h b e n f) (k : Kp b' h h') (ne : b ≠ b') : VA h' b e n f := k _ _ ne a
/-- The block b holds vs. -/
def Bl (h : H) (b : Nat) (vs : List Value) : Prop := ∃ e, h b = some (.cells ⟨vs⟩ e (0, 0))
theorem Bl.ext {h h' : H} {b : Nat} {vs : List Value} (B : Bl h b vs) (x : Ext h h') : Bl h' b vs := by
  obtain ⟨e, k⟩ := B; exact ⟨e, x _ _ k⟩
theorem Bl.kp {h h' : H} {b c : Nat} {vs : List Value} (B : Bl h b vs) (x : Kp c h h') (ne : b ≠ c) : Bl h' b vs := by
  obtain ⟨e, k⟩ := B; exact ⟨e, x _ _ ne k⟩
theorem Bl.ne {h : H} {b c : Nat} {vs : List Value} (B : Bl h b vs) (hc : h c = none) : b ≠ c := by
  rintro rfl; obtain ⟨e, k⟩ := B; rw [hc] at k; cases k
theorem new_bl {h : H} {vs : List Value} {e : Nat} {K : Nat → H → Prop} (k : ∀ b g, h b = none → Ext h g → Bl g b vs → K b g) :
    newP h (.cells ⟨vs⟩ e (0, 0)) K := fun b hb => k b _ hb (Ext.put hb _) ⟨e, by simp [hput]⟩
theorem Bl.ld {h : H} {b i : Nat} {vs : List Value} {v : Value} (B : Bl h b vs) (hi : vs[i]? = some v) : hcell h ((bk b).add i) = some v := by
  obtain ⟨e, k⟩ := B
  rw [bk_add, hcell_at k, List.getElem?_toArray]
  exact hi
theorem Bl.ldN {h : H} {b n : Nat} {vs : List Value} {K : List Value → Prop} (B : Bl h b vs) (hn : vs.length = n) (k : K vs) : ldN h (bk b) n K :=
  ⟨vs, hn, fun _ _ hi => B.ld hi, k⟩
theorem Bl.stN {h : H} {b n : Nat} {vs ws : List Value} {K : H → Prop} (B : Bl h b vs) (hn : ws.length = n) (hv : vs.length = n) (one : ∀ v ∈ ws, v.oneCell' = true)
    (k : ∀ g, Kp b h g → Bl g b ws → K g) : stN h (bk b) ws n K := by
  obtain ⟨e, hb⟩ := B
  refine ⟨hn, one, ⟨_, _, hb, rfl, by simp; omega⟩, k _ ?_ ⟨e, ?_⟩⟩
  · intro j o hj hh
    unfold hset
    rw [if_neg hj]; exact hh
  · unfold hset
    rw [if_pos rfl, hb]
    simp only [Option.map_some]
    rw [setR_list ws vs 0 (by omega)]
    simp [hn, hv]
theorem new_bl_st {h : H} {zs ws : List Value} {e n : Nat} {K : Nat → H → Prop} (hn : ws.length = n) (hz : zs.length = n) (one : ∀ v ∈ ws, v.oneCell' = true)
    (k : ∀ b g, h b = none → Ext h g → Bl g b ws → K b g) : newP h (.cells ⟨zs⟩ e (0, 0)) fun b h1 => stN h1 (bk b) ws n (K b) := by
  refine new_st hn hz one ?_
  intro b g hb kp e2 _
  exact k b g hb (fun j o hj => kp (j + 1) j o (by omega) hj) ⟨e, e2⟩
/-- v is a slice of n whole numbers, in a block that is ok. -/
def SI (ok : Nat → Prop) (h : H) (v : Value) (n : Nat) (f : Nat → Int) : Prop :=
  (n = 0 ∧ v = .slice none 0 0) ∨ ∃ b, ok b ∧ Sl h b v (ints n f)
theorem SI.ext {ok : Nat → Prop} {h h' : H} {v : Value} {n : Nat} {f : Nat → Int} (s : SI ok h v n f) (x : Ext h h') : SI ok h' v n f := by
  rcases s with s | ⟨b, hb, c, e, zs, h1, h2, h3⟩
  · exact .inl s
  · exact .inr ⟨b, hb, c, e, zs, h1, x _ _ h2, h3⟩
theorem SI.kp {h h' : H} {c : Nat} {v : Value} {n : Nat} {f : Nat → Int} (s : SI (· ≠ c) h v n f) (k : Kp c h h') : SI (· ≠ c) h' v n f := by
  rcases s with s | ⟨b, hb, s⟩
  · exact .inl s
  · exact .inr ⟨b, hb, s.kp k hb⟩
theorem SI.shape {ok : Nat → Prop} {h : H} {v : Value} {n : Nat} {f : Nat → Int} (s : SI ok h v n f) : ∃ a c, v = .slice a n c := by
  rcases s with ⟨rfl, rfl⟩ | ⟨b, hb, c, e, zs, h1, h2, h3⟩
  · exact ⟨_, _, rfl⟩
  · rw [ints_length] at h1; exact ⟨_, _, h1⟩
theorem SI.ix {ok : Nat → Prop} {h : H} {v : Value} {n i : Nat} {f : Nat → Int} {K : Addr → Prop} (s : SI ok h v n f) (hi : i < n)
    (k : ∀ a : Addr, hcell h a = some (.int .i64 (f i)) → K a) : ixS v (i : Int) 1 K := by
  rcases s with ⟨rfl, rfl⟩ | ⟨b, hb, s⟩
  · omega
  · have g := s.get (ints_get hi)
    obtain ⟨c, e, zs, h1, h2, h3⟩ := s
    subst h1
    rw [ints_length]
    exact nx hi (k _ g)
theorem slcP_mk {a : Option Addr} {l c : Nat} {K : Option Addr → Nat → Nat → Prop} (k : K a l c) : slcP (.slice a l c) K := k
/-- A slice of n whole numbers in a block of its own, new to h. -/
def SN (h g : H) (v : Value) (n : Nat) (f : Nat → Int) (b : Nat) : Prop := (n = 0 ∧ v = .slice none 0 0) ∨ (h b = none ∧ Sl g b v (ints n f))
theorem SI.src {ok : Nat → Prop} {h : H} {v : Value} {n : Nat} {f : Nat → Int} (s : SI ok h v n f) : ∃ a c, v = .slice a n c ∧ srcP h a (n * 1) (ints n f) := by
  rcases s with ⟨rfl, rfl⟩ | ⟨b, hb, s⟩
  · exact ⟨none, 0, rfl, rfl, rfl⟩
  · have g := fun i v (hi : (ints n f)[i]? = some v) => s.get hi
    obtain ⟨c, e, zs, h1, h2, h3⟩ := s
    rw [ints_length] at h1
    refine ⟨_, c, h1, by rw [ints_length, Nat.mul_one], ?_⟩
    intro i v hi
    have := g i v hi
    rwa [Nat.mul_one] at this
theorem Bl.stC {h : H} {b i : Nat} {vs : List Value} {x : Value} {K : H → Prop} (B : Bl h b vs) (hi : i < vs.length)
    (k : ∀ g, Kp b h g → Bl g b (vs.set i x) → K g) : stC h ((bk b).add i) x K := by
  obtain ⟨e, hb⟩ := B
  rw [bk_add]
  refine ⟨⟨_, _, hb, rfl, by simp; omega⟩, k _ ?_ ⟨e, ?_⟩⟩
  · intro j o hj hh
    unfold hset
    rw [if_neg hj]; exact hh
  · unfold hset
    rw [if_pos rfl, hb]
    simp only [Option.map_some, setR]
    rw [List.setIfInBounds_toArray]
theorem SN.ext {h g g' : H} {v : Value} {n : Nat} {f : Nat → Int} {b : Nat} (s : SN h g v n f b) (x : Ext g g') : SN h g' v n f b := by
  rcases s with s | ⟨hb, c, e, zs, h1, h2, h3⟩
  · exact .inl s
  · exact .inr ⟨hb, c, e, zs, h1, x _ _ h2, h3⟩
theorem SN.kp {h g g' : H} {v : Value} {n : Nat} {f : Nat → Int} {b c : Nat} (s : SN h g v n f b) (k : Kp c g g') (hc : h c ≠ none) : SN h g' v n f b := by
  rcases s with s | ⟨hb, s⟩
  · exact .inl s
  · exact .inr ⟨hb, s.kp k (by rintro rfl; exact hc hb)⟩
theorem SN.isS {h g : H} {v : Value} {n : Nat} {f : Nat → Int} {b : Nat} (s : SN h g v n f b) : ∃ a l c, v = .slice a l c := by
  rcases s with ⟨_, rfl⟩ | ⟨_, c, e, zs, h1, _, _⟩
  · exact ⟨_, _, _, rfl⟩
  · subst h1; exact ⟨_, _, _, rfl⟩
theorem oneP_slc {v : Value} {K : Prop} (h : ∃ a l c, v = .slice a l c) (k : K) : oneP v K := by
  obtain ⟨_, _, _, rfl⟩ := h
  exact k
theorem slc_one {v : Value} (h : ∃ a l c, v = .slice a l c) : v.oneCell' = true := by
  obtain ⟨_, _, _, rfl⟩ := h
  rfl
theorem Sl.setI {h : H} {b : Nat} {v : Value} {n i : Nat} {f : Nat → Int} {x : Int} {K : H → Prop} (s : Sl h b v (ints n f)) (hi : i < n)
    (k : ∀ g, Kp b h g → Sl g b v (ints n (upd f i x)) → K g) : ixS v (i : Int) 1 fun a => stC h a (.int .i64 x) K := by
  obtain ⟨c, e, zs, h1, h2, h3⟩ := s
  subst h1
  rw [ints_length] at h3 ⊢
  refine nx hi ?_
  rw [bk_add]
  refine ⟨⟨_, _, h2, rfl, ?_⟩, k _ ?_ ⟨c, e, zs, by rw [ints_length, ints_length], ?_, by rw [ints_length]; exact h3⟩⟩
  · simp only [List.size_toArray, List.length_append, ints_length]; omega
  · intro j o hj hh
    unfold hset
    rw [if_neg hj]; exact hh
  · unfold hset
    rw [if_pos rfl, h2]
    simp only [Option.map_some, setR, Nat.mul_one]
    rw [List.setIfInBounds_toArray, List.set_append_left _ _ (by rw [ints_length]; exact hi), ints_set]
theorem Ext.new {h g : H} {b : Nat} (x : Ext h g) (hb : g b = none) : h b = none := by
  cases e : h b with
  | none => rfl
  | some o => rw [x _ _ e] at hb; cases hb
theorem SN.sl {h g : H} {v : Value} {n : Nat} {f : Nat → Int} {b : Nat} (s : SN h g v n f b) (hn : 0 < n) : h b = none ∧ Sl g b v (ints n f) := by
  rcases s with ⟨s, _⟩ | s
  · omega
  · exact s
theorem sameAt_bl {g g' : H} {b i n : Nat} {vs : List Value} (B : Bl g b vs) (B' : Bl g' b vs) : sameAt n ((bk b).add i) g g' := by
  obtain ⟨e, h1⟩ := B
  obtain ⟨e', h2⟩ := B'
  intro j _
  rw [bk_add, bk_add2, hcell_at h1, hcell_at h2]
end Go.Proofs.Ytdblngaacnpgmaa

namespace Go.Proofs.Ytdblngaacnpgmaa
open Go
set_option linter.unusedVariables false

/-- An edge: from, to, capacity, cost. -/
structure Ed where
  f : Int
  t : Int
  c : Int
  k : Int
abbrev Ed.vs (e : Ed) : List Value := [.int .i64 e.f, .int .i64 e.t, .int .i64 e.c, .int .i64 e.k]
theorem ed_one (e : Ed) : ∀ v ∈ e.vs, v.oneCell' = true := by
  intro v hv
  simp only [List.mem_cons, List.mem_nil_iff, or_false] at hv
  rcases hv with rfl | rfl | rfl | rfl <;> rfl

/-- w is a graph of n nodes and the first m edges of es. -/
def GrA (h : H) (w : List Value) (n : Int) (m : Nat) (es : Nat → Ed) : Prop :=
  ∃ a c, w = [.int .i64 n, .slice a m c] ∧ ∀ i, i < m → ∃ ad, a = some ad ∧ hcells h (ad.add (i * 4)) (es i).vs
theorem GrA.ext {h h' : H} {w : List Value} {n : Int} {m : Nat} {es : Nat → Ed} (g : GrA h w n m es) (x : Ext h h') : GrA h' w n m es := by
  obtain ⟨a, c, e, k⟩ := g
  refine ⟨a, c, e, fun i hi => ?_⟩
  obtain ⟨ad, e2, hc⟩ := k i hi
  exact ⟨ad, e2, fun j v hj => x.cell (hc j v hj)⟩
theorem GrA.one {h : H} {w : List Value} {n : Int} {m : Nat} {es : Nat → Ed} (g : GrA h w n m es) : w.length = 2 ∧ ∀ v ∈ w, v.oneCell' = true := by
  obtain ⟨a, c, rfl, _⟩ := g
  refine ⟨rfl, fun v hv => ?_⟩
  simp only [List.mem_cons, List.mem_nil_iff, or_false] at hv
  rcases hv with rfl | rfl <;> rfl

/-- The error of an edge among n nodes. -/
def badE (n : Int) (e : Ed) : Int :=
  if e.f < 0 ∨ e.t < 0 ∨ n ≤ e.f ∨ n ≤ e.t then 30 else if e.c < 0 ∨ 1048576 < e.c ∨ e.k < -1048576 ∨ 1048576 < e.k then 31 else 0
/-- The first error of the edges from i on: the number, the place. -/
def badFrom (n : Int) (es : Nat → Ed) (i : Nat) : Nat → Int × Int
  | 0 => (0, 0)
  | k + 1 => if badE n (es i) ≠ 0 then (badE n (es i), i) else badFrom n es (i + 1) k
/-- The fault of a graph. -/
def faultG (n : Int) (m : Nat) (es : Nat → Ed) : Int × Int := if n < 0 ∨ 1024 < n ∨ 4096 < m then (3, 0) else badFrom n es 0 m

end Go.Proofs.Ytdblngaacnpgmaa

namespace Go.Proofs.Ytdblngaacnpgmaa
open Go
set_option linter.unusedVariables false

theorem Bl.ed {h : H} {b : Nat} {e : Ed} (B : Bl h b e.vs) : hcell h ((bk b).add 0) = some (.int .i64 e.f) ∧ hcell h ((bk b).add 1) = some (.int .i64 e.t) ∧
    hcell h ((bk b).add 2) = some (.int .i64 e.c) ∧ hcell h ((bk b).add 3) = some (.int .i64 e.k) := ⟨B.ld rfl, B.ld rfl, B.ld rfl, B.ld rfl⟩

theorem glabel_T (h : H) (e : Ed) : T Try.prog F.graph_label [.agg ⟨e.vs⟩] h fun r h' =>
    r = .ret (.bool (decide ¬ (e.c < 0 ∨ 1048576 < e.c ∨ e.k < -1048576 ∨ 1048576 < e.k))) ∧ Ext h h' := by
  refine E_graph_label ?_
  unfold B_graph_label
  refine new_bl ?_
  intro b1 g hb x B
  refine ⟨_, B.ed.2.2.1, ifP_of (fun h1 => ?_) (fun h1 => ⟨?_, x⟩)⟩
  · have h1 := of_decide_eq_true h1
    refine ⟨_, B.ed.2.2.1, ifP_of (fun h2 => ?_) (fun h2 => ⟨?_, x⟩)⟩
    · have h2 := of_decide_eq_true h2
      refine ⟨_, B.ed.2.2.2, ifP_of (fun h3 => ?_) (fun h3 => ⟨?_, x⟩)⟩
      · have h3 := of_decide_eq_true h3
        refine ⟨_, B.ed.2.2.2, ?_, x⟩
        congr 2
        exact decide_eq_decide.2 (by omega)
      · have h3 := of_decide_eq_false h3
        rw [decide_eq_false (by omega)]
    · have h2 := of_decide_eq_false h2
      rw [decide_eq_false (by omega)]
  · have h1 := of_decide_eq_false h1
    rw [decide_eq_false (by omega)]

theorem badFrom_good {n : Int} {es : Nat → Ed} {i k : Nat} (h : badE n (es i) = 0) : badFrom n es i (k + 1) = badFrom n es (i + 1) k := by
  show (if badE n (es i) ≠ 0 then _ else _) = _
  rw [if_neg (fun k => k h)]
theorem badFrom_bad {n : Int} {es : Nat → Ed} {i k : Nat} (h : badE n (es i) ≠ 0) : badFrom n es i (k + 1) = (badE n (es i), (i : Int)) := by
  show (if badE n (es i) ≠ 0 then _ else _) = _
  rw [if_pos h]

end Go.Proofs.Ytdblngaacnpgmaa

namespace Go.Proofs.Ytdblngaacnpgmaa
open Go
set_option linter.unusedVariables false

section
variable {h : H} {w : List Value} {n : Int} {m : Nat} {es : Nat → Ed}

theorem Check_T (G : GrA h w n m es) : T Try.prog F.graph_Check [.agg ⟨w⟩] h fun r h' =>
    r = .ret (.agg ⟨[.int .i64 (faultG n m es).1, .int .i64 (faultG n m es).2]⟩) ∧ Ext h h' := by
  refine E_graph_Check ?_
  unfold B_graph_Check
  refine new_bl ?_
  intro b1 g hb x B
  refine new_bl ?_
  intro b3 g3 hb3 x3 B3
  have G' := G
  obtain ⟨a, c, rfl, hc⟩ := G
  have xh := x.trans' x3
  have B1 := B.ext x3
  have hb3h := x.new hb3
  have c3 : (n < 0 ∨ 1024 < n ∨ 4096 < m) → faultG n m es = (3, 0) := fun h => if_pos h
  have out : ∀ {q : H} {p : Int × Int}, Ext g3 q → (∃ z, z.length = 2 ∧ Bl q b3 z) → faultG n m es = p → stN q (bk b3) [.int .i64 p.1, .int .i64 p.2] 2 fun h8 => ldN h8 (bk b3) 2 fun x9 =>
      Res.ret (.agg ⟨x9⟩) = .ret (.agg ⟨[.int .i64 (faultG n m es).1, .int .i64 (faultG n m es).2]⟩) ∧ Ext h h8 := by
    rintro q p xq ⟨z, hz, Bz⟩ rfl
    refine Bz.stN rfl hz (by simp [Value.oneCell']) ?_
    intro q2 kp B2
    refine B2.ldN rfl ⟨rfl, (xh.trans' xq).of_kp kp hb3h⟩
  refine ⟨fun _ g2 => g3 = g2 ∧ ¬ (n < 0 ∨ 1024 < n ∨ 4096 < m), ?_, ?_⟩
  · refine ⟨_, B1.ld rfl, ifP_of (fun h1 => out (p := (3, 0)) (Ext.refl _) ⟨_, rfl, B3⟩ (c3 (.inl (of_decide_eq_true h1)))) (fun h1 => ?_)⟩
    refine ⟨_, B1.ld rfl, ifP_of (fun h2 => out (p := (3, 0)) (Ext.refl _) ⟨_, rfl, B3⟩ (c3 (.inr (.inl (of_decide_eq_true h2))))) (fun h2 => ?_)⟩
    refine ⟨_, B1.ld rfl, slcP_mk (ifP_of (fun h3 => out (p := (3, 0)) (Ext.refl _) ⟨_, rfl, B3⟩ (c3 (.inr (.inr (by have := of_decide_eq_true h3; omega))))) (fun h3 => ⟨rfl, ?_⟩))⟩
    have := of_decide_eq_false h1
    have := of_decide_eq_false h2
    have := of_decide_eq_false h3
    omega
  · rintro _ ⟨rfl, hn⟩
    have cf : faultG n m es = badFrom n es 0 m := if_neg hn
    refine ⟨_, B1.ld rfl, slcP_mk ?_⟩
    let I11 : (Int × Unit) → H → Nat → Prop := fun s g2 k => ∃ i : Nat, s.1 = i ∧ i ≤ m ∧ k = m - i ∧ Ext g3 g2 ∧ badFrom n es i (m - i) = badFrom n es 0 m
    refine ⟨fun s g2 => ∃ k, I11 s g2 k, rk I11, rk_wf I11, ⟨_, 0, rfl, by omega, rfl, Ext.refl g3, rfl⟩, ?_⟩
    intro s g2 hI
    obtain ⟨i, e1, hi, hk, xg, hf⟩ := mu_spec hI
    generalize hkk : mu I11 ((s, ()), g2) = k at *
    change s = (i : Int) at e1
    subst e1
    have Bg := B1.ext xg
    refine ifP_of (fun h1 => ?_) (fun h1 => ?_)
    · have him : i < m := by have := of_decide_eq_true h1; omega
      obtain ⟨ad, rfl, hcc⟩ := hc i him
      refine ⟨by omega, by omega, ?_⟩
      rw [Int.toNat_natCast]
      refine ⟨(es i).vs, rfl, fun j v hj => (xh.trans' xg).cell (hcc j v hj), ?_⟩
      refine new_bl_st rfl rfl (ed_one _) ?_
      intro b29 g31 hb29 x31 B29
      have x31' := xg.trans' x31
      have B1' := Bg.ext x31
      have Bz : ∃ z : List Value, z.length = 2 ∧ Bl g31 b3 z := ⟨_, rfl, B3.ext x31'⟩
      obtain ⟨j, hj⟩ : ∃ j, m - i = j + 1 := ⟨m - i - 1, by omega⟩
      have bad30 : ((es i).f < 0 ∨ (es i).t < 0 ∨ n ≤ (es i).f ∨ n ≤ (es i).t) → faultG n m es = (30, (i : Int)) := by
        intro hh
        have e30 : badE n (es i) = 30 := if_pos hh
        rw [cf, ← hf, hj, badFrom_bad (by omega), e30]
      refine ⟨_, B29.ed.1, ifP_of (fun h2 => out (p := (30, (i : Int))) x31' Bz (bad30 (.inl (of_decide_eq_true h2)))) (fun h2 => ?_)⟩
      refine ⟨_, B29.ed.1, _, B1'.ld rfl, ifP_of (fun h3 => out (p := (30, (i : Int))) x31' Bz (bad30 (.inr (.inr (.inl (of_decide_eq_true h3)))))) (fun h3 => ?_)⟩
      refine ⟨_, B29.ed.2.1, ifP_of (fun h4 => out (p := (30, (i : Int))) x31' Bz (bad30 (.inr (.inl (of_decide_eq_true h4))))) (fun h4 => ?_)⟩
      refine ⟨_, B29.ed.2.1, _, B1'.ld rfl, ifP_of (fun h5 => out (p := (30, (i : Int))) x31' Bz (bad30 (.inr (.inr (.inr (of_decide_eq_true h5)))))) (fun h5 => ?_)⟩
      have n30 : ¬ ((es i).f < 0 ∨ (es i).t < 0 ∨ n ≤ (es i).f ∨ n ≤ (es i).t) := by
        have := of_decide_eq_false h2
        have := of_decide_eq_false h3
        have := of_decide_eq_false h4
        have := of_decide_eq_false h5
        omega
      refine B29.ldN rfl ?_
      refine (glabel_T g31 (es i)).mono ?_
      rintro _ g48 ⟨rfl, x48⟩
      refine ⟨_, rfl, ifP_of (fun h6 => ?_) (fun h6 => ?_)⟩
      · refine out (p := (31, (i : Int))) (x31'.trans' x48) ⟨_, rfl, B3.ext (x31'.trans' x48)⟩ ?_
        have e31 : badE n (es i) = 31 := by
          unfold badE
          rw [if_neg n30, if_pos (by simpa using h6)]
        rw [cf, ← hf, hj, badFrom_bad (by omega), e31]
      · have e0 : badE n (es i) = 0 := by
          unfold badE
          rw [if_neg n30, if_neg (by simpa using h6)]
        rw [i64_inc (by omega)]
        refine mu_next (I := I11) (k := m - (i + 1)) ⟨i + 1, rfl, him, rfl, x31'.trans' x48, ?_⟩ (by rw [hkk, hk]; omega)
        rw [← hf, hj, badFrom_good e0]
        congr 1; omega
    · have : i = m := by have := of_decide_eq_false h1; omega
      subst this
      refine out (p := (0, 0)) xg ⟨_, rfl, B3.ext xg⟩ ?_
      rw [cf, ← hf, Nat.sub_self]
      rfl
end

end Go.Proofs.Ytdblngaacnpgmaa

namespace Go.Proofs.Ytdblngaacnpgmaa
open Go
set_option linter.unusedVariables false

/-- The error's number of a graph and a node. -/
def wrongC (n : Int) (m : Nat) (es : Nat → Ed) (s : Int) : Int := if (faultG n m es).1 = 0 then (if 0 ≤ s ∧ s < n then 0 else 30) else (faultG n m es).1
def endsC (n : Int) (m : Nat) (es : Nat → Ed) (s t : Int) : Int :=
  if wrongC n m es s = 0 then (if wrongC n m es t = 0 then (if s = t then 120 else 0) else wrongC n m es t) else wrongC n m es s
def wrong13 (n : Int) (m : Nat) (es : Nat → Ed) (s t k : Int) : Int := if endsC n m es s t = 0 then (if 1 ≤ k ∧ k ≤ 3 then 0 else 50) else endsC n m es s t

end Go.Proofs.Ytdblngaacnpgmaa

namespace Go.Proofs.Ytdblngaacnpgmaa
open Go
set_option linter.unusedVariables false
set_option linter.unusedSimpArgs false

abbrev Own := Nat → Nat
theorem oneP_mk {a : Option Addr} {l c : Nat} {K : Prop} (k : K) : oneP (.slice a l c) K := k
theorem oneP_ptr {a : Option Addr} {K : Prop} (k : K) : oneP (.pointer a) K := k
theorem ptrP_mk {a : Addr} {K : Addr → Prop} (k : K a) : ptrP (.pointer (some a)) K := k
/-- A new block gets an owner. -/
def own1 (own : Own) (b i : Nat) : Own := fun c => if c = b then i else own c
theorem own1_at {own : Own} {b i : Nat} : own1 own b i b = i := if_pos rfl
theorem own1_ne {own : Own} {b i c : Nat} (h : c ≠ b) : own1 own b i c = own c := if_neg h
/-- From h to h': only blocks whose owner is in M may have changed. -/
structure Fm (M : List Nat) (own : Own) (h : H) (own' : Own) (h' : H) : Prop where
  keep : ∀ b o, h b = some o → own b ∉ M → h' b = some o
  stay : ∀ b o, h b = some o → (∃ o', h' b = some o') ∧ own' b = own b
theorem Fm.refl {M : List Nat} {own : Own} {h : H} : Fm M own h own h := ⟨fun _ _ e _ => e, fun b o e => ⟨⟨o, e⟩, rfl⟩⟩
theorem Fm.trans {M : List Nat} {o1 o2 o3 : Own} {h1 h2 h3 : H} (a : Fm M o1 h1 o2 h2) (b : Fm M o2 h2 o3 h3) : Fm M o1 h1 o3 h3 := by
  refine ⟨fun c o e n => b.keep c o (a.keep c o e n) ?_, fun c o e => ?_⟩
  · rw [(a.stay c o e).2]; exact n
  · obtain ⟨⟨o', e'⟩, t⟩ := a.stay c o e
    obtain ⟨x, t'⟩ := b.stay c o' e'
    exact ⟨x, t'.trans t⟩
theorem Fm.mono {M M' : List Nat} {o1 o2 : Own} {h1 h2 : H} (a : Fm M o1 h1 o2 h2) (s : M ⊆ M') : Fm M' o1 h1 o2 h2 :=
  ⟨fun c o e n => a.keep c o e fun k => n (s k), a.stay⟩
theorem Fm.of_ext {M : List Nat} {own : Own} {h h' : H} (x : Ext h h') : Fm M own h own h' := ⟨fun b o e _ => x b o e, fun b o e => ⟨⟨o, x b o e⟩, rfl⟩⟩
theorem Fm.new {M : List Nat} {own : Own} {h h' : H} {b i : Nat} (x : Ext h h') (hb : h b = none) : Fm M own h (own1 own b i) h' :=
  ⟨fun b o e _ => x b o e, fun c o e => ⟨⟨o, x c o e⟩, own1_ne (by rintro rfl; rw [hb] at e; cases e)⟩⟩
theorem Fm.kp {own : Own} {h h' : H} {b i : Nat} (k : Kp b h h') (hb : own b = i) (ho : ∃ o, h' b = some o) : Fm [i] own h own h' := by
  refine ⟨fun c o e n => k c o ?_ e, fun c o e => ⟨?_, rfl⟩⟩
  · rintro rfl; rw [hb] at n; simp at n
  · by_cases hc : c = b
    · subst hc; exact ho
    · exact ⟨o, k c o hc e⟩
/-- What was there at first is there, with owner 0. -/
structure Bs (h0 : H) (own : Own) (h : H) : Prop where
  ext : Ext h0 h
  old : ∀ b o, h0 b = some o → own b = 0
theorem Bs.fm {h0 h h' : H} {own own' : Own} {M : List Nat} (B : Bs h0 own h) (F : Fm M own h own' h') (hM : 0 ∉ M) : Bs h0 own' h' := by
  refine ⟨fun b o e => F.keep b o (B.ext b o e) ?_, fun b o e => ?_⟩
  · rw [B.old b o e]; exact hM
  · rw [(F.stay b o (B.ext b o e)).2]; exact B.old b o e
theorem Bs.start {h : H} : Bs h (fun _ => 0) h := ⟨Ext.refl h, fun _ _ _ => rfl⟩

/-- The block b is the i-th owner's and holds vs. -/
structure B1 (own : Own) (h : H) (i b : Nat) (vs : List Value) : Prop where
  own_ : own b = i
  bl : Bl h b vs
theorem B1.fm {own own' : Own} {h h' : H} {i b : Nat} {vs : List Value} {M : List Nat} (B : B1 own h i b vs) (F : Fm M own h own' h') (hM : i ∉ M) : B1 own' h' i b vs := by
  obtain ⟨e, o, k⟩ := B
  exact ⟨(F.stay b _ k).2.trans e, o, F.keep b _ k (by rw [e]; exact hM)⟩
theorem B1.new {own : Own} {h : H} {i b : Nat} {vs : List Value} (B : Bl h b vs) : B1 (own1 own b i) h i b vs := ⟨own1_at, B⟩
theorem B1.ld {own : Own} {h : H} {i b j : Nat} {vs : List Value} {v : Value} (B : B1 own h i b vs) (hi : vs[j]? = some v) : hcell h ((bk b).add j) = some v := B.bl.ld hi
theorem B1.st {own : Own} {h : H} {i b j : Nat} {vs : List Value} {x : Value} {K : H → Prop} (B : B1 own h i b vs) (hj : j < vs.length)
    (k : ∀ g, Fm [i] own h own g → B1 own g i b (vs.set j x) → K g) : stC h ((bk b).add j) x K :=
  B.bl.stC hj fun g kp B' => k g (Fm.kp kp B.own_ (let ⟨e, k⟩ := B'; ⟨_, k⟩)) ⟨B.own_, B'⟩
theorem B1.ldN {own : Own} {h : H} {i b n : Nat} {vs : List Value} {K : List Value → Prop} (B : B1 own h i b vs) (hn : vs.length = n) (k : K vs) : ldN h (bk b) n K := B.bl.ldN hn k
theorem B1.stN {own : Own} {h : H} {i b n : Nat} {vs ws : List Value} {K : H → Prop} (B : B1 own h i b vs) (hn : ws.length = n) (hv : vs.length = n) (one : ∀ v ∈ ws, v.oneCell' = true)
    (k : ∀ g, Fm [i] own h own g → B1 own g i b ws → K g) : stN h (bk b) ws n K :=
  B.bl.stN hn hv one fun g kp B' => k g (Fm.kp kp B.own_ (let ⟨e, k⟩ := B'; ⟨_, k⟩)) ⟨B.own_, B'⟩

/-- The slice v holds vs; its block is the i-th owner's. -/
def S1 (own : Own) (h : H) (i : Nat) (v : Value) (vs : List Value) : Prop :=
  (vs = [] ∧ v = .slice none 0 0) ∨ ∃ b, own b = i ∧ Sl h b v vs
theorem S1.nil {own : Own} {h : H} {i : Nat} : S1 own h i (.slice none 0 0) [] := .inl ⟨rfl, rfl⟩
theorem S1.fm {own own' : Own} {h h' : H} {i : Nat} {v : Value} {vs : List Value} {M : List Nat} (s : S1 own h i v vs) (F : Fm M own h own' h') (hM : i ∉ M) : S1 own' h' i v vs := by
  rcases s with s | ⟨b, hb, c, e, zs, h1, h2, h3⟩
  · exact .inl s
  · exact .inr ⟨b, (F.stay b _ h2).2.trans hb, c, e, zs, h1, F.keep b _ h2 (by rw [hb]; exact hM), h3⟩
theorem S1.shape {own : Own} {h : H} {i : Nat} {v : Value} {vs : List Value} (s : S1 own h i v vs) : ∃ a c, v = .slice a vs.length c := by
  rcases s with ⟨rfl, rfl⟩ | ⟨b, hb, c, e, zs, h1, h2, h3⟩
  · exact ⟨_, _, rfl⟩
  · exact ⟨_, _, h1⟩
theorem S1.isS {own : Own} {h : H} {i : Nat} {v : Value} {vs : List Value} (s : S1 own h i v vs) : ∃ a l c, v = .slice a l c := let ⟨a, c, e⟩ := s.shape; ⟨a, _, c, e⟩
theorem S1.one {own : Own} {h : H} {i : Nat} {v : Value} {vs : List Value} (s : S1 own h i v vs) : v.oneCell' = true := slc_one s.isS
theorem S1.len {own : Own} {h : H} {i l : Nat} {v : Value} {vs : List Value} {K : Option Addr → Nat → Nat → Prop} (s : S1 own h i v vs) (hl : vs.length = l) (k : ∀ a c, K a l c) : slcP v K := by
  obtain ⟨a, c, rfl⟩ := s.shape
  rw [hl]; exact k _ _
theorem S1.at {own : Own} {h : H} {i j : Nat} {v x : Value} {vs : List Value} {K : Addr → Prop} (s : S1 own h i v vs) (hj : vs[j]? = some x)
    (k : ∀ a : Addr, hcell h a = some x → K a) : ixS v (j : Int) 1 K := by
  have hl := (List.getElem?_eq_some_iff.1 hj).1
  rcases s with ⟨rfl, rfl⟩ | ⟨b, hb, s⟩
  · simp at hl
  · have g := s.get hj
    obtain ⟨c, e, zs, h1, h2, h3⟩ := s
    subst h1
    exact nx hl (k _ g)
theorem S1.rd {own : Own} {h : H} {i j : Nat} {v : Value} {x : Int} {vs : List Value} {K : Int → Prop} (s : S1 own h i v vs) (hj : vs[j]? = some (.int .i64 x))
    (k : K x) : ixS v (j : Int) 1 fun a => ldI h a .i64 K := s.at hj fun a e => ⟨x, e, k⟩
theorem S1.rdI {own : Own} {h : H} {i j n : Nat} {v : Value} {f : Nat → Int} {K : Int → Prop} (s : S1 own h i v (ints n f)) (hj : j < n) (k : K (f j)) :
    ixS v (j : Int) 1 fun a => ldI h a .i64 K := s.rd (ints_get hj) k
theorem S1.rdV {own : Own} {h : H} {i j n : Nat} {v : Value} {f : Nat → Value} {K : Value → Prop} (s : S1 own h i v (va n f)) (hj : j < n) (k : K (f j)) :
    ixS v (j : Int) 1 fun a => ldV h a K := s.at (va_get hj) fun a e => ⟨_, e, k⟩
theorem S1.ix {own : Own} {h : H} {i j : Nat} {v x : Value} {vs : List Value} {K : Addr → Prop} (s : S1 own h i v vs) (hj : j < vs.length)
    (k : ∀ b, K ((bk b).add (j * 1))) : ixS v (j : Int) 1 K := by
  rcases s with ⟨rfl, rfl⟩ | ⟨b, hb, s⟩
  · simp at hj
  · obtain ⟨c, e, zs, h1, h2, h3⟩ := s
    subst h1
    exact nx hj (k _)
theorem S1.set {own : Own} {h : H} {i j : Nat} {v x : Value} {vs : List Value} {K : H → Prop} (s : S1 own h i v vs) (hj : j < vs.length)
    (k : ∀ g, Fm [i] own h own g → S1 own g i v (vs.set j x) → K g) : ixS v (j : Int) 1 fun a => stC h a x K := by
  rcases s with ⟨rfl, rfl⟩ | ⟨b, hb, s⟩
  · simp at hj
  · obtain ⟨c, e, zs, h1, h2, h3⟩ := s
    subst h1
    refine nx hj ?_
    rw [bk_add]
    have e2 : hset h ⟨b, j * 1, none⟩ [x] b = some (.cells ⟨vs.set j x ++ zs⟩ e (0, 0)) := by
      unfold hset
      rw [if_pos rfl, h2]
      simp only [Option.map_some, setR, Nat.mul_one]
      rw [List.setIfInBounds_toArray, List.set_append_left _ _ hj]
    refine ⟨⟨_, _, h2, rfl, ?_⟩, k _ (Fm.kp (b := b) ?_ hb ⟨_, e2⟩) (.inr ⟨b, hb, c, e, zs, by rw [List.length_set], e2, by rw [List.length_set]; exact h3⟩)⟩
    · simp only [List.size_toArray, List.length_append]; omega
    · intro j o hj hh
      unfold hset
      rw [if_neg hj]; exact hh
theorem S1.setI {own : Own} {h : H} {i j n : Nat} {v : Value} {f : Nat → Int} {x : Int} {K : H → Prop} (s : S1 own h i v (ints n f)) (hj : j < n)
    (k : ∀ g, Fm [i] own h own g → S1 own g i v (ints n (upd f j x)) → K g) : ixS v (j : Int) 1 fun a => stC h a (.int .i64 x) K :=
  s.set (by rw [ints_length]; exact hj) fun g F s' => k g F (by rw [← ints_set]; exact s')
theorem S1.setV {own : Own} {h : H} {i j n : Nat} {v x : Value} {f : Nat → Value} {K : H → Prop} (s : S1 own h i v (va n f)) (hj : j < n)
    (k : ∀ g, Fm [i] own h own g → S1 own g i v (va n (updV f j x)) → K g) : ixS v (j : Int) 1 fun a => stC h a x K :=
  s.set (by rw [va_length]; exact hj) fun g F s' => k g F (by rw [← va_set]; exact s')

/-- What is appended to a slice. -/
theorem S1.push {own : Own} {h : H} {i l ex : Nat} {p z : Value} {vs new : List Value} {K : Nat → H → Value → H → Prop} {e bytes : Nat} (s : S1 own h i p vs)
    (hnl : new.length = l) (one : ∀ v ∈ new, v.oneCell' = true) (hne : new ≠ []) (hb : bytes ≤ 8) (hl : vs.length + l < 1000000)
    (k : ∀ bx hm p' own' h', h bx = none → Ext h hm → Fm [i] own h own' h' → S1 own' h' i p' (vs ++ new) → K bx hm p' h') :
    newP h (.cells ⟨new⟩ ex (0, 0)) fun bx hm => apP p (.slice (some (bk bx)) l l) hm 1 e bytes [z] (K bx hm) := by
  subst hnl
  refine new_put ?_
  intro bx hm hbx xm hx
  have hsrc : srcP hm (some (bk bx)) (new.length * 1) new := by
    refine ⟨by rw [Nat.mul_one], fun j v hj => ?_⟩
    rw [bk_add, hcell_at hx, List.getElem?_toArray]
    exact hj
  have hzl : ∀ m, (zrep [z] m).length = m := by intro m; simp [zrep]
  have npos : 0 < new.length := List.length_pos_iff.2 hne
  rcases s with ⟨rfl, rfl⟩ | ⟨b, hob, c, eb, zs, rfl, h2, h3⟩
  · refine ⟨new, hsrc, fun hle => by omega, fun hlt => ⟨?_, [], ⟨rfl, rfl⟩, fun cap hcap => ?_⟩⟩
    · have := nextcap_le hlt
      calc _ ≤ (2 * (0 + new.length) + 192) * bytes := Nat.mul_le_mul_right _ this
        _ ≤ (2 * (0 + new.length) + 192) * 8 := Nat.mul_le_mul_left _ hb
        _ ≤ _ := by simp at hl; omega
    · refine new_put ?_
      intro b g hbn x e1
      rw [Nat.zero_add] at e1 hcap ⊢
      refine k bx hm _ (own1 own b i) g hbx xm (Fm.new (xm.trans' x) (xm.new hbn)) (.inr ⟨b, own1_at, cap, e, zrep [z] (cap - new.length), rfl, by rw [e1], ?_⟩)
      rw [hzl]; simp; omega
  · have h2m := xm _ _ h2
    refine ⟨new, hsrc, fun hle => ⟨fun _ => ?_, one, ?_⟩, fun hlt => ⟨?_, vs, ⟨by rw [Nat.mul_one], ?_⟩, fun cap hcap => ?_⟩⟩
    · rw [bk_add]
      refine ⟨_, _, h2m, rfl, ?_⟩
      simp only [List.size_toArray, List.length_append]
      omega
    · rw [bk_add]
      have e2 : hset hm ⟨b, vs.length * 1, none⟩ new b = some (.cells ⟨vs ++ new ++ zs.drop new.length⟩ eb (0, 0)) := by
        unfold hset
        rw [if_pos rfl, h2m]
        simp only [Option.map_some, Nat.mul_one]
        rw [setR_list _ _ _ (by simp; omega)]
        simp [List.take_append, List.drop_append]
      refine k bx hm _ own _ hbx xm ((Fm.of_ext xm).trans (Fm.kp (b := b) ?_ hob ⟨_, e2⟩)) (.inr ⟨b, hob, c, eb, zs.drop new.length, by simp, e2, by simp; omega⟩)
      intro j o hj hh
      unfold hset
      rw [if_neg hj]; exact hh
    · have := nextcap_le hlt
      calc _ ≤ (2 * (vs.length + new.length) + 192) * bytes := Nat.mul_le_mul_right _ this
        _ ≤ (2 * (vs.length + new.length) + 192) * 8 := Nat.mul_le_mul_left _ hb
        _ ≤ _ := by omega
    · intro j v hj
      rw [bk_add, hcell_at h2m, List.getElem?_toArray]
      have := (List.getElem?_eq_some_iff.1 hj).1
      rw [List.getElem?_append_left this]
      exact hj
    · refine new_put ?_
      intro b' g hbn x e1
      refine k bx hm _ (own1 own b' i) g hbx xm (Fm.new (xm.trans' x) (xm.new hbn)) (.inr ⟨b', own1_at, cap, e, zrep [z] (cap - (vs.length + new.length)), by simp, by rw [e1], ?_⟩)
      rw [hzl]; simp; omega
/-- n cells of the same. -/
theorem zrep_one (z : Value) (n : Nat) : zrep [z] n = va n fun _ => z := by
  unfold zrep va
  induction n with
  | zero => rfl
  | succ n ih => rw [List.replicate_succ', List.range_succ, List.flatten_append, ih, List.map_append]; rfl
theorem mk_S1 {h : H} {n bytes e : Nat} {z : Value} {K : Nat → H → Prop} (i : Nat) (hn : n ≤ 1000000) (hb : bytes ≤ 64)
    (k : ∀ b g, h b = none → Ext h g → (∀ own, S1 (own1 own b i) g i (.slice (some (bk b)) n n) (va n fun _ => z)) → K b g) : mkS (n : Int) (n : Int) bytes [z] e h K := by
  refine ⟨by omega, Int.le_refl _, ?_, by omega, ?_⟩
  · have : n * bytes ≤ 1000000 * 64 := Nat.mul_le_mul hn hb
    have e : ((n : Int) * bytes) = ((n * bytes : Nat) : Int) := by simp
    rw [e]; omega
  · refine new_put ?_
    intro b g hb x e1
    refine k b g hb x fun own => .inr ⟨b, own1_at, n, e, [], by rw [va_length], ?_, by rw [va_length]; rfl⟩
    rw [e1, Int.toNat_natCast, zrep_one, List.append_nil]
theorem mk_ints {h : H} {n bytes e : Nat} {K : Nat → H → Prop} (i : Nat) (hn : n ≤ 1000000) (hb : bytes ≤ 64)
    (k : ∀ b g, h b = none → Ext h g → (∀ own, S1 (own1 own b i) g i (.slice (some (bk b)) n n) (ints n fun _ => 0)) → K b g) : mkS (n : Int) (n : Int) bytes [.int .i64 0] e h K :=
  mk_S1 i hn hb k

def bools (n : Nat) (f : Nat → Bool) : List Value := va n fun i => .bool (f i)
def updB (f : Nat → Bool) (i : Nat) (x : Bool) : Nat → Bool := fun j => if j = i then x else f j
theorem bools_length (n : Nat) (f : Nat → Bool) : (bools n f).length = n := va_length _ _
theorem S1.rdB {own : Own} {h : H} {i j n : Nat} {v : Value} {f : Nat → Bool} {K : Bool → Prop} (s : S1 own h i v (bools n f)) (hj : j < n) (k : K (f j)) :
    ixS v (j : Int) 1 fun a => ldB h a K := s.at (va_get hj) fun a e => ⟨_, e, k⟩
theorem S1.setB {own : Own} {h : H} {i j n : Nat} {v : Value} {f : Nat → Bool} {x : Bool} {K : H → Prop} (s : S1 own h i v (bools n f)) (hj : j < n)
    (k : ∀ g, Fm [i] own h own g → S1 own g i v (bools n (updB f j x)) → K g) : ixS v (j : Int) 1 fun a => stC h a (.bool x) K :=
  S1.setV s hj fun g F s' => k g F (by
    have : updV (fun i => Value.bool (f i)) j (.bool x) = fun i => .bool (updB f j x i) := by
      funext l; unfold updV updB; split <;> rfl
    rw [this] at s'; exact s')
theorem mk_bools {h : H} {n bytes e : Nat} {K : Nat → H → Prop} (i : Nat) (hn : n ≤ 1000000) (hb : bytes ≤ 64)
    (k : ∀ b g, h b = none → Ext h g → (∀ own, S1 (own1 own b i) g i (.slice (some (bk b)) n n) (bools n fun _ => false)) → K b g) : mkS (n : Int) (n : Int) bytes [.bool false] e h K :=
  mk_S1 i hn hb k
theorem S1.ext {own : Own} {h h' : H} {i : Nat} {v : Value} {vs : List Value} (s : S1 own h i v vs) (x : Ext h h') : S1 own h' i v vs := s.fm (M := []) (Fm.of_ext x) (by simp)
theorem B1.ext {own : Own} {h h' : H} {i b : Nat} {vs : List Value} (s : B1 own h i b vs) (x : Ext h h') : B1 own h' i b vs := s.fm (M := []) (Fm.of_ext x) (by simp)
theorem Bs.ext_ {h0 h h' : H} {own : Own} (B : Bs h0 own h) (x : Ext h h') : Bs h0 own h' := ⟨B.ext.trans' x, B.old⟩
theorem Bs.new {h0 h h' : H} {own : Own} {b i : Nat} (B : Bs h0 own h) (x : Ext h h') (hb : h b = none) : Bs h0 (own1 own b i) h' := B.fm (M := []) (Fm.new x hb) (by simp)
theorem S1.new {own : Own} {h h' : H} {i j b : Nat} {v : Value} {vs : List Value} (s : S1 own h i v vs) (x : Ext h h') (hb : h b = none) : S1 (own1 own b j) h' i v vs := s.fm (M := []) (Fm.new x hb) (by simp)
theorem B1.newo {own : Own} {h h' : H} {i j b c : Nat} {vs : List Value} (s : B1 own h i c vs) (x : Ext h h') (hb : h b = none) : B1 (own1 own b j) h' i c vs := s.fm (M := []) (Fm.new x hb) (by simp)
theorem Bs.nw {h0 h h' : H} {own : Own} {b j : Nat} (B : Bs h0 own h) (x : Ext h h') (hb : h b = none) : Bs h0 (own1 own b j) h' := B.new x hb
theorem S1.nw {own : Own} {h h' : H} {i j b : Nat} {v : Value} {vs : List Value} (s : S1 own h i v vs) (x : Ext h h') (hb : h b = none) : S1 (own1 own b j) h' i v vs := s.new x hb
theorem B1.nw {own : Own} {h h' : H} {i j b c : Nat} {vs : List Value} (s : B1 own h i c vs) (x : Ext h h') (hb : h b = none) : B1 (own1 own b j) h' i c vs := s.newo x hb
theorem S1.sl {own : Own} {h : H} {i b l c : Nat} {vs : List Value} (s : S1 own h i (.slice (some (bk b)) l c) vs) : Sl h b (.slice (some (bk b)) l c) vs ∧ own b = i := by
  rcases s with ⟨_, e⟩ | ⟨b', hb, s⟩
  · cases e
  · have s' := s
    obtain ⟨c', e, zs, h1, h2, h3⟩ := s
    simp only [Value.slice.injEq, Option.some.injEq, bk, Addr.mk.injEq] at h1
    obtain ⟨⟨rfl, _⟩, _⟩ := h1
    exact ⟨s', hb⟩
theorem S1.of {h : H} {i b : Nat} {v : Value} {vs : List Value} (s : Sl h b v vs) (own : Own) : S1 (own1 own b i) h i v vs := .inr ⟨b, own1_at, s⟩

end Go.Proofs.Ytdblngaacnpgmaa

namespace Go.Proofs.Ytdblngaacnpgmaa
open Go
open Classical
set_option linter.unusedVariables false

def sumN : Nat → (Nat → Int) → Int
  | 0, _ => 0
  | k + 1, f => sumN k f + f k
theorem sumN_congr {f g : Nat → Int} : ∀ {k : Nat}, (∀ i, i < k → f i = g i) → sumN k f = sumN k g
  | 0, _ => rfl
  | k + 1, h => by
    show sumN k f + f k = sumN k g + g k
    rw [sumN_congr fun i hi => h i (by omega), h k (by omega)]
theorem sumN_add {f g : Nat → Int} : ∀ {k : Nat}, sumN k (fun i => f i + g i) = sumN k f + sumN k g
  | 0 => rfl
  | k + 1 => by
    show sumN k (fun i => f i + g i) + (f k + g k) = sumN k f + f k + (sumN k g + g k)
    rw [sumN_add]; omega
theorem sumN_sub {f g : Nat → Int} : ∀ {k : Nat}, sumN k (fun i => f i - g i) = sumN k f - sumN k g
  | 0 => rfl
  | k + 1 => by
    show sumN k (fun i => f i - g i) + (f k - g k) = sumN k f + f k - (sumN k g + g k)
    rw [sumN_sub]; omega
theorem sumN_mul {c : Int} {f : Nat → Int} : ∀ {k : Nat}, sumN k (fun i => c * f i) = c * sumN k f
  | 0 => by simp [sumN]
  | k + 1 => by
    show sumN k (fun i => c * f i) + c * f k = c * (sumN k f + f k)
    rw [sumN_mul, Int.mul_add]
theorem sumN_zero {f : Nat → Int} : ∀ {k : Nat}, (∀ i, i < k → f i = 0) → sumN k f = 0
  | 0, _ => rfl
  | k + 1, h => by
    show sumN k f + f k = 0
    rw [sumN_zero fun i hi => h i (by omega), h k (by omega)]; rfl
theorem sumN_le {f g : Nat → Int} : ∀ {k : Nat}, (∀ i, i < k → f i ≤ g i) → sumN k f ≤ sumN k g
  | 0, _ => Int.le_refl _
  | k + 1, h => by
    show sumN k f + f k ≤ sumN k g + g k
    have := sumN_le (k := k) fun i hi => h i (by omega)
    have := h k (by omega)
    omega
theorem sumN_nonneg {f : Nat → Int} {k : Nat} (h : ∀ i, i < k → 0 ≤ f i) : 0 ≤ sumN k f := by
  have := sumN_le (f := fun _ => 0) (g := f) h
  rwa [sumN_zero fun _ _ => rfl] at this
theorem sumN_const {c : Int} : ∀ {k : Nat}, sumN k (fun _ => c) = k * c
  | 0 => by simp [sumN]
  | k + 1 => by
    show sumN k (fun _ => c) + c = _
    rw [sumN_const, Int.natCast_add, Int.add_mul]; simp
theorem sumN_bd {c : Int} {f : Nat → Int} {k : Nat} (h : ∀ i, i < k → f i ≤ c) : sumN k f ≤ k * c := by
  rw [← sumN_const]; exact sumN_le h
/-- All are 0 if none is below 0 and the sum is not above 0. -/
theorem sumN_all0 {f : Nat → Int} : ∀ {k : Nat}, (∀ i, i < k → 0 ≤ f i) → sumN k f ≤ 0 → ∀ i, i < k → f i = 0
  | 0, _, _ => fun i hi => by omega
  | k + 1, h, h0 => by
    have h0 : sumN k f + f k ≤ 0 := h0
    have a := sumN_nonneg (k := k) fun i hi => h i (by omega)
    have b := h k (by omega)
    intro i hi
    by_cases e : i = k
    · subst e; omega
    · exact sumN_all0 (k := k) (fun i hi => h i (by omega)) (by omega) i (by omega)
theorem sumN_mem {f : Nat → Int} {k i : Nat} (h : ∀ i, i < k → 0 ≤ f i) (hi : i < k) : f i ≤ sumN k f := by
  induction k with
  | zero => omega
  | succ k ih =>
    show f i ≤ sumN k f + f k
    have a := sumN_nonneg (k := k) fun i hi => h i (by omega)
    have b := h k (by omega)
    by_cases e : i = k
    · subst e; omega
    · have := ih (fun i hi => h i (by omega)) (by omega); omega
theorem sumN_swap {f : Nat → Nat → Int} {b : Nat} : ∀ {a : Nat}, sumN a (fun i => sumN b fun j => f i j) = sumN b fun j => sumN a fun i => f i j
  | 0 => (sumN_zero fun _ _ => rfl).symm
  | a + 1 => by
    show sumN a (fun i => sumN b fun j => f i j) + sumN b (fun j => f a j) = _
    rw [sumN_swap, ← sumN_add]; rfl
theorem sumN_pt {x : Int} {j : Nat} : ∀ {k : Nat}, sumN k (fun i => if j = i then x else 0) = if j < k then x else 0
  | 0 => rfl
  | k + 1 => by
    show sumN k (fun i => if j = i then x else 0) + (if j = k then x else 0) = _
    rw [sumN_pt]
    by_cases h1 : j < k
    · rw [if_pos h1, if_neg (by omega), if_pos (by omega)]; omega
    · by_cases h2 : j = k
      · rw [if_neg h1, if_pos h2, if_pos (by omega)]; omega
      · rw [if_neg h1, if_neg h2, if_neg (by omega)]; rfl
theorem sumN_ptf {f : Nat → Int} {j k : Nat} (hj : j < k) : sumN k (fun i => if j = i then f i else 0) = f j := by
  have : sumN k (fun i => if j = i then f i else 0) = sumN k (fun i => if j = i then f j else 0) := sumN_congr fun i _ => by
    by_cases e : j = i
    · subst e; rfl
    · rw [if_neg e, if_neg e]
  rw [this, sumN_pt, if_pos hj]
theorem sumN_upd {f : Nat → Int} {i k : Nat} {x : Int} (hi : i < k) : sumN k (upd f i x) = sumN k f - f i + x := by
  have : sumN k (upd f i x) = sumN k (fun j => f j + (if i = j then x - f i else 0)) := sumN_congr fun j _ => by
    unfold upd
    by_cases e : j = i
    · subst e; rw [if_pos rfl, if_pos rfl]; omega
    · rw [if_neg e, if_neg (fun h => e h.symm)]; omega
  rw [this, sumN_add, sumN_pt, if_pos hi]; omega
/-- How much more goes out of a node than comes into it. -/
def OutF (m : Nat) (fr to : Nat → Nat) (f : Nat → Int) (v : Nat) : Int := sumN m fun i => (if fr i = v then f i else 0) - (if to i = v then f i else 0)
structure FlowP (n m : Nat) (fr to : Nat → Nat) (cap : Nat → Int) (s t : Nat) (f : Nat → Int) : Prop where
  cp : ∀ i, i < m → 0 ≤ f i ∧ f i ≤ cap i
  cons : ∀ v, v < n → v ≠ s → v ≠ t → OutF m fr to f v = 0
/-- A step along which more can go. -/
def RsS (m : Nat) (fr to : Nat → Nat) (cap f : Nat → Int) (u v : Nat) : Prop :=
  ∃ i, i < m ∧ ((fr i = u ∧ to i = v ∧ f i < cap i) ∨ (to i = u ∧ fr i = v ∧ 0 < f i))
inductive Rch (R : Nat → Nat → Prop) (s : Nat) : Nat → Prop
  | refl : Rch R s s
  | step {u v : Nat} : Rch R s u → R u v → Rch R s v
theorem Rch.closed {R : Nat → Nat → Prop} {s v : Nat} (r : Rch R s v) {C : Nat → Prop} (hs : C s) (hc : ∀ u v, C u → R u v → C v) : C v := by
  induction r with
  | refl => exact hs
  | step _ h ih => exact hc _ _ ih h
theorem Rch.trans {R : Nat → Nat → Prop} {s u v : Nat} (a : Rch R s u) (b : Rch R u v) : Rch R s v := by
  induction b with
  | refl => exact a
  | step _ h ih => exact ih.step h
theorem Rch.head {R : Nat → Nat → Prop} {s u v : Nat} (a : R s u) (b : Rch R u v) : Rch R s v := (Rch.refl.step a).trans b
theorem Rch.mono {R R' : Nat → Nat → Prop} {s v : Nat} (h : ∀ u v, R u v → R' u v) (r : Rch R s v) : Rch R' s v := by
  induction r with
  | refl => exact .refl
  | step _ k ih => exact ih.step (h _ _ k)
/-- The capacity of what leaves a side. -/
noncomputable def cutC (m : Nat) (fr to : Nat → Nat) (cap : Nat → Int) (C : Nat → Prop) : Int := sumN m fun i => if C (fr i) ∧ ¬ C (to i) then cap i else 0

section
variable {n m : Nat} {fr to : Nat → Nat} {cap f g : Nat → Int} {s t : Nat}

theorem out_side (hn : ∀ i, i < m → fr i < n ∧ to i < n) (C : Nat → Prop) :
    sumN n (fun v => if C v then OutF m fr to f v else 0) = sumN m fun i => (if C (fr i) then f i else 0) - (if C (to i) then f i else 0) := by
  have e1 : sumN n (fun v => if C v then OutF m fr to f v else 0) =
      sumN n fun v => sumN m fun i => (if fr i = v then (if C (fr i) then f i else 0) else 0) - (if to i = v then (if C (to i) then f i else 0) else 0) := by
    refine sumN_congr fun v _ => ?_
    by_cases hc : C v
    · rw [if_pos hc]
      refine sumN_congr fun i _ => ?_
      by_cases h1 : fr i = v <;> by_cases h2 : to i = v <;> simp [h1, h2, hc]
    · rw [if_neg hc]
      refine (sumN_zero fun i _ => ?_).symm
      by_cases h1 : fr i = v <;> by_cases h2 : to i = v <;> simp [h1, h2, hc]
  rw [e1, sumN_swap]
  refine sumN_congr fun i hi => ?_
  have := hn i hi
  rw [sumN_sub, sumN_pt, sumN_pt, if_pos this.1, if_pos this.2]

/-- All that goes out of all nodes. -/
theorem out_all (hn : ∀ i, i < m → fr i < n ∧ to i < n) : sumN n (fun v => OutF m fr to f v) = 0 := by
  have := out_side (f := f) hn (fun _ => True)
  simp only [if_true] at this
  rw [this]
  exact sumN_zero fun i _ => by omega

/-- What a cut could still bear. -/
noncomputable def gapI (fr to : Nat → Nat) (cap f : Nat → Int) (C : Nat → Prop) (i : Nat) : Int :=
  if C (fr i) ∧ ¬ C (to i) then cap i - f i else if ¬ C (fr i) ∧ C (to i) then f i else 0
theorem FlowP.gap (F : FlowP n m fr to cap s t f) (hn : ∀ i, i < m → fr i < n ∧ to i < n) (hs : s < n) {C : Nat → Prop} (cs : C s) (ct : ¬ C t) :
    cutC m fr to cap C - OutF m fr to f s = sumN m (gapI fr to cap f C) := by
  have e1 : sumN n (fun v => if C v then OutF m fr to f v else 0) = OutF m fr to f s := by
    rw [← sumN_ptf (f := fun v => OutF m fr to f v) hs]
    refine sumN_congr fun v hv => ?_
    by_cases h1 : s = v
    · subst h1; rw [if_pos cs, if_pos rfl]
    · rw [if_neg h1]
      by_cases hc : C v
      · rw [if_pos hc]; exact F.cons v hv (fun h => h1 h.symm) (by rintro rfl; exact ct hc)
      · rw [if_neg hc]
  rw [out_side hn C] at e1
  rw [← e1]
  unfold cutC
  rw [← sumN_sub]
  refine sumN_congr fun i _ => ?_
  unfold gapI
  by_cases h1 : C (fr i) <;> by_cases h2 : C (to i) <;> simp [h1, h2]
theorem FlowP.gap0 (F : FlowP n m fr to cap s t f) (C : Nat → Prop) : ∀ i, i < m → 0 ≤ gapI fr to cap f C i := by
  intro i hi
  have := F.cp i hi
  unfold gapI
  by_cases h1 : C (fr i) <;> by_cases h2 : C (to i) <;> simp [h1, h2] <;> omega
theorem FlowP.le_cut (F : FlowP n m fr to cap s t f) (hn : ∀ i, i < m → fr i < n ∧ to i < n) (hs : s < n) {C : Nat → Prop} (cs : C s) (ct : ¬ C t) :
    OutF m fr to f s ≤ cutC m fr to cap C := by
  have := F.gap hn hs cs ct
  have := sumN_nonneg (F.gap0 C)
  omega
/-- A tight cut: full behind, empty before. -/
theorem FlowP.tight (F : FlowP n m fr to cap s t f) (hn : ∀ i, i < m → fr i < n ∧ to i < n) (hs : s < n) {C : Nat → Prop} (cs : C s) (ct : ¬ C t)
    (h : cutC m fr to cap C ≤ OutF m fr to f s) : ∀ i, i < m → (C (fr i) → ¬ C (to i) → f i = cap i) ∧ (¬ C (fr i) → C (to i) → f i = 0) := by
  have e := F.gap hn hs cs ct
  intro i hi
  have := sumN_all0 (F.gap0 C) (by omega) i hi
  unfold gapI at this
  constructor
  · intro h1 h2
    rw [if_pos ⟨h1, h2⟩] at this; omega
  · intro h1 h2
    rw [if_neg (fun h => h1 h.1), if_pos ⟨h1, h2⟩] at this; exact this
theorem FlowP.tight' (F : FlowP n m fr to cap s t f) (hn : ∀ i, i < m → fr i < n ∧ to i < n) (hs : s < n) {C : Nat → Prop} (cs : C s) (ct : ¬ C t)
    (h : ∀ u v, C u → RsS m fr to cap f u v → C v) : OutF m fr to f s = cutC m fr to cap C := by
  have e := F.gap hn hs cs ct
  have : sumN m (gapI fr to cap f C) = 0 := by
    refine sumN_zero fun i hi => ?_
    have := F.cp i hi
    unfold gapI
    by_cases h1 : C (fr i) ∧ ¬ C (to i)
    · rw [if_pos h1]
      by_cases k : f i < cap i
      · exact absurd (h _ _ h1.1 ⟨i, hi, .inl ⟨rfl, rfl, k⟩⟩) h1.2
      · omega
    · rw [if_neg h1]
      by_cases h2 : ¬ C (fr i) ∧ C (to i)
      · rw [if_pos h2]
        by_cases k : 0 < f i
        · exact absurd (h _ _ h2.2 ⟨i, hi, .inr ⟨rfl, rfl, k⟩⟩) h2.1
        · omega
      · rw [if_neg h2]
  omega

/-- A greatest flow: the sink cannot be reached in what it leaves. -/
structure MaxP (n m : Nat) (fr to : Nat → Nat) (cap : Nat → Int) (s t : Nat) (f : Nat → Int) : Prop where
  fl : FlowP n m fr to cap s t f
  nr : ¬ Rch (RsS m fr to cap f) s t
theorem MaxP.cut (F : MaxP n m fr to cap s t f) (hn : ∀ i, i < m → fr i < n ∧ to i < n) (hs : s < n) :
    OutF m fr to f s = cutC m fr to cap (Rch (RsS m fr to cap f) s) := F.fl.tight' hn hs .refl F.nr fun _ _ a b => a.step b
/-- Whatever cut is no greater than the flow holds all that can be reached. -/
theorem MaxP.sub (F : FlowP n m fr to cap s t f) (hn : ∀ i, i < m → fr i < n ∧ to i < n) (hs : s < n) {C : Nat → Prop} (cs : C s) (ct : ¬ C t)
    (h : cutC m fr to cap C ≤ OutF m fr to f s) {v : Nat} (r : Rch (RsS m fr to cap f) s v) : C v := by
  refine r.closed cs ?_
  rintro u w hu ⟨i, hi, ⟨rfl, rfl, k⟩ | ⟨rfl, rfl, k⟩⟩
  · apply Classical.byContradiction
    intro hw
    have := (F.tight hn hs cs ct h i hi).1 hu hw
    omega
  · apply Classical.byContradiction
    intro hw
    have := (F.tight hn hs cs ct h i hi).2 hw hu
    omega
theorem MaxP.uniq (F : MaxP n m fr to cap s t f) (G : MaxP n m fr to cap s t g) (hn : ∀ i, i < m → fr i < n ∧ to i < n) (hs : s < n) :
    OutF m fr to f s = OutF m fr to g s ∧ ∀ v, Rch (RsS m fr to cap f) s v ↔ Rch (RsS m fr to cap g) s v := by
  have c1 := F.cut hn hs
  have c2 := G.cut hn hs
  have l1 := F.fl.le_cut hn hs (C := Rch (RsS m fr to cap g) s) .refl G.nr
  have l2 := G.fl.le_cut hn hs (C := Rch (RsS m fr to cap f) s) .refl F.nr
  refine ⟨by omega, fun v => ⟨MaxP.sub F.fl hn hs .refl G.nr (by omega), MaxP.sub G.fl hn hs .refl F.nr (by omega)⟩⟩
end

end Go.Proofs.Ytdblngaacnpgmaa

namespace Go.Proofs.Ytdblngaacnpgmaa
open Go
set_option linter.unusedVariables false
set_option linter.unusedSimpArgs false

/-- The graph is right. -/
structure Gd (n m : Nat) (es : Nat → Ed) : Prop where
  n1 : n ≤ 1024
  m1 : m ≤ 4096
  f : ∀ i, i < m → ∃ v : Nat, (es i).f = v ∧ v < n
  t : ∀ i, i < m → ∃ v : Nat, (es i).t = v ∧ v < n
  c : ∀ i, i < m → 0 ≤ (es i).c ∧ (es i).c ≤ 1048576
  k : ∀ i, i < m → -1048576 ≤ (es i).k ∧ (es i).k ≤ 1048576
abbrev frE (es : Nat → Ed) (i : Nat) : Nat := (es i).f.toNat
abbrev toE (es : Nat → Ed) (i : Nat) : Nat := (es i).t.toNat
abbrev cpE (es : Nat → Ed) (i : Nat) : Int := (es i).c
theorem badFrom_0 {n : Int} {es : Nat → Ed} : ∀ {k i : Nat}, (badFrom n es i k).1 = 0 → ∀ j, i ≤ j → j < i + k → badE n (es j) = 0
  | 0, i, _, j, h1, h2 => by omega
  | k + 1, i, h, j, h1, h2 => by
    by_cases e : badE n (es i) = 0
    · rw [badFrom_good e] at h
      by_cases e2 : j = i
      · rw [e2]; exact e
      · exact badFrom_0 h j (by omega) (by omega)
    · rw [badFrom_bad e] at h
      exact absurd h e
theorem badFrom_of {n : Int} {es : Nat → Ed} : ∀ {k i : Nat}, (∀ j, i ≤ j → j < i + k → badE n (es j) = 0) → badFrom n es i k = (0, 0)
  | 0, i, _ => rfl
  | k + 1, i, h => by
    rw [badFrom_good (h i (by omega) (by omega))]
    exact badFrom_of fun j h1 h2 => h j (by omega) (by omega)
theorem Gd.of {n : Int} {m : Nat} {es : Nat → Ed} (h : (faultG n m es).1 = 0) : ∃ n' : Nat, n = n' ∧ Gd n' m es := by
  unfold faultG at h
  split at h
  · cases h
  · rename_i h1
    refine ⟨n.toNat, by omega, ?_⟩
    have key : ∀ i, i < m → badE n (es i) = 0 := fun i hi => badFrom_0 h i (by omega) (by omega)
    have key2 : ∀ i, i < m → ¬ ((es i).f < 0 ∨ (es i).t < 0 ∨ n ≤ (es i).f ∨ n ≤ (es i).t) ∧ ¬ ((es i).c < 0 ∨ 1048576 < (es i).c ∨ (es i).k < -1048576 ∨ 1048576 < (es i).k) := by
      intro i hi
      have := key i hi
      unfold badE at this
      split at this
      · cases this
      · split at this
        · cases this
        · exact ⟨by assumption, by assumption⟩
    refine ⟨by omega, by omega, fun i hi => ⟨(es i).f.toNat, ?_, ?_⟩, fun i hi => ⟨(es i).t.toNat, ?_, ?_⟩, fun i hi => ?_, fun i hi => ?_⟩ <;> (have := key2 i hi; omega)
theorem Gd.no {n : Nat} {m : Nat} {es : Nat → Ed} (g : Gd n m es) : faultG n m es = (0, 0) := by
  unfold faultG
  have := g.n1
  have := g.m1
  rw [if_neg (by omega)]
  refine badFrom_of fun j _ hj => ?_
  obtain ⟨v, e, hv⟩ := g.f j (by omega)
  obtain ⟨w, e2, hw⟩ := g.t j (by omega)
  have := g.c j (by omega)
  have := g.k j (by omega)
  unfold badE
  rw [if_neg (by omega), if_neg (by omega)]
theorem Gd.fr {n m : Nat} {es : Nat → Ed} (g : Gd n m es) {i : Nat} (hi : i < m) : (es i).f = (frE es i : Nat) ∧ frE es i < n := by
  obtain ⟨v, e, hv⟩ := g.f i hi
  unfold frE; omega
theorem Gd.to {n m : Nat} {es : Nat → Ed} (g : Gd n m es) {i : Nat} (hi : i < m) : (es i).t = (toE es i : Nat) ∧ toE es i < n := by
  obtain ⟨v, e, hv⟩ := g.t i hi
  unfold toE; omega
theorem Gd.ends {n m : Nat} {es : Nat → Ed} (g : Gd n m es) : ∀ i, i < m → frE es i < n ∧ toE es i < n := fun i hi => ⟨(g.fr hi).2, (g.to hi).2⟩

def tlA (fr to : Nat → Nat) (a : Nat) : Nat := if a % 2 = 0 then fr (a / 2) else to (a / 2)
def hdA (fr to : Nat → Nat) (a : Nat) : Nat := if a % 2 = 0 then to (a / 2) else fr (a / 2)
/-- The arc that takes back. -/
def prA (a : Nat) : Nat := if a % 2 = 0 then a + 1 else a - 1
/-- The arcs out of a node, of the first i edges. -/
def arcsL (fr to : Nat → Nat) : Nat → Nat → List Nat
  | 0, _ => []
  | i + 1, v => arcsL fr to i v ++ ((if fr i = v then [2 * i] else []) ++ (if to i = v then [2 * i + 1] else []))
def natV (l : List Nat) : List Value := l.map fun a => .int .i64 (a : Nat)
theorem mem_arcsL {fr to : Nat → Nat} {a v : Nat} : ∀ {i : Nat}, a ∈ arcsL fr to i v ↔ a < 2 * i ∧ tlA fr to a = v
  | 0 => by simp [arcsL]
  | i + 1 => by
    unfold arcsL
    rw [List.mem_append, mem_arcsL, List.mem_append]
    unfold tlA
    constructor
    · rintro (⟨h1, h2⟩ | h | h)
      · exact ⟨by omega, h2⟩
      · split at h
        · rename_i e
          have : a = 2 * i := by simpa using h
          subst this
          refine ⟨by omega, ?_⟩
          rw [if_pos (by omega), show 2 * i / 2 = i by omega]; exact e
        · simp at h
      · split at h
        · rename_i e
          have : a = 2 * i + 1 := by simpa using h
          subst this
          refine ⟨by omega, ?_⟩
          rw [if_neg (by omega), show (2 * i + 1) / 2 = i by omega]; exact e
        · simp at h
    · rintro ⟨h1, h2⟩
      by_cases e : a < 2 * i
      · exact .inl ⟨e, h2⟩
      · by_cases e2 : a = 2 * i
        · subst e2
          rw [if_pos (by omega), show 2 * i / 2 = i by omega] at h2
          exact .inr (.inl (by rw [if_pos h2]; simp))
        · have e3 : a = 2 * i + 1 := by omega
          subst e3
          rw [if_neg (by omega), show (2 * i + 1) / 2 = i by omega] at h2
          exact .inr (.inr (by rw [if_pos h2]; simp))
theorem natV_get {l : List Nat} {j : Nat} (hj : j < l.length) : (natV l)[j]? = some (.int .i64 ((l[j] : Nat) : Int)) := by
  unfold natV
  rw [List.getElem?_map, List.getElem?_eq_getElem hj]; rfl
theorem natV_length (l : List Nat) : (natV l).length = l.length := by simp [natV]
theorem prA_lt {a m : Nat} (h : a < 2 * m) : prA a < 2 * m := by unfold prA; split <;> omega
theorem prA_pr (a : Nat) : prA (prA a) = a := by
  unfold prA
  by_cases h : a % 2 = 0
  · rw [if_pos h, if_neg (by omega)]; omega
  · rw [if_neg h, if_pos (by omega)]; omega
theorem prA_ne (a : Nat) : prA a ≠ a := by unfold prA; split <;> omega
theorem tl_pr {fr to : Nat → Nat} (a : Nat) : tlA fr to (prA a) = hdA fr to a := by
  unfold tlA hdA prA
  by_cases h : a % 2 = 0
  · rw [if_pos h, if_pos h, if_neg (by omega), show (a + 1) / 2 = a / 2 by omega]
  · rw [if_neg h, if_neg h, if_pos (by omega), show (a - 1) / 2 = a / 2 by omega]
theorem hd_pr {fr to : Nat → Nat} (a : Nat) : hdA fr to (prA a) = tlA fr to a := by
  have := tl_pr (fr := fr) (to := to) (prA a)
  rw [prA_pr] at this; exact this.symm
theorem tl_lt {fr to : Nat → Nat} {n m : Nat} (hn : ∀ i, i < m → fr i < n ∧ to i < n) {a : Nat} (ha : a < 2 * m) : tlA fr to a < n := by
  have := hn (a / 2) (by omega)
  unfold tlA; split <;> omega
theorem hd_lt {fr to : Nat → Nat} {n m : Nat} (hn : ∀ i, i < m → fr i < n ∧ to i < n) {a : Nat} (ha : a < 2 * m) : hdA fr to a < n := by
  have := hn (a / 2) (by omega)
  unfold hdA; split <;> omega
end Go.Proofs.Ytdblngaacnpgmaa

namespace Go.Proofs.Ytdblngaacnpgmaa
open Go
set_option linter.unusedVariables false
set_option linter.unusedSimpArgs false

/-- What is on the edges. -/
def onR (room : Nat → Int) (i : Nat) : Int := room (2 * i + 1)
def sndR (room : Nat → Int) (a : Nat) (x : Int) : Nat → Int := upd (upd room a (room a - x)) (prA a) (room (prA a) + x)
theorem sndR_a {room : Nat → Int} {a : Nat} {x : Int} : sndR room a x a = room a - x := by
  unfold sndR upd; rw [if_neg (fun h => prA_ne a h.symm), if_pos rfl]
theorem sndR_p {room : Nat → Int} {a : Nat} {x : Int} : sndR room a x (prA a) = room (prA a) + x := by
  unfold sndR upd; rw [if_pos rfl]
theorem sndR_o {room : Nat → Int} {a b : Nat} {x : Int} (h1 : b ≠ a) (h2 : b ≠ prA a) : sndR room a x b = room b := by
  unfold sndR upd; rw [if_neg h2, if_neg h1]
/-- Rooms are right. -/
structure RmP (m : Nat) (cap : Nat → Int) (room : Nat → Int) : Prop where
  pos : ∀ a, a < 2 * m → 0 ≤ room a
  sum : ∀ i, i < m → room (2 * i) + room (2 * i + 1) = cap i
theorem RmP.pr {m : Nat} {cap room : Nat → Int} (R : RmP m cap room) {a : Nat} (ha : a < 2 * m) : room a + room (prA a) = cap (a / 2) := by
  have := R.sum (a / 2) (by omega)
  unfold prA
  split
  · have e : 2 * (a / 2) = a := by omega
    rw [e] at this; exact this
  · have e : 2 * (a / 2) = a - 1 := by omega
    rw [e, show a - 1 + 1 = a by omega] at this
    omega
theorem RmP.snd {m : Nat} {cap room : Nat → Int} (R : RmP m cap room) {a : Nat} {x : Int} (ha : a < 2 * m) (h0 : 0 ≤ x) (h1 : x ≤ room a) : RmP m cap (sndR room a x) := by
  have hp := prA_lt ha
  refine ⟨fun b hb => ?_, fun i hi => ?_⟩
  · by_cases e1 : b = a
    · subst e1; rw [sndR_a]; omega
    · by_cases e2 : b = prA a
      · subst e2; rw [sndR_p]; have := R.pos _ hp; omega
      · rw [sndR_o e1 e2]; exact R.pos b hb
  · have e0 := R.sum i hi
    by_cases e1 : 2 * i = a
    · subst e1
      have e2 : prA (2 * i) = 2 * i + 1 := by unfold prA; rw [if_pos (by omega)]
      have p := sndR_p (room := room) (a := 2 * i) (x := x)
      rw [e2] at p
      rw [sndR_a, p]; omega
    · by_cases e2 : 2 * i + 1 = a
      · subst e2
        have e3 : prA (2 * i + 1) = 2 * i := by unfold prA; rw [if_neg (by omega)]; omega
        have p := sndR_p (room := room) (a := 2 * i + 1) (x := x)
        rw [e3] at p
        rw [sndR_a, p]; omega
      · have : 2 * i ≠ prA a ∧ 2 * i + 1 ≠ prA a := by unfold prA; split <;> omega
        rw [sndR_o e1 this.1, sndR_o e2 this.2]; exact e0
/-- What goes along an arc goes from its tail to its head. -/
theorem out_snd {m : Nat} {fr to : Nat → Nat} {room : Nat → Int} {a : Nat} {x : Int} (ha : a < 2 * m) (v : Nat) :
    OutF m fr to (onR (sndR room a x)) v = OutF m fr to (onR room) v + (if tlA fr to a = v then x else 0) - (if hdA fr to a = v then x else 0) := by
  have e : ∀ i, i < m → ((if fr i = v then onR (sndR room a x) i else 0) - (if to i = v then onR (sndR room a x) i else 0)) =
      ((if fr i = v then onR room i else 0) - (if to i = v then onR room i else 0)) + (if a / 2 = i then (if tlA fr to a = v then x else 0) - (if hdA fr to a = v then x else 0) else 0) := by
    intro i hi
    unfold onR
    by_cases e1 : a / 2 = i
    · rw [if_pos e1]
      by_cases h2 : a % 2 = 0
      · have ea : a = 2 * i := by omega
        have p := sndR_p (room := room) (a := a) (x := x)
        have ep : prA a = 2 * i + 1 := by unfold prA; rw [if_pos h2, ea]
        rw [ep] at p
        rw [p]
        unfold tlA hdA
        rw [if_pos h2, if_pos h2, e1]
        split <;> split <;> omega
      · have ea : a = 2 * i + 1 := by omega
        have p := sndR_a (room := room) (a := a) (x := x)
        rw [← ea, p]
        unfold tlA hdA
        rw [if_neg h2, if_neg h2, e1]
        split <;> split <;> omega
    · rw [if_neg e1, sndR_o (by omega) (by unfold prA; split <;> omega)]; omega
  unfold OutF
  rw [sumN_congr e, sumN_add, sumN_pt, if_pos (by omega)]; omega
/-- The net in the heap: owners 1 (to), 2 (room), 3 (out), 4 (the struct), 20 + v (out of v). -/
structure Net (own : Own) (h : H) (bn n m : Nat) (fr to : Nat → Nat) (s t : Nat) (room : Nat → Int) : Prop where
  ex : ∃ vto vroom vout outs, B1 own h 4 bn [vto, vroom, vout, .int .i64 s, .int .i64 t] ∧ S1 own h 1 vto (ints (2 * m) fun a => (hdA fr to a : Nat)) ∧
    S1 own h 2 vroom (ints (2 * m) room) ∧ S1 own h 3 vout (va n outs) ∧ ∀ v, v < n → S1 own h (20 + v) (outs v) (natV (arcsL fr to m v))
section
variable {own own' : Own} {h h' : H} {bn n m s t : Nat} {fr to : Nat → Nat} {room room' : Nat → Int} {M : List Nat}
theorem Net.fm (N : Net own h bn n m fr to s t room) (F : Fm M own h own' h') (h1 : ∀ i, i ∈ M → 4 < i ∧ i < 20) : Net own' h' bn n m fr to s t room := by
  obtain ⟨a, b, c, d, k1, k2, k3, k4, k5⟩ := N.ex
  have no : ∀ j, (j ≤ 4 ∨ 20 ≤ j) → j ∉ M := fun j hj hm => by have := h1 j hm; omega
  exact ⟨a, b, c, d, k1.fm F (no _ (by omega)), k2.fm F (no _ (by omega)), k3.fm F (no _ (by omega)), k4.fm F (no _ (by omega)), fun v hv => (k5 v hv).fm F (no _ (by omega))⟩
theorem Net.ext (N : Net own h bn n m fr to s t room) (x : Ext h h') : Net own h' bn n m fr to s t room := N.fm (M := []) (Fm.of_ext x) (by simp)
theorem Net.new {b i : Nat} (N : Net own h bn n m fr to s t room) (x : Ext h h') (hb : h b = none) : Net (own1 own b i) h' bn n m fr to s t room := N.fm (M := []) (Fm.new x hb) (by simp)

end

end Go.Proofs.Ytdblngaacnpgmaa

namespace Go.Proofs.Ytdblngaacnpgmaa
open Go
set_option linter.unusedVariables false
set_option linter.unusedSimpArgs false

/-- Rooms at first. -/
def room0 (cap : Nat → Int) (a : Nat) : Int := if a % 2 = 0 then cap (a / 2) else 0
end Go.Proofs.Ytdblngaacnpgmaa

namespace Go.Proofs.Ytdblngaacnpgmaa
open Go
set_option linter.unusedVariables false
set_option linter.unusedSimpArgs false

/-- A step along an arc with room. -/
def ArS (m : Nat) (fr to : Nat → Nat) (room : Nat → Int) (u v : Nat) : Prop := ∃ a, a < 2 * m ∧ tlA fr to a = u ∧ hdA fr to a = v ∧ 0 < room a
def cntN (n : Nat) (lev : Nat → Int) : Int := sumN n fun v => if lev v < 0 then 1 else 0
theorem cntN_upd {n w : Nat} {lev : Nat → Int} {x : Int} (hw : w < n) (h : lev w < 0) (hx : 0 ≤ x) : cntN n (upd lev w x) = cntN n lev - 1 := by
  unfold cntN
  have e : (fun v => if upd lev w x v < 0 then (1 : Int) else 0) = upd (fun v => if lev v < 0 then 1 else 0) w 0 := by
    funext v
    unfold upd
    by_cases h1 : v = w
    · rw [if_pos h1, if_pos h1, if_neg (by omega)]
    · rw [if_neg h1, if_neg h1]
  rw [e, sumN_upd hw, if_pos h]; omega
/-- The queue holds all that have a level; those before i are done. -/
structure LvI (n m : Nat) (fr to : Nat → Nat) (room : Nat → Int) (s i : Nat) (Q : List Nat) (lev : Nat → Int) : Prop where
  src : lev s = 0
  lo : ∀ v, v < n → -1 ≤ lev v
  up : ∀ v, v < n → lev v < Q.length
  mem : ∀ v, v ∈ Q → v < n ∧ 0 ≤ lev v
  all : ∀ v, v < n → 0 ≤ lev v → v ∈ Q
  cnt : (Q.length : Int) + cntN n lev = n
  pred : ∀ v, v < n → 0 < lev v → ∃ a, a < 2 * m ∧ hdA fr to a = v ∧ 0 < room a ∧ lev (tlA fr to a) = lev v - 1
  one : ∀ v, v < n → lev v = 0 → v = s
  done : ∀ k, k < i → ∀ hk : k < Q.length, ∀ a, a < 2 * m → tlA fr to a = Q[k] → 0 < room a → 0 ≤ lev (hdA fr to a)
section
variable {n m i : Nat} {fr to : Nat → Nat} {room : Nat → Int} {s w : Nat} {Q : List Nat} {lev : Nat → Int}
theorem LvI.next (L : LvI n m fr to room s i Q lev) (hn : ∀ i, i < m → fr i < n ∧ to i < n) {a : Nat} (hi : i < Q.length) (ha : a < 2 * m) (ht : tlA fr to a = Q[i]) (hr : 0 < room a) (hl : lev (hdA fr to a) < 0) :
    LvI n m fr to room s i (Q ++ [hdA fr to a]) (upd lev (hdA fr to a) (lev Q[i] + 1)) := by
  have hw := hd_lt hn ha
  have hq := L.mem _ (List.getElem_mem hi)
  have hqb := L.up _ hq.1
  have ne : Q[i] ≠ hdA fr to a := by intro e; rw [e] at hq; omega
  have keep : ∀ v, 0 ≤ lev v → upd lev (hdA fr to a) (lev Q[i] + 1) v = lev v := by
    intro v hv
    unfold upd
    rw [if_neg]
    rintro rfl; omega
  have at_ : upd lev (hdA fr to a) (lev Q[i] + 1) (hdA fr to a) = lev Q[i] + 1 := if_pos rfl
  have grow : ∀ v, 0 ≤ lev v → 0 ≤ upd lev (hdA fr to a) (lev Q[i] + 1) v := fun v hv => by rw [keep v hv]; exact hv
  refine ⟨?_, ?_, ?_, ?_, ?_, ?_, ?_, ?_, ?_⟩
  · rw [keep _ (by rw [L.src]; omega)]; exact L.src
  · intro v hv
    have := L.lo v hv
    unfold upd; split <;> omega
  · intro v hv
    have := L.up v hv
    rw [List.length_append]
    unfold upd; split <;> simp <;> omega
  · intro v hv
    rcases List.mem_append.1 hv with h | h
    · exact ⟨(L.mem v h).1, grow v (L.mem v h).2⟩
    · have : v = hdA fr to a := by simpa using h
      subst this
      exact ⟨hw, by rw [at_]; omega⟩
  · intro v hv h
    rw [List.mem_append]
    by_cases e : v = hdA fr to a
    · exact .inr (by simp [e])
    · refine .inl (L.all v hv ?_)
      unfold upd at h
      rwa [if_neg e] at h
  · rw [cntN_upd hw hl (by omega), List.length_append]
    have := L.cnt
    simp; omega
  · intro v hv h
    by_cases e : v = hdA fr to a
    · subst e
      refine ⟨a, ha, rfl, hr, ?_⟩
      rw [at_, ht, keep _ hq.2]; omega
    · have h' : upd lev (hdA fr to a) (lev Q[i] + 1) v = lev v := if_neg e
      rw [h'] at h ⊢
      obtain ⟨b, hb, h1, h2, h3⟩ := L.pred v hv h
      exact ⟨b, hb, h1, h2, by rw [keep _ (by omega)]; exact h3⟩
  · intro v hv h
    by_cases e : v = hdA fr to a
    · subst e; rw [at_] at h; omega
    · have h' : upd lev (hdA fr to a) (lev Q[i] + 1) v = lev v := if_neg e
      rw [h'] at h; exact L.one v hv h
  · intro k hk hk2 b hb h1 h2
    have hkq : k < Q.length := by omega
    rw [List.getElem_append_left hkq] at h1
    exact grow _ (L.done k hk hkq b hb h1 h2)
end

end Go.Proofs.Ytdblngaacnpgmaa

namespace Go.Proofs.Ytdblngaacnpgmaa
open Go
set_option linter.unusedVariables false
set_option linter.unusedSimpArgs false

/-- Skipped arcs that could be gone lead to nodes that are done with. -/
def DdP (n m : Nat) (fr to : Nat → Nat) (t : Nat) (lev room nxt : Nat → Int) : Prop :=
  ∀ u, u < n → ∀ a ∈ (arcsL fr to m u).take (nxt u).toNat, 0 < room a → lev (hdA fr to a) = lev u + 1 → hdA fr to a ≠ t ∧ nxt (hdA fr to a) = (arcsL fr to m (hdA fr to a)).length
structure AlR (n m : Nat) (fr to : Nat → Nat) (cap : Nat → Int) (t : Nat) (lev room nxt room' nxt' : Nat → Int) (v : Nat) (x : Int) : Prop where
  rm : RmP m cap room'
  out : ∀ u, OutF m fr to (onR room') u = OutF m fr to (onR room) u + (if v = u then x else 0) - (if t = u then x else 0)
  ch : ∀ a, a < 2 * m → room' a ≠ room a → (lev v ≤ lev (tlA fr to a) ∧ lev (hdA fr to a) = lev (tlA fr to a) + 1) ∨ (lev v ≤ lev (hdA fr to a) ∧ lev (tlA fr to a) = lev (hdA fr to a) + 1)
  nb : ∀ u, u < n → nxt u ≤ nxt' u ∧ nxt' u ≤ (arcsL fr to m u).length
  nl : ∀ u, u < n → lev u < lev v → nxt' u = nxt u
  z : x = 0 → room' = room ∧ (DdP n m fr to t lev room nxt → DdP n m fr to t lev room nxt')

section
variable {own : Own} {h : H} {bd bn n m s t : Nat} {fr to : Nat → Nat} {cap room lev nxt : Nat → Int}
theorem AlR.refl (R : RmP m cap room) (hb : ∀ u, u < n → 0 ≤ nxt u ∧ nxt u ≤ (arcsL fr to m u).length) (v : Nat) (x : Int) (hx : x = 0 ∨ v = t) :
    AlR n m fr to cap t lev room nxt room nxt v x := by
  refine ⟨R, fun u => ?_, fun a _ h => absurd rfl h, fun u hu => ⟨Int.le_refl _, (hb u hu).2⟩, fun _ _ _ => rfl, fun _ => ⟨rfl, id⟩⟩
  rcases hx with rfl | rfl
  · split <;> split <;> omega
  · omega

end

end Go.Proofs.Ytdblngaacnpgmaa

namespace Go.Proofs.Ytdblngaacnpgmaa
open Go
set_option linter.unusedVariables false
set_option linter.unusedSimpArgs false

/-- A flow in the net's rooms. -/
structure FlS (n m : Nat) (fr to : Nat → Nat) (cap : Nat → Int) (s t : Nat) (room : Nat → Int) : Prop where
  rm : RmP m cap room
  cons : ∀ v, v < n → v ≠ s → v ≠ t → OutF m fr to (onR room) v = 0
section
variable {own : Own} {h : H} {bd bn n m s t : Nat} {fr to : Nat → Nat} {cap room lev nxt : Nat → Int}
theorem FlS.flow (F : FlS n m fr to cap s t room) : FlowP n m fr to cap s t (onR room) :=
  ⟨fun i hi => by
    have := F.rm.sum i hi
    have h1 := F.rm.pos (2 * i) (by omega)
    have h2 := F.rm.pos (2 * i + 1) (by omega)
    unfold onR; omega, F.cons⟩
end

end Go.Proofs.Ytdblngaacnpgmaa

namespace Go.Proofs.Ytdblngaacnpgmaa
open Go
set_option linter.unusedVariables false
set_option linter.unusedSimpArgs false

/-- The slice v holds vs, somewhere in a block of the i-th owner. -/
def Sq (own : Own) (h : H) (i : Nat) (v : Value) (vs : List Value) : Prop :=
  (vs = [] ∧ v = .slice none 0 0) ∨ ∃ b pre zs post c e, own b = i ∧ v = .slice (some ⟨b, pre.length, none⟩) vs.length c ∧ h b = some (.cells ⟨pre ++ (vs ++ (zs ++ post))⟩ e (0, 0)) ∧ vs.length + zs.length = c
section
variable {own own' : Own} {h h' : H} {i : Nat} {v : Value} {vs : List Value}
theorem Sq.of (s : S1 own h i v vs) : Sq own h i v vs := by
  rcases s with s | ⟨b, hb, c, e, zs, h1, h2, h3⟩
  · exact .inl s
  · exact .inr ⟨b, [], zs, [], c, e, hb, h1, by simpa using h2, h3⟩
theorem Sq.nil : Sq own h i (.slice none 0 0) [] := .inl ⟨rfl, rfl⟩
theorem Sq.fm {M : List Nat} (s : Sq own h i v vs) (F : Fm M own h own' h') (hM : i ∉ M) : Sq own' h' i v vs := by
  rcases s with s | ⟨b, pre, zs, post, c, e, hb, h1, h2, h3⟩
  · exact .inl s
  · exact .inr ⟨b, pre, zs, post, c, e, (F.stay b _ h2).2.trans hb, h1, F.keep b _ h2 (by rw [hb]; exact hM), h3⟩
theorem Sq.ext (s : Sq own h i v vs) (x : Ext h h') : Sq own h' i v vs := s.fm (M := []) (Fm.of_ext x) (by simp)
theorem Sq.nw {b j : Nat} (s : Sq own h i v vs) (x : Ext h h') (hb : h b = none) : Sq (own1 own b j) h' i v vs := s.fm (M := []) (Fm.new x hb) (by simp)
theorem Sq.shape (s : Sq own h i v vs) : ∃ a c, v = .slice a vs.length c := by
  rcases s with ⟨rfl, rfl⟩ | ⟨b, pre, zs, post, c, e, hb, h1, h2, h3⟩
  · exact ⟨_, _, rfl⟩
  · exact ⟨_, _, h1⟩
theorem Sq.isS (s : Sq own h i v vs) : ∃ a l c, v = .slice a l c := let ⟨a, c, e⟩ := s.shape; ⟨a, _, c, e⟩
theorem Sq.len {l : Nat} {K : Option Addr → Nat → Nat → Prop} (s : Sq own h i v vs) (hl : vs.length = l) (k : ∀ a c, K a l c) : slcP v K := by
  obtain ⟨a, c, rfl⟩ := s.shape
  rw [hl]; exact k _ _
theorem Sq.at {j : Nat} {x : Value} {K : Addr → Prop} (s : Sq own h i v vs) (hj : vs[j]? = some x) (k : ∀ a : Addr, hcell h a = some x → K a) : ixS v (j : Int) 1 K := by
  have hl := (List.getElem?_eq_some_iff.1 hj).1
  rcases s with ⟨rfl, rfl⟩ | ⟨b, pre, zs, post, c, e, hb, rfl, h2, h3⟩
  · simp at hl
  · refine ⟨by omega, by omega, k _ ?_⟩
    rw [Int.toNat_natCast, bk_add2, hcell_at h2, List.getElem?_toArray, Nat.mul_one, List.getElem?_append_right (by omega),
      show pre.length + j - pre.length = j by omega, List.getElem?_append_left hl]
    exact hj
theorem Sq.rd {j : Nat} {x : Int} {K : Int → Prop} (s : Sq own h i v vs) (hj : vs[j]? = some (.int .i64 x)) (k : K x) : ixS v (j : Int) 1 fun a => ldI h a .i64 K :=
  s.at hj fun a e => ⟨x, e, k⟩
/-- The first one gone: v[1:]. -/
theorem Sq.tl {x : Value} {xs : List Value} {K : Option Addr → Nat → Nat → Prop} (s : Sq own h i v (x :: xs))
    (k : ∀ (a : Option Addr) (l c : Nat), (l : Int) = xs.length + 1 → 1 ≤ (l : Int) → (l : Int) ≤ (c : Int) → Sq own h i (sliceV a c 1 (l : Int) 1) xs → K a l c) : slcP v K := by
  rcases s with ⟨h1, _⟩ | ⟨b, pre, zs, post, c, e, hb, rfl, h2, h3⟩
  · cases h1
  · refine k _ _ _ (by simp) (by simp; omega) (by simp at h3 ⊢; omega) ?_
    unfold sliceV
    simp only [List.length_cons] at h3 ⊢
    have e1 : ((1 : Int)).toNat = 1 := rfl
    have e2 : (((xs.length + 1 : Nat) : Int)).toNat = xs.length + 1 := Int.toNat_natCast _
    rw [e1, e2]
    by_cases hc : c = 1
    · subst hc
      have : xs = [] := List.length_eq_zero_iff.1 (by omega)
      subst this
      rw [if_pos rfl]
      exact .inr ⟨b, pre, [], x :: (zs ++ post), 0, e, hb, rfl, by simpa using h2, rfl⟩
    · rw [if_neg hc]
      refine .inr ⟨b, pre ++ [x], zs, post, c - 1, e, hb, ?_, by simpa using h2, by omega⟩
      simp [Addr.add]
/-- One more at the end. -/
theorem Sq.push {x z : Value} {ex : Nat} {K : Nat → H → Value → H → Prop} {e bytes : Nat} (s : Sq own h i v vs)
    (one : x.oneCell' = true) (hb : bytes ≤ 8) (hl : vs.length < 1000000)
    (k : ∀ bx hm p' own' h', h bx = none → Ext h hm → Fm [i] own h own' h' → Sq own' h' i p' (vs ++ [x]) → K bx hm p' h') :
    newP h (.cells ⟨[x]⟩ ex (0, 0)) fun bx hm => apP v (.slice (some (bk bx)) 1 1) hm 1 e bytes [z] (K bx hm) := by
  refine new_put ?_
  intro bx hm hbx xm hx
  have hsrc : srcP hm (some (bk bx)) (1 * 1) [x] := by
    refine ⟨rfl, fun j v hj => ?_⟩
    rw [bk_add, hcell_at hx, List.getElem?_toArray]
    exact hj
  have hzl : ∀ m, (zrep [z] m).length = m := by intro m; simp [zrep]
  rcases s with ⟨rfl, rfl⟩ | ⟨b, pre, zs, post, c, eb, hob, rfl, h2, h3⟩
  · refine ⟨[x], hsrc, fun hle => by omega, fun hlt => ⟨?_, [], ⟨rfl, rfl⟩, fun cap hcap => ?_⟩⟩
    · have := nextcap_le hlt
      calc _ ≤ (2 * (0 + 1) + 192) * bytes := Nat.mul_le_mul_right _ this
        _ ≤ (2 * (0 + 1) + 192) * 8 := Nat.mul_le_mul_left _ hb
        _ ≤ _ := by omega
    · refine new_put ?_
      intro b g hbn x1 e1
      rw [Nat.zero_add] at e1 hcap ⊢
      refine k bx hm _ (own1 own b i) g hbx xm (Fm.new (xm.trans' x1) (xm.new hbn)) (.inr ⟨b, [], zrep [z] (cap - 1), [], cap, e, own1_at, rfl, by rw [e1]; simp, ?_⟩)
      rw [hzl]; simp; omega
  · have h2m := xm _ _ h2
    refine ⟨[x], hsrc, fun hle => ⟨fun _ => ?_, by simpa using one, ?_⟩, fun hlt => ⟨?_, vs, ⟨by rw [Nat.mul_one], ?_⟩, fun cap hcap => ?_⟩⟩
    · rw [bk_add2]
      refine ⟨_, _, h2m, rfl, ?_⟩
      simp only [List.size_toArray, List.length_append, List.length_singleton]
      omega
    · rw [bk_add2]
      cases zs with
      | nil => simp at h3; omega
      | cons z0 zs =>
        have e2 : hset hm ⟨b, pre.length + vs.length * 1, none⟩ [x] b = some (.cells ⟨pre ++ ((vs ++ [x]) ++ (zs ++ post))⟩ eb (0, 0)) := by
          unfold hset
          rw [if_pos rfl, h2m]
          simp only [Option.map_some, setR, Nat.mul_one]
          rw [List.setIfInBounds_toArray]
          congr 3
          rw [List.set_append_right _ _ (by omega), show pre.length + vs.length - pre.length = vs.length by omega, List.set_append_right _ _ (by omega), Nat.sub_self]
          simp
        refine k bx hm _ own _ hbx xm ((Fm.of_ext xm).trans (Fm.kp (b := b) ?_ hob ⟨_, e2⟩)) (.inr ⟨b, pre, zs, post, c, eb, hob, by simp, e2, by simp at h3 ⊢; omega⟩)
        intro j o hj hh
        unfold hset
        rw [if_neg hj]; exact hh
    · have := nextcap_le hlt
      calc _ ≤ (2 * (vs.length + 1) + 192) * bytes := Nat.mul_le_mul_right _ this
        _ ≤ (2 * (vs.length + 1) + 192) * 8 := Nat.mul_le_mul_left _ hb
        _ ≤ _ := by omega
    · intro j v hj
      rw [bk_add2, hcell_at h2m, List.getElem?_toArray, List.getElem?_append_right (by omega), show pre.length + j - pre.length = j by omega]
      have := (List.getElem?_eq_some_iff.1 hj).1
      rw [List.getElem?_append_left this]
      exact hj
    · refine new_put ?_
      intro b' g hbn x1 e1
      refine k bx hm _ (own1 own b' i) g hbx xm (Fm.new (xm.trans' x1) (xm.new hbn)) (.inr ⟨b', [], zrep [z] (cap - (vs.length + 1)), [], cap, e, own1_at, by simp, by rw [e1]; simp, ?_⟩)
      rw [hzl]; simp; omega
end

/-- Four numbers, the first counts most. -/
abbrev N4 := Nat × Nat × Nat × Nat
def r4 (a b : N4) : Prop := a.1 < b.1 ∨ a.1 = b.1 ∧ (a.2.1 < b.2.1 ∨ a.2.1 = b.2.1 ∧ (a.2.2.1 < b.2.2.1 ∨ a.2.2.1 = b.2.2.1 ∧ a.2.2.2 < b.2.2.2))
end Go.Proofs.Ytdblngaacnpgmaa

namespace Go.Proofs.Ytdblngaacnpgmaa
open Go
set_option linter.unusedVariables false
set_option linter.unusedSimpArgs false

/-- How many nodes have a height. -/
def cntH (n : Nat) (ht : Nat → Int) (k : Int) : Int := sumN n fun u => if ht u = k then 1 else 0
theorem cntH_upd {n v : Nat} {ht : Nat → Int} {y k : Int} (hv : v < n) : cntH n (upd ht v y) k = cntH n ht k - (if ht v = k then 1 else 0) + (if y = k then 1 else 0) := by
  unfold cntH
  have e : (fun u => if upd ht v y u = k then (1 : Int) else 0) = upd (fun u => if ht u = k then 1 else 0) v (if y = k then 1 else 0) := by
    funext u
    unfold upd
    by_cases h : u = v
    · rw [if_pos h, if_pos h]
    · rw [if_neg h, if_neg h]
  rw [e, sumN_upd hv]
theorem cntH_bd {n : Nat} {ht : Nat → Int} {k : Int} : 0 ≤ cntH n ht k ∧ cntH n ht k ≤ n := by
  constructor
  · exact sumN_nonneg fun u _ => by split <;> omega
  · have := sumN_bd (k := n) (c := 1) (f := fun u => if ht u = k then (1 : Int) else 0) fun u _ => by split <;> omega
    unfold cntH; omega
theorem cntH_none {n : Nat} {ht : Nat → Int} {k : Int} (h : cntH n ht k = 0) : ∀ u, u < n → ht u ≠ k := by
  intro u hu e
  have := sumN_all0 (f := fun u => if ht u = k then (1 : Int) else 0) (k := n) (fun u _ => by split <;> omega) (by unfold cntH at h; omega) u hu
  simp [e] at this
/-- Some height among n + 1 has no node. -/
theorem gap_ex {n : Nat} {ht : Nat → Int} (b : Int) : ∃ k : Nat, k < n + 1 ∧ ∀ u, u < n → ht u ≠ b + k := by
  apply Classical.byContradiction
  intro hno
  have h1 : ∀ k, k < n + 1 → 1 ≤ cntH n ht (b + k) := by
    intro k hk
    have := cntH_bd (n := n) (ht := ht) (k := b + k)
    by_cases e : cntH n ht (b + k) = 0
    · exact absurd ⟨k, hk, cntH_none e⟩ hno
    · omega
  have h2 : (n : Int) + 1 ≤ sumN (n + 1) fun k => cntH n ht (b + k) := by
    have := sumN_le (k := n + 1) (f := fun _ => 1) h1
    rw [sumN_const] at this; omega
  unfold cntH at h2
  rw [sumN_swap] at h2
  have h3 : sumN n (fun u => sumN (n + 1) fun k => if ht u = b + k then (1 : Int) else 0) ≤ n * 1 := by
    refine sumN_bd fun u hu => ?_
    by_cases e : ∃ j : Nat, ht u = b + j
    · obtain ⟨j, e⟩ := e
      have : sumN (n + 1) (fun k => if ht u = b + k then (1 : Int) else 0) = sumN (n + 1) (fun k => if j = k then (1 : Int) else 0) := sumN_congr fun k _ => by
        by_cases h : j = k
        · rw [if_pos h, if_pos (by omega)]
        · rw [if_neg h, if_neg (by omega)]
      rw [this, sumN_pt]; split <;> omega
    · rw [sumN_zero]
      · omega
      · intro k _
        rw [if_neg]
        intro h; exact e ⟨k, h⟩
  omega
section
variable {own : Own} {h : H} {bp bn n m s t : Nat} {fr to : Nat → Nat} {room ht ex nxt : Nat → Int} {Q : List Nat}

/-- The queue behind a push to w. -/
def giveQ (s t : Nat) (ex : Nat → Int) (Q : List Nat) (w : Nat) : List Nat := if ex w = 0 ∧ w ≠ s ∧ w ≠ t then Q ++ [w] else Q
def giveX (ex : Nat → Int) (v w : Nat) (x : Int) : Nat → Int := upd (upd ex v (ex v - x)) w (upd ex v (ex v - x) w + x)
end

end Go.Proofs.Ytdblngaacnpgmaa

namespace Go.Proofs.Ytdblngaacnpgmaa
open Go
set_option linter.unusedVariables false
set_option linter.unusedSimpArgs false

theorem B1.uniq {own : Own} {h : H} {i j b : Nat} {vs ws : List Value} (a : B1 own h i b vs) (c : B1 own h j b ws) : vs = ws := by
  obtain ⟨_, e, k⟩ := a
  obtain ⟨_, e', k'⟩ := c
  rw [k] at k'
  simp only [Option.some.injEq, Obj.cells.injEq, Array.mk.injEq] at k'
  exact k'.1
end Go.Proofs.Ytdblngaacnpgmaa

