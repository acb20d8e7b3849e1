/- Own text W0 of this claim: see the text that holds the theorem. -/
import Derived.Test.YtninikfblhoieaaGreatDoorAv16
import Derived.Test.YtninikfblhoieaaGreatDoorChecked
set_option linter.all false
-- by gen.py
namespace Go.Av
open Go Go.Proofs
set_option maxRecDepth 100000
noncomputable section
abbrev RR := AV → Heap → Prop
noncomputable abbrev PP : Program := Tryz.prog
theorem follows_PP : PP.follows .mixedOrders = true := by kernel_rfl
def emp : ByteArray := { data := #[] }
def s_a : ByteArray := { data := #[97] }
def s_b : ByteArray := { data := #[98] }
def s_a_20b_20ok : ByteArray := { data := #[97, 32, 98, 32, 111, 107] }
def s__20 : ByteArray := { data := #[32] }
def s_ok : ByteArray := { data := #[111, 107] }
def s__21 : ByteArray := { data := #[33] }
def s__3f : ByteArray := { data := #[63] }
def s_abcdefghijklmnopqrstuvwxyz : ByteArray := { data := #[97, 98, 99, 100, 101, 102, 103, 104, 105, 106, 107, 108, 109, 110, 111, 112, 113, 114, 115, 116, 117, 118, 119, 120, 121, 122] }
def words : List ByteArray := [{ data := #[115, 107, 105, 112] }, { data := #[116, 104, 114, 111, 119] }, { data := #[121, 105, 101, 108, 100] }, { data := #[115, 107, 105, 112, 112] }, { data := #[116, 104, 114, 111, 119, 119] }, { data := #[121, 105, 101, 108, 100, 100] }]
def g0 : AV := .cp (words.map fun w => S w) 0
def g1 : AV := .dead
def g2 : AV := .dead
def gΓ : Nat → Option AV := fun k => bif Nat.beq k 0 then some g0 else none
noncomputable abbrev mkE (n : Nat) (L : Nat → Option (List Nat)) : Env := ⟨PP, gΓ, n, L, fun _ => false, []⟩
def law21_SagaTwice : Nat := 5
def law21_made : Nat := 7
def law21_few : Nat := 8
def law21_alive : Nat := 9
def saga_Saga_Run : Nat := 10
def saga_Saga_Deal : Nat := 11
def deal_Dealer_Asked : Nat := 12
def saga_Saga_Disk : Nat := 13
def disk_Disk_Blocks : Nat := 14
def disk_Disk_Write : Nat := 15
def saga_Saga_Recover : Nat := 16
def saga_Saga_Step : Nat := 17
def saga_Saga_Halt : Nat := 18
def saga_Saga_Trace : Nat := 19
def saga_Saga_Down : Nat := 20
def saga_Saga_State : Nat := 22
def law21_Do : Nat := 23
def code_Same : Nat := 24
def disk_Disk_Writes : Nat := 25
def settle_Begin : Nat := 27
def saga_New : Nat := 30
def ref03_Depth : Nat := 31
def trace_Text : Nat := 32
def deal_Dealer_Done : Nat := 33
def disk_Disk_has : Nat := 34
def disk_Disk_Down : Nat := 35
def disk_Disk_Up : Nat := 36
def slots_Store_Last : Nat := 37
def code_Decode : Nat := 38
def saga_Saga_stops : Nat := 39
def saga_Saga_done : Nat := 40
def saga_Saga_keep : Nat := 41
def settle_Ended : Nat := 42
def slices_Clone_string : Nat := 43
def slices_Clone_Node : Nat := 45
def disk_Disk_Cut : Nat := 46
def code_Same_1 : Nat := 47
def slices_Equal_string : Nat := 48
def row_Same : Nat := 49
def move_Pick : Nat := 50
def step_Next : Nat := 51
def sort_Right : Nat := 52
def settle_Settle : Nat := 53
def disk_New : Nat := 54
def slots_New : Nat := 55
def code_Long : Nat := 56
def slots_Store_Room : Nat := 57
def slices_Clone_int : Nat := 58
def deal_New : Nat := 59
def deal_Dealer_Ask : Nat := 60
def ref03_Walk : Nat := 61
def sign_Text : Nat := 62
def deal_picked_deal_Deed_string : Nat := 63
def deal_Dealer_Done_1 : Nat := 64
def deal_name : Nat := 65
def slots_Store_Slot : Nat := 66
def code_reader_next : Nat := 67
def code_reader_name : Nat := 68
def code_Encode : Nat := 69
def bytes_Equal : Nat := 70
def step_Refuse : Nat := 71
def slots_Store_Save : Nat := 72
def slices_Equal_Node : Nat := 73
def move_Enabled : Nat := 74
def move_Is : Nat := 75
def step_Put : Nat := 76
def step_made : Nat := 77
def sort_Term : Nat := 78
def row_Depth : Nat := 79
def sort_On : Nat := 80
def settle_settle : Nat := 81
def slots_Store_half : Nat := 82
def slices_Contains_int : Nat := 83
def ref03_Arity : Nat := 84
def sign_Is : Nat := 85
def sign_texts : Nat := 86
def disk_Disk_Read : Nat := 87
def crc_Open : Nat := 88
def crc_Get : Nat := 89
def code_Right : Nat := 90
def code_named : Nat := 91
def step_leaf : Nat := 92
def crc_Frame : Nat := 93
def crc_Put : Nat := 94
def move_ways : Nat := 95
def doom_Active : Nat := 96
def slices_Contains_Move : Nat := 97
def row_Size : Nat := 98
def row_Kids : Nat := 99
def step_made_1 : Nat := 100
def row_Make : Nat := 101
def sort_Of : Nat := 102
def sort_on : Nat := 103
def settle_over : Nat := 104
def settle_behind : Nat := 105
def settle_stack : Nat := 106
def settle_end : Nat := 107
def settle_par : Nat := 108
def settle_block : Nat := 109
def slices_Index_int : Nat := 110
def crc_More : Nat := 111
def crc_Sum : Nat := 112
def code_Right_1 : Nat := 113
def row_Right : Nat := 114
def code_Right_2 : Nat := 115
def settle_Settled : Nat := 116
def slices_ContainsFunc_string : Nat := 117
def move_always : Nat := 118
def doom_Free : Nat := 119
def doom_Active_1 : Nat := 120
def slices_ContainsFunc_int : Nat := 121
def plot_Over : Nat := 122
def doom_Active_1_1 : Nat := 123
def doom_kid : Nat := 124
def doom_goes : Nat := 125
def row_Count : Nat := 126
def slices_Index_Move : Nat := 127
def row_Arity : Nat := 128
def slices_Concat_Node : Nat := 129
def row_Whole : Nat := 130
def sort_sort : Nat := 131
def sign_Both : Nat := 132
def row_named : Nat := 133
def slices_IndexFunc_string : Nat := 134
def doom_beside : Nat := 135
def slices_ContainsFunc_Node_2 : Nat := 136
def doom_Doomed : Nat := 137
def slices_IndexFunc_int : Nat := 138
def plot_spots : Nat := 139
def slices_Grow_Node : Nat := 140
def row_Whole_1 : Nat := 141
def slices_ContainsFunc_Node : Nat := 142
def sort_both : Nat := 143
def sort_behind : Nat := 144
def strings_Trim : Nat := 145
def slices_Contains_string : Nat := 146
def slices_Reverse_int : Nat := 147
def slices_IndexFunc_Node_2 : Nat := 148
def doom_doomed : Nat := 149
def plot_spots_1 : Nat := 150
def plot_one : Nat := 151
def slices_IndexFunc_Node : Nat := 152
def strings_trimLeftByte : Nat := 153
def strings_trimRightByte : Nat := 154
def strings_makeASCIISet : Nat := 155
def strings_trimLeftASCII : Nat := 156
def strings_trimRightASCII : Nat := 157
def strings_trimLeftUnicode : Nat := 158
def strings_trimRightUnicode : Nat := 159
def slices_Index_string : Nat := 160
def strings_asciiSet_contains : Nat := 161
def L_law21_SagaTwice : Nat → Option (List Nat) := fun k => bif Nat.beq k 1009 then some [2, 7, 8, 10, 63, 64] else bif Nat.beq k 1014 then some [2, 7, 8, 10, 77, 78] else bif Nat.beq k 1019 then some [8, 10, 89, 90, 91] else none
noncomputable abbrev E_law21_SagaTwice : Env := mkE 143 (L_law21_SagaTwice)
noncomputable def C_law21_SagaTwice : Code := Tryz.f5.body.getD .skip
def W_law21_SagaTwice (a0 a1 a2 : AV) (H : Heap) (R : RR) : Prop :=
 allocK (some (AV.cells a1)) H fun p1 H2 =>
 pureK (ld (some true) 3 H2 p1) fun x3 =>
 ACalls PP gΓ law21_few [a0, x3, a2] H2 fun x4 H5 =>
 pureK (unE .not x4) fun x6 =>
 condK x6 (
 ACalls PP gΓ law21_alive [] H5 fun x7 H8 =>
 ret1 H8 R x7
 ) (
 pureK (bsl 1 (.sc (.int .i64 0)) 0 []) fun x9 =>
 pureK (fa 0 p1) fun x10 =>
 pureK (ld (some false) 1 H5 x10) fun x11 =>
 ∃ φ12, ApK 1 x9 x11 H5 φ12 ∧
 pureK (bsl 1 (.sc (.int .i64 0)) 0 []) fun x13 =>
 pureK (fa 1 p1) fun x14 =>
 pureK (ld (some false) 1 H5 x14) fun x15 =>
 ∃ φ16, ApK 1 x13 x15 H5 φ16 ∧
 pureK (fa 2 p1) fun x17 =>
 pureK (ld (some false) 1 H5 x17) fun x18 =>
 (∀ v19, (∃ rf ob p, φ12 rf ob ∧ v19 = rf p) → ∀ v20, (∃ rf ob p, φ16 rf ob ∧ v20 = rf p) → ∃ r, bld [(0, 1), (1, 1), (2, 1)] [.lst 0 [] .exact, .lst 0 [] .exact, .sc (.int .i64 0)] [(0, v19), (1, v20), (2, x18)] = some r) ∧
 ∀ rf21 ob22, φ12 rf21 ob22 → madeA H5 rf21 ob22 fun x23 H24 =>
 ∀ rf25 ob26, φ16 rf25 ob26 → madeA H24 rf25 ob26 fun x27 H28 =>
 pureK (bld [(0, 1), (1, 1), (2, 1)] [.lst 0 [] .exact, .lst 0 [] .exact, .sc (.int .i64 0)] [(0, x23), (1, x27), (2, x18)]) fun x29 =>
 allocP [.lst 0 [] .exact, .lst 0 [] .exact, .sc (.int .i64 0)] H28 fun o30 H31 =>
 heapK (st 3 H31 (.ptr o30 0) x29) fun H32 =>
 pureK (ld (some true) 3 H32 p1) fun x33 =>
 ACalls PP gΓ law21_made [a0, x33] H32 fun x34 H35 =>
 pureK (extractE x34 0) fun x36 =>
 pureK (extractE x34 1) fun x37 =>
 pureK (ld (some true) 3 H35 (.ptr o30 0)) fun x38 =>
 ACalls PP gΓ law21_made [a0, x38] H35 fun x39 H40 =>
 pureK (extractE x39 0) fun x41 =>
 pureK (extractE x39 1) fun x42 =>
 pureK (unE .not x37) fun x43 =>
 condK x43 (
 ACalls PP gΓ law21_alive [] H40 fun x44 H45 =>
 condK x44 (
 pureK (bop .bool .eql x37 x42) fun x46 =>
 ret1 H45 R x46
 ) (
 ret1 H45 R (B false)
 )
 ) (
 pureK (unE .not x42) fun x47 =>
 condK x47 (
 ACalls PP gΓ law21_alive [] H40 fun x48 H49 =>
 condK x48 (
 pureK (bop .bool .eql x37 x42) fun x50 =>
 ret1 H49 R x50
 ) (
 ret1 H49 R (B false)
 )
 ) (
 pureK (fa 0 (.ptr o30 0)) fun x51 =>
 pureK (ld (some false) 1 H40 x51) fun x52 =>
 pureK (lnl x52) fun x53 =>
 ∃ J54 : List AV → Heap → Nat → Prop, (∃ (n60 : Nat) (H61 : Heap), H61 ≤ H40 ∧ J54 [a2, .ptr o30 0, x36, x41, x53, I 0] H61 n60) ∧ ∀ (vs55 : List AV) (H56 : Heap) (n57 : Nat), J54 vs55 H56 n57 →
 pureK (bop .plain .lss (nth vs55 5) (nth vs55 4)) fun x62 =>
 condK x62 (
 pureK (fa 0 (nth vs55 1)) fun x63 =>
 pureK (ld (some false) 1 H56 x63) fun x64 =>
 pureK (ias 1 x64 (nth vs55 5)) fun x65 =>
 pureK (ld (some false) 1 H56 x65) fun x66 =>
 pureK (bop .plain .add x66 (I 1)) fun x67 =>
 pureK (ias 1 x64 (nth vs55 5)) fun x68 =>
 heapK (st 1 H56 x68 x67) fun H69 =>
 pureK (bop .plain .add (nth vs55 5) (I 1)) fun x70 =>
 (∃ (n58 : Nat) (H59 : Heap), n58 < n57 ∧ H59 ≤ H69 ∧ J54 [nth vs55 0, nth vs55 1, nth vs55 2, nth vs55 3, nth vs55 4, x70] H59 n58)
 ) (
 pureK (fa 1 (nth vs55 1)) fun x71 =>
 pureK (ld (some false) 1 H56 x71) fun x72 =>
 pureK (lnl x72) fun x73 =>
 ∃ J74 : List AV → Heap → Nat → Prop, (∃ (n80 : Nat) (H81 : Heap), H81 ≤ H56 ∧ J74 [nth vs55 0, nth vs55 1, nth vs55 2, nth vs55 3, x73, I 0] H81 n80) ∧ ∀ (vs75 : List AV) (H76 : Heap) (n77 : Nat), J74 vs75 H76 n77 →
 pureK (bop .plain .lss (nth vs75 5) (nth vs75 4)) fun x82 =>
 condK x82 (
 pureK (fa 1 (nth vs75 1)) fun x83 =>
 pureK (ld (some false) 1 H76 x83) fun x84 =>
 pureK (ias 1 x84 (nth vs75 5)) fun x85 =>
 pureK (ld (some false) 1 H76 x85) fun x86 =>
 pureK (bop .plain .add x86 (I 1)) fun x87 =>
 pureK (ias 1 x84 (nth vs75 5)) fun x88 =>
 heapK (st 1 H76 x88 x87) fun H89 =>
 pureK (bop .plain .add (nth vs75 5) (I 1)) fun x90 =>
 (∃ (n78 : Nat) (H79 : Heap), n78 < n77 ∧ H79 ≤ H89 ∧ J74 [nth vs75 0, nth vs75 1, nth vs75 2, nth vs75 3, nth vs75 4, x90] H79 n78)
 ) (
 pureK (lnl (nth vs75 0)) fun x91 =>
 ∃ J92 : List AV → Heap → Nat → Prop, (∃ (n98 : Nat) (H99 : Heap), H99 ≤ H76 ∧ J92 [nth vs75 2, nth vs75 3, nth vs75 0, x91, I 0] H99 n98) ∧ ∀ (vs93 : List AV) (H94 : Heap) (n95 : Nat), J92 vs93 H94 n95 →
 pureK (bop .plain .lss (nth vs93 4) (nth vs93 3)) fun x100 =>
 condK x100 (
 pureK (ias 2 (nth vs93 2) (nth vs93 4)) fun x101 =>
 pureK (ld (some true) 2 H94 x101) fun x102 =>
 allocP [.sc (.int .i64 0), .sc (.int .i64 0)] H94 fun o103 H104 =>
 heapK (st 2 H104 (.ptr o103 0) x102) fun H105 =>
 pureK (ld (some true) 2 H105 (.ptr o103 0)) fun x106 =>
 ACalls PP gΓ law21_Do [nth vs93 0, x106] H105 fun x107 H108 =>
 pureK (extractE x107 0) fun x109 =>
 pureK (extractE x107 1) fun x110 =>
 pureK (ld (some true) 2 H108 (.ptr o103 0)) fun x111 =>
 ACalls PP gΓ law21_Do [nth vs93 1, x111] H108 fun x112 H113 =>
 pureK (extractE x112 0) fun x114 =>
 pureK (extractE x112 1) fun x115 =>
 pureK (bop .plain .neq x109 x114) fun x116 =>
 condK x116 (
 ret1 H113 R (B false)
 ) (
 pureK (bop .plain .neq x110 x115) fun x117 =>
 condK x117 (
 ret1 H113 R (B false)
 ) (
 ACalls PP gΓ saga_Saga_State [nth vs93 0] H113 fun x118 H119 =>
 ACalls PP gΓ saga_Saga_State [nth vs93 1] H119 fun x120 H121 =>
 ACalls PP gΓ code_Same [x118, x120] H121 fun x122 H123 =>
 pureK (unE .not x122) fun x124 =>
 condK x124 (
 ret1 H123 R (B false)
 ) (
 pureK (bop .plain .add (nth vs93 4) (I 1)) fun x125 =>
 (∃ (n96 : Nat) (H97 : Heap), n96 < n95 ∧ H97 ≤ H123 ∧ J92 [nth vs93 0, nth vs93 1, nth vs93 2, nth vs93 3, x125] H97 n96)
 )
 )
 )
 ) (
 ACalls PP gΓ law21_alive [] H94 fun x126 H127 =>
 condK x126 (
 ACalls PP gΓ saga_Saga_Deal [nth vs93 0] H127 fun x128 H129 =>
 ACalls PP gΓ deal_Dealer_Asked [x128] H129 fun x130 H131 =>
 ACalls PP gΓ saga_Saga_Deal [nth vs93 1] H131 fun x132 H133 =>
 ACalls PP gΓ deal_Dealer_Asked [x132] H133 fun x134 H135 =>
 pureK (bop .plain .eql x130 x134) fun x136 =>
 condK x136 (
 ACalls PP gΓ saga_Saga_Disk [nth vs93 0] H135 fun x137 H138 =>
 ACalls PP gΓ disk_Disk_Writes [x137] H138 fun x139 H140 =>
 ACalls PP gΓ saga_Saga_Disk [nth vs93 1] H140 fun x141 H142 =>
 ACalls PP gΓ disk_Disk_Writes [x141] H142 fun x143 H144 =>
 pureK (bop .plain .eql x139 x143) fun x145 =>
 ret1 H144 R x145
 ) (
 ret1 H135 R (B false)
 )
 ) (
 ret1 H127 R (B false)
 )
 )
 )
 )
 )
 )
 )
theorem law21_SagaTwice_of {a0 a1 a2 : AV} {H : Heap} {R : RR} (h : W_law21_SagaTwice a0 a1 a2 H R) : ACalls PP gΓ law21_SagaTwice [a0, a1, a2] H R :=
 ACalls.of_K (E := E_law21_SagaTwice) follows_PP Tryz.func5 (c := C_law21_SagaTwice) (by kernel_rfl) Tryz.ntmps5 (by kernel_rfl) h

noncomputable abbrev E_law21_made : Env := mkE 31 (fun _ => none)
noncomputable def C_law21_made : Code := Tryz.f7.body.getD .skip
def W_law21_made (a0 a1 : AV) (H : Heap) (R : RR) : Prop :=
 allocK (some (AV.cells a1)) H fun p1 H2 =>
 pureK (ld (some true) 3 H2 p1) fun x3 =>
 ACalls PP gΓ saga_New [a0, x3] H2 fun x4 H5 =>
 pureK (extractE x4 0) fun x6 =>
 pureK (extractE x4 1) fun x7 =>
 pureK (bop .plain .eql x7 (I 0)) fun x8 =>
 condK x8 (
 pureK (bop .ptr .neq x6 (.sc (.pointer none))) fun x9 =>
 condK x9 (
 ACalls PP gΓ saga_Saga_Disk [x6] H5 fun x10 H11 =>
 pureK (bop .ptr .neq x10 (.sc (.pointer none))) fun x12 =>
 condK x12 (
 ACalls PP gΓ saga_Saga_Deal [x6] H11 fun x13 H14 =>
 pureK (bop .ptr .neq x13 (.sc (.pointer none))) fun x15 =>
 ret1 H14 R (.tup [x6, x15])
 ) (
 ret1 H11 R (.tup [x6, B false])
 )
 ) (
 ret1 H5 R (.tup [x6, B false])
 )
 ) (
 ret1 H5 R (.tup [x6, B false])
 )
theorem law21_made_of {a0 a1 : AV} {H : Heap} {R : RR} (h : W_law21_made a0 a1 H R) : ACalls PP gΓ law21_made [a0, a1] H R :=
 ACalls.of_K (E := E_law21_made) follows_PP Tryz.func7 (c := C_law21_made) (by kernel_rfl) Tryz.ntmps7 (by kernel_rfl) h

def L_law21_few : Nat → Option (List Nat) := fun k => bif Nat.beq k 1003 then some [0, 2, 4, 7, 10, 11, 12] else none
noncomputable abbrev E_law21_few : Env := mkE 55 (L_law21_few)
noncomputable def C_law21_few : Code := Tryz.f8.body.getD .skip
def W_law21_few (a0 a1 a2 : AV) (H : Heap) (R : RR) : Prop :=
 allocK (some (AV.cells a1)) H fun p1 H2 =>
 pureK (lnl a2) fun x3 =>
 ∃ J4 : List AV → Heap → Nat → Prop, (∃ (n10 : Nat) (H11 : Heap), H11 ≤ H2 ∧ J4 [a0, a2, p1, I 0, a2, x3, I 0] H11 n10) ∧ ∀ (vs5 : List AV) (H6 : Heap) (n7 : Nat), J4 vs5 H6 n7 →
 pureK (bop .plain .lss (nth vs5 6) (nth vs5 5)) fun x12 =>
 condK x12 (
 pureK (ias 2 (nth vs5 4) (nth vs5 6)) fun x13 =>
 pureK (ld (some true) 2 H6 x13) fun x14 =>
 allocP [.sc (.int .i64 0), .sc (.int .i64 0)] H6 fun o15 H16 =>
 heapK (st 2 H16 (.ptr o15 0) x14) fun H17 =>
 pureK (fa 0 (.ptr o15 0)) fun x18 =>
 pureK (ld (some false) 1 H17 x18) fun x19 =>
 pureK (bop .plain .eql x19 (I 5)) fun x20 =>
 condK x20 (
 pureK (fa 1 (.ptr o15 0)) fun x21 =>
 pureK (ld (some false) 1 H17 x21) fun x22 =>
 pureK (maxE [x22, I 0]) fun x23 =>
 pureK (minE [x23, I 1000]) fun x24 =>
 pureK (bop .plain .add (nth vs5 3) x24) fun x25 =>
 pureK (bop .plain .add (nth vs5 6) (I 1)) fun x26 =>
 (∃ (n8 : Nat) (H9 : Heap), n8 < n7 ∧ H9 ≤ H17 ∧ J4 [nth vs5 0, nth vs5 1, nth vs5 2, x25, nth vs5 4, nth vs5 5, x26] H9 n8)
 ) (
 pureK (bop .plain .add (nth vs5 6) (I 1)) fun x27 =>
 (∃ (n8 : Nat) (H9 : Heap), n8 < n7 ∧ H9 ≤ H17 ∧ J4 [nth vs5 0, nth vs5 1, nth vs5 2, nth vs5 3, nth vs5 4, nth vs5 5, x27] H9 n8)
 )
 ) (
 pureK (lnl (nth vs5 0)) fun x28 =>
 pureK (bop .plain .leq x28 (I 100)) fun x29 =>
 condK x29 (
 ACalls PP gΓ ref03_Depth [nth vs5 0] H6 fun x30 H31 =>
 pureK (bop .plain .leq x30 (I 24)) fun x32 =>
 condK x32 (
 pureK (fa 0 (nth vs5 2)) fun x33 =>
 pureK (ld (some false) 1 H31 x33) fun x34 =>
 pureK (lnl x34) fun x35 =>
 pureK (bop .plain .leq x35 (I 100)) fun x36 =>
 condK x36 (
 pureK (fa 1 (nth vs5 2)) fun x37 =>
 pureK (ld (some false) 1 H31 x37) fun x38 =>
 pureK (lnl x38) fun x39 =>
 pureK (bop .plain .leq x39 (I 100)) fun x40 =>
 condK x40 (
 pureK (lnl (nth vs5 1)) fun x41 =>
 pureK (bop .plain .leq x41 (I 60)) fun x42 =>
 condK x42 (
 pureK (bop .plain .leq (nth vs5 3) (I 3000)) fun x43 =>
 ret1 H31 R x43
 ) (
 ret1 H31 R (B false)
 )
 ) (
 ret1 H31 R (B false)
 )
 ) (
 ret1 H31 R (B false)
 )
 ) (
 ret1 H31 R (B false)
 )
 ) (
 ret1 H6 R (B false)
 )
 )
theorem law21_few_of {a0 a1 a2 : AV} {H : Heap} {R : RR} (h : W_law21_few a0 a1 a2 H R) : ACalls PP gΓ law21_few [a0, a1, a2] H R :=
 ACalls.of_K (E := E_law21_few) follows_PP Tryz.func8 (c := C_law21_few) (by kernel_rfl) Tryz.ntmps8 (by kernel_rfl) h

noncomputable abbrev E_law21_alive : Env := mkE 134 (fun _ => none)
noncomputable def C_law21_alive : Code := Tryz.f9.body.getD .skip
def W_law21_alive (H : Heap) (R : RR) : Prop :=
 pureK (bld [(0, 1), (1, 1), (2, 1)] [.sc (.int .i64 0), S emp, .sc (.int .i64 0)] [(0, I 5)]) fun x1 =>
 pureK (bld [(0, 1), (1, 1), (2, 1)] [.sc (.int .i64 0), S emp, .sc (.int .i64 0)] [(0, I 1), (1, S s_a)]) fun x2 =>
 pureK (bld [(0, 1), (1, 1), (2, 1)] [.sc (.int .i64 0), S emp, .sc (.int .i64 0)] [(0, I 1), (1, S s_b)]) fun x3 =>
 pureK (bsl 3 (.agg [.sc (.int .i64 0), S emp, .sc (.int .i64 0)]) 3 [(0, x1), (1, x2), (2, x3)]) fun x4 =>
 pureK (bld [(0, 1), (1, 1), (2, 1)] [.lst 0 [] .exact, .lst 0 [] .exact, .sc (.int .i64 0)] [(2, I 40)]) fun x5 =>
 ACalls PP gΓ saga_New [x4, x5] H fun x6 H7 =>
 pureK (extractE x6 0) fun x8 =>
 pureK (extractE x6 1) fun x9 =>
 pureK (bld [(0, 1), (1, 1), (2, 1)] [.lst 0 [] .exact, .lst 0 [] .exact, .sc (.int .i64 0)] []) fun x10 =>
 ACalls PP gΓ saga_New [x4, x10] H7 fun x11 H12 =>
 pureK (extractE x11 0) fun x13 =>
 pureK (extractE x11 1) fun x14 =>
 pureK (bld [(0, 1), (1, 1), (2, 1)] [.lst 0 [] .exact, .lst 0 [] .exact, .sc (.int .i64 0)] [(2, I 6)]) fun x15 =>
 ACalls PP gΓ saga_New [x4, x15] H12 fun x16 H17 =>
 pureK (extractE x16 0) fun x18 =>
 pureK (extractE x16 1) fun x19 =>
 pureK (bop .plain .neq x9 (I 0)) fun x20 =>
 condK x20 (
 ret1 H17 R (B false)
 ) (
 pureK (bop .ptr .eql x8 (.sc (.pointer none))) fun x21 =>
 condK x21 (
 ret1 H17 R (B false)
 ) (
 ACalls PP gΓ saga_Saga_Deal [x8] H17 fun x22 H23 =>
 pureK (bop .ptr .eql x22 (.sc (.pointer none))) fun x24 =>
 condK x24 (
 ret1 H23 R (B false)
 ) (
 ACalls PP gΓ saga_Saga_Disk [x8] H23 fun x25 H26 =>
 pureK (bop .ptr .eql x25 (.sc (.pointer none))) fun x27 =>
 condK x27 (
 ret1 H26 R (B false)
 ) (
 ACalls PP gΓ saga_Saga_Step [x8] H26 fun x28 H29 =>
 ACalls PP gΓ saga_Saga_Halt [x8] H29 fun x30 H31 =>
 ACalls PP gΓ saga_Saga_Step [x8] H31 fun x32 H33 =>
 ACalls PP gΓ saga_Saga_Recover [x8] H33 fun x34 H35 =>
 ACalls PP gΓ saga_Saga_Run [x8, I 9] H35 fun x36 H37 =>
 pureK (extractE x36 0) fun x38 =>
 pureK (extractE x36 1) fun x39 =>
 ACalls PP gΓ saga_Saga_Trace [x8] H37 fun x40 H41 =>
 pureK (extractE x40 0) fun x42 =>
 pureK (extractE x40 1) fun x43 =>
 allocP [.lst 0 [] .exact, .sc (.int .i64 0)] H41 fun o44 H45 =>
 heapK (st 2 H45 (.ptr o44 0) x42) fun H46 =>
 pureK (bop .plain .eql x14 (I 1)) fun x47 =>
 condK x47 (
 pureK (bop .plain .eql x19 (I 181)) fun x48 =>
 condK x48 (
 pureK (bop .plain .eql x28 (I 0)) fun x49 =>
 condK x49 (
 pureK (bop .plain .eql x30 (I 0)) fun x50 =>
 condK x50 (
 pureK (bop .plain .eql x32 (I 210)) fun x51 =>
 condK x51 (
 pureK (bop .plain .eql x34 (I 0)) fun x52 =>
 condK x52 (
 pureK (bop .plain .eql x38 (I 1)) fun x53 =>
 condK x53 (
 pureK (bop .plain .eql x39 (I 211)) fun x54 =>
 condK x54 (
 pureK (ld (some true) 2 H46 (.ptr o44 0)) fun x55 =>
 ACalls PP gΓ trace_Text [x55] H46 fun x56 H57 =>
 pureK (bop .plain .eql x56 (S s_a_20b_20ok)) fun x58 =>
 condK x58 (
 condK x43 (
 ACalls PP gΓ saga_Saga_Down [x8] H57 fun x59 H60 =>
 pureK (unE .not x59) fun x61 =>
 condK x61 (
 ACalls PP gΓ saga_Saga_Deal [x8] H60 fun x62 H63 =>
 ACalls PP gΓ deal_Dealer_Asked [x62] H63 fun x64 H65 =>
 pureK (bop .plain .eql x64 (I 3)) fun x66 =>
 condK x66 (
 ACalls PP gΓ saga_Saga_Deal [x8] H65 fun x67 H68 =>
 ACalls PP gΓ deal_Dealer_Done [x67] H68 fun x69 H70 =>
 pureK (lnl x69) fun x71 =>
 pureK (bop .plain .eql x71 (I 2)) fun x72 =>
 condK x72 (
 ACalls PP gΓ saga_Saga_State [x8] H70 fun x73 H74 =>
 pureK (fld 3 (some false) 1 x73) fun x75 =>
 pureK (bop .plain .eql x75 (I 2)) fun x76 =>
 ret1 H74 R x76
 ) (
 ret1 H70 R (B false)
 )
 ) (
 ret1 H65 R (B false)
 )
 ) (
 ret1 H60 R (B false)
 )
 ) (
 ret1 H57 R (B false)
 )
 ) (
 ret1 H57 R (B false)
 )
 ) (
 ret1 H46 R (B false)
 )
 ) (
 ret1 H46 R (B false)
 )
 ) (
 ret1 H46 R (B false)
 )
 ) (
 ret1 H46 R (B false)
 )
 ) (
 ret1 H46 R (B false)
 )
 ) (
 ret1 H46 R (B false)
 )
 ) (
 ret1 H46 R (B false)
 )
 ) (
 ret1 H46 R (B false)
 )
 )
 )
 )
 )
theorem law21_alive_of {H : Heap} {R : RR} (h : W_law21_alive  H R) : ACalls PP gΓ law21_alive [] H R :=
 ACalls.of_K (E := E_law21_alive) follows_PP Tryz.func9 (c := C_law21_alive) (by kernel_rfl) Tryz.ntmps9 (by kernel_rfl) h

def L_saga_Saga_Run : Nat → Option (List Nat) := fun k => bif Nat.beq k 1002 then some [0, 1, 6] else none
noncomputable abbrev E_saga_Saga_Run : Env := mkE 20 (L_saga_Saga_Run)
noncomputable def C_saga_Saga_Run : Code := Tryz.f10.body.getD .skip
def W_saga_Saga_Run (a0 a1 : AV) (H : Heap) (R : RR) : Prop :=
 ∃ J1 : List AV → Heap → Nat → Prop, (∃ (n7 : Nat) (H8 : Heap), H8 ≤ H ∧ J1 [a0, a1, I 0] H8 n7) ∧ ∀ (vs2 : List AV) (H3 : Heap) (n4 : Nat), J1 vs2 H3 n4 →
 pureK (bop .plain .lss (nth vs2 2) (nth vs2 1)) fun x9 =>
 condK x9 (
 ACalls PP gΓ saga_Saga_Step [nth vs2 0] H3 fun x10 H11 =>
 pureK (bop .plain .neq x10 (I 0)) fun x12 =>
 condK x12 (
 ret1 H11 R (.tup [nth vs2 2, x10])
 ) (
 pureK (bop .plain .add (nth vs2 2) (I 1)) fun x13 =>
 (∃ (n5 : Nat) (H6 : Heap), n5 < n4 ∧ H6 ≤ H11 ∧ J1 [nth vs2 0, nth vs2 1, x13] H6 n5)
 )
 ) (
 ret1 H3 R (.tup [nth vs2 2, I 0])
 )
theorem saga_Saga_Run_of {a0 a1 : AV} {H : Heap} {R : RR} (h : W_saga_Saga_Run a0 a1 H R) : ACalls PP gΓ saga_Saga_Run [a0, a1] H R :=
 ACalls.of_K (E := E_saga_Saga_Run) follows_PP Tryz.func10 (c := C_saga_Saga_Run) (by kernel_rfl) Tryz.ntmps10 (by kernel_rfl) h

noncomputable abbrev E_saga_Saga_Deal : Env := mkE 7 (fun _ => none)
noncomputable def C_saga_Saga_Deal : Code := Tryz.f11.body.getD .skip
def W_saga_Saga_Deal (a0 : AV) (H : Heap) (R : RR) : Prop :=
 pureK (nilE a0) fun x1 =>
 pureK (fa 2 x1) fun x2 =>
 pureK (ld (some false) 1 H x2) fun x3 =>
 ret1 H R x3
theorem saga_Saga_Deal_of {a0 : AV} {H : Heap} {R : RR} (h : W_saga_Saga_Deal a0 H R) : ACalls PP gΓ saga_Saga_Deal [a0] H R :=
 ACalls.of_K (E := E_saga_Saga_Deal) follows_PP Tryz.func11 (c := C_saga_Saga_Deal) (by kernel_rfl) Tryz.ntmps11 (by kernel_rfl) h

noncomputable abbrev E_deal_Dealer_Asked : Env := mkE 7 (fun _ => none)
noncomputable def C_deal_Dealer_Asked : Code := Tryz.f12.body.getD .skip
def W_deal_Dealer_Asked (a0 : AV) (H : Heap) (R : RR) : Prop :=
 pureK (nilE a0) fun x1 =>
 pureK (fa 3 x1) fun x2 =>
 pureK (ld (some false) 1 H x2) fun x3 =>
 ret1 H R x3
theorem deal_Dealer_Asked_of {a0 : AV} {H : Heap} {R : RR} (h : W_deal_Dealer_Asked a0 H R) : ACalls PP gΓ deal_Dealer_Asked [a0] H R :=
 ACalls.of_K (E := E_deal_Dealer_Asked) follows_PP Tryz.func12 (c := C_deal_Dealer_Asked) (by kernel_rfl) Tryz.ntmps12 (by kernel_rfl) h

noncomputable abbrev E_saga_Saga_Disk : Env := mkE 11 (fun _ => none)
noncomputable def C_saga_Saga_Disk : Code := Tryz.f13.body.getD .skip
def W_saga_Saga_Disk (a0 : AV) (H : Heap) (R : RR) : Prop :=
 pureK (nilE a0) fun x1 =>
 pureK (fa 0 x1) fun x2 =>
 pureK (fa 0 x2) fun x3 =>
 pureK (ld (some false) 1 H x3) fun x4 =>
 pureK (nilE x4) fun x5 =>
 pureK (fa 0 x5) fun x6 =>
 pureK (ld (some false) 1 H x6) fun x7 =>
 ret1 H R x7
theorem saga_Saga_Disk_of {a0 : AV} {H : Heap} {R : RR} (h : W_saga_Saga_Disk a0 H R) : ACalls PP gΓ saga_Saga_Disk [a0] H R :=
 ACalls.of_K (E := E_saga_Saga_Disk) follows_PP Tryz.func13 (c := C_saga_Saga_Disk) (by kernel_rfl) Tryz.ntmps13 (by kernel_rfl) h

noncomputable abbrev E_disk_Disk_Blocks : Env := mkE 8 (fun _ => none)
noncomputable def C_disk_Disk_Blocks : Code := Tryz.f14.body.getD .skip
def W_disk_Disk_Blocks (a0 : AV) (H : Heap) (R : RR) : Prop :=
 pureK (nilE a0) fun x1 =>
 pureK (fa 0 x1) fun x2 =>
 pureK (ld (some false) 1 H x2) fun x3 =>
 pureK (lnl x3) fun x4 =>
 ret1 H R x4
theorem disk_Disk_Blocks_of {a0 : AV} {H : Heap} {R : RR} (h : W_disk_Disk_Blocks a0 H R) : ACalls PP gΓ disk_Disk_Blocks [a0] H R :=
 ACalls.of_K (E := E_disk_Disk_Blocks) follows_PP Tryz.func14 (c := C_disk_Disk_Blocks) (by kernel_rfl) Tryz.ntmps14 (by kernel_rfl) h

noncomputable abbrev E_disk_Disk_Write : Env := mkE 45 (fun _ => none)
noncomputable def C_disk_Disk_Write : Code := Tryz.f15.body.getD .skip
def W_disk_Disk_Write (a0 a1 a2 : AV) (H : Heap) (R : RR) : Prop :=
 ACalls PP gΓ disk_Disk_has [a0, a1] H fun x1 H2 =>
 pureK (unE .not x1) fun x3 =>
 condK x3 (
 ret1 H2 R (I 1)
 ) (
 pureK (lnl a2) fun x4 =>
 pureK (bop .plain .gtr x4 (I 16)) fun x5 =>
 condK x5 (
 ret1 H2 R (I 1)
 ) (
 ACalls PP gΓ disk_Disk_Down [a0] H2 fun x6 H7 =>
 condK x6 (
 ret1 H7 R (I 170)
 ) (
 allocP (List.replicate 16 (.sc (.int .u8 0))) H7 fun o8 H9 =>
 pureK (sla 16 1 (.ptr o8 0) none none none) fun x10 =>
 cpy 1 x10 a2 H9 fun x11 H12 =>
 pureK (nilE a0) fun x13 =>
 pureK (fa 0 x13) fun x14 =>
 pureK (ld (some false) 1 H12 x14) fun x15 =>
 pureK (ld (some true) 16 H12 (.ptr o8 0)) fun x16 =>
 pureK (ias 16 x15 a1) fun x17 =>
 heapK (st 16 H12 x17 x16) fun H18 =>
 pureK (nilE a0) fun x19 =>
 pureK (fa 1 x19) fun x20 =>
 pureK (ld (some false) 1 H18 x20) fun x21 =>
 pureK (bop .plain .add x21 (I 1)) fun x22 =>
 pureK (nilE a0) fun x23 =>
 pureK (fa 1 x23) fun x24 =>
 heapK (st 1 H18 x24 x22) fun H25 =>
 pureK (nilE a0) fun x26 =>
 pureK (fa 3 x26) fun x27 =>
 pureK (ld (some false) 1 H25 x27) fun x28 =>
 pureK (bop .plain .sub x28 (I 1)) fun x29 =>
 pureK (nilE a0) fun x30 =>
 pureK (fa 3 x30) fun x31 =>
 heapK (st 1 H25 x31 x29) fun H32 =>
 ret1 H32 R (I 0)
 )
 )
 )
theorem disk_Disk_Write_of {a0 a1 a2 : AV} {H : Heap} {R : RR} (h : W_disk_Disk_Write a0 a1 a2 H R) : ACalls PP gΓ disk_Disk_Write [a0, a1, a2] H R :=
 ACalls.of_K (E := E_disk_Disk_Write) follows_PP Tryz.func15 (c := C_disk_Disk_Write) (by kernel_rfl) Tryz.ntmps15 (by kernel_rfl) h

noncomputable abbrev E_saga_Saga_Recover : Env := mkE 45 (fun _ => none)
noncomputable def C_saga_Saga_Recover : Code := Tryz.f16.body.getD .skip
def W_saga_Saga_Recover (a0 : AV) (H : Heap) (R : RR) : Prop :=
 pureK (nilE a0) fun x1 =>
 pureK (fa 0 x1) fun x2 =>
 pureK (fa 0 x2) fun x3 =>
 pureK (ld (some false) 1 H x3) fun x4 =>
 pureK (nilE x4) fun x5 =>
 pureK (fa 0 x5) fun x6 =>
 pureK (ld (some false) 1 H x6) fun x7 =>
 ACalls PP gΓ disk_Disk_Up [x7] H fun x8 H9 =>
 pureK (nilE a0) fun x10 =>
 pureK (fa 9 x10) fun x11 =>
 heapK (st 1 H9 x11 (B true)) fun H12 =>
 pureK (nilE a0) fun x13 =>
 pureK (fa 0 x13) fun x14 =>
 pureK (fa 0 x14) fun x15 =>
 pureK (ld (some false) 1 H12 x15) fun x16 =>
 ACalls PP gΓ slots_Store_Last [x16] H12 fun x17 H18 =>
 pureK (extractE x17 0) fun x19 =>
 pureK (extractE x17 1) fun x20 =>
 pureK (extractE x17 2) fun x21 =>
 pureK (bop .plain .neq x21 (I 0)) fun x22 =>
 condK x22 (
 ret1 H18 R (I 212)
 ) (
 ACalls PP gΓ code_Decode [x20] H18 fun x23 H24 =>
 pureK (extractE x23 0) fun x25 =>
 pureK (extractE x23 1) fun x26 =>
 allocP [.lst 0 [] .exact, .sc (.int .i64 0), .sc (.int .i64 0), .sc (.int .i64 0), .lst 0 [] .exact] H24 fun o27 H28 =>
 heapK (st 5 H28 (.ptr o27 0) x25) fun H29 =>
 pureK (bop .plain .neq x26 (I 0)) fun x30 =>
 condK x30 (
 ret1 H29 R (I 212)
 ) (
 pureK (ld (some true) 5 H29 (.ptr o27 0)) fun x31 =>
 pureK (nilE a0) fun x32 =>
 pureK (fa 4 x32) fun x33 =>
 heapK (st 5 H29 x33 x31) fun H34 =>
 pureK (nilE a0) fun x35 =>
 pureK (fa 9 x35) fun x36 =>
 heapK (st 1 H34 x36 (B false)) fun H37 =>
 ret1 H37 R (I 0)
 )
 )
theorem saga_Saga_Recover_of {a0 : AV} {H : Heap} {R : RR} (h : W_saga_Saga_Recover a0 H R) : ACalls PP gΓ saga_Saga_Recover [a0] H R :=
 ACalls.of_K (E := E_saga_Saga_Recover) follows_PP Tryz.func16 (c := C_saga_Saga_Recover) (by kernel_rfl) Tryz.ntmps16 (by kernel_rfl) h

noncomputable abbrev E_saga_Saga_Step : Env := mkE 20 (fun _ => none)
noncomputable def C_saga_Saga_Step : Code := Tryz.f17.body.getD .skip
def W_saga_Saga_Step (a0 : AV) (H : Heap) (R : RR) : Prop :=
 ACalls PP gΓ saga_Saga_stops [a0] H fun x1 H2 =>
 pureK (bop .plain .neq x1 (I 0)) fun x3 =>
 condK x3 (
 ret1 H2 R x1
 ) (
 ACalls PP gΓ saga_Saga_done [a0] H2 fun x4 H5 =>
 pureK (nilE a0) fun x6 =>
 pureK (fa 4 x6) fun x7 =>
 heapK (st 5 H5 x7 x4) fun H8 =>
 ACalls PP gΓ saga_Saga_keep [a0] H8 fun x9 H10 =>
 pureK (bop .plain .neq x9 (I 0)) fun x11 =>
 condK x11 (
 pureK (nilE a0) fun x12 =>
 pureK (fa 9 x12) fun x13 =>
 heapK (st 1 H10 x13 (B true)) fun H14 =>
 ret1 H14 R (I 210)
 ) (
 ret1 H10 R (I 0)
 )
 )
theorem saga_Saga_Step_of {a0 : AV} {H : Heap} {R : RR} (h : W_saga_Saga_Step a0 H R) : ACalls PP gΓ saga_Saga_Step [a0] H R :=
 ACalls.of_K (E := E_saga_Saga_Step) follows_PP Tryz.func17 (c := C_saga_Saga_Step) (by kernel_rfl) Tryz.ntmps17 (by kernel_rfl) h

noncomputable abbrev E_saga_Saga_Halt : Env := mkE 14 (fun _ => none)
noncomputable def C_saga_Saga_Halt : Code := Tryz.f18.body.getD .skip
def W_saga_Saga_Halt (a0 : AV) (H : Heap) (R : RR) : Prop :=
 ACalls PP gΓ saga_Saga_stops [a0] H fun x1 H2 =>
 pureK (bop .plain .neq x1 (I 0)) fun x3 =>
 condK x3 (
 ret1 H2 R x1
 ) (
 ACalls PP gΓ saga_Saga_done [a0] H2 fun x4 H5 =>
 pureK (nilE a0) fun x6 =>
 pureK (fa 9 x6) fun x7 =>
 heapK (st 1 H5 x7 (B true)) fun H8 =>
 ret1 H8 R (I 0)
 )
theorem saga_Saga_Halt_of {a0 : AV} {H : Heap} {R : RR} (h : W_saga_Saga_Halt a0 H R) : ACalls PP gΓ saga_Saga_Halt [a0] H R :=
 ACalls.of_K (E := E_saga_Saga_Halt) follows_PP Tryz.func18 (c := C_saga_Saga_Halt) (by kernel_rfl) Tryz.ntmps18 (by kernel_rfl) h

noncomputable abbrev E_saga_Saga_Trace : Env := mkE 26 (fun _ => none)
noncomputable def C_saga_Saga_Trace : Code := Tryz.f19.body.getD .skip
def W_saga_Saga_Trace (a0 : AV) (H : Heap) (R : RR) : Prop :=
 allocP [.lst 0 [] .exact, .sc (.int .i64 0)] H fun o1 H2 =>
 pureK (nilE a0) fun x3 =>
 pureK (fa 4 x3) fun x4 =>
 pureK (fa 0 x4) fun x5 =>
 pureK (ld (some false) 1 H2 x5) fun x6 =>
 ACalls PP gΓ settle_Ended [x6] H2 fun x7 H8 =>
 pureK (extractE x7 0) fun x9 =>
 pureK (extractE x7 1) fun x10 =>
 pureK (unE .not x10) fun x11 =>
 condK x11 (
 pureK (bld [(0, 1), (1, 1)] [.lst 0 [] .exact, .sc (.int .i64 0)] []) fun x12 =>
 heapK (st 2 H8 (.ptr o1 0) x12) fun H13 =>
 pureK (ld (some true) 2 H13 (.ptr o1 0)) fun x14 =>
 ret1 H13 R (.tup [x14, B false])
 ) (
 pureK (nilE a0) fun x15 =>
 pureK (fa 4 x15) fun x16 =>
 pureK (fa 4 x16) fun x17 =>
 pureK (ld (some false) 1 H8 x17) fun x18 =>
 ACalls PP gΓ slices_Clone_string [x18] H8 fun x19 H20 =>
 pureK (bld [(0, 1), (1, 1)] [.lst 0 [] .exact, .sc (.int .i64 0)] [(0, x19), (1, x9)]) fun x21 =>
 heapK (st 2 H20 (.ptr o1 0) x21) fun H22 =>
 pureK (ld (some true) 2 H22 (.ptr o1 0)) fun x23 =>
 ret1 H22 R (.tup [x23, B true])
 )
theorem saga_Saga_Trace_of {a0 : AV} {H : Heap} {R : RR} (h : W_saga_Saga_Trace a0 H R) : ACalls PP gΓ saga_Saga_Trace [a0] H R :=
 ACalls.of_K (E := E_saga_Saga_Trace) follows_PP Tryz.func19 (c := C_saga_Saga_Trace) (by kernel_rfl) Tryz.ntmps19 (by kernel_rfl) h

noncomputable abbrev E_saga_Saga_Down : Env := mkE 7 (fun _ => none)
noncomputable def C_saga_Saga_Down : Code := Tryz.f20.body.getD .skip
def W_saga_Saga_Down (a0 : AV) (H : Heap) (R : RR) : Prop :=
 pureK (nilE a0) fun x1 =>
 pureK (fa 9 x1) fun x2 =>
 pureK (ld (some false) 1 H x2) fun x3 =>
 ret1 H R x3
theorem saga_Saga_Down_of {a0 : AV} {H : Heap} {R : RR} (h : W_saga_Saga_Down a0 H R) : ACalls PP gΓ saga_Saga_Down [a0] H R :=
 ACalls.of_K (E := E_saga_Saga_Down) follows_PP Tryz.func20 (c := C_saga_Saga_Down) (by kernel_rfl) Tryz.ntmps20 (by kernel_rfl) h

noncomputable abbrev E_saga_Saga_State : Env := mkE 26 (fun _ => none)
noncomputable def C_saga_Saga_State : Code := Tryz.f22.body.getD .skip
def W_saga_Saga_State (a0 : AV) (H : Heap) (R : RR) : Prop :=
 allocP [.lst 0 [] .exact, .sc (.int .i64 0), .sc (.int .i64 0), .sc (.int .i64 0), .lst 0 [] .exact] H fun o1 H2 =>
 pureK (nilE a0) fun x3 =>
 pureK (fa 4 x3) fun x4 =>
 pureK (fa 0 x4) fun x5 =>
 pureK (ld (some false) 1 H2 x5) fun x6 =>
 ∃ x7, AReads PP gΓ slices_Clone_Node [x6] H2 x7 ∧
 pureK (nilE a0) fun x8 =>
 pureK (fa 4 x8) fun x9 =>
 pureK (fa 1 x9) fun x10 =>
 pureK (ld (some true) 2 H2 x10) fun x11 =>
 pureK (nilE a0) fun x12 =>
 pureK (fa 4 x12) fun x13 =>
 pureK (fa 3 x13) fun x14 =>
 pureK (ld (some false) 1 H2 x14) fun x15 =>
 pureK (nilE a0) fun x16 =>
 pureK (fa 4 x16) fun x17 =>
 pureK (fa 4 x17) fun x18 =>
 pureK (ld (some false) 1 H2 x18) fun x19 =>
 ∃ x20, AReads PP gΓ slices_Clone_string [x19] H2 x20 ∧
 pureK (bld [(0, 1), (1, 2), (3, 1), (4, 1)] [.lst 0 [] .exact, .sc (.int .i64 0), .sc (.int .i64 0), .sc (.int .i64 0), .lst 0 [] .exact] [(0, x7), (1, x11), (2, x15), (3, x20)]) fun x21 =>
 heapK (st 5 H2 (.ptr o1 0) x21) fun H22 =>
 pureK (ld (some true) 5 H22 (.ptr o1 0)) fun x23 =>
 ret1 H22 R x23
theorem saga_Saga_State_of {a0 : AV} {H : Heap} {R : RR} (h : W_saga_Saga_State a0 H R) : ACalls PP gΓ saga_Saga_State [a0] H R :=
 ACalls.of_K (E := E_saga_Saga_State) follows_PP Tryz.func22 (c := C_saga_Saga_State) (by kernel_rfl) Tryz.ntmps22 (by kernel_rfl) h

noncomputable abbrev E_law21_Do : Env := mkE 36 (fun _ => none)
noncomputable def C_law21_Do : Code := Tryz.f23.body.getD .skip
def W_law21_Do (a0 a1 : AV) (H : Heap) (R : RR) : Prop :=
 allocK (some (AV.cells a1)) H fun p1 H2 =>
 pureK (fa 0 p1) fun x3 =>
 pureK (ld (some false) 1 H2 x3) fun x4 =>
 pureK (bop .plain .eql x4 (I 1)) fun x5 =>
 condK x5 (
 ACalls PP gΓ saga_Saga_Step [a0] H2 fun x6 H7 =>
 ret1 H7 R (.tup [I 0, x6])
 ) (
 pureK (bop .plain .eql x4 (I 2)) fun x8 =>
 condK x8 (
 ACalls PP gΓ saga_Saga_Halt [a0] H2 fun x9 H10 =>
 ret1 H10 R (.tup [I 0, x9])
 ) (
 pureK (bop .plain .eql x4 (I 3)) fun x11 =>
 condK x11 (
 ACalls PP gΓ saga_Saga_Recover [a0] H2 fun x12 H13 =>
 ret1 H13 R (.tup [I 0, x12])
 ) (
 pureK (bop .plain .eql x4 (I 4)) fun x14 =>
 condK x14 (
 ∃ x15, AReads PP gΓ saga_Saga_Disk [a0] H2 x15 ∧
 pureK (fa 1 p1) fun x16 =>
 pureK (ld (some false) 1 H2 x16) fun x17 =>
 ACalls PP gΓ disk_Disk_Cut [x15, x17] H2 fun x18 H19 =>
 ret1 H19 R (.tup [I 0, I 0])
 ) (
 pureK (bop .plain .eql x4 (I 5)) fun x20 =>
 condK x20 (
 pureK (fa 1 p1) fun x21 =>
 pureK (ld (some false) 1 H2 x21) fun x22 =>
 pureK (minE [x22, I 1000]) fun x23 =>
 ACalls PP gΓ saga_Saga_Run [a0, x23] H2 fun x24 H25 =>
 pureK (extractE x24 0) fun x26 =>
 pureK (extractE x24 1) fun x27 =>
 ret1 H25 R (.tup [x26, x27])
 ) (
 ret1 H2 R (.tup [I 0, I 0])
 )
 )
 )
 )
 )
theorem law21_Do_of {a0 a1 : AV} {H : Heap} {R : RR} (h : W_law21_Do a0 a1 H R) : ACalls PP gΓ law21_Do [a0, a1] H R :=
 ACalls.of_K (E := E_law21_Do) follows_PP Tryz.func23 (c := C_law21_Do) (by kernel_rfl) Tryz.ntmps23 (by kernel_rfl) h

noncomputable abbrev E_code_Same : Env := mkE 33 (fun _ => none)
noncomputable def C_code_Same : Code := Tryz.f24.body.getD .skip
def W_code_Same (a0 a1 : AV) (H : Heap) (R : RR) : Prop :=
 allocK (some (AV.cells a0)) H fun p1 H2 =>
 allocK (some (AV.cells a1)) H2 fun p3 H4 =>
 pureK (fa 0 p1) fun x5 =>
 pureK (ld (some false) 1 H4 x5) fun x6 =>
 pureK (fa 0 p3) fun x7 =>
 pureK (ld (some false) 1 H4 x7) fun x8 =>
 ACalls PP gΓ row_Same [x6, x8] H4 fun x9 H10 =>
 condK x9 (
 pureK (fa 1 p1) fun x11 =>
 pureK (ld (some true) 2 H10 x11) fun x12 =>
 pureK (fa 1 p3) fun x13 =>
 pureK (ld (some true) 2 H10 x13) fun x14 =>
 pureK (bop (.flat [.int, .int]) .eql x12 x14) fun x15 =>
 condK x15 (
 pureK (fa 3 p1) fun x16 =>
 pureK (ld (some false) 1 H10 x16) fun x17 =>
 pureK (fa 3 p3) fun x18 =>
 pureK (ld (some false) 1 H10 x18) fun x19 =>
 pureK (bop .plain .eql x17 x19) fun x20 =>
 condK x20 (
 pureK (fa 4 p1) fun x21 =>
 pureK (ld (some false) 1 H10 x21) fun x22 =>
 pureK (fa 4 p3) fun x23 =>
 pureK (ld (some false) 1 H10 x23) fun x24 =>
 callK (E_code_Same) (.fn (.func code_Same_1) [] []) [x22, x24] H10 fun x25 H26 =>
 ret1 H26 R x25
 ) (
 ret1 H10 R (B false)
 )
 ) (
 ret1 H10 R (B false)
 )
 ) (
 ret1 H10 R (B false)
 )
theorem code_Same_of {a0 a1 : AV} {H : Heap} {R : RR} (h : W_code_Same a0 a1 H R) : ACalls PP gΓ code_Same [a0, a1] H R :=
 ACalls.of_K (E := E_code_Same) follows_PP Tryz.func24 (c := C_code_Same) (by kernel_rfl) Tryz.ntmps24 (by kernel_rfl) h

noncomputable abbrev E_disk_Disk_Writes : Env := mkE 7 (fun _ => none)
noncomputable def C_disk_Disk_Writes : Code := Tryz.f25.body.getD .skip
def W_disk_Disk_Writes (a0 : AV) (H : Heap) (R : RR) : Prop :=
 pureK (nilE a0) fun x1 =>
 pureK (fa 1 x1) fun x2 =>
 pureK (ld (some false) 1 H x2) fun x3 =>
 ret1 H R x3
theorem disk_Disk_Writes_of {a0 : AV} {H : Heap} {R : RR} (h : W_disk_Disk_Writes a0 H R) : ACalls PP gΓ disk_Disk_Writes [a0] H R :=
 ACalls.of_K (E := E_disk_Disk_Writes) follows_PP Tryz.func25 (c := C_disk_Disk_Writes) (by kernel_rfl) Tryz.ntmps25 (by kernel_rfl) h

noncomputable abbrev E_settle_Begin : Env := mkE 8 (fun _ => none)
noncomputable def C_settle_Begin : Code := Tryz.f27.body.getD .skip
def W_settle_Begin (a0 : AV) (H : Heap) (R : RR) : Prop :=
 ACalls PP gΓ sort_Right [a0] H fun x1 H2 =>
 pureK (unE .not x1) fun x3 =>
 condK x3 (
 ret1 H2 R (.lst 0 [] .exact)
 ) (
 ACalls PP gΓ settle_Settle [a0] H2 fun x4 H5 =>
 ret1 H5 R x4
 )
theorem settle_Begin_of {a0 : AV} {H : Heap} {R : RR} (h : W_settle_Begin a0 H R) : ACalls PP gΓ settle_Begin [a0] H R :=
 ACalls.of_K (E := E_settle_Begin) follows_PP Tryz.func27 (c := C_settle_Begin) (by kernel_rfl) Tryz.ntmps27 (by kernel_rfl) h

noncomputable abbrev E_saga_New : Env := ⟨PP, gΓ, 62, fun _ => none, fun f => Nat.beq f deal_New, []⟩
noncomputable def C_saga_New : Code := Tryz.f30.body.getD .skip
def W_saga_New (a0 a1 : AV) (H : Heap) (R : RR) : Prop :=
 allocK (some (AV.cells a1)) H fun p1 H2 =>
 ACalls PP gΓ sort_Right [a0] H2 fun x3 H4 =>
 pureK (unE .not x3) fun x5 =>
 condK x5 (
 ret1 H4 R (.tup [.sc (.pointer none), I 1])
 ) (
 pureK (fa 2 p1) fun x6 =>
 pureK (ld (some false) 1 H4 x6) fun x7 =>
 ACalls PP gΓ disk_New [x7] H4 fun x8 H9 =>
 pureK (extractE x8 0) fun x10 =>
 pureK (extractE x8 1) fun x11 =>
 pureK (bop .plain .neq x11 (I 0)) fun x12 =>
 condK x12 (
 ret1 H9 R (.tup [.sc (.pointer none), x11])
 ) (
 ACalls PP gΓ slots_New [x10] H9 fun x13 H14 =>
 pureK (extractE x13 0) fun x15 =>
 pureK (extractE x13 1) fun x16 =>
 pureK (bop .plain .neq x16 (I 0)) fun x17 =>
 condK x17 (
 ret1 H14 R (.tup [.sc (.pointer none), x16])
 ) (
 pureK (lnl a0) fun x18 =>
 ACalls PP gΓ code_Long [x18] H14 fun x19 H20 =>
 ACalls PP gΓ slots_Store_Room [x15] H20 fun x21 H22 =>
 pureK (bop .plain .gtr x19 x21) fun x23 =>
 condK x23 (
 ret1 H22 R (.tup [.sc (.pointer none), I 181])
 ) (
 ∃ fp24 : Option Nat, (∀ p, fp24 = some p → H22 p ≠ none) ∧
 pureK (bld [(0, 1)] [.sc (.pointer none)] [(0, x15)]) fun x25 =>
 pureK (fa 0 p1) fun x26 =>
 pureK (ld (some false) 1 (rem H22 fp24) x26) fun x27 =>
 ∃ x28, AReads PP gΓ slices_Clone_int [x27] (rem H22 fp24) x28 ∧
 pureK (fa 1 p1) fun x29 =>
 pureK (ld (some false) 1 (rem H22 fp24) x29) fun x30 =>
 ∃ φ31 v32, AMakes PP gΓ deal_New [x30] H22 fp24 φ31 ∧ MkVal φ31 v32 ∧
 ∃ x33, AReads PP gΓ settle_Begin [a0] (rem H22 fp24) x33 ∧
 pureK (bld [(0, 1), (1, 2), (3, 1), (4, 1)] [.lst 0 [] .exact, .sc (.int .i64 0), .sc (.int .i64 0), .sc (.int .i64 0), .lst 0 [] .exact] [(0, x33)]) fun x34 =>
 ∀ rf35 ob36, φ31 rf35 ob36 → madeK fp24 H22 rf35 ob36 fun x37 H38 =>
 pureK (bld [(0, 1), (1, 1), (2, 1), (3, 1), (4, 5), (9, 1)] [.sc (.pointer none), .lst 0 [] .exact, .sc (.pointer none), .sc .nilFunc, .lst 0 [] .exact, .sc (.int .i64 0), .sc (.int .i64 0), .sc (.int .i64 0), .lst 0 [] .exact, B false] [(0, x25), (1, x28), (2, x37), (4, x34)]) fun x39 =>
 allocK (some (AV.cells x39)) H38 fun p40 H41 =>
 pureK (nilE p40) fun x42 =>
 pureK (fa 2 x42) fun x43 =>
 pureK (ld (some false) 1 H41 x43) fun x44 =>
 pureK (nilE p40) fun x45 =>
 pureK (fa 3 x45) fun x46 =>
 heapK (st 1 H41 x46 (.fn (.func deal_Dealer_Ask) [x44] [])) fun H47 =>
 ACalls PP gΓ saga_Saga_keep [p40] H47 fun x48 H49 =>
 ret1 H49 R (.tup [p40, x48])
 )
 )
 )
 )
theorem saga_New_of {a0 a1 : AV} {H : Heap} {R : RR} (h : W_saga_New a0 a1 H R) : ACalls PP gΓ saga_New [a0, a1] H R :=
 ACalls.of_K (E := E_saga_New) follows_PP Tryz.func30 (c := C_saga_New) (by kernel_rfl) Tryz.ntmps30 (by kernel_rfl) h

noncomputable abbrev E_ref03_Depth : Env := mkE 11 (fun _ => none)
noncomputable def C_ref03_Depth : Code := Tryz.f31.body.getD .skip
def W_ref03_Depth (a0 : AV) (H : Heap) (R : RR) : Prop :=
 ACalls PP gΓ ref03_Walk [a0, I 0] H fun x1 H2 =>
 pureK (extractE x1 0) fun x3 =>
 pureK (extractE x1 1) fun x4 =>
 ret1 H2 R x4
theorem ref03_Depth_of {a0 : AV} {H : Heap} {R : RR} (h : W_ref03_Depth a0 H R) : ACalls PP gΓ ref03_Depth [a0] H R :=
 ACalls.of_K (E := E_ref03_Depth) follows_PP Tryz.func31 (c := C_ref03_Depth) (by kernel_rfl) Tryz.ntmps31 (by kernel_rfl) h

def L_trace_Text : Nat → Option (List Nat) := fun k => bif Nat.beq k 1003 then some [1, 3, 7, 8, 9] else none
noncomputable abbrev E_trace_Text : Env := mkE 23 (L_trace_Text)
noncomputable def C_trace_Text : Code := Tryz.f32.body.getD .skip
def W_trace_Text (a0 : AV) (H : Heap) (R : RR) : Prop :=
 allocK (some (AV.cells a0)) H fun p1 H2 =>
 pureK (fa 0 p1) fun x3 =>
 pureK (ld (some false) 1 H2 x3) fun x4 =>
 pureK (lnl x4) fun x5 =>
 ∃ J6 : List AV → Heap → Nat → Prop, (∃ (n12 : Nat) (H13 : Heap), H13 ≤ H2 ∧ J6 [p1, S emp, x4, x5, I 0] H13 n12) ∧ ∀ (vs7 : List AV) (H8 : Heap) (n9 : Nat), J6 vs7 H8 n9 →
 pureK (bop .plain .lss (nth vs7 4) (nth vs7 3)) fun x14 =>
 condK x14 (
 pureK (ias 1 (nth vs7 2) (nth vs7 4)) fun x15 =>
 pureK (ld (some false) 1 H8 x15) fun x16 =>
 pureK (bop .plain .add x16 (S s__20)) fun x17 =>
 pureK (bop .plain .add (nth vs7 1) x17) fun x18 =>
 pureK (bop .plain .add (nth vs7 4) (I 1)) fun x19 =>
 (∃ (n10 : Nat) (H11 : Heap), n10 < n9 ∧ H11 ≤ H8 ∧ J6 [nth vs7 0, x18, nth vs7 2, nth vs7 3, x19] H11 n10)
 ) (
 pureK (fa 1 (nth vs7 0)) fun x20 =>
 pureK (ld (some false) 1 H8 x20) fun x21 =>
 ACalls PP gΓ sign_Text [x21] H8 fun x22 H23 =>
 pureK (bop .plain .add (nth vs7 1) x22) fun x24 =>
 ret1 H23 R x24
 )
theorem trace_Text_of {a0 : AV} {H : Heap} {R : RR} (h : W_trace_Text a0 H R) : ACalls PP gΓ trace_Text [a0] H R :=
 ACalls.of_K (E := E_trace_Text) follows_PP Tryz.func32 (c := C_trace_Text) (by kernel_rfl) Tryz.ntmps32 (by kernel_rfl) h

noncomputable abbrev E_deal_Dealer_Done : Env := mkE 8 (fun _ => none)
noncomputable def C_deal_Dealer_Done : Code := Tryz.f33.body.getD .skip
def W_deal_Dealer_Done (a0 : AV) (H : Heap) (R : RR) : Prop :=
 pureK (nilE a0) fun x1 =>
 pureK (fa 1 x1) fun x2 =>
 pureK (ld (some false) 1 H x2) fun x3 =>
 ACalls PP gΓ deal_picked_deal_Deed_string [x3, .fn (.func deal_Dealer_Done_1) [] [], .fn (.func deal_name) [] []] H fun x4 H5 =>
 ret1 H5 R x4
theorem deal_Dealer_Done_of {a0 : AV} {H : Heap} {R : RR} (h : W_deal_Dealer_Done a0 H R) : ACalls PP gΓ deal_Dealer_Done [a0] H R :=
 ACalls.of_K (E := E_deal_Dealer_Done) follows_PP Tryz.func33 (c := C_deal_Dealer_Done) (by kernel_rfl) Tryz.ntmps33 (by kernel_rfl) h

noncomputable abbrev E_disk_Disk_has : Env := mkE 16 (fun _ => none)
noncomputable def C_disk_Disk_has : Code := Tryz.f34.body.getD .skip
def W_disk_Disk_has (a0 a1 : AV) (H : Heap) (R : RR) : Prop :=
 pureK (bop .plain .geq a1 (I 0)) fun x1 =>
 condK x1 (
 pureK (nilE a0) fun x2 =>
 pureK (fa 0 x2) fun x3 =>
 pureK (ld (some false) 1 H x3) fun x4 =>
 pureK (lnl x4) fun x5 =>
 pureK (bop .plain .lss a1 x5) fun x6 =>
 ret1 H R x6
 ) (
 ret1 H R (B false)
 )
theorem disk_Disk_has_of {a0 a1 : AV} {H : Heap} {R : RR} (h : W_disk_Disk_has a0 a1 H R) : ACalls PP gΓ disk_Disk_has [a0, a1] H R :=
 ACalls.of_K (E := E_disk_Disk_has) follows_PP Tryz.func34 (c := C_disk_Disk_has) (by kernel_rfl) Tryz.ntmps34 (by kernel_rfl) h

noncomputable abbrev E_disk_Disk_Down : Env := mkE 14 (fun _ => none)
noncomputable def C_disk_Disk_Down : Code := Tryz.f35.body.getD .skip
def W_disk_Disk_Down (a0 : AV) (H : Heap) (R : RR) : Prop :=
 pureK (nilE a0) fun x1 =>
 pureK (fa 2 x1) fun x2 =>
 pureK (ld (some false) 1 H x2) fun x3 =>
 condK x3 (
 pureK (nilE a0) fun x4 =>
 pureK (fa 3 x4) fun x5 =>
 pureK (ld (some false) 1 H x5) fun x6 =>
 pureK (bop .plain .leq x6 (I 0)) fun x7 =>
 ret1 H R x7
 ) (
 ret1 H R (B false)
 )
theorem disk_Disk_Down_of {a0 : AV} {H : Heap} {R : RR} (h : W_disk_Disk_Down a0 H R) : ACalls PP gΓ disk_Disk_Down [a0] H R :=
 ACalls.of_K (E := E_disk_Disk_Down) follows_PP Tryz.func35 (c := C_disk_Disk_Down) (by kernel_rfl) Tryz.ntmps35 (by kernel_rfl) h

noncomputable abbrev E_disk_Disk_Up : Env := mkE 5 (fun _ => none)
noncomputable def C_disk_Disk_Up : Code := Tryz.f36.body.getD .skip
def W_disk_Disk_Up (a0 : AV) (H : Heap) (R : RR) : Prop :=
 pureK (nilE a0) fun x1 =>
 pureK (fa 2 x1) fun x2 =>
 heapK (st 1 H x2 (B false)) fun H3 =>
 ret1 H3 R (.tup [])
theorem disk_Disk_Up_of {a0 : AV} {H : Heap} {R : RR} (h : W_disk_Disk_Up a0 H R) : ACalls PP gΓ disk_Disk_Up [a0] H R :=
 ACalls.of_K (E := E_disk_Disk_Up) follows_PP Tryz.func36 (c := C_disk_Disk_Up) (by kernel_rfl) Tryz.ntmps36 (by kernel_rfl) h

def L_slots_Store_Last : Nat → Option (List Nat) := fun k => bif Nat.beq k 1004 then some [0, 5, 6, 11] else none
noncomputable abbrev E_slots_Store_Last : Env := mkE 34 (L_slots_Store_Last)
noncomputable def C_slots_Store_Last : Code := Tryz.f37.body.getD .skip
def W_slots_Store_Last (a0 : AV) (H : Heap) (R : RR) : Prop :=
 ∃ J1 : List AV → Heap → Nat → Prop, (∃ (n7 : Nat) (H8 : Heap), H8 ≤ H ∧ J1 [a0, .sc (.int .u64 0), .lst 0 [] .exact, I 0] H8 n7) ∧ ∀ (vs2 : List AV) (H3 : Heap) (n4 : Nat), J1 vs2 H3 n4 →
 pureK (bop .plain .lss (nth vs2 3) (I 2)) fun x9 =>
 condK x9 (
 ACalls PP gΓ slots_Store_Slot [nth vs2 0, nth vs2 3] H3 fun x10 H11 =>
 pureK (extractE x10 0) fun x12 =>
 pureK (extractE x10 1) fun x13 =>
 pureK (extractE x10 2) fun x14 =>
 condK x14 (
 pureK (bop .plain .gtr x12 (nth vs2 1)) fun x15 =>
 condK x15 (
 pureK (bop .plain .add (nth vs2 3) (I 1)) fun x16 =>
 (∃ (n5 : Nat) (H6 : Heap), n5 < n4 ∧ H6 ≤ H11 ∧ J1 [nth vs2 0, x12, x13, x16] H6 n5)
 ) (
 pureK (bop .plain .add (nth vs2 3) (I 1)) fun x17 =>
 (∃ (n5 : Nat) (H6 : Heap), n5 < n4 ∧ H6 ≤ H11 ∧ J1 [nth vs2 0, nth vs2 1, nth vs2 2, x17] H6 n5)
 )
 ) (
 pureK (bop .plain .add (nth vs2 3) (I 1)) fun x18 =>
 (∃ (n5 : Nat) (H6 : Heap), n5 < n4 ∧ H6 ≤ H11 ∧ J1 [nth vs2 0, nth vs2 1, nth vs2 2, x18] H6 n5)
 )
 ) (
 pureK (bop .plain .eql (nth vs2 1) (.sc (.int .u64 0))) fun x19 =>
 condK x19 (
 ret1 H3 R (.tup [.sc (.int .u64 0), .lst 0 [] .exact, I 180])
 ) (
 ret1 H3 R (.tup [nth vs2 1, nth vs2 2, I 0])
 )
 )
theorem slots_Store_Last_of {a0 : AV} {H : Heap} {R : RR} (h : W_slots_Store_Last a0 H R) : ACalls PP gΓ slots_Store_Last [a0] H R :=
 ACalls.of_K (E := E_slots_Store_Last) follows_PP Tryz.func37 (c := C_slots_Store_Last) (by kernel_rfl) Tryz.ntmps37 (by kernel_rfl) h

def L_code_Decode : Nat → Option (List Nat) := fun k => bif Nat.beq k 15 then some [0, 2, 4, 5, 6] else bif Nat.beq k 1005 then some [0, 2, 4, 5, 6, 7] else bif Nat.beq k 14 then some [0, 2, 4, 5, 6, 7, 8] else bif Nat.beq k 22 then some [0, 2, 4, 6] else bif Nat.beq k 1019 then some [0, 2, 4, 6, 9] else none
noncomputable abbrev E_code_Decode : Env := ⟨PP, gΓ, 104, L_code_Decode, fun f => Nat.beq f code_reader_name, []⟩
noncomputable def C_code_Decode : Code := Tryz.f38.body.getD .skip
def W_code_Decode (a0 : AV) (H : Heap) (R : RR) : Prop :=
 allocP [.lst 0 [] .exact, .sc (.int .i64 0), .sc (.int .i64 0), .sc (.int .i64 0), .lst 0 [] .exact] H fun o1 H2 =>
 pureK (bld [(0, 1), (1, 1)] [.lst 0 [] .exact, B false] [(0, a0)]) fun x3 =>
 allocK (some (AV.cells x3)) H2 fun p4 H5 =>
 allocP [.lst 0 [] .exact, .sc (.int .i64 0), .sc (.int .i64 0), .sc (.int .i64 0), .lst 0 [] .exact] H5 fun o6 H7 =>
 ∃ J8 : List AV → Heap → Prop, (
 callK (E_code_Decode) (.fn (.func code_reader_next) [p4] []) [] H7 fun x12 H13 =>
 ∃ J14 : List AV → Heap → Nat → Prop, (∃ (n20 : Nat) (H21 : Heap), H21 ≤ H13 ∧ J14 [a0, .ptr o1 0, p4, .fn (.func code_reader_next) [p4] [], .ptr o6 0, x12] H21 n20) ∧ ∀ (vs15 : List AV) (H16 : Heap) (n17 : Nat), J14 vs15 H16 n17 →
 pureK (bop .plain .gtr (nth vs15 5) (I 0)) fun x22 =>
 condK x22 (
 pureK (nilE (nth vs15 2)) fun x23 =>
 pureK (fa 1 x23) fun x24 =>
 pureK (ld (some false) 1 H16 x24) fun x25 =>
 pureK (unE .not x25) fun x26 =>
 condK x26 (
 callK (E_code_Decode) (nth vs15 3) [] H16 fun x27 H28 =>
 pureK (bld [(0, 1), (1, 1), (2, 1)] [.sc (.int .i64 0), S emp, .sc (.int .i64 0)] [(0, x27)]) fun x29 =>
 allocP [.sc (.int .i64 0), S emp, .sc (.int .i64 0)] H28 fun o30 H31 =>
 heapK (st 3 H31 (.ptr o30 0) x29) fun H32 =>
 ∃ J33 : List AV → Heap → Prop, (
 pureK (fa 0 (.ptr o30 0)) fun x37 =>
 pureK (ld (some false) 1 H32 x37) fun x38 =>
 pureK (bop .plain .eql x38 (I 1)) fun x39 =>
 condK x39 (
 ACalls PP gΓ code_reader_name [nth vs15 2] H32 fun x40 H41 =>
 pureK (fa 1 (.ptr o30 0)) fun x42 =>
 heapK (st 1 H41 x42 x40) fun H43 =>
 (∃ H36 : Heap, H36 ≤ H43 ∧ J33 [nth vs15 0, nth vs15 1, nth vs15 2, nth vs15 3, nth vs15 4, nth vs15 5, .ptr o30 0] H36)
 ) (
 pureK (bop .plain .eql x38 (I 11)) fun x44 =>
 condK x44 (
 callK (E_code_Decode) (nth vs15 3) [] H32 fun x45 H46 =>
 pureK (fa 2 (.ptr o30 0)) fun x47 =>
 heapK (st 1 H46 x47 x45) fun H48 =>
 (∃ H36 : Heap, H36 ≤ H48 ∧ J33 [nth vs15 0, nth vs15 1, nth vs15 2, nth vs15 3, nth vs15 4, nth vs15 5, .ptr o30 0] H36)
 ) (
 pureK (bop .plain .eql x38 (I 14)) fun x49 =>
 condK x49 (
 callK (E_code_Decode) (nth vs15 3) [] H32 fun x50 H51 =>
 pureK (fa 2 (.ptr o30 0)) fun x52 =>
 heapK (st 1 H51 x52 x50) fun H53 =>
 (∃ H36 : Heap, H36 ≤ H53 ∧ J33 [nth vs15 0, nth vs15 1, nth vs15 2, nth vs15 3, nth vs15 4, nth vs15 5, .ptr o30 0] H36)
 ) (
 (∃ H36 : Heap, H36 ≤ H32 ∧ J33 [nth vs15 0, nth vs15 1, nth vs15 2, nth vs15 3, nth vs15 4, nth vs15 5, .ptr o30 0] H36)
 )
 )
 )
 ) ∧ ∀ vs34 H35, J33 vs34 H35 →
 pureK (fa 0 (nth vs34 4)) fun x54 =>
 pureK (ld (some false) 1 H35 x54) fun x55 =>
 pureK (ld (some true) 3 H35 (nth vs34 6)) fun x56 =>
 pureK (bsl 3 (.agg [.sc (.int .i64 0), S emp, .sc (.int .i64 0)]) 1 [(0, x56)]) fun x57 =>
 appK 3 x55 x57 H35 fun x58 H59 =>
 pureK (fa 0 (nth vs34 4)) fun x60 =>
 heapK (st 1 H59 x60 x58) fun H61 =>
 pureK (bop .plain .sub (nth vs34 5) (I 1)) fun x62 =>
 (∃ (n18 : Nat) (H19 : Heap), n18 < n17 ∧ H19 ≤ H61 ∧ J14 [nth vs34 0, nth vs34 1, nth vs34 2, nth vs34 3, nth vs34 4, x62] H19 n18)
 ) (
 (∃ H11 : Heap, H11 ≤ H16 ∧ J8 [nth vs15 0, nth vs15 1, nth vs15 2, nth vs15 3, nth vs15 4] H11)
 )
 ) (
 (∃ H11 : Heap, H11 ≤ H16 ∧ J8 [nth vs15 0, nth vs15 1, nth vs15 2, nth vs15 3, nth vs15 4] H11)
 )
 ) ∧ ∀ vs9 H10, J8 vs9 H10 →
 callK (E_code_Decode) (nth vs9 3) [] H10 fun x63 H64 =>
 pureK (fa 1 (nth vs9 4)) fun x65 =>
 pureK (fa 0 x65) fun x66 =>
 heapK (st 1 H64 x66 x63) fun H67 =>
 callK (E_code_Decode) (nth vs9 3) [] H67 fun x68 H69 =>
 pureK (fa 1 (nth vs9 4)) fun x70 =>
 pureK (fa 1 x70) fun x71 =>
 heapK (st 1 H69 x71 x68) fun H72 =>
 callK (E_code_Decode) (nth vs9 3) [] H72 fun x73 H74 =>
 pureK (fa 3 (nth vs9 4)) fun x75 =>
 heapK (st 1 H74 x75 x73) fun H76 =>
 ∃ J77 : List AV → Heap → Prop, (
 callK (E_code_Decode) (nth vs9 3) [] H76 fun x81 H82 =>
 ∃ J83 : List AV → Heap → Nat → Prop, (∃ (n89 : Nat) (H90 : Heap), H90 ≤ H82 ∧ J83 [nth vs9 0, nth vs9 1, nth vs9 2, nth vs9 4, x81] H90 n89) ∧ ∀ (vs84 : List AV) (H85 : Heap) (n86 : Nat), J83 vs84 H85 n86 →
 pureK (bop .plain .gtr (nth vs84 4) (I 0)) fun x91 =>
 condK x91 (
 pureK (nilE (nth vs84 2)) fun x92 =>
 pureK (fa 1 x92) fun x93 =>
 pureK (ld (some false) 1 H85 x93) fun x94 =>
 pureK (unE .not x94) fun x95 =>
 condK x95 (
 ∃ fp96 : Option Nat, (∀ p, fp96 = some p → H85 p ≠ none) ∧
 pureK (fa 4 (nth vs84 3)) fun x97 =>
 pureK (ld (some false) 1 (rem H85 fp96) x97) fun x98 =>
 ∃ φ99 v100, AMakes PP gΓ code_reader_name [nth vs84 2] H85 fp96 φ99 ∧ MkVal φ99 v100 ∧
 pureK (bsl 1 (S emp) 1 [(0, v100)]) fun x101 =>
 ∀ rf102 ob103, φ99 rf102 ob103 → madeK fp96 H85 rf102 ob103 fun x104 H105 =>
 appK 1 x98 x101 H105 fun x106 H107 =>
 pureK (fa 4 (nth vs84 3)) fun x108 =>
 heapK (st 1 H107 x108 x106) fun H109 =>
 pureK (bop .plain .sub (nth vs84 4) (I 1)) fun x110 =>
 (∃ (n87 : Nat) (H88 : Heap), n87 < n86 ∧ H88 ≤ H109 ∧ J83 [nth vs84 0, nth vs84 1, nth vs84 2, nth vs84 3, x110] H88 n87)
 ) (
 (∃ H80 : Heap, H80 ≤ H85 ∧ J77 [nth vs84 0, nth vs84 1, nth vs84 2, nth vs84 3] H80)
 )
 ) (
 (∃ H80 : Heap, H80 ≤ H85 ∧ J77 [nth vs84 0, nth vs84 1, nth vs84 2, nth vs84 3] H80)
 )
 ) ∧ ∀ vs78 H79, J77 vs78 H79 →
 pureK (ld (some true) 5 H79 (nth vs78 3)) fun x111 =>
 ACalls PP gΓ code_Encode [x111] H79 fun x112 H113 =>
 pureK (extractE x112 0) fun x114 =>
 pureK (extractE x112 1) fun x115 =>
 pureK (unE .not x115) fun x116 =>
 condK x116 (
 pureK (bld [(0, 1), (1, 2), (3, 1), (4, 1)] [.lst 0 [] .exact, .sc (.int .i64 0), .sc (.int .i64 0), .sc (.int .i64 0), .lst 0 [] .exact] []) fun x117 =>
 heapK (st 5 H113 (nth vs78 1) x117) fun H118 =>
 pureK (ld (some true) 5 H118 (nth vs78 1)) fun x119 =>
 ret1 H118 R (.tup [x119, I 190])
 ) (
 pureK (nilE (nth vs78 2)) fun x120 =>
 pureK (fa 1 x120) fun x121 =>
 pureK (ld (some false) 1 H113 x121) fun x122 =>
 condK x122 (
 pureK (bld [(0, 1), (1, 2), (3, 1), (4, 1)] [.lst 0 [] .exact, .sc (.int .i64 0), .sc (.int .i64 0), .sc (.int .i64 0), .lst 0 [] .exact] []) fun x123 =>
 heapK (st 5 H113 (nth vs78 1) x123) fun H124 =>
 pureK (ld (some true) 5 H124 (nth vs78 1)) fun x125 =>
 ret1 H124 R (.tup [x125, I 190])
 ) (
 ACalls PP gΓ bytes_Equal [x114, nth vs78 0] H113 fun x126 H127 =>
 pureK (unE .not x126) fun x128 =>
 condK x128 (
 pureK (bld [(0, 1), (1, 2), (3, 1), (4, 1)] [.lst 0 [] .exact, .sc (.int .i64 0), .sc (.int .i64 0), .sc (.int .i64 0), .lst 0 [] .exact] []) fun x129 =>
 heapK (st 5 H127 (nth vs78 1) x129) fun H130 =>
 pureK (ld (some true) 5 H130 (nth vs78 1)) fun x131 =>
 ret1 H130 R (.tup [x131, I 190])
 ) (
 pureK (ld (some true) 5 H127 (nth vs78 3)) fun x132 =>
 heapK (st 5 H127 (nth vs78 1) x132) fun H133 =>
 pureK (ld (some true) 5 H133 (nth vs78 1)) fun x134 =>
 ret1 H133 R (.tup [x134, I 0])
 )
 )
 )
theorem code_Decode_of {a0 : AV} {H : Heap} {R : RR} (h : W_code_Decode a0 H R) : ACalls PP gΓ code_Decode [a0] H R :=
 ACalls.of_K (E := E_code_Decode) follows_PP Tryz.func38 (c := C_code_Decode) (by kernel_rfl) Tryz.ntmps38 (by kernel_rfl) h

noncomputable abbrev E_saga_Saga_stops : Env := mkE 19 (fun _ => none)
noncomputable def C_saga_Saga_stops : Code := Tryz.f39.body.getD .skip
def W_saga_Saga_stops (a0 : AV) (H : Heap) (R : RR) : Prop :=
 pureK (nilE a0) fun x1 =>
 pureK (fa 9 x1) fun x2 =>
 pureK (ld (some false) 1 H x2) fun x3 =>
 condK x3 (
 ret1 H R (I 210)
 ) (
 pureK (nilE a0) fun x4 =>
 pureK (fa 4 x4) fun x5 =>
 pureK (fa 0 x5) fun x6 =>
 pureK (ld (some false) 1 H x6) fun x7 =>
 ACalls PP gΓ settle_Ended [x7] H fun x8 H9 =>
 pureK (extractE x8 0) fun x10 =>
 pureK (extractE x8 1) fun x11 =>
 condK x11 (
 ret1 H9 R (I 211)
 ) (
 ret1 H9 R (I 0)
 )
 )
theorem saga_Saga_stops_of {a0 : AV} {H : Heap} {R : RR} (h : W_saga_Saga_stops a0 H R) : ACalls PP gΓ saga_Saga_stops [a0] H R :=
 ACalls.of_K (E := E_saga_Saga_stops) follows_PP Tryz.func39 (c := C_saga_Saga_stops) (by kernel_rfl) Tryz.ntmps39 (by kernel_rfl) h

noncomputable abbrev E_saga_Saga_done : Env := ⟨PP, gΓ, 84, fun _ => none, fun f => Nat.beq f slices_Clone_string, []⟩
noncomputable def C_saga_Saga_done : Code := Tryz.f40.body.getD .skip
def W_saga_Saga_done (a0 : AV) (H : Heap) (R : RR) : Prop :=
 allocP [.lst 0 [] .exact, .sc (.int .i64 0), .sc (.int .i64 0), .sc (.int .i64 0), .lst 0 [] .exact] H fun o1 H2 =>
 pureK (nilE a0) fun x3 =>
 pureK (fa 4 x3) fun x4 =>
 pureK (fa 1 x4) fun x5 =>
 pureK (ld (some true) 2 H2 x5) fun x6 =>
 allocP [.sc (.int .i64 0), .sc (.int .i64 0)] H2 fun o7 H8 =>
 heapK (st 2 H8 (.ptr o7 0) x6) fun H9 =>
 ∃ fp10 : Option Nat, (∀ p, fp10 = some p → H9 p ≠ none) ∧
 pureK (nilE a0) fun x11 =>
 pureK (fa 4 x11) fun x12 =>
 pureK (fa 3 x12) fun x13 =>
 pureK (ld (some false) 1 (rem H9 fp10) x13) fun x14 =>
 pureK (bop .plain .add x14 (I 1)) fun x15 =>
 pureK (nilE a0) fun x16 =>
 pureK (fa 4 x16) fun x17 =>
 pureK (fa 4 x17) fun x18 =>
 pureK (ld (some false) 1 (rem H9 fp10) x18) fun x19 =>
 ∃ φ20 v21, AMakes PP gΓ slices_Clone_string [x19] H9 fp10 φ20 ∧ MkVal φ20 v21 ∧
 pureK (bld [(0, 1), (1, 2), (3, 1), (4, 1)] [.lst 0 [] .exact, .sc (.int .i64 0), .sc (.int .i64 0), .sc (.int .i64 0), .lst 0 [] .exact] [(2, x15), (3, v21)]) fun x22 =>
 ∀ rf23 ob24, φ20 rf23 ob24 → madeK fp10 H9 rf23 ob24 fun x25 H26 =>
 allocP [.lst 0 [] .exact, .sc (.int .i64 0), .sc (.int .i64 0), .sc (.int .i64 0), .lst 0 [] .exact] H26 fun o27 H28 =>
 heapK (st 5 H28 (.ptr o27 0) x22) fun H29 =>
 pureK (fa 1 (.ptr o7 0)) fun x30 =>
 pureK (ld (some false) 1 H29 x30) fun x31 =>
 pureK (bop .plain .eql x31 (I 1)) fun x32 =>
 condK x32 (
 pureK (nilE a0) fun x33 =>
 pureK (fa 3 x33) fun x34 =>
 pureK (ld (some false) 1 H29 x34) fun x35 =>
 pureK (fa 3 (.ptr o27 0)) fun x36 =>
 pureK (ld (some false) 1 H29 x36) fun x37 =>
 pureK (nilE a0) fun x38 =>
 pureK (fa 4 x38) fun x39 =>
 pureK (fa 0 x39) fun x40 =>
 pureK (ld (some false) 1 H29 x40) fun x41 =>
 pureK (fa 0 (.ptr o7 0)) fun x42 =>
 pureK (ld (some false) 1 H29 x42) fun x43 =>
 pureK (ias 3 x41 x43) fun x44 =>
 pureK (fa 1 x44) fun x45 =>
 pureK (ld (some false) 1 H29 x45) fun x46 =>
 callN (E_saga_Saga_done) x35 [x37, x46] H29 fun x47 H48 =>
 pureK (unE .not x47) fun x49 =>
 condK x49 (
 ∃ fp50 : Option Nat, (∀ p, fp50 = some p → H48 p ≠ none) ∧
 pureK (nilE a0) fun x51 =>
 pureK (fa 4 x51) fun x52 =>
 pureK (fa 0 x52) fun x53 =>
 pureK (ld (some false) 1 (rem H48 fp50) x53) fun x54 =>
 pureK (ld (some true) 2 (rem H48 fp50) (.ptr o7 0)) fun x55 =>
 ∃ x56, AReads PP gΓ step_Refuse [x54, x55] (rem H48 fp50) x56 ∧
 pureK (extractE x56 0) fun x57 =>
 pureK (extractE x56 1) fun x58 =>
 pureK (fa 0 (.ptr o27 0)) fun x59 =>
 ∃ φ60, StMakes 1 H48 fp50 x59 x57 φ60 ∧
 ∀ rf61 ob62, φ60 rf61 ob62 → madeK fp50 H48 rf61 ob62 fun x63 H64 =>
 pureK (ld (some true) 5 H64 (.ptr o27 0)) fun x65 =>
 heapK (st 5 H64 (.ptr o1 0) x65) fun H66 =>
 pureK (ld (some true) 5 H66 (.ptr o1 0)) fun x67 =>
 ret1 H66 R x67
 ) (
 pureK (nilE a0) fun x68 =>
 pureK (fa 4 x68) fun x69 =>
 pureK (fa 0 x69) fun x70 =>
 pureK (ld (some false) 1 H48 x70) fun x71 =>
 pureK (ld (some true) 2 H48 (.ptr o7 0)) fun x72 =>
 ∃ x73, AReads PP gΓ step_Next [x71, x72] H48 x73 ∧
 pureK (extractE x73 0) fun x74 =>
 pureK (extractE x73 1) fun x75 =>
 pureK (extractE x73 2) fun x76 =>
 pureK (fa 0 (.ptr o27 0)) fun x77 =>
 heapK (st 1 H48 x77 x74) fun H78 =>
 pureK (fa 1 (.ptr o7 0)) fun x79 =>
 pureK (ld (some false) 1 H78 x79) fun x80 =>
 pureK (bop .plain .eql x80 (I 1)) fun x81 =>
 condK x81 (
 pureK (fa 4 (.ptr o27 0)) fun x82 =>
 pureK (ld (some false) 1 H78 x82) fun x83 =>
 pureK (bsl 1 (S emp) 1 [(0, x75)]) fun x84 =>
 appK 1 x83 x84 H78 fun x85 H86 =>
 pureK (fa 4 (.ptr o27 0)) fun x87 =>
 heapK (st 1 H86 x87 x85) fun H88 =>
 pureK (ld (some true) 5 H88 (.ptr o27 0)) fun x89 =>
 heapK (st 5 H88 (.ptr o1 0) x89) fun H90 =>
 pureK (ld (some true) 5 H90 (.ptr o1 0)) fun x91 =>
 ret1 H90 R x91
 ) (
 pureK (ld (some true) 5 H78 (.ptr o27 0)) fun x92 =>
 heapK (st 5 H78 (.ptr o1 0) x92) fun H93 =>
 pureK (ld (some true) 5 H93 (.ptr o1 0)) fun x94 =>
 ret1 H93 R x94
 )
 )
 ) (
 pureK (nilE a0) fun x95 =>
 pureK (fa 4 x95) fun x96 =>
 pureK (fa 0 x96) fun x97 =>
 pureK (ld (some false) 1 H29 x97) fun x98 =>
 pureK (ld (some true) 2 H29 (.ptr o7 0)) fun x99 =>
 ∃ x100, AReads PP gΓ step_Next [x98, x99] H29 x100 ∧
 pureK (extractE x100 0) fun x101 =>
 pureK (extractE x100 1) fun x102 =>
 pureK (extractE x100 2) fun x103 =>
 pureK (fa 0 (.ptr o27 0)) fun x104 =>
 heapK (st 1 H29 x104 x101) fun H105 =>
 pureK (fa 1 (.ptr o7 0)) fun x106 =>
 pureK (ld (some false) 1 H105 x106) fun x107 =>
 pureK (bop .plain .eql x107 (I 1)) fun x108 =>
 condK x108 (
 pureK (fa 4 (.ptr o27 0)) fun x109 =>
 pureK (ld (some false) 1 H105 x109) fun x110 =>
 pureK (bsl 1 (S emp) 1 [(0, x102)]) fun x111 =>
 appK 1 x110 x111 H105 fun x112 H113 =>
 pureK (fa 4 (.ptr o27 0)) fun x114 =>
 heapK (st 1 H113 x114 x112) fun H115 =>
 pureK (ld (some true) 5 H115 (.ptr o27 0)) fun x116 =>
 heapK (st 5 H115 (.ptr o1 0) x116) fun H117 =>
 pureK (ld (some true) 5 H117 (.ptr o1 0)) fun x118 =>
 ret1 H117 R x118
 ) (
 pureK (ld (some true) 5 H105 (.ptr o27 0)) fun x119 =>
 heapK (st 5 H105 (.ptr o1 0) x119) fun H120 =>
 pureK (ld (some true) 5 H120 (.ptr o1 0)) fun x121 =>
 ret1 H120 R x121
 )
 )
theorem saga_Saga_done_of {a0 : AV} {H : Heap} {R : RR} (h : W_saga_Saga_done a0 H R) : ACalls PP gΓ saga_Saga_done [a0] H R :=
 ACalls.of_K (E := E_saga_Saga_done) follows_PP Tryz.func40 (c := C_saga_Saga_done) (by kernel_rfl) Tryz.ntmps40 (by kernel_rfl) h

noncomputable abbrev E_saga_Saga_keep : Env := mkE 64 (fun _ => none)
noncomputable def C_saga_Saga_keep : Code := Tryz.f41.body.getD .skip
def W_saga_Saga_keep (a0 : AV) (H : Heap) (R : RR) : Prop :=
 pureK (nilE a0) fun x1 =>
 pureK (fa 4 x1) fun x2 =>
 pureK (fa 3 x2) fun x3 =>
 pureK (ld (some false) 1 H x3) fun x4 =>
 pureK (nilE a0) fun x5 =>
 pureK (fa 1 x5) fun x6 =>
 pureK (ld (some false) 1 H x6) fun x7 =>
 pureK (lnl x7) fun x8 =>
 pureK (bop .plain .lss x4 x8) fun x9 =>
 condK x9 (
 pureK (nilE a0) fun x10 =>
 pureK (fa 1 x10) fun x11 =>
 pureK (ld (some false) 1 H x11) fun x12 =>
 pureK (nilE a0) fun x13 =>
 pureK (fa 4 x13) fun x14 =>
 pureK (fa 3 x14) fun x15 =>
 pureK (ld (some false) 1 H x15) fun x16 =>
 pureK (ias 1 x12 x16) fun x17 =>
 pureK (ld (some false) 1 H x17) fun x18 =>
 pureK (nilE a0) fun x19 =>
 pureK (fa 4 x19) fun x20 =>
 pureK (fa 0 x20) fun x21 =>
 pureK (ld (some false) 1 H x21) fun x22 =>
 ACalls PP gΓ move_Pick [x22, x18] H fun x23 H24 =>
 pureK (extractE x23 0) fun x25 =>
 pureK (extractE x23 1) fun x26 =>
 pureK (nilE a0) fun x27 =>
 pureK (fa 4 x27) fun x28 =>
 pureK (fa 1 x28) fun x29 =>
 heapK (st 2 H24 x29 x25) fun H30 =>
 pureK (nilE a0) fun x31 =>
 pureK (fa 4 x31) fun x32 =>
 pureK (ld (some true) 5 H30 x32) fun x33 =>
 ACalls PP gΓ code_Encode [x33] H30 fun x34 H35 =>
 pureK (extractE x34 0) fun x36 =>
 pureK (extractE x34 1) fun x37 =>
 pureK (nilE a0) fun x38 =>
 pureK (fa 0 x38) fun x39 =>
 pureK (fa 0 x39) fun x40 =>
 pureK (ld (some false) 1 H35 x40) fun x41 =>
 pureK (nilE a0) fun x42 =>
 pureK (fa 4 x42) fun x43 =>
 pureK (fa 3 x43) fun x44 =>
 pureK (ld (some false) 1 H35 x44) fun x45 =>
 pureK (cv (.toInt .u64) x45) fun x46 =>
 pureK (bop .plain .add x46 (.sc (.int .u64 1))) fun x47 =>
 ACalls PP gΓ slots_Store_Save [x41, x47, x36] H35 fun x48 H49 =>
 ret1 H49 R x48
 ) (
 pureK (nilE a0) fun x50 =>
 pureK (fa 4 x50) fun x51 =>
 pureK (fa 0 x51) fun x52 =>
 pureK (ld (some false) 1 H x52) fun x53 =>
 ACalls PP gΓ move_Pick [x53, I 0] H fun x54 H55 =>
 pureK (extractE x54 0) fun x56 =>
 pureK (extractE x54 1) fun x57 =>
 pureK (nilE a0) fun x58 =>
 pureK (fa 4 x58) fun x59 =>
 pureK (fa 1 x59) fun x60 =>
 heapK (st 2 H55 x60 x56) fun H61 =>
 pureK (nilE a0) fun x62 =>
 pureK (fa 4 x62) fun x63 =>
 pureK (ld (some true) 5 H61 x63) fun x64 =>
 ACalls PP gΓ code_Encode [x64] H61 fun x65 H66 =>
 pureK (extractE x65 0) fun x67 =>
 pureK (extractE x65 1) fun x68 =>
 pureK (nilE a0) fun x69 =>
 pureK (fa 0 x69) fun x70 =>
 pureK (fa 0 x70) fun x71 =>
 pureK (ld (some false) 1 H66 x71) fun x72 =>
 pureK (nilE a0) fun x73 =>
 pureK (fa 4 x73) fun x74 =>
 pureK (fa 3 x74) fun x75 =>
 pureK (ld (some false) 1 H66 x75) fun x76 =>
 pureK (cv (.toInt .u64) x76) fun x77 =>
 pureK (bop .plain .add x77 (.sc (.int .u64 1))) fun x78 =>
 ACalls PP gΓ slots_Store_Save [x72, x78, x67] H66 fun x79 H80 =>
 ret1 H80 R x79
 )
theorem saga_Saga_keep_of {a0 : AV} {H : Heap} {R : RR} (h : W_saga_Saga_keep a0 H R) : ACalls PP gΓ saga_Saga_keep [a0] H R :=
 ACalls.of_K (E := E_saga_Saga_keep) follows_PP Tryz.func41 (c := C_saga_Saga_keep) (by kernel_rfl) Tryz.ntmps41 (by kernel_rfl) h

noncomputable abbrev E_settle_Ended : Env := mkE 18 (fun _ => none)
noncomputable def C_settle_Ended : Code := Tryz.f42.body.getD .skip
def W_settle_Ended (a0 : AV) (H : Heap) (R : RR) : Prop :=
 pureK (lnl a0) fun x1 =>
 pureK (bop .plain .neq x1 (I 1)) fun x2 =>
 condK x2 (
 ret1 H R (.tup [I 0, B false])
 ) (
 pureK (ias 3 a0 (I 0)) fun x3 =>
 pureK (fa 0 x3) fun x4 =>
 pureK (ld (some false) 1 H x4) fun x5 =>
 pureK (bop .plain .neq x5 (I 11)) fun x6 =>
 condK x6 (
 ret1 H R (.tup [I 0, B false])
 ) (
 pureK (ias 3 a0 (I 0)) fun x7 =>
 pureK (fa 2 x7) fun x8 =>
 pureK (ld (some false) 1 H x8) fun x9 =>
 ret1 H R (.tup [x9, B true])
 )
 )
theorem settle_Ended_of {a0 : AV} {H : Heap} {R : RR} (h : W_settle_Ended a0 H R) : ACalls PP gΓ settle_Ended [a0] H R :=
 ACalls.of_K (E := E_settle_Ended) follows_PP Tryz.func42 (c := C_settle_Ended) (by kernel_rfl) Tryz.ntmps42 (by kernel_rfl) h

noncomputable abbrev E_slices_Clone_string : Env := mkE 8 (fun _ => none)
noncomputable def C_slices_Clone_string : Code := Tryz.f43.body.getD .skip
def W_slices_Clone_string (a0 : AV) (H : Heap) (R : RR) : Prop :=
 nilK a0 fun x1 =>
 condK x1 (
 ret1 H R (.lst 0 [] .exact)
 ) (
 pureK (bsl 1 (S emp) 0 []) fun x2 =>
 appK 1 x2 a0 H fun x3 H4 =>
 ret1 H4 R x3
 )
theorem slices_Clone_string_of {a0 : AV} {H : Heap} {R : RR} (h : W_slices_Clone_string a0 H R) : ACalls PP gΓ slices_Clone_string [a0] H R :=
 ACalls.of_K (E := E_slices_Clone_string) follows_PP Tryz.func43 (c := C_slices_Clone_string) (by kernel_rfl) Tryz.ntmps43 (by kernel_rfl) h

noncomputable abbrev E_slices_Clone_Node : Env := mkE 8 (fun _ => none)
noncomputable def C_slices_Clone_Node : Code := Tryz.f45.body.getD .skip
def W_slices_Clone_Node (a0 : AV) (H : Heap) (R : RR) : Prop :=
 nilK a0 fun x1 =>
 condK x1 (
 ret1 H R (.lst 0 [] .exact)
 ) (
 pureK (bsl 3 (.agg [.sc (.int .i64 0), S emp, .sc (.int .i64 0)]) 0 []) fun x2 =>
 appK 3 x2 a0 H fun x3 H4 =>
 ret1 H4 R x3
 )
theorem slices_Clone_Node_of {a0 : AV} {H : Heap} {R : RR} (h : W_slices_Clone_Node a0 H R) : ACalls PP gΓ slices_Clone_Node [a0] H R :=
 ACalls.of_K (E := E_slices_Clone_Node) follows_PP Tryz.func45 (c := C_slices_Clone_Node) (by kernel_rfl) Tryz.ntmps45 (by kernel_rfl) h

noncomputable abbrev E_disk_Disk_Cut : Env := mkE 12 (fun _ => none)
noncomputable def C_disk_Disk_Cut : Code := Tryz.f46.body.getD .skip
def W_disk_Disk_Cut (a0 a1 : AV) (H : Heap) (R : RR) : Prop :=
 pureK (maxE [I 0, a1]) fun x1 =>
 pureK (nilE a0) fun x2 =>
 pureK (fa 2 x2) fun x3 =>
 heapK (st 1 H x3 (B true)) fun H4 =>
 pureK (nilE a0) fun x5 =>
 pureK (fa 3 x5) fun x6 =>
 heapK (st 1 H4 x6 x1) fun H7 =>
 ret1 H7 R (.tup [])
theorem disk_Disk_Cut_of {a0 a1 : AV} {H : Heap} {R : RR} (h : W_disk_Disk_Cut a0 a1 H R) : ACalls PP gΓ disk_Disk_Cut [a0, a1] H R :=
 ACalls.of_K (E := E_disk_Disk_Cut) follows_PP Tryz.func46 (c := C_disk_Disk_Cut) (by kernel_rfl) Tryz.ntmps46 (by kernel_rfl) h

noncomputable abbrev E_code_Same_1 : Env := mkE 8 (fun _ => none)
noncomputable def C_code_Same_1 : Code := Tryz.f47.body.getD .skip
def W_code_Same_1 (a0 a1 : AV) (H : Heap) (R : RR) : Prop :=
 ACalls PP gΓ slices_Equal_string [a0, a1] H fun x1 H2 =>
 ret1 H2 R x1
theorem code_Same_1_of {a0 a1 : AV} {H : Heap} {R : RR} (h : W_code_Same_1 a0 a1 H R) : ACalls PP gΓ code_Same_1 [a0, a1] H R :=
 ACalls.of_K (E := E_code_Same_1) follows_PP Tryz.func47 (c := C_code_Same_1) (by kernel_rfl) Tryz.ntmps47 (by kernel_rfl) h

def L_slices_Equal_string : Nat → Option (List Nat) := fun k => bif Nat.beq k 1004 then some [0, 1, 12, 13] else none
noncomputable abbrev E_slices_Equal_string : Env := mkE 26 (L_slices_Equal_string)
noncomputable def C_slices_Equal_string : Code := Tryz.f48.body.getD .skip
def W_slices_Equal_string (a0 a1 : AV) (H : Heap) (R : RR) : Prop :=
 pureK (lnl a0) fun x1 =>
 pureK (lnl a1) fun x2 =>
 pureK (bop .plain .neq x1 x2) fun x3 =>
 condK x3 (
 ret1 H R (B false)
 ) (
 pureK (lnl a0) fun x4 =>
 ∃ J5 : List AV → Heap → Nat → Prop, (∃ (n11 : Nat) (H12 : Heap), H12 ≤ H ∧ J5 [a0, a1, x4, I 0] H12 n11) ∧ ∀ (vs6 : List AV) (H7 : Heap) (n8 : Nat), J5 vs6 H7 n8 →
 pureK (bop .plain .lss (nth vs6 3) (nth vs6 2)) fun x13 =>
 condK x13 (
 pureK (ias 1 (nth vs6 0) (nth vs6 3)) fun x14 =>
 pureK (ld (some false) 1 H7 x14) fun x15 =>
 pureK (ias 1 (nth vs6 1) (nth vs6 3)) fun x16 =>
 pureK (ld (some false) 1 H7 x16) fun x17 =>
 pureK (bop .plain .neq x15 x17) fun x18 =>
 condK x18 (
 ret1 H7 R (B false)
 ) (
 pureK (bop .plain .add (nth vs6 3) (I 1)) fun x19 =>
 (∃ (n9 : Nat) (H10 : Heap), n9 < n8 ∧ H10 ≤ H7 ∧ J5 [nth vs6 0, nth vs6 1, nth vs6 2, x19] H10 n9)
 )
 ) (
 ret1 H7 R (B true)
 )
 )
theorem slices_Equal_string_of {a0 a1 : AV} {H : Heap} {R : RR} (h : W_slices_Equal_string a0 a1 H R) : ACalls PP gΓ slices_Equal_string [a0, a1] H R :=
 ACalls.of_K (E := E_slices_Equal_string) follows_PP Tryz.func48 (c := C_slices_Equal_string) (by kernel_rfl) Tryz.ntmps48 (by kernel_rfl) h

noncomputable abbrev E_row_Same : Env := mkE 8 (fun _ => none)
noncomputable def C_row_Same : Code := Tryz.f49.body.getD .skip
def W_row_Same (a0 a1 : AV) (H : Heap) (R : RR) : Prop :=
 ACalls PP gΓ slices_Equal_Node [a0, a1] H fun x1 H2 =>
 ret1 H2 R x1
theorem row_Same_of {a0 a1 : AV} {H : Heap} {R : RR} (h : W_row_Same a0 a1 H R) : ACalls PP gΓ row_Same [a0, a1] H R :=
 ACalls.of_K (E := E_row_Same) follows_PP Tryz.func49 (c := C_row_Same) (by kernel_rfl) Tryz.ntmps49 (by kernel_rfl) h

noncomputable abbrev E_move_Pick : Env := mkE 28 (fun _ => none)
noncomputable def C_move_Pick : Code := Tryz.f50.body.getD .skip
def W_move_Pick (a0 a1 : AV) (H : Heap) (R : RR) : Prop :=
 allocP [.sc (.int .i64 0), .sc (.int .i64 0)] H fun o1 H2 =>
 ACalls PP gΓ move_Enabled [a0] H2 fun x3 H4 =>
 pureK (lnl x3) fun x5 =>
 pureK (bop .plain .eql x5 (I 0)) fun x6 =>
 condK x6 (
 pureK (bld [(0, 1), (1, 1)] [.sc (.int .i64 0), .sc (.int .i64 0)] []) fun x7 =>
 heapK (st 2 H4 (.ptr o1 0) x7) fun H8 =>
 pureK (ld (some true) 2 H8 (.ptr o1 0)) fun x9 =>
 ret1 H8 R (.tup [x9, I 120])
 ) (
 pureK (lnl x3) fun x10 =>
 pureK (bop .plain .rem a1 x10) fun x11 =>
 pureK (bop .plain .lss x11 (I 0)) fun x12 =>
 condK x12 (
 pureK (lnl x3) fun x13 =>
 pureK (bop .plain .add x11 x13) fun x14 =>
 pureK (ias 2 x3 x14) fun x15 =>
 pureK (ld (some true) 2 H4 x15) fun x16 =>
 heapK (st 2 H4 (.ptr o1 0) x16) fun H17 =>
 pureK (ld (some true) 2 H17 (.ptr o1 0)) fun x18 =>
 ret1 H17 R (.tup [x18, I 0])
 ) (
 pureK (ias 2 x3 x11) fun x19 =>
 pureK (ld (some true) 2 H4 x19) fun x20 =>
 heapK (st 2 H4 (.ptr o1 0) x20) fun H21 =>
 pureK (ld (some true) 2 H21 (.ptr o1 0)) fun x22 =>
 ret1 H21 R (.tup [x22, I 0])
 )
 )
theorem move_Pick_of {a0 a1 : AV} {H : Heap} {R : RR} (h : W_move_Pick a0 a1 H R) : ACalls PP gΓ move_Pick [a0, a1] H R :=
 ACalls.of_K (E := E_move_Pick) follows_PP Tryz.func50 (c := C_move_Pick) (by kernel_rfl) Tryz.ntmps50 (by kernel_rfl) h

noncomputable abbrev E_step_Next : Env := mkE 29 (fun _ => none)
noncomputable def C_step_Next : Code := Tryz.f51.body.getD .skip
def W_step_Next (a0 a1 : AV) (H : Heap) (R : RR) : Prop :=
 allocK (some (AV.cells a1)) H fun p1 H2 =>
 pureK (ld (some true) 2 H2 p1) fun x3 =>
 ACalls PP gΓ move_Is [a0, x3] H2 fun x4 H5 =>
 pureK (unE .not x4) fun x6 =>
 condK x6 (
 ret1 H5 R (.tup [.lst 0 [] .exact, S emp, I 120])
 ) (
 pureK (fa 0 p1) fun x7 =>
 pureK (ld (some false) 1 H5 x7) fun x8 =>
 pureK (sll 3 a0 (some x8) none none) fun x9 =>
 pureK (fa 0 p1) fun x10 =>
 pureK (ld (some false) 1 H5 x10) fun x11 =>
 pureK (fa 1 p1) fun x12 =>
 pureK (ld (some false) 1 H5 x12) fun x13 =>
 ∃ x14, AReads PP gΓ step_made [x9, x13] H5 x14 ∧
 ∃ x15, AReads PP gΓ step_Put [a0, x11, x14] H5 x15 ∧
 ∃ x16, AReads PP gΓ settle_Settle [x15] H5 x16 ∧
 pureK (ias 3 x9 (I 0)) fun x17 =>
 pureK (fa 1 x17) fun x18 =>
 pureK (ld (some false) 1 H5 x18) fun x19 =>
 ret1 H5 R (.tup [x16, x19, I 0])
 )
theorem step_Next_of {a0 a1 : AV} {H : Heap} {R : RR} (h : W_step_Next a0 a1 H R) : ACalls PP gΓ step_Next [a0, a1] H R :=
 ACalls.of_K (E := E_step_Next) follows_PP Tryz.func51 (c := C_step_Next) (by kernel_rfl) Tryz.ntmps51 (by kernel_rfl) h

noncomputable abbrev E_sort_Right : Env := mkE 15 (fun _ => none)
noncomputable def C_sort_Right : Code := Tryz.f52.body.getD .skip
def W_sort_Right (a0 : AV) (H : Heap) (R : RR) : Prop :=
 ACalls PP gΓ sort_Term [a0] H fun x1 H2 =>
 condK x1 (
 pureK (lnl a0) fun x3 =>
 pureK (bop .plain .leq x3 (I 60)) fun x4 =>
 condK x4 (
 ACalls PP gΓ row_Depth [a0] H2 fun x5 H6 =>
 pureK (bop .plain .leq x5 (I 16)) fun x7 =>
 ret1 H6 R x7
 ) (
 ret1 H2 R (B false)
 )
 ) (
 ret1 H2 R (B false)
 )
theorem sort_Right_of {a0 : AV} {H : Heap} {R : RR} (h : W_sort_Right a0 H R) : ACalls PP gΓ sort_Right [a0] H R :=
 ACalls.of_K (E := E_sort_Right) follows_PP Tryz.func52 (c := C_sort_Right) (by kernel_rfl) Tryz.ntmps52 (by kernel_rfl) h

noncomputable abbrev E_settle_Settle : Env := mkE 20 (fun _ => none)
noncomputable def C_settle_Settle : Code := Tryz.f53.body.getD .skip
def W_settle_Settle (a0 : AV) (H : Heap) (R : RR) : Prop :=
 ACalls PP gΓ sort_On [a0, B false] H fun x1 H2 =>
 pureK (unE .not x1) fun x3 =>
 condK x3 (
 ACalls PP gΓ sort_On [a0, B true] H2 fun x4 H5 =>
 pureK (unE .not x4) fun x6 =>
 condK x6 (
 ret1 H5 R (.lst 0 [] .exact)
 ) (
 ACalls PP gΓ settle_settle [a0] H5 fun x7 H8 =>
 pureK (lnl x7) fun x9 =>
 pureK (bop .plain .gtr x9 (I 200)) fun x10 =>
 condK x10 (
 ret1 H8 R (.lst 0 [] .exact)
 ) (
 pureK (bsl 3 (.agg [.sc (.int .i64 0), S emp, .sc (.int .i64 0)]) 0 []) fun x11 =>
 appK 3 x11 x7 H8 fun x12 H13 =>
 ret1 H13 R x12
 )
 )
 ) (
 ACalls PP gΓ settle_settle [a0] H2 fun x14 H15 =>
 pureK (lnl x14) fun x16 =>
 pureK (bop .plain .gtr x16 (I 200)) fun x17 =>
 condK x17 (
 ret1 H15 R (.lst 0 [] .exact)
 ) (
 pureK (bsl 3 (.agg [.sc (.int .i64 0), S emp, .sc (.int .i64 0)]) 0 []) fun x18 =>
 appK 3 x18 x14 H15 fun x19 H20 =>
 ret1 H20 R x19
 )
 )
theorem settle_Settle_of {a0 : AV} {H : Heap} {R : RR} (h : W_settle_Settle a0 H R) : ACalls PP gΓ settle_Settle [a0] H R :=
 ACalls.of_K (E := E_settle_Settle) follows_PP Tryz.func53 (c := C_settle_Settle) (by kernel_rfl) Tryz.ntmps53 (by kernel_rfl) h

noncomputable abbrev E_disk_New : Env := mkE 14 (fun _ => none)
noncomputable def C_disk_New : Code := Tryz.f54.body.getD .skip
def W_disk_New (a0 : AV) (H : Heap) (R : RR) : Prop :=
 pureK (bop .plain .lss a0 (I 1)) fun x1 =>
 condK x1 (
 ret1 H R (.tup [.sc (.pointer none), I 1])
 ) (
 pureK (bop .plain .gtr a0 (I 1024)) fun x2 =>
 condK x2 (
 ret1 H R (.tup [.sc (.pointer none), I 1])
 ) (
 mks 16 (List.replicate 16 (.sc (.int .u8 0))) a0 a0 H fun x3 H4 =>
 pureK (bld [(0, 1), (1, 1), (2, 1), (3, 1)] [.lst 0 [] .exact, .sc (.int .i64 0), B false, .sc (.int .i64 0)] [(0, x3)]) fun x5 =>
 allocK (some (AV.cells x5)) H4 fun p6 H7 =>
 ret1 H7 R (.tup [p6, I 0])
 )
 )
theorem disk_New_of {a0 : AV} {H : Heap} {R : RR} (h : W_disk_New a0 H R) : ACalls PP gΓ disk_New [a0] H R :=
 ACalls.of_K (E := E_disk_New) follows_PP Tryz.func54 (c := C_disk_New) (by kernel_rfl) Tryz.ntmps54 (by kernel_rfl) h

noncomputable abbrev E_slots_New : Env := mkE 15 (fun _ => none)
noncomputable def C_slots_New : Code := Tryz.f55.body.getD .skip
def W_slots_New (a0 : AV) (H : Heap) (R : RR) : Prop :=
 pureK (bop .ptr .eql a0 (.sc (.pointer none))) fun x1 =>
 condK x1 (
 ret1 H R (.tup [.sc (.pointer none), I 1])
 ) (
 ACalls PP gΓ disk_Disk_Blocks [a0] H fun x2 H3 =>
 pureK (bop .plain .quo x2 (I 2)) fun x4 =>
 pureK (bop .plain .lss x4 (I 3)) fun x5 =>
 condK x5 (
 ret1 H3 R (.tup [.sc (.pointer none), I 1])
 ) (
 pureK (bld [(0, 1)] [.sc (.pointer none)] [(0, a0)]) fun x6 =>
 allocK (some (AV.cells x6)) H3 fun p7 H8 =>
 ret1 H8 R (.tup [p7, I 0])
 )
 )
theorem slots_New_of {a0 : AV} {H : Heap} {R : RR} (h : W_slots_New a0 H R) : ACalls PP gΓ slots_New [a0] H R :=
 ACalls.of_K (E := E_slots_New) follows_PP Tryz.func55 (c := C_slots_New) (by kernel_rfl) Tryz.ntmps55 (by kernel_rfl) h

noncomputable abbrev E_code_Long : Env := mkE 12 (fun _ => none)
noncomputable def C_code_Long : Code := Tryz.f56.body.getD .skip
def W_code_Long (a0 : AV) (H : Heap) (R : RR) : Prop :=
 pureK (bop .plain .lss a0 (I 0)) fun x1 =>
 condK x1 (
 ret1 H R (I 0)
 ) (
 pureK (bop .plain .gtr a0 (I 60)) fun x2 =>
 condK x2 (
 ret1 H R (I 0)
 ) (
 pureK (bop .plain .mul (I 19) a0) fun x3 =>
 pureK (bop .plain .add (I 5) x3) fun x4 =>
 ret1 H R x4
 )
 )
theorem code_Long_of {a0 : AV} {H : Heap} {R : RR} (h : W_code_Long a0 H R) : ACalls PP gΓ code_Long [a0] H R :=
 ACalls.of_K (E := E_code_Long) follows_PP Tryz.func56 (c := C_code_Long) (by kernel_rfl) Tryz.ntmps56 (by kernel_rfl) h

noncomputable abbrev E_slots_Store_Room : Env := mkE 8 (fun _ => none)
noncomputable def C_slots_Store_Room : Code := Tryz.f57.body.getD .skip
def W_slots_Store_Room (a0 : AV) (H : Heap) (R : RR) : Prop :=
 ACalls PP gΓ slots_Store_half [a0] H fun x1 H2 =>
 pureK (bop .plain .sub x1 (I 2)) fun x3 =>
 pureK (bop .plain .mul x3 (I 16)) fun x4 =>
 pureK (minE [I 2048, x4]) fun x5 =>
 ret1 H2 R x5
theorem slots_Store_Room_of {a0 : AV} {H : Heap} {R : RR} (h : W_slots_Store_Room a0 H R) : ACalls PP gΓ slots_Store_Room [a0] H R :=
 ACalls.of_K (E := E_slots_Store_Room) follows_PP Tryz.func57 (c := C_slots_Store_Room) (by kernel_rfl) Tryz.ntmps57 (by kernel_rfl) h

noncomputable abbrev E_slices_Clone_int : Env := mkE 8 (fun _ => none)
noncomputable def C_slices_Clone_int : Code := Tryz.f58.body.getD .skip
def W_slices_Clone_int (a0 : AV) (H : Heap) (R : RR) : Prop :=
 nilK a0 fun x1 =>
 condK x1 (
 ret1 H R (.lst 0 [] .exact)
 ) (
 pureK (bsl 1 (.sc (.int .i64 0)) 0 []) fun x2 =>
 appK 1 x2 a0 H fun x3 H4 =>
 ret1 H4 R x3
 )
theorem slices_Clone_int_of {a0 : AV} {H : Heap} {R : RR} (h : W_slices_Clone_int a0 H R) : ACalls PP gΓ slices_Clone_int [a0] H R :=
 ACalls.of_K (E := E_slices_Clone_int) follows_PP Tryz.func58 (c := C_slices_Clone_int) (by kernel_rfl) Tryz.ntmps58 (by kernel_rfl) h

noncomputable abbrev E_deal_New : Env := mkE 8 (fun _ => none)
noncomputable def C_deal_New : Code := Tryz.f59.body.getD .skip
def W_deal_New (a0 : AV) (H : Heap) (R : RR) : Prop :=
 ACalls PP gΓ slices_Clone_int [a0] H fun x1 H2 =>
 newMapK H2 fun x3 H4 =>
 pureK (bld [(0, 1), (1, 1), (2, 1), (3, 1)] [.lst 0 [] .exact, .lst 0 [] .exact, .sc (.map none), .sc (.int .i64 0)] [(0, x1), (2, x3)]) fun x5 =>
 allocK (some (AV.cells x5)) H4 fun p6 H7 =>
 ret1 H7 R p6
theorem deal_New_of {a0 : AV} {H : Heap} {R : RR} (h : W_deal_New a0 H R) : ACalls PP gΓ deal_New [a0] H R :=
 ACalls.of_K (E := E_deal_New) follows_PP Tryz.func59 (c := C_deal_New) (by kernel_rfl) Tryz.ntmps59 (by kernel_rfl) h

noncomputable abbrev E_deal_Dealer_Ask : Env := mkE 54 (fun _ => none)
noncomputable def C_deal_Dealer_Ask : Code := Tryz.f60.body.getD .skip
def W_deal_Dealer_Ask (a0 a1 a2 : AV) (H : Heap) (R : RR) : Prop :=
 pureK (nilE a0) fun x1 =>
 pureK (fa 3 x1) fun x2 =>
 pureK (ld (some false) 1 H x2) fun x3 =>
 pureK (bop .plain .add x3 (I 1)) fun x4 =>
 pureK (nilE a0) fun x5 =>
 pureK (fa 3 x5) fun x6 =>
 heapK (st 1 H x6 x4) fun H7 =>
 pureK (nilE a0) fun x8 =>
 pureK (fa 2 x8) fun x9 =>
 pureK (ld (some false) 1 H7 x9) fun x10 =>
 pureK (lk (B false) true x10 a1 H7) fun x11 =>
 pureK (extractE x11 0) fun x12 =>
 pureK (extractE x11 1) fun x13 =>
 pureK (unE .not x13) fun x14 =>
 condK x14 (
 pureK (nilE a0) fun x15 =>
 pureK (fa 0 x15) fun x16 =>
 pureK (ld (some false) 1 H7 x16) fun x17 =>
 ACalls PP gΓ slices_Contains_int [x17, a1] H7 fun x18 H19 =>
 pureK (unE .not x18) fun x20 =>
 pureK (nilE a0) fun x21 =>
 pureK (fa 2 x21) fun x22 =>
 pureK (ld (some false) 1 H19 x22) fun x23 =>
 heapK (mu x23 a1 x20 H19) fun H24 =>
 pureK (nilE a0) fun x25 =>
 pureK (fa 1 x25) fun x26 =>
 pureK (ld (some false) 1 H24 x26) fun x27 =>
 pureK (bld [(0, 1), (1, 1), (2, 1)] [.sc (.int .i64 0), S emp, B false] [(0, a1), (1, a2), (2, x20)]) fun x28 =>
 pureK (bsl 3 (.agg [.sc (.int .i64 0), S emp, B false]) 1 [(0, x28)]) fun x29 =>
 appK 3 x27 x29 H24 fun x30 H31 =>
 pureK (nilE a0) fun x32 =>
 pureK (fa 1 x32) fun x33 =>
 heapK (st 1 H31 x33 x30) fun H34 =>
 ret1 H34 R x20
 ) (
 ret1 H7 R x12
 )
theorem deal_Dealer_Ask_of {a0 a1 a2 : AV} {H : Heap} {R : RR} (h : W_deal_Dealer_Ask a0 a1 a2 H R) : ACalls PP gΓ deal_Dealer_Ask [a0, a1, a2] H R :=
 ACalls.of_K (E := E_deal_Dealer_Ask) follows_PP Tryz.func60 (c := C_deal_Dealer_Ask) (by kernel_rfl) Tryz.ntmps60 (by kernel_rfl) h

def L_ref03_Walk : Nat → Option (List Nat) := fun k => bif Nat.beq k 1006 then some [0, 1, 6, 7, 8] else none
noncomputable abbrev E_ref03_Walk : Env := mkE 52 (L_ref03_Walk)
noncomputable def C_ref03_Walk : Code := Tryz.f61.body.getD .skip
def W_ref03_Walk (a0 a1 : AV) (H : Heap) (R : RR) : Prop :=
 pureK (lnl a0) fun x1 =>
 pureK (bop .plain .geq a1 x1) fun x2 =>
 condK x2 (
 ret1 H R (.tup [I (-1), I 0])
 ) (
 pureK (ias 3 a0 a1) fun x3 =>
 pureK (fa 0 x3) fun x4 =>
 pureK (ld (some false) 1 H x4) fun x5 =>
 ACalls PP gΓ ref03_Arity [x5] H fun x6 H7 =>
 pureK (bop .plain .lss x6 (I 0)) fun x8 =>
 condK x8 (
 ret1 H7 R (.tup [I (-1), I 0])
 ) (
 pureK (bop .plain .add a1 (I 1)) fun x9 =>
 ∃ J10 : List AV → Heap → Nat → Prop, (∃ (n16 : Nat) (H17 : Heap), H17 ≤ H7 ∧ J10 [a0, a1, x9, I 0, I 0] H17 n16) ∧ ∀ (vs11 : List AV) (H12 : Heap) (n13 : Nat), J10 vs11 H12 n13 →
 pureK (ias 3 (nth vs11 0) (nth vs11 1)) fun x18 =>
 pureK (fa 0 x18) fun x19 =>
 pureK (ld (some false) 1 H12 x19) fun x20 =>
 ACalls PP gΓ ref03_Arity [x20] H12 fun x21 H22 =>
 pureK (bop .plain .lss (nth vs11 4) x21) fun x23 =>
 condK x23 (
 ACalls PP gΓ ref03_Walk [nth vs11 0, nth vs11 2] H22 fun x24 H25 =>
 pureK (extractE x24 0) fun x26 =>
 pureK (extractE x24 1) fun x27 =>
 pureK (bop .plain .lss x26 (I 0)) fun x28 =>
 condK x28 (
 ret1 H25 R (.tup [I (-1), I 0])
 ) (
 pureK (bop .plain .gtr x27 (nth vs11 3)) fun x29 =>
 condK x29 (
 pureK (bop .plain .add (nth vs11 4) (I 1)) fun x30 =>
 (∃ (n14 : Nat) (H15 : Heap), n14 < n13 ∧ H15 ≤ H25 ∧ J10 [nth vs11 0, nth vs11 1, x26, x27, x30] H15 n14)
 ) (
 pureK (bop .plain .add (nth vs11 4) (I 1)) fun x31 =>
 (∃ (n14 : Nat) (H15 : Heap), n14 < n13 ∧ H15 ≤ H25 ∧ J10 [nth vs11 0, nth vs11 1, x26, nth vs11 3, x31] H15 n14)
 )
 )
 ) (
 pureK (bop .plain .add (nth vs11 3) (I 1)) fun x32 =>
 ret1 H22 R (.tup [nth vs11 2, x32])
 )
 )
 )
theorem ref03_Walk_of {a0 a1 : AV} {H : Heap} {R : RR} (h : W_ref03_Walk a0 a1 H R) : ACalls PP gΓ ref03_Walk [a0, a1] H R :=
 ACalls.of_K (E := E_ref03_Walk) follows_PP Tryz.func61 (c := C_ref03_Walk) (by kernel_rfl) Tryz.ntmps61 (by kernel_rfl) h

noncomputable abbrev E_sign_Text : Env := mkE 9 (fun _ => none)
noncomputable def C_sign_Text : Code := Tryz.f62.body.getD .skip
def W_sign_Text (a0 : AV) (H : Heap) (R : RR) : Prop :=
 ACalls PP gΓ sign_Is [a0] H fun x1 H2 =>
 pureK (unE .not x1) fun x3 =>
 condK x3 (
 ret1 H2 R (S emp)
 ) (
 ACalls PP gΓ sign_texts [] H2 fun x4 H5 =>
 pureK (ixa 4 (some false) 1 x4 a0) fun x6 =>
 ret1 H5 R x6
 )
theorem sign_Text_of {a0 : AV} {H : Heap} {R : RR} (h : W_sign_Text a0 H R) : ACalls PP gΓ sign_Text [a0] H R :=
 ACalls.of_K (E := E_sign_Text) follows_PP Tryz.func62 (c := C_sign_Text) (by kernel_rfl) Tryz.ntmps62 (by kernel_rfl) h

def L_deal_picked_deal_Deed_string : Nat → Option (List Nat) := fun k => bif Nat.beq k 1003 then some [1, 2, 7, 10, 11, 12] else none
noncomputable abbrev E_deal_picked_deal_Deed_string : Env := mkE 27 (L_deal_picked_deal_Deed_string)
noncomputable def C_deal_picked_deal_Deed_string : Code := Tryz.f63.body.getD .skip
def W_deal_picked_deal_Deed_string (a0 a1 a2 : AV) (H : Heap) (R : RR) : Prop :=
 pureK (lnl a0) fun x1 =>
 ∃ J2 : List AV → Heap → Nat → Prop, (∃ (n8 : Nat) (H9 : Heap), H9 ≤ H ∧ J2 [a1, a2, .lst 0 [] .exact, a0, x1, I 0] H9 n8) ∧ ∀ (vs3 : List AV) (H4 : Heap) (n5 : Nat), J2 vs3 H4 n5 →
 pureK (bop .plain .lss (nth vs3 5) (nth vs3 4)) fun x10 =>
 condK x10 (
 pureK (ias 3 (nth vs3 3) (nth vs3 5)) fun x11 =>
 pureK (ld (some true) 3 H4 x11) fun x12 =>
 allocP [.sc (.int .i64 0), S emp, B false] H4 fun o13 H14 =>
 heapK (st 3 H14 (.ptr o13 0) x12) fun H15 =>
 pureK (ld (some true) 3 H15 (.ptr o13 0)) fun x16 =>
 callK (E_deal_picked_deal_Deed_string) (nth vs3 0) [x16] H15 fun x17 H18 =>
 condK x17 (
 pureK (ld (some true) 3 H18 (.ptr o13 0)) fun x19 =>
 callK (E_deal_picked_deal_Deed_string) (nth vs3 1) [x19] H18 fun x20 H21 =>
 pureK (bsl 1 (S emp) 1 [(0, x20)]) fun x22 =>
 appK 1 (nth vs3 2) x22 H21 fun x23 H24 =>
 pureK (bop .plain .add (nth vs3 5) (I 1)) fun x25 =>
 (∃ (n6 : Nat) (H7 : Heap), n6 < n5 ∧ H7 ≤ H24 ∧ J2 [nth vs3 0, nth vs3 1, x23, nth vs3 3, nth vs3 4, x25] H7 n6)
 ) (
 pureK (bop .plain .add (nth vs3 5) (I 1)) fun x26 =>
 (∃ (n6 : Nat) (H7 : Heap), n6 < n5 ∧ H7 ≤ H18 ∧ J2 [nth vs3 0, nth vs3 1, nth vs3 2, nth vs3 3, nth vs3 4, x26] H7 n6)
 )
 ) (
 ret1 H4 R (nth vs3 2)
 )
theorem deal_picked_deal_Deed_string_of {a0 a1 a2 : AV} {H : Heap} {R : RR} (h : W_deal_picked_deal_Deed_string a0 a1 a2 H R) : ACalls PP gΓ deal_picked_deal_Deed_string [a0, a1, a2] H R :=
 ACalls.of_K (E := E_deal_picked_deal_Deed_string) follows_PP Tryz.func63 (c := C_deal_picked_deal_Deed_string) (by kernel_rfl) Tryz.ntmps63 (by kernel_rfl) h

noncomputable abbrev E_deal_Dealer_Done_1 : Env := mkE 5 (fun _ => none)
noncomputable def C_deal_Dealer_Done_1 : Code := Tryz.f64.body.getD .skip
def W_deal_Dealer_Done_1 (a0 : AV) (H : Heap) (R : RR) : Prop :=
 allocK (some (AV.cells a0)) H fun p1 H2 =>
 pureK (fa 2 p1) fun x3 =>
 pureK (ld (some false) 1 H2 x3) fun x4 =>
 ret1 H2 R x4
theorem deal_Dealer_Done_1_of {a0 : AV} {H : Heap} {R : RR} (h : W_deal_Dealer_Done_1 a0 H R) : ACalls PP gΓ deal_Dealer_Done_1 [a0] H R :=
 ACalls.of_K (E := E_deal_Dealer_Done_1) follows_PP Tryz.func64 (c := C_deal_Dealer_Done_1) (by kernel_rfl) Tryz.ntmps64 (by kernel_rfl) h

noncomputable abbrev E_deal_name : Env := mkE 5 (fun _ => none)
noncomputable def C_deal_name : Code := Tryz.f65.body.getD .skip
def W_deal_name (a0 : AV) (H : Heap) (R : RR) : Prop :=
 allocK (some (AV.cells a0)) H fun p1 H2 =>
 pureK (fa 1 p1) fun x3 =>
 pureK (ld (some false) 1 H2 x3) fun x4 =>
 ret1 H2 R x4
theorem deal_name_of {a0 : AV} {H : Heap} {R : RR} (h : W_deal_name a0 H R) : ACalls PP gΓ deal_name [a0] H R :=
 ACalls.of_K (E := E_deal_name) follows_PP Tryz.func65 (c := C_deal_name) (by kernel_rfl) Tryz.ntmps65 (by kernel_rfl) h

def L_slots_Store_Slot : Nat → Option (List Nat) := fun k => bif Nat.beq k 1006 then some [0, 7, 8, 26, 27] else none
noncomputable abbrev E_slots_Store_Slot : Env := mkE 72 (L_slots_Store_Slot)
noncomputable def C_slots_Store_Slot : Code := Tryz.f66.body.getD .skip
def W_slots_Store_Slot (a0 a1 : AV) (H : Heap) (R : RR) : Prop :=
 pureK (bop .plain .lss a1 (I 0)) fun x1 =>
 condK x1 (
 ret1 H R (.tup [.sc (.int .u64 0), .lst 0 [] .exact, B false])
 ) (
 pureK (bop .plain .geq a1 (I 2)) fun x2 =>
 condK x2 (
 ret1 H R (.tup [.sc (.int .u64 0), .lst 0 [] .exact, B false])
 ) (
 ACalls PP gΓ slots_Store_half [a0] H fun x3 H4 =>
 pureK (bop .plain .mul a1 x3) fun x5 =>
 ACalls PP gΓ slots_Store_half [a0] H4 fun x6 H7 =>
 pureK (bop .plain .sub x6 (I 1)) fun x8 =>
 ∃ J9 : List AV → Heap → Nat → Prop, (∃ (n15 : Nat) (H16 : Heap), H16 ≤ H7 ∧ J9 [a0, .lst 0 [] .exact, x5, x8, I 0] H16 n15) ∧ ∀ (vs10 : List AV) (H11 : Heap) (n12 : Nat), J9 vs10 H11 n12 →
 pureK (bop .plain .lss (nth vs10 4) (nth vs10 3)) fun x17 =>
 condK x17 (
 pureK (nilE (nth vs10 0)) fun x18 =>
 pureK (fa 0 x18) fun x19 =>
 pureK (ld (some false) 1 H11 x19) fun x20 =>
 pureK (bop .plain .add (nth vs10 2) (nth vs10 4)) fun x21 =>
 ACalls PP gΓ disk_Disk_Read [x20, x21] H11 fun x22 H23 =>
 appK 1 (nth vs10 1) x22 H23 fun x24 H25 =>
 pureK (bop .plain .add (nth vs10 4) (I 1)) fun x26 =>
 (∃ (n13 : Nat) (H14 : Heap), n13 < n12 ∧ H14 ≤ H25 ∧ J9 [nth vs10 0, x24, nth vs10 2, nth vs10 3, x26] H14 n13)
 ) (
 ACalls PP gΓ crc_Open [nth vs10 1] H11 fun x27 H28 =>
 pureK (extractE x27 0) fun x29 =>
 pureK (extractE x27 1) fun x30 =>
 pureK (extractE x27 2) fun x31 =>
 pureK (nilE (nth vs10 0)) fun x32 =>
 pureK (fa 0 x32) fun x33 =>
 pureK (ld (some false) 1 H28 x33) fun x34 =>
 ∃ x35, AReads PP gΓ slots_Store_half [nth vs10 0] H28 x35 ∧
 pureK (bop .plain .add (nth vs10 2) x35) fun x36 =>
 pureK (bop .plain .sub x36 (I 1)) fun x37 =>
 ACalls PP gΓ disk_Disk_Read [x34, x37] H28 fun x38 H39 =>
 pureK (unE .not x31) fun x40 =>
 condK x40 (
 ret1 H39 R (.tup [.sc (.int .u64 0), .lst 0 [] .exact, B false])
 ) (
 pureK (bop .plain .eql x29 (.sc (.int .u64 0))) fun x41 =>
 condK x41 (
 ret1 H39 R (.tup [.sc (.int .u64 0), .lst 0 [] .exact, B false])
 ) (
 pureK (sll 1 x38 none (some (I 8)) none) fun x42 =>
 ACalls PP gΓ crc_Get [x42] H39 fun x43 H44 =>
 pureK (bop .plain .neq x43 x29) fun x45 =>
 condK x45 (
 ret1 H44 R (.tup [.sc (.int .u64 0), .lst 0 [] .exact, B false])
 ) (
 ret1 H44 R (.tup [x29, x30, B true])
 )
 )
 )
 )
 )
 )
theorem slots_Store_Slot_of {a0 a1 : AV} {H : Heap} {R : RR} (h : W_slots_Store_Slot a0 a1 H R) : ACalls PP gΓ slots_Store_Slot [a0, a1] H R :=
 ACalls.of_K (E := E_slots_Store_Slot) follows_PP Tryz.func66 (c := C_slots_Store_Slot) (by kernel_rfl) Tryz.ntmps66 (by kernel_rfl) h

noncomputable abbrev E_code_reader_next : Env := mkE 29 (fun _ => none)
noncomputable def C_code_reader_next : Code := Tryz.f67.body.getD .skip
def W_code_reader_next (a0 : AV) (H : Heap) (R : RR) : Prop :=
 pureK (nilE a0) fun x1 =>
 pureK (fa 0 x1) fun x2 =>
 pureK (ld (some false) 1 H x2) fun x3 =>
 pureK (lnl x3) fun x4 =>
 pureK (bop .plain .eql x4 (I 0)) fun x5 =>
 condK x5 (
 pureK (nilE a0) fun x6 =>
 pureK (fa 1 x6) fun x7 =>
 heapK (st 1 H x7 (B true)) fun H8 =>
 ret1 H8 R (I 0)
 ) (
 pureK (nilE a0) fun x9 =>
 pureK (fa 0 x9) fun x10 =>
 pureK (ld (some false) 1 H x10) fun x11 =>
 pureK (ias 1 x11 (I 0)) fun x12 =>
 pureK (ld (some false) 1 H x12) fun x13 =>
 pureK (nilE a0) fun x14 =>
 pureK (fa 0 x14) fun x15 =>
 pureK (ld (some false) 1 H x15) fun x16 =>
 pureK (sll 1 x16 (some (I 1)) none none) fun x17 =>
 pureK (nilE a0) fun x18 =>
 pureK (fa 0 x18) fun x19 =>
 heapK (st 1 H x19 x17) fun H20 =>
 pureK (cv (.toInt .i64) x13) fun x21 =>
 ret1 H20 R x21
 )
theorem code_reader_next_of {a0 : AV} {H : Heap} {R : RR} (h : W_code_reader_next a0 H R) : ACalls PP gΓ code_reader_next [a0] H R :=
 ACalls.of_K (E := E_code_reader_next) follows_PP Tryz.func67 (c := C_code_reader_next) (by kernel_rfl) Tryz.ntmps67 (by kernel_rfl) h

noncomputable abbrev E_code_reader_name : Env := mkE 32 (fun _ => none)
noncomputable def C_code_reader_name : Code := Tryz.f68.body.getD .skip
def W_code_reader_name (a0 : AV) (H : Heap) (R : RR) : Prop :=
 ACalls PP gΓ code_reader_next [a0] H fun x1 H2 =>
 pureK (nilE a0) fun x3 =>
 pureK (fa 0 x3) fun x4 =>
 pureK (ld (some false) 1 H2 x4) fun x5 =>
 pureK (lnl x5) fun x6 =>
 pureK (minE [x1, x6]) fun x7 =>
 pureK (nilE a0) fun x8 =>
 pureK (fa 0 x8) fun x9 =>
 pureK (ld (some false) 1 H2 x9) fun x10 =>
 pureK (sll 1 x10 none (some x7) none) fun x11 =>
 pureK (cv .toStr x11) fun x12 =>
 pureK (nilE a0) fun x13 =>
 pureK (fa 0 x13) fun x14 =>
 pureK (ld (some false) 1 H2 x14) fun x15 =>
 pureK (sll 1 x15 (some x7) none none) fun x16 =>
 pureK (nilE a0) fun x17 =>
 pureK (fa 0 x17) fun x18 =>
 heapK (st 1 H2 x18 x16) fun H19 =>
 ret1 H19 R x12
theorem code_reader_name_of {a0 : AV} {H : Heap} {R : RR} (h : W_code_reader_name a0 H R) : ACalls PP gΓ code_reader_name [a0] H R :=
 ACalls.of_K (E := E_code_reader_name) follows_PP Tryz.func68 (c := C_code_reader_name) (by kernel_rfl) Tryz.ntmps68 (by kernel_rfl) h

def L_code_Encode : Nat → Option (List Nat) := fun k => bif Nat.beq k 1005 then some [1, 4, 18, 19, 20] else bif Nat.beq k 1017 then some [4, 67, 68, 69] else none
noncomputable abbrev E_code_Encode : Env := mkE 78 (L_code_Encode)
noncomputable def C_code_Encode : Code := Tryz.f69.body.getD .skip
def W_code_Encode (a0 : AV) (H : Heap) (R : RR) : Prop :=
 allocK (some (AV.cells a0)) H fun p1 H2 =>
 pureK (ld (some true) 5 H2 p1) fun x3 =>
 ACalls PP gΓ code_Right [x3] H2 fun x4 H5 =>
 pureK (unE .not x4) fun x6 =>
 condK x6 (
 ret1 H5 R (.tup [.lst 0 [] .exact, B false])
 ) (
 pureK (fa 0 p1) fun x7 =>
 pureK (ld (some false) 1 H5 x7) fun x8 =>
 pureK (lnl x8) fun x9 =>
 pureK (cv (.toInt .u8) x9) fun x10 =>
 pureK (bsl 1 (.sc (.int .u8 0)) 1 [(0, x10)]) fun x11 =>
 pureK (fa 0 p1) fun x12 =>
 pureK (ld (some false) 1 H5 x12) fun x13 =>
 pureK (lnl x13) fun x14 =>
 ∃ J15 : List AV → Heap → Nat → Prop, (∃ (n21 : Nat) (H22 : Heap), H22 ≤ H5 ∧ J15 [p1, x11, x13, x14, I 0] H22 n21) ∧ ∀ (vs16 : List AV) (H17 : Heap) (n18 : Nat), J15 vs16 H17 n18 →
 pureK (bop .plain .lss (nth vs16 4) (nth vs16 3)) fun x23 =>
 condK x23 (
 pureK (ias 3 (nth vs16 2) (nth vs16 4)) fun x24 =>
 pureK (ld (some true) 3 H17 x24) fun x25 =>
 allocP [.sc (.int .i64 0), S emp, .sc (.int .i64 0)] H17 fun o26 H27 =>
 heapK (st 3 H27 (.ptr o26 0) x25) fun H28 =>
 pureK (fa 0 (.ptr o26 0)) fun x29 =>
 pureK (ld (some false) 1 H28 x29) fun x30 =>
 pureK (cv (.toInt .u8) x30) fun x31 =>
 pureK (bsl 1 (.sc (.int .u8 0)) 1 [(0, x31)]) fun x32 =>
 appK 1 (nth vs16 1) x32 H28 fun x33 H34 =>
 pureK (fa 0 (.ptr o26 0)) fun x35 =>
 pureK (ld (some false) 1 H34 x35) fun x36 =>
 pureK (bop .plain .eql x36 (I 1)) fun x37 =>
 condK x37 (
 pureK (fa 1 (.ptr o26 0)) fun x38 =>
 pureK (ld (some false) 1 H34 x38) fun x39 =>
 ACalls PP gΓ code_named [x33, x39] H34 fun x40 H41 =>
 pureK (bop .plain .add (nth vs16 4) (I 1)) fun x42 =>
 (∃ (n19 : Nat) (H20 : Heap), n19 < n18 ∧ H20 ≤ H41 ∧ J15 [nth vs16 0, x40, nth vs16 2, nth vs16 3, x42] H20 n19)
 ) (
 pureK (bop .plain .eql x36 (I 11)) fun x43 =>
 condK x43 (
 pureK (fa 2 (.ptr o26 0)) fun x44 =>
 pureK (ld (some false) 1 H34 x44) fun x45 =>
 pureK (cv (.toInt .u8) x45) fun x46 =>
 pureK (bsl 1 (.sc (.int .u8 0)) 1 [(0, x46)]) fun x47 =>
 appK 1 x33 x47 H34 fun x48 H49 =>
 pureK (bop .plain .add (nth vs16 4) (I 1)) fun x50 =>
 (∃ (n19 : Nat) (H20 : Heap), n19 < n18 ∧ H20 ≤ H49 ∧ J15 [nth vs16 0, x48, nth vs16 2, nth vs16 3, x50] H20 n19)
 ) (
 pureK (bop .plain .eql x36 (I 14)) fun x51 =>
 condK x51 (
 pureK (fa 2 (.ptr o26 0)) fun x52 =>
 pureK (ld (some false) 1 H34 x52) fun x53 =>
 pureK (cv (.toInt .u8) x53) fun x54 =>
 pureK (bsl 1 (.sc (.int .u8 0)) 1 [(0, x54)]) fun x55 =>
 appK 1 x33 x55 H34 fun x56 H57 =>
 pureK (bop .plain .add (nth vs16 4) (I 1)) fun x58 =>
 (∃ (n19 : Nat) (H20 : Heap), n19 < n18 ∧ H20 ≤ H57 ∧ J15 [nth vs16 0, x56, nth vs16 2, nth vs16 3, x58] H20 n19)
 ) (
 pureK (bop .plain .add (nth vs16 4) (I 1)) fun x59 =>
 (∃ (n19 : Nat) (H20 : Heap), n19 < n18 ∧ H20 ≤ H34 ∧ J15 [nth vs16 0, x33, nth vs16 2, nth vs16 3, x59] H20 n19)
 )
 )
 )
 ) (
 pureK (fa 1 (nth vs16 0)) fun x60 =>
 pureK (fa 0 x60) fun x61 =>
 pureK (ld (some false) 1 H17 x61) fun x62 =>
 pureK (cv (.toInt .u8) x62) fun x63 =>
 pureK (fa 1 (nth vs16 0)) fun x64 =>
 pureK (fa 1 x64) fun x65 =>
 pureK (ld (some false) 1 H17 x65) fun x66 =>
 pureK (cv (.toInt .u8) x66) fun x67 =>
 pureK (fa 3 (nth vs16 0)) fun x68 =>
 pureK (ld (some false) 1 H17 x68) fun x69 =>
 pureK (cv (.toInt .u8) x69) fun x70 =>
 pureK (fa 4 (nth vs16 0)) fun x71 =>
 pureK (ld (some false) 1 H17 x71) fun x72 =>
 pureK (lnl x72) fun x73 =>
 pureK (cv (.toInt .u8) x73) fun x74 =>
 pureK (bsl 1 (.sc (.int .u8 0)) 4 [(0, x63), (1, x67), (2, x70), (3, x74)]) fun x75 =>
 appK 1 (nth vs16 1) x75 H17 fun x76 H77 =>
 pureK (fa 4 (nth vs16 0)) fun x78 =>
 pureK (ld (some false) 1 H77 x78) fun x79 =>
 pureK (lnl x79) fun x80 =>
 ∃ J81 : List AV → Heap → Nat → Prop, (∃ (n87 : Nat) (H88 : Heap), H88 ≤ H77 ∧ J81 [x76, x79, x80, I 0] H88 n87) ∧ ∀ (vs82 : List AV) (H83 : Heap) (n84 : Nat), J81 vs82 H83 n84 →
 pureK (bop .plain .lss (nth vs82 3) (nth vs82 2)) fun x89 =>
 condK x89 (
 pureK (ias 1 (nth vs82 1) (nth vs82 3)) fun x90 =>
 pureK (ld (some false) 1 H83 x90) fun x91 =>
 ACalls PP gΓ code_named [nth vs82 0, x91] H83 fun x92 H93 =>
 pureK (bop .plain .add (nth vs82 3) (I 1)) fun x94 =>
 (∃ (n85 : Nat) (H86 : Heap), n85 < n84 ∧ H86 ≤ H93 ∧ J81 [x92, nth vs82 1, nth vs82 2, x94] H86 n85)
 ) (
 ret1 H83 R (.tup [nth vs82 0, B true])
 )
 )
 )
theorem code_Encode_of {a0 : AV} {H : Heap} {R : RR} (h : W_code_Encode a0 H R) : ACalls PP gΓ code_Encode [a0] H R :=
 ACalls.of_K (E := E_code_Encode) follows_PP Tryz.func69 (c := C_code_Encode) (by kernel_rfl) Tryz.ntmps69 (by kernel_rfl) h

noncomputable abbrev E_bytes_Equal : Env := mkE 10 (fun _ => none)
noncomputable def C_bytes_Equal : Code := Tryz.f70.body.getD .skip
def W_bytes_Equal (a0 a1 : AV) (H : Heap) (R : RR) : Prop :=
 pureK (cv .toStr a0) fun x1 =>
 pureK (cv .toStr a1) fun x2 =>
 pureK (bop .plain .eql x1 x2) fun x3 =>
 ret1 H R x3
theorem bytes_Equal_of {a0 a1 : AV} {H : Heap} {R : RR} (h : W_bytes_Equal a0 a1 H R) : ACalls PP gΓ bytes_Equal [a0, a1] H R :=
 ACalls.of_K (E := E_bytes_Equal) follows_PP Tryz.func70 (c := C_bytes_Equal) (by kernel_rfl) Tryz.ntmps70 (by kernel_rfl) h

noncomputable abbrev E_step_Refuse : Env := mkE 21 (fun _ => none)
noncomputable def C_step_Refuse : Code := Tryz.f71.body.getD .skip
def W_step_Refuse (a0 a1 : AV) (H : Heap) (R : RR) : Prop :=
 allocK (some (AV.cells a1)) H fun p1 H2 =>
 pureK (ld (some true) 2 H2 p1) fun x3 =>
 ACalls PP gΓ move_Is [a0, x3] H2 fun x4 H5 =>
 pureK (unE .not x4) fun x6 =>
 condK x6 (
 ret1 H5 R (.tup [.lst 0 [] .exact, I 120])
 ) (
 pureK (fa 1 p1) fun x7 =>
 pureK (ld (some false) 1 H5 x7) fun x8 =>
 pureK (bop .plain .neq x8 (I 1)) fun x9 =>
 condK x9 (
 ret1 H5 R (.tup [.lst 0 [] .exact, I 120])
 ) (
 pureK (fa 0 p1) fun x10 =>
 pureK (ld (some false) 1 H5 x10) fun x11 =>
 ∃ x12, AReads PP gΓ step_leaf [I 3, I 0] H5 x12 ∧
 ACalls PP gΓ step_Put [a0, x11, x12] H5 fun x13 H14 =>
 ACalls PP gΓ settle_Settle [x13] H14 fun x15 H16 =>
 ret1 H16 R (.tup [x15, I 0])
 )
 )
theorem step_Refuse_of {a0 a1 : AV} {H : Heap} {R : RR} (h : W_step_Refuse a0 a1 H R) : ACalls PP gΓ step_Refuse [a0, a1] H R :=
 ACalls.of_K (E := E_step_Refuse) follows_PP Tryz.func71 (c := C_step_Refuse) (by kernel_rfl) Tryz.ntmps71 (by kernel_rfl) h

def L_slots_Store_Save : Nat → Option (List Nat) := fun k => bif Nat.beq k 1008 then some [0, 1, 7, 8, 10] else none
noncomputable abbrev E_slots_Store_Save : Env := mkE 73 (L_slots_Store_Save)
noncomputable def C_slots_Store_Save : Code := Tryz.f72.body.getD .skip
def W_slots_Store_Save (a0 a1 a2 : AV) (H : Heap) (R : RR) : Prop :=
 pureK (bop .plain .eql a1 (.sc (.int .u64 0))) fun x1 =>
 condK x1 (
 ret1 H R (I 1)
 ) (
 pureK (lnl a2) fun x2 =>
 ACalls PP gΓ slots_Store_Room [a0] H fun x3 H4 =>
 pureK (bop .plain .gtr x2 x3) fun x5 =>
 condK x5 (
 ret1 H4 R (I 181)
 ) (
 pureK (bop .plain .rem a1 (.sc (.int .u64 2))) fun x6 =>
 pureK (cv (.toInt .i64) x6) fun x7 =>
 ACalls PP gΓ slots_Store_half [a0] H4 fun x8 H9 =>
 pureK (bop .plain .mul x7 x8) fun x10 =>
 ACalls PP gΓ crc_Frame [a1, a2] H9 fun x11 H12 =>
 pureK (extractE x11 0) fun x13 =>
 pureK (extractE x11 1) fun x14 =>
 ∃ J15 : List AV → Heap → Nat → Prop, (∃ (n21 : Nat) (H22 : Heap), H22 ≤ H12 ∧ J15 [a0, a1, x10, x13, I 0] H22 n21) ∧ ∀ (vs16 : List AV) (H17 : Heap) (n18 : Nat), J15 vs16 H17 n18 →
 pureK (bop .plain .mul (nth vs16 4) (I 16)) fun x23 =>
 pureK (lnl (nth vs16 3)) fun x24 =>
 pureK (bop .plain .lss x23 x24) fun x25 =>
 condK x25 (
 pureK (nilE (nth vs16 0)) fun x26 =>
 pureK (fa 0 x26) fun x27 =>
 pureK (ld (some false) 1 H17 x27) fun x28 =>
 pureK (bop .plain .add (nth vs16 2) (nth vs16 4)) fun x29 =>
 pureK (bop .plain .mul (nth vs16 4) (I 16)) fun x30 =>
 pureK (lnl (nth vs16 3)) fun x31 =>
 pureK (bop .plain .add (nth vs16 4) (I 1)) fun x32 =>
 pureK (bop .plain .mul x32 (I 16)) fun x33 =>
 pureK (minE [x31, x33]) fun x34 =>
 pureK (sll 1 (nth vs16 3) (some x30) (some x34) none) fun x35 =>
 ACalls PP gΓ disk_Disk_Write [x28, x29, x35] H17 fun x36 H37 =>
 pureK (bop .plain .neq x36 (I 0)) fun x38 =>
 condK x38 (
 ret1 H37 R x36
 ) (
 pureK (bop .plain .add (nth vs16 4) (I 1)) fun x39 =>
 (∃ (n19 : Nat) (H20 : Heap), n19 < n18 ∧ H20 ≤ H37 ∧ J15 [nth vs16 0, nth vs16 1, nth vs16 2, nth vs16 3, x39] H20 n19)
 )
 ) (
 pureK (nilE (nth vs16 0)) fun x40 =>
 pureK (fa 0 x40) fun x41 =>
 pureK (ld (some false) 1 H17 x41) fun x42 =>
 ∃ x43, AReads PP gΓ slots_Store_half [nth vs16 0] H17 x43 ∧
 pureK (bop .plain .add (nth vs16 2) x43) fun x44 =>
 pureK (bop .plain .sub x44 (I 1)) fun x45 =>
 ∃ x46, AReads PP gΓ crc_Put [nth vs16 1, I 8] H17 x46 ∧
 ACalls PP gΓ disk_Disk_Write [x42, x45, x46] H17 fun x47 H48 =>
 ret1 H48 R x47
 )
 )
 )
theorem slots_Store_Save_of {a0 a1 a2 : AV} {H : Heap} {R : RR} (h : W_slots_Store_Save a0 a1 a2 H R) : ACalls PP gΓ slots_Store_Save [a0, a1, a2] H R :=
 ACalls.of_K (E := E_slots_Store_Save) follows_PP Tryz.func72 (c := C_slots_Store_Save) (by kernel_rfl) Tryz.ntmps72 (by kernel_rfl) h

def L_slices_Equal_Node : Nat → Option (List Nat) := fun k => bif Nat.beq k 1004 then some [0, 1, 12, 13] else none
noncomputable abbrev E_slices_Equal_Node : Env := mkE 26 (L_slices_Equal_Node)
noncomputable def C_slices_Equal_Node : Code := Tryz.f73.body.getD .skip
def W_slices_Equal_Node (a0 a1 : AV) (H : Heap) (R : RR) : Prop :=
 pureK (lnl a0) fun x1 =>
 pureK (lnl a1) fun x2 =>
 pureK (bop .plain .neq x1 x2) fun x3 =>
 condK x3 (
 ret1 H R (B false)
 ) (
 pureK (lnl a0) fun x4 =>
 ∃ J5 : List AV → Heap → Nat → Prop, (∃ (n11 : Nat) (H12 : Heap), H12 ≤ H ∧ J5 [a0, a1, x4, I 0] H12 n11) ∧ ∀ (vs6 : List AV) (H7 : Heap) (n8 : Nat), J5 vs6 H7 n8 →
 pureK (bop .plain .lss (nth vs6 3) (nth vs6 2)) fun x13 =>
 condK x13 (
 pureK (ias 3 (nth vs6 0) (nth vs6 3)) fun x14 =>
 pureK (ld (some true) 3 H7 x14) fun x15 =>
 pureK (ias 3 (nth vs6 1) (nth vs6 3)) fun x16 =>
 pureK (ld (some true) 3 H7 x16) fun x17 =>
 pureK (bop (.flat [.int, .str, .int]) .neq x15 x17) fun x18 =>
 condK x18 (
 ret1 H7 R (B false)
 ) (
 pureK (bop .plain .add (nth vs6 3) (I 1)) fun x19 =>
 (∃ (n9 : Nat) (H10 : Heap), n9 < n8 ∧ H10 ≤ H7 ∧ J5 [nth vs6 0, nth vs6 1, nth vs6 2, x19] H10 n9)
 )
 ) (
 ret1 H7 R (B true)
 )
 )
theorem slices_Equal_Node_of {a0 a1 : AV} {H : Heap} {R : RR} (h : W_slices_Equal_Node a0 a1 H R) : ACalls PP gΓ slices_Equal_Node [a0, a1] H R :=
 ACalls.of_K (E := E_slices_Equal_Node) follows_PP Tryz.func73 (c := C_slices_Equal_Node) (by kernel_rfl) Tryz.ntmps73 (by kernel_rfl) h

def L_move_Enabled : Nat → Option (List Nat) := fun k => bif Nat.beq k 1004 then some [0, 3, 4, 11, 12, 13] else bif Nat.beq k 1007 then some [0, 3, 4, 6, 11, 12, 13, 23, 24, 25] else none
noncomputable abbrev E_move_Enabled : Env := mkE 44 (L_move_Enabled)
noncomputable def C_move_Enabled : Code := Tryz.f74.body.getD .skip
def W_move_Enabled (a0 : AV) (H : Heap) (R : RR) : Prop :=
 ACalls PP gΓ move_ways [] H fun x1 H2 =>
 ACalls PP gΓ doom_Active [a0] H2 fun x3 H4 =>
 pureK (lnl x3) fun x5 =>
 ∃ J6 : List AV → Heap → Nat → Prop, (∃ (n12 : Nat) (H13 : Heap), H13 ≤ H4 ∧ J6 [a0, x1, .lst 0 [] .exact, x3, x5, I 0] H13 n12) ∧ ∀ (vs7 : List AV) (H8 : Heap) (n9 : Nat), J6 vs7 H8 n9 →
 pureK (bop .plain .lss (nth vs7 5) (nth vs7 4)) fun x14 =>
 condK x14 (
 pureK (ias 1 (nth vs7 3) (nth vs7 5)) fun x15 =>
 pureK (ld (some false) 1 H8 x15) fun x16 =>
 pureK (ias 3 (nth vs7 0) x16) fun x17 =>
 pureK (fa 0 x17) fun x18 =>
 pureK (ld (some false) 1 H8 x18) fun x19 =>
 pureK (lk (.lst 0 [] .exact) false (nth vs7 1) x19 H8) fun x20 =>
 pureK (lnl x20) fun x21 =>
 ∃ J22 : List AV → Heap → Nat → Prop, (∃ (n28 : Nat) (H29 : Heap), H29 ≤ H8 ∧ J22 [nth vs7 0, nth vs7 1, nth vs7 2, x16, nth vs7 3, nth vs7 4, nth vs7 5, x20, x21, I 0] H29 n28) ∧ ∀ (vs23 : List AV) (H24 : Heap) (n25 : Nat), J22 vs23 H24 n25 →
 pureK (bop .plain .lss (nth vs23 9) (nth vs23 8)) fun x30 =>
 condK x30 (
 pureK (ias 2 (nth vs23 7) (nth vs23 9)) fun x31 =>
 pureK (ld (some true) 2 H24 x31) fun x32 =>
 allocP [.sc (.int .i64 0), .sc .nilFunc] H24 fun o33 H34 =>
 heapK (st 2 H34 (.ptr o33 0) x32) fun H35 =>
 pureK (fa 1 (.ptr o33 0)) fun x36 =>
 pureK (ld (some false) 1 H35 x36) fun x37 =>
 callK (E_move_Enabled) x37 [nth vs23 0, nth vs23 3] H35 fun x38 H39 =>
 condK x38 (
 pureK (fa 0 (.ptr o33 0)) fun x40 =>
 pureK (ld (some false) 1 H39 x40) fun x41 =>
 pureK (bld [(0, 1), (1, 1)] [.sc (.int .i64 0), .sc (.int .i64 0)] [(0, nth vs23 3), (1, x41)]) fun x42 =>
 pureK (bsl 2 (.agg [.sc (.int .i64 0), .sc (.int .i64 0)]) 1 [(0, x42)]) fun x43 =>
 appK 2 (nth vs23 2) x43 H39 fun x44 H45 =>
 pureK (bop .plain .add (nth vs23 9) (I 1)) fun x46 =>
 (∃ (n26 : Nat) (H27 : Heap), n26 < n25 ∧ H27 ≤ H45 ∧ J22 [nth vs23 0, nth vs23 1, x44, nth vs23 3, nth vs23 4, nth vs23 5, nth vs23 6, nth vs23 7, nth vs23 8, x46] H27 n26)
 ) (
 pureK (bop .plain .add (nth vs23 9) (I 1)) fun x47 =>
 (∃ (n26 : Nat) (H27 : Heap), n26 < n25 ∧ H27 ≤ H39 ∧ J22 [nth vs23 0, nth vs23 1, nth vs23 2, nth vs23 3, nth vs23 4, nth vs23 5, nth vs23 6, nth vs23 7, nth vs23 8, x47] H27 n26)
 )
 ) (
 pureK (bop .plain .add (nth vs23 6) (I 1)) fun x48 =>
 (∃ (n10 : Nat) (H11 : Heap), n10 < n9 ∧ H11 ≤ H24 ∧ J6 [nth vs23 0, nth vs23 1, nth vs23 2, nth vs23 4, nth vs23 5, x48] H11 n10)
 )
 ) (
 ret1 H8 R (nth vs7 2)
 )
theorem move_Enabled_of {a0 : AV} {H : Heap} {R : RR} (h : W_move_Enabled a0 H R) : ACalls PP gΓ move_Enabled [a0] H R :=
 ACalls.of_K (E := E_move_Enabled) follows_PP Tryz.func74 (c := C_move_Enabled) (by kernel_rfl) Tryz.ntmps74 (by kernel_rfl) h

noncomputable abbrev E_move_Is : Env := mkE 9 (fun _ => none)
noncomputable def C_move_Is : Code := Tryz.f75.body.getD .skip
def W_move_Is (a0 a1 : AV) (H : Heap) (R : RR) : Prop :=
 allocK (some (AV.cells a1)) H fun p1 H2 =>
 ∃ x3, AReads PP gΓ move_Enabled [a0] H2 x3 ∧
 pureK (ld (some true) 2 H2 p1) fun x4 =>
 ACalls PP gΓ slices_Contains_Move [x3, x4] H2 fun x5 H6 =>
 ret1 H6 R x5
theorem move_Is_of {a0 a1 : AV} {H : Heap} {R : RR} (h : W_move_Is a0 a1 H R) : ACalls PP gΓ move_Is [a0, a1] H R :=
 ACalls.of_K (E := E_move_Is) follows_PP Tryz.func75 (c := C_move_Is) (by kernel_rfl) Tryz.ntmps75 (by kernel_rfl) h

noncomputable abbrev E_step_Put : Env := mkE 62 (fun _ => none)
noncomputable def C_step_Put : Code := Tryz.f76.body.getD .skip
def W_step_Put (a0 a1 a2 : AV) (H : Heap) (R : RR) : Prop :=
 pureK (bop .plain .geq a1 (I 0)) fun x1 =>
 condK x1 (
 pureK (lnl a0) fun x2 =>
 pureK (bop .plain .lss a1 x2) fun x3 =>
 condK x3 (
 pureK (sll 3 a0 (some a1) none none) fun x4 =>
 ACalls PP gΓ row_Size [x4] H fun x5 H6 =>
 pureK (bop .plain .eql x5 (I 0)) fun x7 =>
 condK x7 (
 pureK (lnl a0) fun x8 =>
 mks 3 [.sc (.int .i64 0), S emp, .sc (.int .i64 0)] x8 x8 H6 fun x9 H10 =>
 cpy 3 x9 a0 H10 fun x11 H12 =>
 ret1 H12 R x9
 ) (
 pureK (lnl a0) fun x13 =>
 pureK (bop .plain .sub x13 x5) fun x14 =>
 pureK (lnl a2) fun x15 =>
 pureK (bop .plain .add x14 x15) fun x16 =>
 mks 3 [.sc (.int .i64 0), S emp, .sc (.int .i64 0)] x16 x16 H6 fun x17 H18 =>
 pureK (sll 3 a0 none (some a1) none) fun x19 =>
 cpy 3 x17 x19 H18 fun x20 H21 =>
 pureK (sll 3 x17 (some a1) none none) fun x22 =>
 cpy 3 x22 a2 H21 fun x23 H24 =>
 pureK (lnl a2) fun x25 =>
 pureK (bop .plain .add a1 x25) fun x26 =>
 pureK (sll 3 x17 (some x26) none none) fun x27 =>
 pureK (bop .plain .add a1 x5) fun x28 =>
 pureK (sll 3 a0 (some x28) none none) fun x29 =>
 cpy 3 x27 x29 H24 fun x30 H31 =>
 ret1 H31 R x17
 )
 ) (
 pureK (bop .plain .eql (I 0) (I 0)) fun x32 =>
 condK x32 (
 pureK (lnl a0) fun x33 =>
 mks 3 [.sc (.int .i64 0), S emp, .sc (.int .i64 0)] x33 x33 H fun x34 H35 =>
 cpy 3 x34 a0 H35 fun x36 H37 =>
 ret1 H37 R x34
 ) (
 pureK (lnl a0) fun x38 =>
 pureK (bop .plain .sub x38 (I 0)) fun x39 =>
 pureK (lnl a2) fun x40 =>
 pureK (bop .plain .add x39 x40) fun x41 =>
 mks 3 [.sc (.int .i64 0), S emp, .sc (.int .i64 0)] x41 x41 H fun x42 H43 =>
 pureK (sll 3 a0 none (some a1) none) fun x44 =>
 cpy 3 x42 x44 H43 fun x45 H46 =>
 pureK (sll 3 x42 (some a1) none none) fun x47 =>
 cpy 3 x47 a2 H46 fun x48 H49 =>
 pureK (lnl a2) fun x50 =>
 pureK (bop .plain .add a1 x50) fun x51 =>
 pureK (sll 3 x42 (some x51) none none) fun x52 =>
 pureK (bop .plain .add a1 (I 0)) fun x53 =>
 pureK (sll 3 a0 (some x53) none none) fun x54 =>
 cpy 3 x52 x54 H49 fun x55 H56 =>
 ret1 H56 R x42
 )
 )
 ) (
 pureK (bop .plain .eql (I 0) (I 0)) fun x57 =>
 condK x57 (
 pureK (lnl a0) fun x58 =>
 mks 3 [.sc (.int .i64 0), S emp, .sc (.int .i64 0)] x58 x58 H fun x59 H60 =>
 cpy 3 x59 a0 H60 fun x61 H62 =>
 ret1 H62 R x59
 ) (
 pureK (lnl a0) fun x63 =>
 pureK (bop .plain .sub x63 (I 0)) fun x64 =>
 pureK (lnl a2) fun x65 =>
 pureK (bop .plain .add x64 x65) fun x66 =>
 mks 3 [.sc (.int .i64 0), S emp, .sc (.int .i64 0)] x66 x66 H fun x67 H68 =>
 pureK (sll 3 a0 none (some a1) none) fun x69 =>
 cpy 3 x67 x69 H68 fun x70 H71 =>
 pureK (sll 3 x67 (some a1) none none) fun x72 =>
 cpy 3 x72 a2 H71 fun x73 H74 =>
 pureK (lnl a2) fun x75 =>
 pureK (bop .plain .add a1 x75) fun x76 =>
 pureK (sll 3 x67 (some x76) none none) fun x77 =>
 pureK (bop .plain .add a1 (I 0)) fun x78 =>
 pureK (sll 3 a0 (some x78) none none) fun x79 =>
 cpy 3 x77 x79 H74 fun x80 H81 =>
 ret1 H81 R x67
 )
 )
theorem step_Put_of {a0 a1 a2 : AV} {H : Heap} {R : RR} (h : W_step_Put a0 a1 a2 H R) : ACalls PP gΓ step_Put [a0, a1, a2] H R :=
 ACalls.of_K (E := E_step_Put) follows_PP Tryz.func76 (c := C_step_Put) (by kernel_rfl) Tryz.ntmps76 (by kernel_rfl) h

noncomputable abbrev E_step_made : Env := mkE 36 (fun _ => none)
noncomputable def C_step_made : Code := Tryz.f77.body.getD .skip
def W_step_made (a0 a1 : AV) (H : Heap) (R : RR) : Prop :=
 allocK (some (AV.cells a0)) H fun p1 H2 =>
 pureK (ld (some false) 1 H2 p1) fun x3 =>
 ACalls PP gΓ row_Kids [x3] H2 fun x4 H5 =>
 pureK (bop .plain .eql a1 (I 2)) fun x6 =>
 condK x6 (
 pureK (ias 1 x4 (I 0)) fun x7 =>
 pureK (ld (some false) 1 H5 x7) fun x8 =>
 ret1 H5 R x8
 ) (
 pureK (bop .plain .eql a1 (I 3)) fun x9 =>
 condK x9 (
 pureK (ias 1 x4 (I 1)) fun x10 =>
 pureK (ld (some false) 1 H5 x10) fun x11 =>
 ret1 H5 R x11
 ) (
 pureK (bop .plain .eql a1 (I 5)) fun x12 =>
 condK x12 (
 ACalls PP gΓ step_leaf [I 11, I 3] H5 fun x13 H14 =>
 pureK (bld [(0, 1), (1, 1), (2, 1)] [.sc (.int .i64 0), S emp, .sc (.int .i64 0)] [(0, I 14), (2, I 3)]) fun x15 =>
 ACalls PP gΓ step_leaf [I 2, I 0] H14 fun x16 H17 =>
 pureK (bsl 1 (.lst 0 [] .exact) 1 [(0, x16)]) fun x18 =>
 ACalls PP gΓ row_Make [x15, x18] H17 fun x19 H20 =>
 callK (E_step_made) (.fn (.func step_made_1) [] [p1]) [x13, x19] H20 fun x21 H22 =>
 ret1 H22 R x21
 ) (
 ACalls PP gΓ step_leaf [I 11, I 1] H5 fun x23 H24 =>
 pureK (bld [(0, 1), (1, 1), (2, 1)] [.sc (.int .i64 0), S emp, .sc (.int .i64 0)] [(0, I 12)]) fun x25 =>
 ACalls PP gΓ row_Make [x25, x4] H24 fun x26 H27 =>
 callK (E_step_made) (.fn (.func step_made_1) [] [p1]) [x23, x26] H27 fun x28 H29 =>
 ret1 H29 R x28
 )
 )
 )
theorem step_made_of {a0 a1 : AV} {H : Heap} {R : RR} (h : W_step_made a0 a1 H R) : ACalls PP gΓ step_made [a0, a1] H R :=
 ACalls.of_K (E := E_step_made) follows_PP Tryz.func77 (c := C_step_made) (by kernel_rfl) Tryz.ntmps77 (by kernel_rfl) h

noncomputable abbrev E_sort_Term : Env := mkE 6 (fun _ => none)
noncomputable def C_sort_Term : Code := Tryz.f78.body.getD .skip
def W_sort_Term (a0 : AV) (H : Heap) (R : RR) : Prop :=
 ACalls PP gΓ sort_Of [a0] H fun x1 H2 =>
 pureK (bop .plain .eql x1 (I 1)) fun x3 =>
 ret1 H2 R x3
theorem sort_Term_of {a0 : AV} {H : Heap} {R : RR} (h : W_sort_Term a0 H R) : ACalls PP gΓ sort_Term [a0] H R :=
 ACalls.of_K (E := E_sort_Term) follows_PP Tryz.func78 (c := C_sort_Term) (by kernel_rfl) Tryz.ntmps78 (by kernel_rfl) h

def L_row_Depth : Nat → Option (List Nat) := fun k => bif Nat.beq k 1005 then some [3, 10, 11, 12] else none
noncomputable abbrev E_row_Depth : Env := mkE 23 (L_row_Depth)
noncomputable def C_row_Depth : Code := Tryz.f79.body.getD .skip
def W_row_Depth (a0 : AV) (H : Heap) (R : RR) : Prop :=
 ACalls PP gΓ row_Size [a0] H fun x1 H2 =>
 pureK (bop .plain .eql x1 (I 0)) fun x3 =>
 condK x3 (
 ret1 H2 R (I 0)
 ) (
 ACalls PP gΓ row_Kids [a0] H2 fun x4 H5 =>
 pureK (lnl x4) fun x6 =>
 ∃ J7 : List AV → Heap → Nat → Prop, (∃ (n13 : Nat) (H14 : Heap), H14 ≤ H5 ∧ J7 [I 0, x4, x6, I 0] H14 n13) ∧ ∀ (vs8 : List AV) (H9 : Heap) (n10 : Nat), J7 vs8 H9 n10 →
 pureK (bop .plain .lss (nth vs8 3) (nth vs8 2)) fun x15 =>
 condK x15 (
 pureK (ias 1 (nth vs8 1) (nth vs8 3)) fun x16 =>
 pureK (ld (some false) 1 H9 x16) fun x17 =>
 ACalls PP gΓ row_Depth [x17] H9 fun x18 H19 =>
 pureK (maxE [nth vs8 0, x18]) fun x20 =>
 pureK (bop .plain .add (nth vs8 3) (I 1)) fun x21 =>
 (∃ (n11 : Nat) (H12 : Heap), n11 < n10 ∧ H12 ≤ H19 ∧ J7 [x20, nth vs8 1, nth vs8 2, x21] H12 n11)
 ) (
 pureK (bop .plain .add (nth vs8 0) (I 1)) fun x22 =>
 ret1 H9 R x22
 )
 )
theorem row_Depth_of {a0 : AV} {H : Heap} {R : RR} (h : W_row_Depth a0 H R) : ACalls PP gΓ row_Depth [a0] H R :=
 ACalls.of_K (E := E_row_Depth) follows_PP Tryz.func79 (c := C_row_Depth) (by kernel_rfl) Tryz.ntmps79 (by kernel_rfl) h

noncomputable abbrev E_sort_On : Env := mkE 14 (fun _ => none)
noncomputable def C_sort_On : Code := Tryz.f80.body.getD .skip
def W_sort_On (a0 a1 : AV) (H : Heap) (R : RR) : Prop :=
 condK a1 (
 ACalls PP gΓ sort_Of [a0] H fun x1 H2 =>
 ACalls PP gΓ sort_on [x1] H2 fun x3 H4 =>
 pureK (bop .plain .eql x3 (I 4)) fun x5 =>
 ret1 H4 R x5
 ) (
 ACalls PP gΓ sort_Of [a0] H fun x6 H7 =>
 ACalls PP gΓ sort_on [x6] H7 fun x8 H9 =>
 pureK (bop .plain .eql x8 (I 3)) fun x10 =>
 ret1 H9 R x10
 )
theorem sort_On_of {a0 a1 : AV} {H : Heap} {R : RR} (h : W_sort_On a0 a1 H R) : ACalls PP gΓ sort_On [a0, a1] H R :=
 ACalls.of_K (E := E_sort_On) follows_PP Tryz.func80 (c := C_sort_On) (by kernel_rfl) Tryz.ntmps80 (by kernel_rfl) h

noncomputable abbrev E_settle_settle : Env := ⟨PP, gΓ, 127, fun _ => none, fun f => Nat.beq f row_Kids, []⟩
noncomputable def C_settle_settle : Code := Tryz.f81.body.getD .skip
def W_settle_settle (a0 : AV) (H : Heap) (R : RR) : Prop :=
 ∃ fp1 : Option Nat, (∀ p, fp1 = some p → H p ≠ none) ∧
 pureK (ias 3 a0 (I 0)) fun x2 =>
 pureK (ld (some true) 3 (rem H fp1) x2) fun x3 =>
 ∃ φ4 v5, AMakes PP gΓ row_Kids [a0] H fp1 φ4 ∧ MkVal φ4 v5 ∧
 ∀ rf6 ob7, φ4 rf6 ob7 → madeK fp1 H rf6 ob7 fun x8 H9 =>
 allocP [.sc (.int .i64 0), S emp, .sc (.int .i64 0)] H9 fun o10 H11 =>
 heapK (st 3 H11 (.ptr o10 0) x3) fun H12 =>
 pureK (fa 0 (.ptr o10 0)) fun x13 =>
 pureK (ld (some false) 1 H12 x13) fun x14 =>
 pureK (bop .plain .eql x14 (I 2)) fun x15 =>
 condK x15 (
 ACalls PP gΓ settle_over [I 1] H12 fun x16 H17 =>
 ret1 H17 R x16
 ) (
 pureK (bop .plain .eql x14 (I 3)) fun x18 =>
 condK x18 (
 ACalls PP gΓ settle_over [I 2] H12 fun x19 H20 =>
 ret1 H20 R x19
 ) (
 pureK (bop .plain .eql x14 (I 8)) fun x21 =>
 condK x21 (
 pureK (ld (some true) 3 H12 (.ptr o10 0)) fun x22 =>
 pureK (ias 1 x8 (I 0)) fun x23 =>
 pureK (ld (some false) 1 H12 x23) fun x24 =>
 ∃ x25, AReads PP gΓ settle_settle [x24] H12 x25 ∧
 pureK (ias 1 x8 (I 1)) fun x26 =>
 pureK (ld (some false) 1 H12 x26) fun x27 =>
 ACalls PP gΓ settle_behind [x22, x25, x27, I 2] H12 fun x28 H29 =>
 ret1 H29 R x28
 ) (
 pureK (bop .plain .eql x14 (I 5)) fun x30 =>
 condK x30 (
 pureK (ias 1 x8 (I 0)) fun x31 =>
 pureK (ld (some false) 1 H12 x31) fun x32 =>
 ACalls PP gΓ settle_settle [x32] H12 fun x33 H34 =>
 pureK (ias 3 x33 (I 0)) fun x35 =>
 pureK (fa 0 x35) fun x36 =>
 pureK (ld (some false) 1 H34 x36) fun x37 =>
 pureK (bop .plain .neq x37 (I 14)) fun x38 =>
 condK x38 (
 pureK (ld (some true) 3 H34 (.ptr o10 0)) fun x39 =>
 pureK (ias 1 x8 (I 1)) fun x40 =>
 pureK (ld (some false) 1 H34 x40) fun x41 =>
 ACalls PP gΓ settle_behind [x39, x33, x41, I 1] H34 fun x42 H43 =>
 ret1 H43 R x42
 ) (
 pureK (ias 3 x33 (I 0)) fun x44 =>
 pureK (fa 2 x44) fun x45 =>
 pureK (ld (some false) 1 H34 x45) fun x46 =>
 pureK (bop .plain .neq x46 (I 1)) fun x47 =>
 condK x47 (
 ret1 H34 R x33
 ) (
 pureK (ias 1 x8 (I 1)) fun x48 =>
 pureK (ld (some false) 1 H34 x48) fun x49 =>
 ∃ x50, AReads PP gΓ settle_settle [x49] H34 x50 ∧
 pureK (sll 3 x33 (some (I 1)) none none) fun x51 =>
 ACalls PP gΓ settle_stack [x50, x51] H34 fun x52 H53 =>
 ret1 H53 R x52
 )
 )
 ) (
 pureK (bop .plain .eql x14 (I 13)) fun x54 =>
 condK x54 (
 pureK (ias 1 x8 (I 0)) fun x55 =>
 pureK (ld (some false) 1 H12 x55) fun x56 =>
 ∃ x57, AReads PP gΓ settle_settle [x56] H12 x57 ∧
 pureK (ias 1 x8 (I 1)) fun x58 =>
 pureK (ld (some false) 1 H12 x58) fun x59 =>
 ACalls PP gΓ settle_stack [x57, x59] H12 fun x60 H61 =>
 ret1 H61 R x60
 ) (
 pureK (bop .plain .eql x14 (I 12)) fun x62 =>
 condK x62 (
 pureK (ias 1 x8 (I 0)) fun x63 =>
 pureK (ld (some false) 1 H12 x63) fun x64 =>
 ACalls PP gΓ settle_settle [x64] H12 fun x65 H66 =>
 ACalls PP gΓ settle_Ended [x65] H66 fun x67 H68 =>
 pureK (extractE x67 0) fun x69 =>
 pureK (extractE x67 1) fun x70 =>
 pureK (unE .not x70) fun x71 =>
 condK x71 (
 pureK (ld (some true) 3 H68 (.ptr o10 0)) fun x72 =>
 pureK (ias 1 x8 (I 1)) fun x73 =>
 pureK (ld (some false) 1 H68 x73) fun x74 =>
 pureK (bsl 1 (.lst 0 [] .exact) 2 [(0, x65), (1, x74)]) fun x75 =>
 ACalls PP gΓ row_Make [x72, x75] H68 fun x76 H77 =>
 ret1 H77 R x76
 ) (
 pureK (bop .plain .neq x69 (I 1)) fun x78 =>
 condK x78 (
 pureK (bld [(0, 1), (1, 1), (2, 1)] [.sc (.int .i64 0), S emp, .sc (.int .i64 0)] [(0, I 2)]) fun x79 =>
 pureK (bsl 3 (.agg [.sc (.int .i64 0), S emp, .sc (.int .i64 0)]) 1 [(0, x79)]) fun x80 =>
 pureK (ias 1 x8 (I 1)) fun x81 =>
 heapK (st 1 H68 x81 x80) fun H82 =>
 pureK (ias 1 x8 (I 1)) fun x83 =>
 pureK (ld (some false) 1 H82 x83) fun x84 =>
 ACalls PP gΓ settle_end [x69, x84] H82 fun x85 H86 =>
 ret1 H86 R x85
 ) (
 pureK (ias 1 x8 (I 1)) fun x87 =>
 pureK (ld (some false) 1 H68 x87) fun x88 =>
 ACalls PP gΓ settle_end [x69, x88] H68 fun x89 H90 =>
 ret1 H90 R x89
 )
 )
 ) (
 pureK (bop .plain .eql x14 (I 7)) fun x91 =>
 condK x91 (
 pureK (ld (some true) 3 H12 (.ptr o10 0)) fun x92 =>
 pureK (ias 1 x8 (I 0)) fun x93 =>
 pureK (ld (some false) 1 H12 x93) fun x94 =>
 ∃ x95, AReads PP gΓ settle_settle [x94] H12 x95 ∧
 pureK (ias 1 x8 (I 1)) fun x96 =>
 pureK (ld (some false) 1 H12 x96) fun x97 =>
 ∃ x98, AReads PP gΓ settle_settle [x97] H12 x98 ∧
 ACalls PP gΓ settle_par [x92, x95, x98] H12 fun x99 H100 =>
 ret1 H100 R x99
 ) (
 pureK (bop .plain .eql x14 (I 9)) fun x101 =>
 condK x101 (
 pureK (ld (some true) 3 H12 (.ptr o10 0)) fun x102 =>
 pureK (ias 1 x8 (I 0)) fun x103 =>
 pureK (ld (some false) 1 H12 x103) fun x104 =>
 ∃ x105, AReads PP gΓ settle_settle [x104] H12 x105 ∧
 ACalls PP gΓ settle_block [x102, x105] H12 fun x106 H107 =>
 ret1 H107 R x106
 ) (
 ret1 H12 R a0
 )
 )
 )
 )
 )
 )
 )
 )
theorem settle_settle_of {a0 : AV} {H : Heap} {R : RR} (h : W_settle_settle a0 H R) : ACalls PP gΓ settle_settle [a0] H R :=
 ACalls.of_K (E := E_settle_settle) follows_PP Tryz.func81 (c := C_settle_settle) (by kernel_rfl) Tryz.ntmps81 (by kernel_rfl) h

noncomputable abbrev E_slots_Store_half : Env := mkE 9 (fun _ => none)
noncomputable def C_slots_Store_half : Code := Tryz.f82.body.getD .skip
def W_slots_Store_half (a0 : AV) (H : Heap) (R : RR) : Prop :=
 pureK (nilE a0) fun x1 =>
 pureK (fa 0 x1) fun x2 =>
 pureK (ld (some false) 1 H x2) fun x3 =>
 ACalls PP gΓ disk_Disk_Blocks [x3] H fun x4 H5 =>
 pureK (bop .plain .quo x4 (I 2)) fun x6 =>
 ret1 H5 R x6
theorem slots_Store_half_of {a0 : AV} {H : Heap} {R : RR} (h : W_slots_Store_half a0 H R) : ACalls PP gΓ slots_Store_half [a0] H R :=
 ACalls.of_K (E := E_slots_Store_half) follows_PP Tryz.func82 (c := C_slots_Store_half) (by kernel_rfl) Tryz.ntmps82 (by kernel_rfl) h

noncomputable abbrev E_slices_Contains_int : Env := mkE 9 (fun _ => none)
noncomputable def C_slices_Contains_int : Code := Tryz.f83.body.getD .skip
def W_slices_Contains_int (a0 a1 : AV) (H : Heap) (R : RR) : Prop :=
 ACalls PP gΓ slices_Index_int [a0, a1] H fun x1 H2 =>
 pureK (bop .plain .geq x1 (I 0)) fun x3 =>
 ret1 H2 R x3
theorem slices_Contains_int_of {a0 a1 : AV} {H : Heap} {R : RR} (h : W_slices_Contains_int a0 a1 H R) : ACalls PP gΓ slices_Contains_int [a0, a1] H R :=
 ACalls.of_K (E := E_slices_Contains_int) follows_PP Tryz.func83 (c := C_slices_Contains_int) (by kernel_rfl) Tryz.ntmps83 (by kernel_rfl) h

noncomputable abbrev E_ref03_Arity : Env := mkE 21 (fun _ => none)
noncomputable def C_ref03_Arity : Code := Tryz.f84.body.getD .skip
def W_ref03_Arity (a0 : AV) (H : Heap) (R : RR) : Prop :=
 pureK (bop .plain .eql a0 (I 1)) fun x1 =>
 condK x1 (
 ret1 H R (I 0)
 ) (
 pureK (bop .plain .eql a0 (I 2)) fun x2 =>
 condK x2 (
 ret1 H R (I 0)
 ) (
 pureK (bop .plain .eql a0 (I 3)) fun x3 =>
 condK x3 (
 ret1 H R (I 0)
 ) (
 pureK (bop .plain .eql a0 (I 4)) fun x4 =>
 condK x4 (
 ret1 H R (I 0)
 ) (
 pureK (bop .plain .eql a0 (I 11)) fun x5 =>
 condK x5 (
 ret1 H R (I 0)
 ) (
 pureK (bop .plain .eql a0 (I 9)) fun x6 =>
 condK x6 (
 ret1 H R (I 1)
 ) (
 pureK (bop .plain .eql a0 (I 14)) fun x7 =>
 condK x7 (
 ret1 H R (I 1)
 ) (
 pureK (bop .plain .eql a0 (I 5)) fun x8 =>
 condK x8 (
 ret1 H R (I 2)
 ) (
 pureK (bop .plain .eql a0 (I 6)) fun x9 =>
 condK x9 (
 ret1 H R (I 2)
 ) (
 pureK (bop .plain .eql a0 (I 7)) fun x10 =>
 condK x10 (
 ret1 H R (I 2)
 ) (
 pureK (bop .plain .eql a0 (I 8)) fun x11 =>
 condK x11 (
 ret1 H R (I 2)
 ) (
 pureK (bop .plain .eql a0 (I 10)) fun x12 =>
 condK x12 (
 ret1 H R (I 2)
 ) (
 pureK (bop .plain .eql a0 (I 12)) fun x13 =>
 condK x13 (
 ret1 H R (I 2)
 ) (
 pureK (bop .plain .eql a0 (I 13)) fun x14 =>
 condK x14 (
 ret1 H R (I 2)
 ) (
 ret1 H R (I (-1))
 )
 )
 )
 )
 )
 )
 )
 )
 )
 )
 )
 )
 )
 )
theorem ref03_Arity_of {a0 : AV} {H : Heap} {R : RR} (h : W_ref03_Arity a0 H R) : ACalls PP gΓ ref03_Arity [a0] H R :=
 ACalls.of_K (E := E_ref03_Arity) follows_PP Tryz.func84 (c := C_ref03_Arity) (by kernel_rfl) Tryz.ntmps84 (by kernel_rfl) h

noncomputable abbrev E_sign_Is : Env := mkE 9 (fun _ => none)
noncomputable def C_sign_Is : Code := Tryz.f85.body.getD .skip
def W_sign_Is (a0 : AV) (H : Heap) (R : RR) : Prop :=
 pureK (bop .plain .geq a0 (I 1)) fun x1 =>
 condK x1 (
 pureK (bop .plain .leq a0 (I 3)) fun x2 =>
 ret1 H R x2
 ) (
 ret1 H R (B false)
 )
theorem sign_Is_of {a0 : AV} {H : Heap} {R : RR} (h : W_sign_Is a0 H R) : ACalls PP gΓ sign_Is [a0] H R :=
 ACalls.of_K (E := E_sign_Is) follows_PP Tryz.func85 (c := C_sign_Is) (by kernel_rfl) Tryz.ntmps85 (by kernel_rfl) h

noncomputable abbrev E_sign_texts : Env := mkE 2 (fun _ => none)
noncomputable def C_sign_texts : Code := Tryz.f86.body.getD .skip
def W_sign_texts (H : Heap) (R : RR) : Prop :=
 allocP [S emp, S emp, S emp, S emp] H fun o1 H2 =>
 pureK (bld ((List.range 4).map fun i => (i * 1, 1)) [S emp, S emp, S emp, S emp] [(1, S s_ok), (2, S s__21), (3, S s__3f)]) fun x3 =>
 heapK (st 4 H2 (.ptr o1 0) x3) fun H4 =>
 pureK (ld (some true) 4 H4 (.ptr o1 0)) fun x5 =>
 ret1 H4 R x5
theorem sign_texts_of {H : Heap} {R : RR} (h : W_sign_texts  H R) : ACalls PP gΓ sign_texts [] H R :=
 ACalls.of_K (E := E_sign_texts) follows_PP Tryz.func86 (c := C_sign_texts) (by kernel_rfl) Tryz.ntmps86 (by kernel_rfl) h

noncomputable abbrev E_disk_Disk_Read : Env := mkE 18 (fun _ => none)
noncomputable def C_disk_Disk_Read : Code := Tryz.f87.body.getD .skip
def W_disk_Disk_Read (a0 a1 : AV) (H : Heap) (R : RR) : Prop :=
 ACalls PP gΓ disk_Disk_has [a0, a1] H fun x1 H2 =>
 pureK (unE .not x1) fun x3 =>
 condK x3 (
 ret1 H2 R (.lst 0 [] .exact)
 ) (
 pureK (nilE a0) fun x4 =>
 pureK (fa 0 x4) fun x5 =>
 pureK (ld (some false) 1 H2 x5) fun x6 =>
 pureK (ias 16 x6 a1) fun x7 =>
 pureK (ld (some true) 16 H2 x7) fun x8 =>
 allocP (List.replicate 16 (.sc (.int .u8 0))) H2 fun o9 H10 =>
 heapK (st 16 H10 (.ptr o9 0) x8) fun H11 =>
 pureK (sla 16 1 (.ptr o9 0) none none none) fun x12 =>
 ret1 H11 R x12
 )
theorem disk_Disk_Read_of {a0 a1 : AV} {H : Heap} {R : RR} (h : W_disk_Disk_Read a0 a1 H R) : ACalls PP gΓ disk_Disk_Read [a0, a1] H R :=
 ACalls.of_K (E := E_disk_Disk_Read) follows_PP Tryz.func87 (c := C_disk_Disk_Read) (by kernel_rfl) Tryz.ntmps87 (by kernel_rfl) h

noncomputable abbrev E_crc_Open : Env := mkE 43 (fun _ => none)
noncomputable def C_crc_Open : Code := Tryz.f88.body.getD .skip
def W_crc_Open (a0 : AV) (H : Heap) (R : RR) : Prop :=
 pureK (lnl a0) fun x1 =>
 pureK (bop .plain .lss x1 (I 16)) fun x2 =>
 condK x2 (
 ret1 H R (.tup [.sc (.int .u64 0), .lst 0 [] .exact, B false])
 ) (
 pureK (sll 1 a0 (some (I 8)) (some (I 12)) none) fun x3 =>
 ACalls PP gΓ crc_Get [x3] H fun x4 H5 =>
 pureK (bop .plain .gtr x4 (.sc (.int .u64 2048))) fun x6 =>
 condK x6 (
 ret1 H5 R (.tup [.sc (.int .u64 0), .lst 0 [] .exact, B false])
 ) (
 pureK (lnl a0) fun x7 =>
 pureK (bop .plain .sub x7 (I 16)) fun x8 =>
 pureK (cv (.toInt .u64) x8) fun x9 =>
 pureK (bop .plain .gtr x4 x9) fun x10 =>
 condK x10 (
 ret1 H5 R (.tup [.sc (.int .u64 0), .lst 0 [] .exact, B false])
 ) (
 mks 1 [.sc (.int .u8 0)] x4 x4 H5 fun x11 H12 =>
 pureK (sll 1 a0 (some (I 16)) none none) fun x13 =>
 cpy 1 x11 x13 H12 fun x14 H15 =>
 pureK (sll 1 a0 none (some (I 12)) none) fun x16 =>
 ∃ x17, AReads PP gΓ crc_Sum [x16] H15 x17 ∧
 ∃ x18, AReads PP gΓ crc_More [x17, x11] H15 x18 ∧
 pureK (cv (.toInt .u64) x18) fun x19 =>
 pureK (sll 1 a0 (some (I 12)) (some (I 16)) none) fun x20 =>
 ∃ x21, AReads PP gΓ crc_Get [x20] H15 x21 ∧
 pureK (bop .plain .neq x19 x21) fun x22 =>
 condK x22 (
 ret1 H15 R (.tup [.sc (.int .u64 0), .lst 0 [] .exact, B false])
 ) (
 pureK (sll 1 a0 none (some (I 8)) none) fun x23 =>
 ACalls PP gΓ crc_Get [x23] H15 fun x24 H25 =>
 ret1 H25 R (.tup [x24, x11, B true])
 )
 )
 )
 )
theorem crc_Open_of {a0 : AV} {H : Heap} {R : RR} (h : W_crc_Open a0 H R) : ACalls PP gΓ crc_Open [a0] H R :=
 ACalls.of_K (E := E_crc_Open) follows_PP Tryz.func88 (c := C_crc_Open) (by kernel_rfl) Tryz.ntmps88 (by kernel_rfl) h

def L_crc_Get : Nat → Option (List Nat) := fun k => bif Nat.beq k 1005 then some [4, 10, 11] else none
noncomputable abbrev E_crc_Get : Env := mkE 24 (L_crc_Get)
noncomputable def C_crc_Get : Code := Tryz.f89.body.getD .skip
def W_crc_Get (a0 : AV) (H : Heap) (R : RR) : Prop :=
 allocP [.sc (.int .u8 0), .sc (.int .u8 0), .sc (.int .u8 0), .sc (.int .u8 0), .sc (.int .u8 0), .sc (.int .u8 0), .sc (.int .u8 0), .sc (.int .u8 0)] H fun o1 H2 =>
 pureK (sla 8 1 (.ptr o1 0) none none none) fun x3 =>
 cpy 1 x3 a0 H2 fun x4 H5 =>
 pureK (ld (some true) 8 H5 (.ptr o1 0)) fun x6 =>
 ∃ J7 : List AV → Heap → Nat → Prop, (∃ (n13 : Nat) (H14 : Heap), H14 ≤ H5 ∧ J7 [.sc (.int .u64 0), x6, I 0] H14 n13) ∧ ∀ (vs8 : List AV) (H9 : Heap) (n10 : Nat), J7 vs8 H9 n10 →
 pureK (bop .plain .lss (nth vs8 2) (I 8)) fun x15 =>
 condK x15 (
 pureK (ixa 8 (some false) 1 (nth vs8 1) (nth vs8 2)) fun x16 =>
 pureK (cv (.toInt .u64) x16) fun x17 =>
 pureK (bop .plain .mul (I 8) (nth vs8 2)) fun x18 =>
 pureK (bop .plain .shl x17 x18) fun x19 =>
 pureK (bop .plain .or (nth vs8 0) x19) fun x20 =>
 pureK (bop .plain .add (nth vs8 2) (I 1)) fun x21 =>
 (∃ (n11 : Nat) (H12 : Heap), n11 < n10 ∧ H12 ≤ H9 ∧ J7 [x20, nth vs8 1, x21] H12 n11)
 ) (
 ret1 H9 R (nth vs8 0)
 )
theorem crc_Get_of {a0 : AV} {H : Heap} {R : RR} (h : W_crc_Get a0 H R) : ACalls PP gΓ crc_Get [a0] H R :=
 ACalls.of_K (E := E_crc_Get) follows_PP Tryz.func89 (c := C_crc_Get) (by kernel_rfl) Tryz.ntmps89 (by kernel_rfl) h

noncomputable abbrev E_code_Right : Env := mkE 52 (fun _ => none)
noncomputable def C_code_Right : Code := Tryz.f90.body.getD .skip
def W_code_Right (a0 : AV) (H : Heap) (R : RR) : Prop :=
 allocK (some (AV.cells a0)) H fun p1 H2 =>
 pureK (fa 0 p1) fun x3 =>
 pureK (ld (some false) 1 H2 x3) fun x4 =>
 ACalls PP gΓ sort_On [x4, B false] H2 fun x5 H6 =>
 condK x5 (
 pureK (fa 0 p1) fun x7 =>
 pureK (ld (some false) 1 H6 x7) fun x8 =>
 ACalls PP gΓ settle_Settled [x8] H6 fun x9 H10 =>
 condK x9 (
 pureK (fa 0 p1) fun x11 =>
 pureK (ld (some false) 1 H10 x11) fun x12 =>
 pureK (lnl x12) fun x13 =>
 pureK (bop .plain .leq x13 (I 60)) fun x14 =>
 condK x14 (
 pureK (fa 1 p1) fun x15 =>
 pureK (fa 0 x15) fun x16 =>
 pureK (ld (some false) 1 H10 x16) fun x17 =>
 callK (E_code_Right) (.fn (.func code_Right_2) [] []) [x17, I 255] H10 fun x18 H19 =>
 condK x18 (
 pureK (fa 1 p1) fun x20 =>
 pureK (fa 1 x20) fun x21 =>
 pureK (ld (some false) 1 H19 x21) fun x22 =>
 callK (E_code_Right) (.fn (.func code_Right_2) [] []) [x22, I 5] H19 fun x23 H24 =>
 condK x23 (
 pureK (fa 3 p1) fun x25 =>
 pureK (ld (some false) 1 H24 x25) fun x26 =>
 callK (E_code_Right) (.fn (.func code_Right_2) [] []) [x26, I 60] H24 fun x27 H28 =>
 condK x27 (
 pureK (fa 4 p1) fun x29 =>
 pureK (ld (some false) 1 H28 x29) fun x30 =>
 pureK (lnl x30) fun x31 =>
 pureK (bop .plain .leq x31 (I 60)) fun x32 =>
 condK x32 (
 pureK (fa 4 p1) fun x33 =>
 pureK (ld (some false) 1 H28 x33) fun x34 =>
 ACalls PP gΓ slices_ContainsFunc_string [x34, .fn (.func code_Right_1) [] []] H28 fun x35 H36 =>
 pureK (unE .not x35) fun x37 =>
 ret1 H36 R x37
 ) (
 ret1 H28 R (B false)
 )
 ) (
 ret1 H28 R (B false)
 )
 ) (
 ret1 H24 R (B false)
 )
 ) (
 ret1 H19 R (B false)
 )
 ) (
 ret1 H10 R (B false)
 )
 ) (
 ret1 H10 R (B false)
 )
 ) (
 ret1 H6 R (B false)
 )
theorem code_Right_of {a0 : AV} {H : Heap} {R : RR} (h : W_code_Right a0 H R) : ACalls PP gΓ code_Right [a0] H R :=
 ACalls.of_K (E := E_code_Right) follows_PP Tryz.func90 (c := C_code_Right) (by kernel_rfl) Tryz.ntmps90 (by kernel_rfl) h

noncomputable abbrev E_code_named : Env := mkE 14 (fun _ => none)
noncomputable def C_code_named : Code := Tryz.f91.body.getD .skip
def W_code_named (a0 a1 : AV) (H : Heap) (R : RR) : Prop :=
 pureK (lns a1) fun x1 =>
 pureK (cv (.toInt .u8) x1) fun x2 =>
 pureK (bsl 1 (.sc (.int .u8 0)) 1 [(0, x2)]) fun x3 =>
 appK 1 a0 x3 H fun x4 H5 =>
 appK 1 x4 a1 H5 fun x6 H7 =>
 ret1 H7 R x6
theorem code_named_of {a0 a1 : AV} {H : Heap} {R : RR} (h : W_code_named a0 a1 H R) : ACalls PP gΓ code_named [a0, a1] H R :=
 ACalls.of_K (E := E_code_named) follows_PP Tryz.func91 (c := C_code_named) (by kernel_rfl) Tryz.ntmps91 (by kernel_rfl) h

noncomputable abbrev E_step_leaf : Env := mkE 9 (fun _ => none)
noncomputable def C_step_leaf : Code := Tryz.f92.body.getD .skip
def W_step_leaf (a0 a1 : AV) (H : Heap) (R : RR) : Prop :=
 pureK (bld [(0, 1), (1, 1), (2, 1)] [.sc (.int .i64 0), S emp, .sc (.int .i64 0)] [(0, a0), (2, a1)]) fun x1 =>
 pureK (bsl 3 (.agg [.sc (.int .i64 0), S emp, .sc (.int .i64 0)]) 1 [(0, x1)]) fun x2 =>
 ret1 H R x2
theorem step_leaf_of {a0 a1 : AV} {H : Heap} {R : RR} (h : W_step_leaf a0 a1 H R) : ACalls PP gΓ step_leaf [a0, a1] H R :=
 ACalls.of_K (E := E_step_leaf) follows_PP Tryz.func92 (c := C_step_leaf) (by kernel_rfl) Tryz.ntmps92 (by kernel_rfl) h

noncomputable abbrev E_crc_Frame : Env := mkE 30 (fun _ => none)
noncomputable def C_crc_Frame : Code := Tryz.f93.body.getD .skip
def W_crc_Frame (a0 a1 : AV) (H : Heap) (R : RR) : Prop :=
 pureK (lnl a1) fun x1 =>
 pureK (bop .plain .gtr x1 (I 2048)) fun x2 =>
 condK x2 (
 ret1 H R (.tup [.lst 0 [] .exact, B false])
 ) (
 ACalls PP gΓ crc_Put [a0, I 8] H fun x3 H4 =>
 pureK (lnl a1) fun x5 =>
 pureK (cv (.toInt .u64) x5) fun x6 =>
 ACalls PP gΓ crc_Put [x6, I 4] H4 fun x7 H8 =>
 appK 1 x3 x7 H8 fun x9 H10 =>
 ACalls PP gΓ crc_Sum [x9] H10 fun x11 H12 =>
 ACalls PP gΓ crc_More [x11, a1] H12 fun x13 H14 =>
 pureK (cv (.toInt .u64) x13) fun x15 =>
 ACalls PP gΓ crc_Put [x15, I 4] H14 fun x16 H17 =>
 appK 1 x9 x16 H17 fun x18 H19 =>
 appK 1 x18 a1 H19 fun x20 H21 =>
 ret1 H21 R (.tup [x20, B true])
 )
theorem crc_Frame_of {a0 a1 : AV} {H : Heap} {R : RR} (h : W_crc_Frame a0 a1 H R) : ACalls PP gΓ crc_Frame [a0, a1] H R :=
 ACalls.of_K (E := E_crc_Frame) follows_PP Tryz.func93 (c := C_crc_Frame) (by kernel_rfl) Tryz.ntmps93 (by kernel_rfl) h

def L_crc_Put : Nat → Option (List Nat) := fun k => bif Nat.beq k 1003 then some [0, 1, 5, 8] else none
noncomputable abbrev E_crc_Put : Env := mkE 27 (L_crc_Put)
noncomputable def C_crc_Put : Code := Tryz.f94.body.getD .skip
def W_crc_Put (a0 a1 : AV) (H : Heap) (R : RR) : Prop :=
 allocP [.sc (.int .u8 0), .sc (.int .u8 0), .sc (.int .u8 0), .sc (.int .u8 0), .sc (.int .u8 0), .sc (.int .u8 0), .sc (.int .u8 0), .sc (.int .u8 0)] H fun o1 H2 =>
 ∃ J3 : List AV → Heap → Nat → Prop, (∃ (n9 : Nat) (H10 : Heap), H10 ≤ H2 ∧ J3 [a0, a1, .ptr o1 0, I 0] H10 n9) ∧ ∀ (vs4 : List AV) (H5 : Heap) (n6 : Nat), J3 vs4 H5 n6 →
 pureK (bop .plain .lss (nth vs4 3) (I 8)) fun x11 =>
 condK x11 (
 pureK (bop .plain .mul (I 8) (nth vs4 3)) fun x12 =>
 pureK (bop .plain .shr (nth vs4 0) x12) fun x13 =>
 pureK (cv (.toInt .u8) x13) fun x14 =>
 pureK (iaa 8 1 (nth vs4 2) (nth vs4 3)) fun x15 =>
 heapK (st 1 H5 x15 x14) fun H16 =>
 pureK (bop .plain .add (nth vs4 3) (I 1)) fun x17 =>
 (∃ (n7 : Nat) (H8 : Heap), n7 < n6 ∧ H8 ≤ H16 ∧ J3 [nth vs4 0, nth vs4 1, nth vs4 2, x17] H8 n7)
 ) (
 pureK (minE [nth vs4 1, I 8]) fun x18 =>
 pureK (maxE [I 0, x18]) fun x19 =>
 mks 1 [.sc (.int .u8 0)] x19 x19 H5 fun x20 H21 =>
 pureK (sla 8 1 (nth vs4 2) none none none) fun x22 =>
 cpy 1 x20 x22 H21 fun x23 H24 =>
 ret1 H24 R x20
 )
theorem crc_Put_of {a0 a1 : AV} {H : Heap} {R : RR} (h : W_crc_Put a0 a1 H R) : ACalls PP gΓ crc_Put [a0, a1] H R :=
 ACalls.of_K (E := E_crc_Put) follows_PP Tryz.func94 (c := C_crc_Put) (by kernel_rfl) Tryz.ntmps94 (by kernel_rfl) h

noncomputable abbrev E_move_ways : Env := mkE 14 (fun _ => none)
noncomputable def C_move_ways : Code := Tryz.f95.body.getD .skip
def W_move_ways (H : Heap) (R : RR) : Prop :=
 pureK (bld [(0, 1), (1, 1)] [.sc (.int .i64 0), .sc .nilFunc] [(0, I 4), (1, .fn (.func move_always) [] [])]) fun x1 =>
 pureK (bld [(0, 1), (1, 1)] [.sc (.int .i64 0), .sc .nilFunc] [(0, I 5), (1, .fn (.func doom_Free) [] [])]) fun x2 =>
 pureK (bsl 2 (.agg [.sc (.int .i64 0), .sc .nilFunc]) 2 [(0, x1), (1, x2)]) fun x3 =>
 newMapK H fun x4 H5 =>
 pureK (bld [(0, 1), (1, 1)] [.sc (.int .i64 0), .sc .nilFunc] [(0, I 1), (1, .fn (.func move_always) [] [])]) fun x6 =>
 pureK (bsl 2 (.agg [.sc (.int .i64 0), .sc .nilFunc]) 1 [(0, x6)]) fun x7 =>
 heapK (mu x4 (I 1) x7 H5) fun H8 =>
 pureK (bld [(0, 1), (1, 1)] [.sc (.int .i64 0), .sc .nilFunc] [(0, I 2), (1, .fn (.func move_always) [] [])]) fun x9 =>
 pureK (bld [(0, 1), (1, 1)] [.sc (.int .i64 0), .sc .nilFunc] [(0, I 3), (1, .fn (.func move_always) [] [])]) fun x10 =>
 pureK (bsl 2 (.agg [.sc (.int .i64 0), .sc .nilFunc]) 2 [(0, x9), (1, x10)]) fun x11 =>
 heapK (mu x4 (I 6) x11 H8) fun H12 =>
 heapK (mu x4 (I 4) x3 H12) fun H13 =>
 heapK (mu x4 (I 10) x3 H13) fun H14 =>
 ret1 H14 R x4
theorem move_ways_of {H : Heap} {R : RR} (h : W_move_ways  H R) : ACalls PP gΓ move_ways [] H R :=
 ACalls.of_K (E := E_move_ways) follows_PP Tryz.func95 (c := C_move_ways) (by kernel_rfl) Tryz.ntmps95 (by kernel_rfl) h

def L_doom_Active : Nat → Option (List Nat) := fun k => bif Nat.beq k 1006 then some [1, 3, 4, 11, 12] else none
noncomputable abbrev E_doom_Active : Env := mkE 35 (L_doom_Active)
noncomputable def C_doom_Active : Code := Tryz.f96.body.getD .skip
def W_doom_Active (a0 : AV) (H : Heap) (R : RR) : Prop :=
 allocK (some (AV.cells a0)) H fun p1 H2 =>
 pureK (ld (some false) 1 H2 p1) fun x3 =>
 ACalls PP gΓ settle_Settled [x3] H2 fun x4 H5 =>
 pureK (unE .not x4) fun x6 =>
 condK x6 (
 ret1 H5 R (.lst 0 [] .exact)
 ) (
 pureK (ld (some false) 1 H5 p1) fun x7 =>
 pureK (lnl x7) fun x8 =>
 ∃ J9 : List AV → Heap → Nat → Prop, (∃ (n15 : Nat) (H16 : Heap), H16 ≤ H5 ∧ J9 [p1, .fn (.func doom_Active_1) [] [p1], .lst 0 [] .exact, x8, I 0] H16 n15) ∧ ∀ (vs10 : List AV) (H11 : Heap) (n12 : Nat), J9 vs10 H11 n12 →
 pureK (bop .plain .lss (nth vs10 4) (nth vs10 3)) fun x17 =>
 condK x17 (
 pureK (ld (some false) 1 H11 (nth vs10 0)) fun x18 =>
 pureK (bop .plain .add (nth vs10 4) (I 1)) fun x19 =>
 pureK (sll 3 x18 (some (nth vs10 4)) (some x19) none) fun x20 =>
 pureK (bsl 1 (.sc (.int .i64 0)) 4 [(0, I 1), (1, I 6), (2, I 4), (3, I 10)]) fun x21 =>
 ACalls PP gΓ row_Count [x20, x21] H11 fun x22 H23 =>
 pureK (bop .plain .eql x22 (I 1)) fun x24 =>
 condK x24 (
 callK (E_doom_Active) (nth vs10 1) [nth vs10 4] H23 fun x25 H26 =>
 pureK (unE .not x25) fun x27 =>
 condK x27 (
 pureK (bsl 1 (.sc (.int .i64 0)) 1 [(0, nth vs10 4)]) fun x28 =>
 appK 1 (nth vs10 2) x28 H26 fun x29 H30 =>
 pureK (bop .plain .add (nth vs10 4) (I 1)) fun x31 =>
 (∃ (n13 : Nat) (H14 : Heap), n13 < n12 ∧ H14 ≤ H30 ∧ J9 [nth vs10 0, nth vs10 1, x29, nth vs10 3, x31] H14 n13)
 ) (
 pureK (bop .plain .add (nth vs10 4) (I 1)) fun x32 =>
 (∃ (n13 : Nat) (H14 : Heap), n13 < n12 ∧ H14 ≤ H26 ∧ J9 [nth vs10 0, nth vs10 1, nth vs10 2, nth vs10 3, x32] H14 n13)
 )
 ) (
 pureK (bop .plain .add (nth vs10 4) (I 1)) fun x33 =>
 (∃ (n13 : Nat) (H14 : Heap), n13 < n12 ∧ H14 ≤ H23 ∧ J9 [nth vs10 0, nth vs10 1, nth vs10 2, nth vs10 3, x33] H14 n13)
 )
 ) (
 ret1 H11 R (nth vs10 2)
 )
 )
theorem doom_Active_of {a0 : AV} {H : Heap} {R : RR} (h : W_doom_Active a0 H R) : ACalls PP gΓ doom_Active [a0] H R :=
 ACalls.of_K (E := E_doom_Active) follows_PP Tryz.func96 (c := C_doom_Active) (by kernel_rfl) Tryz.ntmps96 (by kernel_rfl) h

noncomputable abbrev E_slices_Contains_Move : Env := mkE 9 (fun _ => none)
noncomputable def C_slices_Contains_Move : Code := Tryz.f97.body.getD .skip
def W_slices_Contains_Move (a0 a1 : AV) (H : Heap) (R : RR) : Prop :=
 allocK (some (AV.cells a1)) H fun p1 H2 =>
 pureK (ld (some true) 2 H2 p1) fun x3 =>
 ACalls PP gΓ slices_Index_Move [a0, x3] H2 fun x4 H5 =>
 pureK (bop .plain .geq x4 (I 0)) fun x6 =>
 ret1 H5 R x6
theorem slices_Contains_Move_of {a0 a1 : AV} {H : Heap} {R : RR} (h : W_slices_Contains_Move a0 a1 H R) : ACalls PP gΓ slices_Contains_Move [a0, a1] H R :=
 ACalls.of_K (E := E_slices_Contains_Move) follows_PP Tryz.func97 (c := C_slices_Contains_Move) (by kernel_rfl) Tryz.ntmps97 (by kernel_rfl) h

def L_row_Size : Nat → Option (List Nat) := fun k => bif Nat.beq k 1003 then some [3, 7, 8, 9] else none
noncomputable abbrev E_row_Size : Env := mkE 28 (L_row_Size)
noncomputable def C_row_Size : Code := Tryz.f98.body.getD .skip
def W_row_Size (a0 : AV) (H : Heap) (R : RR) : Prop :=
 pureK (lnl a0) fun x1 =>
 ∃ J2 : List AV → Heap → Nat → Prop, (∃ (n8 : Nat) (H9 : Heap), H9 ≤ H ∧ J2 [I 1, a0, x1, I 0] H9 n8) ∧ ∀ (vs3 : List AV) (H4 : Heap) (n5 : Nat), J2 vs3 H4 n5 →
 pureK (bop .plain .lss (nth vs3 3) (nth vs3 2)) fun x10 =>
 condK x10 (
 pureK (ias 3 (nth vs3 1) (nth vs3 3)) fun x11 =>
 pureK (ld (some true) 3 H4 x11) fun x12 =>
 allocP [.sc (.int .i64 0), S emp, .sc (.int .i64 0)] H4 fun o13 H14 =>
 heapK (st 3 H14 (.ptr o13 0) x12) fun H15 =>
 pureK (fa 0 (.ptr o13 0)) fun x16 =>
 pureK (ld (some false) 1 H15 x16) fun x17 =>
 ACalls PP gΓ row_Arity [x17] H15 fun x18 H19 =>
 pureK (bop .plain .lss x18 (I 0)) fun x20 =>
 condK x20 (
 ret1 H19 R (I 0)
 ) (
 pureK (bop .plain .sub x18 (I 1)) fun x21 =>
 pureK (bop .plain .add (nth vs3 0) x21) fun x22 =>
 pureK (bop .plain .eql x22 (I 0)) fun x23 =>
 condK x23 (
 pureK (bop .plain .add (nth vs3 3) (I 1)) fun x24 =>
 ret1 H19 R x24
 ) (
 pureK (bop .plain .add (nth vs3 3) (I 1)) fun x25 =>
 (∃ (n6 : Nat) (H7 : Heap), n6 < n5 ∧ H7 ≤ H19 ∧ J2 [x22, nth vs3 1, nth vs3 2, x25] H7 n6)
 )
 )
 ) (
 ret1 H4 R (I 0)
 )
theorem row_Size_of {a0 : AV} {H : Heap} {R : RR} (h : W_row_Size a0 H R) : ACalls PP gΓ row_Size [a0] H R :=
 ACalls.of_K (E := E_row_Size) follows_PP Tryz.func98 (c := C_row_Size) (by kernel_rfl) Tryz.ntmps98 (by kernel_rfl) h

def L_row_Kids : Nat → Option (List Nat) := fun k => bif Nat.beq k 1006 then some [0, 3, 4, 13, 14] else none
noncomputable abbrev E_row_Kids : Env := mkE 35 (L_row_Kids)
noncomputable def C_row_Kids : Code := Tryz.f99.body.getD .skip
def W_row_Kids (a0 : AV) (H : Heap) (R : RR) : Prop :=
 ACalls PP gΓ row_Size [a0] H fun x1 H2 =>
 pureK (bop .plain .eql x1 (I 0)) fun x3 =>
 condK x3 (
 ret1 H2 R (.lst 0 [] .exact)
 ) (
 pureK (ias 3 a0 (I 0)) fun x4 =>
 pureK (fa 0 x4) fun x5 =>
 pureK (ld (some false) 1 H2 x5) fun x6 =>
 ACalls PP gΓ row_Arity [x6] H2 fun x7 H8 =>
 ∃ J9 : List AV → Heap → Nat → Prop, (∃ (n15 : Nat) (H16 : Heap), H16 ≤ H8 ∧ J9 [a0, .lst 0 [] .exact, I 1, x7, I 0] H16 n15) ∧ ∀ (vs10 : List AV) (H11 : Heap) (n12 : Nat), J9 vs10 H11 n12 →
 pureK (bop .plain .lss (nth vs10 4) (nth vs10 3)) fun x17 =>
 condK x17 (
 pureK (sll 3 (nth vs10 0) (some (nth vs10 2)) none none) fun x18 =>
 ACalls PP gΓ row_Size [x18] H11 fun x19 H20 =>
 pureK (bop .plain .add (nth vs10 2) x19) fun x21 =>
 pureK (sll 3 (nth vs10 0) (some (nth vs10 2)) (some x21) none) fun x22 =>
 ACalls PP gΓ slices_Clone_Node [x22] H20 fun x23 H24 =>
 pureK (bsl 1 (.lst 0 [] .exact) 1 [(0, x23)]) fun x25 =>
 appK 1 (nth vs10 1) x25 H24 fun x26 H27 =>
 pureK (bop .plain .add (nth vs10 2) x19) fun x28 =>
 pureK (bop .plain .add (nth vs10 4) (I 1)) fun x29 =>
 (∃ (n13 : Nat) (H14 : Heap), n13 < n12 ∧ H14 ≤ H27 ∧ J9 [nth vs10 0, x26, x28, nth vs10 3, x29] H14 n13)
 ) (
 ret1 H11 R (nth vs10 1)
 )
 )
theorem row_Kids_of {a0 : AV} {H : Heap} {R : RR} (h : W_row_Kids a0 H R) : ACalls PP gΓ row_Kids [a0] H R :=
 ACalls.of_K (E := E_row_Kids) follows_PP Tryz.func99 (c := C_row_Kids) (by kernel_rfl) Tryz.ntmps99 (by kernel_rfl) h

noncomputable abbrev E_step_made_1 : Env := mkE 13 (fun _ => none)
noncomputable def C_step_made_1 : Code := Tryz.f100.body.getD .skip
def W_step_made_1 (a0 a1 a2 : AV) (H : Heap) (R : RR) : Prop :=
 pureK (ld (some false) 1 H a2) fun x1 =>
 pureK (ias 3 x1 (I 0)) fun x2 =>
 pureK (fa 0 x2) fun x3 =>
 pureK (ld (some false) 1 H x3) fun x4 =>
 pureK (bop .plain .eql x4 (I 10)) fun x5 =>
 condK x5 (
 ret1 H R a1
 ) (
 ret1 H R a0
 )
theorem step_made_1_of {a0 a1 a2 : AV} {H : Heap} {R : RR} (h : W_step_made_1 a0 a1 a2 H R) : ACalls PP gΓ step_made_1 [a0, a1, a2] H R :=
 ACalls.of_K (E := E_step_made_1) follows_PP Tryz.func100 (c := C_step_made_1) (by kernel_rfl) Tryz.ntmps100 (by kernel_rfl) h

noncomputable abbrev E_row_Make : Env := mkE 10 (fun _ => none)
noncomputable def C_row_Make : Code := Tryz.f101.body.getD .skip
def W_row_Make (a0 a1 : AV) (H : Heap) (R : RR) : Prop :=
 allocK (some (AV.cells a0)) H fun p1 H2 =>
 pureK (ld (some true) 3 H2 p1) fun x3 =>
 pureK (bsl 3 (.agg [.sc (.int .i64 0), S emp, .sc (.int .i64 0)]) 1 [(0, x3)]) fun x4 =>
 ∃ x5, AReads PP gΓ slices_Concat_Node [a1] H2 x5 ∧
 appK 3 x4 x5 H2 fun x6 H7 =>
 ret1 H7 R x6
theorem row_Make_of {a0 a1 : AV} {H : Heap} {R : RR} (h : W_row_Make a0 a1 H R) : ACalls PP gΓ row_Make [a0, a1] H R :=
 ACalls.of_K (E := E_row_Make) follows_PP Tryz.func101 (c := C_row_Make) (by kernel_rfl) Tryz.ntmps101 (by kernel_rfl) h

noncomputable abbrev E_sort_Of : Env := mkE 8 (fun _ => none)
noncomputable def C_sort_Of : Code := Tryz.f102.body.getD .skip
def W_sort_Of (a0 : AV) (H : Heap) (R : RR) : Prop :=
 ACalls PP gΓ row_Whole [a0] H fun x1 H2 =>
 pureK (unE .not x1) fun x3 =>
 condK x3 (
 ret1 H2 R (I 0)
 ) (
 ACalls PP gΓ sort_sort [a0] H2 fun x4 H5 =>
 ret1 H5 R x4
 )
theorem sort_Of_of {a0 : AV} {H : Heap} {R : RR} (h : W_sort_Of a0 H R) : ACalls PP gΓ sort_Of [a0] H R :=
 ACalls.of_K (E := E_sort_Of) follows_PP Tryz.func102 (c := C_sort_Of) (by kernel_rfl) Tryz.ntmps102 (by kernel_rfl) h

noncomputable abbrev E_sort_on : Env := mkE 11 (fun _ => none)
noncomputable def C_sort_on : Code := Tryz.f103.body.getD .skip
def W_sort_on (a0 : AV) (H : Heap) (R : RR) : Prop :=
 pureK (bop .plain .eql a0 (I 1)) fun x1 =>
 condK x1 (
 pureK (bop .plain .add a0 (I 3)) fun x2 =>
 pureK (bop .plain .sub x2 (I 1)) fun x3 =>
 ret1 H R x3
 ) (
 pureK (bop .plain .eql a0 (I 2)) fun x4 =>
 condK x4 (
 pureK (bop .plain .add a0 (I 3)) fun x5 =>
 pureK (bop .plain .sub x5 (I 1)) fun x6 =>
 ret1 H R x6
 ) (
 ret1 H R a0
 )
 )
theorem sort_on_of {a0 : AV} {H : Heap} {R : RR} (h : W_sort_on a0 H R) : ACalls PP gΓ sort_on [a0] H R :=
 ACalls.of_K (E := E_sort_on) follows_PP Tryz.func103 (c := C_sort_on) (by kernel_rfl) Tryz.ntmps103 (by kernel_rfl) h

noncomputable abbrev E_settle_over : Env := mkE 6 (fun _ => none)
noncomputable def C_settle_over : Code := Tryz.f104.body.getD .skip
def W_settle_over (a0 : AV) (H : Heap) (R : RR) : Prop :=
 pureK (bld [(0, 1), (1, 1), (2, 1)] [.sc (.int .i64 0), S emp, .sc (.int .i64 0)] [(0, I 11), (2, a0)]) fun x1 =>
 pureK (bsl 3 (.agg [.sc (.int .i64 0), S emp, .sc (.int .i64 0)]) 1 [(0, x1)]) fun x2 =>
 ret1 H R x2
theorem settle_over_of {a0 : AV} {H : Heap} {R : RR} (h : W_settle_over a0 H R) : ACalls PP gΓ settle_over [a0] H R :=
 ACalls.of_K (E := E_settle_over) follows_PP Tryz.func104 (c := C_settle_over) (by kernel_rfl) Tryz.ntmps104 (by kernel_rfl) h

noncomputable abbrev E_settle_behind : Env := mkE 30 (fun _ => none)
noncomputable def C_settle_behind : Code := Tryz.f105.body.getD .skip
def W_settle_behind (a0 a1 a2 a3 : AV) (H : Heap) (R : RR) : Prop :=
 allocK (some (AV.cells a0)) H fun p1 H2 =>
 pureK (ias 3 a1 (I 0)) fun x3 =>
 pureK (ld (some true) 3 H2 x3) fun x4 =>
 pureK (bld [(0, 1), (1, 1), (2, 1)] [.sc (.int .i64 0), S emp, .sc (.int .i64 0)] [(0, I 11), (2, a3)]) fun x5 =>
 pureK (bop (.flat [.int, .str, .int]) .eql x4 x5) fun x6 =>
 condK x6 (
 ACalls PP gΓ settle_settle [a2] H2 fun x7 H8 =>
 ret1 H8 R x7
 ) (
 pureK (ias 3 a1 (I 0)) fun x9 =>
 pureK (fa 0 x9) fun x10 =>
 pureK (ld (some false) 1 H2 x10) fun x11 =>
 pureK (bop .plain .eql x11 (I 11)) fun x12 =>
 condK x12 (
 ret1 H2 R a1
 ) (
 pureK (ld (some true) 3 H2 p1) fun x13 =>
 pureK (bsl 1 (.lst 0 [] .exact) 2 [(0, a1), (1, a2)]) fun x14 =>
 ACalls PP gΓ row_Make [x13, x14] H2 fun x15 H16 =>
 ret1 H16 R x15
 )
 )
theorem settle_behind_of {a0 a1 a2 a3 : AV} {H : Heap} {R : RR} (h : W_settle_behind a0 a1 a2 a3 H R) : ACalls PP gΓ settle_behind [a0, a1, a2, a3] H R :=
 ACalls.of_K (E := E_settle_behind) follows_PP Tryz.func105 (c := C_settle_behind) (by kernel_rfl) Tryz.ntmps105 (by kernel_rfl) h

noncomputable abbrev E_settle_stack : Env := mkE 26 (fun _ => none)
noncomputable def C_settle_stack : Code := Tryz.f106.body.getD .skip
def W_settle_stack (a0 a1 : AV) (H : Heap) (R : RR) : Prop :=
 pureK (ias 3 a0 (I 0)) fun x1 =>
 pureK (fa 0 x1) fun x2 =>
 pureK (ld (some false) 1 H x2) fun x3 =>
 pureK (bop .plain .neq x3 (I 14)) fun x4 =>
 condK x4 (
 pureK (bld [(0, 1), (1, 1), (2, 1)] [.sc (.int .i64 0), S emp, .sc (.int .i64 0)] [(0, I 13)]) fun x5 =>
 pureK (bsl 1 (.lst 0 [] .exact) 2 [(0, a0), (1, a1)]) fun x6 =>
 ACalls PP gΓ row_Make [x5, x6] H fun x7 H8 =>
 ret1 H8 R x7
 ) (
 pureK (ias 3 a0 (I 0)) fun x9 =>
 pureK (fa 2 x9) fun x10 =>
 pureK (ld (some false) 1 H x10) fun x11 =>
 pureK (bld [(0, 1), (1, 1), (2, 1)] [.sc (.int .i64 0), S emp, .sc (.int .i64 0)] [(0, I 5)]) fun x12 =>
 pureK (sll 3 a0 (some (I 1)) none none) fun x13 =>
 pureK (bsl 1 (.lst 0 [] .exact) 2 [(0, x13), (1, a1)]) fun x14 =>
 ∃ x15, AReads PP gΓ row_Make [x12, x14] H x15 ∧
 ACalls PP gΓ settle_end [x11, x15] H fun x16 H17 =>
 ret1 H17 R x16
 )
theorem settle_stack_of {a0 a1 : AV} {H : Heap} {R : RR} (h : W_settle_stack a0 a1 H R) : ACalls PP gΓ settle_stack [a0, a1] H R :=
 ACalls.of_K (E := E_settle_stack) follows_PP Tryz.func106 (c := C_settle_stack) (by kernel_rfl) Tryz.ntmps106 (by kernel_rfl) h

noncomputable abbrev E_settle_end : Env := mkE 10 (fun _ => none)
noncomputable def C_settle_end : Code := Tryz.f107.body.getD .skip
def W_settle_end (a0 a1 : AV) (H : Heap) (R : RR) : Prop :=
 pureK (bld [(0, 1), (1, 1), (2, 1)] [.sc (.int .i64 0), S emp, .sc (.int .i64 0)] [(0, I 14), (2, a0)]) fun x1 =>
 pureK (bsl 1 (.lst 0 [] .exact) 1 [(0, a1)]) fun x2 =>
 ACalls PP gΓ row_Make [x1, x2] H fun x3 H4 =>
 ret1 H4 R x3
theorem settle_end_of {a0 a1 : AV} {H : Heap} {R : RR} (h : W_settle_end a0 a1 H R) : ACalls PP gΓ settle_end [a0, a1] H R :=
 ACalls.of_K (E := E_settle_end) follows_PP Tryz.func107 (c := C_settle_end) (by kernel_rfl) Tryz.ntmps107 (by kernel_rfl) h

noncomputable abbrev E_settle_par : Env := mkE 59 (fun _ => none)
noncomputable def C_settle_par : Code := Tryz.f108.body.getD .skip
def W_settle_par (a0 a1 a2 : AV) (H : Heap) (R : RR) : Prop :=
 allocK (some (AV.cells a0)) H fun p1 H2 =>
 pureK (ias 3 a1 (I 0)) fun x3 =>
 pureK (fa 2 x3) fun x4 =>
 pureK (ld (some false) 1 H2 x4) fun x5 =>
 pureK (ias 3 a2 (I 0)) fun x6 =>
 pureK (fa 2 x6) fun x7 =>
 pureK (ld (some false) 1 H2 x7) fun x8 =>
 ACalls PP gΓ sign_Both [x5, x8] H2 fun x9 H10 =>
 pureK (ias 3 a1 (I 0)) fun x11 =>
 pureK (fa 0 x11) fun x12 =>
 pureK (ld (some false) 1 H10 x12) fun x13 =>
 pureK (bop .plain .eql x13 (I 11)) fun x14 =>
 condK x14 (
 pureK (ias 3 a2 (I 0)) fun x15 =>
 pureK (fa 0 x15) fun x16 =>
 pureK (ld (some false) 1 H10 x16) fun x17 =>
 pureK (bop .plain .eql x17 (I 11)) fun x18 =>
 condK x18 (
 ACalls PP gΓ settle_over [x9] H10 fun x19 H20 =>
 ret1 H20 R x19
 ) (
 pureK (ias 3 a1 (I 0)) fun x21 =>
 pureK (fa 0 x21) fun x22 =>
 pureK (ld (some false) 1 H10 x22) fun x23 =>
 pureK (bop .plain .eql x23 (I 14)) fun x24 =>
 condK x24 (
 pureK (ias 3 a2 (I 0)) fun x25 =>
 pureK (fa 0 x25) fun x26 =>
 pureK (ld (some false) 1 H10 x26) fun x27 =>
 pureK (bop .plain .eql x27 (I 14)) fun x28 =>
 condK x28 (
 pureK (ld (some true) 3 H10 p1) fun x29 =>
 pureK (sll 3 a1 (some (I 1)) none none) fun x30 =>
 pureK (sll 3 a2 (some (I 1)) none none) fun x31 =>
 pureK (bsl 1 (.lst 0 [] .exact) 2 [(0, x30), (1, x31)]) fun x32 =>
 ∃ x33, AReads PP gΓ row_Make [x29, x32] H10 x33 ∧
 ACalls PP gΓ settle_end [x9, x33] H10 fun x34 H35 =>
 ret1 H35 R x34
 ) (
 pureK (ld (some true) 3 H10 p1) fun x36 =>
 pureK (bsl 1 (.lst 0 [] .exact) 2 [(0, a1), (1, a2)]) fun x37 =>
 ACalls PP gΓ row_Make [x36, x37] H10 fun x38 H39 =>
 ret1 H39 R x38
 )
 ) (
 pureK (ld (some true) 3 H10 p1) fun x40 =>
 pureK (bsl 1 (.lst 0 [] .exact) 2 [(0, a1), (1, a2)]) fun x41 =>
 ACalls PP gΓ row_Make [x40, x41] H10 fun x42 H43 =>
 ret1 H43 R x42
 )
 )
 ) (
 pureK (ias 3 a1 (I 0)) fun x44 =>
 pureK (fa 0 x44) fun x45 =>
 pureK (ld (some false) 1 H10 x45) fun x46 =>
 pureK (bop .plain .eql x46 (I 14)) fun x47 =>
 condK x47 (
 pureK (ias 3 a2 (I 0)) fun x48 =>
 pureK (fa 0 x48) fun x49 =>
 pureK (ld (some false) 1 H10 x49) fun x50 =>
 pureK (bop .plain .eql x50 (I 14)) fun x51 =>
 condK x51 (
 pureK (ld (some true) 3 H10 p1) fun x52 =>
 pureK (sll 3 a1 (some (I 1)) none none) fun x53 =>
 pureK (sll 3 a2 (some (I 1)) none none) fun x54 =>
 pureK (bsl 1 (.lst 0 [] .exact) 2 [(0, x53), (1, x54)]) fun x55 =>
 ∃ x56, AReads PP gΓ row_Make [x52, x55] H10 x56 ∧
 ACalls PP gΓ settle_end [x9, x56] H10 fun x57 H58 =>
 ret1 H58 R x57
 ) (
 pureK (ld (some true) 3 H10 p1) fun x59 =>
 pureK (bsl 1 (.lst 0 [] .exact) 2 [(0, a1), (1, a2)]) fun x60 =>
 ACalls PP gΓ row_Make [x59, x60] H10 fun x61 H62 =>
 ret1 H62 R x61
 )
 ) (
 pureK (ld (some true) 3 H10 p1) fun x63 =>
 pureK (bsl 1 (.lst 0 [] .exact) 2 [(0, a1), (1, a2)]) fun x64 =>
 ACalls PP gΓ row_Make [x63, x64] H10 fun x65 H66 =>
 ret1 H66 R x65
 )
 )
theorem settle_par_of {a0 a1 a2 : AV} {H : Heap} {R : RR} (h : W_settle_par a0 a1 a2 H R) : ACalls PP gΓ settle_par [a0, a1, a2] H R :=
 ACalls.of_K (E := E_settle_par) follows_PP Tryz.func108 (c := C_settle_par) (by kernel_rfl) Tryz.ntmps108 (by kernel_rfl) h

noncomputable abbrev E_settle_block : Env := mkE 22 (fun _ => none)
noncomputable def C_settle_block : Code := Tryz.f109.body.getD .skip
def W_settle_block (a0 a1 : AV) (H : Heap) (R : RR) : Prop :=
 allocK (some (AV.cells a0)) H fun p1 H2 =>
 pureK (ias 3 a1 (I 0)) fun x3 =>
 pureK (ld (some true) 3 H2 x3) fun x4 =>
 pureK (bld [(0, 1), (1, 1), (2, 1)] [.sc (.int .i64 0), S emp, .sc (.int .i64 0)] [(0, I 14), (2, I 1)]) fun x5 =>
 pureK (bop (.flat [.int, .str, .int]) .eql x4 x5) fun x6 =>
 condK x6 (
 ACalls PP gΓ settle_over [I 1] H2 fun x7 H8 =>
 ret1 H8 R x7
 ) (
 pureK (bld [(0, 1), (1, 1), (2, 1)] [.sc (.int .i64 0), S emp, .sc (.int .i64 0)] [(0, I 14), (2, I 2)]) fun x9 =>
 pureK (bop (.flat [.int, .str, .int]) .eql x4 x9) fun x10 =>
 condK x10 (
 pureK (sll 3 a1 (some (I 1)) none none) fun x11 =>
 ACalls PP gΓ settle_settle [x11] H2 fun x12 H13 =>
 ret1 H13 R x12
 ) (
 pureK (ld (some true) 3 H2 p1) fun x14 =>
 pureK (bsl 1 (.lst 0 [] .exact) 1 [(0, a1)]) fun x15 =>
 ACalls PP gΓ row_Make [x14, x15] H2 fun x16 H17 =>
 ret1 H17 R x16
 )
 )
theorem settle_block_of {a0 a1 : AV} {H : Heap} {R : RR} (h : W_settle_block a0 a1 H R) : ACalls PP gΓ settle_block [a0, a1] H R :=
 ACalls.of_K (E := E_settle_block) follows_PP Tryz.func109 (c := C_settle_block) (by kernel_rfl) Tryz.ntmps109 (by kernel_rfl) h

def L_slices_Index_int : Nat → Option (List Nat) := fun k => bif Nat.beq k 1002 then some [0, 1, 7, 8] else none
noncomputable abbrev E_slices_Index_int : Env := mkE 19 (L_slices_Index_int)
noncomputable def C_slices_Index_int : Code := Tryz.f110.body.getD .skip
def W_slices_Index_int (a0 a1 : AV) (H : Heap) (R : RR) : Prop :=
 pureK (lnl a0) fun x1 =>
 ∃ J2 : List AV → Heap → Nat → Prop, (∃ (n8 : Nat) (H9 : Heap), H9 ≤ H ∧ J2 [a0, a1, x1, I 0] H9 n8) ∧ ∀ (vs3 : List AV) (H4 : Heap) (n5 : Nat), J2 vs3 H4 n5 →
 pureK (bop .plain .lss (nth vs3 3) (nth vs3 2)) fun x10 =>
 condK x10 (
 pureK (ias 1 (nth vs3 0) (nth vs3 3)) fun x11 =>
 pureK (ld (some false) 1 H4 x11) fun x12 =>
 pureK (bop .plain .eql (nth vs3 1) x12) fun x13 =>
 condK x13 (
 ret1 H4 R (nth vs3 3)
 ) (
 pureK (bop .plain .add (nth vs3 3) (I 1)) fun x14 =>
 (∃ (n6 : Nat) (H7 : Heap), n6 < n5 ∧ H7 ≤ H4 ∧ J2 [nth vs3 0, nth vs3 1, nth vs3 2, x14] H7 n6)
 )
 ) (
 ret1 H4 R (I (-1))
 )
theorem slices_Index_int_of {a0 a1 : AV} {H : Heap} {R : RR} (h : W_slices_Index_int a0 a1 H R) : ACalls PP gΓ slices_Index_int [a0, a1] H R :=
 ACalls.of_K (E := E_slices_Index_int) follows_PP Tryz.func110 (c := C_slices_Index_int) (by kernel_rfl) Tryz.ntmps110 (by kernel_rfl) h

noncomputable def L_crc_More : Nat → Option (List Nat) := fun k => bif Nat.beq k 2001 then some [0, 0, 1, 5, 6] else none
noncomputable abbrev E_crc_More : Env := ⟨PP, gΓ, 37, L_crc_More, fun _ => false, []⟩
noncomputable def C_crc_More : Code := Tryz.f111.body.getD .skip
def innerC : Code → Code | .seq _ (.scope c) => c | c => c
noncomputable def C_crc_More_r : Code := (findLabel (innerC C_crc_More) 0).getD .skip
def W_crc_More_rest (v0 v1 v2 v3 : AV) (H : Heap) (JP : List AV → Heap → Prop) (R : RR) : Prop :=
 pureK (lnl v1) fun x1 =>
 pureK (bop .plain .eql v2 x1) fun x2 =>
 condK x2 (
 pureK (unE .xor v0) fun x3 =>
 ret1 H R x3
 ) (
 pureK (bop .plain .eql v3 (I 0)) fun x4 =>
 condK x4 (
 pureK (ias 1 v1 v2) fun x5 =>
 pureK (ld (some false) 1 H x5) fun x6 =>
 pureK (cv (.toInt .u32) x6) fun x7 =>
 pureK (bop .plain .xor v0 x7) fun x8 =>
 pureK (bop .plain .shr x8 (.sc (.int .u64 1))) fun x9 =>
 pureK (bop .plain .and x8 (.sc (.int .u32 1))) fun x10 =>
 pureK (unE .neg x10) fun x11 =>
 pureK (bop .plain .and (.sc (.int .u32 3988292384)) x11) fun x12 =>
 pureK (bop .plain .xor x9 x12) fun x13 =>
 pureK (bop .plain .add v3 (I 1)) fun x14 =>
 pureK (bop .plain .eql x14 (I 8)) fun x15 =>
 condK x15 (
 pureK (bop .plain .add v2 (I 1)) fun x16 =>
 JP [x13, v1, x16, I 0] H
 ) (
 JP [x13, v1, v2, x14] H
 )
 ) (
 pureK (bop .plain .shr v0 (.sc (.int .u64 1))) fun x17 =>
 pureK (bop .plain .and v0 (.sc (.int .u32 1))) fun x18 =>
 pureK (unE .neg x18) fun x19 =>
 pureK (bop .plain .and (.sc (.int .u32 3988292384)) x19) fun x20 =>
 pureK (bop .plain .xor x17 x20) fun x21 =>
 pureK (bop .plain .add v3 (I 1)) fun x22 =>
 pureK (bop .plain .eql x22 (I 8)) fun x23 =>
 condK x23 (
 pureK (bop .plain .add v2 (I 1)) fun x24 =>
 JP [x21, v1, x24, I 0] H
 ) (
 JP [x21, v1, v2, x22] H
 )
 )
 )
theorem K_crc_More_rest (v0 v1 v2 v3 : AV) (H : Heap) (JP : List AV → Heap → Prop) (R : RR) : awp E_crc_More (drawK E_crc_More) C_crc_More_r (Tm.of [0, 1, 5, 6] [v0, v1, v2, v3]) H (jumpK 0 (fun T' H' => JP (keepT [0, 1, 5, 6] T') H') (retK PP Tryz.f111.results.toList R)) = W_crc_More_rest v0 v1 v2 v3 H JP R := by kernel_rfl
theorem crc_More_sem {v0 v1 v2 v3 : AV} {H : Heap} {JP : List AV → Heap → Prop} {R : RR} (h : W_crc_More_rest v0 v1 v2 v3 H JP R) : sem E_crc_More C_crc_More_r (Tm.of [0, 1, 5, 6] [v0, v1, v2, v3]) H (jumpK 0 (fun T' H' => JP (keepT [0, 1, 5, 6] T') H') (retK PP Tryz.f111.results.toList R)) :=
 awp_sem follows_PP _ _ _ _ ((K_crc_More_rest v0 v1 v2 v3 H JP R) ▸ h)
def W_crc_More (a0 a1 : AV) (H : Heap) (R : RR) : Prop :=
 ∃ J : List AV → Heap → Nat → Prop, (
 pureK (unE .xor a0) fun x1 =>
 W_crc_More_rest x1 a1 (I 0) (I 0) H (fun vs H' => ∃ (n : Nat) (H1 : Heap), H1 ≤ H' ∧ J vs H1 n) R
 ) ∧ ∀ (vs : List AV) (H2 : Heap) (n : Nat), J vs H2 n → sem E_crc_More C_crc_More_r (Tm.of [0, 1, 5, 6] vs) H2 (jumpK 0 (fun T' H' => ∃ (n' : Nat) (H1 : Heap), n' < n ∧ H1 ≤ H' ∧ J (keepT [0, 1, 5, 6] T') H1 n') (retK PP Tryz.f111.results.toList R))
theorem K_crc_More (a0 a1 : AV) (H : Heap) (R : RR) : awp E_crc_More (drawK E_crc_More) C_crc_More (fun j => List.getD [a0, a1] j .dead) H (retK PP Tryz.f111.results.toList R) = W_crc_More a0 a1 H R := by kernel_rfl
theorem crc_More_of {a0 a1 : AV} {H : Heap} {R : RR} (h : W_crc_More a0 a1 H R) : ACalls PP gΓ crc_More [a0, a1] H R :=
 ACalls.of_awp (E := E_crc_More) follows_PP Tryz.func111 (c := C_crc_More) (by kernel_rfl) Tryz.ntmps111 ((K_crc_More a0 a1 H R) ▸ h)

noncomputable abbrev E_crc_Sum : Env := mkE 5 (fun _ => none)
noncomputable def C_crc_Sum : Code := Tryz.f112.body.getD .skip
def W_crc_Sum (a0 : AV) (H : Heap) (R : RR) : Prop :=
 ACalls PP gΓ crc_More [.sc (.int .u32 0), a0] H fun x1 H2 =>
 ret1 H2 R x1
theorem crc_Sum_of {a0 : AV} {H : Heap} {R : RR} (h : W_crc_Sum a0 H R) : ACalls PP gΓ crc_Sum [a0] H R :=
 ACalls.of_K (E := E_crc_Sum) follows_PP Tryz.func112 (c := C_crc_Sum) (by kernel_rfl) Tryz.ntmps112 (by kernel_rfl) h

noncomputable abbrev E_code_Right_1 : Env := mkE 7 (fun _ => none)
noncomputable def C_code_Right_1 : Code := Tryz.f113.body.getD .skip
def W_code_Right_1 (a0 : AV) (H : Heap) (R : RR) : Prop :=
 pureK (bld [(0, 1), (1, 1), (2, 1)] [.sc (.int .i64 0), S emp, .sc (.int .i64 0)] [(0, I 1), (1, a0)]) fun x1 =>
 ACalls PP gΓ row_Right [x1] H fun x2 H3 =>
 pureK (unE .not x2) fun x4 =>
 ret1 H3 R x4
theorem code_Right_1_of {a0 : AV} {H : Heap} {R : RR} (h : W_code_Right_1 a0 H R) : ACalls PP gΓ code_Right_1 [a0] H R :=
 ACalls.of_K (E := E_code_Right_1) follows_PP Tryz.func113 (c := C_code_Right_1) (by kernel_rfl) Tryz.ntmps113 (by kernel_rfl) h

noncomputable abbrev E_row_Right : Env := mkE 50 (fun _ => none)
noncomputable def C_row_Right : Code := Tryz.f114.body.getD .skip
def W_row_Right (a0 : AV) (H : Heap) (R : RR) : Prop :=
 allocK (some (AV.cells a0)) H fun p1 H2 =>
 pureK (fa 0 p1) fun x3 =>
 pureK (ld (some false) 1 H2 x3) fun x4 =>
 pureK (bld [(0, 1), (1, 1), (2, 1)] [.sc (.int .i64 0), S emp, .sc (.int .i64 0)] [(0, x4)]) fun x5 =>
 allocP [.sc (.int .i64 0), S emp, .sc (.int .i64 0)] H2 fun o6 H7 =>
 heapK (st 3 H7 (.ptr o6 0) x5) fun H8 =>
 pureK (fa 0 p1) fun x9 =>
 pureK (ld (some false) 1 H8 x9) fun x10 =>
 pureK (bop .plain .eql x10 (I 1)) fun x11 =>
 condK x11 (
 pureK (fa 1 p1) fun x12 =>
 pureK (ld (some false) 1 H8 x12) fun x13 =>
 pureK (fa 1 (.ptr o6 0)) fun x14 =>
 heapK (st 1 H8 x14 x13) fun H15 =>
 pureK (ld (some true) 3 H15 p1) fun x16 =>
 pureK (ld (some true) 3 H15 (.ptr o6 0)) fun x17 =>
 pureK (bop (.flat [.int, .str, .int]) .eql x16 x17) fun x18 =>
 condK x18 (
 pureK (fa 1 p1) fun x19 =>
 pureK (ld (some false) 1 H15 x19) fun x20 =>
 ACalls PP gΓ row_named [x20] H15 fun x21 H22 =>
 ret1 H22 R x21
 ) (
 ret1 H15 R (B false)
 )
 ) (
 pureK (bop .plain .eql x10 (I 11)) fun x23 =>
 condK x23 (
 pureK (fa 2 p1) fun x24 =>
 pureK (ld (some false) 1 H8 x24) fun x25 =>
 pureK (fa 2 (.ptr o6 0)) fun x26 =>
 heapK (st 1 H8 x26 x25) fun H27 =>
 pureK (ld (some true) 3 H27 p1) fun x28 =>
 pureK (ld (some true) 3 H27 (.ptr o6 0)) fun x29 =>
 pureK (bop (.flat [.int, .str, .int]) .eql x28 x29) fun x30 =>
 condK x30 (
 pureK (fa 2 p1) fun x31 =>
 pureK (ld (some false) 1 H27 x31) fun x32 =>
 pureK (bop .plain .geq x32 (I 1)) fun x33 =>
 condK x33 (
 pureK (fa 2 p1) fun x34 =>
 pureK (ld (some false) 1 H27 x34) fun x35 =>
 pureK (bop .plain .leq x35 (I 3)) fun x36 =>
 ret1 H27 R x36
 ) (
 ret1 H27 R (B false)
 )
 ) (
 ret1 H27 R (B false)
 )
 ) (
 pureK (bop .plain .eql x10 (I 14)) fun x37 =>
 condK x37 (
 pureK (fa 2 p1) fun x38 =>
 pureK (ld (some false) 1 H8 x38) fun x39 =>
 pureK (fa 2 (.ptr o6 0)) fun x40 =>
 heapK (st 1 H8 x40 x39) fun H41 =>
 pureK (ld (some true) 3 H41 p1) fun x42 =>
 pureK (ld (some true) 3 H41 (.ptr o6 0)) fun x43 =>
 pureK (bop (.flat [.int, .str, .int]) .eql x42 x43) fun x44 =>
 condK x44 (
 pureK (fa 2 p1) fun x45 =>
 pureK (ld (some false) 1 H41 x45) fun x46 =>
 pureK (bop .plain .geq x46 (I 1)) fun x47 =>
 condK x47 (
 pureK (fa 2 p1) fun x48 =>
 pureK (ld (some false) 1 H41 x48) fun x49 =>
 pureK (bop .plain .leq x49 (I 3)) fun x50 =>
 ret1 H41 R x50
 ) (
 ret1 H41 R (B false)
 )
 ) (
 ret1 H41 R (B false)
 )
 ) (
 pureK (ld (some true) 3 H8 p1) fun x51 =>
 pureK (ld (some true) 3 H8 (.ptr o6 0)) fun x52 =>
 pureK (bop (.flat [.int, .str, .int]) .eql x51 x52) fun x53 =>
 condK x53 (
 pureK (fa 0 p1) fun x54 =>
 pureK (ld (some false) 1 H8 x54) fun x55 =>
 ACalls PP gΓ row_Arity [x55] H8 fun x56 H57 =>
 pureK (bop .plain .geq x56 (I 0)) fun x58 =>
 ret1 H57 R x58
 ) (
 ret1 H8 R (B false)
 )
 )
 )
 )
theorem row_Right_of {a0 : AV} {H : Heap} {R : RR} (h : W_row_Right a0 H R) : ACalls PP gΓ row_Right [a0] H R :=
 ACalls.of_K (E := E_row_Right) follows_PP Tryz.func114 (c := C_row_Right) (by kernel_rfl) Tryz.ntmps114 (by kernel_rfl) h

noncomputable abbrev E_code_Right_2 : Env := mkE 12 (fun _ => none)
noncomputable def C_code_Right_2 : Code := Tryz.f115.body.getD .skip
def W_code_Right_2 (a0 a1 : AV) (H : Heap) (R : RR) : Prop :=
 pureK (bop .plain .geq a0 (I 0)) fun x1 =>
 condK x1 (
 pureK (bop .plain .leq a0 a1) fun x2 =>
 ret1 H R x2
 ) (
 ret1 H R (B false)
 )
theorem code_Right_2_of {a0 a1 : AV} {H : Heap} {R : RR} (h : W_code_Right_2 a0 a1 H R) : ACalls PP gΓ code_Right_2 [a0, a1] H R :=
 ACalls.of_K (E := E_code_Right_2) follows_PP Tryz.func115 (c := C_code_Right_2) (by kernel_rfl) Tryz.ntmps115 (by kernel_rfl) h

noncomputable abbrev E_settle_Settled : Env := mkE 12 (fun _ => none)
noncomputable def C_settle_Settled : Code := Tryz.f116.body.getD .skip
def W_settle_Settled (a0 : AV) (H : Heap) (R : RR) : Prop :=
 pureK (lnl a0) fun x1 =>
 pureK (bop .plain .gtr x1 (I 0)) fun x2 =>
 condK x2 (
 ACalls PP gΓ settle_Settle [a0] H fun x3 H4 =>
 ACalls PP gΓ row_Same [x3, a0] H4 fun x5 H6 =>
 ret1 H6 R x5
 ) (
 ret1 H R (B false)
 )
theorem settle_Settled_of {a0 : AV} {H : Heap} {R : RR} (h : W_settle_Settled a0 H R) : ACalls PP gΓ settle_Settled [a0] H R :=
 ACalls.of_K (E := E_settle_Settled) follows_PP Tryz.func116 (c := C_settle_Settled) (by kernel_rfl) Tryz.ntmps116 (by kernel_rfl) h

noncomputable abbrev E_slices_ContainsFunc_string : Env := mkE 9 (fun _ => none)
noncomputable def C_slices_ContainsFunc_string : Code := Tryz.f117.body.getD .skip
def W_slices_ContainsFunc_string (a0 a1 : AV) (H : Heap) (R : RR) : Prop :=
 ACalls PP gΓ slices_IndexFunc_string [a0, a1] H fun x1 H2 =>
 pureK (bop .plain .geq x1 (I 0)) fun x3 =>
 ret1 H2 R x3
theorem slices_ContainsFunc_string_of {a0 a1 : AV} {H : Heap} {R : RR} (h : W_slices_ContainsFunc_string a0 a1 H R) : ACalls PP gΓ slices_ContainsFunc_string [a0, a1] H R :=
 ACalls.of_K (E := E_slices_ContainsFunc_string) follows_PP Tryz.func117 (c := C_slices_ContainsFunc_string) (by kernel_rfl) Tryz.ntmps117 (by kernel_rfl) h

noncomputable abbrev E_move_always : Env := mkE 5 (fun _ => none)
noncomputable def C_move_always : Code := Tryz.f118.body.getD .skip
def W_move_always (a0 a1 : AV) (H : Heap) (R : RR) : Prop :=
 ret1 H R (B true)
theorem move_always_of {a0 a1 : AV} {H : Heap} {R : RR} (h : W_move_always a0 a1 H R) : ACalls PP gΓ move_always [a0, a1] H R :=
 ACalls.of_K (E := E_move_always) follows_PP Tryz.func118 (c := C_move_always) (by kernel_rfl) Tryz.ntmps118 (by kernel_rfl) h

noncomputable abbrev E_doom_Free : Env := mkE 19 (fun _ => none)
noncomputable def C_doom_Free : Code := Tryz.f119.body.getD .skip
def W_doom_Free (a0 a1 : AV) (H : Heap) (R : RR) : Prop :=
 ACalls PP gΓ doom_beside [a0, a1] H fun x1 H2 =>
 pureK (extractE x1 0) fun x3 =>
 pureK (extractE x1 1) fun x4 =>
 pureK (unE .not x4) fun x5 =>
 condK x5 (
 ret1 H2 R (B true)
 ) (
 ACalls PP gΓ slices_ContainsFunc_Node_2 [x3, .fn (.func doom_Doomed) [] []] H2 fun x6 H7 =>
 ret1 H7 R x6
 )
theorem doom_Free_of {a0 a1 : AV} {H : Heap} {R : RR} (h : W_doom_Free a0 a1 H R) : ACalls PP gΓ doom_Free [a0, a1] H R :=
 ACalls.of_K (E := E_doom_Free) follows_PP Tryz.func119 (c := C_doom_Free) (by kernel_rfl) Tryz.ntmps119 (by kernel_rfl) h

noncomputable abbrev E_doom_Active_1 : Env := mkE 9 (fun _ => none)
noncomputable def C_doom_Active_1 : Code := Tryz.f120.body.getD .skip
def W_doom_Active_1 (a0 a1 : AV) (H : Heap) (R : RR) : Prop :=
 allocK (some (AV.cells a0)) H fun p1 H2 =>
 pureK (ld (some false) 1 H2 a1) fun x3 =>
 pureK (ld (some false) 1 H2 p1) fun x4 =>
 ACalls PP gΓ plot_Over [x3, x4] H2 fun x5 H6 =>
 ACalls PP gΓ slices_ContainsFunc_int [x5, .fn (.func doom_Active_1_1) [] [a1, p1]] H6 fun x7 H8 =>
 ret1 H8 R x7
theorem doom_Active_1_of {a0 a1 : AV} {H : Heap} {R : RR} (h : W_doom_Active_1 a0 a1 H R) : ACalls PP gΓ doom_Active_1 [a0, a1] H R :=
 ACalls.of_K (E := E_doom_Active_1) follows_PP Tryz.func120 (c := C_doom_Active_1) (by kernel_rfl) Tryz.ntmps120 (by kernel_rfl) h

noncomputable abbrev E_slices_ContainsFunc_int : Env := mkE 9 (fun _ => none)
noncomputable def C_slices_ContainsFunc_int : Code := Tryz.f121.body.getD .skip
def W_slices_ContainsFunc_int (a0 a1 : AV) (H : Heap) (R : RR) : Prop :=
 ACalls PP gΓ slices_IndexFunc_int [a0, a1] H fun x1 H2 =>
 pureK (bop .plain .geq x1 (I 0)) fun x3 =>
 ret1 H2 R x3
theorem slices_ContainsFunc_int_of {a0 a1 : AV} {H : Heap} {R : RR} (h : W_slices_ContainsFunc_int a0 a1 H R) : ACalls PP gΓ slices_ContainsFunc_int [a0, a1] H R :=
 ACalls.of_K (E := E_slices_ContainsFunc_int) follows_PP Tryz.func121 (c := C_slices_ContainsFunc_int) (by kernel_rfl) Tryz.ntmps121 (by kernel_rfl) h

noncomputable def L_plot_Over : Nat → Option (List Nat) := fun k => bif Nat.beq k 1011 then some [1, 5, 8] else none
noncomputable abbrev E_plot_Over : Env := ⟨PP, gΓ, 41, L_plot_Over, fun _ => false, []⟩
noncomputable def C_plot_Over : Code := Tryz.f122.body.getD .skip
noncomputable def C_plot_Over_0 : Code := Code.lhs C_plot_Over
noncomputable def C_plot_Over_1 : Code := Code.lhs (Code.rhs C_plot_Over)
noncomputable def C_plot_Over_2 : Code := Code.lhs (Code.lhs (Code.rhs (Code.rhs C_plot_Over)))
noncomputable def C_plot_Over_a : Code := Code.rfA (Code.inner (Code.rhs (Code.lhs (Code.rhs (Code.rhs C_plot_Over)))))
noncomputable def C_plot_Over_b : Code := Code.rfB (Code.inner (Code.rhs (Code.lhs (Code.rhs (Code.rhs C_plot_Over)))))
noncomputable def C_plot_Over_r : Code := Code.rhs (Code.rhs (Code.rhs C_plot_Over))
def W_plot_Over (a0 a1 : AV) (H : Heap) (K : List AV → Heap → Prop) : Prop :=
 newMapK H fun x1 H2 =>
 allocP [.sc (.map none)] H2 fun o3 H4 =>
 heapK (st 1 H4 (.ptr o3 0) x1) fun H5 =>
 ACalls PP gΓ plot_spots [a0] H5 fun x6 H7 =>
 K [a1, .ptr o3 0, x6] H7
theorem K_plot_Over (a0 a1 : AV) (H : Heap) (K : List AV → Heap → Prop) : awp E_plot_Over.pre (drawK E_plot_Over.pre) C_plot_Over_0 (fun j => List.getD [a0, a1] j .dead) H (normK fun T H => awp E_plot_Over.pre (drawK E_plot_Over.pre) C_plot_Over_1 T H (normK fun T H => awp E_plot_Over.pre (drawK E_plot_Over.pre) C_plot_Over_2 T H (normK fun T H => K (keepT [1, 5, 13] T) H))) = W_plot_Over a0 a1 H K := by kernel_rfl
def W_plot_Over_body (v0 v1 v2 x y : AV) (H : Heap) (P2 : Heap → Prop) (FF : Heap → Heap) (P3 : Heap → Prop) : Prop :=
 allocP [.sc (.complex .f64 0 0), .sc (.int .i64 0)] H fun o1 H2 =>
 heapK (st 2 H2 (.ptr o1 0) y) fun H3 =>
 P2 H3 ∧
 pureK (ld (some false) 1 (FF H3) v1) fun x4 =>
 pureK (fa 1 (.ptr o1 0)) fun x5 =>
 pureK (ld (some false) 1 (FF H3) x5) fun x6 =>
 heapK (mu x4 x x6 (FF H3)) fun H7 =>
 P3 H7
theorem K_plot_Over_body (v0 v1 v2 x y : AV) (H : Heap) (P2 : Heap → Prop) (FF : Heap → Heap) (P3 : Heap → Prop) : awp E_plot_Over.pre (drawK E_plot_Over.pre) C_plot_Over_a (((Tm.of [1, 5, 13] [v0, v1, v2]).upd 14 x).upd 15 y) H (normK fun T H => P2 H ∧ awp E_plot_Over.pre (drawK E_plot_Over.pre) C_plot_Over_b T (FF H) (normK fun _ H => P3 H)) = W_plot_Over_body v0 v1 v2 x y H P2 FF P3 := by kernel_rfl
def W_plot_Over_rest (v0 v1 v2 : AV) (H : Heap) (oD : Nat) (R : RR) : Prop :=
 pureK (ld (some false) 1 H v1) fun x1 =>
 pureK (lk (.sc (.int .i64 0)) true x1 v0 H) fun x2 =>
 pureK (extractE x2 0) fun x3 =>
 pureK (extractE x2 1) fun x4 =>
 pureK (unE .not x4) fun x5 =>
 condK x5 (
 H oD = some .shut ∧ ∃ H1, H1 ≤ H ∧ H1 oD = none ∧ R (.lst 0 [] .exact) H1
 ) (
 pureK (ld (some false) 1 H v1) fun x6 =>
 pureK (lk (.sc (.int .i64 0)) false x6 v0 H) fun x7 =>
 ∃ J8 : List AV → Heap → Nat → Prop, (∃ (n14 : Nat) (H15 : Heap), H15 ≤ H ∧ J8 [x7, v1, .lst 0 [] .exact] H15 n14) ∧ ∀ (vs9 : List AV) (H10 : Heap) (n11 : Nat), J8 vs9 H10 n11 →
 pureK (bop .plain .geq (nth vs9 0) (I 0)) fun x16 =>
 condK x16 (
 pureK (bsl 1 (.sc (.int .i64 0)) 1 [(0, nth vs9 0)]) fun x17 =>
 appK 1 x17 (nth vs9 2) H10 fun x18 H19 =>
 pureK (ld (some false) 1 H19 (nth vs9 1)) fun x20 =>
 pureK (lk (.sc (.int .i64 0)) false x20 (nth vs9 0) H19) fun x21 =>
 (∃ (n12 : Nat) (H13 : Heap), n12 < n11 ∧ H13 ≤ H19 ∧ J8 [x21, nth vs9 1, x18] H13 n12)
 ) (
 H10 oD = some .shut ∧ ∃ H1, H1 ≤ H10 ∧ H1 oD = none ∧ R (nth vs9 2) H1
 )
 )
theorem K_plot_Over_rest (v0 v1 v2 : AV) (D : Nat) (H : Heap) (oD : Nat) (R : RR) : awp (E_plot_Over.rest D) (drawK (E_plot_Over.rest D)) C_plot_Over_r (Tm.of [1, 5, 13] [v0, v1, v2]) H (retD 4 oD R) = W_plot_Over_rest v0 v1 v2 H oD R := by kernel_rfl
theorem plot_Over_of {a0 a1 : AV} {H : Heap} {R : RR} (h : W_plot_Over a0 a1 H fun vs H => RangeP E_plot_Over [1, 5, 13] (.tmp 13) 14 15 C_plot_Over_a C_plot_Over_b C_plot_Over_r 4 R vs H) : ACalls PP gΓ plot_Over [a0, a1] H R :=
 ACalls.of_range (E := E_plot_Over) (c0 := C_plot_Over_0) (c1 := C_plot_Over_1) (c2 := C_plot_Over_2) (assign := C_plot_Over_a) (body := C_plot_Over_b) (rest := C_plot_Over_r) (bid := 0) follows_PP Tryz.func122 (by kernel_rfl) Tryz.ntmps122 (by kernel_rfl) (by kernel_rfl) (by kernel_rfl) (by kernel_rfl) ((K_plot_Over a0 a1 H _) ▸ h)
theorem plot_Over_s : straight C_plot_Over_a = true ∧ straight C_plot_Over_b = true := by constructor <;> kernel_rfl

noncomputable abbrev E_doom_Active_1_1 : Env := mkE 15 (fun _ => none)
noncomputable def C_doom_Active_1_1 : Code := Tryz.f123.body.getD .skip
def W_doom_Active_1_1 (a0 a1 a2 : AV) (H : Heap) (R : RR) : Prop :=
 pureK (ld (some false) 1 H a1) fun x1 =>
 pureK (ld (some false) 1 H a2) fun x2 =>
 ∃ x3, AReads PP gΓ doom_kid [x1, a0, x2] H x3 ∧
 pureK (ld (some false) 1 H a1) fun x4 =>
 pureK (ias 3 x4 a0) fun x5 =>
 pureK (ld (some true) 3 H x5) fun x6 =>
 ACalls PP gΓ doom_goes [x6] H fun x7 H8 =>
 pureK (bop .plain .geq x3 x7) fun x9 =>
 ret1 H8 R x9
theorem doom_Active_1_1_of {a0 a1 a2 : AV} {H : Heap} {R : RR} (h : W_doom_Active_1_1 a0 a1 a2 H R) : ACalls PP gΓ doom_Active_1_1 [a0, a1, a2] H R :=
 ACalls.of_K (E := E_doom_Active_1_1) follows_PP Tryz.func123 (c := C_doom_Active_1_1) (by kernel_rfl) Tryz.ntmps123 (by kernel_rfl) h

def L_doom_kid : Nat → Option (List Nat) := fun k => bif Nat.beq k 1003 then some [2, 16, 17, 18] else none
noncomputable abbrev E_doom_kid : Env := mkE 31 (L_doom_kid)
noncomputable def C_doom_kid : Code := Tryz.f124.body.getD .skip
def W_doom_kid (a0 a1 a2 : AV) (H : Heap) (R : RR) : Prop :=
 pureK (bop .plain .add a1 (I 1)) fun x1 =>
 pureK (bop .plain .sub a2 x1) fun x2 =>
 pureK (sll 3 a0 (some a1) none none) fun x3 =>
 ACalls PP gΓ row_Kids [x3] H fun x4 H5 =>
 pureK (lnl x4) fun x6 =>
 ∃ J7 : List AV → Heap → Nat → Prop, (∃ (n13 : Nat) (H14 : Heap), H14 ≤ H5 ∧ J7 [x2, x4, x6, I 0] H14 n13) ∧ ∀ (vs8 : List AV) (H9 : Heap) (n10 : Nat), J7 vs8 H9 n10 →
 pureK (bop .plain .lss (nth vs8 3) (nth vs8 2)) fun x15 =>
 condK x15 (
 pureK (ias 1 (nth vs8 1) (nth vs8 3)) fun x16 =>
 pureK (ld (some false) 1 H9 x16) fun x17 =>
 pureK (lnl x17) fun x18 =>
 pureK (bop .plain .sub (nth vs8 0) x18) fun x19 =>
 pureK (bop .plain .lss x19 (I 0)) fun x20 =>
 condK x20 (
 ret1 H9 R (nth vs8 3)
 ) (
 pureK (bop .plain .add (nth vs8 3) (I 1)) fun x21 =>
 (∃ (n11 : Nat) (H12 : Heap), n11 < n10 ∧ H12 ≤ H9 ∧ J7 [x19, nth vs8 1, nth vs8 2, x21] H12 n11)
 )
 ) (
 ret1 H9 R (I 0)
 )
theorem doom_kid_of {a0 a1 a2 : AV} {H : Heap} {R : RR} (h : W_doom_kid a0 a1 a2 H R) : ACalls PP gΓ doom_kid [a0, a1, a2] H R :=
 ACalls.of_K (E := E_doom_kid) follows_PP Tryz.func124 (c := C_doom_kid) (by kernel_rfl) Tryz.ntmps124 (by kernel_rfl) h

noncomputable abbrev E_doom_goes : Env := mkE 13 (fun _ => none)
noncomputable def C_doom_goes : Code := Tryz.f125.body.getD .skip
def W_doom_goes (a0 : AV) (H : Heap) (R : RR) : Prop :=
 allocK (some (AV.cells a0)) H fun p1 H2 =>
 pureK (fa 0 p1) fun x3 =>
 pureK (ld (some false) 1 H2 x3) fun x4 =>
 pureK (bop .plain .eql x4 (I 5)) fun x5 =>
 condK x5 (
 ret1 H2 R (I 1)
 ) (
 pureK (bop .plain .eql x4 (I 8)) fun x6 =>
 condK x6 (
 ret1 H2 R (I 1)
 ) (
 pureK (bop .plain .eql x4 (I 12)) fun x7 =>
 condK x7 (
 ret1 H2 R (I 1)
 ) (
 pureK (bop .plain .eql x4 (I 13)) fun x8 =>
 condK x8 (
 ret1 H2 R (I 1)
 ) (
 pureK (bop .plain .eql x4 (I 9)) fun x9 =>
 condK x9 (
 ret1 H2 R (I 1)
 ) (
 pureK (bop .plain .eql x4 (I 7)) fun x10 =>
 condK x10 (
 ret1 H2 R (I 2)
 ) (
 ret1 H2 R (I 0)
 )
 )
 )
 )
 )
 )
theorem doom_goes_of {a0 : AV} {H : Heap} {R : RR} (h : W_doom_goes a0 H R) : ACalls PP gΓ doom_goes [a0] H R :=
 ACalls.of_K (E := E_doom_goes) follows_PP Tryz.func125 (c := C_doom_goes) (by kernel_rfl) Tryz.ntmps125 (by kernel_rfl) h

def L_row_Count : Nat → Option (List Nat) := fun k => bif Nat.beq k 1003 then some [1, 5, 8, 9, 10] else none
noncomputable abbrev E_row_Count : Env := mkE 22 (L_row_Count)
noncomputable def C_row_Count : Code := Tryz.f126.body.getD .skip
def W_row_Count (a0 a1 : AV) (H : Heap) (R : RR) : Prop :=
 pureK (lnl a0) fun x1 =>
 ∃ J2 : List AV → Heap → Nat → Prop, (∃ (n8 : Nat) (H9 : Heap), H9 ≤ H ∧ J2 [a1, I 0, a0, x1, I 0] H9 n8) ∧ ∀ (vs3 : List AV) (H4 : Heap) (n5 : Nat), J2 vs3 H4 n5 →
 pureK (bop .plain .lss (nth vs3 4) (nth vs3 3)) fun x10 =>
 condK x10 (
 pureK (ias 3 (nth vs3 2) (nth vs3 4)) fun x11 =>
 pureK (ld (some true) 3 H4 x11) fun x12 =>
 allocP [.sc (.int .i64 0), S emp, .sc (.int .i64 0)] H4 fun o13 H14 =>
 heapK (st 3 H14 (.ptr o13 0) x12) fun H15 =>
 pureK (fa 0 (.ptr o13 0)) fun x16 =>
 pureK (ld (some false) 1 H15 x16) fun x17 =>
 ACalls PP gΓ slices_Contains_int [nth vs3 0, x17] H15 fun x18 H19 =>
 condK x18 (
 pureK (bop .plain .add (nth vs3 1) (I 1)) fun x20 =>
 pureK (bop .plain .add (nth vs3 4) (I 1)) fun x21 =>
 (∃ (n6 : Nat) (H7 : Heap), n6 < n5 ∧ H7 ≤ H19 ∧ J2 [nth vs3 0, x20, nth vs3 2, nth vs3 3, x21] H7 n6)
 ) (
 pureK (bop .plain .add (nth vs3 4) (I 1)) fun x22 =>
 (∃ (n6 : Nat) (H7 : Heap), n6 < n5 ∧ H7 ≤ H19 ∧ J2 [nth vs3 0, nth vs3 1, nth vs3 2, nth vs3 3, x22] H7 n6)
 )
 ) (
 ret1 H4 R (nth vs3 1)
 )
theorem row_Count_of {a0 a1 : AV} {H : Heap} {R : RR} (h : W_row_Count a0 a1 H R) : ACalls PP gΓ row_Count [a0, a1] H R :=
 ACalls.of_K (E := E_row_Count) follows_PP Tryz.func126 (c := C_row_Count) (by kernel_rfl) Tryz.ntmps126 (by kernel_rfl) h

def L_slices_Index_Move : Nat → Option (List Nat) := fun k => bif Nat.beq k 1002 then some [0, 3, 7, 8] else none
noncomputable abbrev E_slices_Index_Move : Env := mkE 19 (L_slices_Index_Move)
noncomputable def C_slices_Index_Move : Code := Tryz.f127.body.getD .skip
def W_slices_Index_Move (a0 a1 : AV) (H : Heap) (R : RR) : Prop :=
 allocK (some (AV.cells a1)) H fun p1 H2 =>
 pureK (lnl a0) fun x3 =>
 ∃ J4 : List AV → Heap → Nat → Prop, (∃ (n10 : Nat) (H11 : Heap), H11 ≤ H2 ∧ J4 [a0, p1, x3, I 0] H11 n10) ∧ ∀ (vs5 : List AV) (H6 : Heap) (n7 : Nat), J4 vs5 H6 n7 →
 pureK (bop .plain .lss (nth vs5 3) (nth vs5 2)) fun x12 =>
 condK x12 (
 pureK (ld (some true) 2 H6 (nth vs5 1)) fun x13 =>
 pureK (ias 2 (nth vs5 0) (nth vs5 3)) fun x14 =>
 pureK (ld (some true) 2 H6 x14) fun x15 =>
 pureK (bop (.flat [.int, .int]) .eql x13 x15) fun x16 =>
 condK x16 (
 ret1 H6 R (nth vs5 3)
 ) (
 pureK (bop .plain .add (nth vs5 3) (I 1)) fun x17 =>
 (∃ (n8 : Nat) (H9 : Heap), n8 < n7 ∧ H9 ≤ H6 ∧ J4 [nth vs5 0, nth vs5 1, nth vs5 2, x17] H9 n8)
 )
 ) (
 ret1 H6 R (I (-1))
 )
theorem slices_Index_Move_of {a0 a1 : AV} {H : Heap} {R : RR} (h : W_slices_Index_Move a0 a1 H R) : ACalls PP gΓ slices_Index_Move [a0, a1] H R :=
 ACalls.of_K (E := E_slices_Index_Move) follows_PP Tryz.func127 (c := C_slices_Index_Move) (by kernel_rfl) Tryz.ntmps127 (by kernel_rfl) h

noncomputable abbrev E_row_Arity : Env := mkE 21 (fun _ => none)
noncomputable def C_row_Arity : Code := Tryz.f128.body.getD .skip
def W_row_Arity (a0 : AV) (H : Heap) (R : RR) : Prop :=
 pureK (bop .plain .eql a0 (I 1)) fun x1 =>
 condK x1 (
 ret1 H R (I 0)
 ) (
 pureK (bop .plain .eql a0 (I 2)) fun x2 =>
 condK x2 (
 ret1 H R (I 0)
 ) (
 pureK (bop .plain .eql a0 (I 3)) fun x3 =>
 condK x3 (
 ret1 H R (I 0)
 ) (
 pureK (bop .plain .eql a0 (I 4)) fun x4 =>
 condK x4 (
 ret1 H R (I 0)
 ) (
 pureK (bop .plain .eql a0 (I 11)) fun x5 =>
 condK x5 (
 ret1 H R (I 0)
 ) (
 pureK (bop .plain .eql a0 (I 9)) fun x6 =>
 condK x6 (
 ret1 H R (I 1)
 ) (
 pureK (bop .plain .eql a0 (I 14)) fun x7 =>
 condK x7 (
 ret1 H R (I 1)
 ) (
 pureK (bop .plain .eql a0 (I 5)) fun x8 =>
 condK x8 (
 ret1 H R (I 2)
 ) (
 pureK (bop .plain .eql a0 (I 6)) fun x9 =>
 condK x9 (
 ret1 H R (I 2)
 ) (
 pureK (bop .plain .eql a0 (I 7)) fun x10 =>
 condK x10 (
 ret1 H R (I 2)
 ) (
 pureK (bop .plain .eql a0 (I 8)) fun x11 =>
 condK x11 (
 ret1 H R (I 2)
 ) (
 pureK (bop .plain .eql a0 (I 10)) fun x12 =>
 condK x12 (
 ret1 H R (I 2)
 ) (
 pureK (bop .plain .eql a0 (I 12)) fun x13 =>
 condK x13 (
 ret1 H R (I 2)
 ) (
 pureK (bop .plain .eql a0 (I 13)) fun x14 =>
 condK x14 (
 ret1 H R (I 2)
 ) (
 ret1 H R (I (-1))
 )
 )
 )
 )
 )
 )
 )
 )
 )
 )
 )
 )
 )
 )
theorem row_Arity_of {a0 : AV} {H : Heap} {R : RR} (h : W_row_Arity a0 H R) : ACalls PP gΓ row_Arity [a0] H R :=
 ACalls.of_K (E := E_row_Arity) follows_PP Tryz.func128 (c := C_row_Arity) (by kernel_rfl) Tryz.ntmps128 (by kernel_rfl) h

def L_slices_Concat_Node : Nat → Option (List Nat) := fun k => bif Nat.beq k 1003 then some [0, 3, 9, 10, 11] else bif Nat.beq k 1011 then some [6, 25, 26, 27] else none
noncomputable abbrev E_slices_Concat_Node : Env := mkE 36 (L_slices_Concat_Node)
noncomputable def C_slices_Concat_Node : Code := Tryz.f129.body.getD .skip
def W_slices_Concat_Node (a0 : AV) (H : Heap) (R : RR) : Prop :=
 pureK (lnl a0) fun x1 =>
 ∃ J2 : List AV → Heap → Nat → Prop, (∃ (n8 : Nat) (H9 : Heap), H9 ≤ H ∧ J2 [a0, I 0, a0, x1, I 0] H9 n8) ∧ ∀ (vs3 : List AV) (H4 : Heap) (n5 : Nat), J2 vs3 H4 n5 →
 pureK (bop .plain .lss (nth vs3 4) (nth vs3 3)) fun x10 =>
 condK x10 (
 pureK (ias 1 (nth vs3 2) (nth vs3 4)) fun x11 =>
 pureK (ld (some false) 1 H4 x11) fun x12 =>
 pureK (lnl x12) fun x13 =>
 pureK (bop .plain .add (nth vs3 1) x13) fun x14 =>
 pureK (bop .plain .lss x14 (I 0)) fun x15 =>
 condK x15 (
 False
 ) (
 pureK (bop .plain .add (nth vs3 4) (I 1)) fun x16 =>
 (∃ (n6 : Nat) (H7 : Heap), n6 < n5 ∧ H7 ≤ H4 ∧ J2 [nth vs3 0, x14, nth vs3 2, nth vs3 3, x16] H7 n6)
 )
 ) (
 ACalls PP gΓ slices_Grow_Node [.lst 0 [] .exact, nth vs3 1] H4 fun x17 H18 =>
 pureK (lnl (nth vs3 0)) fun x19 =>
 ∃ J20 : List AV → Heap → Nat → Prop, (∃ (n26 : Nat) (H27 : Heap), H27 ≤ H18 ∧ J20 [x17, nth vs3 0, x19, I 0] H27 n26) ∧ ∀ (vs21 : List AV) (H22 : Heap) (n23 : Nat), J20 vs21 H22 n23 →
 pureK (bop .plain .lss (nth vs21 3) (nth vs21 2)) fun x28 =>
 condK x28 (
 pureK (ias 1 (nth vs21 1) (nth vs21 3)) fun x29 =>
 pureK (ld (some false) 1 H22 x29) fun x30 =>
 appK 3 (nth vs21 0) x30 H22 fun x31 H32 =>
 pureK (bop .plain .add (nth vs21 3) (I 1)) fun x33 =>
 (∃ (n24 : Nat) (H25 : Heap), n24 < n23 ∧ H25 ≤ H32 ∧ J20 [x31, nth vs21 1, nth vs21 2, x33] H25 n24)
 ) (
 ret1 H22 R (nth vs21 0)
 )
 )
theorem slices_Concat_Node_of {a0 : AV} {H : Heap} {R : RR} (h : W_slices_Concat_Node a0 H R) : ACalls PP gΓ slices_Concat_Node [a0] H R :=
 ACalls.of_K (E := E_slices_Concat_Node) follows_PP Tryz.func129 (c := C_slices_Concat_Node) (by kernel_rfl) Tryz.ntmps129 (by kernel_rfl) h

noncomputable abbrev E_row_Whole : Env := mkE 25 (fun _ => none)
noncomputable def C_row_Whole : Code := Tryz.f130.body.getD .skip
def W_row_Whole (a0 : AV) (H : Heap) (R : RR) : Prop :=
 pureK (lnl a0) fun x1 =>
 pureK (bop .plain .gtr x1 (I 0)) fun x2 =>
 condK x2 (
 pureK (lnl a0) fun x3 =>
 pureK (bop .plain .leq x3 (I 200)) fun x4 =>
 condK x4 (
 ACalls PP gΓ slices_ContainsFunc_Node [a0, .fn (.func row_Whole_1) [] []] H fun x5 H6 =>
 pureK (unE .not x5) fun x7 =>
 condK x7 (
 ACalls PP gΓ row_Size [a0] H6 fun x8 H9 =>
 pureK (lnl a0) fun x10 =>
 pureK (bop .plain .eql x8 x10) fun x11 =>
 ret1 H9 R x11
 ) (
 ret1 H6 R (B false)
 )
 ) (
 ret1 H R (B false)
 )
 ) (
 ret1 H R (B false)
 )
theorem row_Whole_of {a0 : AV} {H : Heap} {R : RR} (h : W_row_Whole a0 H R) : ACalls PP gΓ row_Whole [a0] H R :=
 ACalls.of_K (E := E_row_Whole) follows_PP Tryz.func130 (c := C_row_Whole) (by kernel_rfl) Tryz.ntmps130 (by kernel_rfl) h

def L_sort_sort : Nat → Option (List Nat) := fun k => bif Nat.beq k 1003 then some [0, 3, 8, 9, 10] else none
noncomputable abbrev E_sort_sort : Env := mkE 136 (L_sort_sort)
noncomputable def C_sort_sort : Code := Tryz.f131.body.getD .skip
def W_sort_sort (a0 : AV) (H : Heap) (R : RR) : Prop :=
 ACalls PP gΓ row_Kids [a0] H fun x1 H2 =>
 pureK (lnl x1) fun x3 =>
 ∃ J4 : List AV → Heap → Nat → Prop, (∃ (n10 : Nat) (H11 : Heap), H11 ≤ H2 ∧ J4 [a0, .lst 0 [] .exact, x1, x3, I 0] H11 n10) ∧ ∀ (vs5 : List AV) (H6 : Heap) (n7 : Nat), J4 vs5 H6 n7 →
 pureK (bop .plain .lss (nth vs5 4) (nth vs5 3)) fun x12 =>
 condK x12 (
 pureK (ias 1 (nth vs5 2) (nth vs5 4)) fun x13 =>
 pureK (ld (some false) 1 H6 x13) fun x14 =>
 ACalls PP gΓ sort_sort [x14] H6 fun x15 H16 =>
 pureK (bop .plain .eql x15 (I 0)) fun x17 =>
 condK x17 (
 ret1 H16 R (I 0)
 ) (
 pureK (bsl 1 (.sc (.int .i64 0)) 1 [(0, x15)]) fun x18 =>
 appK 1 (nth vs5 1) x18 H16 fun x19 H20 =>
 pureK (bop .plain .add (nth vs5 4) (I 1)) fun x21 =>
 (∃ (n8 : Nat) (H9 : Heap), n8 < n7 ∧ H9 ≤ H20 ∧ J4 [nth vs5 0, x19, nth vs5 2, nth vs5 3, x21] H9 n8)
 )
 ) (
 pureK (ias 3 (nth vs5 0) (I 0)) fun x22 =>
 pureK (fa 0 x22) fun x23 =>
 pureK (ld (some false) 1 H6 x23) fun x24 =>
 pureK (bop .plain .eql x24 (I 1)) fun x25 =>
 condK x25 (
 ret1 H6 R (I 1)
 ) (
 pureK (bop .plain .eql x24 (I 2)) fun x26 =>
 condK x26 (
 ret1 H6 R (I 1)
 ) (
 pureK (bop .plain .eql x24 (I 3)) fun x27 =>
 condK x27 (
 ret1 H6 R (I 1)
 ) (
 pureK (bop .plain .eql x24 (I 4)) fun x28 =>
 condK x28 (
 ret1 H6 R (I 1)
 ) (
 pureK (bop .plain .eql x24 (I 11)) fun x29 =>
 condK x29 (
 ret1 H6 R (I 3)
 ) (
 pureK (bop .plain .eql x24 (I 6)) fun x30 =>
 condK x30 (
 pureK (ias 1 (nth vs5 1) (I 0)) fun x31 =>
 pureK (ld (some false) 1 H6 x31) fun x32 =>
 pureK (bop .plain .gtr x32 (I 2)) fun x33 =>
 condK x33 (
 ret1 H6 R (I 0)
 ) (
 pureK (ias 1 (nth vs5 1) (I 1)) fun x34 =>
 pureK (ld (some false) 1 H6 x34) fun x35 =>
 pureK (bop .plain .gtr x35 (I 2)) fun x36 =>
 condK x36 (
 ret1 H6 R (I 0)
 ) (
 pureK (ias 1 (nth vs5 1) (I 0)) fun x37 =>
 pureK (ld (some false) 1 H6 x37) fun x38 =>
 pureK (ias 1 (nth vs5 1) (I 1)) fun x39 =>
 pureK (ld (some false) 1 H6 x39) fun x40 =>
 ACalls PP gΓ sort_both [x38, x40] H6 fun x41 H42 =>
 ret1 H42 R x41
 )
 )
 ) (
 pureK (bop .plain .eql x24 (I 7)) fun x43 =>
 condK x43 (
 pureK (ias 1 (nth vs5 1) (I 0)) fun x44 =>
 pureK (ld (some false) 1 H6 x44) fun x45 =>
 pureK (ias 1 (nth vs5 1) (I 1)) fun x46 =>
 pureK (ld (some false) 1 H6 x46) fun x47 =>
 ACalls PP gΓ sort_both [x45, x47] H6 fun x48 H49 =>
 ret1 H49 R x48
 ) (
 pureK (bop .plain .eql x24 (I 5)) fun x50 =>
 condK x50 (
 pureK (ias 1 (nth vs5 1) (I 0)) fun x51 =>
 pureK (ld (some false) 1 H6 x51) fun x52 =>
 pureK (ias 1 (nth vs5 1) (I 1)) fun x53 =>
 pureK (ld (some false) 1 H6 x53) fun x54 =>
 ∃ x55, AReads PP gΓ sort_behind [x52, x54, I 1] H6 x55 ∧
 pureK (ias 1 (nth vs5 1) (I 0)) fun x56 =>
 pureK (ld (some false) 1 H6 x56) fun x57 =>
 pureK (ias 1 (nth vs5 1) (I 1)) fun x58 =>
 pureK (ld (some false) 1 H6 x58) fun x59 =>
 ACalls PP gΓ sort_behind [x57, x59, I 2] H6 fun x60 H61 =>
 pureK (maxE [x55, x60]) fun x62 =>
 ret1 H61 R x62
 ) (
 pureK (bop .plain .eql x24 (I 8)) fun x63 =>
 condK x63 (
 pureK (ias 1 (nth vs5 1) (I 0)) fun x64 =>
 pureK (ld (some false) 1 H6 x64) fun x65 =>
 pureK (ias 1 (nth vs5 1) (I 1)) fun x66 =>
 pureK (ld (some false) 1 H6 x66) fun x67 =>
 ACalls PP gΓ sort_behind [x65, x67, I 1] H6 fun x68 H69 =>
 ret1 H69 R x68
 ) (
 pureK (bop .plain .eql x24 (I 9)) fun x70 =>
 condK x70 (
 pureK (ias 1 (nth vs5 1) (I 0)) fun x71 =>
 pureK (ld (some false) 1 H6 x71) fun x72 =>
 ACalls PP gΓ sort_on [x72] H6 fun x73 H74 =>
 pureK (bop .plain .eql x73 (I 4)) fun x75 =>
 condK x75 (
 pureK (ias 1 (nth vs5 1) (I 0)) fun x76 =>
 pureK (ld (some false) 1 H74 x76) fun x77 =>
 pureK (bop .plain .sub x77 (I 1)) fun x78 =>
 ret1 H74 R x78
 ) (
 ret1 H74 R (I 0)
 )
 ) (
 pureK (bop .plain .eql x24 (I 10)) fun x79 =>
 condK x79 (
 pureK (ias 1 (nth vs5 1) (I 0)) fun x80 =>
 pureK (ld (some false) 1 H6 x80) fun x81 =>
 pureK (bop .plain .eql x81 (I 1)) fun x82 =>
 condK x82 (
 pureK (ias 1 (nth vs5 1) (I 1)) fun x83 =>
 pureK (ld (some false) 1 H6 x83) fun x84 =>
 pureK (bop .plain .eql x84 (I 1)) fun x85 =>
 condK x85 (
 ret1 H6 R (I 2)
 ) (
 ret1 H6 R (I 0)
 )
 ) (
 ret1 H6 R (I 0)
 )
 ) (
 pureK (bop .plain .eql x24 (I 12)) fun x86 =>
 condK x86 (
 pureK (ias 1 (nth vs5 1) (I 0)) fun x87 =>
 pureK (ld (some false) 1 H6 x87) fun x88 =>
 ACalls PP gΓ sort_on [x88] H6 fun x89 H90 =>
 pureK (bop .plain .eql x89 (I 3)) fun x91 =>
 condK x91 (
 pureK (ias 1 (nth vs5 1) (I 1)) fun x92 =>
 pureK (ld (some false) 1 H90 x92) fun x93 =>
 pureK (bop .plain .eql x93 (I 1)) fun x94 =>
 condK x94 (
 ret1 H90 R (I 4)
 ) (
 ret1 H90 R (I 0)
 )
 ) (
 ret1 H90 R (I 0)
 )
 ) (
 pureK (bop .plain .eql x24 (I 13)) fun x95 =>
 condK x95 (
 pureK (ias 1 (nth vs5 1) (I 0)) fun x96 =>
 pureK (ld (some false) 1 H6 x96) fun x97 =>
 ACalls PP gΓ sort_on [x97] H6 fun x98 H99 =>
 pureK (bop .plain .eql x98 (I 4)) fun x100 =>
 condK x100 (
 pureK (ias 1 (nth vs5 1) (I 1)) fun x101 =>
 pureK (ld (some false) 1 H99 x101) fun x102 =>
 pureK (bop .plain .eql x102 (I 1)) fun x103 =>
 condK x103 (
 ret1 H99 R (I 4)
 ) (
 ret1 H99 R (I 0)
 )
 ) (
 ret1 H99 R (I 0)
 )
 ) (
 pureK (bop .plain .eql x24 (I 14)) fun x104 =>
 condK x104 (
 pureK (ias 1 (nth vs5 1) (I 0)) fun x105 =>
 pureK (ld (some false) 1 H6 x105) fun x106 =>
 pureK (bop .plain .eql x106 (I 1)) fun x107 =>
 condK x107 (
 ret1 H6 R (I 4)
 ) (
 ret1 H6 R (I 0)
 )
 ) (
 ret1 H6 R (I 0)
 )
 )
 )
 )
 )
 )
 )
 )
 )
 )
 )
 )
 )
 )
 )
theorem sort_sort_of {a0 : AV} {H : Heap} {R : RR} (h : W_sort_sort a0 H R) : ACalls PP gΓ sort_sort [a0] H R :=
 ACalls.of_K (E := E_sort_sort) follows_PP Tryz.func131 (c := C_sort_sort) (by kernel_rfl) Tryz.ntmps131 (by kernel_rfl) h

noncomputable abbrev E_sign_Both : Env := mkE 24 (fun _ => none)
noncomputable def C_sign_Both : Code := Tryz.f132.body.getD .skip
def W_sign_Both (a0 a1 : AV) (H : Heap) (R : RR) : Prop :=
 ACalls PP gΓ sign_Is [a0] H fun x1 H2 =>
 pureK (unE .not x1) fun x3 =>
 condK x3 (
 ret1 H2 R (I 0)
 ) (
 ACalls PP gΓ sign_Is [a1] H2 fun x4 H5 =>
 pureK (unE .not x4) fun x6 =>
 condK x6 (
 ret1 H5 R (I 0)
 ) (
 pureK (bop .plain .eql a0 (I 2)) fun x7 =>
 condK x7 (
 ret1 H5 R (I 2)
 ) (
 pureK (bop .plain .eql a1 (I 2)) fun x8 =>
 condK x8 (
 ret1 H5 R (I 2)
 ) (
 pureK (maxE [a0, a1]) fun x9 =>
 ret1 H5 R x9
 )
 )
 )
 )
theorem sign_Both_of {a0 a1 : AV} {H : Heap} {R : RR} (h : W_sign_Both a0 a1 H R) : ACalls PP gΓ sign_Both [a0, a1] H R :=
 ACalls.of_K (E := E_sign_Both) follows_PP Tryz.func132 (c := C_sign_Both) (by kernel_rfl) Tryz.ntmps132 (by kernel_rfl) h

noncomputable abbrev E_row_named : Env := mkE 21 (fun _ => none)
noncomputable def C_row_named : Code := Tryz.f133.body.getD .skip
def W_row_named (a0 : AV) (H : Heap) (R : RR) : Prop :=
 pureK (bop .plain .neq a0 (S emp)) fun x1 =>
 condK x1 (
 pureK (lns a0) fun x2 =>
 pureK (bop .plain .leq x2 (I 8)) fun x3 =>
 condK x3 (
 ACalls PP gΓ strings_Trim [a0, S s_abcdefghijklmnopqrstuvwxyz] H fun x4 H5 =>
 pureK (bop .plain .eql x4 (S emp)) fun x6 =>
 condK x6 (
 pureK (sla 6 1 g0 none none none) fun x7 =>
 ACalls PP gΓ slices_Contains_string [x7, a0] H5 fun x8 H9 =>
 pureK (unE .not x8) fun x10 =>
 ret1 H9 R x10
 ) (
 ret1 H5 R (B false)
 )
 ) (
 ret1 H R (B false)
 )
 ) (
 ret1 H R (B false)
 )
theorem row_named_of {a0 : AV} {H : Heap} {R : RR} (h : W_row_named a0 H R) : ACalls PP gΓ row_named [a0] H R :=
 ACalls.of_K (E := E_row_named) follows_PP Tryz.func133 (c := C_row_named) (by kernel_rfl) Tryz.ntmps133 (by kernel_rfl) h

def L_slices_IndexFunc_string : Nat → Option (List Nat) := fun k => bif Nat.beq k 1002 then some [0, 1, 7, 8] else none
noncomputable abbrev E_slices_IndexFunc_string : Env := mkE 19 (L_slices_IndexFunc_string)
noncomputable def C_slices_IndexFunc_string : Code := Tryz.f134.body.getD .skip
def W_slices_IndexFunc_string (a0 a1 : AV) (H : Heap) (R : RR) : Prop :=
 pureK (lnl a0) fun x1 =>
 ∃ J2 : List AV → Heap → Nat → Prop, (∃ (n8 : Nat) (H9 : Heap), H9 ≤ H ∧ J2 [a0, a1, x1, I 0] H9 n8) ∧ ∀ (vs3 : List AV) (H4 : Heap) (n5 : Nat), J2 vs3 H4 n5 →
 pureK (bop .plain .lss (nth vs3 3) (nth vs3 2)) fun x10 =>
 condK x10 (
 pureK (ias 1 (nth vs3 0) (nth vs3 3)) fun x11 =>
 pureK (ld (some false) 1 H4 x11) fun x12 =>
 callK (E_slices_IndexFunc_string) (nth vs3 1) [x12] H4 fun x13 H14 =>
 condK x13 (
 ret1 H14 R (nth vs3 3)
 ) (
 pureK (bop .plain .add (nth vs3 3) (I 1)) fun x15 =>
 (∃ (n6 : Nat) (H7 : Heap), n6 < n5 ∧ H7 ≤ H14 ∧ J2 [nth vs3 0, nth vs3 1, nth vs3 2, x15] H7 n6)
 )
 ) (
 ret1 H4 R (I (-1))
 )
theorem slices_IndexFunc_string_of {a0 a1 : AV} {H : Heap} {R : RR} (h : W_slices_IndexFunc_string a0 a1 H R) : ACalls PP gΓ slices_IndexFunc_string [a0, a1] H R :=
 ACalls.of_K (E := E_slices_IndexFunc_string) follows_PP Tryz.func134 (c := C_slices_IndexFunc_string) (by kernel_rfl) Tryz.ntmps134 (by kernel_rfl) h

def L_doom_beside : Nat → Option (List Nat) := fun k => bif Nat.beq k 1006 then some [0, 1, 4, 19, 20, 21] else none
noncomputable abbrev E_doom_beside : Env := mkE 51 (L_doom_beside)
noncomputable def C_doom_beside : Code := Tryz.f135.body.getD .skip
def W_doom_beside (a0 a1 : AV) (H : Heap) (R : RR) : Prop :=
 ACalls PP gΓ doom_Active [a0] H fun x1 H2 =>
 ACalls PP gΓ slices_Contains_int [x1, a1] H2 fun x3 H4 =>
 pureK (unE .not x3) fun x5 =>
 condK x5 (
 ret1 H4 R (.tup [.lst 0 [] .exact, B true])
 ) (
 ACalls PP gΓ plot_Over [a0, a1] H4 fun x6 H7 =>
 ACalls PP gΓ slices_Reverse_int [x6] H7 fun x8 H9 =>
 pureK (lnl x6) fun x10 =>
 ∃ J11 : List AV → Heap → Nat → Prop, (∃ (n17 : Nat) (H18 : Heap), H18 ≤ H9 ∧ J11 [a0, a1, .lst 0 [] .exact, x6, x10, I 0] H18 n17) ∧ ∀ (vs12 : List AV) (H13 : Heap) (n14 : Nat), J11 vs12 H13 n14 →
 pureK (bop .plain .lss (nth vs12 5) (nth vs12 4)) fun x19 =>
 condK x19 (
 pureK (ias 1 (nth vs12 3) (nth vs12 5)) fun x20 =>
 pureK (ld (some false) 1 H13 x20) fun x21 =>
 pureK (ias 3 (nth vs12 0) x21) fun x22 =>
 pureK (fa 0 x22) fun x23 =>
 pureK (ld (some false) 1 H13 x23) fun x24 =>
 pureK (bop .plain .eql x24 (I 9)) fun x25 =>
 condK x25 (
 ret1 H13 R (.tup [nth vs12 2, B true])
 ) (
 pureK (bop .plain .eql x24 (I 7)) fun x26 =>
 condK x26 (
 pureK (sll 3 (nth vs12 0) (some x21) none none) fun x27 =>
 ACalls PP gΓ row_Kids [x27] H13 fun x28 H29 =>
 ACalls PP gΓ doom_kid [nth vs12 0, x21, nth vs12 1] H29 fun x30 H31 =>
 pureK (bop .plain .sub (I 1) x30) fun x32 =>
 pureK (ias 1 x28 x32) fun x33 =>
 pureK (ld (some false) 1 H31 x33) fun x34 =>
 pureK (bsl 1 (.lst 0 [] .exact) 1 [(0, x34)]) fun x35 =>
 appK 1 (nth vs12 2) x35 H31 fun x36 H37 =>
 pureK (bop .plain .add (nth vs12 5) (I 1)) fun x38 =>
 (∃ (n15 : Nat) (H16 : Heap), n15 < n14 ∧ H16 ≤ H37 ∧ J11 [nth vs12 0, nth vs12 1, x36, nth vs12 3, nth vs12 4, x38] H16 n15)
 ) (
 pureK (bop .plain .add (nth vs12 5) (I 1)) fun x39 =>
 (∃ (n15 : Nat) (H16 : Heap), n15 < n14 ∧ H16 ≤ H13 ∧ J11 [nth vs12 0, nth vs12 1, nth vs12 2, nth vs12 3, nth vs12 4, x39] H16 n15)
 )
 )
 ) (
 ret1 H13 R (.tup [nth vs12 2, B false])
 )
 )
theorem doom_beside_of {a0 a1 : AV} {H : Heap} {R : RR} (h : W_doom_beside a0 a1 H R) : ACalls PP gΓ doom_beside [a0, a1] H R :=
 ACalls.of_K (E := E_doom_beside) follows_PP Tryz.func135 (c := C_doom_beside) (by kernel_rfl) Tryz.ntmps135 (by kernel_rfl) h

noncomputable abbrev E_slices_ContainsFunc_Node_2 : Env := mkE 9 (fun _ => none)
noncomputable def C_slices_ContainsFunc_Node_2 : Code := Tryz.f136.body.getD .skip
def W_slices_ContainsFunc_Node_2 (a0 a1 : AV) (H : Heap) (R : RR) : Prop :=
 ACalls PP gΓ slices_IndexFunc_Node_2 [a0, a1] H fun x1 H2 =>
 pureK (bop .plain .geq x1 (I 0)) fun x3 =>
 ret1 H2 R x3
theorem slices_ContainsFunc_Node_2_of {a0 a1 : AV} {H : Heap} {R : RR} (h : W_slices_ContainsFunc_Node_2 a0 a1 H R) : ACalls PP gΓ slices_ContainsFunc_Node_2 [a0, a1] H R :=
 ACalls.of_K (E := E_slices_ContainsFunc_Node_2) follows_PP Tryz.func136 (c := C_slices_ContainsFunc_Node_2) (by kernel_rfl) Tryz.ntmps136 (by kernel_rfl) h

noncomputable abbrev E_doom_Doomed : Env := mkE 9 (fun _ => none)
noncomputable def C_doom_Doomed : Code := Tryz.f137.body.getD .skip
def W_doom_Doomed (a0 : AV) (H : Heap) (R : RR) : Prop :=
 ACalls PP gΓ settle_Settled [a0] H fun x1 H2 =>
 condK x1 (
 ACalls PP gΓ doom_doomed [a0] H2 fun x3 H4 =>
 ret1 H4 R x3
 ) (
 ret1 H2 R (B false)
 )
theorem doom_Doomed_of {a0 : AV} {H : Heap} {R : RR} (h : W_doom_Doomed a0 H R) : ACalls PP gΓ doom_Doomed [a0] H R :=
 ACalls.of_K (E := E_doom_Doomed) follows_PP Tryz.func137 (c := C_doom_Doomed) (by kernel_rfl) Tryz.ntmps137 (by kernel_rfl) h

def L_slices_IndexFunc_int : Nat → Option (List Nat) := fun k => bif Nat.beq k 1002 then some [0, 1, 7, 8] else none
noncomputable abbrev E_slices_IndexFunc_int : Env := mkE 19 (L_slices_IndexFunc_int)
noncomputable def C_slices_IndexFunc_int : Code := Tryz.f138.body.getD .skip
def W_slices_IndexFunc_int (a0 a1 : AV) (H : Heap) (R : RR) : Prop :=
 pureK (lnl a0) fun x1 =>
 ∃ J2 : List AV → Heap → Nat → Prop, (∃ (n8 : Nat) (H9 : Heap), H9 ≤ H ∧ J2 [a0, a1, x1, I 0] H9 n8) ∧ ∀ (vs3 : List AV) (H4 : Heap) (n5 : Nat), J2 vs3 H4 n5 →
 pureK (bop .plain .lss (nth vs3 3) (nth vs3 2)) fun x10 =>
 condK x10 (
 pureK (ias 1 (nth vs3 0) (nth vs3 3)) fun x11 =>
 pureK (ld (some false) 1 H4 x11) fun x12 =>
 callK (E_slices_IndexFunc_int) (nth vs3 1) [x12] H4 fun x13 H14 =>
 condK x13 (
 ret1 H14 R (nth vs3 3)
 ) (
 pureK (bop .plain .add (nth vs3 3) (I 1)) fun x15 =>
 (∃ (n6 : Nat) (H7 : Heap), n6 < n5 ∧ H7 ≤ H14 ∧ J2 [nth vs3 0, nth vs3 1, nth vs3 2, x15] H7 n6)
 )
 ) (
 ret1 H4 R (I (-1))
 )
theorem slices_IndexFunc_int_of {a0 a1 : AV} {H : Heap} {R : RR} (h : W_slices_IndexFunc_int a0 a1 H R) : ACalls PP gΓ slices_IndexFunc_int [a0, a1] H R :=
 ACalls.of_K (E := E_slices_IndexFunc_int) follows_PP Tryz.func138 (c := C_slices_IndexFunc_int) (by kernel_rfl) Tryz.ntmps138 (by kernel_rfl) h

noncomputable abbrev E_plot_spots : Env := mkE 4 (fun _ => none)
noncomputable def C_plot_spots : Code := Tryz.f139.body.getD .skip
def W_plot_spots (a0 : AV) (H : Heap) (R : RR) : Prop :=
 allocK (some (AV.cells a0)) H fun p1 H2 =>
 ret1 H2 R (.fn (.func plot_spots_1) [] [p1])
theorem plot_spots_of {a0 : AV} {H : Heap} {R : RR} (h : W_plot_spots a0 H R) : ACalls PP gΓ plot_spots [a0] H R :=
 ACalls.of_K (E := E_plot_spots) follows_PP Tryz.func139 (c := C_plot_spots) (by kernel_rfl) Tryz.ntmps139 (by kernel_rfl) h

noncomputable abbrev E_slices_Grow_Node : Env := mkE 27 (fun _ => none)
noncomputable def C_slices_Grow_Node : Code := Tryz.f140.body.getD .skip
def W_slices_Grow_Node (a0 a1 : AV) (H : Heap) (R : RR) : Prop :=
 pureK (bop .plain .lss a1 (I 0)) fun x1 =>
 condK x1 (
 False
 ) (
 pureK (cpl a0) fun x2 =>
 pureK (lnl a0) fun x3 =>
 pureK (bop .plain .sub x2 x3) fun x4 =>
 pureK (bop .plain .sub a1 x4) fun x5 =>
 pureK (bop .plain .gtr x5 (I 0)) fun x6 =>
 condK x6 (
 pureK (cpl a0) fun x7 =>
 pureK (sll 3 a0 none (some x7) none) fun x8 =>
 growK 3 x8 x5 H fun x9 H10 =>
 pureK (lnl a0) fun x11 =>
 pureK (sll 3 x9 none (some x11) none) fun x12 =>
 ret1 H10 R x12
 ) (
 ret1 H R a0
 )
 )
theorem slices_Grow_Node_of {a0 a1 : AV} {H : Heap} {R : RR} (h : W_slices_Grow_Node a0 a1 H R) : ACalls PP gΓ slices_Grow_Node [a0, a1] H R :=
 ACalls.of_K (E := E_slices_Grow_Node) follows_PP Tryz.func140 (c := C_slices_Grow_Node) (by kernel_rfl) Tryz.ntmps140 (by kernel_rfl) h

noncomputable abbrev E_row_Whole_1 : Env := mkE 6 (fun _ => none)
noncomputable def C_row_Whole_1 : Code := Tryz.f141.body.getD .skip
def W_row_Whole_1 (a0 : AV) (H : Heap) (R : RR) : Prop :=
 allocK (some (AV.cells a0)) H fun p1 H2 =>
 pureK (ld (some true) 3 H2 p1) fun x3 =>
 ACalls PP gΓ row_Right [x3] H2 fun x4 H5 =>
 pureK (unE .not x4) fun x6 =>
 ret1 H5 R x6
theorem row_Whole_1_of {a0 : AV} {H : Heap} {R : RR} (h : W_row_Whole_1 a0 H R) : ACalls PP gΓ row_Whole_1 [a0] H R :=
 ACalls.of_K (E := E_row_Whole_1) follows_PP Tryz.func141 (c := C_row_Whole_1) (by kernel_rfl) Tryz.ntmps141 (by kernel_rfl) h

noncomputable abbrev E_slices_ContainsFunc_Node : Env := mkE 9 (fun _ => none)
noncomputable def C_slices_ContainsFunc_Node : Code := Tryz.f142.body.getD .skip
def W_slices_ContainsFunc_Node (a0 a1 : AV) (H : Heap) (R : RR) : Prop :=
 ACalls PP gΓ slices_IndexFunc_Node [a0, a1] H fun x1 H2 =>
 pureK (bop .plain .geq x1 (I 0)) fun x3 =>
 ret1 H2 R x3
theorem slices_ContainsFunc_Node_of {a0 a1 : AV} {H : Heap} {R : RR} (h : W_slices_ContainsFunc_Node a0 a1 H R) : ACalls PP gΓ slices_ContainsFunc_Node [a0, a1] H R :=
 ACalls.of_K (E := E_slices_ContainsFunc_Node) follows_PP Tryz.func142 (c := C_slices_ContainsFunc_Node) (by kernel_rfl) Tryz.ntmps142 (by kernel_rfl) h

noncomputable abbrev E_sort_both : Env := mkE 13 (fun _ => none)
noncomputable def C_sort_both : Code := Tryz.f143.body.getD .skip
def W_sort_both (a0 a1 : AV) (H : Heap) (R : RR) : Prop :=
 ACalls PP gΓ sort_on [a0] H fun x1 H2 =>
 ACalls PP gΓ sort_on [a1] H2 fun x3 H4 =>
 pureK (bop .plain .neq x1 x3) fun x5 =>
 condK x5 (
 ret1 H4 R (I 0)
 ) (
 pureK (maxE [a0, a1]) fun x6 =>
 ret1 H4 R x6
 )
theorem sort_both_of {a0 a1 : AV} {H : Heap} {R : RR} (h : W_sort_both a0 a1 H R) : ACalls PP gΓ sort_both [a0, a1] H R :=
 ACalls.of_K (E := E_sort_both) follows_PP Tryz.func143 (c := C_sort_both) (by kernel_rfl) Tryz.ntmps143 (by kernel_rfl) h

noncomputable abbrev E_sort_behind : Env := mkE 18 (fun _ => none)
noncomputable def C_sort_behind : Code := Tryz.f144.body.getD .skip
def W_sort_behind (a0 a1 a2 : AV) (H : Heap) (R : RR) : Prop :=
 pureK (bop .plain .neq a1 a2) fun x1 =>
 condK x1 (
 ret1 H R (I 0)
 ) (
 ACalls PP gΓ sort_on [a0] H fun x2 H3 =>
 ACalls PP gΓ sort_on [a2] H3 fun x4 H5 =>
 pureK (bop .plain .neq x2 x4) fun x6 =>
 condK x6 (
 ret1 H5 R (I 0)
 ) (
 ret1 H5 R a0
 )
 )
theorem sort_behind_of {a0 a1 a2 : AV} {H : Heap} {R : RR} (h : W_sort_behind a0 a1 a2 H R) : ACalls PP gΓ sort_behind [a0, a1, a2] H R :=
 ACalls.of_K (E := E_sort_behind) follows_PP Tryz.func144 (c := C_sort_behind) (by kernel_rfl) Tryz.ntmps144 (by kernel_rfl) h

noncomputable abbrev E_strings_Trim : Env := mkE 43 (fun _ => none)
noncomputable def C_strings_Trim : Code := Tryz.f145.body.getD .skip
def W_strings_Trim (a0 a1 : AV) (H : Heap) (R : RR) : Prop :=
 pureK (bop .plain .eql a0 (S emp)) fun x1 =>
 condK x1 (
 ret1 H R a0
 ) (
 pureK (bop .plain .eql a1 (S emp)) fun x2 =>
 condK x2 (
 ret1 H R a0
 ) (
 pureK (lns a1) fun x3 =>
 pureK (bop .plain .eql x3 (I 1)) fun x4 =>
 condK x4 (
 pureK (ixs a1 (I 0)) fun x5 =>
 pureK (bop .plain .lss x5 (.sc (.int .u8 128))) fun x6 =>
 condK x6 (
 pureK (ixs a1 (I 0)) fun x7 =>
 ∃ x8, AReads PP gΓ strings_trimRightByte [a0, x7] H x8 ∧
 pureK (ixs a1 (I 0)) fun x9 =>
 ACalls PP gΓ strings_trimLeftByte [x8, x9] H fun x10 H11 =>
 ret1 H11 R x10
 ) (
 ACalls PP gΓ strings_makeASCIISet [a1] H fun x12 H13 =>
 pureK (extractE x12 0) fun x14 =>
 pureK (extractE x12 1) fun x15 =>
 allocP (List.replicate 256 (B false)) H13 fun o16 H17 =>
 heapK (st 256 H17 (.ptr o16 0) x14) fun H18 =>
 condK x15 (
 ACalls PP gΓ strings_trimRightASCII [a0, .ptr o16 0] H18 fun x19 H20 =>
 ACalls PP gΓ strings_trimLeftASCII [x19, .ptr o16 0] H20 fun x21 H22 =>
 ret1 H22 R x21
 ) (
 ACalls PP gΓ strings_trimRightUnicode [a0, a1] H18 fun x23 H24 =>
 ACalls PP gΓ strings_trimLeftUnicode [x23, a1] H24 fun x25 H26 =>
 ret1 H26 R x25
 )
 )
 ) (
 ACalls PP gΓ strings_makeASCIISet [a1] H fun x27 H28 =>
 pureK (extractE x27 0) fun x29 =>
 pureK (extractE x27 1) fun x30 =>
 allocP (List.replicate 256 (B false)) H28 fun o31 H32 =>
 heapK (st 256 H32 (.ptr o31 0) x29) fun H33 =>
 condK x30 (
 ACalls PP gΓ strings_trimRightASCII [a0, .ptr o31 0] H33 fun x34 H35 =>
 ACalls PP gΓ strings_trimLeftASCII [x34, .ptr o31 0] H35 fun x36 H37 =>
 ret1 H37 R x36
 ) (
 ACalls PP gΓ strings_trimRightUnicode [a0, a1] H33 fun x38 H39 =>
 ACalls PP gΓ strings_trimLeftUnicode [x38, a1] H39 fun x40 H41 =>
 ret1 H41 R x40
 )
 )
 )
 )
theorem strings_Trim_of {a0 a1 : AV} {H : Heap} {R : RR} (h : W_strings_Trim a0 a1 H R) : ACalls PP gΓ strings_Trim [a0, a1] H R :=
 ACalls.of_K (E := E_strings_Trim) follows_PP Tryz.func145 (c := C_strings_Trim) (by kernel_rfl) Tryz.ntmps145 (by kernel_rfl) h

noncomputable abbrev E_slices_Contains_string : Env := mkE 9 (fun _ => none)
noncomputable def C_slices_Contains_string : Code := Tryz.f146.body.getD .skip
def W_slices_Contains_string (a0 a1 : AV) (H : Heap) (R : RR) : Prop :=
 ACalls PP gΓ slices_Index_string [a0, a1] H fun x1 H2 =>
 pureK (bop .plain .geq x1 (I 0)) fun x3 =>
 ret1 H2 R x3
theorem slices_Contains_string_of {a0 a1 : AV} {H : Heap} {R : RR} (h : W_slices_Contains_string a0 a1 H R) : ACalls PP gΓ slices_Contains_string [a0, a1] H R :=
 ACalls.of_K (E := E_slices_Contains_string) follows_PP Tryz.func146 (c := C_slices_Contains_string) (by kernel_rfl) Tryz.ntmps146 (by kernel_rfl) h

def L_slices_Reverse_int : Nat → Option (List Nat) := fun k => bif Nat.beq k 1001 then some [0, 2, 3] else none
noncomputable abbrev E_slices_Reverse_int : Env := mkE 28 (L_slices_Reverse_int)
noncomputable def C_slices_Reverse_int : Code := Tryz.f147.body.getD .skip
def W_slices_Reverse_int (a0 : AV) (H : Heap) (R : RR) : Prop :=
 pureK (lnl a0) fun x1 =>
 pureK (bop .plain .sub x1 (I 1)) fun x2 =>
 ∃ J3 : List AV → Heap → Nat → Prop, (∃ (n9 : Nat) (H10 : Heap), H10 ≤ H ∧ J3 [a0, I 0, x2] H10 n9) ∧ ∀ (vs4 : List AV) (H5 : Heap) (n6 : Nat), J3 vs4 H5 n6 →
 pureK (bop .plain .lss (nth vs4 1) (nth vs4 2)) fun x11 =>
 condK x11 (
 ∃ fp12 : Option Nat, (∀ p, fp12 = some p → H5 p ≠ none) ∧
 pureK (ias 1 (nth vs4 0) (nth vs4 2)) fun x13 =>
 pureK (ld (some false) 1 (rem H5 fp12) x13) fun x14 =>
 pureK (ias 1 (nth vs4 0) (nth vs4 1)) fun x15 =>
 pureK (ld (some false) 1 (rem H5 fp12) x15) fun x16 =>
 pureK (ias 1 (nth vs4 0) (nth vs4 1)) fun x17 =>
 ∃ φ18, StMakes 1 H5 fp12 x17 x14 φ18 ∧
 ∀ rf19 ob20, φ18 rf19 ob20 → madeK fp12 H5 rf19 ob20 fun x21 H22 =>
 pureK (ias 1 (nth vs4 0) (nth vs4 2)) fun x23 =>
 heapK (st 1 H22 x23 x16) fun H24 =>
 pureK (bop .plain .add (nth vs4 1) (I 1)) fun x25 =>
 pureK (bop .plain .sub (nth vs4 2) (I 1)) fun x26 =>
 (∃ (n7 : Nat) (H8 : Heap), n7 < n6 ∧ H8 ≤ H24 ∧ J3 [nth vs4 0, x25, x26] H8 n7)
 ) (
 ret1 H5 R (.tup [])
 )
theorem slices_Reverse_int_of {a0 : AV} {H : Heap} {R : RR} (h : W_slices_Reverse_int a0 H R) : ACalls PP gΓ slices_Reverse_int [a0] H R :=
 ACalls.of_K (E := E_slices_Reverse_int) follows_PP Tryz.func147 (c := C_slices_Reverse_int) (by kernel_rfl) Tryz.ntmps147 (by kernel_rfl) h

def L_slices_IndexFunc_Node_2 : Nat → Option (List Nat) := fun k => bif Nat.beq k 1002 then some [0, 1, 7, 8] else none
noncomputable abbrev E_slices_IndexFunc_Node_2 : Env := mkE 19 (L_slices_IndexFunc_Node_2)
noncomputable def C_slices_IndexFunc_Node_2 : Code := Tryz.f148.body.getD .skip
def W_slices_IndexFunc_Node_2 (a0 a1 : AV) (H : Heap) (R : RR) : Prop :=
 pureK (lnl a0) fun x1 =>
 ∃ J2 : List AV → Heap → Nat → Prop, (∃ (n8 : Nat) (H9 : Heap), H9 ≤ H ∧ J2 [a0, a1, x1, I 0] H9 n8) ∧ ∀ (vs3 : List AV) (H4 : Heap) (n5 : Nat), J2 vs3 H4 n5 →
 pureK (bop .plain .lss (nth vs3 3) (nth vs3 2)) fun x10 =>
 condK x10 (
 pureK (ias 1 (nth vs3 0) (nth vs3 3)) fun x11 =>
 pureK (ld (some false) 1 H4 x11) fun x12 =>
 callK (E_slices_IndexFunc_Node_2) (nth vs3 1) [x12] H4 fun x13 H14 =>
 condK x13 (
 ret1 H14 R (nth vs3 3)
 ) (
 pureK (bop .plain .add (nth vs3 3) (I 1)) fun x15 =>
 (∃ (n6 : Nat) (H7 : Heap), n6 < n5 ∧ H7 ≤ H14 ∧ J2 [nth vs3 0, nth vs3 1, nth vs3 2, x15] H7 n6)
 )
 ) (
 ret1 H4 R (I (-1))
 )
theorem slices_IndexFunc_Node_2_of {a0 a1 : AV} {H : Heap} {R : RR} (h : W_slices_IndexFunc_Node_2 a0 a1 H R) : ACalls PP gΓ slices_IndexFunc_Node_2 [a0, a1] H R :=
 ACalls.of_K (E := E_slices_IndexFunc_Node_2) follows_PP Tryz.func148 (c := C_slices_IndexFunc_Node_2) (by kernel_rfl) Tryz.ntmps148 (by kernel_rfl) h

noncomputable abbrev E_doom_doomed : Env := mkE 38 (fun _ => none)
noncomputable def C_doom_doomed : Code := Tryz.f149.body.getD .skip
def W_doom_doomed (a0 : AV) (H : Heap) (R : RR) : Prop :=
 ACalls PP gΓ row_Kids [a0] H fun x1 H2 =>
 pureK (ias 3 a0 (I 0)) fun x3 =>
 pureK (fa 0 x3) fun x4 =>
 pureK (ld (some false) 1 H2 x4) fun x5 =>
 pureK (bop .plain .eql x5 (I 11)) fun x6 =>
 condK x6 (
 pureK (ias 3 a0 (I 0)) fun x7 =>
 pureK (fa 2 x7) fun x8 =>
 pureK (ld (some false) 1 H2 x8) fun x9 =>
 pureK (bop .plain .eql x9 (I 2)) fun x10 =>
 ret1 H2 R x10
 ) (
 pureK (bop .plain .eql x5 (I 14)) fun x11 =>
 condK x11 (
 pureK (ias 3 a0 (I 0)) fun x12 =>
 pureK (fa 2 x12) fun x13 =>
 pureK (ld (some false) 1 H2 x13) fun x14 =>
 pureK (bop .plain .eql x14 (I 2)) fun x15 =>
 ret1 H2 R x15
 ) (
 pureK (bop .plain .eql x5 (I 5)) fun x16 =>
 condK x16 (
 pureK (ias 1 x1 (I 0)) fun x17 =>
 pureK (ld (some false) 1 H2 x17) fun x18 =>
 ACalls PP gΓ doom_doomed [x18] H2 fun x19 H20 =>
 ret1 H20 R x19
 ) (
 pureK (bop .plain .eql x5 (I 12)) fun x21 =>
 condK x21 (
 pureK (ias 1 x1 (I 0)) fun x22 =>
 pureK (ld (some false) 1 H2 x22) fun x23 =>
 ACalls PP gΓ doom_doomed [x23] H2 fun x24 H25 =>
 ret1 H25 R x24
 ) (
 pureK (bop .plain .eql x5 (I 13)) fun x26 =>
 condK x26 (
 pureK (ias 1 x1 (I 0)) fun x27 =>
 pureK (ld (some false) 1 H2 x27) fun x28 =>
 ACalls PP gΓ doom_doomed [x28] H2 fun x29 H30 =>
 ret1 H30 R x29
 ) (
 pureK (bop .plain .eql x5 (I 7)) fun x31 =>
 condK x31 (
 pureK (ias 1 x1 (I 0)) fun x32 =>
 pureK (ld (some false) 1 H2 x32) fun x33 =>
 ACalls PP gΓ doom_doomed [x33] H2 fun x34 H35 =>
 condK x34 (
 ret1 H35 R (B true)
 ) (
 pureK (ias 1 x1 (I 1)) fun x36 =>
 pureK (ld (some false) 1 H35 x36) fun x37 =>
 ACalls PP gΓ doom_doomed [x37] H35 fun x38 H39 =>
 ret1 H39 R x38
 )
 ) (
 ret1 H2 R (B false)
 )
 )
 )
 )
 )
 )
theorem doom_doomed_of {a0 : AV} {H : Heap} {R : RR} (h : W_doom_doomed a0 H R) : ACalls PP gΓ doom_doomed [a0] H R :=
 ACalls.of_K (E := E_doom_doomed) follows_PP Tryz.func149 (c := C_doom_doomed) (by kernel_rfl) Tryz.ntmps149 (by kernel_rfl) h

def L_plot_spots_1 : Nat → Option (List Nat) := fun k => bif Nat.beq k 1004 then some [0, 3, 4, 13, 14, 15] else bif Nat.beq k 11 then some [0, 3, 4, 5, 6, 7, 13, 14, 15] else bif Nat.beq k 16 then some [0, 3, 4, 6, 13, 14, 15] else bif Nat.beq k 1016 then some [0, 3, 4, 6, 13, 14, 15] else none
noncomputable abbrev E_plot_spots_1 : Env := mkE 90 (L_plot_spots_1)
noncomputable def C_plot_spots_1 : Code := Tryz.f150.body.getD .skip
def W_plot_spots_1 (a0 a1 : AV) (H : Heap) (R : RR) : Prop :=
 pureK (ld (some false) 1 H a1) fun x1 =>
 ACalls PP gΓ plot_one [x1] H fun x2 H3 =>
 pureK (unE .not x2) fun x4 =>
 condK x4 (
 ret1 H3 R (.tup [])
 ) (
 pureK (ld (some false) 1 H3 a1) fun x5 =>
 pureK (lnl x5) fun x6 =>
 ∃ J7 : List AV → Heap → Nat → Prop, (∃ (n13 : Nat) (H14 : Heap), H14 ≤ H3 ∧ J7 [a0, .lst 0 [] .exact, I 0, x5, x6, I 0] H14 n13) ∧ ∀ (vs8 : List AV) (H9 : Heap) (n10 : Nat), J7 vs8 H9 n10 →
 pureK (bop .plain .lss (nth vs8 5) (nth vs8 4)) fun x15 =>
 condK x15 (
 pureK (ias 3 (nth vs8 3) (nth vs8 5)) fun x16 =>
 pureK (ld (some true) 3 H9 x16) fun x17 =>
 allocP [.sc (.int .i64 0), S emp, .sc (.int .i64 0)] H9 fun o18 H19 =>
 heapK (st 3 H19 (.ptr o18 0) x17) fun H20 =>
 pureK (cv (.toFloat .f64) (nth vs8 2)) fun x21 =>
 pureK (lnl (nth vs8 1)) fun x22 =>
 pureK (cv (.toFloat .f64) x22) fun x23 =>
 pureK (cpx x21 x23) fun x24 =>
 pureK (bld [(0, 1), (1, 1)] [.sc (.complex .f64 0 0), .sc (.int .i64 0)] [(0, x24), (1, I (-1))]) fun x25 =>
 allocP [.sc (.complex .f64 0 0), .sc (.int .i64 0)] H20 fun o26 H27 =>
 heapK (st 2 H27 (.ptr o26 0) x25) fun H28 =>
 ∃ J29 : List AV → Heap → Prop, (
 pureK (lnl (nth vs8 1)) fun x33 =>
 pureK (bop .plain .gtr x33 (I 0)) fun x34 =>
 condK x34 (
 pureK (lnl (nth vs8 1)) fun x35 =>
 pureK (bop .plain .sub x35 (I 1)) fun x36 =>
 pureK (ias 2 (nth vs8 1) x36) fun x37 =>
 pureK (nilE x37) fun x38 =>
 pureK (fa 0 x38) fun x39 =>
 pureK (ld (some false) 1 H28 x39) fun x40 =>
 pureK (fa 1 (.ptr o26 0)) fun x41 =>
 heapK (st 1 H28 x41 x40) fun H42 =>
 pureK (nilE x37) fun x43 =>
 pureK (fa 1 x43) fun x44 =>
 pureK (ld (some false) 1 H42 x44) fun x45 =>
 pureK (bop .plain .sub x45 (I 1)) fun x46 =>
 pureK (nilE x37) fun x47 =>
 pureK (fa 1 x47) fun x48 =>
 heapK (st 1 H42 x48 x46) fun H49 =>
 (∃ H32 : Heap, H32 ≤ H49 ∧ J29 [nth vs8 0, nth vs8 1, nth vs8 2, nth vs8 5, .ptr o18 0, .ptr o26 0, nth vs8 3, nth vs8 4, nth vs8 5] H32)
 ) (
 (∃ H32 : Heap, H32 ≤ H28 ∧ J29 [nth vs8 0, nth vs8 1, nth vs8 2, nth vs8 5, .ptr o18 0, .ptr o26 0, nth vs8 3, nth vs8 4, nth vs8 5] H32)
 )
 ) ∧ ∀ vs30 H31, J29 vs30 H31 →
 pureK (ld (some true) 2 H31 (nth vs30 5)) fun x50 =>
 callK (E_plot_spots_1) (nth vs30 0) [nth vs30 3, x50] H31 fun x51 H52 =>
 pureK (unE .not x51) fun x53 =>
 condK x53 (
 ret1 H52 R (.tup [])
 ) (
 ∃ J54 : List AV → Heap → Prop, (
 pureK (fa 0 (nth vs30 4)) fun x58 =>
 pureK (ld (some false) 1 H52 x58) fun x59 =>
 ACalls PP gΓ row_Arity [x59] H52 fun x60 H61 =>
 pureK (bop .plain .gtr x60 (I 0)) fun x62 =>
 condK x62 (
 pureK (bld [(0, 1), (1, 1)] [.sc (.int .i64 0), .sc (.int .i64 0)] [(0, nth vs30 3), (1, x60)]) fun x63 =>
 pureK (bsl 2 (.agg [.sc (.int .i64 0), .sc (.int .i64 0)]) 1 [(0, x63)]) fun x64 =>
 appK 2 (nth vs30 1) x64 H61 fun x65 H66 =>
 (∃ H57 : Heap, H57 ≤ H66 ∧ J54 [nth vs30 0, x65, nth vs30 2, nth vs30 4, nth vs30 6, nth vs30 7, nth vs30 8] H57)
 ) (
 pureK (bop .plain .add (nth vs30 2) (I 1)) fun x67 =>
 (∃ H57 : Heap, H57 ≤ H61 ∧ J54 [nth vs30 0, nth vs30 1, x67, nth vs30 4, nth vs30 6, nth vs30 7, nth vs30 8] H57)
 )
 ) ∧ ∀ vs55 H56, J54 vs55 H56 →
 ∃ J68 : List AV → Heap → Nat → Prop, (∃ (n74 : Nat) (H75 : Heap), H75 ≤ H56 ∧ J68 [nth vs55 0, nth vs55 1, nth vs55 2, nth vs55 3, nth vs55 4, nth vs55 5, nth vs55 6] H75 n74) ∧ ∀ (vs69 : List AV) (H70 : Heap) (n71 : Nat), J68 vs69 H70 n71 →
 pureK (lnl (nth vs69 1)) fun x76 =>
 pureK (bop .plain .gtr x76 (I 0)) fun x77 =>
 condK x77 (
 pureK (lnl (nth vs69 1)) fun x78 =>
 pureK (bop .plain .sub x78 (I 1)) fun x79 =>
 pureK (ias 2 (nth vs69 1) x79) fun x80 =>
 pureK (fa 1 x80) fun x81 =>
 pureK (ld (some false) 1 H70 x81) fun x82 =>
 pureK (bop .plain .eql x82 (I 0)) fun x83 =>
 condK x83 (
 pureK (fa 0 (nth vs69 3)) fun x84 =>
 pureK (ld (some false) 1 H70 x84) fun x85 =>
 ACalls PP gΓ row_Arity [x85] H70 fun x86 H87 =>
 pureK (bop .plain .eql x86 (I 0)) fun x88 =>
 condK x88 (
 pureK (lnl (nth vs69 1)) fun x89 =>
 pureK (bop .plain .sub x89 (I 1)) fun x90 =>
 pureK (sll 2 (nth vs69 1) none (some x90) none) fun x91 =>
 (∃ (n72 : Nat) (H73 : Heap), n72 < n71 ∧ H73 ≤ H87 ∧ J68 [nth vs69 0, x91, nth vs69 2, nth vs69 3, nth vs69 4, nth vs69 5, nth vs69 6] H73 n72)
 ) (
 pureK (bop .plain .add (nth vs69 6) (I 1)) fun x92 =>
 (∃ (n11 : Nat) (H12 : Heap), n11 < n10 ∧ H12 ≤ H87 ∧ J7 [nth vs69 0, nth vs69 1, nth vs69 2, nth vs69 4, nth vs69 5, x92] H12 n11)
 )
 ) (
 pureK (bop .plain .add (nth vs69 6) (I 1)) fun x93 =>
 (∃ (n11 : Nat) (H12 : Heap), n11 < n10 ∧ H12 ≤ H70 ∧ J7 [nth vs69 0, nth vs69 1, nth vs69 2, nth vs69 4, nth vs69 5, x93] H12 n11)
 )
 ) (
 pureK (bop .plain .add (nth vs69 6) (I 1)) fun x94 =>
 (∃ (n11 : Nat) (H12 : Heap), n11 < n10 ∧ H12 ≤ H70 ∧ J7 [nth vs69 0, nth vs69 1, nth vs69 2, nth vs69 4, nth vs69 5, x94] H12 n11)
 )
 )
 ) (
 ret1 H9 R (.tup [])
 )
 )
theorem plot_spots_1_of {a0 a1 : AV} {H : Heap} {R : RR} (h : W_plot_spots_1 a0 a1 H R) : ACalls PP gΓ plot_spots_1 [a0, a1] H R :=
 ACalls.of_K (E := E_plot_spots_1) follows_PP Tryz.func150 (c := C_plot_spots_1) (by kernel_rfl) Tryz.ntmps150 (by kernel_rfl) h

noncomputable abbrev E_plot_one : Env := mkE 13 (fun _ => none)
noncomputable def C_plot_one : Code := Tryz.f151.body.getD .skip
def W_plot_one (a0 : AV) (H : Heap) (R : RR) : Prop :=
 pureK (lnl a0) fun x1 =>
 pureK (bop .plain .gtr x1 (I 0)) fun x2 =>
 condK x2 (
 ACalls PP gΓ row_Size [a0] H fun x3 H4 =>
 pureK (lnl a0) fun x5 =>
 pureK (bop .plain .eql x3 x5) fun x6 =>
 ret1 H4 R x6
 ) (
 ret1 H R (B false)
 )
theorem plot_one_of {a0 : AV} {H : Heap} {R : RR} (h : W_plot_one a0 H R) : ACalls PP gΓ plot_one [a0] H R :=
 ACalls.of_K (E := E_plot_one) follows_PP Tryz.func151 (c := C_plot_one) (by kernel_rfl) Tryz.ntmps151 (by kernel_rfl) h

def L_slices_IndexFunc_Node : Nat → Option (List Nat) := fun k => bif Nat.beq k 1002 then some [0, 1, 7, 8] else none
noncomputable abbrev E_slices_IndexFunc_Node : Env := mkE 19 (L_slices_IndexFunc_Node)
noncomputable def C_slices_IndexFunc_Node : Code := Tryz.f152.body.getD .skip
def W_slices_IndexFunc_Node (a0 a1 : AV) (H : Heap) (R : RR) : Prop :=
 pureK (lnl a0) fun x1 =>
 ∃ J2 : List AV → Heap → Nat → Prop, (∃ (n8 : Nat) (H9 : Heap), H9 ≤ H ∧ J2 [a0, a1, x1, I 0] H9 n8) ∧ ∀ (vs3 : List AV) (H4 : Heap) (n5 : Nat), J2 vs3 H4 n5 →
 pureK (bop .plain .lss (nth vs3 3) (nth vs3 2)) fun x10 =>
 condK x10 (
 pureK (ias 3 (nth vs3 0) (nth vs3 3)) fun x11 =>
 pureK (ld (some true) 3 H4 x11) fun x12 =>
 callK (E_slices_IndexFunc_Node) (nth vs3 1) [x12] H4 fun x13 H14 =>
 condK x13 (
 ret1 H14 R (nth vs3 3)
 ) (
 pureK (bop .plain .add (nth vs3 3) (I 1)) fun x15 =>
 (∃ (n6 : Nat) (H7 : Heap), n6 < n5 ∧ H7 ≤ H14 ∧ J2 [nth vs3 0, nth vs3 1, nth vs3 2, x15] H7 n6)
 )
 ) (
 ret1 H4 R (I (-1))
 )
theorem slices_IndexFunc_Node_of {a0 a1 : AV} {H : Heap} {R : RR} (h : W_slices_IndexFunc_Node a0 a1 H R) : ACalls PP gΓ slices_IndexFunc_Node [a0, a1] H R :=
 ACalls.of_K (E := E_slices_IndexFunc_Node) follows_PP Tryz.func152 (c := C_slices_IndexFunc_Node) (by kernel_rfl) Tryz.ntmps152 (by kernel_rfl) h

def L_strings_makeASCIISet : Nat → Option (List Nat) := fun k => bif Nat.beq k 1002 then some [0, 2, 4] else none
noncomputable abbrev E_strings_makeASCIISet : Env := mkE 21 (L_strings_makeASCIISet)
noncomputable def C_strings_makeASCIISet : Code := Tryz.f155.body.getD .skip
def W_strings_makeASCIISet (a0 : AV) (H : Heap) (R : RR) : Prop :=
 allocP (List.replicate 256 (B false)) H fun o1 H2 =>
 ∃ J3 : List AV → Heap → Nat → Prop, (∃ (n9 : Nat) (H10 : Heap), H10 ≤ H2 ∧ J3 [a0, .ptr o1 0, I 0] H10 n9) ∧ ∀ (vs4 : List AV) (H5 : Heap) (n6 : Nat), J3 vs4 H5 n6 →
 pureK (lns (nth vs4 0)) fun x11 =>
 pureK (bop .plain .lss (nth vs4 2) x11) fun x12 =>
 condK x12 (
 pureK (ixs (nth vs4 0) (nth vs4 2)) fun x13 =>
 pureK (bop .plain .geq x13 (.sc (.int .u8 128))) fun x14 =>
 condK x14 (
 pureK (ld (some true) 256 H5 (nth vs4 1)) fun x15 =>
 heapK (st 256 H5 (nth vs4 1) x15) fun H16 =>
 pureK (ld (some true) 256 H16 (nth vs4 1)) fun x17 =>
 ret1 H16 R (.tup [x17, B false])
 ) (
 pureK (iaa 256 1 (nth vs4 1) x13) fun x18 =>
 heapK (st 1 H5 x18 (B true)) fun H19 =>
 pureK (bop .plain .add (nth vs4 2) (I 1)) fun x20 =>
 (∃ (n7 : Nat) (H8 : Heap), n7 < n6 ∧ H8 ≤ H19 ∧ J3 [nth vs4 0, nth vs4 1, x20] H8 n7)
 )
 ) (
 pureK (ld (some true) 256 H5 (nth vs4 1)) fun x21 =>
 heapK (st 256 H5 (nth vs4 1) x21) fun H22 =>
 pureK (ld (some true) 256 H22 (nth vs4 1)) fun x23 =>
 ret1 H22 R (.tup [x23, B true])
 )
theorem strings_makeASCIISet_of {a0 : AV} {H : Heap} {R : RR} (h : W_strings_makeASCIISet a0 H R) : ACalls PP gΓ strings_makeASCIISet [a0] H R :=
 ACalls.of_K (E := E_strings_makeASCIISet) follows_PP Tryz.func155 (c := C_strings_makeASCIISet) (by kernel_rfl) Tryz.ntmps155 (by kernel_rfl) h

def L_strings_trimLeftASCII : Nat → Option (List Nat) := fun k => bif Nat.beq k 1001 then some [0, 1] else none
noncomputable abbrev E_strings_trimLeftASCII : Env := mkE 16 (L_strings_trimLeftASCII)
noncomputable def C_strings_trimLeftASCII : Code := Tryz.f156.body.getD .skip
def W_strings_trimLeftASCII (a0 a1 : AV) (H : Heap) (R : RR) : Prop :=
 ∃ J1 : List AV → Heap → Nat → Prop, (∃ (n7 : Nat) (H8 : Heap), H8 ≤ H ∧ J1 [a0, a1] H8 n7) ∧ ∀ (vs2 : List AV) (H3 : Heap) (n4 : Nat), J1 vs2 H3 n4 →
 pureK (lns (nth vs2 0)) fun x9 =>
 pureK (bop .plain .gtr x9 (I 0)) fun x10 =>
 condK x10 (
 pureK (ixs (nth vs2 0) (I 0)) fun x11 =>
 ACalls PP gΓ strings_asciiSet_contains [nth vs2 1, x11] H3 fun x12 H13 =>
 pureK (unE .not x12) fun x14 =>
 condK x14 (
 ret1 H13 R (nth vs2 0)
 ) (
 pureK (sls (nth vs2 0) (some (I 1)) none none) fun x15 =>
 (∃ (n5 : Nat) (H6 : Heap), n5 < n4 ∧ H6 ≤ H13 ∧ J1 [x15, nth vs2 1] H6 n5)
 )
 ) (
 ret1 H3 R (nth vs2 0)
 )
theorem strings_trimLeftASCII_of {a0 a1 : AV} {H : Heap} {R : RR} (h : W_strings_trimLeftASCII a0 a1 H R) : ACalls PP gΓ strings_trimLeftASCII [a0, a1] H R :=
 ACalls.of_K (E := E_strings_trimLeftASCII) follows_PP Tryz.func156 (c := C_strings_trimLeftASCII) (by kernel_rfl) Tryz.ntmps156 (by kernel_rfl) h

def L_strings_trimRightASCII : Nat → Option (List Nat) := fun k => bif Nat.beq k 1001 then some [0, 1] else none
noncomputable abbrev E_strings_trimRightASCII : Env := mkE 22 (L_strings_trimRightASCII)
noncomputable def C_strings_trimRightASCII : Code := Tryz.f157.body.getD .skip
def W_strings_trimRightASCII (a0 a1 : AV) (H : Heap) (R : RR) : Prop :=
 ∃ J1 : List AV → Heap → Nat → Prop, (∃ (n7 : Nat) (H8 : Heap), H8 ≤ H ∧ J1 [a0, a1] H8 n7) ∧ ∀ (vs2 : List AV) (H3 : Heap) (n4 : Nat), J1 vs2 H3 n4 →
 pureK (lns (nth vs2 0)) fun x9 =>
 pureK (bop .plain .gtr x9 (I 0)) fun x10 =>
 condK x10 (
 pureK (lns (nth vs2 0)) fun x11 =>
 pureK (bop .plain .sub x11 (I 1)) fun x12 =>
 pureK (ixs (nth vs2 0) x12) fun x13 =>
 ACalls PP gΓ strings_asciiSet_contains [nth vs2 1, x13] H3 fun x14 H15 =>
 pureK (unE .not x14) fun x16 =>
 condK x16 (
 ret1 H15 R (nth vs2 0)
 ) (
 pureK (lns (nth vs2 0)) fun x17 =>
 pureK (bop .plain .sub x17 (I 1)) fun x18 =>
 pureK (sls (nth vs2 0) none (some x18) none) fun x19 =>
 (∃ (n5 : Nat) (H6 : Heap), n5 < n4 ∧ H6 ≤ H15 ∧ J1 [x19, nth vs2 1] H6 n5)
 )
 ) (
 ret1 H3 R (nth vs2 0)
 )
theorem strings_trimRightASCII_of {a0 a1 : AV} {H : Heap} {R : RR} (h : W_strings_trimRightASCII a0 a1 H R) : ACalls PP gΓ strings_trimRightASCII [a0, a1] H R :=
 ACalls.of_K (E := E_strings_trimRightASCII) follows_PP Tryz.func157 (c := C_strings_trimRightASCII) (by kernel_rfl) Tryz.ntmps157 (by kernel_rfl) h

def L_slices_Index_string : Nat → Option (List Nat) := fun k => bif Nat.beq k 1002 then some [0, 1, 7, 8] else none
noncomputable abbrev E_slices_Index_string : Env := mkE 19 (L_slices_Index_string)
noncomputable def C_slices_Index_string : Code := Tryz.f160.body.getD .skip
def W_slices_Index_string (a0 a1 : AV) (H : Heap) (R : RR) : Prop :=
 pureK (lnl a0) fun x1 =>
 ∃ J2 : List AV → Heap → Nat → Prop, (∃ (n8 : Nat) (H9 : Heap), H9 ≤ H ∧ J2 [a0, a1, x1, I 0] H9 n8) ∧ ∀ (vs3 : List AV) (H4 : Heap) (n5 : Nat), J2 vs3 H4 n5 →
 pureK (bop .plain .lss (nth vs3 3) (nth vs3 2)) fun x10 =>
 condK x10 (
 pureK (ias 1 (nth vs3 0) (nth vs3 3)) fun x11 =>
 pureK (ld (some false) 1 H4 x11) fun x12 =>
 pureK (bop .plain .eql (nth vs3 1) x12) fun x13 =>
 condK x13 (
 ret1 H4 R (nth vs3 3)
 ) (
 pureK (bop .plain .add (nth vs3 3) (I 1)) fun x14 =>
 (∃ (n6 : Nat) (H7 : Heap), n6 < n5 ∧ H7 ≤ H4 ∧ J2 [nth vs3 0, nth vs3 1, nth vs3 2, x14] H7 n6)
 )
 ) (
 ret1 H4 R (I (-1))
 )
theorem slices_Index_string_of {a0 a1 : AV} {H : Heap} {R : RR} (h : W_slices_Index_string a0 a1 H R) : ACalls PP gΓ slices_Index_string [a0, a1] H R :=
 ACalls.of_K (E := E_slices_Index_string) follows_PP Tryz.func160 (c := C_slices_Index_string) (by kernel_rfl) Tryz.ntmps160 (by kernel_rfl) h

noncomputable abbrev E_strings_asciiSet_contains : Env := mkE 10 (fun _ => none)
noncomputable def C_strings_asciiSet_contains : Code := Tryz.f161.body.getD .skip
def W_strings_asciiSet_contains (a0 a1 : AV) (H : Heap) (R : RR) : Prop :=
 pureK (nilE a0) fun x1 =>
 pureK (iaa 256 1 x1 a1) fun x2 =>
 pureK (ld (some false) 1 H x2) fun x3 =>
 ret1 H R x3
theorem strings_asciiSet_contains_of {a0 a1 : AV} {H : Heap} {R : RR} (h : W_strings_asciiSet_contains a0 a1 H R) : ACalls PP gΓ strings_asciiSet_contains [a0, a1] H R :=
 ACalls.of_K (E := E_strings_asciiSet_contains) follows_PP Tryz.func161 (c := C_strings_asciiSet_contains) (by kernel_rfl) Tryz.ntmps161 (by kernel_rfl) h

end
end Go.Av
