/- Own text W0 of this claim: see the text that holds the theorem. -/
import Derived.Test.YtddolbhaekekaaaGreatDoorAv14
import Derived.Test.YtddolbhaekekaaaGreatDoorChecked
set_option linter.all false
-- by gen.py
namespace Go.Av
open Go Go.Proofs
set_option maxRecDepth 100000
noncomputable section
noncomputable abbrev PP : Program := Tryz.prog
theorem follows_PP : PP.follows .mixedOrders = true := by kernel_rfl
def emp : ByteArray := { data := #[] }
def s_ab : ByteArray := { data := #[97, 98] }
def s_c : ByteArray := { data := #[99] }
def s_abcdefghijklmnopqrstuvwxyz : ByteArray := { data := #[97, 98, 99, 100, 101, 102, 103, 104, 105, 106, 107, 108, 109, 110, 111, 112, 113, 114, 115, 116, 117, 118, 119, 120, 121, 122] }
def s_skip : ByteArray := { data := #[115, 107, 105, 112] }
def s_throw : ByteArray := { data := #[116, 104, 114, 111, 119] }
def s_yield : ByteArray := { data := #[121, 105, 101, 108, 100] }
def s_skipp : ByteArray := { data := #[115, 107, 105, 112, 112] }
def s_throww : ByteArray := { data := #[116, 104, 114, 111, 119, 119] }
def s_yieldd : ByteArray := { data := #[121, 105, 101, 108, 100, 100] }
def s_len_20out_20of_20range : ByteArray := { data := #[108, 101, 110, 32, 111, 117, 116, 32, 111, 102, 32, 114, 97, 110, 103, 101] }
def s_cannot_20be_20negative : ByteArray := { data := #[99, 97, 110, 110, 111, 116, 32, 98, 101, 32, 110, 101, 103, 97, 116, 105, 118, 101] }
/-- The words that are no names. -/
def words : List ByteArray := [{ data := #[115, 107, 105, 112] }, { data := #[116, 104, 114, 111, 119] }, { data := #[121, 105, 101, 108, 100] }, { data := #[115, 107, 105, 112, 112] }, { data := #[116, 104, 114, 111, 119, 119] }, { data := #[121, 105, 101, 108, 100, 100] }]
def g0 : AV := .cp (words.map fun w => S w) 0
def g1 : AV := .dead
def g2 : AV := .dead
def gΓ : Nat → Option AV := fun k => bif Nat.beq k 0 then some g0 else none
def main_main : Nat := 0
def gosem_cut : Nat := 1
def gosem_cut_init : Nat := 2
def law19_CodeEncodes : Nat := 3
def law19_CodeDecodes : Nat := 4
def law19_CodeRuns : Nat := 5
def law19_few : Nat := 6
def law19_alive : Nat := 7
def code_Encode : Nat := 8
def law19_New : Nat := 9
def ref19_Encode : Nat := 10
def ref16_Same : Nat := 11
def code_Right : Nat := 12
def ref19_Right : Nat := 13
def code_Decode : Nat := 14
def ref19_Decode : Nat := 15
def ref19_Same : Nat := 16
def law19_Old : Nat := 17
def settle_Begin : Nat := 18
def runs_Play : Nat := 19
def sort_Right : Nat := 20
def code_Long : Nat := 21
def ref03_Depth : Nat := 22
def code_Same : Nat := 23
def code_named : Nat := 24
def ref19_name : Nat := 25
def code_Right_1 : Nat := 26
def row_Right : Nat := 27
def code_Right_2 : Nat := 28
def sort_On : Nat := 29
def settle_Settled : Nat := 30
def slices_ContainsFunc_string : Nat := 31
def ref04_On : Nat := 32
def ref11_Settled : Nat := 33
def ref03_Right : Nat := 34
def ref19_in : Nat := 35
def code_reader_next : Nat := 36
def code_reader_name : Nat := 37
def bytes_Equal : Nat := 38
def ref19_at : Nat := 39
def ref19_node : Nat := 40
def ref19_named : Nat := 41
def ref03_Same : Nat := 42
def ref04_Texts : Nat := 43
def settle_Settle : Nat := 44
def slices_Clone_Node : Nat := 45
def move_Pick : Nat := 46
def step_Next : Nat := 47
def sort_Term : Nat := 48
def row_Depth : Nat := 49
def ref03_Walk : Nat := 50
def code_Same_1 : Nat := 51
def slices_Equal_string : Nat := 52
def row_Same : Nat := 53
def row_named : Nat := 54
def row_Arity : Nat := 55
def sort_on : Nat := 56
def sort_Of : Nat := 57
def slices_IndexFunc_string : Nat := 58
def ref04_Of : Nat := 59
def ref10_Settle : Nat := 60
def ref03_Arity : Nat := 61
def ref03_word : Nat := 62
def settle_settle : Nat := 63
def move_Enabled : Nat := 64
def move_Is : Nat := 65
def step_Put : Nat := 66
def step_made : Nat := 67
def row_Size : Nat := 68
def row_Kids : Nat := 69
def slices_Equal_Node : Nat := 70
def strings_Trim : Nat := 71
def slices_Contains_string : Nat := 72
def row_Whole : Nat := 73
def sort_sort : Nat := 74
def ref03_Whole : Nat := 75
def ref04_Is : Nat := 76
def ref10_Tree : Nat := 77
def settle_over : Nat := 78
def settle_behind : Nat := 79
def settle_stack : Nat := 80
def settle_Ended : Nat := 81
def row_Make : Nat := 82
def settle_end : Nat := 83
def settle_par : Nat := 84
def settle_block : Nat := 85
def move_ways : Nat := 86
def doom_Active : Nat := 87
def slices_Contains_Move : Nat := 88
def step_made_1 : Nat := 89
def step_leaf : Nat := 90
def strings_trimLeftByte : Nat := 91
def strings_trimRightByte : Nat := 92
def strings_makeASCIISet : Nat := 93
def strings_trimLeftASCII : Nat := 94
def strings_trimRightASCII : Nat := 95
def strings_trimLeftUnicode : Nat := 96
def strings_trimRightUnicode : Nat := 97
def slices_Index_string : Nat := 98
def row_Whole_1 : Nat := 99
def slices_ContainsFunc_Node : Nat := 100
def sort_both : Nat := 101
def sort_behind : Nat := 102
def ref03_Size : Nat := 103
def ref03_Kids : Nat := 104
def ref04_plain : Nat := 105
def ref04_paired : Nat := 106
def ref04_plainOn : Nat := 107
def ref04_pairedOn : Nat := 108
def ref10_over : Nat := 109
def ref10_first : Nat := 110
def ref10_par : Nat := 111
def ref10_block : Nat := 112
def slices_Concat_Node : Nat := 113
def sign_Both : Nat := 114
def move_always : Nat := 115
def doom_Free : Nat := 116
def doom_Active_1 : Nat := 117
def slices_ContainsFunc_int : Nat := 118
def plot_Over : Nat := 119
def doom_Active_1_1 : Nat := 120
def doom_kid : Nat := 121
def doom_goes : Nat := 122
def row_Count : Nat := 123
def slices_Index_Move : Nat := 124
def strings_asciiSet_contains : Nat := 125
def utf8_DecodeRuneInString : Nat := 126
def strings_ContainsRune : Nat := 127
def utf8_DecodeLastRuneInString : Nat := 128
def slices_IndexFunc_Node : Nat := 129
def ref10_node : Nat := 130
def ref10_end : Nat := 131
def ref03_Two : Nat := 132
def ref01_Both : Nat := 133
def ref03_One : Nat := 134
def slices_Grow_Node : Nat := 135
def sign_Is : Nat := 136
def doom_beside : Nat := 137
def slices_ContainsFunc_Node_2 : Nat := 138
def doom_Doomed : Nat := 139
def slices_IndexFunc_int : Nat := 140
def plot_spots : Nat := 141
def slices_Contains_int : Nat := 142
def utf8_decodeRuneInStringSlow : Nat := 143
def strings_IndexRune : Nat := 144
def utf8_RuneStart : Nat := 145
def ref01_Is : Nat := 146
def slices_Reverse_int : Nat := 147
def slices_IndexFunc_Node_2 : Nat := 148
def doom_doomed : Nat := 149
def plot_spots_1 : Nat := 150
def plot_one : Nat := 151
def slices_Index_int : Nat := 152
def strings_IndexByte : Nat := 153
def utf8_ValidRune : Nat := 154
def bytealg_Cutover : Nat := 155
def bytealg_IndexString : Nat := 156
def stringslite_IndexByte : Nat := 157
def bytealg_IndexByteString : Nat := 158
def runtime_boundsError_Error : Nat := 159
def runtime_boundsError_RuntimeError : Nat := 160
def runtime_errorString_Error : Nat := 161
def runtime_errorString_RuntimeError : Nat := 162
def runtime_plainError_Error : Nat := 163
def runtime_plainError_RuntimeError : Nat := 164
def runtime_errorAddressString_Error : Nat := 165
def runtime_errorAddressString_RuntimeError : Nat := 166
def runtime_TypeAssertionError_Error : Nat := 167
def runtime_TypeAssertionError_RuntimeError : Nat := 168
def runtime_PanicNilError_Error : Nat := 169
def runtime_PanicNilError_RuntimeError : Nat := 170
def abi_Type_Align : Nat := 171
def maps_unhashableTypeError_Error : Nat := 172
def maps_unhashableTypeError_RuntimeError : Nat := 173
def abi_Kind_String : Nat := 174
def var_s_door_gosem_cut_vars_holds_initialisers_alone_see_the_manifest_s_row_cutvarsword_look_11_test_files_too_ : Nat := 175
def row_words_is_laid_by_its_own_initialiser_plain_data_by_the_wider_look_data_2_ : Nat := 176
def row_words_was_passed_by_the_deep_look_deep_1_ : Nat := 177
def var_s_door_the_look_of_gosem_cut_vars_went_over_the_folder_that_the_caller_named_as_the_repository_s_root_look_11_ : Nat := 178
def utf8_acceptRanges_is_laid_by_its_own_initialiser_plain_data_look_11_ : Nat := 179
def utf8_first_is_laid_by_its_text_alone_pinned_1_ : Nat := 180
def gosem_cut_vars : Nat := 181

noncomputable def L_law19_CodeEncodes : Nat → Option (List Nat) := fun k => none
noncomputable abbrev E_law19_CodeEncodes : Env := ⟨PP, gΓ, 41, L_law19_CodeEncodes, fun _ => false⟩
noncomputable def C_law19_CodeEncodes : Code := Tryz.f3.body.getD .skip
def W_law19_CodeEncodes (a0 : AV) (H : Heap) (R : AV → Heap → Prop) : Prop :=
 allocK (some (AV.cells a0)) H fun p1 H2 =>
 pureK (ld (some true) 5 H2 p1) fun x3 =>
 ACalls PP gΓ law19_few [x3] H2 fun x4 H5 =>
 pureK (unE .not x4) fun x6 =>
 condK x6 (
  ACalls PP gΓ law19_alive [] H5 fun x7 H8 =>
  ret1 H8 R x7
 ) (
  pureK (ld (some true) 5 H5 p1) fun x9 =>
  ACalls PP gΓ law19_New [x9] H5 fun x10 H11 =>
  ACalls PP gΓ code_Encode [x10] H11 fun x12 H13 =>
  pureK (extractE x12 0) fun x14 =>
  pureK (extractE x12 1) fun x15 =>
  pureK (ld (some true) 5 H13 p1) fun x16 =>
  ACalls PP gΓ ref19_Encode [x16] H13 fun x17 H18 =>
  pureK (extractE x17 0) fun x19 =>
  pureK (extractE x17 1) fun x20 =>
  ∃ x21, AReads PP gΓ law19_alive [] H18 x21 ∧
  condK x21 (
   ∃ x22, AReads PP gΓ ref16_Same [x14, x19] H18 x22 ∧
   condK x22 (
    pureK (bop .bool .eql x15 x20) fun x23 =>
    condK x23 (
     pureK (ld (some true) 5 H18 p1) fun x24 =>
     ∃ x25, AReads PP gΓ law19_New [x24] H18 x25 ∧
     ∃ x26, AReads PP gΓ code_Right [x25] H18 x26 ∧
     pureK (ld (some true) 5 H18 p1) fun x27 =>
     ACalls PP gΓ ref19_Right [x27] H18 fun x28 H29 =>
     pureK (bop .bool .eql x26 x28) fun x30 =>
     ret1 H29 R x30
    ) (
     ret1 H18 R (B false)
    )
   ) (
    ret1 H18 R (B false)
   )
  ) (
   ret1 H18 R (B false)
  )
 )
theorem K_law19_CodeEncodes (a0 : AV) (H : Heap) (R : AV → Heap → Prop) : awp E_law19_CodeEncodes (drawK E_law19_CodeEncodes) C_law19_CodeEncodes (fun j => List.getD [a0] j .dead) H (retK PP Tryz.f3.results.toList R) = W_law19_CodeEncodes a0 H R := by kernel_rfl
theorem law19_CodeEncodes_of {a0 : AV} {H : Heap} {R : AV → Heap → Prop} (h : W_law19_CodeEncodes a0 H R) : ACalls PP gΓ law19_CodeEncodes [a0] H R :=
  ACalls.of_awp (E := E_law19_CodeEncodes) follows_PP Tryz.func3 (c := C_law19_CodeEncodes) (by kernel_rfl) Tryz.ntmps3 ((K_law19_CodeEncodes a0 H R) ▸ h)

noncomputable def L_law19_CodeDecodes : Nat → Option (List Nat) := fun k => none
noncomputable abbrev E_law19_CodeDecodes : Env := ⟨PP, gΓ, 33, L_law19_CodeDecodes, fun _ => false⟩
noncomputable def C_law19_CodeDecodes : Code := Tryz.f4.body.getD .skip
def W_law19_CodeDecodes (a0 : AV) (H : Heap) (R : AV → Heap → Prop) : Prop :=
 pureK (lnl a0) fun x1 =>
 pureK (bop .plain .gtr x1 (I 3000)) fun x2 =>
 condK x2 (
  ACalls PP gΓ law19_alive [] H fun x3 H4 =>
  ret1 H4 R x3
 ) (
  ACalls PP gΓ code_Decode [a0] H fun x5 H6 =>
  pureK (extractE x5 0) fun x7 =>
  pureK (extractE x5 1) fun x8 =>
  allocP [.lst 0 [] .exact, .sc (.int .i64 0), .sc (.int .i64 0), .sc (.int .i64 0), .lst 0 [] .exact] H6 fun o9 H10 =>
  heapK (st 5 H10 (.ptr o9 0) x7) fun H11 =>
  ACalls PP gΓ ref19_Decode [a0] H11 fun x12 H13 =>
  pureK (extractE x12 0) fun x14 =>
  pureK (extractE x12 1) fun x15 =>
  allocP [.lst 0 [] .exact, .sc (.int .i64 0), .sc (.int .i64 0), .sc (.int .i64 0), .lst 0 [] .exact] H13 fun o16 H17 =>
  heapK (st 5 H17 (.ptr o16 0) x14) fun H18 =>
  ∃ x19, AReads PP gΓ law19_alive [] H18 x19 ∧
  condK x19 (
   pureK (ld (some true) 5 H18 (.ptr o9 0)) fun x20 =>
   ∃ x21, AReads PP gΓ law19_Old [x20] H18 x21 ∧
   pureK (ld (some true) 5 H18 (.ptr o16 0)) fun x22 =>
   ∃ x23, AReads PP gΓ ref19_Same [x21, x22] H18 x23 ∧
   condK x23 (
    pureK (bop .plain .eql x8 x15) fun x24 =>
    ret1 H18 R x24
   ) (
    ret1 H18 R (B false)
   )
  ) (
   ret1 H18 R (B false)
  )
 )
theorem K_law19_CodeDecodes (a0 : AV) (H : Heap) (R : AV → Heap → Prop) : awp E_law19_CodeDecodes (drawK E_law19_CodeDecodes) C_law19_CodeDecodes (fun j => List.getD [a0] j .dead) H (retK PP Tryz.f4.results.toList R) = W_law19_CodeDecodes a0 H R := by kernel_rfl
theorem law19_CodeDecodes_of {a0 : AV} {H : Heap} {R : AV → Heap → Prop} (h : W_law19_CodeDecodes a0 H R) : ACalls PP gΓ law19_CodeDecodes [a0] H R :=
  ACalls.of_awp (E := E_law19_CodeDecodes) follows_PP Tryz.func4 (c := C_law19_CodeDecodes) (by kernel_rfl) Tryz.ntmps4 ((K_law19_CodeDecodes a0 H R) ▸ h)

noncomputable def L_law19_few : Nat → Option (List Nat) := fun k => bif Nat.beq k 1003 then some [1, 3, 7, 8, 9] else none
noncomputable abbrev E_law19_few : Env := ⟨PP, gΓ, 38, L_law19_few, fun _ => false⟩
noncomputable def C_law19_few : Code := Tryz.f6.body.getD .skip
def W_law19_few (a0 : AV) (H : Heap) (R : AV → Heap → Prop) : Prop :=
 allocK (some (AV.cells a0)) H fun p1 H2 =>
 pureK (fa 4 p1) fun x3 =>
 pureK (ld (some false) 1 H2 x3) fun x4 =>
 pureK (lnl x4) fun x5 =>
 ∃ J6 : List AV → Heap → Nat → Prop, (∃ (n12 : Nat) (H13 : Heap), H13 ≤ H2 ∧ J6 [p1, I 0, x4, x5, I 0] H13 n12) ∧ ∀ (vs7 : List AV) (H8 : Heap) (n9 : Nat), J6 vs7 H8 n9 →
 pureK (bop .plain .lss (nth vs7 4) (nth vs7 3)) fun x14 =>
 condK x14 (
  pureK (ias 1 (nth vs7 2) (nth vs7 4)) fun x15 =>
  pureK (ld (some false) 1 H8 x15) fun x16 =>
  pureK (lns x16) fun x17 =>
  pureK (bop .plain .add (nth vs7 1) x17) fun x18 =>
  pureK (bop .plain .add (nth vs7 4) (I 1)) fun x19 =>
  (∃ (n10 : Nat) (H11 : Heap), n10 < n9 ∧ H11 ≤ H8 ∧ J6 [nth vs7 0, x18, nth vs7 2, nth vs7 3, x19] H11 n10)
 ) (
  pureK (fa 0 (nth vs7 0)) fun x20 =>
  pureK (ld (some false) 1 H8 x20) fun x21 =>
  pureK (lnl x21) fun x22 =>
  pureK (bop .plain .leq x22 (I 100)) fun x23 =>
  condK x23 (
   pureK (fa 0 (nth vs7 0)) fun x24 =>
   pureK (ld (some false) 1 H8 x24) fun x25 =>
   ACalls PP gΓ ref03_Depth [x25] H8 fun x26 H27 =>
   pureK (bop .plain .leq x26 (I 24)) fun x28 =>
   condK x28 (
    pureK (fa 4 (nth vs7 0)) fun x29 =>
    pureK (ld (some false) 1 H27 x29) fun x30 =>
    pureK (lnl x30) fun x31 =>
    pureK (bop .plain .leq x31 (I 70)) fun x32 =>
    condK x32 (
     pureK (bop .plain .leq (nth vs7 1) (I 1000)) fun x33 =>
     ret1 H27 R x33
    ) (
     ret1 H27 R (B false)
    )
   ) (
    ret1 H27 R (B false)
   )
  ) (
   ret1 H8 R (B false)
  )
 )
theorem K_law19_few (a0 : AV) (H : Heap) (R : AV → Heap → Prop) : awp E_law19_few (drawK E_law19_few) C_law19_few (fun j => List.getD [a0] j .dead) H (retK PP Tryz.f6.results.toList R) = W_law19_few a0 H R := by kernel_rfl
theorem law19_few_of {a0 : AV} {H : Heap} {R : AV → Heap → Prop} (h : W_law19_few a0 H R) : ACalls PP gΓ law19_few [a0] H R :=
  ACalls.of_awp (E := E_law19_few) follows_PP Tryz.func6 (c := C_law19_few) (by kernel_rfl) Tryz.ntmps6 ((K_law19_few a0 H R) ▸ h)

noncomputable def L_law19_alive : Nat → Option (List Nat) := fun k => none
noncomputable abbrev E_law19_alive : Env := ⟨PP, gΓ, 74, L_law19_alive, fun _ => false⟩
noncomputable def C_law19_alive : Code := Tryz.f7.body.getD .skip
def W_law19_alive (H : Heap) (R : AV → Heap → Prop) : Prop :=
 pureK (bld [(0, 1), (1, 1), (2, 1)] [.sc (.int .i64 0), S emp, .sc (.int .i64 0)] [(0, I 1), (1, S s_ab)]) fun x1 =>
 pureK (bsl 3 (.agg [.sc (.int .i64 0), S emp, .sc (.int .i64 0)]) 1 [(0, x1)]) fun x2 =>
 pureK (bld [(0, 1), (1, 1)] [.sc (.int .i64 0), .sc (.int .i64 0)] [(1, I 1)]) fun x3 =>
 pureK (bsl 1 (S emp) 1 [(0, S s_c)]) fun x4 =>
 pureK (bld [(0, 1), (1, 2), (3, 1), (4, 1)] [.lst 0 [] .exact, .sc (.int .i64 0), .sc (.int .i64 0), .sc (.int .i64 0), .lst 0 [] .exact] [(0, x2), (1, x3), (2, I 1), (3, x4)]) fun x5 =>
 allocP [.lst 0 [] .exact, .sc (.int .i64 0), .sc (.int .i64 0), .sc (.int .i64 0), .lst 0 [] .exact] H fun o6 H7 =>
 heapK (st 5 H7 (.ptr o6 0) x5) fun H8 =>
 pureK (ld (some true) 5 H8 (.ptr o6 0)) fun x9 =>
 ACalls PP gΓ code_Encode [x9] H8 fun x10 H11 =>
 pureK (extractE x10 0) fun x12 =>
 pureK (extractE x10 1) fun x13 =>
 ACalls PP gΓ code_Decode [x12] H11 fun x14 H15 =>
 pureK (extractE x14 0) fun x16 =>
 pureK (extractE x14 1) fun x17 =>
 allocP [.lst 0 [] .exact, .sc (.int .i64 0), .sc (.int .i64 0), .sc (.int .i64 0), .lst 0 [] .exact] H15 fun o18 H19 =>
 heapK (st 5 H19 (.ptr o18 0) x16) fun H20 =>
 pureK (bld [(0, 1), (1, 2), (3, 1), (4, 1)] [.lst 0 [] .exact, .sc (.int .i64 0), .sc (.int .i64 0), .sc (.int .i64 0), .lst 0 [] .exact] []) fun x21 =>
 ACalls PP gΓ code_Encode [x21] H20 fun x22 H23 =>
 pureK (extractE x22 0) fun x24 =>
 pureK (extractE x22 1) fun x25 =>
 pureK (bsl 1 (.sc (.int .u8 0)) 1 [(0, .sc (.int .u8 0))]) fun x26 =>
 appK 1 x12 x26 H23 fun x27 H28 =>
 ACalls PP gΓ code_Decode [x27] H28 fun x29 H30 =>
 pureK (extractE x29 0) fun x31 =>
 pureK (extractE x29 1) fun x32 =>
 allocP [.lst 0 [] .exact, .sc (.int .i64 0), .sc (.int .i64 0), .sc (.int .i64 0), .lst 0 [] .exact] H30 fun o33 H34 =>
 heapK (st 5 H34 (.ptr o33 0) x31) fun H35 =>
 pureK (bsl 1 (.sc (.int .u8 0)) 11 [(0, .sc (.int .u8 1)), (1, .sc (.int .u8 1)), (2, .sc (.int .u8 2)), (3, .sc (.int .u8 97)), (4, .sc (.int .u8 98)), (5, .sc (.int .u8 0)), (6, .sc (.int .u8 1)), (7, .sc (.int .u8 1)), (8, .sc (.int .u8 1)), (9, .sc (.int .u8 1)), (10, .sc (.int .u8 99))]) fun x36 =>
 ACalls PP gΓ ref16_Same [x12, x36] H35 fun x37 H38 =>
 condK x37 (
  condK x13 (
   pureK (ld (some true) 5 H38 (.ptr o6 0)) fun x39 =>
   pureK (ld (some true) 5 H38 (.ptr o18 0)) fun x40 =>
   ACalls PP gΓ code_Same [x39, x40] H38 fun x41 H42 =>
   condK x41 (
    pureK (bop .plain .eql x17 (I 0)) fun x43 =>
    condK x43 (
     pureK (unE .not x25) fun x44 =>
     condK x44 (
      pureK (bop .plain .eql x32 (I 190)) fun x45 =>
      condK x45 (
       pureK (ld (some true) 5 H42 (.ptr o6 0)) fun x46 =>
       ACalls PP gΓ code_Right [x46] H42 fun x47 H48 =>
       condK x47 (
        ACalls PP gΓ code_Long [I 2] H48 fun x49 H50 =>
        pureK (bop .plain .eql x49 (I 43)) fun x51 =>
        condK x51 (
         pureK (ld (some true) 5 H50 (.ptr o6 0)) fun x52 =>
         pureK (bld [(0, 1), (1, 2), (3, 1), (4, 1)] [.lst 0 [] .exact, .sc (.int .i64 0), .sc (.int .i64 0), .sc (.int .i64 0), .lst 0 [] .exact] []) fun x53 =>
         ACalls PP gΓ code_Same [x52, x53] H50 fun x54 H55 =>
         pureK (unE .not x54) fun x56 =>
         ret1 H55 R x56
        ) (
         ret1 H50 R (B false)
        )
       ) (
        ret1 H48 R (B false)
       )
      ) (
       ret1 H42 R (B false)
      )
     ) (
      ret1 H42 R (B false)
     )
    ) (
     ret1 H42 R (B false)
    )
   ) (
    ret1 H42 R (B false)
   )
  ) (
   ret1 H38 R (B false)
  )
 ) (
  ret1 H38 R (B false)
 )
theorem K_law19_alive (H : Heap) (R : AV → Heap → Prop) : awp E_law19_alive (drawK E_law19_alive) C_law19_alive (fun j => List.getD [] j .dead) H (retK PP Tryz.f7.results.toList R) = W_law19_alive  H R := by kernel_rfl
theorem law19_alive_of {H : Heap} {R : AV → Heap → Prop} (h : W_law19_alive  H R) : ACalls PP gΓ law19_alive [] H R :=
  ACalls.of_awp (E := E_law19_alive) follows_PP Tryz.func7 (c := C_law19_alive) (by kernel_rfl) Tryz.ntmps7 ((K_law19_alive  H R) ▸ h)

noncomputable def L_code_Encode : Nat → Option (List Nat) := fun k => bif Nat.beq k 1005 then some [1, 4, 18, 19, 20] else bif Nat.beq k 1017 then some [4, 67, 68, 69] else none
noncomputable abbrev E_code_Encode : Env := ⟨PP, gΓ, 78, L_code_Encode, fun _ => false⟩
noncomputable def C_code_Encode : Code := Tryz.f8.body.getD .skip
def W_code_Encode (a0 : AV) (H : Heap) (R : AV → Heap → Prop) : Prop :=
 allocK (some (AV.cells a0)) H fun p1 H2 =>
 pureK (ld (some true) 5 H2 p1) fun x3 =>
 ACalls PP gΓ code_Right [x3] H2 fun x4 H5 =>
 pureK (unE .not x4) fun x6 =>
 condK x6 (
  ret1 H5 R (.tup [.lst 0 [] .exact, B false])
 ) (
  pureK (fa 0 p1) fun x7 =>
  pureK (ld (some false) 1 H5 x7) fun x8 =>
  pureK (lnl x8) fun x9 =>
  pureK (cv (.toInt .u8) x9) fun x10 =>
  pureK (bsl 1 (.sc (.int .u8 0)) 1 [(0, x10)]) fun x11 =>
  pureK (fa 0 p1) fun x12 =>
  pureK (ld (some false) 1 H5 x12) fun x13 =>
  pureK (lnl x13) fun x14 =>
  ∃ J15 : List AV → Heap → Nat → Prop, (∃ (n21 : Nat) (H22 : Heap), H22 ≤ H5 ∧ J15 [p1, x11, x13, x14, I 0] H22 n21) ∧ ∀ (vs16 : List AV) (H17 : Heap) (n18 : Nat), J15 vs16 H17 n18 →
  pureK (bop .plain .lss (nth vs16 4) (nth vs16 3)) fun x23 =>
  condK x23 (
   pureK (ias 3 (nth vs16 2) (nth vs16 4)) fun x24 =>
   pureK (ld (some true) 3 H17 x24) fun x25 =>
   allocP [.sc (.int .i64 0), S emp, .sc (.int .i64 0)] H17 fun o26 H27 =>
   heapK (st 3 H27 (.ptr o26 0) x25) fun H28 =>
   pureK (fa 0 (.ptr o26 0)) fun x29 =>
   pureK (ld (some false) 1 H28 x29) fun x30 =>
   pureK (cv (.toInt .u8) x30) fun x31 =>
   pureK (bsl 1 (.sc (.int .u8 0)) 1 [(0, x31)]) fun x32 =>
   appK 1 (nth vs16 1) x32 H28 fun x33 H34 =>
   pureK (fa 0 (.ptr o26 0)) fun x35 =>
   pureK (ld (some false) 1 H34 x35) fun x36 =>
   pureK (bop .plain .eql x36 (I 1)) fun x37 =>
   condK x37 (
    pureK (fa 1 (.ptr o26 0)) fun x38 =>
    pureK (ld (some false) 1 H34 x38) fun x39 =>
    ACalls PP gΓ code_named [x33, x39] H34 fun x40 H41 =>
    pureK (bop .plain .add (nth vs16 4) (I 1)) fun x42 =>
    (∃ (n19 : Nat) (H20 : Heap), n19 < n18 ∧ H20 ≤ H41 ∧ J15 [nth vs16 0, x40, nth vs16 2, nth vs16 3, x42] H20 n19)
   ) (
    pureK (bop .plain .eql x36 (I 11)) fun x43 =>
    condK x43 (
     pureK (fa 2 (.ptr o26 0)) fun x44 =>
     pureK (ld (some false) 1 H34 x44) fun x45 =>
     pureK (cv (.toInt .u8) x45) fun x46 =>
     pureK (bsl 1 (.sc (.int .u8 0)) 1 [(0, x46)]) fun x47 =>
     appK 1 x33 x47 H34 fun x48 H49 =>
     pureK (bop .plain .add (nth vs16 4) (I 1)) fun x50 =>
     (∃ (n19 : Nat) (H20 : Heap), n19 < n18 ∧ H20 ≤ H49 ∧ J15 [nth vs16 0, x48, nth vs16 2, nth vs16 3, x50] H20 n19)
    ) (
     pureK (bop .plain .eql x36 (I 14)) fun x51 =>
     condK x51 (
      pureK (fa 2 (.ptr o26 0)) fun x52 =>
      pureK (ld (some false) 1 H34 x52) fun x53 =>
      pureK (cv (.toInt .u8) x53) fun x54 =>
      pureK (bsl 1 (.sc (.int .u8 0)) 1 [(0, x54)]) fun x55 =>
      appK 1 x33 x55 H34 fun x56 H57 =>
      pureK (bop .plain .add (nth vs16 4) (I 1)) fun x58 =>
      (∃ (n19 : Nat) (H20 : Heap), n19 < n18 ∧ H20 ≤ H57 ∧ J15 [nth vs16 0, x56, nth vs16 2, nth vs16 3, x58] H20 n19)
     ) (
      pureK (bop .plain .add (nth vs16 4) (I 1)) fun x59 =>
      (∃ (n19 : Nat) (H20 : Heap), n19 < n18 ∧ H20 ≤ H34 ∧ J15 [nth vs16 0, x33, nth vs16 2, nth vs16 3, x59] H20 n19)
     )
    )
   )
  ) (
   pureK (fa 1 (nth vs16 0)) fun x60 =>
   pureK (fa 0 x60) fun x61 =>
   pureK (ld (some false) 1 H17 x61) fun x62 =>
   pureK (cv (.toInt .u8) x62) fun x63 =>
   pureK (fa 1 (nth vs16 0)) fun x64 =>
   pureK (fa 1 x64) fun x65 =>
   pureK (ld (some false) 1 H17 x65) fun x66 =>
   pureK (cv (.toInt .u8) x66) fun x67 =>
   pureK (fa 3 (nth vs16 0)) fun x68 =>
   pureK (ld (some false) 1 H17 x68) fun x69 =>
   pureK (cv (.toInt .u8) x69) fun x70 =>
   pureK (fa 4 (nth vs16 0)) fun x71 =>
   pureK (ld (some false) 1 H17 x71) fun x72 =>
   pureK (lnl x72) fun x73 =>
   pureK (cv (.toInt .u8) x73) fun x74 =>
   pureK (bsl 1 (.sc (.int .u8 0)) 4 [(0, x63), (1, x67), (2, x70), (3, x74)]) fun x75 =>
   appK 1 (nth vs16 1) x75 H17 fun x76 H77 =>
   pureK (fa 4 (nth vs16 0)) fun x78 =>
   pureK (ld (some false) 1 H77 x78) fun x79 =>
   pureK (lnl x79) fun x80 =>
   ∃ J81 : List AV → Heap → Nat → Prop, (∃ (n87 : Nat) (H88 : Heap), H88 ≤ H77 ∧ J81 [x76, x79, x80, I 0] H88 n87) ∧ ∀ (vs82 : List AV) (H83 : Heap) (n84 : Nat), J81 vs82 H83 n84 →
   pureK (bop .plain .lss (nth vs82 3) (nth vs82 2)) fun x89 =>
   condK x89 (
    pureK (ias 1 (nth vs82 1) (nth vs82 3)) fun x90 =>
    pureK (ld (some false) 1 H83 x90) fun x91 =>
    ACalls PP gΓ code_named [nth vs82 0, x91] H83 fun x92 H93 =>
    pureK (bop .plain .add (nth vs82 3) (I 1)) fun x94 =>
    (∃ (n85 : Nat) (H86 : Heap), n85 < n84 ∧ H86 ≤ H93 ∧ J81 [x92, nth vs82 1, nth vs82 2, x94] H86 n85)
   ) (
    ret1 H83 R (.tup [nth vs82 0, B true])
   )
  )
 )
theorem K_code_Encode (a0 : AV) (H : Heap) (R : AV → Heap → Prop) : awp E_code_Encode (drawK E_code_Encode) C_code_Encode (fun j => List.getD [a0] j .dead) H (retK PP Tryz.f8.results.toList R) = W_code_Encode a0 H R := by kernel_rfl
theorem code_Encode_of {a0 : AV} {H : Heap} {R : AV → Heap → Prop} (h : W_code_Encode a0 H R) : ACalls PP gΓ code_Encode [a0] H R :=
  ACalls.of_awp (E := E_code_Encode) follows_PP Tryz.func8 (c := C_code_Encode) (by kernel_rfl) Tryz.ntmps8 ((K_code_Encode a0 H R) ▸ h)

noncomputable def L_law19_New : Nat → Option (List Nat) := fun k => none
noncomputable abbrev E_law19_New : Env := ⟨PP, gΓ, 4, L_law19_New, fun _ => false⟩
noncomputable def C_law19_New : Code := Tryz.f9.body.getD .skip
def W_law19_New (a0 : AV) (H : Heap) (R : AV → Heap → Prop) : Prop :=
 allocK (some (AV.cells a0)) H fun p1 H2 =>
 allocP [.lst 0 [] .exact, .sc (.int .i64 0), .sc (.int .i64 0), .sc (.int .i64 0), .lst 0 [] .exact] H2 fun o3 H4 =>
 pureK (ld (some true) 5 H4 p1) fun x5 =>
 heapK (st 5 H4 (.ptr o3 0) x5) fun H6 =>
 pureK (ld (some true) 5 H6 (.ptr o3 0)) fun x7 =>
 ret1 H6 R x7
theorem K_law19_New (a0 : AV) (H : Heap) (R : AV → Heap → Prop) : awp E_law19_New (drawK E_law19_New) C_law19_New (fun j => List.getD [a0] j .dead) H (retK PP Tryz.f9.results.toList R) = W_law19_New a0 H R := by kernel_rfl
theorem law19_New_of {a0 : AV} {H : Heap} {R : AV → Heap → Prop} (h : W_law19_New a0 H R) : ACalls PP gΓ law19_New [a0] H R :=
  ACalls.of_awp (E := E_law19_New) follows_PP Tryz.func9 (c := C_law19_New) (by kernel_rfl) Tryz.ntmps9 ((K_law19_New a0 H R) ▸ h)

noncomputable def L_ref19_Encode : Nat → Option (List Nat) := fun k => bif Nat.beq k 1005 then some [1, 4, 5] else bif Nat.beq k 1014 then some [1, 4, 6] else none
noncomputable abbrev E_ref19_Encode : Env := ⟨PP, gΓ, 108, L_ref19_Encode, fun _ => false⟩
noncomputable def C_ref19_Encode : Code := Tryz.f10.body.getD .skip
def W_ref19_Encode (a0 : AV) (H : Heap) (R : AV → Heap → Prop) : Prop :=
 allocK (some (AV.cells a0)) H fun p1 H2 =>
 pureK (ld (some true) 5 H2 p1) fun x3 =>
 ACalls PP gΓ ref19_Right [x3] H2 fun x4 H5 =>
 pureK (unE .not x4) fun x6 =>
 condK x6 (
  ret1 H5 R (.tup [.lst 0 [] .exact, B false])
 ) (
  pureK (fa 0 p1) fun x7 =>
  pureK (ld (some false) 1 H5 x7) fun x8 =>
  pureK (lnl x8) fun x9 =>
  pureK (cv (.toInt .u8) x9) fun x10 =>
  pureK (bsl 1 (.sc (.int .u8 0)) 1 [(0, x10)]) fun x11 =>
  ∃ J12 : List AV → Heap → Nat → Prop, (∃ (n18 : Nat) (H19 : Heap), H19 ≤ H5 ∧ J12 [p1, x11, I 0] H19 n18) ∧ ∀ (vs13 : List AV) (H14 : Heap) (n15 : Nat), J12 vs13 H14 n15 →
  pureK (fa 0 (nth vs13 0)) fun x20 =>
  pureK (ld (some false) 1 H14 x20) fun x21 =>
  pureK (lnl x21) fun x22 =>
  pureK (bop .plain .lss (nth vs13 2) x22) fun x23 =>
  condK x23 (
   pureK (fa 0 (nth vs13 0)) fun x24 =>
   pureK (ld (some false) 1 H14 x24) fun x25 =>
   pureK (ias 3 x25 (nth vs13 2)) fun x26 =>
   pureK (fa 0 x26) fun x27 =>
   pureK (ld (some false) 1 H14 x27) fun x28 =>
   pureK (cv (.toInt .u8) x28) fun x29 =>
   pureK (bsl 1 (.sc (.int .u8 0)) 1 [(0, x29)]) fun x30 =>
   appK 1 (nth vs13 1) x30 H14 fun x31 H32 =>
   pureK (fa 0 (nth vs13 0)) fun x33 =>
   pureK (ld (some false) 1 H32 x33) fun x34 =>
   pureK (ias 3 x34 (nth vs13 2)) fun x35 =>
   pureK (fa 0 x35) fun x36 =>
   pureK (ld (some false) 1 H32 x36) fun x37 =>
   pureK (bop .plain .eql x37 (I 1)) fun x38 =>
   condK x38 (
    pureK (fa 0 (nth vs13 0)) fun x39 =>
    pureK (ld (some false) 1 H32 x39) fun x40 =>
    pureK (ias 3 x40 (nth vs13 2)) fun x41 =>
    pureK (fa 1 x41) fun x42 =>
    pureK (ld (some false) 1 H32 x42) fun x43 =>
    ACalls PP gΓ ref19_name [x43] H32 fun x44 H45 =>
    appK 1 x31 x44 H45 fun x46 H47 =>
    pureK (fa 0 (nth vs13 0)) fun x48 =>
    pureK (ld (some false) 1 H47 x48) fun x49 =>
    pureK (ias 3 x49 (nth vs13 2)) fun x50 =>
    pureK (fa 0 x50) fun x51 =>
    pureK (ld (some false) 1 H47 x51) fun x52 =>
    pureK (bop .plain .eql x52 (I 11)) fun x53 =>
    condK x53 (
     pureK (fa 0 (nth vs13 0)) fun x54 =>
     pureK (ld (some false) 1 H47 x54) fun x55 =>
     pureK (ias 3 x55 (nth vs13 2)) fun x56 =>
     pureK (fa 2 x56) fun x57 =>
     pureK (ld (some false) 1 H47 x57) fun x58 =>
     pureK (cv (.toInt .u8) x58) fun x59 =>
     pureK (bsl 1 (.sc (.int .u8 0)) 1 [(0, x59)]) fun x60 =>
     appK 1 x46 x60 H47 fun x61 H62 =>
     pureK (bop .plain .add (nth vs13 2) (I 1)) fun x63 =>
     (∃ (n16 : Nat) (H17 : Heap), n16 < n15 ∧ H17 ≤ H62 ∧ J12 [nth vs13 0, x61, x63] H17 n16)
    ) (
     pureK (fa 0 (nth vs13 0)) fun x64 =>
     pureK (ld (some false) 1 H47 x64) fun x65 =>
     pureK (ias 3 x65 (nth vs13 2)) fun x66 =>
     pureK (fa 0 x66) fun x67 =>
     pureK (ld (some false) 1 H47 x67) fun x68 =>
     pureK (bop .plain .eql x68 (I 14)) fun x69 =>
     condK x69 (
      pureK (fa 0 (nth vs13 0)) fun x70 =>
      pureK (ld (some false) 1 H47 x70) fun x71 =>
      pureK (ias 3 x71 (nth vs13 2)) fun x72 =>
      pureK (fa 2 x72) fun x73 =>
      pureK (ld (some false) 1 H47 x73) fun x74 =>
      pureK (cv (.toInt .u8) x74) fun x75 =>
      pureK (bsl 1 (.sc (.int .u8 0)) 1 [(0, x75)]) fun x76 =>
      appK 1 x46 x76 H47 fun x77 H78 =>
      pureK (bop .plain .add (nth vs13 2) (I 1)) fun x79 =>
      (∃ (n16 : Nat) (H17 : Heap), n16 < n15 ∧ H17 ≤ H78 ∧ J12 [nth vs13 0, x77, x79] H17 n16)
     ) (
      pureK (bop .plain .add (nth vs13 2) (I 1)) fun x80 =>
      (∃ (n16 : Nat) (H17 : Heap), n16 < n15 ∧ H17 ≤ H47 ∧ J12 [nth vs13 0, x46, x80] H17 n16)
     )
    )
   ) (
    pureK (fa 0 (nth vs13 0)) fun x81 =>
    pureK (ld (some false) 1 H32 x81) fun x82 =>
    pureK (ias 3 x82 (nth vs13 2)) fun x83 =>
    pureK (fa 0 x83) fun x84 =>
    pureK (ld (some false) 1 H32 x84) fun x85 =>
    pureK (bop .plain .eql x85 (I 11)) fun x86 =>
    condK x86 (
     pureK (fa 0 (nth vs13 0)) fun x87 =>
     pureK (ld (some false) 1 H32 x87) fun x88 =>
     pureK (ias 3 x88 (nth vs13 2)) fun x89 =>
     pureK (fa 2 x89) fun x90 =>
     pureK (ld (some false) 1 H32 x90) fun x91 =>
     pureK (cv (.toInt .u8) x91) fun x92 =>
     pureK (bsl 1 (.sc (.int .u8 0)) 1 [(0, x92)]) fun x93 =>
     appK 1 x31 x93 H32 fun x94 H95 =>
     pureK (bop .plain .add (nth vs13 2) (I 1)) fun x96 =>
     (∃ (n16 : Nat) (H17 : Heap), n16 < n15 ∧ H17 ≤ H95 ∧ J12 [nth vs13 0, x94, x96] H17 n16)
    ) (
     pureK (fa 0 (nth vs13 0)) fun x97 =>
     pureK (ld (some false) 1 H32 x97) fun x98 =>
     pureK (ias 3 x98 (nth vs13 2)) fun x99 =>
     pureK (fa 0 x99) fun x100 =>
     pureK (ld (some false) 1 H32 x100) fun x101 =>
     pureK (bop .plain .eql x101 (I 14)) fun x102 =>
     condK x102 (
      pureK (fa 0 (nth vs13 0)) fun x103 =>
      pureK (ld (some false) 1 H32 x103) fun x104 =>
      pureK (ias 3 x104 (nth vs13 2)) fun x105 =>
      pureK (fa 2 x105) fun x106 =>
      pureK (ld (some false) 1 H32 x106) fun x107 =>
      pureK (cv (.toInt .u8) x107) fun x108 =>
      pureK (bsl 1 (.sc (.int .u8 0)) 1 [(0, x108)]) fun x109 =>
      appK 1 x31 x109 H32 fun x110 H111 =>
      pureK (bop .plain .add (nth vs13 2) (I 1)) fun x112 =>
      (∃ (n16 : Nat) (H17 : Heap), n16 < n15 ∧ H17 ≤ H111 ∧ J12 [nth vs13 0, x110, x112] H17 n16)
     ) (
      pureK (bop .plain .add (nth vs13 2) (I 1)) fun x113 =>
      (∃ (n16 : Nat) (H17 : Heap), n16 < n15 ∧ H17 ≤ H32 ∧ J12 [nth vs13 0, x31, x113] H17 n16)
     )
    )
   )
  ) (
   pureK (fa 1 (nth vs13 0)) fun x114 =>
   pureK (fa 0 x114) fun x115 =>
   pureK (ld (some false) 1 H14 x115) fun x116 =>
   pureK (cv (.toInt .u8) x116) fun x117 =>
   pureK (fa 1 (nth vs13 0)) fun x118 =>
   pureK (fa 1 x118) fun x119 =>
   pureK (ld (some false) 1 H14 x119) fun x120 =>
   pureK (cv (.toInt .u8) x120) fun x121 =>
   pureK (fa 3 (nth vs13 0)) fun x122 =>
   pureK (ld (some false) 1 H14 x122) fun x123 =>
   pureK (cv (.toInt .u8) x123) fun x124 =>
   pureK (fa 4 (nth vs13 0)) fun x125 =>
   pureK (ld (some false) 1 H14 x125) fun x126 =>
   pureK (lnl x126) fun x127 =>
   pureK (cv (.toInt .u8) x127) fun x128 =>
   pureK (bsl 1 (.sc (.int .u8 0)) 4 [(0, x117), (1, x121), (2, x124), (3, x128)]) fun x129 =>
   appK 1 (nth vs13 1) x129 H14 fun x130 H131 =>
   ∃ J132 : List AV → Heap → Nat → Prop, (∃ (n138 : Nat) (H139 : Heap), H139 ≤ H131 ∧ J132 [nth vs13 0, x130, I 0] H139 n138) ∧ ∀ (vs133 : List AV) (H134 : Heap) (n135 : Nat), J132 vs133 H134 n135 →
   pureK (fa 4 (nth vs133 0)) fun x140 =>
   pureK (ld (some false) 1 H134 x140) fun x141 =>
   pureK (lnl x141) fun x142 =>
   pureK (bop .plain .lss (nth vs133 2) x142) fun x143 =>
   condK x143 (
    pureK (fa 4 (nth vs133 0)) fun x144 =>
    pureK (ld (some false) 1 H134 x144) fun x145 =>
    pureK (ias 1 x145 (nth vs133 2)) fun x146 =>
    pureK (ld (some false) 1 H134 x146) fun x147 =>
    ACalls PP gΓ ref19_name [x147] H134 fun x148 H149 =>
    appK 1 (nth vs133 1) x148 H149 fun x150 H151 =>
    pureK (bop .plain .add (nth vs133 2) (I 1)) fun x152 =>
    (∃ (n136 : Nat) (H137 : Heap), n136 < n135 ∧ H137 ≤ H151 ∧ J132 [nth vs133 0, x150, x152] H137 n136)
   ) (
    ret1 H134 R (.tup [nth vs133 1, B true])
   )
  )
 )
theorem K_ref19_Encode (a0 : AV) (H : Heap) (R : AV → Heap → Prop) : awp E_ref19_Encode (drawK E_ref19_Encode) C_ref19_Encode (fun j => List.getD [a0] j .dead) H (retK PP Tryz.f10.results.toList R) = W_ref19_Encode a0 H R := by kernel_rfl
theorem ref19_Encode_of {a0 : AV} {H : Heap} {R : AV → Heap → Prop} (h : W_ref19_Encode a0 H R) : ACalls PP gΓ ref19_Encode [a0] H R :=
  ACalls.of_awp (E := E_ref19_Encode) follows_PP Tryz.func10 (c := C_ref19_Encode) (by kernel_rfl) Tryz.ntmps10 ((K_ref19_Encode a0 H R) ▸ h)

noncomputable def L_ref16_Same : Nat → Option (List Nat) := fun k => bif Nat.beq k 1004 then some [0, 1, 5] else none
noncomputable abbrev E_ref16_Same : Env := ⟨PP, gΓ, 26, L_ref16_Same, fun _ => false⟩
noncomputable def C_ref16_Same : Code := Tryz.f11.body.getD .skip
def W_ref16_Same (a0 a1 : AV) (H : Heap) (R : AV → Heap → Prop) : Prop :=
 pureK (lnl a0) fun x1 =>
 pureK (lnl a1) fun x2 =>
 pureK (bop .plain .neq x1 x2) fun x3 =>
 condK x3 (
  ret1 H R (B false)
 ) (
  ∃ J4 : List AV → Heap → Nat → Prop, (∃ (n10 : Nat) (H11 : Heap), H11 ≤ H ∧ J4 [a0, a1, I 0] H11 n10) ∧ ∀ (vs5 : List AV) (H6 : Heap) (n7 : Nat), J4 vs5 H6 n7 →
  pureK (lnl (nth vs5 0)) fun x12 =>
  pureK (bop .plain .lss (nth vs5 2) x12) fun x13 =>
  condK x13 (
   pureK (ias 1 (nth vs5 0) (nth vs5 2)) fun x14 =>
   pureK (ld (some false) 1 H6 x14) fun x15 =>
   pureK (ias 1 (nth vs5 1) (nth vs5 2)) fun x16 =>
   pureK (ld (some false) 1 H6 x16) fun x17 =>
   pureK (bop .plain .neq x15 x17) fun x18 =>
   condK x18 (
    ret1 H6 R (B false)
   ) (
    pureK (bop .plain .add (nth vs5 2) (I 1)) fun x19 =>
    (∃ (n8 : Nat) (H9 : Heap), n8 < n7 ∧ H9 ≤ H6 ∧ J4 [nth vs5 0, nth vs5 1, x19] H9 n8)
   )
  ) (
   ret1 H6 R (B true)
  )
 )
theorem K_ref16_Same (a0 a1 : AV) (H : Heap) (R : AV → Heap → Prop) : awp E_ref16_Same (drawK E_ref16_Same) C_ref16_Same (fun j => List.getD [a0, a1] j .dead) H (retK PP Tryz.f11.results.toList R) = W_ref16_Same a0 a1 H R := by kernel_rfl
theorem ref16_Same_of {a0 a1 : AV} {H : Heap} {R : AV → Heap → Prop} (h : W_ref16_Same a0 a1 H R) : ACalls PP gΓ ref16_Same [a0, a1] H R :=
  ACalls.of_awp (E := E_ref16_Same) follows_PP Tryz.func11 (c := C_ref16_Same) (by kernel_rfl) Tryz.ntmps11 ((K_ref16_Same a0 a1 H R) ▸ h)

noncomputable def L_code_Right : Nat → Option (List Nat) := fun k => none
noncomputable abbrev E_code_Right : Env := ⟨PP, gΓ, 52, L_code_Right, fun _ => false⟩
noncomputable def C_code_Right : Code := Tryz.f12.body.getD .skip
def W_code_Right (a0 : AV) (H : Heap) (R : AV → Heap → Prop) : Prop :=
 allocK (some (AV.cells a0)) H fun p1 H2 =>
 pureK (fa 0 p1) fun x3 =>
 pureK (ld (some false) 1 H2 x3) fun x4 =>
 ACalls PP gΓ sort_On [x4, B false] H2 fun x5 H6 =>
 condK x5 (
  pureK (fa 0 p1) fun x7 =>
  pureK (ld (some false) 1 H6 x7) fun x8 =>
  ACalls PP gΓ settle_Settled [x8] H6 fun x9 H10 =>
  condK x9 (
   pureK (fa 0 p1) fun x11 =>
   pureK (ld (some false) 1 H10 x11) fun x12 =>
   pureK (lnl x12) fun x13 =>
   pureK (bop .plain .leq x13 (I 60)) fun x14 =>
   condK x14 (
    pureK (fa 1 p1) fun x15 =>
    pureK (fa 0 x15) fun x16 =>
    pureK (ld (some false) 1 H10 x16) fun x17 =>
    callK (E_code_Right) (.fn (.func code_Right_2) [] []) [x17, I 255] H10 fun x18 H19 =>
    condK x18 (
     pureK (fa 1 p1) fun x20 =>
     pureK (fa 1 x20) fun x21 =>
     pureK (ld (some false) 1 H19 x21) fun x22 =>
     callK (E_code_Right) (.fn (.func code_Right_2) [] []) [x22, I 5] H19 fun x23 H24 =>
     condK x23 (
      pureK (fa 3 p1) fun x25 =>
      pureK (ld (some false) 1 H24 x25) fun x26 =>
      callK (E_code_Right) (.fn (.func code_Right_2) [] []) [x26, I 60] H24 fun x27 H28 =>
      condK x27 (
       pureK (fa 4 p1) fun x29 =>
       pureK (ld (some false) 1 H28 x29) fun x30 =>
       pureK (lnl x30) fun x31 =>
       pureK (bop .plain .leq x31 (I 60)) fun x32 =>
       condK x32 (
        pureK (fa 4 p1) fun x33 =>
        pureK (ld (some false) 1 H28 x33) fun x34 =>
        ACalls PP gΓ slices_ContainsFunc_string [x34, .fn (.func code_Right_1) [] []] H28 fun x35 H36 =>
        pureK (unE .not x35) fun x37 =>
        ret1 H36 R x37
       ) (
        ret1 H28 R (B false)
       )
      ) (
       ret1 H28 R (B false)
      )
     ) (
      ret1 H24 R (B false)
     )
    ) (
     ret1 H19 R (B false)
    )
   ) (
    ret1 H10 R (B false)
   )
  ) (
   ret1 H10 R (B false)
  )
 ) (
  ret1 H6 R (B false)
 )
theorem K_code_Right (a0 : AV) (H : Heap) (R : AV → Heap → Prop) : awp E_code_Right (drawK E_code_Right) C_code_Right (fun j => List.getD [a0] j .dead) H (retK PP Tryz.f12.results.toList R) = W_code_Right a0 H R := by kernel_rfl
theorem code_Right_of {a0 : AV} {H : Heap} {R : AV → Heap → Prop} (h : W_code_Right a0 H R) : ACalls PP gΓ code_Right [a0] H R :=
  ACalls.of_awp (E := E_code_Right) follows_PP Tryz.func12 (c := C_code_Right) (by kernel_rfl) Tryz.ntmps12 ((K_code_Right a0 H R) ▸ h)

noncomputable def L_ref19_Right : Nat → Option (List Nat) := fun k => bif Nat.beq k 1004 then some [1, 3] else none
noncomputable abbrev E_ref19_Right : Env := ⟨PP, gΓ, 56, L_ref19_Right, fun _ => false⟩
noncomputable def C_ref19_Right : Code := Tryz.f13.body.getD .skip
def W_ref19_Right (a0 : AV) (H : Heap) (R : AV → Heap → Prop) : Prop :=
 allocK (some (AV.cells a0)) H fun p1 H2 =>
 pureK (fa 0 p1) fun x3 =>
 pureK (ld (some false) 1 H2 x3) fun x4 =>
 ACalls PP gΓ ref04_On [x4, B false] H2 fun x5 H6 =>
 pureK (unE .not x5) fun x7 =>
 condK x7 (
  ret1 H6 R (B false)
 ) (
  pureK (fa 0 p1) fun x8 =>
  pureK (ld (some false) 1 H6 x8) fun x9 =>
  ACalls PP gΓ ref11_Settled [x9] H6 fun x10 H11 =>
  pureK (unE .not x10) fun x12 =>
  condK x12 (
   ret1 H11 R (B false)
  ) (
   pureK (fa 0 p1) fun x13 =>
   pureK (ld (some false) 1 H11 x13) fun x14 =>
   pureK (lnl x14) fun x15 =>
   pureK (bop .plain .gtr x15 (I 60)) fun x16 =>
   condK x16 (
    ret1 H11 R (B false)
   ) (
    pureK (fa 4 p1) fun x17 =>
    pureK (ld (some false) 1 H11 x17) fun x18 =>
    pureK (lnl x18) fun x19 =>
    pureK (bop .plain .gtr x19 (I 60)) fun x20 =>
    condK x20 (
     ret1 H11 R (B false)
    ) (
     ∃ J21 : List AV → Heap → Nat → Prop, (∃ (n27 : Nat) (H28 : Heap), H28 ≤ H11 ∧ J21 [p1, I 0] H28 n27) ∧ ∀ (vs22 : List AV) (H23 : Heap) (n24 : Nat), J21 vs22 H23 n24 →
     pureK (fa 4 (nth vs22 0)) fun x29 =>
     pureK (ld (some false) 1 H23 x29) fun x30 =>
     pureK (lnl x30) fun x31 =>
     pureK (bop .plain .lss (nth vs22 1) x31) fun x32 =>
     condK x32 (
      pureK (fa 4 (nth vs22 0)) fun x33 =>
      pureK (ld (some false) 1 H23 x33) fun x34 =>
      pureK (ias 1 x34 (nth vs22 1)) fun x35 =>
      pureK (ld (some false) 1 H23 x35) fun x36 =>
      pureK (bld [(0, 1), (1, 1), (2, 1)] [.sc (.int .i64 0), S emp, .sc (.int .i64 0)] [(0, I 1), (1, x36)]) fun x37 =>
      ACalls PP gΓ ref03_Right [x37] H23 fun x38 H39 =>
      pureK (unE .not x38) fun x40 =>
      condK x40 (
       ret1 H39 R (B false)
      ) (
       pureK (bop .plain .add (nth vs22 1) (I 1)) fun x41 =>
       (∃ (n25 : Nat) (H26 : Heap), n25 < n24 ∧ H26 ≤ H39 ∧ J21 [nth vs22 0, x41] H26 n25)
      )
     ) (
      pureK (fa 1 (nth vs22 0)) fun x42 =>
      pureK (fa 0 x42) fun x43 =>
      pureK (ld (some false) 1 H23 x43) fun x44 =>
      ACalls PP gΓ ref19_in [x44, I 255] H23 fun x45 H46 =>
      condK x45 (
       pureK (fa 1 (nth vs22 0)) fun x47 =>
       pureK (fa 1 x47) fun x48 =>
       pureK (ld (some false) 1 H46 x48) fun x49 =>
       ACalls PP gΓ ref19_in [x49, I 5] H46 fun x50 H51 =>
       condK x50 (
        pureK (fa 3 (nth vs22 0)) fun x52 =>
        pureK (ld (some false) 1 H51 x52) fun x53 =>
        ACalls PP gΓ ref19_in [x53, I 60] H51 fun x54 H55 =>
        ret1 H55 R x54
       ) (
        ret1 H51 R (B false)
       )
      ) (
       ret1 H46 R (B false)
      )
     )
    )
   )
  )
 )
theorem K_ref19_Right (a0 : AV) (H : Heap) (R : AV → Heap → Prop) : awp E_ref19_Right (drawK E_ref19_Right) C_ref19_Right (fun j => List.getD [a0] j .dead) H (retK PP Tryz.f13.results.toList R) = W_ref19_Right a0 H R := by kernel_rfl
theorem ref19_Right_of {a0 : AV} {H : Heap} {R : AV → Heap → Prop} (h : W_ref19_Right a0 H R) : ACalls PP gΓ ref19_Right [a0] H R :=
  ACalls.of_awp (E := E_ref19_Right) follows_PP Tryz.func13 (c := C_ref19_Right) (by kernel_rfl) Tryz.ntmps13 ((K_ref19_Right a0 H R) ▸ h)

noncomputable def L_code_Decode : Nat → Option (List Nat) := fun k => bif Nat.beq k 15 then some [0, 2, 4, 5, 6] else bif Nat.beq k 1005 then some [0, 2, 4, 5, 6, 7] else bif Nat.beq k 14 then some [0, 2, 4, 5, 6, 7, 8] else bif Nat.beq k 22 then some [0, 2, 4, 6] else bif Nat.beq k 1019 then some [0, 2, 4, 6, 9] else none
noncomputable abbrev E_code_Decode : Env := ⟨PP, gΓ, 104, L_code_Decode, fun f => Nat.beq f code_reader_name⟩
noncomputable def C_code_Decode : Code := Tryz.f14.body.getD .skip
def W_code_Decode (a0 : AV) (H : Heap) (R : AV → Heap → Prop) : Prop :=
 allocP [.lst 0 [] .exact, .sc (.int .i64 0), .sc (.int .i64 0), .sc (.int .i64 0), .lst 0 [] .exact] H fun o1 H2 =>
 pureK (bld [(0, 1), (1, 1)] [.lst 0 [] .exact, B false] [(0, a0)]) fun x3 =>
 allocK (some (AV.cells x3)) H2 fun p4 H5 =>
 allocP [.lst 0 [] .exact, .sc (.int .i64 0), .sc (.int .i64 0), .sc (.int .i64 0), .lst 0 [] .exact] H5 fun o6 H7 =>
 ∃ J8 : List AV → Heap → Prop, (
  callK (E_code_Decode) (.fn (.func code_reader_next) [p4] []) [] H7 fun x12 H13 =>
  ∃ J14 : List AV → Heap → Nat → Prop, (∃ (n20 : Nat) (H21 : Heap), H21 ≤ H13 ∧ J14 [a0, .ptr o1 0, p4, .fn (.func code_reader_next) [p4] [], .ptr o6 0, x12] H21 n20) ∧ ∀ (vs15 : List AV) (H16 : Heap) (n17 : Nat), J14 vs15 H16 n17 →
  pureK (bop .plain .gtr (nth vs15 5) (I 0)) fun x22 =>
  condK x22 (
   pureK (nilE (nth vs15 2)) fun x23 =>
   pureK (fa 1 x23) fun x24 =>
   pureK (ld (some false) 1 H16 x24) fun x25 =>
   pureK (unE .not x25) fun x26 =>
   condK x26 (
    callK (E_code_Decode) (nth vs15 3) [] H16 fun x27 H28 =>
    pureK (bld [(0, 1), (1, 1), (2, 1)] [.sc (.int .i64 0), S emp, .sc (.int .i64 0)] [(0, x27)]) fun x29 =>
    allocP [.sc (.int .i64 0), S emp, .sc (.int .i64 0)] H28 fun o30 H31 =>
    heapK (st 3 H31 (.ptr o30 0) x29) fun H32 =>
    ∃ J33 : List AV → Heap → Prop, (
     pureK (fa 0 (.ptr o30 0)) fun x37 =>
     pureK (ld (some false) 1 H32 x37) fun x38 =>
     pureK (bop .plain .eql x38 (I 1)) fun x39 =>
     condK x39 (
      ACalls PP gΓ code_reader_name [nth vs15 2] H32 fun x40 H41 =>
      pureK (fa 1 (.ptr o30 0)) fun x42 =>
      heapK (st 1 H41 x42 x40) fun H43 =>
      (∃ H36 : Heap, H36 ≤ H43 ∧ J33 [nth vs15 0, nth vs15 1, nth vs15 2, nth vs15 3, nth vs15 4, nth vs15 5, .ptr o30 0] H36)
     ) (
      pureK (bop .plain .eql x38 (I 11)) fun x44 =>
      condK x44 (
       callK (E_code_Decode) (nth vs15 3) [] H32 fun x45 H46 =>
       pureK (fa 2 (.ptr o30 0)) fun x47 =>
       heapK (st 1 H46 x47 x45) fun H48 =>
       (∃ H36 : Heap, H36 ≤ H48 ∧ J33 [nth vs15 0, nth vs15 1, nth vs15 2, nth vs15 3, nth vs15 4, nth vs15 5, .ptr o30 0] H36)
      ) (
       pureK (bop .plain .eql x38 (I 14)) fun x49 =>
       condK x49 (
        callK (E_code_Decode) (nth vs15 3) [] H32 fun x50 H51 =>
        pureK (fa 2 (.ptr o30 0)) fun x52 =>
        heapK (st 1 H51 x52 x50) fun H53 =>
        (∃ H36 : Heap, H36 ≤ H53 ∧ J33 [nth vs15 0, nth vs15 1, nth vs15 2, nth vs15 3, nth vs15 4, nth vs15 5, .ptr o30 0] H36)
       ) (
        (∃ H36 : Heap, H36 ≤ H32 ∧ J33 [nth vs15 0, nth vs15 1, nth vs15 2, nth vs15 3, nth vs15 4, nth vs15 5, .ptr o30 0] H36)
       )
      )
     )
    ) ∧ ∀ vs34 H35, J33 vs34 H35 →
    pureK (fa 0 (nth vs34 4)) fun x54 =>
    pureK (ld (some false) 1 H35 x54) fun x55 =>
    pureK (ld (some true) 3 H35 (nth vs34 6)) fun x56 =>
    pureK (bsl 3 (.agg [.sc (.int .i64 0), S emp, .sc (.int .i64 0)]) 1 [(0, x56)]) fun x57 =>
    appK 3 x55 x57 H35 fun x58 H59 =>
    pureK (fa 0 (nth vs34 4)) fun x60 =>
    heapK (st 1 H59 x60 x58) fun H61 =>
    pureK (bop .plain .sub (nth vs34 5) (I 1)) fun x62 =>
    (∃ (n18 : Nat) (H19 : Heap), n18 < n17 ∧ H19 ≤ H61 ∧ J14 [nth vs34 0, nth vs34 1, nth vs34 2, nth vs34 3, nth vs34 4, x62] H19 n18)
   ) (
    (∃ H11 : Heap, H11 ≤ H16 ∧ J8 [nth vs15 0, nth vs15 1, nth vs15 2, nth vs15 3, nth vs15 4] H11)
   )
  ) (
   (∃ H11 : Heap, H11 ≤ H16 ∧ J8 [nth vs15 0, nth vs15 1, nth vs15 2, nth vs15 3, nth vs15 4] H11)
  )
 ) ∧ ∀ vs9 H10, J8 vs9 H10 →
 callK (E_code_Decode) (nth vs9 3) [] H10 fun x63 H64 =>
 pureK (fa 1 (nth vs9 4)) fun x65 =>
 pureK (fa 0 x65) fun x66 =>
 heapK (st 1 H64 x66 x63) fun H67 =>
 callK (E_code_Decode) (nth vs9 3) [] H67 fun x68 H69 =>
 pureK (fa 1 (nth vs9 4)) fun x70 =>
 pureK (fa 1 x70) fun x71 =>
 heapK (st 1 H69 x71 x68) fun H72 =>
 callK (E_code_Decode) (nth vs9 3) [] H72 fun x73 H74 =>
 pureK (fa 3 (nth vs9 4)) fun x75 =>
 heapK (st 1 H74 x75 x73) fun H76 =>
 ∃ J77 : List AV → Heap → Prop, (
  callK (E_code_Decode) (nth vs9 3) [] H76 fun x81 H82 =>
  ∃ J83 : List AV → Heap → Nat → Prop, (∃ (n89 : Nat) (H90 : Heap), H90 ≤ H82 ∧ J83 [nth vs9 0, nth vs9 1, nth vs9 2, nth vs9 4, x81] H90 n89) ∧ ∀ (vs84 : List AV) (H85 : Heap) (n86 : Nat), J83 vs84 H85 n86 →
  pureK (bop .plain .gtr (nth vs84 4) (I 0)) fun x91 =>
  condK x91 (
   pureK (nilE (nth vs84 2)) fun x92 =>
   pureK (fa 1 x92) fun x93 =>
   pureK (ld (some false) 1 H85 x93) fun x94 =>
   pureK (unE .not x94) fun x95 =>
   condK x95 (
    ∃ fp96 : Option Nat, (∀ p, fp96 = some p → H85 p ≠ none) ∧
    pureK (fa 4 (nth vs84 3)) fun x97 =>
    pureK (ld (some false) 1 (rem H85 fp96) x97) fun x98 =>
    ∃ φ99 v100, AMakes PP gΓ code_reader_name [nth vs84 2] H85 fp96 φ99 ∧ MkVal φ99 v100 ∧
    pureK (bsl 1 (S emp) 1 [(0, v100)]) fun x101 =>
    ∀ rf102 ob103, φ99 rf102 ob103 → madeK fp96 H85 rf102 ob103 fun x104 H105 =>
    appK 1 x98 x101 H105 fun x106 H107 =>
    pureK (fa 4 (nth vs84 3)) fun x108 =>
    heapK (st 1 H107 x108 x106) fun H109 =>
    pureK (bop .plain .sub (nth vs84 4) (I 1)) fun x110 =>
    (∃ (n87 : Nat) (H88 : Heap), n87 < n86 ∧ H88 ≤ H109 ∧ J83 [nth vs84 0, nth vs84 1, nth vs84 2, nth vs84 3, x110] H88 n87)
   ) (
    (∃ H80 : Heap, H80 ≤ H85 ∧ J77 [nth vs84 0, nth vs84 1, nth vs84 2, nth vs84 3] H80)
   )
  ) (
   (∃ H80 : Heap, H80 ≤ H85 ∧ J77 [nth vs84 0, nth vs84 1, nth vs84 2, nth vs84 3] H80)
  )
 ) ∧ ∀ vs78 H79, J77 vs78 H79 →
 pureK (ld (some true) 5 H79 (nth vs78 3)) fun x111 =>
 ACalls PP gΓ code_Encode [x111] H79 fun x112 H113 =>
 pureK (extractE x112 0) fun x114 =>
 pureK (extractE x112 1) fun x115 =>
 pureK (unE .not x115) fun x116 =>
 condK x116 (
  pureK (bld [(0, 1), (1, 2), (3, 1), (4, 1)] [.lst 0 [] .exact, .sc (.int .i64 0), .sc (.int .i64 0), .sc (.int .i64 0), .lst 0 [] .exact] []) fun x117 =>
  heapK (st 5 H113 (nth vs78 1) x117) fun H118 =>
  pureK (ld (some true) 5 H118 (nth vs78 1)) fun x119 =>
  ret1 H118 R (.tup [x119, I 190])
 ) (
  pureK (nilE (nth vs78 2)) fun x120 =>
  pureK (fa 1 x120) fun x121 =>
  pureK (ld (some false) 1 H113 x121) fun x122 =>
  condK x122 (
   pureK (bld [(0, 1), (1, 2), (3, 1), (4, 1)] [.lst 0 [] .exact, .sc (.int .i64 0), .sc (.int .i64 0), .sc (.int .i64 0), .lst 0 [] .exact] []) fun x123 =>
   heapK (st 5 H113 (nth vs78 1) x123) fun H124 =>
   pureK (ld (some true) 5 H124 (nth vs78 1)) fun x125 =>
   ret1 H124 R (.tup [x125, I 190])
  ) (
   ACalls PP gΓ bytes_Equal [x114, nth vs78 0] H113 fun x126 H127 =>
   pureK (unE .not x126) fun x128 =>
   condK x128 (
    pureK (bld [(0, 1), (1, 2), (3, 1), (4, 1)] [.lst 0 [] .exact, .sc (.int .i64 0), .sc (.int .i64 0), .sc (.int .i64 0), .lst 0 [] .exact] []) fun x129 =>
    heapK (st 5 H127 (nth vs78 1) x129) fun H130 =>
    pureK (ld (some true) 5 H130 (nth vs78 1)) fun x131 =>
    ret1 H130 R (.tup [x131, I 190])
   ) (
    pureK (ld (some true) 5 H127 (nth vs78 3)) fun x132 =>
    heapK (st 5 H127 (nth vs78 1) x132) fun H133 =>
    pureK (ld (some true) 5 H133 (nth vs78 1)) fun x134 =>
    ret1 H133 R (.tup [x134, I 0])
   )
  )
 )
theorem K_code_Decode (a0 : AV) (H : Heap) (R : AV → Heap → Prop) : awp E_code_Decode (drawK E_code_Decode) C_code_Decode (fun j => List.getD [a0] j .dead) H (retK PP Tryz.f14.results.toList R) = W_code_Decode a0 H R := by kernel_rfl
theorem code_Decode_of {a0 : AV} {H : Heap} {R : AV → Heap → Prop} (h : W_code_Decode a0 H R) : ACalls PP gΓ code_Decode [a0] H R :=
  ACalls.of_awp (E := E_code_Decode) follows_PP Tryz.func14 (c := C_code_Decode) (by kernel_rfl) Tryz.ntmps14 ((K_code_Decode a0 H R) ▸ h)

noncomputable def L_ref19_Decode : Nat → Option (List Nat) := fun k => bif Nat.beq k 1004 then some [0, 2, 4, 5, 6] else bif Nat.beq k 1016 then some [0, 2, 4, 5, 9, 10] else none
noncomputable abbrev E_ref19_Decode : Env := ⟨PP, gΓ, 91, L_ref19_Decode, fun _ => false⟩
noncomputable def C_ref19_Decode : Code := Tryz.f15.body.getD .skip
def W_ref19_Decode (a0 : AV) (H : Heap) (R : AV → Heap → Prop) : Prop :=
 allocP [.lst 0 [] .exact, .sc (.int .i64 0), .sc (.int .i64 0), .sc (.int .i64 0), .lst 0 [] .exact] H fun o1 H2 =>
 allocP [.lst 0 [] .exact, .sc (.int .i64 0), .sc (.int .i64 0), .sc (.int .i64 0), .lst 0 [] .exact] H2 fun o3 H4 =>
 ∃ J5 : List AV → Heap → Nat → Prop, (∃ (n11 : Nat) (H12 : Heap), H12 ≤ H4 ∧ J5 [a0, .ptr o1 0, .ptr o3 0, I 1, I 0] H12 n11) ∧ ∀ (vs6 : List AV) (H7 : Heap) (n8 : Nat), J5 vs6 H7 n8 →
 ACalls PP gΓ ref19_at [nth vs6 0, I 0] H7 fun x13 H14 =>
 pureK (bop .plain .lss (nth vs6 4) x13) fun x15 =>
 condK x15 (
  ACalls PP gΓ ref19_node [nth vs6 0, nth vs6 3] H14 fun x16 H17 =>
  pureK (extractE x16 0) fun x18 =>
  pureK (extractE x16 1) fun x19 =>
  allocP [.sc (.int .i64 0), S emp, .sc (.int .i64 0)] H17 fun o20 H21 =>
  heapK (st 3 H21 (.ptr o20 0) x18) fun H22 =>
  pureK (bop .plain .lss x19 (I 0)) fun x23 =>
  condK x23 (
   pureK (bld [(0, 1), (1, 2), (3, 1), (4, 1)] [.lst 0 [] .exact, .sc (.int .i64 0), .sc (.int .i64 0), .sc (.int .i64 0), .lst 0 [] .exact] []) fun x24 =>
   heapK (st 5 H22 (nth vs6 1) x24) fun H25 =>
   pureK (ld (some true) 5 H25 (nth vs6 1)) fun x26 =>
   ret1 H25 R (.tup [x26, I 190])
  ) (
   pureK (fa 0 (nth vs6 2)) fun x27 =>
   pureK (ld (some false) 1 H22 x27) fun x28 =>
   pureK (ld (some true) 3 H22 (.ptr o20 0)) fun x29 =>
   pureK (bsl 3 (.agg [.sc (.int .i64 0), S emp, .sc (.int .i64 0)]) 1 [(0, x29)]) fun x30 =>
   appK 3 x28 x30 H22 fun x31 H32 =>
   pureK (fa 0 (nth vs6 2)) fun x33 =>
   heapK (st 1 H32 x33 x31) fun H34 =>
   pureK (bop .plain .add (nth vs6 4) (I 1)) fun x35 =>
   (∃ (n9 : Nat) (H10 : Heap), n9 < n8 ∧ H10 ≤ H34 ∧ J5 [nth vs6 0, nth vs6 1, nth vs6 2, x19, x35] H10 n9)
  )
 ) (
  ACalls PP gΓ ref19_at [nth vs6 0, nth vs6 3] H14 fun x36 H37 =>
  pureK (bop .plain .add (nth vs6 3) (I 1)) fun x38 =>
  ACalls PP gΓ ref19_at [nth vs6 0, x38] H37 fun x39 H40 =>
  pureK (bld [(0, 1), (1, 1)] [.sc (.int .i64 0), .sc (.int .i64 0)] [(0, x36), (1, x39)]) fun x41 =>
  pureK (fa 1 (nth vs6 2)) fun x42 =>
  heapK (st 2 H40 x42 x41) fun H43 =>
  pureK (bop .plain .add (nth vs6 3) (I 2)) fun x44 =>
  ACalls PP gΓ ref19_at [nth vs6 0, x44] H43 fun x45 H46 =>
  pureK (fa 3 (nth vs6 2)) fun x47 =>
  heapK (st 1 H46 x47 x45) fun H48 =>
  pureK (bop .plain .add (nth vs6 3) (I 3)) fun x49 =>
  ACalls PP gΓ ref19_at [nth vs6 0, x49] H48 fun x50 H51 =>
  pureK (bop .plain .add (nth vs6 3) (I 4)) fun x52 =>
  ∃ J53 : List AV → Heap → Nat → Prop, (∃ (n59 : Nat) (H60 : Heap), H60 ≤ H51 ∧ J53 [nth vs6 0, nth vs6 1, nth vs6 2, x52, x50, I 0] H60 n59) ∧ ∀ (vs54 : List AV) (H55 : Heap) (n56 : Nat), J53 vs54 H55 n56 →
  pureK (bop .plain .lss (nth vs54 5) (nth vs54 4)) fun x61 =>
  condK x61 (
   ACalls PP gΓ ref19_named [nth vs54 0, nth vs54 3] H55 fun x62 H63 =>
   pureK (extractE x62 0) fun x64 =>
   pureK (extractE x62 1) fun x65 =>
   pureK (bop .plain .lss x65 (I 0)) fun x66 =>
   condK x66 (
    pureK (bld [(0, 1), (1, 2), (3, 1), (4, 1)] [.lst 0 [] .exact, .sc (.int .i64 0), .sc (.int .i64 0), .sc (.int .i64 0), .lst 0 [] .exact] []) fun x67 =>
    heapK (st 5 H63 (nth vs54 1) x67) fun H68 =>
    pureK (ld (some true) 5 H68 (nth vs54 1)) fun x69 =>
    ret1 H68 R (.tup [x69, I 190])
   ) (
    pureK (fa 4 (nth vs54 2)) fun x70 =>
    pureK (ld (some false) 1 H63 x70) fun x71 =>
    pureK (bsl 1 (S emp) 1 [(0, x64)]) fun x72 =>
    appK 1 x71 x72 H63 fun x73 H74 =>
    pureK (fa 4 (nth vs54 2)) fun x75 =>
    heapK (st 1 H74 x75 x73) fun H76 =>
    pureK (bop .plain .add (nth vs54 5) (I 1)) fun x77 =>
    (∃ (n57 : Nat) (H58 : Heap), n57 < n56 ∧ H58 ≤ H76 ∧ J53 [nth vs54 0, nth vs54 1, nth vs54 2, x65, nth vs54 4, x77] H58 n57)
   )
  ) (
   pureK (bop .plain .lss (nth vs54 4) (I 0)) fun x78 =>
   condK x78 (
    pureK (bld [(0, 1), (1, 2), (3, 1), (4, 1)] [.lst 0 [] .exact, .sc (.int .i64 0), .sc (.int .i64 0), .sc (.int .i64 0), .lst 0 [] .exact] []) fun x79 =>
    heapK (st 5 H55 (nth vs54 1) x79) fun H80 =>
    pureK (ld (some true) 5 H80 (nth vs54 1)) fun x81 =>
    ret1 H80 R (.tup [x81, I 190])
   ) (
    pureK (lnl (nth vs54 0)) fun x82 =>
    pureK (bop .plain .neq (nth vs54 3) x82) fun x83 =>
    condK x83 (
     pureK (bld [(0, 1), (1, 2), (3, 1), (4, 1)] [.lst 0 [] .exact, .sc (.int .i64 0), .sc (.int .i64 0), .sc (.int .i64 0), .lst 0 [] .exact] []) fun x84 =>
     heapK (st 5 H55 (nth vs54 1) x84) fun H85 =>
     pureK (ld (some true) 5 H85 (nth vs54 1)) fun x86 =>
     ret1 H85 R (.tup [x86, I 190])
    ) (
     pureK (ld (some true) 5 H55 (nth vs54 2)) fun x87 =>
     ACalls PP gΓ ref19_Right [x87] H55 fun x88 H89 =>
     pureK (unE .not x88) fun x90 =>
     condK x90 (
      pureK (bld [(0, 1), (1, 2), (3, 1), (4, 1)] [.lst 0 [] .exact, .sc (.int .i64 0), .sc (.int .i64 0), .sc (.int .i64 0), .lst 0 [] .exact] []) fun x91 =>
      heapK (st 5 H89 (nth vs54 1) x91) fun H92 =>
      pureK (ld (some true) 5 H92 (nth vs54 1)) fun x93 =>
      ret1 H92 R (.tup [x93, I 190])
     ) (
      pureK (ld (some true) 5 H89 (nth vs54 2)) fun x94 =>
      heapK (st 5 H89 (nth vs54 1) x94) fun H95 =>
      pureK (ld (some true) 5 H95 (nth vs54 1)) fun x96 =>
      ret1 H95 R (.tup [x96, I 0])
     )
    )
   )
  )
 )
theorem K_ref19_Decode (a0 : AV) (H : Heap) (R : AV → Heap → Prop) : awp E_ref19_Decode (drawK E_ref19_Decode) C_ref19_Decode (fun j => List.getD [a0] j .dead) H (retK PP Tryz.f15.results.toList R) = W_ref19_Decode a0 H R := by kernel_rfl
theorem ref19_Decode_of {a0 : AV} {H : Heap} {R : AV → Heap → Prop} (h : W_ref19_Decode a0 H R) : ACalls PP gΓ ref19_Decode [a0] H R :=
  ACalls.of_awp (E := E_ref19_Decode) follows_PP Tryz.func15 (c := C_ref19_Decode) (by kernel_rfl) Tryz.ntmps15 ((K_ref19_Decode a0 H R) ▸ h)

noncomputable def L_ref19_Same : Nat → Option (List Nat) := fun k => none
noncomputable abbrev E_ref19_Same : Env := ⟨PP, gΓ, 31, L_ref19_Same, fun _ => false⟩
noncomputable def C_ref19_Same : Code := Tryz.f16.body.getD .skip
def W_ref19_Same (a0 a1 : AV) (H : Heap) (R : AV → Heap → Prop) : Prop :=
 allocK (some (AV.cells a0)) H fun p1 H2 =>
 allocK (some (AV.cells a1)) H2 fun p3 H4 =>
 pureK (fa 0 p1) fun x5 =>
 pureK (ld (some false) 1 H4 x5) fun x6 =>
 pureK (fa 0 p3) fun x7 =>
 pureK (ld (some false) 1 H4 x7) fun x8 =>
 ACalls PP gΓ ref03_Same [x6, x8] H4 fun x9 H10 =>
 condK x9 (
  pureK (fa 1 p1) fun x11 =>
  pureK (ld (some true) 2 H10 x11) fun x12 =>
  pureK (fa 1 p3) fun x13 =>
  pureK (ld (some true) 2 H10 x13) fun x14 =>
  pureK (bop (.flat [.int, .int]) .eql x12 x14) fun x15 =>
  condK x15 (
   pureK (fa 3 p1) fun x16 =>
   pureK (ld (some false) 1 H10 x16) fun x17 =>
   pureK (fa 3 p3) fun x18 =>
   pureK (ld (some false) 1 H10 x18) fun x19 =>
   pureK (bop .plain .eql x17 x19) fun x20 =>
   condK x20 (
    pureK (fa 4 p1) fun x21 =>
    pureK (ld (some false) 1 H10 x21) fun x22 =>
    pureK (fa 4 p3) fun x23 =>
    pureK (ld (some false) 1 H10 x23) fun x24 =>
    ACalls PP gΓ ref04_Texts [x22, x24] H10 fun x25 H26 =>
    ret1 H26 R x25
   ) (
    ret1 H10 R (B false)
   )
  ) (
   ret1 H10 R (B false)
  )
 ) (
  ret1 H10 R (B false)
 )
theorem K_ref19_Same (a0 a1 : AV) (H : Heap) (R : AV → Heap → Prop) : awp E_ref19_Same (drawK E_ref19_Same) C_ref19_Same (fun j => List.getD [a0, a1] j .dead) H (retK PP Tryz.f16.results.toList R) = W_ref19_Same a0 a1 H R := by kernel_rfl
theorem ref19_Same_of {a0 a1 : AV} {H : Heap} {R : AV → Heap → Prop} (h : W_ref19_Same a0 a1 H R) : ACalls PP gΓ ref19_Same [a0, a1] H R :=
  ACalls.of_awp (E := E_ref19_Same) follows_PP Tryz.func16 (c := C_ref19_Same) (by kernel_rfl) Tryz.ntmps16 ((K_ref19_Same a0 a1 H R) ▸ h)

noncomputable def L_law19_Old : Nat → Option (List Nat) := fun k => none
noncomputable abbrev E_law19_Old : Env := ⟨PP, gΓ, 4, L_law19_Old, fun _ => false⟩
noncomputable def C_law19_Old : Code := Tryz.f17.body.getD .skip
def W_law19_Old (a0 : AV) (H : Heap) (R : AV → Heap → Prop) : Prop :=
 allocK (some (AV.cells a0)) H fun p1 H2 =>
 allocP [.lst 0 [] .exact, .sc (.int .i64 0), .sc (.int .i64 0), .sc (.int .i64 0), .lst 0 [] .exact] H2 fun o3 H4 =>
 pureK (ld (some true) 5 H4 p1) fun x5 =>
 heapK (st 5 H4 (.ptr o3 0) x5) fun H6 =>
 pureK (ld (some true) 5 H6 (.ptr o3 0)) fun x7 =>
 ret1 H6 R x7
theorem K_law19_Old (a0 : AV) (H : Heap) (R : AV → Heap → Prop) : awp E_law19_Old (drawK E_law19_Old) C_law19_Old (fun j => List.getD [a0] j .dead) H (retK PP Tryz.f17.results.toList R) = W_law19_Old a0 H R := by kernel_rfl
theorem law19_Old_of {a0 : AV} {H : Heap} {R : AV → Heap → Prop} (h : W_law19_Old a0 H R) : ACalls PP gΓ law19_Old [a0] H R :=
  ACalls.of_awp (E := E_law19_Old) follows_PP Tryz.func17 (c := C_law19_Old) (by kernel_rfl) Tryz.ntmps17 ((K_law19_Old a0 H R) ▸ h)

noncomputable def L_code_Long : Nat → Option (List Nat) := fun k => none
noncomputable abbrev E_code_Long : Env := ⟨PP, gΓ, 12, L_code_Long, fun _ => false⟩
noncomputable def C_code_Long : Code := Tryz.f21.body.getD .skip
def W_code_Long (a0 : AV) (H : Heap) (R : AV → Heap → Prop) : Prop :=
 pureK (bop .plain .lss a0 (I 0)) fun x1 =>
 condK x1 (
  ret1 H R (I 0)
 ) (
  pureK (bop .plain .gtr a0 (I 60)) fun x2 =>
  condK x2 (
   ret1 H R (I 0)
  ) (
   pureK (bop .plain .mul (I 19) a0) fun x3 =>
   pureK (bop .plain .add (I 5) x3) fun x4 =>
   ret1 H R x4
  )
 )
theorem K_code_Long (a0 : AV) (H : Heap) (R : AV → Heap → Prop) : awp E_code_Long (drawK E_code_Long) C_code_Long (fun j => List.getD [a0] j .dead) H (retK PP Tryz.f21.results.toList R) = W_code_Long a0 H R := by kernel_rfl
theorem code_Long_of {a0 : AV} {H : Heap} {R : AV → Heap → Prop} (h : W_code_Long a0 H R) : ACalls PP gΓ code_Long [a0] H R :=
  ACalls.of_awp (E := E_code_Long) follows_PP Tryz.func21 (c := C_code_Long) (by kernel_rfl) Tryz.ntmps21 ((K_code_Long a0 H R) ▸ h)

noncomputable def L_ref03_Depth : Nat → Option (List Nat) := fun k => none
noncomputable abbrev E_ref03_Depth : Env := ⟨PP, gΓ, 11, L_ref03_Depth, fun _ => false⟩
noncomputable def C_ref03_Depth : Code := Tryz.f22.body.getD .skip
def W_ref03_Depth (a0 : AV) (H : Heap) (R : AV → Heap → Prop) : Prop :=
 ACalls PP gΓ ref03_Walk [a0, I 0] H fun x1 H2 =>
 pureK (extractE x1 0) fun x3 =>
 pureK (extractE x1 1) fun x4 =>
 ret1 H2 R x4
theorem K_ref03_Depth (a0 : AV) (H : Heap) (R : AV → Heap → Prop) : awp E_ref03_Depth (drawK E_ref03_Depth) C_ref03_Depth (fun j => List.getD [a0] j .dead) H (retK PP Tryz.f22.results.toList R) = W_ref03_Depth a0 H R := by kernel_rfl
theorem ref03_Depth_of {a0 : AV} {H : Heap} {R : AV → Heap → Prop} (h : W_ref03_Depth a0 H R) : ACalls PP gΓ ref03_Depth [a0] H R :=
  ACalls.of_awp (E := E_ref03_Depth) follows_PP Tryz.func22 (c := C_ref03_Depth) (by kernel_rfl) Tryz.ntmps22 ((K_ref03_Depth a0 H R) ▸ h)

noncomputable def L_code_Same : Nat → Option (List Nat) := fun k => none
noncomputable abbrev E_code_Same : Env := ⟨PP, gΓ, 33, L_code_Same, fun _ => false⟩
noncomputable def C_code_Same : Code := Tryz.f23.body.getD .skip
def W_code_Same (a0 a1 : AV) (H : Heap) (R : AV → Heap → Prop) : Prop :=
 allocK (some (AV.cells a0)) H fun p1 H2 =>
 allocK (some (AV.cells a1)) H2 fun p3 H4 =>
 pureK (fa 0 p1) fun x5 =>
 pureK (ld (some false) 1 H4 x5) fun x6 =>
 pureK (fa 0 p3) fun x7 =>
 pureK (ld (some false) 1 H4 x7) fun x8 =>
 ACalls PP gΓ row_Same [x6, x8] H4 fun x9 H10 =>
 condK x9 (
  pureK (fa 1 p1) fun x11 =>
  pureK (ld (some true) 2 H10 x11) fun x12 =>
  pureK (fa 1 p3) fun x13 =>
  pureK (ld (some true) 2 H10 x13) fun x14 =>
  pureK (bop (.flat [.int, .int]) .eql x12 x14) fun x15 =>
  condK x15 (
   pureK (fa 3 p1) fun x16 =>
   pureK (ld (some false) 1 H10 x16) fun x17 =>
   pureK (fa 3 p3) fun x18 =>
   pureK (ld (some false) 1 H10 x18) fun x19 =>
   pureK (bop .plain .eql x17 x19) fun x20 =>
   condK x20 (
    pureK (fa 4 p1) fun x21 =>
    pureK (ld (some false) 1 H10 x21) fun x22 =>
    pureK (fa 4 p3) fun x23 =>
    pureK (ld (some false) 1 H10 x23) fun x24 =>
    callK (E_code_Same) (.fn (.func code_Same_1) [] []) [x22, x24] H10 fun x25 H26 =>
    ret1 H26 R x25
   ) (
    ret1 H10 R (B false)
   )
  ) (
   ret1 H10 R (B false)
  )
 ) (
  ret1 H10 R (B false)
 )
theorem K_code_Same (a0 a1 : AV) (H : Heap) (R : AV → Heap → Prop) : awp E_code_Same (drawK E_code_Same) C_code_Same (fun j => List.getD [a0, a1] j .dead) H (retK PP Tryz.f23.results.toList R) = W_code_Same a0 a1 H R := by kernel_rfl
theorem code_Same_of {a0 a1 : AV} {H : Heap} {R : AV → Heap → Prop} (h : W_code_Same a0 a1 H R) : ACalls PP gΓ code_Same [a0, a1] H R :=
  ACalls.of_awp (E := E_code_Same) follows_PP Tryz.func23 (c := C_code_Same) (by kernel_rfl) Tryz.ntmps23 ((K_code_Same a0 a1 H R) ▸ h)

noncomputable def L_code_named : Nat → Option (List Nat) := fun k => none
noncomputable abbrev E_code_named : Env := ⟨PP, gΓ, 14, L_code_named, fun _ => false⟩
noncomputable def C_code_named : Code := Tryz.f24.body.getD .skip
def W_code_named (a0 a1 : AV) (H : Heap) (R : AV → Heap → Prop) : Prop :=
 pureK (lns a1) fun x1 =>
 pureK (cv (.toInt .u8) x1) fun x2 =>
 pureK (bsl 1 (.sc (.int .u8 0)) 1 [(0, x2)]) fun x3 =>
 appK 1 a0 x3 H fun x4 H5 =>
 appK 1 x4 a1 H5 fun x6 H7 =>
 ret1 H7 R x6
theorem K_code_named (a0 a1 : AV) (H : Heap) (R : AV → Heap → Prop) : awp E_code_named (drawK E_code_named) C_code_named (fun j => List.getD [a0, a1] j .dead) H (retK PP Tryz.f24.results.toList R) = W_code_named a0 a1 H R := by kernel_rfl
theorem code_named_of {a0 a1 : AV} {H : Heap} {R : AV → Heap → Prop} (h : W_code_named a0 a1 H R) : ACalls PP gΓ code_named [a0, a1] H R :=
  ACalls.of_awp (E := E_code_named) follows_PP Tryz.func24 (c := C_code_named) (by kernel_rfl) Tryz.ntmps24 ((K_code_named a0 a1 H R) ▸ h)

noncomputable def L_ref19_name : Nat → Option (List Nat) := fun k => none
noncomputable abbrev E_ref19_name : Env := ⟨PP, gΓ, 9, L_ref19_name, fun _ => false⟩
noncomputable def C_ref19_name : Code := Tryz.f25.body.getD .skip
def W_ref19_name (a0 : AV) (H : Heap) (R : AV → Heap → Prop) : Prop :=
 pureK (lns a0) fun x1 =>
 pureK (cv (.toInt .u8) x1) fun x2 =>
 pureK (bsl 1 (.sc (.int .u8 0)) 1 [(0, x2)]) fun x3 =>
 appK 1 x3 a0 H fun x4 H5 =>
 ret1 H5 R x4
theorem K_ref19_name (a0 : AV) (H : Heap) (R : AV → Heap → Prop) : awp E_ref19_name (drawK E_ref19_name) C_ref19_name (fun j => List.getD [a0] j .dead) H (retK PP Tryz.f25.results.toList R) = W_ref19_name a0 H R := by kernel_rfl
theorem ref19_name_of {a0 : AV} {H : Heap} {R : AV → Heap → Prop} (h : W_ref19_name a0 H R) : ACalls PP gΓ ref19_name [a0] H R :=
  ACalls.of_awp (E := E_ref19_name) follows_PP Tryz.func25 (c := C_ref19_name) (by kernel_rfl) Tryz.ntmps25 ((K_ref19_name a0 H R) ▸ h)

noncomputable def L_code_Right_1 : Nat → Option (List Nat) := fun k => none
noncomputable abbrev E_code_Right_1 : Env := ⟨PP, gΓ, 7, L_code_Right_1, fun _ => false⟩
noncomputable def C_code_Right_1 : Code := Tryz.f26.body.getD .skip
def W_code_Right_1 (a0 : AV) (H : Heap) (R : AV → Heap → Prop) : Prop :=
 pureK (bld [(0, 1), (1, 1), (2, 1)] [.sc (.int .i64 0), S emp, .sc (.int .i64 0)] [(0, I 1), (1, a0)]) fun x1 =>
 ACalls PP gΓ row_Right [x1] H fun x2 H3 =>
 pureK (unE .not x2) fun x4 =>
 ret1 H3 R x4
theorem K_code_Right_1 (a0 : AV) (H : Heap) (R : AV → Heap → Prop) : awp E_code_Right_1 (drawK E_code_Right_1) C_code_Right_1 (fun j => List.getD [a0] j .dead) H (retK PP Tryz.f26.results.toList R) = W_code_Right_1 a0 H R := by kernel_rfl
theorem code_Right_1_of {a0 : AV} {H : Heap} {R : AV → Heap → Prop} (h : W_code_Right_1 a0 H R) : ACalls PP gΓ code_Right_1 [a0] H R :=
  ACalls.of_awp (E := E_code_Right_1) follows_PP Tryz.func26 (c := C_code_Right_1) (by kernel_rfl) Tryz.ntmps26 ((K_code_Right_1 a0 H R) ▸ h)

noncomputable def L_row_Right : Nat → Option (List Nat) := fun k => none
noncomputable abbrev E_row_Right : Env := ⟨PP, gΓ, 50, L_row_Right, fun _ => false⟩
noncomputable def C_row_Right : Code := Tryz.f27.body.getD .skip
def W_row_Right (a0 : AV) (H : Heap) (R : AV → Heap → Prop) : Prop :=
 allocK (some (AV.cells a0)) H fun p1 H2 =>
 pureK (fa 0 p1) fun x3 =>
 pureK (ld (some false) 1 H2 x3) fun x4 =>
 pureK (bld [(0, 1), (1, 1), (2, 1)] [.sc (.int .i64 0), S emp, .sc (.int .i64 0)] [(0, x4)]) fun x5 =>
 allocP [.sc (.int .i64 0), S emp, .sc (.int .i64 0)] H2 fun o6 H7 =>
 heapK (st 3 H7 (.ptr o6 0) x5) fun H8 =>
 pureK (fa 0 p1) fun x9 =>
 pureK (ld (some false) 1 H8 x9) fun x10 =>
 pureK (bop .plain .eql x10 (I 1)) fun x11 =>
 condK x11 (
  pureK (fa 1 p1) fun x12 =>
  pureK (ld (some false) 1 H8 x12) fun x13 =>
  pureK (fa 1 (.ptr o6 0)) fun x14 =>
  heapK (st 1 H8 x14 x13) fun H15 =>
  pureK (ld (some true) 3 H15 p1) fun x16 =>
  pureK (ld (some true) 3 H15 (.ptr o6 0)) fun x17 =>
  pureK (bop (.flat [.int, .str, .int]) .eql x16 x17) fun x18 =>
  condK x18 (
   pureK (fa 1 p1) fun x19 =>
   pureK (ld (some false) 1 H15 x19) fun x20 =>
   ACalls PP gΓ row_named [x20] H15 fun x21 H22 =>
   ret1 H22 R x21
  ) (
   ret1 H15 R (B false)
  )
 ) (
  pureK (bop .plain .eql x10 (I 11)) fun x23 =>
  condK x23 (
   pureK (fa 2 p1) fun x24 =>
   pureK (ld (some false) 1 H8 x24) fun x25 =>
   pureK (fa 2 (.ptr o6 0)) fun x26 =>
   heapK (st 1 H8 x26 x25) fun H27 =>
   pureK (ld (some true) 3 H27 p1) fun x28 =>
   pureK (ld (some true) 3 H27 (.ptr o6 0)) fun x29 =>
   pureK (bop (.flat [.int, .str, .int]) .eql x28 x29) fun x30 =>
   condK x30 (
    pureK (fa 2 p1) fun x31 =>
    pureK (ld (some false) 1 H27 x31) fun x32 =>
    pureK (bop .plain .geq x32 (I 1)) fun x33 =>
    condK x33 (
     pureK (fa 2 p1) fun x34 =>
     pureK (ld (some false) 1 H27 x34) fun x35 =>
     pureK (bop .plain .leq x35 (I 3)) fun x36 =>
     ret1 H27 R x36
    ) (
     ret1 H27 R (B false)
    )
   ) (
    ret1 H27 R (B false)
   )
  ) (
   pureK (bop .plain .eql x10 (I 14)) fun x37 =>
   condK x37 (
    pureK (fa 2 p1) fun x38 =>
    pureK (ld (some false) 1 H8 x38) fun x39 =>
    pureK (fa 2 (.ptr o6 0)) fun x40 =>
    heapK (st 1 H8 x40 x39) fun H41 =>
    pureK (ld (some true) 3 H41 p1) fun x42 =>
    pureK (ld (some true) 3 H41 (.ptr o6 0)) fun x43 =>
    pureK (bop (.flat [.int, .str, .int]) .eql x42 x43) fun x44 =>
    condK x44 (
     pureK (fa 2 p1) fun x45 =>
     pureK (ld (some false) 1 H41 x45) fun x46 =>
     pureK (bop .plain .geq x46 (I 1)) fun x47 =>
     condK x47 (
      pureK (fa 2 p1) fun x48 =>
      pureK (ld (some false) 1 H41 x48) fun x49 =>
      pureK (bop .plain .leq x49 (I 3)) fun x50 =>
      ret1 H41 R x50
     ) (
      ret1 H41 R (B false)
     )
    ) (
     ret1 H41 R (B false)
    )
   ) (
    pureK (ld (some true) 3 H8 p1) fun x51 =>
    pureK (ld (some true) 3 H8 (.ptr o6 0)) fun x52 =>
    pureK (bop (.flat [.int, .str, .int]) .eql x51 x52) fun x53 =>
    condK x53 (
     pureK (fa 0 p1) fun x54 =>
     pureK (ld (some false) 1 H8 x54) fun x55 =>
     ACalls PP gΓ row_Arity [x55] H8 fun x56 H57 =>
     pureK (bop .plain .geq x56 (I 0)) fun x58 =>
     ret1 H57 R x58
    ) (
     ret1 H8 R (B false)
    )
   )
  )
 )
theorem K_row_Right (a0 : AV) (H : Heap) (R : AV → Heap → Prop) : awp E_row_Right (drawK E_row_Right) C_row_Right (fun j => List.getD [a0] j .dead) H (retK PP Tryz.f27.results.toList R) = W_row_Right a0 H R := by kernel_rfl
theorem row_Right_of {a0 : AV} {H : Heap} {R : AV → Heap → Prop} (h : W_row_Right a0 H R) : ACalls PP gΓ row_Right [a0] H R :=
  ACalls.of_awp (E := E_row_Right) follows_PP Tryz.func27 (c := C_row_Right) (by kernel_rfl) Tryz.ntmps27 ((K_row_Right a0 H R) ▸ h)

noncomputable def L_code_Right_2 : Nat → Option (List Nat) := fun k => none
noncomputable abbrev E_code_Right_2 : Env := ⟨PP, gΓ, 12, L_code_Right_2, fun _ => false⟩
noncomputable def C_code_Right_2 : Code := Tryz.f28.body.getD .skip
def W_code_Right_2 (a0 a1 : AV) (H : Heap) (R : AV → Heap → Prop) : Prop :=
 pureK (bop .plain .geq a0 (I 0)) fun x1 =>
 condK x1 (
  pureK (bop .plain .leq a0 a1) fun x2 =>
  ret1 H R x2
 ) (
  ret1 H R (B false)
 )
theorem K_code_Right_2 (a0 a1 : AV) (H : Heap) (R : AV → Heap → Prop) : awp E_code_Right_2 (drawK E_code_Right_2) C_code_Right_2 (fun j => List.getD [a0, a1] j .dead) H (retK PP Tryz.f28.results.toList R) = W_code_Right_2 a0 a1 H R := by kernel_rfl
theorem code_Right_2_of {a0 a1 : AV} {H : Heap} {R : AV → Heap → Prop} (h : W_code_Right_2 a0 a1 H R) : ACalls PP gΓ code_Right_2 [a0, a1] H R :=
  ACalls.of_awp (E := E_code_Right_2) follows_PP Tryz.func28 (c := C_code_Right_2) (by kernel_rfl) Tryz.ntmps28 ((K_code_Right_2 a0 a1 H R) ▸ h)

noncomputable def L_sort_On : Nat → Option (List Nat) := fun k => none
noncomputable abbrev E_sort_On : Env := ⟨PP, gΓ, 14, L_sort_On, fun _ => false⟩
noncomputable def C_sort_On : Code := Tryz.f29.body.getD .skip
def W_sort_On (a0 a1 : AV) (H : Heap) (R : AV → Heap → Prop) : Prop :=
 condK a1 (
  ACalls PP gΓ sort_Of [a0] H fun x1 H2 =>
  ACalls PP gΓ sort_on [x1] H2 fun x3 H4 =>
  pureK (bop .plain .eql x3 (I 4)) fun x5 =>
  ret1 H4 R x5
 ) (
  ACalls PP gΓ sort_Of [a0] H fun x6 H7 =>
  ACalls PP gΓ sort_on [x6] H7 fun x8 H9 =>
  pureK (bop .plain .eql x8 (I 3)) fun x10 =>
  ret1 H9 R x10
 )
theorem K_sort_On (a0 a1 : AV) (H : Heap) (R : AV → Heap → Prop) : awp E_sort_On (drawK E_sort_On) C_sort_On (fun j => List.getD [a0, a1] j .dead) H (retK PP Tryz.f29.results.toList R) = W_sort_On a0 a1 H R := by kernel_rfl
theorem sort_On_of {a0 a1 : AV} {H : Heap} {R : AV → Heap → Prop} (h : W_sort_On a0 a1 H R) : ACalls PP gΓ sort_On [a0, a1] H R :=
  ACalls.of_awp (E := E_sort_On) follows_PP Tryz.func29 (c := C_sort_On) (by kernel_rfl) Tryz.ntmps29 ((K_sort_On a0 a1 H R) ▸ h)

noncomputable def L_settle_Settled : Nat → Option (List Nat) := fun k => none
noncomputable abbrev E_settle_Settled : Env := ⟨PP, gΓ, 12, L_settle_Settled, fun _ => false⟩
noncomputable def C_settle_Settled : Code := Tryz.f30.body.getD .skip
def W_settle_Settled (a0 : AV) (H : Heap) (R : AV → Heap → Prop) : Prop :=
 pureK (lnl a0) fun x1 =>
 pureK (bop .plain .gtr x1 (I 0)) fun x2 =>
 condK x2 (
  ACalls PP gΓ settle_Settle [a0] H fun x3 H4 =>
  ACalls PP gΓ row_Same [x3, a0] H4 fun x5 H6 =>
  ret1 H6 R x5
 ) (
  ret1 H R (B false)
 )
theorem K_settle_Settled (a0 : AV) (H : Heap) (R : AV → Heap → Prop) : awp E_settle_Settled (drawK E_settle_Settled) C_settle_Settled (fun j => List.getD [a0] j .dead) H (retK PP Tryz.f30.results.toList R) = W_settle_Settled a0 H R := by kernel_rfl
theorem settle_Settled_of {a0 : AV} {H : Heap} {R : AV → Heap → Prop} (h : W_settle_Settled a0 H R) : ACalls PP gΓ settle_Settled [a0] H R :=
  ACalls.of_awp (E := E_settle_Settled) follows_PP Tryz.func30 (c := C_settle_Settled) (by kernel_rfl) Tryz.ntmps30 ((K_settle_Settled a0 H R) ▸ h)

noncomputable def L_slices_ContainsFunc_string : Nat → Option (List Nat) := fun k => none
noncomputable abbrev E_slices_ContainsFunc_string : Env := ⟨PP, gΓ, 9, L_slices_ContainsFunc_string, fun _ => false⟩
noncomputable def C_slices_ContainsFunc_string : Code := Tryz.f31.body.getD .skip
def W_slices_ContainsFunc_string (a0 a1 : AV) (H : Heap) (R : AV → Heap → Prop) : Prop :=
 ACalls PP gΓ slices_IndexFunc_string [a0, a1] H fun x1 H2 =>
 pureK (bop .plain .geq x1 (I 0)) fun x3 =>
 ret1 H2 R x3
theorem K_slices_ContainsFunc_string (a0 a1 : AV) (H : Heap) (R : AV → Heap → Prop) : awp E_slices_ContainsFunc_string (drawK E_slices_ContainsFunc_string) C_slices_ContainsFunc_string (fun j => List.getD [a0, a1] j .dead) H (retK PP Tryz.f31.results.toList R) = W_slices_ContainsFunc_string a0 a1 H R := by kernel_rfl
theorem slices_ContainsFunc_string_of {a0 a1 : AV} {H : Heap} {R : AV → Heap → Prop} (h : W_slices_ContainsFunc_string a0 a1 H R) : ACalls PP gΓ slices_ContainsFunc_string [a0, a1] H R :=
  ACalls.of_awp (E := E_slices_ContainsFunc_string) follows_PP Tryz.func31 (c := C_slices_ContainsFunc_string) (by kernel_rfl) Tryz.ntmps31 ((K_slices_ContainsFunc_string a0 a1 H R) ▸ h)

noncomputable def L_ref04_On : Nat → Option (List Nat) := fun k => none
noncomputable abbrev E_ref04_On : Env := ⟨PP, gΓ, 22, L_ref04_On, fun _ => false⟩
noncomputable def C_ref04_On : Code := Tryz.f32.body.getD .skip
def W_ref04_On (a0 a1 : AV) (H : Heap) (R : AV → Heap → Prop) : Prop :=
 condK a1 (
  ACalls PP gΓ ref04_Of [a0] H fun x1 H2 =>
  pureK (bop .plain .eql x1 (I 2)) fun x3 =>
  condK x3 (
   ret1 H2 R (B true)
  ) (
   ACalls PP gΓ ref04_Of [a0] H2 fun x4 H5 =>
   pureK (bop .plain .eql x4 (I 4)) fun x6 =>
   ret1 H5 R x6
  )
 ) (
  ACalls PP gΓ ref04_Of [a0] H fun x7 H8 =>
  pureK (bop .plain .eql x7 (I 1)) fun x9 =>
  condK x9 (
   ret1 H8 R (B true)
  ) (
   ACalls PP gΓ ref04_Of [a0] H8 fun x10 H11 =>
   pureK (bop .plain .eql x10 (I 3)) fun x12 =>
   ret1 H11 R x12
  )
 )
theorem K_ref04_On (a0 a1 : AV) (H : Heap) (R : AV → Heap → Prop) : awp E_ref04_On (drawK E_ref04_On) C_ref04_On (fun j => List.getD [a0, a1] j .dead) H (retK PP Tryz.f32.results.toList R) = W_ref04_On a0 a1 H R := by kernel_rfl
theorem ref04_On_of {a0 a1 : AV} {H : Heap} {R : AV → Heap → Prop} (h : W_ref04_On a0 a1 H R) : ACalls PP gΓ ref04_On [a0, a1] H R :=
  ACalls.of_awp (E := E_ref04_On) follows_PP Tryz.func32 (c := C_ref04_On) (by kernel_rfl) Tryz.ntmps32 ((K_ref04_On a0 a1 H R) ▸ h)

noncomputable def L_ref11_Settled : Nat → Option (List Nat) := fun k => none
noncomputable abbrev E_ref11_Settled : Env := ⟨PP, gΓ, 12, L_ref11_Settled, fun _ => false⟩
noncomputable def C_ref11_Settled : Code := Tryz.f33.body.getD .skip
def W_ref11_Settled (a0 : AV) (H : Heap) (R : AV → Heap → Prop) : Prop :=
 pureK (lnl a0) fun x1 =>
 pureK (bop .plain .gtr x1 (I 0)) fun x2 =>
 condK x2 (
  ACalls PP gΓ ref10_Settle [a0] H fun x3 H4 =>
  ACalls PP gΓ ref03_Same [x3, a0] H4 fun x5 H6 =>
  ret1 H6 R x5
 ) (
  ret1 H R (B false)
 )
theorem K_ref11_Settled (a0 : AV) (H : Heap) (R : AV → Heap → Prop) : awp E_ref11_Settled (drawK E_ref11_Settled) C_ref11_Settled (fun j => List.getD [a0] j .dead) H (retK PP Tryz.f33.results.toList R) = W_ref11_Settled a0 H R := by kernel_rfl
theorem ref11_Settled_of {a0 : AV} {H : Heap} {R : AV → Heap → Prop} (h : W_ref11_Settled a0 H R) : ACalls PP gΓ ref11_Settled [a0] H R :=
  ACalls.of_awp (E := E_ref11_Settled) follows_PP Tryz.func33 (c := C_ref11_Settled) (by kernel_rfl) Tryz.ntmps33 ((K_ref11_Settled a0 H R) ▸ h)

noncomputable def L_ref03_Right : Nat → Option (List Nat) := fun k => bif Nat.beq k 1005 then some [1, 3] else none
noncomputable abbrev E_ref03_Right : Env := ⟨PP, gΓ, 80, L_ref03_Right, fun _ => false⟩
noncomputable def C_ref03_Right : Code := Tryz.f34.body.getD .skip
def W_ref03_Right (a0 : AV) (H : Heap) (R : AV → Heap → Prop) : Prop :=
 allocK (some (AV.cells a0)) H fun p1 H2 =>
 pureK (fa 0 p1) fun x3 =>
 pureK (ld (some false) 1 H2 x3) fun x4 =>
 ACalls PP gΓ ref03_Arity [x4] H2 fun x5 H6 =>
 pureK (bop .plain .lss x5 (I 0)) fun x7 =>
 condK x7 (
  ret1 H6 R (B false)
 ) (
  pureK (fa 0 p1) fun x8 =>
  pureK (ld (some false) 1 H6 x8) fun x9 =>
  pureK (bop .plain .eql x9 (I 1)) fun x10 =>
  condK x10 (
   ∃ J11 : List AV → Heap → Nat → Prop, (∃ (n17 : Nat) (H18 : Heap), H18 ≤ H6 ∧ J11 [p1, I 0] H18 n17) ∧ ∀ (vs12 : List AV) (H13 : Heap) (n14 : Nat), J11 vs12 H13 n14 →
   pureK (fa 1 (nth vs12 0)) fun x19 =>
   pureK (ld (some false) 1 H13 x19) fun x20 =>
   pureK (lns x20) fun x21 =>
   pureK (bop .plain .lss (nth vs12 1) x21) fun x22 =>
   condK x22 (
    pureK (fa 1 (nth vs12 0)) fun x23 =>
    pureK (ld (some false) 1 H13 x23) fun x24 =>
    pureK (ixs x24 (nth vs12 1)) fun x25 =>
    pureK (bop .plain .lss x25 (.sc (.int .u8 97))) fun x26 =>
    condK x26 (
     ret1 H13 R (B false)
    ) (
     pureK (fa 1 (nth vs12 0)) fun x27 =>
     pureK (ld (some false) 1 H13 x27) fun x28 =>
     pureK (ixs x28 (nth vs12 1)) fun x29 =>
     pureK (bop .plain .gtr x29 (.sc (.int .u8 122))) fun x30 =>
     condK x30 (
      ret1 H13 R (B false)
     ) (
      pureK (bop .plain .add (nth vs12 1) (I 1)) fun x31 =>
      (∃ (n15 : Nat) (H16 : Heap), n15 < n14 ∧ H16 ≤ H13 ∧ J11 [nth vs12 0, x31] H16 n15)
     )
    )
   ) (
    pureK (fa 1 (nth vs12 0)) fun x32 =>
    pureK (ld (some false) 1 H13 x32) fun x33 =>
    pureK (lns x33) fun x34 =>
    pureK (bop .plain .geq x34 (I 1)) fun x35 =>
    condK x35 (
     pureK (fa 1 (nth vs12 0)) fun x36 =>
     pureK (ld (some false) 1 H13 x36) fun x37 =>
     pureK (lns x37) fun x38 =>
     pureK (bop .plain .leq x38 (I 8)) fun x39 =>
     condK x39 (
      pureK (fa 2 (nth vs12 0)) fun x40 =>
      pureK (ld (some false) 1 H13 x40) fun x41 =>
      pureK (bop .plain .eql x41 (I 0)) fun x42 =>
      condK x42 (
       pureK (fa 1 (nth vs12 0)) fun x43 =>
       pureK (ld (some false) 1 H13 x43) fun x44 =>
       ACalls PP gΓ ref03_word [x44] H13 fun x45 H46 =>
       pureK (unE .not x45) fun x47 =>
       ret1 H46 R x47
      ) (
       ret1 H13 R (B false)
      )
     ) (
      ret1 H13 R (B false)
     )
    ) (
     ret1 H13 R (B false)
    )
   )
  ) (
   pureK (fa 0 p1) fun x48 =>
   pureK (ld (some false) 1 H6 x48) fun x49 =>
   pureK (bop .plain .eql x49 (I 11)) fun x50 =>
   condK x50 (
    pureK (fa 1 p1) fun x51 =>
    pureK (ld (some false) 1 H6 x51) fun x52 =>
    pureK (bop .plain .eql x52 (S emp)) fun x53 =>
    condK x53 (
     pureK (fa 2 p1) fun x54 =>
     pureK (ld (some false) 1 H6 x54) fun x55 =>
     pureK (bop .plain .geq x55 (I 1)) fun x56 =>
     condK x56 (
      pureK (fa 2 p1) fun x57 =>
      pureK (ld (some false) 1 H6 x57) fun x58 =>
      pureK (bop .plain .leq x58 (I 3)) fun x59 =>
      ret1 H6 R x59
     ) (
      ret1 H6 R (B false)
     )
    ) (
     ret1 H6 R (B false)
    )
   ) (
    pureK (fa 0 p1) fun x60 =>
    pureK (ld (some false) 1 H6 x60) fun x61 =>
    pureK (bop .plain .eql x61 (I 14)) fun x62 =>
    condK x62 (
     pureK (fa 1 p1) fun x63 =>
     pureK (ld (some false) 1 H6 x63) fun x64 =>
     pureK (bop .plain .eql x64 (S emp)) fun x65 =>
     condK x65 (
      pureK (fa 2 p1) fun x66 =>
      pureK (ld (some false) 1 H6 x66) fun x67 =>
      pureK (bop .plain .geq x67 (I 1)) fun x68 =>
      condK x68 (
       pureK (fa 2 p1) fun x69 =>
       pureK (ld (some false) 1 H6 x69) fun x70 =>
       pureK (bop .plain .leq x70 (I 3)) fun x71 =>
       ret1 H6 R x71
      ) (
       ret1 H6 R (B false)
      )
     ) (
      ret1 H6 R (B false)
     )
    ) (
     pureK (fa 1 p1) fun x72 =>
     pureK (ld (some false) 1 H6 x72) fun x73 =>
     pureK (bop .plain .eql x73 (S emp)) fun x74 =>
     condK x74 (
      pureK (fa 2 p1) fun x75 =>
      pureK (ld (some false) 1 H6 x75) fun x76 =>
      pureK (bop .plain .eql x76 (I 0)) fun x77 =>
      ret1 H6 R x77
     ) (
      ret1 H6 R (B false)
     )
    )
   )
  )
 )
theorem K_ref03_Right (a0 : AV) (H : Heap) (R : AV → Heap → Prop) : awp E_ref03_Right (drawK E_ref03_Right) C_ref03_Right (fun j => List.getD [a0] j .dead) H (retK PP Tryz.f34.results.toList R) = W_ref03_Right a0 H R := by kernel_rfl
theorem ref03_Right_of {a0 : AV} {H : Heap} {R : AV → Heap → Prop} (h : W_ref03_Right a0 H R) : ACalls PP gΓ ref03_Right [a0] H R :=
  ACalls.of_awp (E := E_ref03_Right) follows_PP Tryz.func34 (c := C_ref03_Right) (by kernel_rfl) Tryz.ntmps34 ((K_ref03_Right a0 H R) ▸ h)

noncomputable def L_ref19_in : Nat → Option (List Nat) := fun k => none
noncomputable abbrev E_ref19_in : Env := ⟨PP, gΓ, 12, L_ref19_in, fun _ => false⟩
noncomputable def C_ref19_in : Code := Tryz.f35.body.getD .skip
def W_ref19_in (a0 a1 : AV) (H : Heap) (R : AV → Heap → Prop) : Prop :=
 pureK (bop .plain .geq a0 (I 0)) fun x1 =>
 condK x1 (
  pureK (bop .plain .leq a0 a1) fun x2 =>
  ret1 H R x2
 ) (
  ret1 H R (B false)
 )
theorem K_ref19_in (a0 a1 : AV) (H : Heap) (R : AV → Heap → Prop) : awp E_ref19_in (drawK E_ref19_in) C_ref19_in (fun j => List.getD [a0, a1] j .dead) H (retK PP Tryz.f35.results.toList R) = W_ref19_in a0 a1 H R := by kernel_rfl
theorem ref19_in_of {a0 a1 : AV} {H : Heap} {R : AV → Heap → Prop} (h : W_ref19_in a0 a1 H R) : ACalls PP gΓ ref19_in [a0, a1] H R :=
  ACalls.of_awp (E := E_ref19_in) follows_PP Tryz.func35 (c := C_ref19_in) (by kernel_rfl) Tryz.ntmps35 ((K_ref19_in a0 a1 H R) ▸ h)

noncomputable def L_code_reader_next : Nat → Option (List Nat) := fun k => none
noncomputable abbrev E_code_reader_next : Env := ⟨PP, gΓ, 29, L_code_reader_next, fun _ => false⟩
noncomputable def C_code_reader_next : Code := Tryz.f36.body.getD .skip
def W_code_reader_next (a0 : AV) (H : Heap) (R : AV → Heap → Prop) : Prop :=
 pureK (nilE a0) fun x1 =>
 pureK (fa 0 x1) fun x2 =>
 pureK (ld (some false) 1 H x2) fun x3 =>
 pureK (lnl x3) fun x4 =>
 pureK (bop .plain .eql x4 (I 0)) fun x5 =>
 condK x5 (
  pureK (nilE a0) fun x6 =>
  pureK (fa 1 x6) fun x7 =>
  heapK (st 1 H x7 (B true)) fun H8 =>
  ret1 H8 R (I 0)
 ) (
  pureK (nilE a0) fun x9 =>
  pureK (fa 0 x9) fun x10 =>
  pureK (ld (some false) 1 H x10) fun x11 =>
  pureK (ias 1 x11 (I 0)) fun x12 =>
  pureK (ld (some false) 1 H x12) fun x13 =>
  pureK (nilE a0) fun x14 =>
  pureK (fa 0 x14) fun x15 =>
  pureK (ld (some false) 1 H x15) fun x16 =>
  pureK (sll 1 x16 (some (I 1)) none none) fun x17 =>
  pureK (nilE a0) fun x18 =>
  pureK (fa 0 x18) fun x19 =>
  heapK (st 1 H x19 x17) fun H20 =>
  pureK (cv (.toInt .i64) x13) fun x21 =>
  ret1 H20 R x21
 )
theorem K_code_reader_next (a0 : AV) (H : Heap) (R : AV → Heap → Prop) : awp E_code_reader_next (drawK E_code_reader_next) C_code_reader_next (fun j => List.getD [a0] j .dead) H (retK PP Tryz.f36.results.toList R) = W_code_reader_next a0 H R := by kernel_rfl
theorem code_reader_next_of {a0 : AV} {H : Heap} {R : AV → Heap → Prop} (h : W_code_reader_next a0 H R) : ACalls PP gΓ code_reader_next [a0] H R :=
  ACalls.of_awp (E := E_code_reader_next) follows_PP Tryz.func36 (c := C_code_reader_next) (by kernel_rfl) Tryz.ntmps36 ((K_code_reader_next a0 H R) ▸ h)

noncomputable def L_code_reader_name : Nat → Option (List Nat) := fun k => none
noncomputable abbrev E_code_reader_name : Env := ⟨PP, gΓ, 32, L_code_reader_name, fun _ => false⟩
noncomputable def C_code_reader_name : Code := Tryz.f37.body.getD .skip
def W_code_reader_name (a0 : AV) (H : Heap) (R : AV → Heap → Prop) : Prop :=
 ACalls PP gΓ code_reader_next [a0] H fun x1 H2 =>
 pureK (nilE a0) fun x3 =>
 pureK (fa 0 x3) fun x4 =>
 pureK (ld (some false) 1 H2 x4) fun x5 =>
 pureK (lnl x5) fun x6 =>
 pureK (minE [x1, x6]) fun x7 =>
 pureK (nilE a0) fun x8 =>
 pureK (fa 0 x8) fun x9 =>
 pureK (ld (some false) 1 H2 x9) fun x10 =>
 pureK (sll 1 x10 none (some x7) none) fun x11 =>
 pureK (cv .toStr x11) fun x12 =>
 pureK (nilE a0) fun x13 =>
 pureK (fa 0 x13) fun x14 =>
 pureK (ld (some false) 1 H2 x14) fun x15 =>
 pureK (sll 1 x15 (some x7) none none) fun x16 =>
 pureK (nilE a0) fun x17 =>
 pureK (fa 0 x17) fun x18 =>
 heapK (st 1 H2 x18 x16) fun H19 =>
 ret1 H19 R x12
theorem K_code_reader_name (a0 : AV) (H : Heap) (R : AV → Heap → Prop) : awp E_code_reader_name (drawK E_code_reader_name) C_code_reader_name (fun j => List.getD [a0] j .dead) H (retK PP Tryz.f37.results.toList R) = W_code_reader_name a0 H R := by kernel_rfl
theorem code_reader_name_of {a0 : AV} {H : Heap} {R : AV → Heap → Prop} (h : W_code_reader_name a0 H R) : ACalls PP gΓ code_reader_name [a0] H R :=
  ACalls.of_awp (E := E_code_reader_name) follows_PP Tryz.func37 (c := C_code_reader_name) (by kernel_rfl) Tryz.ntmps37 ((K_code_reader_name a0 H R) ▸ h)

noncomputable def L_bytes_Equal : Nat → Option (List Nat) := fun k => none
noncomputable abbrev E_bytes_Equal : Env := ⟨PP, gΓ, 10, L_bytes_Equal, fun _ => false⟩
noncomputable def C_bytes_Equal : Code := Tryz.f38.body.getD .skip
def W_bytes_Equal (a0 a1 : AV) (H : Heap) (R : AV → Heap → Prop) : Prop :=
 pureK (cv .toStr a0) fun x1 =>
 pureK (cv .toStr a1) fun x2 =>
 pureK (bop .plain .eql x1 x2) fun x3 =>
 ret1 H R x3
theorem K_bytes_Equal (a0 a1 : AV) (H : Heap) (R : AV → Heap → Prop) : awp E_bytes_Equal (drawK E_bytes_Equal) C_bytes_Equal (fun j => List.getD [a0, a1] j .dead) H (retK PP Tryz.f38.results.toList R) = W_bytes_Equal a0 a1 H R := by kernel_rfl
theorem bytes_Equal_of {a0 a1 : AV} {H : Heap} {R : AV → Heap → Prop} (h : W_bytes_Equal a0 a1 H R) : ACalls PP gΓ bytes_Equal [a0, a1] H R :=
  ACalls.of_awp (E := E_bytes_Equal) follows_PP Tryz.func38 (c := C_bytes_Equal) (by kernel_rfl) Tryz.ntmps38 ((K_bytes_Equal a0 a1 H R) ▸ h)

noncomputable def L_ref19_at : Nat → Option (List Nat) := fun k => none
noncomputable abbrev E_ref19_at : Env := ⟨PP, gΓ, 18, L_ref19_at, fun _ => false⟩
noncomputable def C_ref19_at : Code := Tryz.f39.body.getD .skip
def W_ref19_at (a0 a1 : AV) (H : Heap) (R : AV → Heap → Prop) : Prop :=
 pureK (bop .plain .lss a1 (I 0)) fun x1 =>
 condK x1 (
  ret1 H R (I (-1))
 ) (
  pureK (lnl a0) fun x2 =>
  pureK (bop .plain .geq a1 x2) fun x3 =>
  condK x3 (
   ret1 H R (I (-1))
  ) (
   pureK (ias 1 a0 a1) fun x4 =>
   pureK (ld (some false) 1 H x4) fun x5 =>
   pureK (cv (.toInt .i64) x5) fun x6 =>
   ret1 H R x6
  )
 )
theorem K_ref19_at (a0 a1 : AV) (H : Heap) (R : AV → Heap → Prop) : awp E_ref19_at (drawK E_ref19_at) C_ref19_at (fun j => List.getD [a0, a1] j .dead) H (retK PP Tryz.f39.results.toList R) = W_ref19_at a0 a1 H R := by kernel_rfl
theorem ref19_at_of {a0 a1 : AV} {H : Heap} {R : AV → Heap → Prop} (h : W_ref19_at a0 a1 H R) : ACalls PP gΓ ref19_at [a0, a1] H R :=
  ACalls.of_awp (E := E_ref19_at) follows_PP Tryz.func39 (c := C_ref19_at) (by kernel_rfl) Tryz.ntmps39 ((K_ref19_at a0 a1 H R) ▸ h)

noncomputable def L_ref19_node : Nat → Option (List Nat) := fun k => none
noncomputable abbrev E_ref19_node : Env := ⟨PP, gΓ, 51, L_ref19_node, fun _ => false⟩
noncomputable def C_ref19_node : Code := Tryz.f40.body.getD .skip
def W_ref19_node (a0 a1 : AV) (H : Heap) (R : AV → Heap → Prop) : Prop :=
 allocP [.sc (.int .i64 0), S emp, .sc (.int .i64 0)] H fun o1 H2 =>
 ACalls PP gΓ ref19_at [a0, a1] H2 fun x3 H4 =>
 pureK (bop .plain .eql x3 (I 1)) fun x5 =>
 condK x5 (
  pureK (bop .plain .add a1 (I 1)) fun x6 =>
  ACalls PP gΓ ref19_named [a0, x6] H4 fun x7 H8 =>
  pureK (extractE x7 0) fun x9 =>
  pureK (extractE x7 1) fun x10 =>
  pureK (bld [(0, 1), (1, 1), (2, 1)] [.sc (.int .i64 0), S emp, .sc (.int .i64 0)] [(0, I 1), (1, x9)]) fun x11 =>
  heapK (st 3 H8 (.ptr o1 0) x11) fun H12 =>
  pureK (ld (some true) 3 H12 (.ptr o1 0)) fun x13 =>
  ret1 H12 R (.tup [x13, x10])
 ) (
  pureK (bop .plain .eql x3 (I 11)) fun x14 =>
  condK x14 (
   pureK (bop .plain .add a1 (I 1)) fun x15 =>
   ACalls PP gΓ ref19_at [a0, x15] H4 fun x16 H17 =>
   pureK (bop .plain .lss x16 (I 0)) fun x18 =>
   condK x18 (
    pureK (bld [(0, 1), (1, 1), (2, 1)] [.sc (.int .i64 0), S emp, .sc (.int .i64 0)] []) fun x19 =>
    heapK (st 3 H17 (.ptr o1 0) x19) fun H20 =>
    pureK (ld (some true) 3 H20 (.ptr o1 0)) fun x21 =>
    ret1 H20 R (.tup [x21, I (-1)])
   ) (
    pureK (bop .plain .add a1 (I 1)) fun x22 =>
    ACalls PP gΓ ref19_at [a0, x22] H17 fun x23 H24 =>
    pureK (bld [(0, 1), (1, 1), (2, 1)] [.sc (.int .i64 0), S emp, .sc (.int .i64 0)] [(0, x3), (2, x23)]) fun x25 =>
    pureK (bop .plain .add a1 (I 2)) fun x26 =>
    heapK (st 3 H24 (.ptr o1 0) x25) fun H27 =>
    pureK (ld (some true) 3 H27 (.ptr o1 0)) fun x28 =>
    ret1 H27 R (.tup [x28, x26])
   )
  ) (
   pureK (bop .plain .eql x3 (I 14)) fun x29 =>
   condK x29 (
    pureK (bop .plain .add a1 (I 1)) fun x30 =>
    ACalls PP gΓ ref19_at [a0, x30] H4 fun x31 H32 =>
    pureK (bop .plain .lss x31 (I 0)) fun x33 =>
    condK x33 (
     pureK (bld [(0, 1), (1, 1), (2, 1)] [.sc (.int .i64 0), S emp, .sc (.int .i64 0)] []) fun x34 =>
     heapK (st 3 H32 (.ptr o1 0) x34) fun H35 =>
     pureK (ld (some true) 3 H35 (.ptr o1 0)) fun x36 =>
     ret1 H35 R (.tup [x36, I (-1)])
    ) (
     pureK (bop .plain .add a1 (I 1)) fun x37 =>
     ACalls PP gΓ ref19_at [a0, x37] H32 fun x38 H39 =>
     pureK (bld [(0, 1), (1, 1), (2, 1)] [.sc (.int .i64 0), S emp, .sc (.int .i64 0)] [(0, x3), (2, x38)]) fun x40 =>
     pureK (bop .plain .add a1 (I 2)) fun x41 =>
     heapK (st 3 H39 (.ptr o1 0) x40) fun H42 =>
     pureK (ld (some true) 3 H42 (.ptr o1 0)) fun x43 =>
     ret1 H42 R (.tup [x43, x41])
    )
   ) (
    pureK (bop .plain .lss x3 (I 0)) fun x44 =>
    condK x44 (
     pureK (bld [(0, 1), (1, 1), (2, 1)] [.sc (.int .i64 0), S emp, .sc (.int .i64 0)] []) fun x45 =>
     heapK (st 3 H4 (.ptr o1 0) x45) fun H46 =>
     pureK (ld (some true) 3 H46 (.ptr o1 0)) fun x47 =>
     ret1 H46 R (.tup [x47, I (-1)])
    ) (
     pureK (bld [(0, 1), (1, 1), (2, 1)] [.sc (.int .i64 0), S emp, .sc (.int .i64 0)] [(0, x3)]) fun x48 =>
     pureK (bop .plain .add a1 (I 1)) fun x49 =>
     heapK (st 3 H4 (.ptr o1 0) x48) fun H50 =>
     pureK (ld (some true) 3 H50 (.ptr o1 0)) fun x51 =>
     ret1 H50 R (.tup [x51, x49])
    )
   )
  )
 )
theorem K_ref19_node (a0 a1 : AV) (H : Heap) (R : AV → Heap → Prop) : awp E_ref19_node (drawK E_ref19_node) C_ref19_node (fun j => List.getD [a0, a1] j .dead) H (retK PP Tryz.f40.results.toList R) = W_ref19_node a0 a1 H R := by kernel_rfl
theorem ref19_node_of {a0 a1 : AV} {H : Heap} {R : AV → Heap → Prop} (h : W_ref19_node a0 a1 H R) : ACalls PP gΓ ref19_node [a0, a1] H R :=
  ACalls.of_awp (E := E_ref19_node) follows_PP Tryz.func40 (c := C_ref19_node) (by kernel_rfl) Tryz.ntmps40 ((K_ref19_node a0 a1 H R) ▸ h)

noncomputable def L_ref19_named : Nat → Option (List Nat) := fun k => none
noncomputable abbrev E_ref19_named : Env := ⟨PP, gΓ, 34, L_ref19_named, fun _ => false⟩
noncomputable def C_ref19_named : Code := Tryz.f41.body.getD .skip
def W_ref19_named (a0 a1 : AV) (H : Heap) (R : AV → Heap → Prop) : Prop :=
 ACalls PP gΓ ref19_at [a0, a1] H fun x1 H2 =>
 pureK (bop .plain .lss x1 (I 0)) fun x3 =>
 condK x3 (
  ret1 H2 R (.tup [S emp, I (-1)])
 ) (
  pureK (bop .plain .add a1 (I 1)) fun x4 =>
  pureK (bop .plain .add x4 x1) fun x5 =>
  pureK (lnl a0) fun x6 =>
  pureK (bop .plain .gtr x5 x6) fun x7 =>
  condK x7 (
   ret1 H2 R (.tup [S emp, I (-1)])
  ) (
   pureK (bop .plain .add a1 (I 1)) fun x8 =>
   pureK (bop .plain .add a1 (I 1)) fun x9 =>
   pureK (bop .plain .add x9 x1) fun x10 =>
   pureK (sll 1 a0 (some x8) (some x10) none) fun x11 =>
   pureK (cv .toStr x11) fun x12 =>
   pureK (bop .plain .add a1 (I 1)) fun x13 =>
   pureK (bop .plain .add x13 x1) fun x14 =>
   ret1 H2 R (.tup [x12, x14])
  )
 )
theorem K_ref19_named (a0 a1 : AV) (H : Heap) (R : AV → Heap → Prop) : awp E_ref19_named (drawK E_ref19_named) C_ref19_named (fun j => List.getD [a0, a1] j .dead) H (retK PP Tryz.f41.results.toList R) = W_ref19_named a0 a1 H R := by kernel_rfl
theorem ref19_named_of {a0 a1 : AV} {H : Heap} {R : AV → Heap → Prop} (h : W_ref19_named a0 a1 H R) : ACalls PP gΓ ref19_named [a0, a1] H R :=
  ACalls.of_awp (E := E_ref19_named) follows_PP Tryz.func41 (c := C_ref19_named) (by kernel_rfl) Tryz.ntmps41 ((K_ref19_named a0 a1 H R) ▸ h)

noncomputable def L_ref03_Same : Nat → Option (List Nat) := fun k => bif Nat.beq k 1004 then some [0, 1, 5] else none
noncomputable abbrev E_ref03_Same : Env := ⟨PP, gΓ, 26, L_ref03_Same, fun _ => false⟩
noncomputable def C_ref03_Same : Code := Tryz.f42.body.getD .skip
def W_ref03_Same (a0 a1 : AV) (H : Heap) (R : AV → Heap → Prop) : Prop :=
 pureK (lnl a0) fun x1 =>
 pureK (lnl a1) fun x2 =>
 pureK (bop .plain .neq x1 x2) fun x3 =>
 condK x3 (
  ret1 H R (B false)
 ) (
  ∃ J4 : List AV → Heap → Nat → Prop, (∃ (n10 : Nat) (H11 : Heap), H11 ≤ H ∧ J4 [a0, a1, I 0] H11 n10) ∧ ∀ (vs5 : List AV) (H6 : Heap) (n7 : Nat), J4 vs5 H6 n7 →
  pureK (lnl (nth vs5 0)) fun x12 =>
  pureK (bop .plain .lss (nth vs5 2) x12) fun x13 =>
  condK x13 (
   pureK (ias 3 (nth vs5 0) (nth vs5 2)) fun x14 =>
   pureK (ld (some true) 3 H6 x14) fun x15 =>
   pureK (ias 3 (nth vs5 1) (nth vs5 2)) fun x16 =>
   pureK (ld (some true) 3 H6 x16) fun x17 =>
   pureK (bop (.flat [.int, .str, .int]) .neq x15 x17) fun x18 =>
   condK x18 (
    ret1 H6 R (B false)
   ) (
    pureK (bop .plain .add (nth vs5 2) (I 1)) fun x19 =>
    (∃ (n8 : Nat) (H9 : Heap), n8 < n7 ∧ H9 ≤ H6 ∧ J4 [nth vs5 0, nth vs5 1, x19] H9 n8)
   )
  ) (
   ret1 H6 R (B true)
  )
 )
theorem K_ref03_Same (a0 a1 : AV) (H : Heap) (R : AV → Heap → Prop) : awp E_ref03_Same (drawK E_ref03_Same) C_ref03_Same (fun j => List.getD [a0, a1] j .dead) H (retK PP Tryz.f42.results.toList R) = W_ref03_Same a0 a1 H R := by kernel_rfl
theorem ref03_Same_of {a0 a1 : AV} {H : Heap} {R : AV → Heap → Prop} (h : W_ref03_Same a0 a1 H R) : ACalls PP gΓ ref03_Same [a0, a1] H R :=
  ACalls.of_awp (E := E_ref03_Same) follows_PP Tryz.func42 (c := C_ref03_Same) (by kernel_rfl) Tryz.ntmps42 ((K_ref03_Same a0 a1 H R) ▸ h)

noncomputable def L_ref04_Texts : Nat → Option (List Nat) := fun k => bif Nat.beq k 1004 then some [0, 1, 5] else none
noncomputable abbrev E_ref04_Texts : Env := ⟨PP, gΓ, 26, L_ref04_Texts, fun _ => false⟩
noncomputable def C_ref04_Texts : Code := Tryz.f43.body.getD .skip
def W_ref04_Texts (a0 a1 : AV) (H : Heap) (R : AV → Heap → Prop) : Prop :=
 pureK (lnl a0) fun x1 =>
 pureK (lnl a1) fun x2 =>
 pureK (bop .plain .neq x1 x2) fun x3 =>
 condK x3 (
  ret1 H R (B false)
 ) (
  ∃ J4 : List AV → Heap → Nat → Prop, (∃ (n10 : Nat) (H11 : Heap), H11 ≤ H ∧ J4 [a0, a1, I 0] H11 n10) ∧ ∀ (vs5 : List AV) (H6 : Heap) (n7 : Nat), J4 vs5 H6 n7 →
  pureK (lnl (nth vs5 0)) fun x12 =>
  pureK (bop .plain .lss (nth vs5 2) x12) fun x13 =>
  condK x13 (
   pureK (ias 1 (nth vs5 0) (nth vs5 2)) fun x14 =>
   pureK (ld (some false) 1 H6 x14) fun x15 =>
   pureK (ias 1 (nth vs5 1) (nth vs5 2)) fun x16 =>
   pureK (ld (some false) 1 H6 x16) fun x17 =>
   pureK (bop .plain .neq x15 x17) fun x18 =>
   condK x18 (
    ret1 H6 R (B false)
   ) (
    pureK (bop .plain .add (nth vs5 2) (I 1)) fun x19 =>
    (∃ (n8 : Nat) (H9 : Heap), n8 < n7 ∧ H9 ≤ H6 ∧ J4 [nth vs5 0, nth vs5 1, x19] H9 n8)
   )
  ) (
   ret1 H6 R (B true)
  )
 )
theorem K_ref04_Texts (a0 a1 : AV) (H : Heap) (R : AV → Heap → Prop) : awp E_ref04_Texts (drawK E_ref04_Texts) C_ref04_Texts (fun j => List.getD [a0, a1] j .dead) H (retK PP Tryz.f43.results.toList R) = W_ref04_Texts a0 a1 H R := by kernel_rfl
theorem ref04_Texts_of {a0 a1 : AV} {H : Heap} {R : AV → Heap → Prop} (h : W_ref04_Texts a0 a1 H R) : ACalls PP gΓ ref04_Texts [a0, a1] H R :=
  ACalls.of_awp (E := E_ref04_Texts) follows_PP Tryz.func43 (c := C_ref04_Texts) (by kernel_rfl) Tryz.ntmps43 ((K_ref04_Texts a0 a1 H R) ▸ h)

noncomputable def L_settle_Settle : Nat → Option (List Nat) := fun k => none
noncomputable abbrev E_settle_Settle : Env := ⟨PP, gΓ, 20, L_settle_Settle, fun _ => false⟩
noncomputable def C_settle_Settle : Code := Tryz.f44.body.getD .skip
def W_settle_Settle (a0 : AV) (H : Heap) (R : AV → Heap → Prop) : Prop :=
 ACalls PP gΓ sort_On [a0, B false] H fun x1 H2 =>
 pureK (unE .not x1) fun x3 =>
 condK x3 (
  ACalls PP gΓ sort_On [a0, B true] H2 fun x4 H5 =>
  pureK (unE .not x4) fun x6 =>
  condK x6 (
   ret1 H5 R (.lst 0 [] .exact)
  ) (
   ACalls PP gΓ settle_settle [a0] H5 fun x7 H8 =>
   pureK (lnl x7) fun x9 =>
   pureK (bop .plain .gtr x9 (I 200)) fun x10 =>
   condK x10 (
    ret1 H8 R (.lst 0 [] .exact)
   ) (
    pureK (bsl 3 (.agg [.sc (.int .i64 0), S emp, .sc (.int .i64 0)]) 0 []) fun x11 =>
    appK 3 x11 x7 H8 fun x12 H13 =>
    ret1 H13 R x12
   )
  )
 ) (
  ACalls PP gΓ settle_settle [a0] H2 fun x14 H15 =>
  pureK (lnl x14) fun x16 =>
  pureK (bop .plain .gtr x16 (I 200)) fun x17 =>
  condK x17 (
   ret1 H15 R (.lst 0 [] .exact)
  ) (
   pureK (bsl 3 (.agg [.sc (.int .i64 0), S emp, .sc (.int .i64 0)]) 0 []) fun x18 =>
   appK 3 x18 x14 H15 fun x19 H20 =>
   ret1 H20 R x19
  )
 )
theorem K_settle_Settle (a0 : AV) (H : Heap) (R : AV → Heap → Prop) : awp E_settle_Settle (drawK E_settle_Settle) C_settle_Settle (fun j => List.getD [a0] j .dead) H (retK PP Tryz.f44.results.toList R) = W_settle_Settle a0 H R := by kernel_rfl
theorem settle_Settle_of {a0 : AV} {H : Heap} {R : AV → Heap → Prop} (h : W_settle_Settle a0 H R) : ACalls PP gΓ settle_Settle [a0] H R :=
  ACalls.of_awp (E := E_settle_Settle) follows_PP Tryz.func44 (c := C_settle_Settle) (by kernel_rfl) Tryz.ntmps44 ((K_settle_Settle a0 H R) ▸ h)

noncomputable def L_slices_Clone_Node : Nat → Option (List Nat) := fun k => none
noncomputable abbrev E_slices_Clone_Node : Env := ⟨PP, gΓ, 8, L_slices_Clone_Node, fun _ => false⟩
noncomputable def C_slices_Clone_Node : Code := Tryz.f45.body.getD .skip
def W_slices_Clone_Node (a0 : AV) (H : Heap) (R : AV → Heap → Prop) : Prop :=
 pureK (bop (.slice true) .eql a0 (.lst 0 [] .exact)) fun x1 =>
 condK x1 (
  ret1 H R (.lst 0 [] .exact)
 ) (
  pureK (bsl 3 (.agg [.sc (.int .i64 0), S emp, .sc (.int .i64 0)]) 0 []) fun x2 =>
  appK 3 x2 a0 H fun x3 H4 =>
  ret1 H4 R x3
 )
theorem K_slices_Clone_Node (a0 : AV) (H : Heap) (R : AV → Heap → Prop) : awp E_slices_Clone_Node (drawK E_slices_Clone_Node) C_slices_Clone_Node (fun j => List.getD [a0] j .dead) H (retK PP Tryz.f45.results.toList R) = W_slices_Clone_Node a0 H R := by kernel_rfl
theorem slices_Clone_Node_of {a0 : AV} {H : Heap} {R : AV → Heap → Prop} (h : W_slices_Clone_Node a0 H R) : ACalls PP gΓ slices_Clone_Node [a0] H R :=
  ACalls.of_awp (E := E_slices_Clone_Node) follows_PP Tryz.func45 (c := C_slices_Clone_Node) (by kernel_rfl) Tryz.ntmps45 ((K_slices_Clone_Node a0 H R) ▸ h)

noncomputable def L_ref03_Walk : Nat → Option (List Nat) := fun k => bif Nat.beq k 1006 then some [0, 1, 6, 7, 8] else none
noncomputable abbrev E_ref03_Walk : Env := ⟨PP, gΓ, 52, L_ref03_Walk, fun _ => false⟩
noncomputable def C_ref03_Walk : Code := Tryz.f50.body.getD .skip
def W_ref03_Walk (a0 a1 : AV) (H : Heap) (R : AV → Heap → Prop) : Prop :=
 pureK (lnl a0) fun x1 =>
 pureK (bop .plain .geq a1 x1) fun x2 =>
 condK x2 (
  ret1 H R (.tup [I (-1), I 0])
 ) (
  pureK (ias 3 a0 a1) fun x3 =>
  pureK (fa 0 x3) fun x4 =>
  pureK (ld (some false) 1 H x4) fun x5 =>
  ACalls PP gΓ ref03_Arity [x5] H fun x6 H7 =>
  pureK (bop .plain .lss x6 (I 0)) fun x8 =>
  condK x8 (
   ret1 H7 R (.tup [I (-1), I 0])
  ) (
   pureK (bop .plain .add a1 (I 1)) fun x9 =>
   ∃ J10 : List AV → Heap → Nat → Prop, (∃ (n16 : Nat) (H17 : Heap), H17 ≤ H7 ∧ J10 [a0, a1, x9, I 0, I 0] H17 n16) ∧ ∀ (vs11 : List AV) (H12 : Heap) (n13 : Nat), J10 vs11 H12 n13 →
   pureK (ias 3 (nth vs11 0) (nth vs11 1)) fun x18 =>
   pureK (fa 0 x18) fun x19 =>
   pureK (ld (some false) 1 H12 x19) fun x20 =>
   ACalls PP gΓ ref03_Arity [x20] H12 fun x21 H22 =>
   pureK (bop .plain .lss (nth vs11 4) x21) fun x23 =>
   condK x23 (
    ACalls PP gΓ ref03_Walk [nth vs11 0, nth vs11 2] H22 fun x24 H25 =>
    pureK (extractE x24 0) fun x26 =>
    pureK (extractE x24 1) fun x27 =>
    pureK (bop .plain .lss x26 (I 0)) fun x28 =>
    condK x28 (
     ret1 H25 R (.tup [I (-1), I 0])
    ) (
     pureK (bop .plain .gtr x27 (nth vs11 3)) fun x29 =>
     condK x29 (
      pureK (bop .plain .add (nth vs11 4) (I 1)) fun x30 =>
      (∃ (n14 : Nat) (H15 : Heap), n14 < n13 ∧ H15 ≤ H25 ∧ J10 [nth vs11 0, nth vs11 1, x26, x27, x30] H15 n14)
     ) (
      pureK (bop .plain .add (nth vs11 4) (I 1)) fun x31 =>
      (∃ (n14 : Nat) (H15 : Heap), n14 < n13 ∧ H15 ≤ H25 ∧ J10 [nth vs11 0, nth vs11 1, x26, nth vs11 3, x31] H15 n14)
     )
    )
   ) (
    pureK (bop .plain .add (nth vs11 3) (I 1)) fun x32 =>
    ret1 H22 R (.tup [nth vs11 2, x32])
   )
  )
 )
theorem K_ref03_Walk (a0 a1 : AV) (H : Heap) (R : AV → Heap → Prop) : awp E_ref03_Walk (drawK E_ref03_Walk) C_ref03_Walk (fun j => List.getD [a0, a1] j .dead) H (retK PP Tryz.f50.results.toList R) = W_ref03_Walk a0 a1 H R := by kernel_rfl
theorem ref03_Walk_of {a0 a1 : AV} {H : Heap} {R : AV → Heap → Prop} (h : W_ref03_Walk a0 a1 H R) : ACalls PP gΓ ref03_Walk [a0, a1] H R :=
  ACalls.of_awp (E := E_ref03_Walk) follows_PP Tryz.func50 (c := C_ref03_Walk) (by kernel_rfl) Tryz.ntmps50 ((K_ref03_Walk a0 a1 H R) ▸ h)

noncomputable def L_code_Same_1 : Nat → Option (List Nat) := fun k => none
noncomputable abbrev E_code_Same_1 : Env := ⟨PP, gΓ, 8, L_code_Same_1, fun _ => false⟩
noncomputable def C_code_Same_1 : Code := Tryz.f51.body.getD .skip
def W_code_Same_1 (a0 a1 : AV) (H : Heap) (R : AV → Heap → Prop) : Prop :=
 ACalls PP gΓ slices_Equal_string [a0, a1] H fun x1 H2 =>
 ret1 H2 R x1
theorem K_code_Same_1 (a0 a1 : AV) (H : Heap) (R : AV → Heap → Prop) : awp E_code_Same_1 (drawK E_code_Same_1) C_code_Same_1 (fun j => List.getD [a0, a1] j .dead) H (retK PP Tryz.f51.results.toList R) = W_code_Same_1 a0 a1 H R := by kernel_rfl
theorem code_Same_1_of {a0 a1 : AV} {H : Heap} {R : AV → Heap → Prop} (h : W_code_Same_1 a0 a1 H R) : ACalls PP gΓ code_Same_1 [a0, a1] H R :=
  ACalls.of_awp (E := E_code_Same_1) follows_PP Tryz.func51 (c := C_code_Same_1) (by kernel_rfl) Tryz.ntmps51 ((K_code_Same_1 a0 a1 H R) ▸ h)

noncomputable def L_slices_Equal_string : Nat → Option (List Nat) := fun k => bif Nat.beq k 1004 then some [0, 1, 12, 13] else none
noncomputable abbrev E_slices_Equal_string : Env := ⟨PP, gΓ, 26, L_slices_Equal_string, fun _ => false⟩
noncomputable def C_slices_Equal_string : Code := Tryz.f52.body.getD .skip
def W_slices_Equal_string (a0 a1 : AV) (H : Heap) (R : AV → Heap → Prop) : Prop :=
 pureK (lnl a0) fun x1 =>
 pureK (lnl a1) fun x2 =>
 pureK (bop .plain .neq x1 x2) fun x3 =>
 condK x3 (
  ret1 H R (B false)
 ) (
  pureK (lnl a0) fun x4 =>
  ∃ J5 : List AV → Heap → Nat → Prop, (∃ (n11 : Nat) (H12 : Heap), H12 ≤ H ∧ J5 [a0, a1, x4, I 0] H12 n11) ∧ ∀ (vs6 : List AV) (H7 : Heap) (n8 : Nat), J5 vs6 H7 n8 →
  pureK (bop .plain .lss (nth vs6 3) (nth vs6 2)) fun x13 =>
  condK x13 (
   pureK (ias 1 (nth vs6 0) (nth vs6 3)) fun x14 =>
   pureK (ld (some false) 1 H7 x14) fun x15 =>
   pureK (ias 1 (nth vs6 1) (nth vs6 3)) fun x16 =>
   pureK (ld (some false) 1 H7 x16) fun x17 =>
   pureK (bop .plain .neq x15 x17) fun x18 =>
   condK x18 (
    ret1 H7 R (B false)
   ) (
    pureK (bop .plain .add (nth vs6 3) (I 1)) fun x19 =>
    (∃ (n9 : Nat) (H10 : Heap), n9 < n8 ∧ H10 ≤ H7 ∧ J5 [nth vs6 0, nth vs6 1, nth vs6 2, x19] H10 n9)
   )
  ) (
   ret1 H7 R (B true)
  )
 )
theorem K_slices_Equal_string (a0 a1 : AV) (H : Heap) (R : AV → Heap → Prop) : awp E_slices_Equal_string (drawK E_slices_Equal_string) C_slices_Equal_string (fun j => List.getD [a0, a1] j .dead) H (retK PP Tryz.f52.results.toList R) = W_slices_Equal_string a0 a1 H R := by kernel_rfl
theorem slices_Equal_string_of {a0 a1 : AV} {H : Heap} {R : AV → Heap → Prop} (h : W_slices_Equal_string a0 a1 H R) : ACalls PP gΓ slices_Equal_string [a0, a1] H R :=
  ACalls.of_awp (E := E_slices_Equal_string) follows_PP Tryz.func52 (c := C_slices_Equal_string) (by kernel_rfl) Tryz.ntmps52 ((K_slices_Equal_string a0 a1 H R) ▸ h)

noncomputable def L_row_Same : Nat → Option (List Nat) := fun k => none
noncomputable abbrev E_row_Same : Env := ⟨PP, gΓ, 8, L_row_Same, fun _ => false⟩
noncomputable def C_row_Same : Code := Tryz.f53.body.getD .skip
def W_row_Same (a0 a1 : AV) (H : Heap) (R : AV → Heap → Prop) : Prop :=
 ACalls PP gΓ slices_Equal_Node [a0, a1] H fun x1 H2 =>
 ret1 H2 R x1
theorem K_row_Same (a0 a1 : AV) (H : Heap) (R : AV → Heap → Prop) : awp E_row_Same (drawK E_row_Same) C_row_Same (fun j => List.getD [a0, a1] j .dead) H (retK PP Tryz.f53.results.toList R) = W_row_Same a0 a1 H R := by kernel_rfl
theorem row_Same_of {a0 a1 : AV} {H : Heap} {R : AV → Heap → Prop} (h : W_row_Same a0 a1 H R) : ACalls PP gΓ row_Same [a0, a1] H R :=
  ACalls.of_awp (E := E_row_Same) follows_PP Tryz.func53 (c := C_row_Same) (by kernel_rfl) Tryz.ntmps53 ((K_row_Same a0 a1 H R) ▸ h)

noncomputable def L_row_named : Nat → Option (List Nat) := fun k => none
noncomputable abbrev E_row_named : Env := ⟨PP, gΓ, 21, L_row_named, fun _ => false⟩
noncomputable def C_row_named : Code := Tryz.f54.body.getD .skip
def W_row_named (a0 : AV) (H : Heap) (R : AV → Heap → Prop) : Prop :=
 pureK (bop .plain .neq a0 (S emp)) fun x1 =>
 condK x1 (
  pureK (lns a0) fun x2 =>
  pureK (bop .plain .leq x2 (I 8)) fun x3 =>
  condK x3 (
   ACalls PP gΓ strings_Trim [a0, S s_abcdefghijklmnopqrstuvwxyz] H fun x4 H5 =>
   pureK (bop .plain .eql x4 (S emp)) fun x6 =>
   condK x6 (
    pureK (sla 6 1 g0 none none none) fun x7 =>
    ACalls PP gΓ slices_Contains_string [x7, a0] H5 fun x8 H9 =>
    pureK (unE .not x8) fun x10 =>
    ret1 H9 R x10
   ) (
    ret1 H5 R (B false)
   )
  ) (
   ret1 H R (B false)
  )
 ) (
  ret1 H R (B false)
 )
theorem K_row_named (a0 : AV) (H : Heap) (R : AV → Heap → Prop) : awp E_row_named (drawK E_row_named) C_row_named (fun j => List.getD [a0] j .dead) H (retK PP Tryz.f54.results.toList R) = W_row_named a0 H R := by kernel_rfl
theorem row_named_of {a0 : AV} {H : Heap} {R : AV → Heap → Prop} (h : W_row_named a0 H R) : ACalls PP gΓ row_named [a0] H R :=
  ACalls.of_awp (E := E_row_named) follows_PP Tryz.func54 (c := C_row_named) (by kernel_rfl) Tryz.ntmps54 ((K_row_named a0 H R) ▸ h)

noncomputable def L_row_Arity : Nat → Option (List Nat) := fun k => none
noncomputable abbrev E_row_Arity : Env := ⟨PP, gΓ, 21, L_row_Arity, fun _ => false⟩
noncomputable def C_row_Arity : Code := Tryz.f55.body.getD .skip
def W_row_Arity (a0 : AV) (H : Heap) (R : AV → Heap → Prop) : Prop :=
 pureK (bop .plain .eql a0 (I 1)) fun x1 =>
 condK x1 (
  ret1 H R (I 0)
 ) (
  pureK (bop .plain .eql a0 (I 2)) fun x2 =>
  condK x2 (
   ret1 H R (I 0)
  ) (
   pureK (bop .plain .eql a0 (I 3)) fun x3 =>
   condK x3 (
    ret1 H R (I 0)
   ) (
    pureK (bop .plain .eql a0 (I 4)) fun x4 =>
    condK x4 (
     ret1 H R (I 0)
    ) (
     pureK (bop .plain .eql a0 (I 11)) fun x5 =>
     condK x5 (
      ret1 H R (I 0)
     ) (
      pureK (bop .plain .eql a0 (I 9)) fun x6 =>
      condK x6 (
       ret1 H R (I 1)
      ) (
       pureK (bop .plain .eql a0 (I 14)) fun x7 =>
       condK x7 (
        ret1 H R (I 1)
       ) (
        pureK (bop .plain .eql a0 (I 5)) fun x8 =>
        condK x8 (
         ret1 H R (I 2)
        ) (
         pureK (bop .plain .eql a0 (I 6)) fun x9 =>
         condK x9 (
          ret1 H R (I 2)
         ) (
          pureK (bop .plain .eql a0 (I 7)) fun x10 =>
          condK x10 (
           ret1 H R (I 2)
          ) (
           pureK (bop .plain .eql a0 (I 8)) fun x11 =>
           condK x11 (
            ret1 H R (I 2)
           ) (
            pureK (bop .plain .eql a0 (I 10)) fun x12 =>
            condK x12 (
             ret1 H R (I 2)
            ) (
             pureK (bop .plain .eql a0 (I 12)) fun x13 =>
             condK x13 (
              ret1 H R (I 2)
             ) (
              pureK (bop .plain .eql a0 (I 13)) fun x14 =>
              condK x14 (
               ret1 H R (I 2)
              ) (
               ret1 H R (I (-1))
              )
             )
            )
           )
          )
         )
        )
       )
      )
     )
    )
   )
  )
 )
theorem K_row_Arity (a0 : AV) (H : Heap) (R : AV → Heap → Prop) : awp E_row_Arity (drawK E_row_Arity) C_row_Arity (fun j => List.getD [a0] j .dead) H (retK PP Tryz.f55.results.toList R) = W_row_Arity a0 H R := by kernel_rfl
theorem row_Arity_of {a0 : AV} {H : Heap} {R : AV → Heap → Prop} (h : W_row_Arity a0 H R) : ACalls PP gΓ row_Arity [a0] H R :=
  ACalls.of_awp (E := E_row_Arity) follows_PP Tryz.func55 (c := C_row_Arity) (by kernel_rfl) Tryz.ntmps55 ((K_row_Arity a0 H R) ▸ h)

noncomputable def L_sort_on : Nat → Option (List Nat) := fun k => none
noncomputable abbrev E_sort_on : Env := ⟨PP, gΓ, 11, L_sort_on, fun _ => false⟩
noncomputable def C_sort_on : Code := Tryz.f56.body.getD .skip
def W_sort_on (a0 : AV) (H : Heap) (R : AV → Heap → Prop) : Prop :=
 pureK (bop .plain .eql a0 (I 1)) fun x1 =>
 condK x1 (
  pureK (bop .plain .add a0 (I 3)) fun x2 =>
  pureK (bop .plain .sub x2 (I 1)) fun x3 =>
  ret1 H R x3
 ) (
  pureK (bop .plain .eql a0 (I 2)) fun x4 =>
  condK x4 (
   pureK (bop .plain .add a0 (I 3)) fun x5 =>
   pureK (bop .plain .sub x5 (I 1)) fun x6 =>
   ret1 H R x6
  ) (
   ret1 H R a0
  )
 )
theorem K_sort_on (a0 : AV) (H : Heap) (R : AV → Heap → Prop) : awp E_sort_on (drawK E_sort_on) C_sort_on (fun j => List.getD [a0] j .dead) H (retK PP Tryz.f56.results.toList R) = W_sort_on a0 H R := by kernel_rfl
theorem sort_on_of {a0 : AV} {H : Heap} {R : AV → Heap → Prop} (h : W_sort_on a0 H R) : ACalls PP gΓ sort_on [a0] H R :=
  ACalls.of_awp (E := E_sort_on) follows_PP Tryz.func56 (c := C_sort_on) (by kernel_rfl) Tryz.ntmps56 ((K_sort_on a0 H R) ▸ h)

noncomputable def L_sort_Of : Nat → Option (List Nat) := fun k => none
noncomputable abbrev E_sort_Of : Env := ⟨PP, gΓ, 8, L_sort_Of, fun _ => false⟩
noncomputable def C_sort_Of : Code := Tryz.f57.body.getD .skip
def W_sort_Of (a0 : AV) (H : Heap) (R : AV → Heap → Prop) : Prop :=
 ACalls PP gΓ row_Whole [a0] H fun x1 H2 =>
 pureK (unE .not x1) fun x3 =>
 condK x3 (
  ret1 H2 R (I 0)
 ) (
  ACalls PP gΓ sort_sort [a0] H2 fun x4 H5 =>
  ret1 H5 R x4
 )
theorem K_sort_Of (a0 : AV) (H : Heap) (R : AV → Heap → Prop) : awp E_sort_Of (drawK E_sort_Of) C_sort_Of (fun j => List.getD [a0] j .dead) H (retK PP Tryz.f57.results.toList R) = W_sort_Of a0 H R := by kernel_rfl
theorem sort_Of_of {a0 : AV} {H : Heap} {R : AV → Heap → Prop} (h : W_sort_Of a0 H R) : ACalls PP gΓ sort_Of [a0] H R :=
  ACalls.of_awp (E := E_sort_Of) follows_PP Tryz.func57 (c := C_sort_Of) (by kernel_rfl) Tryz.ntmps57 ((K_sort_Of a0 H R) ▸ h)

noncomputable def L_slices_IndexFunc_string : Nat → Option (List Nat) := fun k => bif Nat.beq k 1002 then some [0, 1, 7, 8] else none
noncomputable abbrev E_slices_IndexFunc_string : Env := ⟨PP, gΓ, 19, L_slices_IndexFunc_string, fun _ => false⟩
noncomputable def C_slices_IndexFunc_string : Code := Tryz.f58.body.getD .skip
def W_slices_IndexFunc_string (a0 a1 : AV) (H : Heap) (R : AV → Heap → Prop) : Prop :=
 pureK (lnl a0) fun x1 =>
 ∃ J2 : List AV → Heap → Nat → Prop, (∃ (n8 : Nat) (H9 : Heap), H9 ≤ H ∧ J2 [a0, a1, x1, I 0] H9 n8) ∧ ∀ (vs3 : List AV) (H4 : Heap) (n5 : Nat), J2 vs3 H4 n5 →
 pureK (bop .plain .lss (nth vs3 3) (nth vs3 2)) fun x10 =>
 condK x10 (
  pureK (ias 1 (nth vs3 0) (nth vs3 3)) fun x11 =>
  pureK (ld (some false) 1 H4 x11) fun x12 =>
  callK (E_slices_IndexFunc_string) (nth vs3 1) [x12] H4 fun x13 H14 =>
  condK x13 (
   ret1 H14 R (nth vs3 3)
  ) (
   pureK (bop .plain .add (nth vs3 3) (I 1)) fun x15 =>
   (∃ (n6 : Nat) (H7 : Heap), n6 < n5 ∧ H7 ≤ H14 ∧ J2 [nth vs3 0, nth vs3 1, nth vs3 2, x15] H7 n6)
  )
 ) (
  ret1 H4 R (I (-1))
 )
theorem K_slices_IndexFunc_string (a0 a1 : AV) (H : Heap) (R : AV → Heap → Prop) : awp E_slices_IndexFunc_string (drawK E_slices_IndexFunc_string) C_slices_IndexFunc_string (fun j => List.getD [a0, a1] j .dead) H (retK PP Tryz.f58.results.toList R) = W_slices_IndexFunc_string a0 a1 H R := by kernel_rfl
theorem slices_IndexFunc_string_of {a0 a1 : AV} {H : Heap} {R : AV → Heap → Prop} (h : W_slices_IndexFunc_string a0 a1 H R) : ACalls PP gΓ slices_IndexFunc_string [a0, a1] H R :=
  ACalls.of_awp (E := E_slices_IndexFunc_string) follows_PP Tryz.func58 (c := C_slices_IndexFunc_string) (by kernel_rfl) Tryz.ntmps58 ((K_slices_IndexFunc_string a0 a1 H R) ▸ h)

noncomputable def L_ref04_Of : Nat → Option (List Nat) := fun k => bif Nat.beq k 1004 then some [0, 3] else none
noncomputable abbrev E_ref04_Of : Env := ⟨PP, gΓ, 15, L_ref04_Of, fun _ => false⟩
noncomputable def C_ref04_Of : Code := Tryz.f59.body.getD .skip
def W_ref04_Of (a0 : AV) (H : Heap) (R : AV → Heap → Prop) : Prop :=
 ACalls PP gΓ ref03_Whole [a0] H fun x1 H2 =>
 pureK (unE .not x1) fun x3 =>
 condK x3 (
  ret1 H2 R (I 0)
 ) (
  ∃ J4 : List AV → Heap → Nat → Prop, (∃ (n10 : Nat) (H11 : Heap), H11 ≤ H2 ∧ J4 [a0, I 1] H11 n10) ∧ ∀ (vs5 : List AV) (H6 : Heap) (n7 : Nat), J4 vs5 H6 n7 →
  pureK (bop .plain .leq (nth vs5 1) (I 4)) fun x12 =>
  condK x12 (
   ACalls PP gΓ ref04_Is [nth vs5 0, nth vs5 1] H6 fun x13 H14 =>
   condK x13 (
    ret1 H14 R (nth vs5 1)
   ) (
    pureK (bop .plain .add (nth vs5 1) (I 1)) fun x15 =>
    (∃ (n8 : Nat) (H9 : Heap), n8 < n7 ∧ H9 ≤ H14 ∧ J4 [nth vs5 0, x15] H9 n8)
   )
  ) (
   ret1 H6 R (I 0)
  )
 )
theorem K_ref04_Of (a0 : AV) (H : Heap) (R : AV → Heap → Prop) : awp E_ref04_Of (drawK E_ref04_Of) C_ref04_Of (fun j => List.getD [a0] j .dead) H (retK PP Tryz.f59.results.toList R) = W_ref04_Of a0 H R := by kernel_rfl
theorem ref04_Of_of {a0 : AV} {H : Heap} {R : AV → Heap → Prop} (h : W_ref04_Of a0 H R) : ACalls PP gΓ ref04_Of [a0] H R :=
  ACalls.of_awp (E := E_ref04_Of) follows_PP Tryz.func59 (c := C_ref04_Of) (by kernel_rfl) Tryz.ntmps59 ((K_ref04_Of a0 H R) ▸ h)

noncomputable def L_ref10_Settle : Nat → Option (List Nat) := fun k => none
noncomputable abbrev E_ref10_Settle : Env := ⟨PP, gΓ, 13, L_ref10_Settle, fun _ => false⟩
noncomputable def C_ref10_Settle : Code := Tryz.f60.body.getD .skip
def W_ref10_Settle (a0 : AV) (H : Heap) (R : AV → Heap → Prop) : Prop :=
 ACalls PP gΓ ref04_Of [a0] H fun x1 H2 =>
 pureK (bop .plain .eql x1 (I 0)) fun x3 =>
 condK x3 (
  ret1 H2 R (.lst 0 [] .exact)
 ) (
  ACalls PP gΓ ref10_Tree [a0] H2 fun x4 H5 =>
  pureK (lnl x4) fun x6 =>
  pureK (bop .plain .gtr x6 (I 200)) fun x7 =>
  condK x7 (
   ret1 H5 R (.lst 0 [] .exact)
  ) (
   ret1 H5 R x4
  )
 )
theorem K_ref10_Settle (a0 : AV) (H : Heap) (R : AV → Heap → Prop) : awp E_ref10_Settle (drawK E_ref10_Settle) C_ref10_Settle (fun j => List.getD [a0] j .dead) H (retK PP Tryz.f60.results.toList R) = W_ref10_Settle a0 H R := by kernel_rfl
theorem ref10_Settle_of {a0 : AV} {H : Heap} {R : AV → Heap → Prop} (h : W_ref10_Settle a0 H R) : ACalls PP gΓ ref10_Settle [a0] H R :=
  ACalls.of_awp (E := E_ref10_Settle) follows_PP Tryz.func60 (c := C_ref10_Settle) (by kernel_rfl) Tryz.ntmps60 ((K_ref10_Settle a0 H R) ▸ h)

noncomputable def L_ref03_Arity : Nat → Option (List Nat) := fun k => none
noncomputable abbrev E_ref03_Arity : Env := ⟨PP, gΓ, 21, L_ref03_Arity, fun _ => false⟩
noncomputable def C_ref03_Arity : Code := Tryz.f61.body.getD .skip
def W_ref03_Arity (a0 : AV) (H : Heap) (R : AV → Heap → Prop) : Prop :=
 pureK (bop .plain .eql a0 (I 1)) fun x1 =>
 condK x1 (
  ret1 H R (I 0)
 ) (
  pureK (bop .plain .eql a0 (I 2)) fun x2 =>
  condK x2 (
   ret1 H R (I 0)
  ) (
   pureK (bop .plain .eql a0 (I 3)) fun x3 =>
   condK x3 (
    ret1 H R (I 0)
   ) (
    pureK (bop .plain .eql a0 (I 4)) fun x4 =>
    condK x4 (
     ret1 H R (I 0)
    ) (
     pureK (bop .plain .eql a0 (I 11)) fun x5 =>
     condK x5 (
      ret1 H R (I 0)
     ) (
      pureK (bop .plain .eql a0 (I 9)) fun x6 =>
      condK x6 (
       ret1 H R (I 1)
      ) (
       pureK (bop .plain .eql a0 (I 14)) fun x7 =>
       condK x7 (
        ret1 H R (I 1)
       ) (
        pureK (bop .plain .eql a0 (I 5)) fun x8 =>
        condK x8 (
         ret1 H R (I 2)
        ) (
         pureK (bop .plain .eql a0 (I 6)) fun x9 =>
         condK x9 (
          ret1 H R (I 2)
         ) (
          pureK (bop .plain .eql a0 (I 7)) fun x10 =>
          condK x10 (
           ret1 H R (I 2)
          ) (
           pureK (bop .plain .eql a0 (I 8)) fun x11 =>
           condK x11 (
            ret1 H R (I 2)
           ) (
            pureK (bop .plain .eql a0 (I 10)) fun x12 =>
            condK x12 (
             ret1 H R (I 2)
            ) (
             pureK (bop .plain .eql a0 (I 12)) fun x13 =>
             condK x13 (
              ret1 H R (I 2)
             ) (
              pureK (bop .plain .eql a0 (I 13)) fun x14 =>
              condK x14 (
               ret1 H R (I 2)
              ) (
               ret1 H R (I (-1))
              )
             )
            )
           )
          )
         )
        )
       )
      )
     )
    )
   )
  )
 )
theorem K_ref03_Arity (a0 : AV) (H : Heap) (R : AV → Heap → Prop) : awp E_ref03_Arity (drawK E_ref03_Arity) C_ref03_Arity (fun j => List.getD [a0] j .dead) H (retK PP Tryz.f61.results.toList R) = W_ref03_Arity a0 H R := by kernel_rfl
theorem ref03_Arity_of {a0 : AV} {H : Heap} {R : AV → Heap → Prop} (h : W_ref03_Arity a0 H R) : ACalls PP gΓ ref03_Arity [a0] H R :=
  ACalls.of_awp (E := E_ref03_Arity) follows_PP Tryz.func61 (c := C_ref03_Arity) (by kernel_rfl) Tryz.ntmps61 ((K_ref03_Arity a0 H R) ▸ h)

noncomputable def L_ref03_word : Nat → Option (List Nat) := fun k => none
noncomputable abbrev E_ref03_word : Env := ⟨PP, gΓ, 25, L_ref03_word, fun _ => false⟩
noncomputable def C_ref03_word : Code := Tryz.f62.body.getD .skip
def W_ref03_word (a0 : AV) (H : Heap) (R : AV → Heap → Prop) : Prop :=
 pureK (bop .plain .eql a0 (S s_skip)) fun x1 =>
 condK x1 (
  ret1 H R (B true)
 ) (
  pureK (bop .plain .eql a0 (S s_throw)) fun x2 =>
  condK x2 (
   ret1 H R (B true)
  ) (
   pureK (bop .plain .eql a0 (S s_yield)) fun x3 =>
   condK x3 (
    ret1 H R (B true)
   ) (
    pureK (bop .plain .eql a0 (S s_skipp)) fun x4 =>
    condK x4 (
     ret1 H R (B true)
    ) (
     pureK (bop .plain .eql a0 (S s_throww)) fun x5 =>
     condK x5 (
      ret1 H R (B true)
     ) (
      pureK (bop .plain .eql a0 (S s_yieldd)) fun x6 =>
      ret1 H R x6
     )
    )
   )
  )
 )
theorem K_ref03_word (a0 : AV) (H : Heap) (R : AV → Heap → Prop) : awp E_ref03_word (drawK E_ref03_word) C_ref03_word (fun j => List.getD [a0] j .dead) H (retK PP Tryz.f62.results.toList R) = W_ref03_word a0 H R := by kernel_rfl
theorem ref03_word_of {a0 : AV} {H : Heap} {R : AV → Heap → Prop} (h : W_ref03_word a0 H R) : ACalls PP gΓ ref03_word [a0] H R :=
  ACalls.of_awp (E := E_ref03_word) follows_PP Tryz.func62 (c := C_ref03_word) (by kernel_rfl) Tryz.ntmps62 ((K_ref03_word a0 H R) ▸ h)

noncomputable def L_settle_settle : Nat → Option (List Nat) := fun k => none
noncomputable abbrev E_settle_settle : Env := ⟨PP, gΓ, 127, L_settle_settle, fun f => Nat.beq f row_Kids⟩
noncomputable def C_settle_settle : Code := Tryz.f63.body.getD .skip
def W_settle_settle (a0 : AV) (H : Heap) (R : AV → Heap → Prop) : Prop :=
 ∃ fp1 : Option Nat, (∀ p, fp1 = some p → H p ≠ none) ∧
 pureK (ias 3 a0 (I 0)) fun x2 =>
 pureK (ld (some true) 3 (rem H fp1) x2) fun x3 =>
 ∃ φ4 v5, AMakes PP gΓ row_Kids [a0] H fp1 φ4 ∧ MkVal φ4 v5 ∧
 ∀ rf6 ob7, φ4 rf6 ob7 → madeK fp1 H rf6 ob7 fun x8 H9 =>
 allocP [.sc (.int .i64 0), S emp, .sc (.int .i64 0)] H9 fun o10 H11 =>
 heapK (st 3 H11 (.ptr o10 0) x3) fun H12 =>
 pureK (fa 0 (.ptr o10 0)) fun x13 =>
 pureK (ld (some false) 1 H12 x13) fun x14 =>
 pureK (bop .plain .eql x14 (I 2)) fun x15 =>
 condK x15 (
  ACalls PP gΓ settle_over [I 1] H12 fun x16 H17 =>
  ret1 H17 R x16
 ) (
  pureK (bop .plain .eql x14 (I 3)) fun x18 =>
  condK x18 (
   ACalls PP gΓ settle_over [I 2] H12 fun x19 H20 =>
   ret1 H20 R x19
  ) (
   pureK (bop .plain .eql x14 (I 8)) fun x21 =>
   condK x21 (
    pureK (ld (some true) 3 H12 (.ptr o10 0)) fun x22 =>
    pureK (ias 1 x8 (I 0)) fun x23 =>
    pureK (ld (some false) 1 H12 x23) fun x24 =>
    ∃ x25, AReads PP gΓ settle_settle [x24] H12 x25 ∧
    pureK (ias 1 x8 (I 1)) fun x26 =>
    pureK (ld (some false) 1 H12 x26) fun x27 =>
    ACalls PP gΓ settle_behind [x22, x25, x27, I 2] H12 fun x28 H29 =>
    ret1 H29 R x28
   ) (
    pureK (bop .plain .eql x14 (I 5)) fun x30 =>
    condK x30 (
     pureK (ias 1 x8 (I 0)) fun x31 =>
     pureK (ld (some false) 1 H12 x31) fun x32 =>
     ACalls PP gΓ settle_settle [x32] H12 fun x33 H34 =>
     pureK (ias 3 x33 (I 0)) fun x35 =>
     pureK (fa 0 x35) fun x36 =>
     pureK (ld (some false) 1 H34 x36) fun x37 =>
     pureK (bop .plain .neq x37 (I 14)) fun x38 =>
     condK x38 (
      pureK (ld (some true) 3 H34 (.ptr o10 0)) fun x39 =>
      pureK (ias 1 x8 (I 1)) fun x40 =>
      pureK (ld (some false) 1 H34 x40) fun x41 =>
      ACalls PP gΓ settle_behind [x39, x33, x41, I 1] H34 fun x42 H43 =>
      ret1 H43 R x42
     ) (
      pureK (ias 3 x33 (I 0)) fun x44 =>
      pureK (fa 2 x44) fun x45 =>
      pureK (ld (some false) 1 H34 x45) fun x46 =>
      pureK (bop .plain .neq x46 (I 1)) fun x47 =>
      condK x47 (
       ret1 H34 R x33
      ) (
       pureK (ias 1 x8 (I 1)) fun x48 =>
       pureK (ld (some false) 1 H34 x48) fun x49 =>
       ∃ x50, AReads PP gΓ settle_settle [x49] H34 x50 ∧
       pureK (sll 3 x33 (some (I 1)) none none) fun x51 =>
       ACalls PP gΓ settle_stack [x50, x51] H34 fun x52 H53 =>
       ret1 H53 R x52
      )
     )
    ) (
     pureK (bop .plain .eql x14 (I 13)) fun x54 =>
     condK x54 (
      pureK (ias 1 x8 (I 0)) fun x55 =>
      pureK (ld (some false) 1 H12 x55) fun x56 =>
      ∃ x57, AReads PP gΓ settle_settle [x56] H12 x57 ∧
      pureK (ias 1 x8 (I 1)) fun x58 =>
      pureK (ld (some false) 1 H12 x58) fun x59 =>
      ACalls PP gΓ settle_stack [x57, x59] H12 fun x60 H61 =>
      ret1 H61 R x60
     ) (
      pureK (bop .plain .eql x14 (I 12)) fun x62 =>
      condK x62 (
       pureK (ias 1 x8 (I 0)) fun x63 =>
       pureK (ld (some false) 1 H12 x63) fun x64 =>
       ACalls PP gΓ settle_settle [x64] H12 fun x65 H66 =>
       ACalls PP gΓ settle_Ended [x65] H66 fun x67 H68 =>
       pureK (extractE x67 0) fun x69 =>
       pureK (extractE x67 1) fun x70 =>
       pureK (unE .not x70) fun x71 =>
       condK x71 (
        pureK (ld (some true) 3 H68 (.ptr o10 0)) fun x72 =>
        pureK (ias 1 x8 (I 1)) fun x73 =>
        pureK (ld (some false) 1 H68 x73) fun x74 =>
        pureK (bsl 1 (.lst 0 [] .exact) 2 [(0, x65), (1, x74)]) fun x75 =>
        ACalls PP gΓ row_Make [x72, x75] H68 fun x76 H77 =>
        ret1 H77 R x76
       ) (
        pureK (bop .plain .neq x69 (I 1)) fun x78 =>
        condK x78 (
         pureK (bld [(0, 1), (1, 1), (2, 1)] [.sc (.int .i64 0), S emp, .sc (.int .i64 0)] [(0, I 2)]) fun x79 =>
         pureK (bsl 3 (.agg [.sc (.int .i64 0), S emp, .sc (.int .i64 0)]) 1 [(0, x79)]) fun x80 =>
         pureK (ias 1 x8 (I 1)) fun x81 =>
         heapK (st 1 H68 x81 x80) fun H82 =>
         pureK (ias 1 x8 (I 1)) fun x83 =>
         pureK (ld (some false) 1 H82 x83) fun x84 =>
         ACalls PP gΓ settle_end [x69, x84] H82 fun x85 H86 =>
         ret1 H86 R x85
        ) (
         pureK (ias 1 x8 (I 1)) fun x87 =>
         pureK (ld (some false) 1 H68 x87) fun x88 =>
         ACalls PP gΓ settle_end [x69, x88] H68 fun x89 H90 =>
         ret1 H90 R x89
        )
       )
      ) (
       pureK (bop .plain .eql x14 (I 7)) fun x91 =>
       condK x91 (
        pureK (ld (some true) 3 H12 (.ptr o10 0)) fun x92 =>
        pureK (ias 1 x8 (I 0)) fun x93 =>
        pureK (ld (some false) 1 H12 x93) fun x94 =>
        ∃ x95, AReads PP gΓ settle_settle [x94] H12 x95 ∧
        pureK (ias 1 x8 (I 1)) fun x96 =>
        pureK (ld (some false) 1 H12 x96) fun x97 =>
        ∃ x98, AReads PP gΓ settle_settle [x97] H12 x98 ∧
        ACalls PP gΓ settle_par [x92, x95, x98] H12 fun x99 H100 =>
        ret1 H100 R x99
       ) (
        pureK (bop .plain .eql x14 (I 9)) fun x101 =>
        condK x101 (
         pureK (ld (some true) 3 H12 (.ptr o10 0)) fun x102 =>
         pureK (ias 1 x8 (I 0)) fun x103 =>
         pureK (ld (some false) 1 H12 x103) fun x104 =>
         ∃ x105, AReads PP gΓ settle_settle [x104] H12 x105 ∧
         ACalls PP gΓ settle_block [x102, x105] H12 fun x106 H107 =>
         ret1 H107 R x106
        ) (
         ret1 H12 R a0
        )
       )
      )
     )
    )
   )
  )
 )
theorem K_settle_settle (a0 : AV) (H : Heap) (R : AV → Heap → Prop) : awp E_settle_settle (drawK E_settle_settle) C_settle_settle (fun j => List.getD [a0] j .dead) H (retK PP Tryz.f63.results.toList R) = W_settle_settle a0 H R := by kernel_rfl
theorem settle_settle_of {a0 : AV} {H : Heap} {R : AV → Heap → Prop} (h : W_settle_settle a0 H R) : ACalls PP gΓ settle_settle [a0] H R :=
  ACalls.of_awp (E := E_settle_settle) follows_PP Tryz.func63 (c := C_settle_settle) (by kernel_rfl) Tryz.ntmps63 ((K_settle_settle a0 H R) ▸ h)

noncomputable def L_row_Size : Nat → Option (List Nat) := fun k => bif Nat.beq k 1003 then some [3, 7, 8, 9] else none
noncomputable abbrev E_row_Size : Env := ⟨PP, gΓ, 28, L_row_Size, fun _ => false⟩
noncomputable def C_row_Size : Code := Tryz.f68.body.getD .skip
def W_row_Size (a0 : AV) (H : Heap) (R : AV → Heap → Prop) : Prop :=
 pureK (lnl a0) fun x1 =>
 ∃ J2 : List AV → Heap → Nat → Prop, (∃ (n8 : Nat) (H9 : Heap), H9 ≤ H ∧ J2 [I 1, a0, x1, I 0] H9 n8) ∧ ∀ (vs3 : List AV) (H4 : Heap) (n5 : Nat), J2 vs3 H4 n5 →
 pureK (bop .plain .lss (nth vs3 3) (nth vs3 2)) fun x10 =>
 condK x10 (
  pureK (ias 3 (nth vs3 1) (nth vs3 3)) fun x11 =>
  pureK (ld (some true) 3 H4 x11) fun x12 =>
  allocP [.sc (.int .i64 0), S emp, .sc (.int .i64 0)] H4 fun o13 H14 =>
  heapK (st 3 H14 (.ptr o13 0) x12) fun H15 =>
  pureK (fa 0 (.ptr o13 0)) fun x16 =>
  pureK (ld (some false) 1 H15 x16) fun x17 =>
  ACalls PP gΓ row_Arity [x17] H15 fun x18 H19 =>
  pureK (bop .plain .lss x18 (I 0)) fun x20 =>
  condK x20 (
   ret1 H19 R (I 0)
  ) (
   pureK (bop .plain .sub x18 (I 1)) fun x21 =>
   pureK (bop .plain .add (nth vs3 0) x21) fun x22 =>
   pureK (bop .plain .eql x22 (I 0)) fun x23 =>
   condK x23 (
    pureK (bop .plain .add (nth vs3 3) (I 1)) fun x24 =>
    ret1 H19 R x24
   ) (
    pureK (bop .plain .add (nth vs3 3) (I 1)) fun x25 =>
    (∃ (n6 : Nat) (H7 : Heap), n6 < n5 ∧ H7 ≤ H19 ∧ J2 [x22, nth vs3 1, nth vs3 2, x25] H7 n6)
   )
  )
 ) (
  ret1 H4 R (I 0)
 )
theorem K_row_Size (a0 : AV) (H : Heap) (R : AV → Heap → Prop) : awp E_row_Size (drawK E_row_Size) C_row_Size (fun j => List.getD [a0] j .dead) H (retK PP Tryz.f68.results.toList R) = W_row_Size a0 H R := by kernel_rfl
theorem row_Size_of {a0 : AV} {H : Heap} {R : AV → Heap → Prop} (h : W_row_Size a0 H R) : ACalls PP gΓ row_Size [a0] H R :=
  ACalls.of_awp (E := E_row_Size) follows_PP Tryz.func68 (c := C_row_Size) (by kernel_rfl) Tryz.ntmps68 ((K_row_Size a0 H R) ▸ h)

noncomputable def L_row_Kids : Nat → Option (List Nat) := fun k => bif Nat.beq k 1006 then some [0, 3, 4, 13, 14] else none
noncomputable abbrev E_row_Kids : Env := ⟨PP, gΓ, 35, L_row_Kids, fun _ => false⟩
noncomputable def C_row_Kids : Code := Tryz.f69.body.getD .skip
def W_row_Kids (a0 : AV) (H : Heap) (R : AV → Heap → Prop) : Prop :=
 ACalls PP gΓ row_Size [a0] H fun x1 H2 =>
 pureK (bop .plain .eql x1 (I 0)) fun x3 =>
 condK x3 (
  ret1 H2 R (.lst 0 [] .exact)
 ) (
  pureK (ias 3 a0 (I 0)) fun x4 =>
  pureK (fa 0 x4) fun x5 =>
  pureK (ld (some false) 1 H2 x5) fun x6 =>
  ACalls PP gΓ row_Arity [x6] H2 fun x7 H8 =>
  ∃ J9 : List AV → Heap → Nat → Prop, (∃ (n15 : Nat) (H16 : Heap), H16 ≤ H8 ∧ J9 [a0, .lst 0 [] .exact, I 1, x7, I 0] H16 n15) ∧ ∀ (vs10 : List AV) (H11 : Heap) (n12 : Nat), J9 vs10 H11 n12 →
  pureK (bop .plain .lss (nth vs10 4) (nth vs10 3)) fun x17 =>
  condK x17 (
   pureK (sll 3 (nth vs10 0) (some (nth vs10 2)) none none) fun x18 =>
   ACalls PP gΓ row_Size [x18] H11 fun x19 H20 =>
   pureK (bop .plain .add (nth vs10 2) x19) fun x21 =>
   pureK (sll 3 (nth vs10 0) (some (nth vs10 2)) (some x21) none) fun x22 =>
   ACalls PP gΓ slices_Clone_Node [x22] H20 fun x23 H24 =>
   pureK (bsl 1 (.lst 0 [] .exact) 1 [(0, x23)]) fun x25 =>
   appK 1 (nth vs10 1) x25 H24 fun x26 H27 =>
   pureK (bop .plain .add (nth vs10 2) x19) fun x28 =>
   pureK (bop .plain .add (nth vs10 4) (I 1)) fun x29 =>
   (∃ (n13 : Nat) (H14 : Heap), n13 < n12 ∧ H14 ≤ H27 ∧ J9 [nth vs10 0, x26, x28, nth vs10 3, x29] H14 n13)
  ) (
   ret1 H11 R (nth vs10 1)
  )
 )
theorem K_row_Kids (a0 : AV) (H : Heap) (R : AV → Heap → Prop) : awp E_row_Kids (drawK E_row_Kids) C_row_Kids (fun j => List.getD [a0] j .dead) H (retK PP Tryz.f69.results.toList R) = W_row_Kids a0 H R := by kernel_rfl
theorem row_Kids_of {a0 : AV} {H : Heap} {R : AV → Heap → Prop} (h : W_row_Kids a0 H R) : ACalls PP gΓ row_Kids [a0] H R :=
  ACalls.of_awp (E := E_row_Kids) follows_PP Tryz.func69 (c := C_row_Kids) (by kernel_rfl) Tryz.ntmps69 ((K_row_Kids a0 H R) ▸ h)

noncomputable def L_slices_Equal_Node : Nat → Option (List Nat) := fun k => bif Nat.beq k 1004 then some [0, 1, 12, 13] else none
noncomputable abbrev E_slices_Equal_Node : Env := ⟨PP, gΓ, 26, L_slices_Equal_Node, fun _ => false⟩
noncomputable def C_slices_Equal_Node : Code := Tryz.f70.body.getD .skip
def W_slices_Equal_Node (a0 a1 : AV) (H : Heap) (R : AV → Heap → Prop) : Prop :=
 pureK (lnl a0) fun x1 =>
 pureK (lnl a1) fun x2 =>
 pureK (bop .plain .neq x1 x2) fun x3 =>
 condK x3 (
  ret1 H R (B false)
 ) (
  pureK (lnl a0) fun x4 =>
  ∃ J5 : List AV → Heap → Nat → Prop, (∃ (n11 : Nat) (H12 : Heap), H12 ≤ H ∧ J5 [a0, a1, x4, I 0] H12 n11) ∧ ∀ (vs6 : List AV) (H7 : Heap) (n8 : Nat), J5 vs6 H7 n8 →
  pureK (bop .plain .lss (nth vs6 3) (nth vs6 2)) fun x13 =>
  condK x13 (
   pureK (ias 3 (nth vs6 0) (nth vs6 3)) fun x14 =>
   pureK (ld (some true) 3 H7 x14) fun x15 =>
   pureK (ias 3 (nth vs6 1) (nth vs6 3)) fun x16 =>
   pureK (ld (some true) 3 H7 x16) fun x17 =>
   pureK (bop (.flat [.int, .str, .int]) .neq x15 x17) fun x18 =>
   condK x18 (
    ret1 H7 R (B false)
   ) (
    pureK (bop .plain .add (nth vs6 3) (I 1)) fun x19 =>
    (∃ (n9 : Nat) (H10 : Heap), n9 < n8 ∧ H10 ≤ H7 ∧ J5 [nth vs6 0, nth vs6 1, nth vs6 2, x19] H10 n9)
   )
  ) (
   ret1 H7 R (B true)
  )
 )
theorem K_slices_Equal_Node (a0 a1 : AV) (H : Heap) (R : AV → Heap → Prop) : awp E_slices_Equal_Node (drawK E_slices_Equal_Node) C_slices_Equal_Node (fun j => List.getD [a0, a1] j .dead) H (retK PP Tryz.f70.results.toList R) = W_slices_Equal_Node a0 a1 H R := by kernel_rfl
theorem slices_Equal_Node_of {a0 a1 : AV} {H : Heap} {R : AV → Heap → Prop} (h : W_slices_Equal_Node a0 a1 H R) : ACalls PP gΓ slices_Equal_Node [a0, a1] H R :=
  ACalls.of_awp (E := E_slices_Equal_Node) follows_PP Tryz.func70 (c := C_slices_Equal_Node) (by kernel_rfl) Tryz.ntmps70 ((K_slices_Equal_Node a0 a1 H R) ▸ h)

noncomputable def L_strings_Trim : Nat → Option (List Nat) := fun k => none
noncomputable abbrev E_strings_Trim : Env := ⟨PP, gΓ, 43, L_strings_Trim, fun _ => false⟩
noncomputable def C_strings_Trim : Code := Tryz.f71.body.getD .skip
def W_strings_Trim (a0 a1 : AV) (H : Heap) (R : AV → Heap → Prop) : Prop :=
 pureK (bop .plain .eql a0 (S emp)) fun x1 =>
 condK x1 (
  ret1 H R a0
 ) (
  pureK (bop .plain .eql a1 (S emp)) fun x2 =>
  condK x2 (
   ret1 H R a0
  ) (
   pureK (lns a1) fun x3 =>
   pureK (bop .plain .eql x3 (I 1)) fun x4 =>
   condK x4 (
    pureK (ixs a1 (I 0)) fun x5 =>
    pureK (bop .plain .lss x5 (.sc (.int .u8 128))) fun x6 =>
    condK x6 (
     pureK (ixs a1 (I 0)) fun x7 =>
     ∃ x8, AReads PP gΓ strings_trimRightByte [a0, x7] H x8 ∧
     pureK (ixs a1 (I 0)) fun x9 =>
     ACalls PP gΓ strings_trimLeftByte [x8, x9] H fun x10 H11 =>
     ret1 H11 R x10
    ) (
     ACalls PP gΓ strings_makeASCIISet [a1] H fun x12 H13 =>
     pureK (extractE x12 0) fun x14 =>
     pureK (extractE x12 1) fun x15 =>
     allocP (List.replicate 256 (B false)) H13 fun o16 H17 =>
     heapK (st 256 H17 (.ptr o16 0) x14) fun H18 =>
     condK x15 (
      ACalls PP gΓ strings_trimRightASCII [a0, .ptr o16 0] H18 fun x19 H20 =>
      ACalls PP gΓ strings_trimLeftASCII [x19, .ptr o16 0] H20 fun x21 H22 =>
      ret1 H22 R x21
     ) (
      ACalls PP gΓ strings_trimRightUnicode [a0, a1] H18 fun x23 H24 =>
      ACalls PP gΓ strings_trimLeftUnicode [x23, a1] H24 fun x25 H26 =>
      ret1 H26 R x25
     )
    )
   ) (
    ACalls PP gΓ strings_makeASCIISet [a1] H fun x27 H28 =>
    pureK (extractE x27 0) fun x29 =>
    pureK (extractE x27 1) fun x30 =>
    allocP (List.replicate 256 (B false)) H28 fun o31 H32 =>
    heapK (st 256 H32 (.ptr o31 0) x29) fun H33 =>
    condK x30 (
     ACalls PP gΓ strings_trimRightASCII [a0, .ptr o31 0] H33 fun x34 H35 =>
     ACalls PP gΓ strings_trimLeftASCII [x34, .ptr o31 0] H35 fun x36 H37 =>
     ret1 H37 R x36
    ) (
     ACalls PP gΓ strings_trimRightUnicode [a0, a1] H33 fun x38 H39 =>
     ACalls PP gΓ strings_trimLeftUnicode [x38, a1] H39 fun x40 H41 =>
     ret1 H41 R x40
    )
   )
  )
 )
theorem K_strings_Trim (a0 a1 : AV) (H : Heap) (R : AV → Heap → Prop) : awp E_strings_Trim (drawK E_strings_Trim) C_strings_Trim (fun j => List.getD [a0, a1] j .dead) H (retK PP Tryz.f71.results.toList R) = W_strings_Trim a0 a1 H R := by kernel_rfl
theorem strings_Trim_of {a0 a1 : AV} {H : Heap} {R : AV → Heap → Prop} (h : W_strings_Trim a0 a1 H R) : ACalls PP gΓ strings_Trim [a0, a1] H R :=
  ACalls.of_awp (E := E_strings_Trim) follows_PP Tryz.func71 (c := C_strings_Trim) (by kernel_rfl) Tryz.ntmps71 ((K_strings_Trim a0 a1 H R) ▸ h)

noncomputable def L_slices_Contains_string : Nat → Option (List Nat) := fun k => none
noncomputable abbrev E_slices_Contains_string : Env := ⟨PP, gΓ, 9, L_slices_Contains_string, fun _ => false⟩
noncomputable def C_slices_Contains_string : Code := Tryz.f72.body.getD .skip
def W_slices_Contains_string (a0 a1 : AV) (H : Heap) (R : AV → Heap → Prop) : Prop :=
 ACalls PP gΓ slices_Index_string [a0, a1] H fun x1 H2 =>
 pureK (bop .plain .geq x1 (I 0)) fun x3 =>
 ret1 H2 R x3
theorem K_slices_Contains_string (a0 a1 : AV) (H : Heap) (R : AV → Heap → Prop) : awp E_slices_Contains_string (drawK E_slices_Contains_string) C_slices_Contains_string (fun j => List.getD [a0, a1] j .dead) H (retK PP Tryz.f72.results.toList R) = W_slices_Contains_string a0 a1 H R := by kernel_rfl
theorem slices_Contains_string_of {a0 a1 : AV} {H : Heap} {R : AV → Heap → Prop} (h : W_slices_Contains_string a0 a1 H R) : ACalls PP gΓ slices_Contains_string [a0, a1] H R :=
  ACalls.of_awp (E := E_slices_Contains_string) follows_PP Tryz.func72 (c := C_slices_Contains_string) (by kernel_rfl) Tryz.ntmps72 ((K_slices_Contains_string a0 a1 H R) ▸ h)

noncomputable def L_row_Whole : Nat → Option (List Nat) := fun k => none
noncomputable abbrev E_row_Whole : Env := ⟨PP, gΓ, 25, L_row_Whole, fun _ => false⟩
noncomputable def C_row_Whole : Code := Tryz.f73.body.getD .skip
def W_row_Whole (a0 : AV) (H : Heap) (R : AV → Heap → Prop) : Prop :=
 pureK (lnl a0) fun x1 =>
 pureK (bop .plain .gtr x1 (I 0)) fun x2 =>
 condK x2 (
  pureK (lnl a0) fun x3 =>
  pureK (bop .plain .leq x3 (I 200)) fun x4 =>
  condK x4 (
   ACalls PP gΓ slices_ContainsFunc_Node [a0, .fn (.func row_Whole_1) [] []] H fun x5 H6 =>
   pureK (unE .not x5) fun x7 =>
   condK x7 (
    ACalls PP gΓ row_Size [a0] H6 fun x8 H9 =>
    pureK (lnl a0) fun x10 =>
    pureK (bop .plain .eql x8 x10) fun x11 =>
    ret1 H9 R x11
   ) (
    ret1 H6 R (B false)
   )
  ) (
   ret1 H R (B false)
  )
 ) (
  ret1 H R (B false)
 )
theorem K_row_Whole (a0 : AV) (H : Heap) (R : AV → Heap → Prop) : awp E_row_Whole (drawK E_row_Whole) C_row_Whole (fun j => List.getD [a0] j .dead) H (retK PP Tryz.f73.results.toList R) = W_row_Whole a0 H R := by kernel_rfl
theorem row_Whole_of {a0 : AV} {H : Heap} {R : AV → Heap → Prop} (h : W_row_Whole a0 H R) : ACalls PP gΓ row_Whole [a0] H R :=
  ACalls.of_awp (E := E_row_Whole) follows_PP Tryz.func73 (c := C_row_Whole) (by kernel_rfl) Tryz.ntmps73 ((K_row_Whole a0 H R) ▸ h)

noncomputable def L_sort_sort : Nat → Option (List Nat) := fun k => bif Nat.beq k 1003 then some [0, 3, 8, 9, 10] else none
noncomputable abbrev E_sort_sort : Env := ⟨PP, gΓ, 136, L_sort_sort, fun _ => false⟩
noncomputable def C_sort_sort : Code := Tryz.f74.body.getD .skip
def W_sort_sort (a0 : AV) (H : Heap) (R : AV → Heap → Prop) : Prop :=
 ACalls PP gΓ row_Kids [a0] H fun x1 H2 =>
 pureK (lnl x1) fun x3 =>
 ∃ J4 : List AV → Heap → Nat → Prop, (∃ (n10 : Nat) (H11 : Heap), H11 ≤ H2 ∧ J4 [a0, .lst 0 [] .exact, x1, x3, I 0] H11 n10) ∧ ∀ (vs5 : List AV) (H6 : Heap) (n7 : Nat), J4 vs5 H6 n7 →
 pureK (bop .plain .lss (nth vs5 4) (nth vs5 3)) fun x12 =>
 condK x12 (
  pureK (ias 1 (nth vs5 2) (nth vs5 4)) fun x13 =>
  pureK (ld (some false) 1 H6 x13) fun x14 =>
  ACalls PP gΓ sort_sort [x14] H6 fun x15 H16 =>
  pureK (bop .plain .eql x15 (I 0)) fun x17 =>
  condK x17 (
   ret1 H16 R (I 0)
  ) (
   pureK (bsl 1 (.sc (.int .i64 0)) 1 [(0, x15)]) fun x18 =>
   appK 1 (nth vs5 1) x18 H16 fun x19 H20 =>
   pureK (bop .plain .add (nth vs5 4) (I 1)) fun x21 =>
   (∃ (n8 : Nat) (H9 : Heap), n8 < n7 ∧ H9 ≤ H20 ∧ J4 [nth vs5 0, x19, nth vs5 2, nth vs5 3, x21] H9 n8)
  )
 ) (
  pureK (ias 3 (nth vs5 0) (I 0)) fun x22 =>
  pureK (fa 0 x22) fun x23 =>
  pureK (ld (some false) 1 H6 x23) fun x24 =>
  pureK (bop .plain .eql x24 (I 1)) fun x25 =>
  condK x25 (
   ret1 H6 R (I 1)
  ) (
   pureK (bop .plain .eql x24 (I 2)) fun x26 =>
   condK x26 (
    ret1 H6 R (I 1)
   ) (
    pureK (bop .plain .eql x24 (I 3)) fun x27 =>
    condK x27 (
     ret1 H6 R (I 1)
    ) (
     pureK (bop .plain .eql x24 (I 4)) fun x28 =>
     condK x28 (
      ret1 H6 R (I 1)
     ) (
      pureK (bop .plain .eql x24 (I 11)) fun x29 =>
      condK x29 (
       ret1 H6 R (I 3)
      ) (
       pureK (bop .plain .eql x24 (I 6)) fun x30 =>
       condK x30 (
        pureK (ias 1 (nth vs5 1) (I 0)) fun x31 =>
        pureK (ld (some false) 1 H6 x31) fun x32 =>
        pureK (bop .plain .gtr x32 (I 2)) fun x33 =>
        condK x33 (
         ret1 H6 R (I 0)
        ) (
         pureK (ias 1 (nth vs5 1) (I 1)) fun x34 =>
         pureK (ld (some false) 1 H6 x34) fun x35 =>
         pureK (bop .plain .gtr x35 (I 2)) fun x36 =>
         condK x36 (
          ret1 H6 R (I 0)
         ) (
          pureK (ias 1 (nth vs5 1) (I 0)) fun x37 =>
          pureK (ld (some false) 1 H6 x37) fun x38 =>
          pureK (ias 1 (nth vs5 1) (I 1)) fun x39 =>
          pureK (ld (some false) 1 H6 x39) fun x40 =>
          ACalls PP gΓ sort_both [x38, x40] H6 fun x41 H42 =>
          ret1 H42 R x41
         )
        )
       ) (
        pureK (bop .plain .eql x24 (I 7)) fun x43 =>
        condK x43 (
         pureK (ias 1 (nth vs5 1) (I 0)) fun x44 =>
         pureK (ld (some false) 1 H6 x44) fun x45 =>
         pureK (ias 1 (nth vs5 1) (I 1)) fun x46 =>
         pureK (ld (some false) 1 H6 x46) fun x47 =>
         ACalls PP gΓ sort_both [x45, x47] H6 fun x48 H49 =>
         ret1 H49 R x48
        ) (
         pureK (bop .plain .eql x24 (I 5)) fun x50 =>
         condK x50 (
          pureK (ias 1 (nth vs5 1) (I 0)) fun x51 =>
          pureK (ld (some false) 1 H6 x51) fun x52 =>
          pureK (ias 1 (nth vs5 1) (I 1)) fun x53 =>
          pureK (ld (some false) 1 H6 x53) fun x54 =>
          ∃ x55, AReads PP gΓ sort_behind [x52, x54, I 1] H6 x55 ∧
          pureK (ias 1 (nth vs5 1) (I 0)) fun x56 =>
          pureK (ld (some false) 1 H6 x56) fun x57 =>
          pureK (ias 1 (nth vs5 1) (I 1)) fun x58 =>
          pureK (ld (some false) 1 H6 x58) fun x59 =>
          ACalls PP gΓ sort_behind [x57, x59, I 2] H6 fun x60 H61 =>
          pureK (maxE [x55, x60]) fun x62 =>
          ret1 H61 R x62
         ) (
          pureK (bop .plain .eql x24 (I 8)) fun x63 =>
          condK x63 (
           pureK (ias 1 (nth vs5 1) (I 0)) fun x64 =>
           pureK (ld (some false) 1 H6 x64) fun x65 =>
           pureK (ias 1 (nth vs5 1) (I 1)) fun x66 =>
           pureK (ld (some false) 1 H6 x66) fun x67 =>
           ACalls PP gΓ sort_behind [x65, x67, I 1] H6 fun x68 H69 =>
           ret1 H69 R x68
          ) (
           pureK (bop .plain .eql x24 (I 9)) fun x70 =>
           condK x70 (
            pureK (ias 1 (nth vs5 1) (I 0)) fun x71 =>
            pureK (ld (some false) 1 H6 x71) fun x72 =>
            ACalls PP gΓ sort_on [x72] H6 fun x73 H74 =>
            pureK (bop .plain .eql x73 (I 4)) fun x75 =>
            condK x75 (
             pureK (ias 1 (nth vs5 1) (I 0)) fun x76 =>
             pureK (ld (some false) 1 H74 x76) fun x77 =>
             pureK (bop .plain .sub x77 (I 1)) fun x78 =>
             ret1 H74 R x78
            ) (
             ret1 H74 R (I 0)
            )
           ) (
            pureK (bop .plain .eql x24 (I 10)) fun x79 =>
            condK x79 (
             pureK (ias 1 (nth vs5 1) (I 0)) fun x80 =>
             pureK (ld (some false) 1 H6 x80) fun x81 =>
             pureK (bop .plain .eql x81 (I 1)) fun x82 =>
             condK x82 (
              pureK (ias 1 (nth vs5 1) (I 1)) fun x83 =>
              pureK (ld (some false) 1 H6 x83) fun x84 =>
              pureK (bop .plain .eql x84 (I 1)) fun x85 =>
              condK x85 (
               ret1 H6 R (I 2)
              ) (
               ret1 H6 R (I 0)
              )
             ) (
              ret1 H6 R (I 0)
             )
            ) (
             pureK (bop .plain .eql x24 (I 12)) fun x86 =>
             condK x86 (
              pureK (ias 1 (nth vs5 1) (I 0)) fun x87 =>
              pureK (ld (some false) 1 H6 x87) fun x88 =>
              ACalls PP gΓ sort_on [x88] H6 fun x89 H90 =>
              pureK (bop .plain .eql x89 (I 3)) fun x91 =>
              condK x91 (
               pureK (ias 1 (nth vs5 1) (I 1)) fun x92 =>
               pureK (ld (some false) 1 H90 x92) fun x93 =>
               pureK (bop .plain .eql x93 (I 1)) fun x94 =>
               condK x94 (
                ret1 H90 R (I 4)
               ) (
                ret1 H90 R (I 0)
               )
              ) (
               ret1 H90 R (I 0)
              )
             ) (
              pureK (bop .plain .eql x24 (I 13)) fun x95 =>
              condK x95 (
               pureK (ias 1 (nth vs5 1) (I 0)) fun x96 =>
               pureK (ld (some false) 1 H6 x96) fun x97 =>
               ACalls PP gΓ sort_on [x97] H6 fun x98 H99 =>
               pureK (bop .plain .eql x98 (I 4)) fun x100 =>
               condK x100 (
                pureK (ias 1 (nth vs5 1) (I 1)) fun x101 =>
                pureK (ld (some false) 1 H99 x101) fun x102 =>
                pureK (bop .plain .eql x102 (I 1)) fun x103 =>
                condK x103 (
                 ret1 H99 R (I 4)
                ) (
                 ret1 H99 R (I 0)
                )
               ) (
                ret1 H99 R (I 0)
               )
              ) (
               pureK (bop .plain .eql x24 (I 14)) fun x104 =>
               condK x104 (
                pureK (ias 1 (nth vs5 1) (I 0)) fun x105 =>
                pureK (ld (some false) 1 H6 x105) fun x106 =>
                pureK (bop .plain .eql x106 (I 1)) fun x107 =>
                condK x107 (
                 ret1 H6 R (I 4)
                ) (
                 ret1 H6 R (I 0)
                )
               ) (
                ret1 H6 R (I 0)
               )
              )
             )
            )
           )
          )
         )
        )
       )
      )
     )
    )
   )
  )
 )
theorem K_sort_sort (a0 : AV) (H : Heap) (R : AV → Heap → Prop) : awp E_sort_sort (drawK E_sort_sort) C_sort_sort (fun j => List.getD [a0] j .dead) H (retK PP Tryz.f74.results.toList R) = W_sort_sort a0 H R := by kernel_rfl
theorem sort_sort_of {a0 : AV} {H : Heap} {R : AV → Heap → Prop} (h : W_sort_sort a0 H R) : ACalls PP gΓ sort_sort [a0] H R :=
  ACalls.of_awp (E := E_sort_sort) follows_PP Tryz.func74 (c := C_sort_sort) (by kernel_rfl) Tryz.ntmps74 ((K_sort_sort a0 H R) ▸ h)

noncomputable def L_ref03_Whole : Nat → Option (List Nat) := fun k => bif Nat.beq k 1002 then some [0, 3] else none
noncomputable abbrev E_ref03_Whole : Env := ⟨PP, gΓ, 31, L_ref03_Whole, fun _ => false⟩
noncomputable def C_ref03_Whole : Code := Tryz.f75.body.getD .skip
def W_ref03_Whole (a0 : AV) (H : Heap) (R : AV → Heap → Prop) : Prop :=
 ∃ J1 : List AV → Heap → Nat → Prop, (∃ (n7 : Nat) (H8 : Heap), H8 ≤ H ∧ J1 [a0, I 0] H8 n7) ∧ ∀ (vs2 : List AV) (H3 : Heap) (n4 : Nat), J1 vs2 H3 n4 →
 pureK (lnl (nth vs2 0)) fun x9 =>
 pureK (bop .plain .lss (nth vs2 1) x9) fun x10 =>
 condK x10 (
  pureK (ias 3 (nth vs2 0) (nth vs2 1)) fun x11 =>
  pureK (ld (some true) 3 H3 x11) fun x12 =>
  ACalls PP gΓ ref03_Right [x12] H3 fun x13 H14 =>
  pureK (unE .not x13) fun x15 =>
  condK x15 (
   ret1 H14 R (B false)
  ) (
   pureK (bop .plain .add (nth vs2 1) (I 1)) fun x16 =>
   (∃ (n5 : Nat) (H6 : Heap), n5 < n4 ∧ H6 ≤ H14 ∧ J1 [nth vs2 0, x16] H6 n5)
  )
 ) (
  pureK (lnl (nth vs2 0)) fun x17 =>
  pureK (bop .plain .geq x17 (I 1)) fun x18 =>
  condK x18 (
   pureK (lnl (nth vs2 0)) fun x19 =>
   pureK (bop .plain .leq x19 (I 200)) fun x20 =>
   condK x20 (
    ACalls PP gΓ ref03_Size [nth vs2 0] H3 fun x21 H22 =>
    pureK (lnl (nth vs2 0)) fun x23 =>
    pureK (bop .plain .eql x21 x23) fun x24 =>
    ret1 H22 R x24
   ) (
    ret1 H3 R (B false)
   )
  ) (
   ret1 H3 R (B false)
  )
 )
theorem K_ref03_Whole (a0 : AV) (H : Heap) (R : AV → Heap → Prop) : awp E_ref03_Whole (drawK E_ref03_Whole) C_ref03_Whole (fun j => List.getD [a0] j .dead) H (retK PP Tryz.f75.results.toList R) = W_ref03_Whole a0 H R := by kernel_rfl
theorem ref03_Whole_of {a0 : AV} {H : Heap} {R : AV → Heap → Prop} (h : W_ref03_Whole a0 H R) : ACalls PP gΓ ref03_Whole [a0] H R :=
  ACalls.of_awp (E := E_ref03_Whole) follows_PP Tryz.func75 (c := C_ref03_Whole) (by kernel_rfl) Tryz.ntmps75 ((K_ref03_Whole a0 H R) ▸ h)

noncomputable def L_ref04_Is : Nat → Option (List Nat) := fun k => none
noncomputable abbrev E_ref04_Is : Env := ⟨PP, gΓ, 36, L_ref04_Is, fun _ => false⟩
noncomputable def C_ref04_Is : Code := Tryz.f76.body.getD .skip
def W_ref04_Is (a0 a1 : AV) (H : Heap) (R : AV → Heap → Prop) : Prop :=
 ACalls PP gΓ ref03_Kids [a0] H fun x1 H2 =>
 pureK (bop .plain .eql a1 (I 1)) fun x3 =>
 condK x3 (
  ACalls PP gΓ ref04_plain [a0, x1] H2 fun x4 H5 =>
  ret1 H5 R x4
 ) (
  pureK (bop .plain .eql a1 (I 2)) fun x6 =>
  condK x6 (
   ACalls PP gΓ ref04_paired [a0, x1] H2 fun x7 H8 =>
   ret1 H8 R x7
  ) (
   pureK (bop .plain .eql a1 (I 3)) fun x9 =>
   condK x9 (
    ACalls PP gΓ ref04_plain [a0, x1] H2 fun x10 H11 =>
    condK x10 (
     ret1 H11 R (B true)
    ) (
     ACalls PP gΓ ref04_plainOn [a0, x1] H11 fun x12 H13 =>
     ret1 H13 R x12
    )
   ) (
    ACalls PP gΓ ref04_paired [a0, x1] H2 fun x14 H15 =>
    condK x14 (
     ret1 H15 R (B true)
    ) (
     ACalls PP gΓ ref04_pairedOn [a0, x1] H15 fun x16 H17 =>
     ret1 H17 R x16
    )
   )
  )
 )
theorem K_ref04_Is (a0 a1 : AV) (H : Heap) (R : AV → Heap → Prop) : awp E_ref04_Is (drawK E_ref04_Is) C_ref04_Is (fun j => List.getD [a0, a1] j .dead) H (retK PP Tryz.f76.results.toList R) = W_ref04_Is a0 a1 H R := by kernel_rfl
theorem ref04_Is_of {a0 a1 : AV} {H : Heap} {R : AV → Heap → Prop} (h : W_ref04_Is a0 a1 H R) : ACalls PP gΓ ref04_Is [a0, a1] H R :=
  ACalls.of_awp (E := E_ref04_Is) follows_PP Tryz.func76 (c := C_ref04_Is) (by kernel_rfl) Tryz.ntmps76 ((K_ref04_Is a0 a1 H R) ▸ h)

noncomputable def L_ref10_Tree : Nat → Option (List Nat) := fun k => none
noncomputable abbrev E_ref10_Tree : Env := ⟨PP, gΓ, 52, L_ref10_Tree, fun _ => false⟩
noncomputable def C_ref10_Tree : Code := Tryz.f77.body.getD .skip
def W_ref10_Tree (a0 : AV) (H : Heap) (R : AV → Heap → Prop) : Prop :=
 ACalls PP gΓ ref03_Kids [a0] H fun x1 H2 =>
 pureK (ias 3 a0 (I 0)) fun x3 =>
 pureK (fa 0 x3) fun x4 =>
 pureK (ld (some false) 1 H2 x4) fun x5 =>
 pureK (bop .plain .eql x5 (I 2)) fun x6 =>
 condK x6 (
  ACalls PP gΓ ref10_over [I 1] H2 fun x7 H8 =>
  ret1 H8 R x7
 ) (
  pureK (bop .plain .eql x5 (I 3)) fun x9 =>
  condK x9 (
   ACalls PP gΓ ref10_over [I 2] H2 fun x10 H11 =>
   ret1 H11 R x10
  ) (
   pureK (bop .plain .eql x5 (I 5)) fun x12 =>
   condK x12 (
    pureK (ias 3 a0 (I 0)) fun x13 =>
    pureK (fa 0 x13) fun x14 =>
    pureK (ld (some false) 1 H2 x14) fun x15 =>
    pureK (ias 1 x1 (I 0)) fun x16 =>
    pureK (ld (some false) 1 H2 x16) fun x17 =>
    ∃ x18, AReads PP gΓ ref10_Tree [x17] H2 x18 ∧
    pureK (ias 1 x1 (I 1)) fun x19 =>
    pureK (ld (some false) 1 H2 x19) fun x20 =>
    ACalls PP gΓ ref10_first [x15, x18, x20] H2 fun x21 H22 =>
    ret1 H22 R x21
   ) (
    pureK (bop .plain .eql x5 (I 8)) fun x23 =>
    condK x23 (
     pureK (ias 3 a0 (I 0)) fun x24 =>
     pureK (fa 0 x24) fun x25 =>
     pureK (ld (some false) 1 H2 x25) fun x26 =>
     pureK (ias 1 x1 (I 0)) fun x27 =>
     pureK (ld (some false) 1 H2 x27) fun x28 =>
     ∃ x29, AReads PP gΓ ref10_Tree [x28] H2 x29 ∧
     pureK (ias 1 x1 (I 1)) fun x30 =>
     pureK (ld (some false) 1 H2 x30) fun x31 =>
     ACalls PP gΓ ref10_first [x26, x29, x31] H2 fun x32 H33 =>
     ret1 H33 R x32
    ) (
     pureK (bop .plain .eql x5 (I 12)) fun x34 =>
     condK x34 (
      pureK (ias 3 a0 (I 0)) fun x35 =>
      pureK (fa 0 x35) fun x36 =>
      pureK (ld (some false) 1 H2 x36) fun x37 =>
      pureK (ias 1 x1 (I 0)) fun x38 =>
      pureK (ld (some false) 1 H2 x38) fun x39 =>
      ∃ x40, AReads PP gΓ ref10_Tree [x39] H2 x40 ∧
      pureK (ias 1 x1 (I 1)) fun x41 =>
      pureK (ld (some false) 1 H2 x41) fun x42 =>
      ACalls PP gΓ ref10_first [x37, x40, x42] H2 fun x43 H44 =>
      ret1 H44 R x43
     ) (
      pureK (bop .plain .eql x5 (I 13)) fun x45 =>
      condK x45 (
       pureK (ias 3 a0 (I 0)) fun x46 =>
       pureK (fa 0 x46) fun x47 =>
       pureK (ld (some false) 1 H2 x47) fun x48 =>
       pureK (ias 1 x1 (I 0)) fun x49 =>
       pureK (ld (some false) 1 H2 x49) fun x50 =>
       ∃ x51, AReads PP gΓ ref10_Tree [x50] H2 x51 ∧
       pureK (ias 1 x1 (I 1)) fun x52 =>
       pureK (ld (some false) 1 H2 x52) fun x53 =>
       ACalls PP gΓ ref10_first [x48, x51, x53] H2 fun x54 H55 =>
       ret1 H55 R x54
      ) (
       pureK (bop .plain .eql x5 (I 7)) fun x56 =>
       condK x56 (
        pureK (ias 1 x1 (I 0)) fun x57 =>
        pureK (ld (some false) 1 H2 x57) fun x58 =>
        ∃ x59, AReads PP gΓ ref10_Tree [x58] H2 x59 ∧
        pureK (ias 1 x1 (I 1)) fun x60 =>
        pureK (ld (some false) 1 H2 x60) fun x61 =>
        ACalls PP gΓ ref10_Tree [x61] H2 fun x62 H63 =>
        ACalls PP gΓ ref10_par [x59, x62] H63 fun x64 H65 =>
        ret1 H65 R x64
       ) (
        pureK (bop .plain .eql x5 (I 9)) fun x66 =>
        condK x66 (
         pureK (ias 1 x1 (I 0)) fun x67 =>
         pureK (ld (some false) 1 H2 x67) fun x68 =>
         ACalls PP gΓ ref10_Tree [x68] H2 fun x69 H70 =>
         ACalls PP gΓ ref10_block [x69] H70 fun x71 H72 =>
         ret1 H72 R x71
        ) (
         ret1 H2 R a0
        )
       )
      )
     )
    )
   )
  )
 )
theorem K_ref10_Tree (a0 : AV) (H : Heap) (R : AV → Heap → Prop) : awp E_ref10_Tree (drawK E_ref10_Tree) C_ref10_Tree (fun j => List.getD [a0] j .dead) H (retK PP Tryz.f77.results.toList R) = W_ref10_Tree a0 H R := by kernel_rfl
theorem ref10_Tree_of {a0 : AV} {H : Heap} {R : AV → Heap → Prop} (h : W_ref10_Tree a0 H R) : ACalls PP gΓ ref10_Tree [a0] H R :=
  ACalls.of_awp (E := E_ref10_Tree) follows_PP Tryz.func77 (c := C_ref10_Tree) (by kernel_rfl) Tryz.ntmps77 ((K_ref10_Tree a0 H R) ▸ h)

noncomputable def L_settle_over : Nat → Option (List Nat) := fun k => none
noncomputable abbrev E_settle_over : Env := ⟨PP, gΓ, 6, L_settle_over, fun _ => false⟩
noncomputable def C_settle_over : Code := Tryz.f78.body.getD .skip
def W_settle_over (a0 : AV) (H : Heap) (R : AV → Heap → Prop) : Prop :=
 pureK (bld [(0, 1), (1, 1), (2, 1)] [.sc (.int .i64 0), S emp, .sc (.int .i64 0)] [(0, I 11), (2, a0)]) fun x1 =>
 pureK (bsl 3 (.agg [.sc (.int .i64 0), S emp, .sc (.int .i64 0)]) 1 [(0, x1)]) fun x2 =>
 ret1 H R x2
theorem K_settle_over (a0 : AV) (H : Heap) (R : AV → Heap → Prop) : awp E_settle_over (drawK E_settle_over) C_settle_over (fun j => List.getD [a0] j .dead) H (retK PP Tryz.f78.results.toList R) = W_settle_over a0 H R := by kernel_rfl
theorem settle_over_of {a0 : AV} {H : Heap} {R : AV → Heap → Prop} (h : W_settle_over a0 H R) : ACalls PP gΓ settle_over [a0] H R :=
  ACalls.of_awp (E := E_settle_over) follows_PP Tryz.func78 (c := C_settle_over) (by kernel_rfl) Tryz.ntmps78 ((K_settle_over a0 H R) ▸ h)

noncomputable def L_settle_behind : Nat → Option (List Nat) := fun k => none
noncomputable abbrev E_settle_behind : Env := ⟨PP, gΓ, 30, L_settle_behind, fun _ => false⟩
noncomputable def C_settle_behind : Code := Tryz.f79.body.getD .skip
def W_settle_behind (a0 a1 a2 a3 : AV) (H : Heap) (R : AV → Heap → Prop) : Prop :=
 allocK (some (AV.cells a0)) H fun p1 H2 =>
 pureK (ias 3 a1 (I 0)) fun x3 =>
 pureK (ld (some true) 3 H2 x3) fun x4 =>
 pureK (bld [(0, 1), (1, 1), (2, 1)] [.sc (.int .i64 0), S emp, .sc (.int .i64 0)] [(0, I 11), (2, a3)]) fun x5 =>
 pureK (bop (.flat [.int, .str, .int]) .eql x4 x5) fun x6 =>
 condK x6 (
  ACalls PP gΓ settle_settle [a2] H2 fun x7 H8 =>
  ret1 H8 R x7
 ) (
  pureK (ias 3 a1 (I 0)) fun x9 =>
  pureK (fa 0 x9) fun x10 =>
  pureK (ld (some false) 1 H2 x10) fun x11 =>
  pureK (bop .plain .eql x11 (I 11)) fun x12 =>
  condK x12 (
   ret1 H2 R a1
  ) (
   pureK (ld (some true) 3 H2 p1) fun x13 =>
   pureK (bsl 1 (.lst 0 [] .exact) 2 [(0, a1), (1, a2)]) fun x14 =>
   ACalls PP gΓ row_Make [x13, x14] H2 fun x15 H16 =>
   ret1 H16 R x15
  )
 )
theorem K_settle_behind (a0 a1 a2 a3 : AV) (H : Heap) (R : AV → Heap → Prop) : awp E_settle_behind (drawK E_settle_behind) C_settle_behind (fun j => List.getD [a0, a1, a2, a3] j .dead) H (retK PP Tryz.f79.results.toList R) = W_settle_behind a0 a1 a2 a3 H R := by kernel_rfl
theorem settle_behind_of {a0 a1 a2 a3 : AV} {H : Heap} {R : AV → Heap → Prop} (h : W_settle_behind a0 a1 a2 a3 H R) : ACalls PP gΓ settle_behind [a0, a1, a2, a3] H R :=
  ACalls.of_awp (E := E_settle_behind) follows_PP Tryz.func79 (c := C_settle_behind) (by kernel_rfl) Tryz.ntmps79 ((K_settle_behind a0 a1 a2 a3 H R) ▸ h)

noncomputable def L_settle_stack : Nat → Option (List Nat) := fun k => none
noncomputable abbrev E_settle_stack : Env := ⟨PP, gΓ, 26, L_settle_stack, fun _ => false⟩
noncomputable def C_settle_stack : Code := Tryz.f80.body.getD .skip
def W_settle_stack (a0 a1 : AV) (H : Heap) (R : AV → Heap → Prop) : Prop :=
 pureK (ias 3 a0 (I 0)) fun x1 =>
 pureK (fa 0 x1) fun x2 =>
 pureK (ld (some false) 1 H x2) fun x3 =>
 pureK (bop .plain .neq x3 (I 14)) fun x4 =>
 condK x4 (
  pureK (bld [(0, 1), (1, 1), (2, 1)] [.sc (.int .i64 0), S emp, .sc (.int .i64 0)] [(0, I 13)]) fun x5 =>
  pureK (bsl 1 (.lst 0 [] .exact) 2 [(0, a0), (1, a1)]) fun x6 =>
  ACalls PP gΓ row_Make [x5, x6] H fun x7 H8 =>
  ret1 H8 R x7
 ) (
  pureK (ias 3 a0 (I 0)) fun x9 =>
  pureK (fa 2 x9) fun x10 =>
  pureK (ld (some false) 1 H x10) fun x11 =>
  pureK (bld [(0, 1), (1, 1), (2, 1)] [.sc (.int .i64 0), S emp, .sc (.int .i64 0)] [(0, I 5)]) fun x12 =>
  pureK (sll 3 a0 (some (I 1)) none none) fun x13 =>
  pureK (bsl 1 (.lst 0 [] .exact) 2 [(0, x13), (1, a1)]) fun x14 =>
  ∃ x15, AReads PP gΓ row_Make [x12, x14] H x15 ∧
  ACalls PP gΓ settle_end [x11, x15] H fun x16 H17 =>
  ret1 H17 R x16
 )
theorem K_settle_stack (a0 a1 : AV) (H : Heap) (R : AV → Heap → Prop) : awp E_settle_stack (drawK E_settle_stack) C_settle_stack (fun j => List.getD [a0, a1] j .dead) H (retK PP Tryz.f80.results.toList R) = W_settle_stack a0 a1 H R := by kernel_rfl
theorem settle_stack_of {a0 a1 : AV} {H : Heap} {R : AV → Heap → Prop} (h : W_settle_stack a0 a1 H R) : ACalls PP gΓ settle_stack [a0, a1] H R :=
  ACalls.of_awp (E := E_settle_stack) follows_PP Tryz.func80 (c := C_settle_stack) (by kernel_rfl) Tryz.ntmps80 ((K_settle_stack a0 a1 H R) ▸ h)

noncomputable def L_settle_Ended : Nat → Option (List Nat) := fun k => none
noncomputable abbrev E_settle_Ended : Env := ⟨PP, gΓ, 18, L_settle_Ended, fun _ => false⟩
noncomputable def C_settle_Ended : Code := Tryz.f81.body.getD .skip
def W_settle_Ended (a0 : AV) (H : Heap) (R : AV → Heap → Prop) : Prop :=
 pureK (lnl a0) fun x1 =>
 pureK (bop .plain .neq x1 (I 1)) fun x2 =>
 condK x2 (
  ret1 H R (.tup [I 0, B false])
 ) (
  pureK (ias 3 a0 (I 0)) fun x3 =>
  pureK (fa 0 x3) fun x4 =>
  pureK (ld (some false) 1 H x4) fun x5 =>
  pureK (bop .plain .neq x5 (I 11)) fun x6 =>
  condK x6 (
   ret1 H R (.tup [I 0, B false])
  ) (
   pureK (ias 3 a0 (I 0)) fun x7 =>
   pureK (fa 2 x7) fun x8 =>
   pureK (ld (some false) 1 H x8) fun x9 =>
   ret1 H R (.tup [x9, B true])
  )
 )
theorem K_settle_Ended (a0 : AV) (H : Heap) (R : AV → Heap → Prop) : awp E_settle_Ended (drawK E_settle_Ended) C_settle_Ended (fun j => List.getD [a0] j .dead) H (retK PP Tryz.f81.results.toList R) = W_settle_Ended a0 H R := by kernel_rfl
theorem settle_Ended_of {a0 : AV} {H : Heap} {R : AV → Heap → Prop} (h : W_settle_Ended a0 H R) : ACalls PP gΓ settle_Ended [a0] H R :=
  ACalls.of_awp (E := E_settle_Ended) follows_PP Tryz.func81 (c := C_settle_Ended) (by kernel_rfl) Tryz.ntmps81 ((K_settle_Ended a0 H R) ▸ h)

noncomputable def L_row_Make : Nat → Option (List Nat) := fun k => none
noncomputable abbrev E_row_Make : Env := ⟨PP, gΓ, 10, L_row_Make, fun _ => false⟩
noncomputable def C_row_Make : Code := Tryz.f82.body.getD .skip
def W_row_Make (a0 a1 : AV) (H : Heap) (R : AV → Heap → Prop) : Prop :=
 allocK (some (AV.cells a0)) H fun p1 H2 =>
 pureK (ld (some true) 3 H2 p1) fun x3 =>
 pureK (bsl 3 (.agg [.sc (.int .i64 0), S emp, .sc (.int .i64 0)]) 1 [(0, x3)]) fun x4 =>
 ∃ x5, AReads PP gΓ slices_Concat_Node [a1] H2 x5 ∧
 appK 3 x4 x5 H2 fun x6 H7 =>
 ret1 H7 R x6
theorem K_row_Make (a0 a1 : AV) (H : Heap) (R : AV → Heap → Prop) : awp E_row_Make (drawK E_row_Make) C_row_Make (fun j => List.getD [a0, a1] j .dead) H (retK PP Tryz.f82.results.toList R) = W_row_Make a0 a1 H R := by kernel_rfl
theorem row_Make_of {a0 a1 : AV} {H : Heap} {R : AV → Heap → Prop} (h : W_row_Make a0 a1 H R) : ACalls PP gΓ row_Make [a0, a1] H R :=
  ACalls.of_awp (E := E_row_Make) follows_PP Tryz.func82 (c := C_row_Make) (by kernel_rfl) Tryz.ntmps82 ((K_row_Make a0 a1 H R) ▸ h)

noncomputable def L_settle_end : Nat → Option (List Nat) := fun k => none
noncomputable abbrev E_settle_end : Env := ⟨PP, gΓ, 10, L_settle_end, fun _ => false⟩
noncomputable def C_settle_end : Code := Tryz.f83.body.getD .skip
def W_settle_end (a0 a1 : AV) (H : Heap) (R : AV → Heap → Prop) : Prop :=
 pureK (bld [(0, 1), (1, 1), (2, 1)] [.sc (.int .i64 0), S emp, .sc (.int .i64 0)] [(0, I 14), (2, a0)]) fun x1 =>
 pureK (bsl 1 (.lst 0 [] .exact) 1 [(0, a1)]) fun x2 =>
 ACalls PP gΓ row_Make [x1, x2] H fun x3 H4 =>
 ret1 H4 R x3
theorem K_settle_end (a0 a1 : AV) (H : Heap) (R : AV → Heap → Prop) : awp E_settle_end (drawK E_settle_end) C_settle_end (fun j => List.getD [a0, a1] j .dead) H (retK PP Tryz.f83.results.toList R) = W_settle_end a0 a1 H R := by kernel_rfl
theorem settle_end_of {a0 a1 : AV} {H : Heap} {R : AV → Heap → Prop} (h : W_settle_end a0 a1 H R) : ACalls PP gΓ settle_end [a0, a1] H R :=
  ACalls.of_awp (E := E_settle_end) follows_PP Tryz.func83 (c := C_settle_end) (by kernel_rfl) Tryz.ntmps83 ((K_settle_end a0 a1 H R) ▸ h)

noncomputable def L_settle_par : Nat → Option (List Nat) := fun k => none
noncomputable abbrev E_settle_par : Env := ⟨PP, gΓ, 59, L_settle_par, fun _ => false⟩
noncomputable def C_settle_par : Code := Tryz.f84.body.getD .skip
def W_settle_par (a0 a1 a2 : AV) (H : Heap) (R : AV → Heap → Prop) : Prop :=
 allocK (some (AV.cells a0)) H fun p1 H2 =>
 pureK (ias 3 a1 (I 0)) fun x3 =>
 pureK (fa 2 x3) fun x4 =>
 pureK (ld (some false) 1 H2 x4) fun x5 =>
 pureK (ias 3 a2 (I 0)) fun x6 =>
 pureK (fa 2 x6) fun x7 =>
 pureK (ld (some false) 1 H2 x7) fun x8 =>
 ACalls PP gΓ sign_Both [x5, x8] H2 fun x9 H10 =>
 pureK (ias 3 a1 (I 0)) fun x11 =>
 pureK (fa 0 x11) fun x12 =>
 pureK (ld (some false) 1 H10 x12) fun x13 =>
 pureK (bop .plain .eql x13 (I 11)) fun x14 =>
 condK x14 (
  pureK (ias 3 a2 (I 0)) fun x15 =>
  pureK (fa 0 x15) fun x16 =>
  pureK (ld (some false) 1 H10 x16) fun x17 =>
  pureK (bop .plain .eql x17 (I 11)) fun x18 =>
  condK x18 (
   ACalls PP gΓ settle_over [x9] H10 fun x19 H20 =>
   ret1 H20 R x19
  ) (
   pureK (ias 3 a1 (I 0)) fun x21 =>
   pureK (fa 0 x21) fun x22 =>
   pureK (ld (some false) 1 H10 x22) fun x23 =>
   pureK (bop .plain .eql x23 (I 14)) fun x24 =>
   condK x24 (
    pureK (ias 3 a2 (I 0)) fun x25 =>
    pureK (fa 0 x25) fun x26 =>
    pureK (ld (some false) 1 H10 x26) fun x27 =>
    pureK (bop .plain .eql x27 (I 14)) fun x28 =>
    condK x28 (
     pureK (ld (some true) 3 H10 p1) fun x29 =>
     pureK (sll 3 a1 (some (I 1)) none none) fun x30 =>
     pureK (sll 3 a2 (some (I 1)) none none) fun x31 =>
     pureK (bsl 1 (.lst 0 [] .exact) 2 [(0, x30), (1, x31)]) fun x32 =>
     ∃ x33, AReads PP gΓ row_Make [x29, x32] H10 x33 ∧
     ACalls PP gΓ settle_end [x9, x33] H10 fun x34 H35 =>
     ret1 H35 R x34
    ) (
     pureK (ld (some true) 3 H10 p1) fun x36 =>
     pureK (bsl 1 (.lst 0 [] .exact) 2 [(0, a1), (1, a2)]) fun x37 =>
     ACalls PP gΓ row_Make [x36, x37] H10 fun x38 H39 =>
     ret1 H39 R x38
    )
   ) (
    pureK (ld (some true) 3 H10 p1) fun x40 =>
    pureK (bsl 1 (.lst 0 [] .exact) 2 [(0, a1), (1, a2)]) fun x41 =>
    ACalls PP gΓ row_Make [x40, x41] H10 fun x42 H43 =>
    ret1 H43 R x42
   )
  )
 ) (
  pureK (ias 3 a1 (I 0)) fun x44 =>
  pureK (fa 0 x44) fun x45 =>
  pureK (ld (some false) 1 H10 x45) fun x46 =>
  pureK (bop .plain .eql x46 (I 14)) fun x47 =>
  condK x47 (
   pureK (ias 3 a2 (I 0)) fun x48 =>
   pureK (fa 0 x48) fun x49 =>
   pureK (ld (some false) 1 H10 x49) fun x50 =>
   pureK (bop .plain .eql x50 (I 14)) fun x51 =>
   condK x51 (
    pureK (ld (some true) 3 H10 p1) fun x52 =>
    pureK (sll 3 a1 (some (I 1)) none none) fun x53 =>
    pureK (sll 3 a2 (some (I 1)) none none) fun x54 =>
    pureK (bsl 1 (.lst 0 [] .exact) 2 [(0, x53), (1, x54)]) fun x55 =>
    ∃ x56, AReads PP gΓ row_Make [x52, x55] H10 x56 ∧
    ACalls PP gΓ settle_end [x9, x56] H10 fun x57 H58 =>
    ret1 H58 R x57
   ) (
    pureK (ld (some true) 3 H10 p1) fun x59 =>
    pureK (bsl 1 (.lst 0 [] .exact) 2 [(0, a1), (1, a2)]) fun x60 =>
    ACalls PP gΓ row_Make [x59, x60] H10 fun x61 H62 =>
    ret1 H62 R x61
   )
  ) (
   pureK (ld (some true) 3 H10 p1) fun x63 =>
   pureK (bsl 1 (.lst 0 [] .exact) 2 [(0, a1), (1, a2)]) fun x64 =>
   ACalls PP gΓ row_Make [x63, x64] H10 fun x65 H66 =>
   ret1 H66 R x65
  )
 )
theorem K_settle_par (a0 a1 a2 : AV) (H : Heap) (R : AV → Heap → Prop) : awp E_settle_par (drawK E_settle_par) C_settle_par (fun j => List.getD [a0, a1, a2] j .dead) H (retK PP Tryz.f84.results.toList R) = W_settle_par a0 a1 a2 H R := by kernel_rfl
theorem settle_par_of {a0 a1 a2 : AV} {H : Heap} {R : AV → Heap → Prop} (h : W_settle_par a0 a1 a2 H R) : ACalls PP gΓ settle_par [a0, a1, a2] H R :=
  ACalls.of_awp (E := E_settle_par) follows_PP Tryz.func84 (c := C_settle_par) (by kernel_rfl) Tryz.ntmps84 ((K_settle_par a0 a1 a2 H R) ▸ h)

noncomputable def L_settle_block : Nat → Option (List Nat) := fun k => none
noncomputable abbrev E_settle_block : Env := ⟨PP, gΓ, 22, L_settle_block, fun _ => false⟩
noncomputable def C_settle_block : Code := Tryz.f85.body.getD .skip
def W_settle_block (a0 a1 : AV) (H : Heap) (R : AV → Heap → Prop) : Prop :=
 allocK (some (AV.cells a0)) H fun p1 H2 =>
 pureK (ias 3 a1 (I 0)) fun x3 =>
 pureK (ld (some true) 3 H2 x3) fun x4 =>
 pureK (bld [(0, 1), (1, 1), (2, 1)] [.sc (.int .i64 0), S emp, .sc (.int .i64 0)] [(0, I 14), (2, I 1)]) fun x5 =>
 pureK (bop (.flat [.int, .str, .int]) .eql x4 x5) fun x6 =>
 condK x6 (
  ACalls PP gΓ settle_over [I 1] H2 fun x7 H8 =>
  ret1 H8 R x7
 ) (
  pureK (bld [(0, 1), (1, 1), (2, 1)] [.sc (.int .i64 0), S emp, .sc (.int .i64 0)] [(0, I 14), (2, I 2)]) fun x9 =>
  pureK (bop (.flat [.int, .str, .int]) .eql x4 x9) fun x10 =>
  condK x10 (
   pureK (sll 3 a1 (some (I 1)) none none) fun x11 =>
   ACalls PP gΓ settle_settle [x11] H2 fun x12 H13 =>
   ret1 H13 R x12
  ) (
   pureK (ld (some true) 3 H2 p1) fun x14 =>
   pureK (bsl 1 (.lst 0 [] .exact) 1 [(0, a1)]) fun x15 =>
   ACalls PP gΓ row_Make [x14, x15] H2 fun x16 H17 =>
   ret1 H17 R x16
  )
 )
theorem K_settle_block (a0 a1 : AV) (H : Heap) (R : AV → Heap → Prop) : awp E_settle_block (drawK E_settle_block) C_settle_block (fun j => List.getD [a0, a1] j .dead) H (retK PP Tryz.f85.results.toList R) = W_settle_block a0 a1 H R := by kernel_rfl
theorem settle_block_of {a0 a1 : AV} {H : Heap} {R : AV → Heap → Prop} (h : W_settle_block a0 a1 H R) : ACalls PP gΓ settle_block [a0, a1] H R :=
  ACalls.of_awp (E := E_settle_block) follows_PP Tryz.func85 (c := C_settle_block) (by kernel_rfl) Tryz.ntmps85 ((K_settle_block a0 a1 H R) ▸ h)

noncomputable def L_strings_trimLeftByte : Nat → Option (List Nat) := fun k => bif Nat.beq k 1001 then some [0, 1] else none
noncomputable abbrev E_strings_trimLeftByte : Env := ⟨PP, gΓ, 17, L_strings_trimLeftByte, fun _ => false⟩
noncomputable def C_strings_trimLeftByte : Code := Tryz.f91.body.getD .skip
def W_strings_trimLeftByte (a0 a1 : AV) (H : Heap) (R : AV → Heap → Prop) : Prop :=
 ∃ J1 : List AV → Heap → Nat → Prop, (∃ (n7 : Nat) (H8 : Heap), H8 ≤ H ∧ J1 [a0, a1] H8 n7) ∧ ∀ (vs2 : List AV) (H3 : Heap) (n4 : Nat), J1 vs2 H3 n4 →
 pureK (lns (nth vs2 0)) fun x9 =>
 pureK (bop .plain .gtr x9 (I 0)) fun x10 =>
 condK x10 (
  pureK (ixs (nth vs2 0) (I 0)) fun x11 =>
  pureK (bop .plain .eql x11 (nth vs2 1)) fun x12 =>
  condK x12 (
   pureK (sls (nth vs2 0) (some (I 1)) none none) fun x13 =>
   (∃ (n5 : Nat) (H6 : Heap), n5 < n4 ∧ H6 ≤ H3 ∧ J1 [x13, nth vs2 1] H6 n5)
  ) (
   ret1 H3 R (nth vs2 0)
  )
 ) (
  ret1 H3 R (nth vs2 0)
 )
theorem K_strings_trimLeftByte (a0 a1 : AV) (H : Heap) (R : AV → Heap → Prop) : awp E_strings_trimLeftByte (drawK E_strings_trimLeftByte) C_strings_trimLeftByte (fun j => List.getD [a0, a1] j .dead) H (retK PP Tryz.f91.results.toList R) = W_strings_trimLeftByte a0 a1 H R := by kernel_rfl
theorem strings_trimLeftByte_of {a0 a1 : AV} {H : Heap} {R : AV → Heap → Prop} (h : W_strings_trimLeftByte a0 a1 H R) : ACalls PP gΓ strings_trimLeftByte [a0, a1] H R :=
  ACalls.of_awp (E := E_strings_trimLeftByte) follows_PP Tryz.func91 (c := C_strings_trimLeftByte) (by kernel_rfl) Tryz.ntmps91 ((K_strings_trimLeftByte a0 a1 H R) ▸ h)

noncomputable def L_strings_trimRightByte : Nat → Option (List Nat) := fun k => bif Nat.beq k 1001 then some [0, 1] else none
noncomputable abbrev E_strings_trimRightByte : Env := ⟨PP, gΓ, 23, L_strings_trimRightByte, fun _ => false⟩
noncomputable def C_strings_trimRightByte : Code := Tryz.f92.body.getD .skip
def W_strings_trimRightByte (a0 a1 : AV) (H : Heap) (R : AV → Heap → Prop) : Prop :=
 ∃ J1 : List AV → Heap → Nat → Prop, (∃ (n7 : Nat) (H8 : Heap), H8 ≤ H ∧ J1 [a0, a1] H8 n7) ∧ ∀ (vs2 : List AV) (H3 : Heap) (n4 : Nat), J1 vs2 H3 n4 →
 pureK (lns (nth vs2 0)) fun x9 =>
 pureK (bop .plain .gtr x9 (I 0)) fun x10 =>
 condK x10 (
  pureK (lns (nth vs2 0)) fun x11 =>
  pureK (bop .plain .sub x11 (I 1)) fun x12 =>
  pureK (ixs (nth vs2 0) x12) fun x13 =>
  pureK (bop .plain .eql x13 (nth vs2 1)) fun x14 =>
  condK x14 (
   pureK (lns (nth vs2 0)) fun x15 =>
   pureK (bop .plain .sub x15 (I 1)) fun x16 =>
   pureK (sls (nth vs2 0) none (some x16) none) fun x17 =>
   (∃ (n5 : Nat) (H6 : Heap), n5 < n4 ∧ H6 ≤ H3 ∧ J1 [x17, nth vs2 1] H6 n5)
  ) (
   ret1 H3 R (nth vs2 0)
  )
 ) (
  ret1 H3 R (nth vs2 0)
 )
theorem K_strings_trimRightByte (a0 a1 : AV) (H : Heap) (R : AV → Heap → Prop) : awp E_strings_trimRightByte (drawK E_strings_trimRightByte) C_strings_trimRightByte (fun j => List.getD [a0, a1] j .dead) H (retK PP Tryz.f92.results.toList R) = W_strings_trimRightByte a0 a1 H R := by kernel_rfl
theorem strings_trimRightByte_of {a0 a1 : AV} {H : Heap} {R : AV → Heap → Prop} (h : W_strings_trimRightByte a0 a1 H R) : ACalls PP gΓ strings_trimRightByte [a0, a1] H R :=
  ACalls.of_awp (E := E_strings_trimRightByte) follows_PP Tryz.func92 (c := C_strings_trimRightByte) (by kernel_rfl) Tryz.ntmps92 ((K_strings_trimRightByte a0 a1 H R) ▸ h)

noncomputable def L_strings_makeASCIISet : Nat → Option (List Nat) := fun k => bif Nat.beq k 1002 then some [0, 2, 4] else none
noncomputable abbrev E_strings_makeASCIISet : Env := ⟨PP, gΓ, 21, L_strings_makeASCIISet, fun _ => false⟩
noncomputable def C_strings_makeASCIISet : Code := Tryz.f93.body.getD .skip
def W_strings_makeASCIISet (a0 : AV) (H : Heap) (R : AV → Heap → Prop) : Prop :=
 allocP (List.replicate 256 (B false)) H fun o1 H2 =>
 ∃ J3 : List AV → Heap → Nat → Prop, (∃ (n9 : Nat) (H10 : Heap), H10 ≤ H2 ∧ J3 [a0, .ptr o1 0, I 0] H10 n9) ∧ ∀ (vs4 : List AV) (H5 : Heap) (n6 : Nat), J3 vs4 H5 n6 →
 pureK (lns (nth vs4 0)) fun x11 =>
 pureK (bop .plain .lss (nth vs4 2) x11) fun x12 =>
 condK x12 (
  pureK (ixs (nth vs4 0) (nth vs4 2)) fun x13 =>
  pureK (bop .plain .geq x13 (.sc (.int .u8 128))) fun x14 =>
  condK x14 (
   pureK (ld (some true) 256 H5 (nth vs4 1)) fun x15 =>
   heapK (st 256 H5 (nth vs4 1) x15) fun H16 =>
   pureK (ld (some true) 256 H16 (nth vs4 1)) fun x17 =>
   ret1 H16 R (.tup [x17, B false])
  ) (
   pureK (iaa 256 1 (nth vs4 1) x13) fun x18 =>
   heapK (st 1 H5 x18 (B true)) fun H19 =>
   pureK (bop .plain .add (nth vs4 2) (I 1)) fun x20 =>
   (∃ (n7 : Nat) (H8 : Heap), n7 < n6 ∧ H8 ≤ H19 ∧ J3 [nth vs4 0, nth vs4 1, x20] H8 n7)
  )
 ) (
  pureK (ld (some true) 256 H5 (nth vs4 1)) fun x21 =>
  heapK (st 256 H5 (nth vs4 1) x21) fun H22 =>
  pureK (ld (some true) 256 H22 (nth vs4 1)) fun x23 =>
  ret1 H22 R (.tup [x23, B true])
 )
theorem K_strings_makeASCIISet (a0 : AV) (H : Heap) (R : AV → Heap → Prop) : awp E_strings_makeASCIISet (drawK E_strings_makeASCIISet) C_strings_makeASCIISet (fun j => List.getD [a0] j .dead) H (retK PP Tryz.f93.results.toList R) = W_strings_makeASCIISet a0 H R := by kernel_rfl
theorem strings_makeASCIISet_of {a0 : AV} {H : Heap} {R : AV → Heap → Prop} (h : W_strings_makeASCIISet a0 H R) : ACalls PP gΓ strings_makeASCIISet [a0] H R :=
  ACalls.of_awp (E := E_strings_makeASCIISet) follows_PP Tryz.func93 (c := C_strings_makeASCIISet) (by kernel_rfl) Tryz.ntmps93 ((K_strings_makeASCIISet a0 H R) ▸ h)

noncomputable def L_strings_trimLeftASCII : Nat → Option (List Nat) := fun k => bif Nat.beq k 1001 then some [0, 1] else none
noncomputable abbrev E_strings_trimLeftASCII : Env := ⟨PP, gΓ, 16, L_strings_trimLeftASCII, fun _ => false⟩
noncomputable def C_strings_trimLeftASCII : Code := Tryz.f94.body.getD .skip
def W_strings_trimLeftASCII (a0 a1 : AV) (H : Heap) (R : AV → Heap → Prop) : Prop :=
 ∃ J1 : List AV → Heap → Nat → Prop, (∃ (n7 : Nat) (H8 : Heap), H8 ≤ H ∧ J1 [a0, a1] H8 n7) ∧ ∀ (vs2 : List AV) (H3 : Heap) (n4 : Nat), J1 vs2 H3 n4 →
 pureK (lns (nth vs2 0)) fun x9 =>
 pureK (bop .plain .gtr x9 (I 0)) fun x10 =>
 condK x10 (
  pureK (ixs (nth vs2 0) (I 0)) fun x11 =>
  ACalls PP gΓ strings_asciiSet_contains [nth vs2 1, x11] H3 fun x12 H13 =>
  pureK (unE .not x12) fun x14 =>
  condK x14 (
   ret1 H13 R (nth vs2 0)
  ) (
   pureK (sls (nth vs2 0) (some (I 1)) none none) fun x15 =>
   (∃ (n5 : Nat) (H6 : Heap), n5 < n4 ∧ H6 ≤ H13 ∧ J1 [x15, nth vs2 1] H6 n5)
  )
 ) (
  ret1 H3 R (nth vs2 0)
 )
theorem K_strings_trimLeftASCII (a0 a1 : AV) (H : Heap) (R : AV → Heap → Prop) : awp E_strings_trimLeftASCII (drawK E_strings_trimLeftASCII) C_strings_trimLeftASCII (fun j => List.getD [a0, a1] j .dead) H (retK PP Tryz.f94.results.toList R) = W_strings_trimLeftASCII a0 a1 H R := by kernel_rfl
theorem strings_trimLeftASCII_of {a0 a1 : AV} {H : Heap} {R : AV → Heap → Prop} (h : W_strings_trimLeftASCII a0 a1 H R) : ACalls PP gΓ strings_trimLeftASCII [a0, a1] H R :=
  ACalls.of_awp (E := E_strings_trimLeftASCII) follows_PP Tryz.func94 (c := C_strings_trimLeftASCII) (by kernel_rfl) Tryz.ntmps94 ((K_strings_trimLeftASCII a0 a1 H R) ▸ h)

noncomputable def L_strings_trimRightASCII : Nat → Option (List Nat) := fun k => bif Nat.beq k 1001 then some [0, 1] else none
noncomputable abbrev E_strings_trimRightASCII : Env := ⟨PP, gΓ, 22, L_strings_trimRightASCII, fun _ => false⟩
noncomputable def C_strings_trimRightASCII : Code := Tryz.f95.body.getD .skip
def W_strings_trimRightASCII (a0 a1 : AV) (H : Heap) (R : AV → Heap → Prop) : Prop :=
 ∃ J1 : List AV → Heap → Nat → Prop, (∃ (n7 : Nat) (H8 : Heap), H8 ≤ H ∧ J1 [a0, a1] H8 n7) ∧ ∀ (vs2 : List AV) (H3 : Heap) (n4 : Nat), J1 vs2 H3 n4 →
 pureK (lns (nth vs2 0)) fun x9 =>
 pureK (bop .plain .gtr x9 (I 0)) fun x10 =>
 condK x10 (
  pureK (lns (nth vs2 0)) fun x11 =>
  pureK (bop .plain .sub x11 (I 1)) fun x12 =>
  pureK (ixs (nth vs2 0) x12) fun x13 =>
  ACalls PP gΓ strings_asciiSet_contains [nth vs2 1, x13] H3 fun x14 H15 =>
  pureK (unE .not x14) fun x16 =>
  condK x16 (
   ret1 H15 R (nth vs2 0)
  ) (
   pureK (lns (nth vs2 0)) fun x17 =>
   pureK (bop .plain .sub x17 (I 1)) fun x18 =>
   pureK (sls (nth vs2 0) none (some x18) none) fun x19 =>
   (∃ (n5 : Nat) (H6 : Heap), n5 < n4 ∧ H6 ≤ H15 ∧ J1 [x19, nth vs2 1] H6 n5)
  )
 ) (
  ret1 H3 R (nth vs2 0)
 )
theorem K_strings_trimRightASCII (a0 a1 : AV) (H : Heap) (R : AV → Heap → Prop) : awp E_strings_trimRightASCII (drawK E_strings_trimRightASCII) C_strings_trimRightASCII (fun j => List.getD [a0, a1] j .dead) H (retK PP Tryz.f95.results.toList R) = W_strings_trimRightASCII a0 a1 H R := by kernel_rfl
theorem strings_trimRightASCII_of {a0 a1 : AV} {H : Heap} {R : AV → Heap → Prop} (h : W_strings_trimRightASCII a0 a1 H R) : ACalls PP gΓ strings_trimRightASCII [a0, a1] H R :=
  ACalls.of_awp (E := E_strings_trimRightASCII) follows_PP Tryz.func95 (c := C_strings_trimRightASCII) (by kernel_rfl) Tryz.ntmps95 ((K_strings_trimRightASCII a0 a1 H R) ▸ h)

noncomputable def L_strings_trimLeftUnicode : Nat → Option (List Nat) := fun k => bif Nat.beq k 1001 then some [0, 1] else none
noncomputable abbrev E_strings_trimLeftUnicode : Env := ⟨PP, gΓ, 23, L_strings_trimLeftUnicode, fun _ => false⟩
noncomputable def C_strings_trimLeftUnicode : Code := Tryz.f96.body.getD .skip
def W_strings_trimLeftUnicode (a0 a1 : AV) (H : Heap) (R : AV → Heap → Prop) : Prop :=
 ∃ J1 : List AV → Heap → Nat → Prop, (∃ (n7 : Nat) (H8 : Heap), H8 ≤ H ∧ J1 [a0, a1] H8 n7) ∧ ∀ (vs2 : List AV) (H3 : Heap) (n4 : Nat), J1 vs2 H3 n4 →
 pureK (lns (nth vs2 0)) fun x9 =>
 pureK (bop .plain .gtr x9 (I 0)) fun x10 =>
 condK x10 (
  ACalls PP gΓ utf8_DecodeRuneInString [nth vs2 0] H3 fun x11 H12 =>
  pureK (extractE x11 0) fun x13 =>
  pureK (extractE x11 1) fun x14 =>
  ACalls PP gΓ strings_ContainsRune [nth vs2 1, x13] H12 fun x15 H16 =>
  pureK (unE .not x15) fun x17 =>
  condK x17 (
   ret1 H16 R (nth vs2 0)
  ) (
   pureK (sls (nth vs2 0) (some x14) none none) fun x18 =>
   (∃ (n5 : Nat) (H6 : Heap), n5 < n4 ∧ H6 ≤ H16 ∧ J1 [x18, nth vs2 1] H6 n5)
  )
 ) (
  ret1 H3 R (nth vs2 0)
 )
theorem K_strings_trimLeftUnicode (a0 a1 : AV) (H : Heap) (R : AV → Heap → Prop) : awp E_strings_trimLeftUnicode (drawK E_strings_trimLeftUnicode) C_strings_trimLeftUnicode (fun j => List.getD [a0, a1] j .dead) H (retK PP Tryz.f96.results.toList R) = W_strings_trimLeftUnicode a0 a1 H R := by kernel_rfl
theorem strings_trimLeftUnicode_of {a0 a1 : AV} {H : Heap} {R : AV → Heap → Prop} (h : W_strings_trimLeftUnicode a0 a1 H R) : ACalls PP gΓ strings_trimLeftUnicode [a0, a1] H R :=
  ACalls.of_awp (E := E_strings_trimLeftUnicode) follows_PP Tryz.func96 (c := C_strings_trimLeftUnicode) (by kernel_rfl) Tryz.ntmps96 ((K_strings_trimLeftUnicode a0 a1 H R) ▸ h)

noncomputable def L_strings_trimRightUnicode : Nat → Option (List Nat) := fun k => bif Nat.beq k 1001 then some [0, 1] else none
noncomputable abbrev E_strings_trimRightUnicode : Env := ⟨PP, gΓ, 34, L_strings_trimRightUnicode, fun _ => false⟩
noncomputable def C_strings_trimRightUnicode : Code := Tryz.f97.body.getD .skip
def W_strings_trimRightUnicode (a0 a1 : AV) (H : Heap) (R : AV → Heap → Prop) : Prop :=
 ∃ J1 : List AV → Heap → Nat → Prop, (∃ (n7 : Nat) (H8 : Heap), H8 ≤ H ∧ J1 [a0, a1] H8 n7) ∧ ∀ (vs2 : List AV) (H3 : Heap) (n4 : Nat), J1 vs2 H3 n4 →
 pureK (lns (nth vs2 0)) fun x9 =>
 pureK (bop .plain .gtr x9 (I 0)) fun x10 =>
 condK x10 (
  pureK (lns (nth vs2 0)) fun x11 =>
  pureK (bop .plain .sub x11 (I 1)) fun x12 =>
  pureK (ixs (nth vs2 0) x12) fun x13 =>
  pureK (cv (.toInt .i32) x13) fun x14 =>
  pureK (bop .plain .geq x14 (.sc (.int .i32 128))) fun x15 =>
  condK x15 (
   ACalls PP gΓ utf8_DecodeLastRuneInString [nth vs2 0] H3 fun x16 H17 =>
   pureK (extractE x16 0) fun x18 =>
   pureK (extractE x16 1) fun x19 =>
   ACalls PP gΓ strings_ContainsRune [nth vs2 1, x18] H17 fun x20 H21 =>
   pureK (unE .not x20) fun x22 =>
   condK x22 (
    ret1 H21 R (nth vs2 0)
   ) (
    pureK (lns (nth vs2 0)) fun x23 =>
    pureK (bop .plain .sub x23 x19) fun x24 =>
    pureK (sls (nth vs2 0) none (some x24) none) fun x25 =>
    (∃ (n5 : Nat) (H6 : Heap), n5 < n4 ∧ H6 ≤ H21 ∧ J1 [x25, nth vs2 1] H6 n5)
   )
  ) (
   ACalls PP gΓ strings_ContainsRune [nth vs2 1, x14] H3 fun x26 H27 =>
   pureK (unE .not x26) fun x28 =>
   condK x28 (
    ret1 H27 R (nth vs2 0)
   ) (
    pureK (lns (nth vs2 0)) fun x29 =>
    pureK (bop .plain .sub x29 (I 1)) fun x30 =>
    pureK (sls (nth vs2 0) none (some x30) none) fun x31 =>
    (∃ (n5 : Nat) (H6 : Heap), n5 < n4 ∧ H6 ≤ H27 ∧ J1 [x31, nth vs2 1] H6 n5)
   )
  )
 ) (
  ret1 H3 R (nth vs2 0)
 )
theorem K_strings_trimRightUnicode (a0 a1 : AV) (H : Heap) (R : AV → Heap → Prop) : awp E_strings_trimRightUnicode (drawK E_strings_trimRightUnicode) C_strings_trimRightUnicode (fun j => List.getD [a0, a1] j .dead) H (retK PP Tryz.f97.results.toList R) = W_strings_trimRightUnicode a0 a1 H R := by kernel_rfl
theorem strings_trimRightUnicode_of {a0 a1 : AV} {H : Heap} {R : AV → Heap → Prop} (h : W_strings_trimRightUnicode a0 a1 H R) : ACalls PP gΓ strings_trimRightUnicode [a0, a1] H R :=
  ACalls.of_awp (E := E_strings_trimRightUnicode) follows_PP Tryz.func97 (c := C_strings_trimRightUnicode) (by kernel_rfl) Tryz.ntmps97 ((K_strings_trimRightUnicode a0 a1 H R) ▸ h)

noncomputable def L_slices_Index_string : Nat → Option (List Nat) := fun k => bif Nat.beq k 1002 then some [0, 1, 7, 8] else none
noncomputable abbrev E_slices_Index_string : Env := ⟨PP, gΓ, 19, L_slices_Index_string, fun _ => false⟩
noncomputable def C_slices_Index_string : Code := Tryz.f98.body.getD .skip
def W_slices_Index_string (a0 a1 : AV) (H : Heap) (R : AV → Heap → Prop) : Prop :=
 pureK (lnl a0) fun x1 =>
 ∃ J2 : List AV → Heap → Nat → Prop, (∃ (n8 : Nat) (H9 : Heap), H9 ≤ H ∧ J2 [a0, a1, x1, I 0] H9 n8) ∧ ∀ (vs3 : List AV) (H4 : Heap) (n5 : Nat), J2 vs3 H4 n5 →
 pureK (bop .plain .lss (nth vs3 3) (nth vs3 2)) fun x10 =>
 condK x10 (
  pureK (ias 1 (nth vs3 0) (nth vs3 3)) fun x11 =>
  pureK (ld (some false) 1 H4 x11) fun x12 =>
  pureK (bop .plain .eql (nth vs3 1) x12) fun x13 =>
  condK x13 (
   ret1 H4 R (nth vs3 3)
  ) (
   pureK (bop .plain .add (nth vs3 3) (I 1)) fun x14 =>
   (∃ (n6 : Nat) (H7 : Heap), n6 < n5 ∧ H7 ≤ H4 ∧ J2 [nth vs3 0, nth vs3 1, nth vs3 2, x14] H7 n6)
  )
 ) (
  ret1 H4 R (I (-1))
 )
theorem K_slices_Index_string (a0 a1 : AV) (H : Heap) (R : AV → Heap → Prop) : awp E_slices_Index_string (drawK E_slices_Index_string) C_slices_Index_string (fun j => List.getD [a0, a1] j .dead) H (retK PP Tryz.f98.results.toList R) = W_slices_Index_string a0 a1 H R := by kernel_rfl
theorem slices_Index_string_of {a0 a1 : AV} {H : Heap} {R : AV → Heap → Prop} (h : W_slices_Index_string a0 a1 H R) : ACalls PP gΓ slices_Index_string [a0, a1] H R :=
  ACalls.of_awp (E := E_slices_Index_string) follows_PP Tryz.func98 (c := C_slices_Index_string) (by kernel_rfl) Tryz.ntmps98 ((K_slices_Index_string a0 a1 H R) ▸ h)

noncomputable def L_row_Whole_1 : Nat → Option (List Nat) := fun k => none
noncomputable abbrev E_row_Whole_1 : Env := ⟨PP, gΓ, 6, L_row_Whole_1, fun _ => false⟩
noncomputable def C_row_Whole_1 : Code := Tryz.f99.body.getD .skip
def W_row_Whole_1 (a0 : AV) (H : Heap) (R : AV → Heap → Prop) : Prop :=
 allocK (some (AV.cells a0)) H fun p1 H2 =>
 pureK (ld (some true) 3 H2 p1) fun x3 =>
 ACalls PP gΓ row_Right [x3] H2 fun x4 H5 =>
 pureK (unE .not x4) fun x6 =>
 ret1 H5 R x6
theorem K_row_Whole_1 (a0 : AV) (H : Heap) (R : AV → Heap → Prop) : awp E_row_Whole_1 (drawK E_row_Whole_1) C_row_Whole_1 (fun j => List.getD [a0] j .dead) H (retK PP Tryz.f99.results.toList R) = W_row_Whole_1 a0 H R := by kernel_rfl
theorem row_Whole_1_of {a0 : AV} {H : Heap} {R : AV → Heap → Prop} (h : W_row_Whole_1 a0 H R) : ACalls PP gΓ row_Whole_1 [a0] H R :=
  ACalls.of_awp (E := E_row_Whole_1) follows_PP Tryz.func99 (c := C_row_Whole_1) (by kernel_rfl) Tryz.ntmps99 ((K_row_Whole_1 a0 H R) ▸ h)

noncomputable def L_slices_ContainsFunc_Node : Nat → Option (List Nat) := fun k => none
noncomputable abbrev E_slices_ContainsFunc_Node : Env := ⟨PP, gΓ, 9, L_slices_ContainsFunc_Node, fun _ => false⟩
noncomputable def C_slices_ContainsFunc_Node : Code := Tryz.f100.body.getD .skip
def W_slices_ContainsFunc_Node (a0 a1 : AV) (H : Heap) (R : AV → Heap → Prop) : Prop :=
 ACalls PP gΓ slices_IndexFunc_Node [a0, a1] H fun x1 H2 =>
 pureK (bop .plain .geq x1 (I 0)) fun x3 =>
 ret1 H2 R x3
theorem K_slices_ContainsFunc_Node (a0 a1 : AV) (H : Heap) (R : AV → Heap → Prop) : awp E_slices_ContainsFunc_Node (drawK E_slices_ContainsFunc_Node) C_slices_ContainsFunc_Node (fun j => List.getD [a0, a1] j .dead) H (retK PP Tryz.f100.results.toList R) = W_slices_ContainsFunc_Node a0 a1 H R := by kernel_rfl
theorem slices_ContainsFunc_Node_of {a0 a1 : AV} {H : Heap} {R : AV → Heap → Prop} (h : W_slices_ContainsFunc_Node a0 a1 H R) : ACalls PP gΓ slices_ContainsFunc_Node [a0, a1] H R :=
  ACalls.of_awp (E := E_slices_ContainsFunc_Node) follows_PP Tryz.func100 (c := C_slices_ContainsFunc_Node) (by kernel_rfl) Tryz.ntmps100 ((K_slices_ContainsFunc_Node a0 a1 H R) ▸ h)

noncomputable def L_sort_both : Nat → Option (List Nat) := fun k => none
noncomputable abbrev E_sort_both : Env := ⟨PP, gΓ, 13, L_sort_both, fun _ => false⟩
noncomputable def C_sort_both : Code := Tryz.f101.body.getD .skip
def W_sort_both (a0 a1 : AV) (H : Heap) (R : AV → Heap → Prop) : Prop :=
 ACalls PP gΓ sort_on [a0] H fun x1 H2 =>
 ACalls PP gΓ sort_on [a1] H2 fun x3 H4 =>
 pureK (bop .plain .neq x1 x3) fun x5 =>
 condK x5 (
  ret1 H4 R (I 0)
 ) (
  pureK (maxE [a0, a1]) fun x6 =>
  ret1 H4 R x6
 )
theorem K_sort_both (a0 a1 : AV) (H : Heap) (R : AV → Heap → Prop) : awp E_sort_both (drawK E_sort_both) C_sort_both (fun j => List.getD [a0, a1] j .dead) H (retK PP Tryz.f101.results.toList R) = W_sort_both a0 a1 H R := by kernel_rfl
theorem sort_both_of {a0 a1 : AV} {H : Heap} {R : AV → Heap → Prop} (h : W_sort_both a0 a1 H R) : ACalls PP gΓ sort_both [a0, a1] H R :=
  ACalls.of_awp (E := E_sort_both) follows_PP Tryz.func101 (c := C_sort_both) (by kernel_rfl) Tryz.ntmps101 ((K_sort_both a0 a1 H R) ▸ h)

noncomputable def L_sort_behind : Nat → Option (List Nat) := fun k => none
noncomputable abbrev E_sort_behind : Env := ⟨PP, gΓ, 18, L_sort_behind, fun _ => false⟩
noncomputable def C_sort_behind : Code := Tryz.f102.body.getD .skip
def W_sort_behind (a0 a1 a2 : AV) (H : Heap) (R : AV → Heap → Prop) : Prop :=
 pureK (bop .plain .neq a1 a2) fun x1 =>
 condK x1 (
  ret1 H R (I 0)
 ) (
  ACalls PP gΓ sort_on [a0] H fun x2 H3 =>
  ACalls PP gΓ sort_on [a2] H3 fun x4 H5 =>
  pureK (bop .plain .neq x2 x4) fun x6 =>
  condK x6 (
   ret1 H5 R (I 0)
  ) (
   ret1 H5 R a0
  )
 )
theorem K_sort_behind (a0 a1 a2 : AV) (H : Heap) (R : AV → Heap → Prop) : awp E_sort_behind (drawK E_sort_behind) C_sort_behind (fun j => List.getD [a0, a1, a2] j .dead) H (retK PP Tryz.f102.results.toList R) = W_sort_behind a0 a1 a2 H R := by kernel_rfl
theorem sort_behind_of {a0 a1 a2 : AV} {H : Heap} {R : AV → Heap → Prop} (h : W_sort_behind a0 a1 a2 H R) : ACalls PP gΓ sort_behind [a0, a1, a2] H R :=
  ACalls.of_awp (E := E_sort_behind) follows_PP Tryz.func102 (c := C_sort_behind) (by kernel_rfl) Tryz.ntmps102 ((K_sort_behind a0 a1 a2 H R) ▸ h)

noncomputable def L_ref03_Size : Nat → Option (List Nat) := fun k => none
noncomputable abbrev E_ref03_Size : Env := ⟨PP, gΓ, 13, L_ref03_Size, fun _ => false⟩
noncomputable def C_ref03_Size : Code := Tryz.f103.body.getD .skip
def W_ref03_Size (a0 : AV) (H : Heap) (R : AV → Heap → Prop) : Prop :=
 ACalls PP gΓ ref03_Walk [a0, I 0] H fun x1 H2 =>
 pureK (extractE x1 0) fun x3 =>
 pureK (extractE x1 1) fun x4 =>
 pureK (bop .plain .lss x3 (I 0)) fun x5 =>
 condK x5 (
  ret1 H2 R (I 0)
 ) (
  ret1 H2 R x3
 )
theorem K_ref03_Size (a0 : AV) (H : Heap) (R : AV → Heap → Prop) : awp E_ref03_Size (drawK E_ref03_Size) C_ref03_Size (fun j => List.getD [a0] j .dead) H (retK PP Tryz.f103.results.toList R) = W_ref03_Size a0 H R := by kernel_rfl
theorem ref03_Size_of {a0 : AV} {H : Heap} {R : AV → Heap → Prop} (h : W_ref03_Size a0 H R) : ACalls PP gΓ ref03_Size [a0] H R :=
  ACalls.of_awp (E := E_ref03_Size) follows_PP Tryz.func103 (c := C_ref03_Size) (by kernel_rfl) Tryz.ntmps103 ((K_ref03_Size a0 H R) ▸ h)

noncomputable def L_ref03_Kids : Nat → Option (List Nat) := fun k => bif Nat.beq k 1006 then some [0, 3, 4, 5] else none
noncomputable abbrev E_ref03_Kids : Env := ⟨PP, gΓ, 35, L_ref03_Kids, fun _ => false⟩
noncomputable def C_ref03_Kids : Code := Tryz.f104.body.getD .skip
def W_ref03_Kids (a0 : AV) (H : Heap) (R : AV → Heap → Prop) : Prop :=
 ACalls PP gΓ ref03_Size [a0] H fun x1 H2 =>
 pureK (bop .plain .eql x1 (I 0)) fun x3 =>
 condK x3 (
  ret1 H2 R (.lst 0 [] .exact)
 ) (
  ∃ J4 : List AV → Heap → Nat → Prop, (∃ (n10 : Nat) (H11 : Heap), H11 ≤ H2 ∧ J4 [a0, .lst 0 [] .exact, I 1, I 0] H11 n10) ∧ ∀ (vs5 : List AV) (H6 : Heap) (n7 : Nat), J4 vs5 H6 n7 →
  pureK (ias 3 (nth vs5 0) (I 0)) fun x12 =>
  pureK (fa 0 x12) fun x13 =>
  pureK (ld (some false) 1 H6 x13) fun x14 =>
  ACalls PP gΓ ref03_Arity [x14] H6 fun x15 H16 =>
  pureK (bop .plain .lss (nth vs5 3) x15) fun x17 =>
  condK x17 (
   ACalls PP gΓ ref03_Walk [nth vs5 0, nth vs5 2] H16 fun x18 H19 =>
   pureK (extractE x18 0) fun x20 =>
   pureK (extractE x18 1) fun x21 =>
   pureK (sll 3 (nth vs5 0) (some (nth vs5 2)) (some x20) none) fun x22 =>
   pureK (bsl 1 (.lst 0 [] .exact) 1 [(0, x22)]) fun x23 =>
   appK 1 (nth vs5 1) x23 H19 fun x24 H25 =>
   pureK (bop .plain .add (nth vs5 3) (I 1)) fun x26 =>
   (∃ (n8 : Nat) (H9 : Heap), n8 < n7 ∧ H9 ≤ H25 ∧ J4 [nth vs5 0, x24, x20, x26] H9 n8)
  ) (
   ret1 H16 R (nth vs5 1)
  )
 )
theorem K_ref03_Kids (a0 : AV) (H : Heap) (R : AV → Heap → Prop) : awp E_ref03_Kids (drawK E_ref03_Kids) C_ref03_Kids (fun j => List.getD [a0] j .dead) H (retK PP Tryz.f104.results.toList R) = W_ref03_Kids a0 H R := by kernel_rfl
theorem ref03_Kids_of {a0 : AV} {H : Heap} {R : AV → Heap → Prop} (h : W_ref03_Kids a0 H R) : ACalls PP gΓ ref03_Kids [a0] H R :=
  ACalls.of_awp (E := E_ref03_Kids) follows_PP Tryz.func104 (c := C_ref03_Kids) (by kernel_rfl) Tryz.ntmps104 ((K_ref03_Kids a0 H R) ▸ h)

noncomputable def L_ref04_plain : Nat → Option (List Nat) := fun k => none
noncomputable abbrev E_ref04_plain : Env := ⟨PP, gΓ, 35, L_ref04_plain, fun _ => false⟩
noncomputable def C_ref04_plain : Code := Tryz.f105.body.getD .skip
def W_ref04_plain (a0 a1 : AV) (H : Heap) (R : AV → Heap → Prop) : Prop :=
 pureK (ias 3 a0 (I 0)) fun x1 =>
 pureK (fa 0 x1) fun x2 =>
 pureK (ld (some false) 1 H x2) fun x3 =>
 pureK (bop .plain .eql x3 (I 1)) fun x4 =>
 condK x4 (
  ret1 H R (B true)
 ) (
  pureK (bop .plain .eql x3 (I 2)) fun x5 =>
  condK x5 (
   ret1 H R (B true)
  ) (
   pureK (bop .plain .eql x3 (I 3)) fun x6 =>
   condK x6 (
    ret1 H R (B true)
   ) (
    pureK (bop .plain .eql x3 (I 4)) fun x7 =>
    condK x7 (
     ret1 H R (B true)
    ) (
     pureK (bop .plain .eql x3 (I 5)) fun x8 =>
     condK x8 (
      pureK (ias 1 a1 (I 0)) fun x9 =>
      pureK (ld (some false) 1 H x9) fun x10 =>
      ACalls PP gΓ ref04_Is [x10, I 1] H fun x11 H12 =>
      condK x11 (
       pureK (ias 1 a1 (I 1)) fun x13 =>
       pureK (ld (some false) 1 H12 x13) fun x14 =>
       ACalls PP gΓ ref04_Is [x14, I 1] H12 fun x15 H16 =>
       ret1 H16 R x15
      ) (
       ret1 H12 R (B false)
      )
     ) (
      pureK (bop .plain .eql x3 (I 6)) fun x17 =>
      condK x17 (
       pureK (ias 1 a1 (I 0)) fun x18 =>
       pureK (ld (some false) 1 H x18) fun x19 =>
       ACalls PP gΓ ref04_Is [x19, I 1] H fun x20 H21 =>
       condK x20 (
        pureK (ias 1 a1 (I 1)) fun x22 =>
        pureK (ld (some false) 1 H21 x22) fun x23 =>
        ACalls PP gΓ ref04_Is [x23, I 1] H21 fun x24 H25 =>
        ret1 H25 R x24
       ) (
        ret1 H21 R (B false)
       )
      ) (
       pureK (bop .plain .eql x3 (I 7)) fun x26 =>
       condK x26 (
        pureK (ias 1 a1 (I 0)) fun x27 =>
        pureK (ld (some false) 1 H x27) fun x28 =>
        ACalls PP gΓ ref04_Is [x28, I 1] H fun x29 H30 =>
        condK x29 (
         pureK (ias 1 a1 (I 1)) fun x31 =>
         pureK (ld (some false) 1 H30 x31) fun x32 =>
         ACalls PP gΓ ref04_Is [x32, I 1] H30 fun x33 H34 =>
         ret1 H34 R x33
        ) (
         ret1 H30 R (B false)
        )
       ) (
        pureK (bop .plain .eql x3 (I 8)) fun x35 =>
        condK x35 (
         pureK (ias 1 a1 (I 0)) fun x36 =>
         pureK (ld (some false) 1 H x36) fun x37 =>
         ACalls PP gΓ ref04_Is [x37, I 1] H fun x38 H39 =>
         condK x38 (
          pureK (ias 1 a1 (I 1)) fun x40 =>
          pureK (ld (some false) 1 H39 x40) fun x41 =>
          ACalls PP gΓ ref04_Is [x41, I 1] H39 fun x42 H43 =>
          ret1 H43 R x42
         ) (
          ret1 H39 R (B false)
         )
        ) (
         pureK (bop .plain .eql x3 (I 9)) fun x44 =>
         condK x44 (
          pureK (ias 1 a1 (I 0)) fun x45 =>
          pureK (ld (some false) 1 H x45) fun x46 =>
          ACalls PP gΓ ref04_Is [x46, I 2] H fun x47 H48 =>
          ret1 H48 R x47
         ) (
          ret1 H R (B false)
         )
        )
       )
      )
     )
    )
   )
  )
 )
theorem K_ref04_plain (a0 a1 : AV) (H : Heap) (R : AV → Heap → Prop) : awp E_ref04_plain (drawK E_ref04_plain) C_ref04_plain (fun j => List.getD [a0, a1] j .dead) H (retK PP Tryz.f105.results.toList R) = W_ref04_plain a0 a1 H R := by kernel_rfl
theorem ref04_plain_of {a0 a1 : AV} {H : Heap} {R : AV → Heap → Prop} (h : W_ref04_plain a0 a1 H R) : ACalls PP gΓ ref04_plain [a0, a1] H R :=
  ACalls.of_awp (E := E_ref04_plain) follows_PP Tryz.func105 (c := C_ref04_plain) (by kernel_rfl) Tryz.ntmps105 ((K_ref04_plain a0 a1 H R) ▸ h)

noncomputable def L_ref04_paired : Nat → Option (List Nat) := fun k => none
noncomputable abbrev E_ref04_paired : Env := ⟨PP, gΓ, 35, L_ref04_paired, fun _ => false⟩
noncomputable def C_ref04_paired : Code := Tryz.f106.body.getD .skip
def W_ref04_paired (a0 a1 : AV) (H : Heap) (R : AV → Heap → Prop) : Prop :=
 pureK (ias 3 a0 (I 0)) fun x1 =>
 pureK (fa 0 x1) fun x2 =>
 pureK (ld (some false) 1 H x2) fun x3 =>
 pureK (bop .plain .eql x3 (I 10)) fun x4 =>
 condK x4 (
  pureK (ias 1 a1 (I 0)) fun x5 =>
  pureK (ld (some false) 1 H x5) fun x6 =>
  ACalls PP gΓ ref04_Is [x6, I 1] H fun x7 H8 =>
  condK x7 (
   pureK (ias 1 a1 (I 1)) fun x9 =>
   pureK (ld (some false) 1 H8 x9) fun x10 =>
   ACalls PP gΓ ref04_Is [x10, I 1] H8 fun x11 H12 =>
   ret1 H12 R x11
  ) (
   ret1 H8 R (B false)
  )
 ) (
  pureK (bop .plain .eql x3 (I 5)) fun x13 =>
  condK x13 (
   pureK (ias 1 a1 (I 0)) fun x14 =>
   pureK (ld (some false) 1 H x14) fun x15 =>
   ACalls PP gΓ ref04_Is [x15, I 2] H fun x16 H17 =>
   condK x16 (
    pureK (ias 1 a1 (I 1)) fun x18 =>
    pureK (ld (some false) 1 H17 x18) fun x19 =>
    ACalls PP gΓ ref04_Is [x19, I 2] H17 fun x20 H21 =>
    ret1 H21 R x20
   ) (
    ret1 H17 R (B false)
   )
  ) (
   pureK (bop .plain .eql x3 (I 6)) fun x22 =>
   condK x22 (
    pureK (ias 1 a1 (I 0)) fun x23 =>
    pureK (ld (some false) 1 H x23) fun x24 =>
    ACalls PP gΓ ref04_Is [x24, I 2] H fun x25 H26 =>
    condK x25 (
     pureK (ias 1 a1 (I 1)) fun x27 =>
     pureK (ld (some false) 1 H26 x27) fun x28 =>
     ACalls PP gΓ ref04_Is [x28, I 2] H26 fun x29 H30 =>
     ret1 H30 R x29
    ) (
     ret1 H26 R (B false)
    )
   ) (
    pureK (bop .plain .eql x3 (I 7)) fun x31 =>
    condK x31 (
     pureK (ias 1 a1 (I 0)) fun x32 =>
     pureK (ld (some false) 1 H x32) fun x33 =>
     ACalls PP gΓ ref04_Is [x33, I 2] H fun x34 H35 =>
     condK x34 (
      pureK (ias 1 a1 (I 1)) fun x36 =>
      pureK (ld (some false) 1 H35 x36) fun x37 =>
      ACalls PP gΓ ref04_Is [x37, I 2] H35 fun x38 H39 =>
      ret1 H39 R x38
     ) (
      ret1 H35 R (B false)
     )
    ) (
     ret1 H R (B false)
    )
   )
  )
 )
theorem K_ref04_paired (a0 a1 : AV) (H : Heap) (R : AV → Heap → Prop) : awp E_ref04_paired (drawK E_ref04_paired) C_ref04_paired (fun j => List.getD [a0, a1] j .dead) H (retK PP Tryz.f106.results.toList R) = W_ref04_paired a0 a1 H R := by kernel_rfl
theorem ref04_paired_of {a0 a1 : AV} {H : Heap} {R : AV → Heap → Prop} (h : W_ref04_paired a0 a1 H R) : ACalls PP gΓ ref04_paired [a0, a1] H R :=
  ACalls.of_awp (E := E_ref04_paired) follows_PP Tryz.func106 (c := C_ref04_paired) (by kernel_rfl) Tryz.ntmps106 ((K_ref04_paired a0 a1 H R) ▸ h)

noncomputable def L_ref04_plainOn : Nat → Option (List Nat) := fun k => none
noncomputable abbrev E_ref04_plainOn : Env := ⟨PP, gΓ, 42, L_ref04_plainOn, fun _ => false⟩
noncomputable def C_ref04_plainOn : Code := Tryz.f107.body.getD .skip
def W_ref04_plainOn (a0 a1 : AV) (H : Heap) (R : AV → Heap → Prop) : Prop :=
 pureK (ias 3 a0 (I 0)) fun x1 =>
 pureK (fa 0 x1) fun x2 =>
 pureK (ld (some false) 1 H x2) fun x3 =>
 pureK (bop .plain .eql x3 (I 11)) fun x4 =>
 condK x4 (
  ret1 H R (B true)
 ) (
  pureK (bop .plain .eql x3 (I 5)) fun x5 =>
  condK x5 (
   pureK (ias 1 a1 (I 0)) fun x6 =>
   pureK (ld (some false) 1 H x6) fun x7 =>
   ACalls PP gΓ ref04_Is [x7, I 3] H fun x8 H9 =>
   condK x8 (
    pureK (ias 1 a1 (I 1)) fun x10 =>
    pureK (ld (some false) 1 H9 x10) fun x11 =>
    ACalls PP gΓ ref04_Is [x11, I 1] H9 fun x12 H13 =>
    ret1 H13 R x12
   ) (
    ret1 H9 R (B false)
   )
  ) (
   pureK (bop .plain .eql x3 (I 8)) fun x14 =>
   condK x14 (
    pureK (ias 1 a1 (I 0)) fun x15 =>
    pureK (ld (some false) 1 H x15) fun x16 =>
    ACalls PP gΓ ref04_Is [x16, I 3] H fun x17 H18 =>
    condK x17 (
     pureK (ias 1 a1 (I 1)) fun x19 =>
     pureK (ld (some false) 1 H18 x19) fun x20 =>
     ACalls PP gΓ ref04_Is [x20, I 1] H18 fun x21 H22 =>
     ret1 H22 R x21
    ) (
     ret1 H18 R (B false)
    )
   ) (
    pureK (bop .plain .eql x3 (I 7)) fun x23 =>
    condK x23 (
     pureK (ias 1 a1 (I 0)) fun x24 =>
     pureK (ld (some false) 1 H x24) fun x25 =>
     ACalls PP gΓ ref04_Is [x25, I 3] H fun x26 H27 =>
     condK x26 (
      pureK (ias 1 a1 (I 1)) fun x28 =>
      pureK (ld (some false) 1 H27 x28) fun x29 =>
      ACalls PP gΓ ref04_Is [x29, I 3] H27 fun x30 H31 =>
      ret1 H31 R x30
     ) (
      ret1 H27 R (B false)
     )
    ) (
     pureK (bop .plain .eql x3 (I 9)) fun x32 =>
     condK x32 (
      pureK (ias 1 a1 (I 0)) fun x33 =>
      pureK (ld (some false) 1 H x33) fun x34 =>
      ACalls PP gΓ ref04_Is [x34, I 4] H fun x35 H36 =>
      ret1 H36 R x35
     ) (
      ret1 H R (B false)
     )
    )
   )
  )
 )
theorem K_ref04_plainOn (a0 a1 : AV) (H : Heap) (R : AV → Heap → Prop) : awp E_ref04_plainOn (drawK E_ref04_plainOn) C_ref04_plainOn (fun j => List.getD [a0, a1] j .dead) H (retK PP Tryz.f107.results.toList R) = W_ref04_plainOn a0 a1 H R := by kernel_rfl
theorem ref04_plainOn_of {a0 a1 : AV} {H : Heap} {R : AV → Heap → Prop} (h : W_ref04_plainOn a0 a1 H R) : ACalls PP gΓ ref04_plainOn [a0, a1] H R :=
  ACalls.of_awp (E := E_ref04_plainOn) follows_PP Tryz.func107 (c := C_ref04_plainOn) (by kernel_rfl) Tryz.ntmps107 ((K_ref04_plainOn a0 a1 H R) ▸ h)

noncomputable def L_ref04_pairedOn : Nat → Option (List Nat) := fun k => none
noncomputable abbrev E_ref04_pairedOn : Env := ⟨PP, gΓ, 63, L_ref04_pairedOn, fun _ => false⟩
noncomputable def C_ref04_pairedOn : Code := Tryz.f108.body.getD .skip
def W_ref04_pairedOn (a0 a1 : AV) (H : Heap) (R : AV → Heap → Prop) : Prop :=
 pureK (ias 3 a0 (I 0)) fun x1 =>
 pureK (fa 0 x1) fun x2 =>
 pureK (ld (some false) 1 H x2) fun x3 =>
 pureK (bop .plain .eql x3 (I 12)) fun x4 =>
 condK x4 (
  pureK (ias 1 a1 (I 0)) fun x5 =>
  pureK (ld (some false) 1 H x5) fun x6 =>
  ACalls PP gΓ ref04_Is [x6, I 3] H fun x7 H8 =>
  condK x7 (
   pureK (ias 1 a1 (I 1)) fun x9 =>
   pureK (ld (some false) 1 H8 x9) fun x10 =>
   ACalls PP gΓ ref04_Is [x10, I 1] H8 fun x11 H12 =>
   ret1 H12 R x11
  ) (
   ret1 H8 R (B false)
  )
 ) (
  pureK (bop .plain .eql x3 (I 5)) fun x13 =>
  condK x13 (
   pureK (ias 1 a1 (I 0)) fun x14 =>
   pureK (ld (some false) 1 H x14) fun x15 =>
   ACalls PP gΓ ref04_Is [x15, I 4] H fun x16 H17 =>
   condK x16 (
    pureK (ias 1 a1 (I 1)) fun x18 =>
    pureK (ld (some false) 1 H17 x18) fun x19 =>
    ACalls PP gΓ ref04_Is [x19, I 2] H17 fun x20 H21 =>
    ret1 H21 R x20
   ) (
    ret1 H17 R (B false)
   )
  ) (
   pureK (bop .plain .eql x3 (I 7)) fun x22 =>
   condK x22 (
    pureK (ias 1 a1 (I 0)) fun x23 =>
    pureK (ld (some false) 1 H x23) fun x24 =>
    ACalls PP gΓ ref04_Is [x24, I 4] H fun x25 H26 =>
    condK x25 (
     pureK (ias 1 a1 (I 1)) fun x27 =>
     pureK (ld (some false) 1 H26 x27) fun x28 =>
     ACalls PP gΓ ref04_Is [x28, I 4] H26 fun x29 H30 =>
     ret1 H30 R x29
    ) (
     ret1 H26 R (B false)
    )
   ) (
    pureK (bop .plain .eql x3 (I 13)) fun x31 =>
    condK x31 (
     pureK (ias 1 a1 (I 0)) fun x32 =>
     pureK (ld (some false) 1 H x32) fun x33 =>
     ACalls PP gΓ ref04_Is [x33, I 4] H fun x34 H35 =>
     condK x34 (
      pureK (ias 1 a1 (I 1)) fun x36 =>
      pureK (ld (some false) 1 H35 x36) fun x37 =>
      ACalls PP gΓ ref04_Is [x37, I 1] H35 fun x38 H39 =>
      ret1 H39 R x38
     ) (
      ret1 H35 R (B false)
     )
    ) (
     pureK (bop .plain .eql x3 (I 14)) fun x40 =>
     condK x40 (
      pureK (ias 1 a1 (I 0)) fun x41 =>
      pureK (ld (some false) 1 H x41) fun x42 =>
      ACalls PP gΓ ref04_Is [x42, I 1] H fun x43 H44 =>
      ret1 H44 R x43
     ) (
      ret1 H R (B false)
     )
    )
   )
  )
 )
theorem K_ref04_pairedOn (a0 a1 : AV) (H : Heap) (R : AV → Heap → Prop) : awp E_ref04_pairedOn (drawK E_ref04_pairedOn) C_ref04_pairedOn (fun j => List.getD [a0, a1] j .dead) H (retK PP Tryz.f108.results.toList R) = W_ref04_pairedOn a0 a1 H R := by kernel_rfl
theorem ref04_pairedOn_of {a0 a1 : AV} {H : Heap} {R : AV → Heap → Prop} (h : W_ref04_pairedOn a0 a1 H R) : ACalls PP gΓ ref04_pairedOn [a0, a1] H R :=
  ACalls.of_awp (E := E_ref04_pairedOn) follows_PP Tryz.func108 (c := C_ref04_pairedOn) (by kernel_rfl) Tryz.ntmps108 ((K_ref04_pairedOn a0 a1 H R) ▸ h)

noncomputable def L_ref10_over : Nat → Option (List Nat) := fun k => none
noncomputable abbrev E_ref10_over : Env := ⟨PP, gΓ, 6, L_ref10_over, fun _ => false⟩
noncomputable def C_ref10_over : Code := Tryz.f109.body.getD .skip
def W_ref10_over (a0 : AV) (H : Heap) (R : AV → Heap → Prop) : Prop :=
 ACalls PP gΓ ref10_node [I 11, a0] H fun x1 H2 =>
 pureK (bsl 3 (.agg [.sc (.int .i64 0), S emp, .sc (.int .i64 0)]) 1 [(0, x1)]) fun x3 =>
 ret1 H2 R x3
theorem K_ref10_over (a0 : AV) (H : Heap) (R : AV → Heap → Prop) : awp E_ref10_over (drawK E_ref10_over) C_ref10_over (fun j => List.getD [a0] j .dead) H (retK PP Tryz.f109.results.toList R) = W_ref10_over a0 H R := by kernel_rfl
theorem ref10_over_of {a0 : AV} {H : Heap} {R : AV → Heap → Prop} (h : W_ref10_over a0 H R) : ACalls PP gΓ ref10_over [a0] H R :=
  ACalls.of_awp (E := E_ref10_over) follows_PP Tryz.func109 (c := C_ref10_over) (by kernel_rfl) Tryz.ntmps109 ((K_ref10_over a0 H R) ▸ h)

noncomputable def L_ref10_first : Nat → Option (List Nat) := fun k => none
noncomputable abbrev E_ref10_first : Env := ⟨PP, gΓ, 92, L_ref10_first, fun _ => false⟩
noncomputable def C_ref10_first : Code := Tryz.f110.body.getD .skip
def W_ref10_first (a0 a1 a2 : AV) (H : Heap) (R : AV → Heap → Prop) : Prop :=
 pureK (ias 3 a1 (I 0)) fun x1 =>
 pureK (fa 2 x1) fun x2 =>
 pureK (ld (some false) 1 H x2) fun x3 =>
 pureK (ias 3 a1 (I 0)) fun x4 =>
 pureK (fa 0 x4) fun x5 =>
 pureK (ld (some false) 1 H x5) fun x6 =>
 pureK (bop .plain .eql x6 (I 11)) fun x7 =>
 condK x7 (
  pureK (bop .plain .eql a0 (I 12)) fun x8 =>
  condK x8 (
   pureK (bop .plain .eql x3 (I 1)) fun x9 =>
   condK x9 (
    ACalls PP gΓ ref10_end [I 1, a2] H fun x10 H11 =>
    ret1 H11 R x10
   ) (
    ACalls PP gΓ ref10_node [I 2, I 0] H fun x12 H13 =>
    pureK (bsl 3 (.agg [.sc (.int .i64 0), S emp, .sc (.int .i64 0)]) 1 [(0, x12)]) fun x14 =>
    ACalls PP gΓ ref10_end [x3, x14] H13 fun x15 H16 =>
    ret1 H16 R x15
   )
  ) (
   pureK (ias 3 a1 (I 0)) fun x17 =>
   pureK (fa 0 x17) fun x18 =>
   pureK (ld (some false) 1 H x18) fun x19 =>
   pureK (bop .plain .eql x19 (I 11)) fun x20 =>
   condK x20 (
    pureK (bop .plain .eql a0 (I 5)) fun x21 =>
    condK x21 (
     pureK (bop .plain .eql x3 (I 1)) fun x22 =>
     condK x22 (
      ACalls PP gΓ ref10_Tree [a2] H fun x23 H24 =>
      ret1 H24 R x23
     ) (
      pureK (bop .plain .eql a0 (I 8)) fun x25 =>
      condK x25 (
       pureK (bop .plain .eql x3 (I 2)) fun x26 =>
       condK x26 (
        ACalls PP gΓ ref10_Tree [a2] H fun x27 H28 =>
        ret1 H28 R x27
       ) (
        ret1 H R a1
       )
      ) (
       ret1 H R a1
      )
     )
    ) (
     pureK (bop .plain .eql a0 (I 8)) fun x29 =>
     condK x29 (
      pureK (bop .plain .eql x3 (I 2)) fun x30 =>
      condK x30 (
       ACalls PP gΓ ref10_Tree [a2] H fun x31 H32 =>
       ret1 H32 R x31
      ) (
       ret1 H R a1
      )
     ) (
      ret1 H R a1
     )
    )
   ) (
    pureK (ias 3 a1 (I 0)) fun x33 =>
    pureK (fa 0 x33) fun x34 =>
    pureK (ld (some false) 1 H x34) fun x35 =>
    pureK (bop .plain .eql x35 (I 14)) fun x36 =>
    condK x36 (
     pureK (bop .plain .eql a0 (I 13)) fun x37 =>
     condK x37 (
      ∃ x38, AReads PP gΓ ref10_node [I 5, I 0] H x38 ∧
      pureK (sll 3 a1 (some (I 1)) none none) fun x39 =>
      ∃ x40, AReads PP gΓ ref03_Two [x38, x39, a2] H x40 ∧
      ACalls PP gΓ ref10_end [x3, x40] H fun x41 H42 =>
      ret1 H42 R x41
     ) (
      pureK (ias 3 a1 (I 0)) fun x43 =>
      pureK (fa 0 x43) fun x44 =>
      pureK (ld (some false) 1 H x44) fun x45 =>
      pureK (bop .plain .eql x45 (I 14)) fun x46 =>
      condK x46 (
       pureK (bop .plain .eql x3 (I 1)) fun x47 =>
       condK x47 (
        ∃ x48, AReads PP gΓ ref10_Tree [a2] H x48 ∧
        pureK (sll 3 a1 (some (I 1)) none none) fun x49 =>
        ACalls PP gΓ ref10_first [I 13, x48, x49] H fun x50 H51 =>
        ret1 H51 R x50
       ) (
        pureK (ias 3 a1 (I 0)) fun x52 =>
        pureK (fa 0 x52) fun x53 =>
        pureK (ld (some false) 1 H x53) fun x54 =>
        pureK (bop .plain .eql x54 (I 14)) fun x55 =>
        condK x55 (
         ret1 H R a1
        ) (
         ACalls PP gΓ ref10_node [a0, I 0] H fun x56 H57 =>
         ACalls PP gΓ ref03_Two [x56, a1, a2] H57 fun x58 H59 =>
         ret1 H59 R x58
        )
       )
      ) (
       pureK (ias 3 a1 (I 0)) fun x60 =>
       pureK (fa 0 x60) fun x61 =>
       pureK (ld (some false) 1 H x61) fun x62 =>
       pureK (bop .plain .eql x62 (I 14)) fun x63 =>
       condK x63 (
        ret1 H R a1
       ) (
        ACalls PP gΓ ref10_node [a0, I 0] H fun x64 H65 =>
        ACalls PP gΓ ref03_Two [x64, a1, a2] H65 fun x66 H67 =>
        ret1 H67 R x66
       )
      )
     )
    ) (
     pureK (ias 3 a1 (I 0)) fun x68 =>
     pureK (fa 0 x68) fun x69 =>
     pureK (ld (some false) 1 H x69) fun x70 =>
     pureK (bop .plain .eql x70 (I 14)) fun x71 =>
     condK x71 (
      pureK (bop .plain .eql x3 (I 1)) fun x72 =>
      condK x72 (
       ∃ x73, AReads PP gΓ ref10_Tree [a2] H x73 ∧
       pureK (sll 3 a1 (some (I 1)) none none) fun x74 =>
       ACalls PP gΓ ref10_first [I 13, x73, x74] H fun x75 H76 =>
       ret1 H76 R x75
      ) (
       pureK (ias 3 a1 (I 0)) fun x77 =>
       pureK (fa 0 x77) fun x78 =>
       pureK (ld (some false) 1 H x78) fun x79 =>
       pureK (bop .plain .eql x79 (I 14)) fun x80 =>
       condK x80 (
        ret1 H R a1
       ) (
        ACalls PP gΓ ref10_node [a0, I 0] H fun x81 H82 =>
        ACalls PP gΓ ref03_Two [x81, a1, a2] H82 fun x83 H84 =>
        ret1 H84 R x83
       )
      )
     ) (
      pureK (ias 3 a1 (I 0)) fun x85 =>
      pureK (fa 0 x85) fun x86 =>
      pureK (ld (some false) 1 H x86) fun x87 =>
      pureK (bop .plain .eql x87 (I 14)) fun x88 =>
      condK x88 (
       ret1 H R a1
      ) (
       ACalls PP gΓ ref10_node [a0, I 0] H fun x89 H90 =>
       ACalls PP gΓ ref03_Two [x89, a1, a2] H90 fun x91 H92 =>
       ret1 H92 R x91
      )
     )
    )
   )
  )
 ) (
  pureK (ias 3 a1 (I 0)) fun x93 =>
  pureK (fa 0 x93) fun x94 =>
  pureK (ld (some false) 1 H x94) fun x95 =>
  pureK (bop .plain .eql x95 (I 11)) fun x96 =>
  condK x96 (
   pureK (bop .plain .eql a0 (I 5)) fun x97 =>
   condK x97 (
    pureK (bop .plain .eql x3 (I 1)) fun x98 =>
    condK x98 (
     ACalls PP gΓ ref10_Tree [a2] H fun x99 H100 =>
     ret1 H100 R x99
    ) (
     pureK (bop .plain .eql a0 (I 8)) fun x101 =>
     condK x101 (
      pureK (bop .plain .eql x3 (I 2)) fun x102 =>
      condK x102 (
       ACalls PP gΓ ref10_Tree [a2] H fun x103 H104 =>
       ret1 H104 R x103
      ) (
       ret1 H R a1
      )
     ) (
      ret1 H R a1
     )
    )
   ) (
    pureK (bop .plain .eql a0 (I 8)) fun x105 =>
    condK x105 (
     pureK (bop .plain .eql x3 (I 2)) fun x106 =>
     condK x106 (
      ACalls PP gΓ ref10_Tree [a2] H fun x107 H108 =>
      ret1 H108 R x107
     ) (
      ret1 H R a1
     )
    ) (
     ret1 H R a1
    )
   )
  ) (
   pureK (ias 3 a1 (I 0)) fun x109 =>
   pureK (fa 0 x109) fun x110 =>
   pureK (ld (some false) 1 H x110) fun x111 =>
   pureK (bop .plain .eql x111 (I 14)) fun x112 =>
   condK x112 (
    pureK (bop .plain .eql a0 (I 13)) fun x113 =>
    condK x113 (
     ∃ x114, AReads PP gΓ ref10_node [I 5, I 0] H x114 ∧
     pureK (sll 3 a1 (some (I 1)) none none) fun x115 =>
     ∃ x116, AReads PP gΓ ref03_Two [x114, x115, a2] H x116 ∧
     ACalls PP gΓ ref10_end [x3, x116] H fun x117 H118 =>
     ret1 H118 R x117
    ) (
     pureK (ias 3 a1 (I 0)) fun x119 =>
     pureK (fa 0 x119) fun x120 =>
     pureK (ld (some false) 1 H x120) fun x121 =>
     pureK (bop .plain .eql x121 (I 14)) fun x122 =>
     condK x122 (
      pureK (bop .plain .eql x3 (I 1)) fun x123 =>
      condK x123 (
       ∃ x124, AReads PP gΓ ref10_Tree [a2] H x124 ∧
       pureK (sll 3 a1 (some (I 1)) none none) fun x125 =>
       ACalls PP gΓ ref10_first [I 13, x124, x125] H fun x126 H127 =>
       ret1 H127 R x126
      ) (
       pureK (ias 3 a1 (I 0)) fun x128 =>
       pureK (fa 0 x128) fun x129 =>
       pureK (ld (some false) 1 H x129) fun x130 =>
       pureK (bop .plain .eql x130 (I 14)) fun x131 =>
       condK x131 (
        ret1 H R a1
       ) (
        ACalls PP gΓ ref10_node [a0, I 0] H fun x132 H133 =>
        ACalls PP gΓ ref03_Two [x132, a1, a2] H133 fun x134 H135 =>
        ret1 H135 R x134
       )
      )
     ) (
      pureK (ias 3 a1 (I 0)) fun x136 =>
      pureK (fa 0 x136) fun x137 =>
      pureK (ld (some false) 1 H x137) fun x138 =>
      pureK (bop .plain .eql x138 (I 14)) fun x139 =>
      condK x139 (
       ret1 H R a1
      ) (
       ACalls PP gΓ ref10_node [a0, I 0] H fun x140 H141 =>
       ACalls PP gΓ ref03_Two [x140, a1, a2] H141 fun x142 H143 =>
       ret1 H143 R x142
      )
     )
    )
   ) (
    pureK (ias 3 a1 (I 0)) fun x144 =>
    pureK (fa 0 x144) fun x145 =>
    pureK (ld (some false) 1 H x145) fun x146 =>
    pureK (bop .plain .eql x146 (I 14)) fun x147 =>
    condK x147 (
     pureK (bop .plain .eql x3 (I 1)) fun x148 =>
     condK x148 (
      ∃ x149, AReads PP gΓ ref10_Tree [a2] H x149 ∧
      pureK (sll 3 a1 (some (I 1)) none none) fun x150 =>
      ACalls PP gΓ ref10_first [I 13, x149, x150] H fun x151 H152 =>
      ret1 H152 R x151
     ) (
      pureK (ias 3 a1 (I 0)) fun x153 =>
      pureK (fa 0 x153) fun x154 =>
      pureK (ld (some false) 1 H x154) fun x155 =>
      pureK (bop .plain .eql x155 (I 14)) fun x156 =>
      condK x156 (
       ret1 H R a1
      ) (
       ACalls PP gΓ ref10_node [a0, I 0] H fun x157 H158 =>
       ACalls PP gΓ ref03_Two [x157, a1, a2] H158 fun x159 H160 =>
       ret1 H160 R x159
      )
     )
    ) (
     pureK (ias 3 a1 (I 0)) fun x161 =>
     pureK (fa 0 x161) fun x162 =>
     pureK (ld (some false) 1 H x162) fun x163 =>
     pureK (bop .plain .eql x163 (I 14)) fun x164 =>
     condK x164 (
      ret1 H R a1
     ) (
      ACalls PP gΓ ref10_node [a0, I 0] H fun x165 H166 =>
      ACalls PP gΓ ref03_Two [x165, a1, a2] H166 fun x167 H168 =>
      ret1 H168 R x167
     )
    )
   )
  )
 )
theorem K_ref10_first (a0 a1 a2 : AV) (H : Heap) (R : AV → Heap → Prop) : awp E_ref10_first (drawK E_ref10_first) C_ref10_first (fun j => List.getD [a0, a1, a2] j .dead) H (retK PP Tryz.f110.results.toList R) = W_ref10_first a0 a1 a2 H R := by kernel_rfl
theorem ref10_first_of {a0 a1 a2 : AV} {H : Heap} {R : AV → Heap → Prop} (h : W_ref10_first a0 a1 a2 H R) : ACalls PP gΓ ref10_first [a0, a1, a2] H R :=
  ACalls.of_awp (E := E_ref10_first) follows_PP Tryz.func110 (c := C_ref10_first) (by kernel_rfl) Tryz.ntmps110 ((K_ref10_first a0 a1 a2 H R) ▸ h)

noncomputable def L_ref10_par : Nat → Option (List Nat) := fun k => none
noncomputable abbrev E_ref10_par : Env := ⟨PP, gΓ, 53, L_ref10_par, fun _ => false⟩
noncomputable def C_ref10_par : Code := Tryz.f111.body.getD .skip
def W_ref10_par (a0 a1 : AV) (H : Heap) (R : AV → Heap → Prop) : Prop :=
 pureK (ias 3 a0 (I 0)) fun x1 =>
 pureK (fa 2 x1) fun x2 =>
 pureK (ld (some false) 1 H x2) fun x3 =>
 pureK (ias 3 a1 (I 0)) fun x4 =>
 pureK (fa 2 x4) fun x5 =>
 pureK (ld (some false) 1 H x5) fun x6 =>
 ACalls PP gΓ ref01_Both [x3, x6] H fun x7 H8 =>
 pureK (ias 3 a0 (I 0)) fun x9 =>
 pureK (fa 0 x9) fun x10 =>
 pureK (ld (some false) 1 H8 x10) fun x11 =>
 pureK (bop .plain .eql x11 (I 11)) fun x12 =>
 condK x12 (
  pureK (ias 3 a1 (I 0)) fun x13 =>
  pureK (fa 0 x13) fun x14 =>
  pureK (ld (some false) 1 H8 x14) fun x15 =>
  pureK (bop .plain .eql x15 (I 11)) fun x16 =>
  condK x16 (
   ACalls PP gΓ ref10_over [x7] H8 fun x17 H18 =>
   ret1 H18 R x17
  ) (
   pureK (ias 3 a0 (I 0)) fun x19 =>
   pureK (fa 0 x19) fun x20 =>
   pureK (ld (some false) 1 H8 x20) fun x21 =>
   pureK (bop .plain .eql x21 (I 14)) fun x22 =>
   condK x22 (
    pureK (ias 3 a1 (I 0)) fun x23 =>
    pureK (fa 0 x23) fun x24 =>
    pureK (ld (some false) 1 H8 x24) fun x25 =>
    pureK (bop .plain .eql x25 (I 14)) fun x26 =>
    condK x26 (
     ∃ x27, AReads PP gΓ ref10_node [I 7, I 0] H8 x27 ∧
     pureK (sll 3 a0 (some (I 1)) none none) fun x28 =>
     pureK (sll 3 a1 (some (I 1)) none none) fun x29 =>
     ∃ x30, AReads PP gΓ ref03_Two [x27, x28, x29] H8 x30 ∧
     ACalls PP gΓ ref10_end [x7, x30] H8 fun x31 H32 =>
     ret1 H32 R x31
    ) (
     ACalls PP gΓ ref10_node [I 7, I 0] H8 fun x33 H34 =>
     ACalls PP gΓ ref03_Two [x33, a0, a1] H34 fun x35 H36 =>
     ret1 H36 R x35
    )
   ) (
    ACalls PP gΓ ref10_node [I 7, I 0] H8 fun x37 H38 =>
    ACalls PP gΓ ref03_Two [x37, a0, a1] H38 fun x39 H40 =>
    ret1 H40 R x39
   )
  )
 ) (
  pureK (ias 3 a0 (I 0)) fun x41 =>
  pureK (fa 0 x41) fun x42 =>
  pureK (ld (some false) 1 H8 x42) fun x43 =>
  pureK (bop .plain .eql x43 (I 14)) fun x44 =>
  condK x44 (
   pureK (ias 3 a1 (I 0)) fun x45 =>
   pureK (fa 0 x45) fun x46 =>
   pureK (ld (some false) 1 H8 x46) fun x47 =>
   pureK (bop .plain .eql x47 (I 14)) fun x48 =>
   condK x48 (
    ∃ x49, AReads PP gΓ ref10_node [I 7, I 0] H8 x49 ∧
    pureK (sll 3 a0 (some (I 1)) none none) fun x50 =>
    pureK (sll 3 a1 (some (I 1)) none none) fun x51 =>
    ∃ x52, AReads PP gΓ ref03_Two [x49, x50, x51] H8 x52 ∧
    ACalls PP gΓ ref10_end [x7, x52] H8 fun x53 H54 =>
    ret1 H54 R x53
   ) (
    ACalls PP gΓ ref10_node [I 7, I 0] H8 fun x55 H56 =>
    ACalls PP gΓ ref03_Two [x55, a0, a1] H56 fun x57 H58 =>
    ret1 H58 R x57
   )
  ) (
   ACalls PP gΓ ref10_node [I 7, I 0] H8 fun x59 H60 =>
   ACalls PP gΓ ref03_Two [x59, a0, a1] H60 fun x61 H62 =>
   ret1 H62 R x61
  )
 )
theorem K_ref10_par (a0 a1 : AV) (H : Heap) (R : AV → Heap → Prop) : awp E_ref10_par (drawK E_ref10_par) C_ref10_par (fun j => List.getD [a0, a1] j .dead) H (retK PP Tryz.f111.results.toList R) = W_ref10_par a0 a1 H R := by kernel_rfl
theorem ref10_par_of {a0 a1 : AV} {H : Heap} {R : AV → Heap → Prop} (h : W_ref10_par a0 a1 H R) : ACalls PP gΓ ref10_par [a0, a1] H R :=
  ACalls.of_awp (E := E_ref10_par) follows_PP Tryz.func111 (c := C_ref10_par) (by kernel_rfl) Tryz.ntmps111 ((K_ref10_par a0 a1 H R) ▸ h)

noncomputable def L_ref10_block : Nat → Option (List Nat) := fun k => none
noncomputable abbrev E_ref10_block : Env := ⟨PP, gΓ, 34, L_ref10_block, fun _ => false⟩
noncomputable def C_ref10_block : Code := Tryz.f112.body.getD .skip
def W_ref10_block (a0 : AV) (H : Heap) (R : AV → Heap → Prop) : Prop :=
 pureK (ias 3 a0 (I 0)) fun x1 =>
 pureK (fa 0 x1) fun x2 =>
 pureK (ld (some false) 1 H x2) fun x3 =>
 pureK (bop .plain .eql x3 (I 14)) fun x4 =>
 condK x4 (
  pureK (ias 3 a0 (I 0)) fun x5 =>
  pureK (fa 2 x5) fun x6 =>
  pureK (ld (some false) 1 H x6) fun x7 =>
  pureK (bop .plain .eql x7 (I 1)) fun x8 =>
  condK x8 (
   ACalls PP gΓ ref10_over [I 1] H fun x9 H10 =>
   ret1 H10 R x9
  ) (
   pureK (ias 3 a0 (I 0)) fun x11 =>
   pureK (fa 0 x11) fun x12 =>
   pureK (ld (some false) 1 H x12) fun x13 =>
   pureK (bop .plain .eql x13 (I 14)) fun x14 =>
   condK x14 (
    pureK (ias 3 a0 (I 0)) fun x15 =>
    pureK (fa 2 x15) fun x16 =>
    pureK (ld (some false) 1 H x16) fun x17 =>
    pureK (bop .plain .eql x17 (I 2)) fun x18 =>
    condK x18 (
     pureK (sll 3 a0 (some (I 1)) none none) fun x19 =>
     ACalls PP gΓ ref10_Tree [x19] H fun x20 H21 =>
     ret1 H21 R x20
    ) (
     ACalls PP gΓ ref10_node [I 9, I 0] H fun x22 H23 =>
     ACalls PP gΓ ref03_One [x22, a0] H23 fun x24 H25 =>
     ret1 H25 R x24
    )
   ) (
    ACalls PP gΓ ref10_node [I 9, I 0] H fun x26 H27 =>
    ACalls PP gΓ ref03_One [x26, a0] H27 fun x28 H29 =>
    ret1 H29 R x28
   )
  )
 ) (
  pureK (ias 3 a0 (I 0)) fun x30 =>
  pureK (fa 0 x30) fun x31 =>
  pureK (ld (some false) 1 H x31) fun x32 =>
  pureK (bop .plain .eql x32 (I 14)) fun x33 =>
  condK x33 (
   pureK (ias 3 a0 (I 0)) fun x34 =>
   pureK (fa 2 x34) fun x35 =>
   pureK (ld (some false) 1 H x35) fun x36 =>
   pureK (bop .plain .eql x36 (I 2)) fun x37 =>
   condK x37 (
    pureK (sll 3 a0 (some (I 1)) none none) fun x38 =>
    ACalls PP gΓ ref10_Tree [x38] H fun x39 H40 =>
    ret1 H40 R x39
   ) (
    ACalls PP gΓ ref10_node [I 9, I 0] H fun x41 H42 =>
    ACalls PP gΓ ref03_One [x41, a0] H42 fun x43 H44 =>
    ret1 H44 R x43
   )
  ) (
   ACalls PP gΓ ref10_node [I 9, I 0] H fun x45 H46 =>
   ACalls PP gΓ ref03_One [x45, a0] H46 fun x47 H48 =>
   ret1 H48 R x47
  )
 )
theorem K_ref10_block (a0 : AV) (H : Heap) (R : AV → Heap → Prop) : awp E_ref10_block (drawK E_ref10_block) C_ref10_block (fun j => List.getD [a0] j .dead) H (retK PP Tryz.f112.results.toList R) = W_ref10_block a0 H R := by kernel_rfl
theorem ref10_block_of {a0 : AV} {H : Heap} {R : AV → Heap → Prop} (h : W_ref10_block a0 H R) : ACalls PP gΓ ref10_block [a0] H R :=
  ACalls.of_awp (E := E_ref10_block) follows_PP Tryz.func112 (c := C_ref10_block) (by kernel_rfl) Tryz.ntmps112 ((K_ref10_block a0 H R) ▸ h)

noncomputable def L_slices_Concat_Node : Nat → Option (List Nat) := fun k => bif Nat.beq k 1003 then some [0, 3, 9, 10, 11] else bif Nat.beq k 1011 then some [6, 25, 26, 27] else none
noncomputable abbrev E_slices_Concat_Node : Env := ⟨PP, gΓ, 36, L_slices_Concat_Node, fun _ => false⟩
noncomputable def C_slices_Concat_Node : Code := Tryz.f113.body.getD .skip
def W_slices_Concat_Node (a0 : AV) (H : Heap) (R : AV → Heap → Prop) : Prop :=
 pureK (lnl a0) fun x1 =>
 ∃ J2 : List AV → Heap → Nat → Prop, (∃ (n8 : Nat) (H9 : Heap), H9 ≤ H ∧ J2 [a0, I 0, a0, x1, I 0] H9 n8) ∧ ∀ (vs3 : List AV) (H4 : Heap) (n5 : Nat), J2 vs3 H4 n5 →
 pureK (bop .plain .lss (nth vs3 4) (nth vs3 3)) fun x10 =>
 condK x10 (
  pureK (ias 1 (nth vs3 2) (nth vs3 4)) fun x11 =>
  pureK (ld (some false) 1 H4 x11) fun x12 =>
  pureK (lnl x12) fun x13 =>
  pureK (bop .plain .add (nth vs3 1) x13) fun x14 =>
  pureK (bop .plain .lss x14 (I 0)) fun x15 =>
  condK x15 (
   False
  ) (
   pureK (bop .plain .add (nth vs3 4) (I 1)) fun x16 =>
   (∃ (n6 : Nat) (H7 : Heap), n6 < n5 ∧ H7 ≤ H4 ∧ J2 [nth vs3 0, x14, nth vs3 2, nth vs3 3, x16] H7 n6)
  )
 ) (
  ACalls PP gΓ slices_Grow_Node [.lst 0 [] .exact, nth vs3 1] H4 fun x17 H18 =>
  pureK (lnl (nth vs3 0)) fun x19 =>
  ∃ J20 : List AV → Heap → Nat → Prop, (∃ (n26 : Nat) (H27 : Heap), H27 ≤ H18 ∧ J20 [x17, nth vs3 0, x19, I 0] H27 n26) ∧ ∀ (vs21 : List AV) (H22 : Heap) (n23 : Nat), J20 vs21 H22 n23 →
  pureK (bop .plain .lss (nth vs21 3) (nth vs21 2)) fun x28 =>
  condK x28 (
   pureK (ias 1 (nth vs21 1) (nth vs21 3)) fun x29 =>
   pureK (ld (some false) 1 H22 x29) fun x30 =>
   appK 3 (nth vs21 0) x30 H22 fun x31 H32 =>
   pureK (bop .plain .add (nth vs21 3) (I 1)) fun x33 =>
   (∃ (n24 : Nat) (H25 : Heap), n24 < n23 ∧ H25 ≤ H32 ∧ J20 [x31, nth vs21 1, nth vs21 2, x33] H25 n24)
  ) (
   ret1 H22 R (nth vs21 0)
  )
 )
theorem K_slices_Concat_Node (a0 : AV) (H : Heap) (R : AV → Heap → Prop) : awp E_slices_Concat_Node (drawK E_slices_Concat_Node) C_slices_Concat_Node (fun j => List.getD [a0] j .dead) H (retK PP Tryz.f113.results.toList R) = W_slices_Concat_Node a0 H R := by kernel_rfl
theorem slices_Concat_Node_of {a0 : AV} {H : Heap} {R : AV → Heap → Prop} (h : W_slices_Concat_Node a0 H R) : ACalls PP gΓ slices_Concat_Node [a0] H R :=
  ACalls.of_awp (E := E_slices_Concat_Node) follows_PP Tryz.func113 (c := C_slices_Concat_Node) (by kernel_rfl) Tryz.ntmps113 ((K_slices_Concat_Node a0 H R) ▸ h)

noncomputable def L_sign_Both : Nat → Option (List Nat) := fun k => none
noncomputable abbrev E_sign_Both : Env := ⟨PP, gΓ, 24, L_sign_Both, fun _ => false⟩
noncomputable def C_sign_Both : Code := Tryz.f114.body.getD .skip
def W_sign_Both (a0 a1 : AV) (H : Heap) (R : AV → Heap → Prop) : Prop :=
 ACalls PP gΓ sign_Is [a0] H fun x1 H2 =>
 pureK (unE .not x1) fun x3 =>
 condK x3 (
  ret1 H2 R (I 0)
 ) (
  ACalls PP gΓ sign_Is [a1] H2 fun x4 H5 =>
  pureK (unE .not x4) fun x6 =>
  condK x6 (
   ret1 H5 R (I 0)
  ) (
   pureK (bop .plain .eql a0 (I 2)) fun x7 =>
   condK x7 (
    ret1 H5 R (I 2)
   ) (
    pureK (bop .plain .eql a1 (I 2)) fun x8 =>
    condK x8 (
     ret1 H5 R (I 2)
    ) (
     pureK (maxE [a0, a1]) fun x9 =>
     ret1 H5 R x9
    )
   )
  )
 )
theorem K_sign_Both (a0 a1 : AV) (H : Heap) (R : AV → Heap → Prop) : awp E_sign_Both (drawK E_sign_Both) C_sign_Both (fun j => List.getD [a0, a1] j .dead) H (retK PP Tryz.f114.results.toList R) = W_sign_Both a0 a1 H R := by kernel_rfl
theorem sign_Both_of {a0 a1 : AV} {H : Heap} {R : AV → Heap → Prop} (h : W_sign_Both a0 a1 H R) : ACalls PP gΓ sign_Both [a0, a1] H R :=
  ACalls.of_awp (E := E_sign_Both) follows_PP Tryz.func114 (c := C_sign_Both) (by kernel_rfl) Tryz.ntmps114 ((K_sign_Both a0 a1 H R) ▸ h)

noncomputable def L_strings_asciiSet_contains : Nat → Option (List Nat) := fun k => none
noncomputable abbrev E_strings_asciiSet_contains : Env := ⟨PP, gΓ, 10, L_strings_asciiSet_contains, fun _ => false⟩
noncomputable def C_strings_asciiSet_contains : Code := Tryz.f125.body.getD .skip
def W_strings_asciiSet_contains (a0 a1 : AV) (H : Heap) (R : AV → Heap → Prop) : Prop :=
 pureK (nilE a0) fun x1 =>
 pureK (iaa 256 1 x1 a1) fun x2 =>
 pureK (ld (some false) 1 H x2) fun x3 =>
 ret1 H R x3
theorem K_strings_asciiSet_contains (a0 a1 : AV) (H : Heap) (R : AV → Heap → Prop) : awp E_strings_asciiSet_contains (drawK E_strings_asciiSet_contains) C_strings_asciiSet_contains (fun j => List.getD [a0, a1] j .dead) H (retK PP Tryz.f125.results.toList R) = W_strings_asciiSet_contains a0 a1 H R := by kernel_rfl
theorem strings_asciiSet_contains_of {a0 a1 : AV} {H : Heap} {R : AV → Heap → Prop} (h : W_strings_asciiSet_contains a0 a1 H R) : ACalls PP gΓ strings_asciiSet_contains [a0, a1] H R :=
  ACalls.of_awp (E := E_strings_asciiSet_contains) follows_PP Tryz.func125 (c := C_strings_asciiSet_contains) (by kernel_rfl) Tryz.ntmps125 ((K_strings_asciiSet_contains a0 a1 H R) ▸ h)

noncomputable def L_utf8_DecodeRuneInString : Nat → Option (List Nat) := fun k => none
noncomputable abbrev E_utf8_DecodeRuneInString : Env := ⟨PP, gΓ, 19, L_utf8_DecodeRuneInString, fun _ => false⟩
noncomputable def C_utf8_DecodeRuneInString : Code := Tryz.f126.body.getD .skip
def W_utf8_DecodeRuneInString (a0 : AV) (H : Heap) (R : AV → Heap → Prop) : Prop :=
 pureK (bop .plain .neq a0 (S emp)) fun x1 =>
 condK x1 (
  pureK (ixs a0 (I 0)) fun x2 =>
  pureK (bop .plain .lss x2 (.sc (.int .u8 128))) fun x3 =>
  condK x3 (
   pureK (ixs a0 (I 0)) fun x4 =>
   pureK (cv (.toInt .i32) x4) fun x5 =>
   ret1 H R (.tup [x5, I 1])
  ) (
   ACalls PP gΓ utf8_decodeRuneInStringSlow [a0] H fun x6 H7 =>
   pureK (extractE x6 0) fun x8 =>
   pureK (extractE x6 1) fun x9 =>
   ret1 H7 R (.tup [x8, x9])
  )
 ) (
  ACalls PP gΓ utf8_decodeRuneInStringSlow [a0] H fun x10 H11 =>
  pureK (extractE x10 0) fun x12 =>
  pureK (extractE x10 1) fun x13 =>
  ret1 H11 R (.tup [x12, x13])
 )
theorem K_utf8_DecodeRuneInString (a0 : AV) (H : Heap) (R : AV → Heap → Prop) : awp E_utf8_DecodeRuneInString (drawK E_utf8_DecodeRuneInString) C_utf8_DecodeRuneInString (fun j => List.getD [a0] j .dead) H (retK PP Tryz.f126.results.toList R) = W_utf8_DecodeRuneInString a0 H R := by kernel_rfl
theorem utf8_DecodeRuneInString_of {a0 : AV} {H : Heap} {R : AV → Heap → Prop} (h : W_utf8_DecodeRuneInString a0 H R) : ACalls PP gΓ utf8_DecodeRuneInString [a0] H R :=
  ACalls.of_awp (E := E_utf8_DecodeRuneInString) follows_PP Tryz.func126 (c := C_utf8_DecodeRuneInString) (by kernel_rfl) Tryz.ntmps126 ((K_utf8_DecodeRuneInString a0 H R) ▸ h)

noncomputable def L_utf8_DecodeLastRuneInString : Nat → Option (List Nat) := fun k => bif Nat.beq k 1010 then some [0, 4, 5, 6] else none
noncomputable abbrev E_utf8_DecodeLastRuneInString : Env := ⟨PP, gΓ, 51, L_utf8_DecodeLastRuneInString, fun _ => false⟩
noncomputable def C_utf8_DecodeLastRuneInString : Code := Tryz.f128.body.getD .skip
def W_utf8_DecodeLastRuneInString (a0 : AV) (H : Heap) (R : AV → Heap → Prop) : Prop :=
 pureK (lns a0) fun x1 =>
 pureK (bop .plain .eql x1 (I 0)) fun x2 =>
 condK x2 (
  ret1 H R (.tup [.sc (.int .i32 65533), I 0])
 ) (
  pureK (bop .plain .sub x1 (I 1)) fun x3 =>
  pureK (ixs a0 x3) fun x4 =>
  pureK (cv (.toInt .i32) x4) fun x5 =>
  pureK (bop .plain .lss x5 (.sc (.int .i32 128))) fun x6 =>
  condK x6 (
   ret1 H R (.tup [x5, I 1])
  ) (
   pureK (bop .plain .sub x1 (I 4)) fun x7 =>
   pureK (maxE [x7, I 0]) fun x8 =>
   pureK (bop .plain .sub x3 (I 1)) fun x9 =>
   ∃ J10 : List AV → Heap → Nat → Prop, (∃ (n16 : Nat) (H17 : Heap), H17 ≤ H ∧ J10 [a0, x1, x9, x8] H17 n16) ∧ ∀ (vs11 : List AV) (H12 : Heap) (n13 : Nat), J10 vs11 H12 n13 →
   pureK (bop .plain .geq (nth vs11 2) (nth vs11 3)) fun x18 =>
   condK x18 (
    pureK (ixs (nth vs11 0) (nth vs11 2)) fun x19 =>
    ACalls PP gΓ utf8_RuneStart [x19] H12 fun x20 H21 =>
    condK x20 (
     pureK (bop .plain .lss (nth vs11 2) (I 0)) fun x22 =>
     condK x22 (
      pureK (sls (nth vs11 0) (some (I 0)) (some (nth vs11 1)) none) fun x23 =>
      ACalls PP gΓ utf8_DecodeRuneInString [x23] H21 fun x24 H25 =>
      pureK (extractE x24 0) fun x26 =>
      pureK (extractE x24 1) fun x27 =>
      pureK (bop .plain .add (I 0) x27) fun x28 =>
      pureK (bop .plain .neq x28 (nth vs11 1)) fun x29 =>
      condK x29 (
       ret1 H25 R (.tup [.sc (.int .i32 65533), I 1])
      ) (
       ret1 H25 R (.tup [x26, x27])
      )
     ) (
      pureK (sls (nth vs11 0) (some (nth vs11 2)) (some (nth vs11 1)) none) fun x30 =>
      ACalls PP gΓ utf8_DecodeRuneInString [x30] H21 fun x31 H32 =>
      pureK (extractE x31 0) fun x33 =>
      pureK (extractE x31 1) fun x34 =>
      pureK (bop .plain .add (nth vs11 2) x34) fun x35 =>
      pureK (bop .plain .neq x35 (nth vs11 1)) fun x36 =>
      condK x36 (
       ret1 H32 R (.tup [.sc (.int .i32 65533), I 1])
      ) (
       ret1 H32 R (.tup [x33, x34])
      )
     )
    ) (
     pureK (bop .plain .sub (nth vs11 2) (I 1)) fun x37 =>
     (∃ (n14 : Nat) (H15 : Heap), n14 < n13 ∧ H15 ≤ H21 ∧ J10 [nth vs11 0, nth vs11 1, x37, nth vs11 3] H15 n14)
    )
   ) (
    pureK (bop .plain .lss (nth vs11 2) (I 0)) fun x38 =>
    condK x38 (
     pureK (sls (nth vs11 0) (some (I 0)) (some (nth vs11 1)) none) fun x39 =>
     ACalls PP gΓ utf8_DecodeRuneInString [x39] H12 fun x40 H41 =>
     pureK (extractE x40 0) fun x42 =>
     pureK (extractE x40 1) fun x43 =>
     pureK (bop .plain .add (I 0) x43) fun x44 =>
     pureK (bop .plain .neq x44 (nth vs11 1)) fun x45 =>
     condK x45 (
      ret1 H41 R (.tup [.sc (.int .i32 65533), I 1])
     ) (
      ret1 H41 R (.tup [x42, x43])
     )
    ) (
     pureK (sls (nth vs11 0) (some (nth vs11 2)) (some (nth vs11 1)) none) fun x46 =>
     ACalls PP gΓ utf8_DecodeRuneInString [x46] H12 fun x47 H48 =>
     pureK (extractE x47 0) fun x49 =>
     pureK (extractE x47 1) fun x50 =>
     pureK (bop .plain .add (nth vs11 2) x50) fun x51 =>
     pureK (bop .plain .neq x51 (nth vs11 1)) fun x52 =>
     condK x52 (
      ret1 H48 R (.tup [.sc (.int .i32 65533), I 1])
     ) (
      ret1 H48 R (.tup [x49, x50])
     )
    )
   )
  )
 )
theorem K_utf8_DecodeLastRuneInString (a0 : AV) (H : Heap) (R : AV → Heap → Prop) : awp E_utf8_DecodeLastRuneInString (drawK E_utf8_DecodeLastRuneInString) C_utf8_DecodeLastRuneInString (fun j => List.getD [a0] j .dead) H (retK PP Tryz.f128.results.toList R) = W_utf8_DecodeLastRuneInString a0 H R := by kernel_rfl
theorem utf8_DecodeLastRuneInString_of {a0 : AV} {H : Heap} {R : AV → Heap → Prop} (h : W_utf8_DecodeLastRuneInString a0 H R) : ACalls PP gΓ utf8_DecodeLastRuneInString [a0] H R :=
  ACalls.of_awp (E := E_utf8_DecodeLastRuneInString) follows_PP Tryz.func128 (c := C_utf8_DecodeLastRuneInString) (by kernel_rfl) Tryz.ntmps128 ((K_utf8_DecodeLastRuneInString a0 H R) ▸ h)

noncomputable def L_slices_IndexFunc_Node : Nat → Option (List Nat) := fun k => bif Nat.beq k 1002 then some [0, 1, 7, 8] else none
noncomputable abbrev E_slices_IndexFunc_Node : Env := ⟨PP, gΓ, 19, L_slices_IndexFunc_Node, fun _ => false⟩
noncomputable def C_slices_IndexFunc_Node : Code := Tryz.f129.body.getD .skip
def W_slices_IndexFunc_Node (a0 a1 : AV) (H : Heap) (R : AV → Heap → Prop) : Prop :=
 pureK (lnl a0) fun x1 =>
 ∃ J2 : List AV → Heap → Nat → Prop, (∃ (n8 : Nat) (H9 : Heap), H9 ≤ H ∧ J2 [a0, a1, x1, I 0] H9 n8) ∧ ∀ (vs3 : List AV) (H4 : Heap) (n5 : Nat), J2 vs3 H4 n5 →
 pureK (bop .plain .lss (nth vs3 3) (nth vs3 2)) fun x10 =>
 condK x10 (
  pureK (ias 3 (nth vs3 0) (nth vs3 3)) fun x11 =>
  pureK (ld (some true) 3 H4 x11) fun x12 =>
  callK (E_slices_IndexFunc_Node) (nth vs3 1) [x12] H4 fun x13 H14 =>
  condK x13 (
   ret1 H14 R (nth vs3 3)
  ) (
   pureK (bop .plain .add (nth vs3 3) (I 1)) fun x15 =>
   (∃ (n6 : Nat) (H7 : Heap), n6 < n5 ∧ H7 ≤ H14 ∧ J2 [nth vs3 0, nth vs3 1, nth vs3 2, x15] H7 n6)
  )
 ) (
  ret1 H4 R (I (-1))
 )
theorem K_slices_IndexFunc_Node (a0 a1 : AV) (H : Heap) (R : AV → Heap → Prop) : awp E_slices_IndexFunc_Node (drawK E_slices_IndexFunc_Node) C_slices_IndexFunc_Node (fun j => List.getD [a0, a1] j .dead) H (retK PP Tryz.f129.results.toList R) = W_slices_IndexFunc_Node a0 a1 H R := by kernel_rfl
theorem slices_IndexFunc_Node_of {a0 a1 : AV} {H : Heap} {R : AV → Heap → Prop} (h : W_slices_IndexFunc_Node a0 a1 H R) : ACalls PP gΓ slices_IndexFunc_Node [a0, a1] H R :=
  ACalls.of_awp (E := E_slices_IndexFunc_Node) follows_PP Tryz.func129 (c := C_slices_IndexFunc_Node) (by kernel_rfl) Tryz.ntmps129 ((K_slices_IndexFunc_Node a0 a1 H R) ▸ h)

noncomputable def L_ref10_node : Nat → Option (List Nat) := fun k => none
noncomputable abbrev E_ref10_node : Env := ⟨PP, gΓ, 8, L_ref10_node, fun _ => false⟩
noncomputable def C_ref10_node : Code := Tryz.f130.body.getD .skip
def W_ref10_node (a0 a1 : AV) (H : Heap) (R : AV → Heap → Prop) : Prop :=
 allocP [.sc (.int .i64 0), S emp, .sc (.int .i64 0)] H fun o1 H2 =>
 pureK (bld [(0, 1), (1, 1), (2, 1)] [.sc (.int .i64 0), S emp, .sc (.int .i64 0)] [(0, a0), (2, a1)]) fun x3 =>
 heapK (st 3 H2 (.ptr o1 0) x3) fun H4 =>
 pureK (ld (some true) 3 H4 (.ptr o1 0)) fun x5 =>
 ret1 H4 R x5
theorem K_ref10_node (a0 a1 : AV) (H : Heap) (R : AV → Heap → Prop) : awp E_ref10_node (drawK E_ref10_node) C_ref10_node (fun j => List.getD [a0, a1] j .dead) H (retK PP Tryz.f130.results.toList R) = W_ref10_node a0 a1 H R := by kernel_rfl
theorem ref10_node_of {a0 a1 : AV} {H : Heap} {R : AV → Heap → Prop} (h : W_ref10_node a0 a1 H R) : ACalls PP gΓ ref10_node [a0, a1] H R :=
  ACalls.of_awp (E := E_ref10_node) follows_PP Tryz.func130 (c := C_ref10_node) (by kernel_rfl) Tryz.ntmps130 ((K_ref10_node a0 a1 H R) ▸ h)

noncomputable def L_ref10_end : Nat → Option (List Nat) := fun k => none
noncomputable abbrev E_ref10_end : Env := ⟨PP, gΓ, 9, L_ref10_end, fun _ => false⟩
noncomputable def C_ref10_end : Code := Tryz.f131.body.getD .skip
def W_ref10_end (a0 a1 : AV) (H : Heap) (R : AV → Heap → Prop) : Prop :=
 ACalls PP gΓ ref10_node [I 14, a0] H fun x1 H2 =>
 ACalls PP gΓ ref03_One [x1, a1] H2 fun x3 H4 =>
 ret1 H4 R x3
theorem K_ref10_end (a0 a1 : AV) (H : Heap) (R : AV → Heap → Prop) : awp E_ref10_end (drawK E_ref10_end) C_ref10_end (fun j => List.getD [a0, a1] j .dead) H (retK PP Tryz.f131.results.toList R) = W_ref10_end a0 a1 H R := by kernel_rfl
theorem ref10_end_of {a0 a1 : AV} {H : Heap} {R : AV → Heap → Prop} (h : W_ref10_end a0 a1 H R) : ACalls PP gΓ ref10_end [a0, a1] H R :=
  ACalls.of_awp (E := E_ref10_end) follows_PP Tryz.func131 (c := C_ref10_end) (by kernel_rfl) Tryz.ntmps131 ((K_ref10_end a0 a1 H R) ▸ h)

noncomputable def L_ref03_Two : Nat → Option (List Nat) := fun k => none
noncomputable abbrev E_ref03_Two : Env := ⟨PP, gΓ, 12, L_ref03_Two, fun _ => false⟩
noncomputable def C_ref03_Two : Code := Tryz.f132.body.getD .skip
def W_ref03_Two (a0 a1 a2 : AV) (H : Heap) (R : AV → Heap → Prop) : Prop :=
 allocK (some (AV.cells a0)) H fun p1 H2 =>
 pureK (ld (some true) 3 H2 p1) fun x3 =>
 ACalls PP gΓ ref03_One [x3, a1] H2 fun x4 H5 =>
 appK 3 x4 a2 H5 fun x6 H7 =>
 ret1 H7 R x6
theorem K_ref03_Two (a0 a1 a2 : AV) (H : Heap) (R : AV → Heap → Prop) : awp E_ref03_Two (drawK E_ref03_Two) C_ref03_Two (fun j => List.getD [a0, a1, a2] j .dead) H (retK PP Tryz.f132.results.toList R) = W_ref03_Two a0 a1 a2 H R := by kernel_rfl
theorem ref03_Two_of {a0 a1 a2 : AV} {H : Heap} {R : AV → Heap → Prop} (h : W_ref03_Two a0 a1 a2 H R) : ACalls PP gΓ ref03_Two [a0, a1, a2] H R :=
  ACalls.of_awp (E := E_ref03_Two) follows_PP Tryz.func132 (c := C_ref03_Two) (by kernel_rfl) Tryz.ntmps132 ((K_ref03_Two a0 a1 a2 H R) ▸ h)

noncomputable def L_ref01_Both : Nat → Option (List Nat) := fun k => none
noncomputable abbrev E_ref01_Both : Env := ⟨PP, gΓ, 25, L_ref01_Both, fun _ => false⟩
noncomputable def C_ref01_Both : Code := Tryz.f133.body.getD .skip
def W_ref01_Both (a0 a1 : AV) (H : Heap) (R : AV → Heap → Prop) : Prop :=
 ACalls PP gΓ ref01_Is [a0] H fun x1 H2 =>
 pureK (unE .not x1) fun x3 =>
 condK x3 (
  ret1 H2 R (I 0)
 ) (
  ACalls PP gΓ ref01_Is [a1] H2 fun x4 H5 =>
  pureK (unE .not x4) fun x6 =>
  condK x6 (
   ret1 H5 R (I 0)
  ) (
   pureK (bop .plain .eql a0 (I 2)) fun x7 =>
   condK x7 (
    ret1 H5 R (I 2)
   ) (
    pureK (bop .plain .eql a1 (I 2)) fun x8 =>
    condK x8 (
     ret1 H5 R (I 2)
    ) (
     pureK (bop .plain .eql a0 (I 3)) fun x9 =>
     condK x9 (
      ret1 H5 R (I 3)
     ) (
      pureK (bop .plain .eql a1 (I 3)) fun x10 =>
      condK x10 (
       ret1 H5 R (I 3)
      ) (
       ret1 H5 R (I 1)
      )
     )
    )
   )
  )
 )
theorem K_ref01_Both (a0 a1 : AV) (H : Heap) (R : AV → Heap → Prop) : awp E_ref01_Both (drawK E_ref01_Both) C_ref01_Both (fun j => List.getD [a0, a1] j .dead) H (retK PP Tryz.f133.results.toList R) = W_ref01_Both a0 a1 H R := by kernel_rfl
theorem ref01_Both_of {a0 a1 : AV} {H : Heap} {R : AV → Heap → Prop} (h : W_ref01_Both a0 a1 H R) : ACalls PP gΓ ref01_Both [a0, a1] H R :=
  ACalls.of_awp (E := E_ref01_Both) follows_PP Tryz.func133 (c := C_ref01_Both) (by kernel_rfl) Tryz.ntmps133 ((K_ref01_Both a0 a1 H R) ▸ h)

noncomputable def L_ref03_One : Nat → Option (List Nat) := fun k => none
noncomputable abbrev E_ref03_One : Env := ⟨PP, gΓ, 13, L_ref03_One, fun _ => false⟩
noncomputable def C_ref03_One : Code := Tryz.f134.body.getD .skip
def W_ref03_One (a0 a1 : AV) (H : Heap) (R : AV → Heap → Prop) : Prop :=
 allocK (some (AV.cells a0)) H fun p1 H2 =>
 pureK (ld (some true) 3 H2 p1) fun x3 =>
 pureK (bsl 3 (.agg [.sc (.int .i64 0), S emp, .sc (.int .i64 0)]) 1 [(0, x3)]) fun x4 =>
 appK 3 (.lst 0 [] .exact) x4 H2 fun x5 H6 =>
 appK 3 x5 a1 H6 fun x7 H8 =>
 ret1 H8 R x7
theorem K_ref03_One (a0 a1 : AV) (H : Heap) (R : AV → Heap → Prop) : awp E_ref03_One (drawK E_ref03_One) C_ref03_One (fun j => List.getD [a0, a1] j .dead) H (retK PP Tryz.f134.results.toList R) = W_ref03_One a0 a1 H R := by kernel_rfl
theorem ref03_One_of {a0 a1 : AV} {H : Heap} {R : AV → Heap → Prop} (h : W_ref03_One a0 a1 H R) : ACalls PP gΓ ref03_One [a0, a1] H R :=
  ACalls.of_awp (E := E_ref03_One) follows_PP Tryz.func134 (c := C_ref03_One) (by kernel_rfl) Tryz.ntmps134 ((K_ref03_One a0 a1 H R) ▸ h)

noncomputable def L_slices_Grow_Node : Nat → Option (List Nat) := fun k => none
noncomputable abbrev E_slices_Grow_Node : Env := ⟨PP, gΓ, 27, L_slices_Grow_Node, fun _ => false⟩
noncomputable def C_slices_Grow_Node : Code := Tryz.f135.body.getD .skip
def W_slices_Grow_Node (a0 a1 : AV) (H : Heap) (R : AV → Heap → Prop) : Prop :=
 pureK (bop .plain .lss a1 (I 0)) fun x1 =>
 condK x1 (
  False
 ) (
  pureK (cpl a0) fun x2 =>
  pureK (lnl a0) fun x3 =>
  pureK (bop .plain .sub x2 x3) fun x4 =>
  pureK (bop .plain .sub a1 x4) fun x5 =>
  pureK (bop .plain .gtr x5 (I 0)) fun x6 =>
  condK x6 (
   pureK (cpl a0) fun x7 =>
   pureK (sll 3 a0 none (some x7) none) fun x8 =>
   growK 3 x8 x5 H fun x9 H10 =>
   pureK (lnl a0) fun x11 =>
   pureK (sll 3 x9 none (some x11) none) fun x12 =>
   ret1 H10 R x12
  ) (
   ret1 H R a0
  )
 )
theorem K_slices_Grow_Node (a0 a1 : AV) (H : Heap) (R : AV → Heap → Prop) : awp E_slices_Grow_Node (drawK E_slices_Grow_Node) C_slices_Grow_Node (fun j => List.getD [a0, a1] j .dead) H (retK PP Tryz.f135.results.toList R) = W_slices_Grow_Node a0 a1 H R := by kernel_rfl
theorem slices_Grow_Node_of {a0 a1 : AV} {H : Heap} {R : AV → Heap → Prop} (h : W_slices_Grow_Node a0 a1 H R) : ACalls PP gΓ slices_Grow_Node [a0, a1] H R :=
  ACalls.of_awp (E := E_slices_Grow_Node) follows_PP Tryz.func135 (c := C_slices_Grow_Node) (by kernel_rfl) Tryz.ntmps135 ((K_slices_Grow_Node a0 a1 H R) ▸ h)

noncomputable def L_sign_Is : Nat → Option (List Nat) := fun k => none
noncomputable abbrev E_sign_Is : Env := ⟨PP, gΓ, 9, L_sign_Is, fun _ => false⟩
noncomputable def C_sign_Is : Code := Tryz.f136.body.getD .skip
def W_sign_Is (a0 : AV) (H : Heap) (R : AV → Heap → Prop) : Prop :=
 pureK (bop .plain .geq a0 (I 1)) fun x1 =>
 condK x1 (
  pureK (bop .plain .leq a0 (I 3)) fun x2 =>
  ret1 H R x2
 ) (
  ret1 H R (B false)
 )
theorem K_sign_Is (a0 : AV) (H : Heap) (R : AV → Heap → Prop) : awp E_sign_Is (drawK E_sign_Is) C_sign_Is (fun j => List.getD [a0] j .dead) H (retK PP Tryz.f136.results.toList R) = W_sign_Is a0 H R := by kernel_rfl
theorem sign_Is_of {a0 : AV} {H : Heap} {R : AV → Heap → Prop} (h : W_sign_Is a0 H R) : ACalls PP gΓ sign_Is [a0] H R :=
  ACalls.of_awp (E := E_sign_Is) follows_PP Tryz.func136 (c := C_sign_Is) (by kernel_rfl) Tryz.ntmps136 ((K_sign_Is a0 H R) ▸ h)

noncomputable def L_utf8_decodeRuneInStringSlow : Nat → Option (List Nat) := fun k => none
noncomputable abbrev E_utf8_decodeRuneInStringSlow : Env := ⟨PP, gΓ, 117, L_utf8_decodeRuneInStringSlow, fun _ => false⟩
noncomputable def C_utf8_decodeRuneInStringSlow : Code := Tryz.f143.body.getD .skip
def W_utf8_decodeRuneInStringSlow (a0 : AV) (H : Heap) (R : AV → Heap → Prop) : Prop :=
 pureK (lns a0) fun x1 =>
 pureK (bop .plain .lss x1 (I 1)) fun x2 =>
 condK x2 (
  ret1 H R (.tup [.sc (.int .i32 65533), I 0])
 ) (
  pureK (ixs a0 (I 0)) fun x3 =>
  pureK (iaa 256 1 g1 x3) fun x4 =>
  pureK (ld (some false) 1 H x4) fun x5 =>
  pureK (bop .plain .geq x5 (.sc (.int .u8 240))) fun x6 =>
  condK x6 (
   pureK (cv (.toInt .i32) x5) fun x7 =>
   pureK (bop .plain .shl x7 (.sc (.int .u64 31))) fun x8 =>
   pureK (bop .plain .shr x8 (.sc (.int .u64 31))) fun x9 =>
   pureK (ixs a0 (I 0)) fun x10 =>
   pureK (cv (.toInt .i32) x10) fun x11 =>
   pureK (bop .plain .andNot x11 x9) fun x12 =>
   pureK (bop .plain .and (.sc (.int .i32 65533)) x9) fun x13 =>
   pureK (bop .plain .or x12 x13) fun x14 =>
   ret1 H R (.tup [x14, I 1])
  ) (
   pureK (bop .plain .and x5 (.sc (.int .u8 7))) fun x15 =>
   pureK (cv (.toInt .i64) x15) fun x16 =>
   pureK (bop .plain .shr x5 (.sc (.int .u64 4))) fun x17 =>
   pureK (iaa 16 2 g2 x17) fun x18 =>
   pureK (ld (some true) 2 H x18) fun x19 =>
   allocP [.sc (.int .u8 0), .sc (.int .u8 0)] H fun o20 H21 =>
   heapK (st 2 H21 (.ptr o20 0) x19) fun H22 =>
   pureK (bop .plain .lss x1 x16) fun x23 =>
   condK x23 (
    ret1 H22 R (.tup [.sc (.int .i32 65533), I 1])
   ) (
    pureK (ixs a0 (I 1)) fun x24 =>
    pureK (fa 0 (.ptr o20 0)) fun x25 =>
    pureK (ld (some false) 1 H22 x25) fun x26 =>
    pureK (bop .plain .lss x24 x26) fun x27 =>
    condK x27 (
     ret1 H22 R (.tup [.sc (.int .i32 65533), I 1])
    ) (
     pureK (fa 1 (.ptr o20 0)) fun x28 =>
     pureK (ld (some false) 1 H22 x28) fun x29 =>
     pureK (bop .plain .lss x29 x24) fun x30 =>
     condK x30 (
      ret1 H22 R (.tup [.sc (.int .i32 65533), I 1])
     ) (
      pureK (bop .plain .leq x16 (I 2)) fun x31 =>
      condK x31 (
       pureK (bop .plain .and x3 (.sc (.int .u8 31))) fun x32 =>
       pureK (cv (.toInt .i32) x32) fun x33 =>
       pureK (bop .plain .shl x33 (.sc (.int .u64 6))) fun x34 =>
       pureK (bop .plain .and x24 (.sc (.int .u8 63))) fun x35 =>
       pureK (cv (.toInt .i32) x35) fun x36 =>
       pureK (bop .plain .or x34 x36) fun x37 =>
       ret1 H22 R (.tup [x37, I 2])
      ) (
       pureK (ixs a0 (I 2)) fun x38 =>
       pureK (bop .plain .lss x38 (.sc (.int .u8 128))) fun x39 =>
       condK x39 (
        ret1 H22 R (.tup [.sc (.int .i32 65533), I 1])
       ) (
        pureK (bop .plain .lss (.sc (.int .u8 191)) x38) fun x40 =>
        condK x40 (
         ret1 H22 R (.tup [.sc (.int .i32 65533), I 1])
        ) (
         pureK (bop .plain .leq x16 (I 3)) fun x41 =>
         condK x41 (
          pureK (bop .plain .and x3 (.sc (.int .u8 15))) fun x42 =>
          pureK (cv (.toInt .i32) x42) fun x43 =>
          pureK (bop .plain .shl x43 (.sc (.int .u64 12))) fun x44 =>
          pureK (bop .plain .and x24 (.sc (.int .u8 63))) fun x45 =>
          pureK (cv (.toInt .i32) x45) fun x46 =>
          pureK (bop .plain .shl x46 (.sc (.int .u64 6))) fun x47 =>
          pureK (bop .plain .or x44 x47) fun x48 =>
          pureK (bop .plain .and x38 (.sc (.int .u8 63))) fun x49 =>
          pureK (cv (.toInt .i32) x49) fun x50 =>
          pureK (bop .plain .or x48 x50) fun x51 =>
          ret1 H22 R (.tup [x51, I 3])
         ) (
          pureK (ixs a0 (I 3)) fun x52 =>
          pureK (bop .plain .lss x52 (.sc (.int .u8 128))) fun x53 =>
          condK x53 (
           ret1 H22 R (.tup [.sc (.int .i32 65533), I 1])
          ) (
           pureK (bop .plain .lss (.sc (.int .u8 191)) x52) fun x54 =>
           condK x54 (
            ret1 H22 R (.tup [.sc (.int .i32 65533), I 1])
           ) (
            pureK (bop .plain .and x3 (.sc (.int .u8 7))) fun x55 =>
            pureK (cv (.toInt .i32) x55) fun x56 =>
            pureK (bop .plain .shl x56 (.sc (.int .u64 18))) fun x57 =>
            pureK (bop .plain .and x24 (.sc (.int .u8 63))) fun x58 =>
            pureK (cv (.toInt .i32) x58) fun x59 =>
            pureK (bop .plain .shl x59 (.sc (.int .u64 12))) fun x60 =>
            pureK (bop .plain .or x57 x60) fun x61 =>
            pureK (bop .plain .and x38 (.sc (.int .u8 63))) fun x62 =>
            pureK (cv (.toInt .i32) x62) fun x63 =>
            pureK (bop .plain .shl x63 (.sc (.int .u64 6))) fun x64 =>
            pureK (bop .plain .or x61 x64) fun x65 =>
            pureK (bop .plain .and x52 (.sc (.int .u8 63))) fun x66 =>
            pureK (cv (.toInt .i32) x66) fun x67 =>
            pureK (bop .plain .or x65 x67) fun x68 =>
            ret1 H22 R (.tup [x68, I 4])
           )
          )
         )
        )
       )
      )
     )
    )
   )
  )
 )
theorem K_utf8_decodeRuneInStringSlow (a0 : AV) (H : Heap) (R : AV → Heap → Prop) : awp E_utf8_decodeRuneInStringSlow (drawK E_utf8_decodeRuneInStringSlow) C_utf8_decodeRuneInStringSlow (fun j => List.getD [a0] j .dead) H (retK PP Tryz.f143.results.toList R) = W_utf8_decodeRuneInStringSlow a0 H R := by kernel_rfl
theorem utf8_decodeRuneInStringSlow_of {a0 : AV} {H : Heap} {R : AV → Heap → Prop} (h : W_utf8_decodeRuneInStringSlow a0 H R) : ACalls PP gΓ utf8_decodeRuneInStringSlow [a0] H R :=
  ACalls.of_awp (E := E_utf8_decodeRuneInStringSlow) follows_PP Tryz.func143 (c := C_utf8_decodeRuneInStringSlow) (by kernel_rfl) Tryz.ntmps143 ((K_utf8_decodeRuneInStringSlow a0 H R) ▸ h)

noncomputable def L_utf8_RuneStart : Nat → Option (List Nat) := fun k => none
noncomputable abbrev E_utf8_RuneStart : Env := ⟨PP, gΓ, 6, L_utf8_RuneStart, fun _ => false⟩
noncomputable def C_utf8_RuneStart : Code := Tryz.f145.body.getD .skip
def W_utf8_RuneStart (a0 : AV) (H : Heap) (R : AV → Heap → Prop) : Prop :=
 pureK (bop .plain .and a0 (.sc (.int .u8 192))) fun x1 =>
 pureK (bop .plain .neq x1 (.sc (.int .u8 128))) fun x2 =>
 ret1 H R x2
theorem K_utf8_RuneStart (a0 : AV) (H : Heap) (R : AV → Heap → Prop) : awp E_utf8_RuneStart (drawK E_utf8_RuneStart) C_utf8_RuneStart (fun j => List.getD [a0] j .dead) H (retK PP Tryz.f145.results.toList R) = W_utf8_RuneStart a0 H R := by kernel_rfl
theorem utf8_RuneStart_of {a0 : AV} {H : Heap} {R : AV → Heap → Prop} (h : W_utf8_RuneStart a0 H R) : ACalls PP gΓ utf8_RuneStart [a0] H R :=
  ACalls.of_awp (E := E_utf8_RuneStart) follows_PP Tryz.func145 (c := C_utf8_RuneStart) (by kernel_rfl) Tryz.ntmps145 ((K_utf8_RuneStart a0 H R) ▸ h)

noncomputable def L_ref01_Is : Nat → Option (List Nat) := fun k => none
noncomputable abbrev E_ref01_Is : Env := ⟨PP, gΓ, 13, L_ref01_Is, fun _ => false⟩
noncomputable def C_ref01_Is : Code := Tryz.f146.body.getD .skip
def W_ref01_Is (a0 : AV) (H : Heap) (R : AV → Heap → Prop) : Prop :=
 pureK (bop .plain .eql a0 (I 1)) fun x1 =>
 condK x1 (
  ret1 H R (B true)
 ) (
  pureK (bop .plain .eql a0 (I 2)) fun x2 =>
  condK x2 (
   ret1 H R (B true)
  ) (
   pureK (bop .plain .eql a0 (I 3)) fun x3 =>
   ret1 H R x3
  )
 )
theorem K_ref01_Is (a0 : AV) (H : Heap) (R : AV → Heap → Prop) : awp E_ref01_Is (drawK E_ref01_Is) C_ref01_Is (fun j => List.getD [a0] j .dead) H (retK PP Tryz.f146.results.toList R) = W_ref01_Is a0 H R := by kernel_rfl
theorem ref01_Is_of {a0 : AV} {H : Heap} {R : AV → Heap → Prop} (h : W_ref01_Is a0 H R) : ACalls PP gΓ ref01_Is [a0] H R :=
  ACalls.of_awp (E := E_ref01_Is) follows_PP Tryz.func146 (c := C_ref01_Is) (by kernel_rfl) Tryz.ntmps146 ((K_ref01_Is a0 H R) ▸ h)

noncomputable def L_utf8_ValidRune : Nat → Option (List Nat) := fun k => none
noncomputable abbrev E_utf8_ValidRune : Env := ⟨PP, gΓ, 17, L_utf8_ValidRune, fun _ => false⟩
noncomputable def C_utf8_ValidRune : Code := Tryz.f154.body.getD .skip
def W_utf8_ValidRune (a0 : AV) (H : Heap) (R : AV → Heap → Prop) : Prop :=
 pureK (bop .plain .leq (.sc (.int .i32 0)) a0) fun x1 =>
 condK x1 (
  pureK (bop .plain .lss a0 (.sc (.int .i32 55296))) fun x2 =>
  condK x2 (
   ret1 H R (B true)
  ) (
   pureK (bop .plain .lss (.sc (.int .i32 57343)) a0) fun x3 =>
   condK x3 (
    pureK (bop .plain .leq a0 (.sc (.int .i32 1114111))) fun x4 =>
    condK x4 (
     ret1 H R (B true)
    ) (
     ret1 H R (B false)
    )
   ) (
    ret1 H R (B false)
   )
  )
 ) (
  pureK (bop .plain .lss (.sc (.int .i32 57343)) a0) fun x5 =>
  condK x5 (
   pureK (bop .plain .leq a0 (.sc (.int .i32 1114111))) fun x6 =>
   condK x6 (
    ret1 H R (B true)
   ) (
    ret1 H R (B false)
   )
  ) (
   ret1 H R (B false)
  )
 )
theorem K_utf8_ValidRune (a0 : AV) (H : Heap) (R : AV → Heap → Prop) : awp E_utf8_ValidRune (drawK E_utf8_ValidRune) C_utf8_ValidRune (fun j => List.getD [a0] j .dead) H (retK PP Tryz.f154.results.toList R) = W_utf8_ValidRune a0 H R := by kernel_rfl
theorem utf8_ValidRune_of {a0 : AV} {H : Heap} {R : AV → Heap → Prop} (h : W_utf8_ValidRune a0 H R) : ACalls PP gΓ utf8_ValidRune [a0] H R :=
  ACalls.of_awp (E := E_utf8_ValidRune) follows_PP Tryz.func154 (c := C_utf8_ValidRune) (by kernel_rfl) Tryz.ntmps154 ((K_utf8_ValidRune a0 H R) ▸ h)

noncomputable def L_bytealg_Cutover : Nat → Option (List Nat) := fun k => none
noncomputable abbrev E_bytealg_Cutover : Env := ⟨PP, gΓ, 6, L_bytealg_Cutover, fun _ => false⟩
noncomputable def C_bytealg_Cutover : Code := Tryz.f155.body.getD .skip
def W_bytealg_Cutover (a0 : AV) (H : Heap) (R : AV → Heap → Prop) : Prop :=
 pureK (bop .plain .add a0 (I 16)) fun x1 =>
 pureK (bop .plain .quo x1 (I 8)) fun x2 =>
 ret1 H R x2
theorem K_bytealg_Cutover (a0 : AV) (H : Heap) (R : AV → Heap → Prop) : awp E_bytealg_Cutover (drawK E_bytealg_Cutover) C_bytealg_Cutover (fun j => List.getD [a0] j .dead) H (retK PP Tryz.f155.results.toList R) = W_bytealg_Cutover a0 H R := by kernel_rfl
theorem bytealg_Cutover_of {a0 : AV} {H : Heap} {R : AV → Heap → Prop} (h : W_bytealg_Cutover a0 H R) : ACalls PP gΓ bytealg_Cutover [a0] H R :=
  ACalls.of_awp (E := E_bytealg_Cutover) follows_PP Tryz.func155 (c := C_bytealg_Cutover) (by kernel_rfl) Tryz.ntmps155 ((K_bytealg_Cutover a0 H R) ▸ h)

end
end Go.Av
