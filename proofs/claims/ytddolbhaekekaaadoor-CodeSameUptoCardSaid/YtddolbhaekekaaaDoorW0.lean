/- Own text W0 of this claim: see the text that holds the theorem. -/
-- by gen.py
import Derived.Test.YtddolbhaekekaaaDoorAv14
import Derived.Test.YtddolbhaekekaaaDoorChecked
set_option linter.all false
namespace Go.Av
open Go Go.Proofs
set_option maxRecDepth 100000
noncomputable section
noncomputable abbrev PP : Program := Tryd.prog
theorem follows_PP : PP.follows .mixedOrders = true := by kernel_rfl
def emp : ByteArray := { data := #[] }
def s_ab : ByteArray := { data := #[97, 98] }
def s_c : ByteArray := { data := #[99] }
def s_abcdefghijklmnopqrstuvwxyz : ByteArray := { data := #[97, 98, 99, 100, 101, 102, 103, 104, 105, 106, 107, 108, 109, 110, 111, 112, 113, 114, 115, 116, 117, 118, 119, 120, 121, 122] }
def s_len_20out_20of_20range : ByteArray := { data := #[108, 101, 110, 32, 111, 117, 116, 32, 111, 102, 32, 114, 97, 110, 103, 101] }
def s_cannot_20be_20negative : ByteArray := { data := #[99, 97, 110, 110, 111, 116, 32, 98, 101, 32, 110, 101, 103, 97, 116, 105, 118, 101] }
/-- The words that are no names. -/
def words : List ByteArray := [{ data := #[115, 107, 105, 112] }, { data := #[116, 104, 114, 111, 119] }, { data := #[121, 105, 101, 108, 100] }, { data := #[115, 107, 105, 112, 112] }, { data := #[116, 104, 114, 111, 119, 119] }, { data := #[121, 105, 101, 108, 100, 100] }]
def g0 : AV := .cp (words.map fun w => S w) 0
def g1 : AV := .dead
def g2 : AV := .dead
def gΓ : Nat → Option AV := fun k => bif Nat.beq k 0 then some g0 else none
def main_main : Nat := 0
def gosem_cut : Nat := 1
def gosem_cut_init : Nat := 2
def law19_CodeBack : Nat := 3
def law19_CodeOnce : Nat := 4
def law19_CodeSame : Nat := 5
def law19_few : Nat := 6
def law19_alive : Nat := 7
def code_Encode : Nat := 8
def law19_New : Nat := 9
def code_Decode : Nat := 10
def ref19_Same : Nat := 11
def law19_Old : Nat := 12
def code_Long : Nat := 13
def code_Same : Nat := 14
def ref16_Same : Nat := 15
def ref19_Long : Nat := 16
def ref03_Depth : Nat := 17
def code_Right : Nat := 18
def code_named : Nat := 19
def code_reader_next : Nat := 20
def code_reader_name : Nat := 21
def bytes_Equal : Nat := 22
def ref03_Same : Nat := 23
def ref04_Texts : Nat := 24
def code_Same_1 : Nat := 25
def slices_Equal_string : Nat := 26
def row_Same : Nat := 27
def ref03_Walk : Nat := 28
def code_Right_1 : Nat := 29
def row_Right : Nat := 30
def code_Right_2 : Nat := 31
def sort_On : Nat := 32
def settle_Settled : Nat := 33
def slices_ContainsFunc_string : Nat := 34
def slices_Equal_Node : Nat := 35
def ref03_Arity : Nat := 36
def row_named : Nat := 37
def row_Arity : Nat := 38
def sort_on : Nat := 39
def sort_Of : Nat := 40
def settle_Settle : Nat := 41
def slices_IndexFunc_string : Nat := 42
def strings_Trim : Nat := 43
def slices_Contains_string : Nat := 44
def row_Whole : Nat := 45
def sort_sort : Nat := 46
def settle_settle : Nat := 47
def strings_trimLeftByte : Nat := 48
def strings_trimRightByte : Nat := 49
def strings_makeASCIISet : Nat := 50
def strings_trimLeftASCII : Nat := 51
def strings_trimRightASCII : Nat := 52
def strings_trimLeftUnicode : Nat := 53
def strings_trimRightUnicode : Nat := 54
def slices_Index_string : Nat := 55
def row_Whole_1 : Nat := 56
def slices_ContainsFunc_Node : Nat := 57
def row_Size : Nat := 58
def row_Kids : Nat := 59
def sort_both : Nat := 60
def sort_behind : Nat := 61
def settle_over : Nat := 62
def settle_behind : Nat := 63
def settle_stack : Nat := 64
def settle_Ended : Nat := 65
def row_Make : Nat := 66
def settle_end : Nat := 67
def settle_par : Nat := 68
def settle_block : Nat := 69
def strings_asciiSet_contains : Nat := 70
def utf8_DecodeRuneInString : Nat := 71
def strings_ContainsRune : Nat := 72
def utf8_DecodeLastRuneInString : Nat := 73
def slices_IndexFunc_Node : Nat := 74
def slices_Clone_Node : Nat := 75
def slices_Concat_Node : Nat := 76
def sign_Both : Nat := 77
def utf8_decodeRuneInStringSlow : Nat := 78
def strings_IndexRune : Nat := 79
def utf8_RuneStart : Nat := 80
def slices_Grow_Node : Nat := 81
def sign_Is : Nat := 82
def strings_IndexByte : Nat := 83
def utf8_ValidRune : Nat := 84
def bytealg_Cutover : Nat := 85
def bytealg_IndexString : Nat := 86
def stringslite_IndexByte : Nat := 87
def bytealg_IndexByteString : Nat := 88
def runtime_boundsError_Error : Nat := 89
def runtime_boundsError_RuntimeError : Nat := 90
def runtime_errorString_Error : Nat := 91
def runtime_errorString_RuntimeError : Nat := 92
def runtime_plainError_Error : Nat := 93
def runtime_plainError_RuntimeError : Nat := 94
def runtime_errorAddressString_Error : Nat := 95
def runtime_errorAddressString_RuntimeError : Nat := 96
def runtime_TypeAssertionError_Error : Nat := 97
def runtime_TypeAssertionError_RuntimeError : Nat := 98
def runtime_PanicNilError_Error : Nat := 99
def runtime_PanicNilError_RuntimeError : Nat := 100
def abi_Type_Align : Nat := 101
def maps_unhashableTypeError_Error : Nat := 102
def maps_unhashableTypeError_RuntimeError : Nat := 103
def abi_Kind_String : Nat := 104
def var_s_door_gosem_cut_vars_holds_initialisers_alone_see_the_manifest_s_row_cutvarsword_look_11_test_files_too_ : Nat := 105
def row_words_is_laid_by_its_own_initialiser_plain_data_by_the_wider_look_data_2_ : Nat := 106
def row_words_was_passed_by_the_deep_look_deep_1_ : Nat := 107
def var_s_door_the_look_of_gosem_cut_vars_went_over_the_folder_that_the_caller_named_as_the_repository_s_root_look_11_ : Nat := 108
def utf8_acceptRanges_is_laid_by_its_own_initialiser_plain_data_look_11_ : Nat := 109
def utf8_first_is_laid_by_its_text_alone_pinned_1_ : Nat := 110
def gosem_cut_vars : Nat := 111

noncomputable def L_law19_CodeBack : Nat → Option (List Nat) := fun k => none
noncomputable abbrev E_law19_CodeBack : Env := ⟨PP, gΓ, 59, L_law19_CodeBack, fun _ => false⟩
noncomputable def C_law19_CodeBack : Code := Tryd.f3.body.getD .skip
def W_law19_CodeBack (a0 : AV) (H : Heap) (R : AV → Heap → Prop) : Prop :=
 allocK (some (AV.cells a0)) H fun p1 H2 =>
 pureK (ld (some true) 5 H2 p1) fun x3 =>
 ACalls PP gΓ law19_few [x3] H2 fun x4 H5 =>
 pureK (unE .not x4) fun x6 =>
 condK x6 (
  ACalls PP gΓ law19_alive [] H5 fun x7 H8 =>
  ret1 H8 R x7
 ) (
  pureK (ld (some true) 5 H5 p1) fun x9 =>
  ACalls PP gΓ law19_New [x9] H5 fun x10 H11 =>
  ACalls PP gΓ code_Encode [x10] H11 fun x12 H13 =>
  pureK (extractE x12 0) fun x14 =>
  pureK (extractE x12 1) fun x15 =>
  pureK (unE .not x15) fun x16 =>
  condK x16 (
   ACalls PP gΓ law19_alive [] H13 fun x17 H18 =>
   condK x17 (
    pureK (lnl x14) fun x19 =>
    pureK (bop .plain .eql x19 (I 0)) fun x20 =>
    ret1 H18 R x20
   ) (
    ret1 H18 R (B false)
   )
  ) (
   ACalls PP gΓ code_Decode [x14] H13 fun x21 H22 =>
   pureK (extractE x21 0) fun x23 =>
   pureK (extractE x21 1) fun x24 =>
   allocP [.lst 0 [] .exact, .sc (.int .i64 0), .sc (.int .i64 0), .sc (.int .i64 0), .lst 0 [] .exact] H22 fun o25 H26 =>
   heapK (st 5 H26 (.ptr o25 0) x23) fun H27 =>
   ∃ x28, AReads PP gΓ law19_alive [] H27 x28 ∧
   condK x28 (
    pureK (bop .plain .eql x24 (I 0)) fun x29 =>
    condK x29 (
     pureK (ld (some true) 5 H27 (.ptr o25 0)) fun x30 =>
     ∃ x31, AReads PP gΓ law19_Old [x30] H27 x31 ∧
     pureK (ld (some true) 5 H27 p1) fun x32 =>
     ∃ x33, AReads PP gΓ ref19_Same [x31, x32] H27 x33 ∧
     condK x33 (
      pureK (fa 4 p1) fun x34 =>
      pureK (ld (some false) 1 H27 x34) fun x35 =>
      pureK (lnl x35) fun x36 =>
      pureK (fa 0 p1) fun x37 =>
      pureK (ld (some false) 1 H27 x37) fun x38 =>
      pureK (lnl x38) fun x39 =>
      pureK (bop .plain .gtr x36 x39) fun x40 =>
      condK x40 (
       ret1 H27 R (B true)
      ) (
       pureK (lnl x14) fun x41 =>
       pureK (fa 0 p1) fun x42 =>
       pureK (ld (some false) 1 H27 x42) fun x43 =>
       pureK (lnl x43) fun x44 =>
       ∃ x45, AReads PP gΓ code_Long [x44] H27 x45 ∧
       pureK (bop .plain .leq x41 x45) fun x46 =>
       ret1 H27 R x46
      )
     ) (
      ret1 H27 R (B false)
     )
    ) (
     ret1 H27 R (B false)
    )
   ) (
    ret1 H27 R (B false)
   )
  )
 )
theorem K_law19_CodeBack (a0 : AV) (H : Heap) (R : AV → Heap → Prop) : awp E_law19_CodeBack (drawK E_law19_CodeBack) C_law19_CodeBack (fun j => List.getD [a0] j .dead) H (retK PP Tryd.f3.results.toList R) = W_law19_CodeBack a0 H R := by kernel_rfl
theorem law19_CodeBack_of {a0 : AV} {H : Heap} {R : AV → Heap → Prop} (h : W_law19_CodeBack a0 H R) : ACalls PP gΓ law19_CodeBack [a0] H R :=
  ACalls.of_awp (E := E_law19_CodeBack) follows_PP Tryd.func3 (c := C_law19_CodeBack) (by kernel_rfl) Tryd.ntmps3 ((K_law19_CodeBack a0 H R) ▸ h)

noncomputable def L_law19_CodeOnce : Nat → Option (List Nat) := fun k => none
noncomputable abbrev E_law19_CodeOnce : Env := ⟨PP, gΓ, 75, L_law19_CodeOnce, fun _ => false⟩
noncomputable def C_law19_CodeOnce : Code := Tryd.f4.body.getD .skip
def W_law19_CodeOnce (a0 a1 : AV) (H : Heap) (R : AV → Heap → Prop) : Prop :=
 pureK (lnl a0) fun x1 =>
 pureK (bop .plain .gtr x1 (I 3000)) fun x2 =>
 condK x2 (
  ACalls PP gΓ law19_alive [] H fun x3 H4 =>
  ret1 H4 R x3
 ) (
  ACalls PP gΓ code_Decode [a0] H fun x5 H6 =>
  pureK (extractE x5 0) fun x7 =>
  pureK (extractE x5 1) fun x8 =>
  allocP [.lst 0 [] .exact, .sc (.int .i64 0), .sc (.int .i64 0), .sc (.int .i64 0), .lst 0 [] .exact] H6 fun o9 H10 =>
  heapK (st 5 H10 (.ptr o9 0) x7) fun H11 =>
  pureK (bop .plain .neq x8 (I 0)) fun x12 =>
  condK x12 (
   ACalls PP gΓ law19_alive [] H11 fun x13 H14 =>
   condK x13 (
    pureK (ld (some true) 5 H14 (.ptr o9 0)) fun x15 =>
    pureK (bld [(0, 1), (1, 2), (3, 1), (4, 1)] [.lst 0 [] .exact, .sc (.int .i64 0), .sc (.int .i64 0), .sc (.int .i64 0), .lst 0 [] .exact] []) fun x16 =>
    ACalls PP gΓ code_Same [x15, x16] H14 fun x17 H18 =>
    ret1 H18 R x17
   ) (
    ret1 H14 R (B false)
   )
  ) (
   pureK (ld (some true) 5 H11 (.ptr o9 0)) fun x19 =>
   ACalls PP gΓ code_Encode [x19] H11 fun x20 H21 =>
   pureK (extractE x20 0) fun x22 =>
   pureK (extractE x20 1) fun x23 =>
   pureK (lnl a0) fun x24 =>
   pureK (bop .plain .sub x24 (I 1)) fun x25 =>
   pureK (maxE [I 0, x25]) fun x26 =>
   pureK (sll 1 a0 none (some x26) none) fun x27 =>
   ACalls PP gΓ code_Decode [x27] H21 fun x28 H29 =>
   pureK (extractE x28 0) fun x30 =>
   pureK (extractE x28 1) fun x31 =>
   allocP [.lst 0 [] .exact, .sc (.int .i64 0), .sc (.int .i64 0), .sc (.int .i64 0), .lst 0 [] .exact] H29 fun o32 H33 =>
   heapK (st 5 H33 (.ptr o32 0) x30) fun H34 =>
   pureK (lnl a0) fun x35 =>
   pureK (lnl a0) fun x36 =>
   pureK (sll 1 a0 none (some x35) (some x36)) fun x37 =>
   pureK (bsl 1 (.sc (.int .u8 0)) 1 [(0, a1)]) fun x38 =>
   appK 1 x37 x38 H34 fun x39 H40 =>
   ACalls PP gΓ code_Decode [x39] H40 fun x41 H42 =>
   pureK (extractE x41 0) fun x43 =>
   pureK (extractE x41 1) fun x44 =>
   allocP [.lst 0 [] .exact, .sc (.int .i64 0), .sc (.int .i64 0), .sc (.int .i64 0), .lst 0 [] .exact] H42 fun o45 H46 =>
   heapK (st 5 H46 (.ptr o45 0) x43) fun H47 =>
   ACalls PP gΓ law19_alive [] H47 fun x48 H49 =>
   condK x48 (
    condK x23 (
     ACalls PP gΓ ref16_Same [x22, a0] H49 fun x50 H51 =>
     condK x50 (
      pureK (bop .plain .eql x31 (I 190)) fun x52 =>
      condK x52 (
       pureK (bop .plain .eql x44 (I 190)) fun x53 =>
       ret1 H51 R x53
      ) (
       ret1 H51 R (B false)
      )
     ) (
      ret1 H51 R (B false)
     )
    ) (
     ret1 H49 R (B false)
    )
   ) (
    ret1 H49 R (B false)
   )
  )
 )
theorem K_law19_CodeOnce (a0 a1 : AV) (H : Heap) (R : AV → Heap → Prop) : awp E_law19_CodeOnce (drawK E_law19_CodeOnce) C_law19_CodeOnce (fun j => List.getD [a0, a1] j .dead) H (retK PP Tryd.f4.results.toList R) = W_law19_CodeOnce a0 a1 H R := by kernel_rfl
theorem law19_CodeOnce_of {a0 a1 : AV} {H : Heap} {R : AV → Heap → Prop} (h : W_law19_CodeOnce a0 a1 H R) : ACalls PP gΓ law19_CodeOnce [a0, a1] H R :=
  ACalls.of_awp (E := E_law19_CodeOnce) follows_PP Tryd.func4 (c := C_law19_CodeOnce) (by kernel_rfl) Tryd.ntmps4 ((K_law19_CodeOnce a0 a1 H R) ▸ h)

noncomputable def L_law19_CodeSame : Nat → Option (List Nat) := fun k => none
noncomputable abbrev E_law19_CodeSame : Env := ⟨PP, gΓ, 68, L_law19_CodeSame, fun _ => false⟩
noncomputable def C_law19_CodeSame : Code := Tryd.f5.body.getD .skip
def W_law19_CodeSame (a0 a1 a2 : AV) (H : Heap) (R : AV → Heap → Prop) : Prop :=
 allocK (some (AV.cells a0)) H fun p1 H2 =>
 allocK (some (AV.cells a1)) H2 fun p3 H4 =>
 pureK (ld (some true) 5 H4 p1) fun x5 =>
 ACalls PP gΓ law19_few [x5] H4 fun x6 H7 =>
 pureK (unE .not x6) fun x8 =>
 condK x8 (
  ACalls PP gΓ law19_alive [] H7 fun x9 H10 =>
  ret1 H10 R x9
 ) (
  pureK (ld (some true) 5 H7 p3) fun x11 =>
  ACalls PP gΓ law19_few [x11] H7 fun x12 H13 =>
  pureK (unE .not x12) fun x14 =>
  condK x14 (
   ACalls PP gΓ law19_alive [] H13 fun x15 H16 =>
   ret1 H16 R x15
  ) (
   pureK (ld (some true) 5 H13 p1) fun x17 =>
   ACalls PP gΓ law19_New [x17] H13 fun x18 H19 =>
   ACalls PP gΓ code_Encode [x18] H19 fun x20 H21 =>
   pureK (extractE x20 0) fun x22 =>
   pureK (extractE x20 1) fun x23 =>
   pureK (ld (some true) 5 H21 p3) fun x24 =>
   ACalls PP gΓ law19_New [x24] H21 fun x25 H26 =>
   ACalls PP gΓ code_Encode [x25] H26 fun x27 H28 =>
   pureK (extractE x27 0) fun x29 =>
   pureK (extractE x27 1) fun x30 =>
   ∃ x31, AReads PP gΓ law19_alive [] H28 x31 ∧
   condK x31 (
    pureK (ld (some true) 5 H28 p1) fun x32 =>
    ∃ x33, AReads PP gΓ law19_New [x32] H28 x33 ∧
    pureK (ld (some true) 5 H28 p3) fun x34 =>
    ∃ x35, AReads PP gΓ law19_New [x34] H28 x35 ∧
    ∃ x36, AReads PP gΓ code_Same [x33, x35] H28 x36 ∧
    pureK (ld (some true) 5 H28 p1) fun x37 =>
    pureK (ld (some true) 5 H28 p3) fun x38 =>
    ∃ x39, AReads PP gΓ ref19_Same [x37, x38] H28 x39 ∧
    pureK (bop .bool .eql x36 x39) fun x40 =>
    condK x40 (
     ∃ x41, AReads PP gΓ code_Long [a2] H28 x41 ∧
     ∃ x42, AReads PP gΓ ref19_Long [a2] H28 x42 ∧
     pureK (bop .plain .eql x41 x42) fun x43 =>
     condK x43 (
      pureK (unE .not x23) fun x44 =>
      condK x44 (
       ret1 H28 R (B true)
      ) (
       pureK (unE .not x30) fun x45 =>
       condK x45 (
        ret1 H28 R (B true)
       ) (
        ∃ x46, AReads PP gΓ ref16_Same [x22, x29] H28 x46 ∧
        pureK (ld (some true) 5 H28 p1) fun x47 =>
        pureK (ld (some true) 5 H28 p3) fun x48 =>
        ACalls PP gΓ ref19_Same [x47, x48] H28 fun x49 H50 =>
        pureK (bop .bool .eql x46 x49) fun x51 =>
        ret1 H50 R x51
       )
      )
     ) (
      ret1 H28 R (B false)
     )
    ) (
     ret1 H28 R (B false)
    )
   ) (
    ret1 H28 R (B false)
   )
  )
 )
theorem K_law19_CodeSame (a0 a1 a2 : AV) (H : Heap) (R : AV → Heap → Prop) : awp E_law19_CodeSame (drawK E_law19_CodeSame) C_law19_CodeSame (fun j => List.getD [a0, a1, a2] j .dead) H (retK PP Tryd.f5.results.toList R) = W_law19_CodeSame a0 a1 a2 H R := by kernel_rfl
theorem law19_CodeSame_of {a0 a1 a2 : AV} {H : Heap} {R : AV → Heap → Prop} (h : W_law19_CodeSame a0 a1 a2 H R) : ACalls PP gΓ law19_CodeSame [a0, a1, a2] H R :=
  ACalls.of_awp (E := E_law19_CodeSame) follows_PP Tryd.func5 (c := C_law19_CodeSame) (by kernel_rfl) Tryd.ntmps5 ((K_law19_CodeSame a0 a1 a2 H R) ▸ h)

noncomputable def L_law19_few : Nat → Option (List Nat) := fun k => bif Nat.beq k 1003 then some [1, 3, 7, 8, 9] else none
noncomputable abbrev E_law19_few : Env := ⟨PP, gΓ, 38, L_law19_few, fun _ => false⟩
noncomputable def C_law19_few : Code := Tryd.f6.body.getD .skip
def W_law19_few (a0 : AV) (H : Heap) (R : AV → Heap → Prop) : Prop :=
 allocK (some (AV.cells a0)) H fun p1 H2 =>
 pureK (fa 4 p1) fun x3 =>
 pureK (ld (some false) 1 H2 x3) fun x4 =>
 pureK (lnl x4) fun x5 =>
 ∃ J6 : List AV → Heap → Nat → Prop, (∃ (n12 : Nat) (H13 : Heap), H13 ≤ H2 ∧ J6 [p1, I 0, x4, x5, I 0] H13 n12) ∧ ∀ (vs7 : List AV) (H8 : Heap) (n9 : Nat), J6 vs7 H8 n9 →
 pureK (bop .plain .lss (nth vs7 4) (nth vs7 3)) fun x14 =>
 condK x14 (
  pureK (ias 1 (nth vs7 2) (nth vs7 4)) fun x15 =>
  pureK (ld (some false) 1 H8 x15) fun x16 =>
  pureK (lns x16) fun x17 =>
  pureK (bop .plain .add (nth vs7 1) x17) fun x18 =>
  pureK (bop .plain .add (nth vs7 4) (I 1)) fun x19 =>
  (∃ (n10 : Nat) (H11 : Heap), n10 < n9 ∧ H11 ≤ H8 ∧ J6 [nth vs7 0, x18, nth vs7 2, nth vs7 3, x19] H11 n10)
 ) (
  pureK (fa 0 (nth vs7 0)) fun x20 =>
  pureK (ld (some false) 1 H8 x20) fun x21 =>
  pureK (lnl x21) fun x22 =>
  pureK (bop .plain .leq x22 (I 100)) fun x23 =>
  condK x23 (
   pureK (fa 0 (nth vs7 0)) fun x24 =>
   pureK (ld (some false) 1 H8 x24) fun x25 =>
   ACalls PP gΓ ref03_Depth [x25] H8 fun x26 H27 =>
   pureK (bop .plain .leq x26 (I 24)) fun x28 =>
   condK x28 (
    pureK (fa 4 (nth vs7 0)) fun x29 =>
    pureK (ld (some false) 1 H27 x29) fun x30 =>
    pureK (lnl x30) fun x31 =>
    pureK (bop .plain .leq x31 (I 70)) fun x32 =>
    condK x32 (
     pureK (bop .plain .leq (nth vs7 1) (I 1000)) fun x33 =>
     ret1 H27 R x33
    ) (
     ret1 H27 R (B false)
    )
   ) (
    ret1 H27 R (B false)
   )
  ) (
   ret1 H8 R (B false)
  )
 )
theorem K_law19_few (a0 : AV) (H : Heap) (R : AV → Heap → Prop) : awp E_law19_few (drawK E_law19_few) C_law19_few (fun j => List.getD [a0] j .dead) H (retK PP Tryd.f6.results.toList R) = W_law19_few a0 H R := by kernel_rfl
theorem law19_few_of {a0 : AV} {H : Heap} {R : AV → Heap → Prop} (h : W_law19_few a0 H R) : ACalls PP gΓ law19_few [a0] H R :=
  ACalls.of_awp (E := E_law19_few) follows_PP Tryd.func6 (c := C_law19_few) (by kernel_rfl) Tryd.ntmps6 ((K_law19_few a0 H R) ▸ h)

noncomputable def L_law19_alive : Nat → Option (List Nat) := fun k => none
noncomputable abbrev E_law19_alive : Env := ⟨PP, gΓ, 74, L_law19_alive, fun _ => false⟩
noncomputable def C_law19_alive : Code := Tryd.f7.body.getD .skip
def W_law19_alive (H : Heap) (R : AV → Heap → Prop) : Prop :=
 pureK (bld [(0, 1), (1, 1), (2, 1)] [.sc (.int .i64 0), S emp, .sc (.int .i64 0)] [(0, I 1), (1, S s_ab)]) fun x1 =>
 pureK (bsl 3 (.agg [.sc (.int .i64 0), S emp, .sc (.int .i64 0)]) 1 [(0, x1)]) fun x2 =>
 pureK (bld [(0, 1), (1, 1)] [.sc (.int .i64 0), .sc (.int .i64 0)] [(1, I 1)]) fun x3 =>
 pureK (bsl 1 (S emp) 1 [(0, S s_c)]) fun x4 =>
 pureK (bld [(0, 1), (1, 2), (3, 1), (4, 1)] [.lst 0 [] .exact, .sc (.int .i64 0), .sc (.int .i64 0), .sc (.int .i64 0), .lst 0 [] .exact] [(0, x2), (1, x3), (2, I 1), (3, x4)]) fun x5 =>
 allocP [.lst 0 [] .exact, .sc (.int .i64 0), .sc (.int .i64 0), .sc (.int .i64 0), .lst 0 [] .exact] H fun o6 H7 =>
 heapK (st 5 H7 (.ptr o6 0) x5) fun H8 =>
 pureK (ld (some true) 5 H8 (.ptr o6 0)) fun x9 =>
 ACalls PP gΓ code_Encode [x9] H8 fun x10 H11 =>
 pureK (extractE x10 0) fun x12 =>
 pureK (extractE x10 1) fun x13 =>
 ACalls PP gΓ code_Decode [x12] H11 fun x14 H15 =>
 pureK (extractE x14 0) fun x16 =>
 pureK (extractE x14 1) fun x17 =>
 allocP [.lst 0 [] .exact, .sc (.int .i64 0), .sc (.int .i64 0), .sc (.int .i64 0), .lst 0 [] .exact] H15 fun o18 H19 =>
 heapK (st 5 H19 (.ptr o18 0) x16) fun H20 =>
 pureK (bld [(0, 1), (1, 2), (3, 1), (4, 1)] [.lst 0 [] .exact, .sc (.int .i64 0), .sc (.int .i64 0), .sc (.int .i64 0), .lst 0 [] .exact] []) fun x21 =>
 ACalls PP gΓ code_Encode [x21] H20 fun x22 H23 =>
 pureK (extractE x22 0) fun x24 =>
 pureK (extractE x22 1) fun x25 =>
 pureK (bsl 1 (.sc (.int .u8 0)) 1 [(0, .sc (.int .u8 0))]) fun x26 =>
 appK 1 x12 x26 H23 fun x27 H28 =>
 ACalls PP gΓ code_Decode [x27] H28 fun x29 H30 =>
 pureK (extractE x29 0) fun x31 =>
 pureK (extractE x29 1) fun x32 =>
 allocP [.lst 0 [] .exact, .sc (.int .i64 0), .sc (.int .i64 0), .sc (.int .i64 0), .lst 0 [] .exact] H30 fun o33 H34 =>
 heapK (st 5 H34 (.ptr o33 0) x31) fun H35 =>
 pureK (bsl 1 (.sc (.int .u8 0)) 11 [(0, .sc (.int .u8 1)), (1, .sc (.int .u8 1)), (2, .sc (.int .u8 2)), (3, .sc (.int .u8 97)), (4, .sc (.int .u8 98)), (5, .sc (.int .u8 0)), (6, .sc (.int .u8 1)), (7, .sc (.int .u8 1)), (8, .sc (.int .u8 1)), (9, .sc (.int .u8 1)), (10, .sc (.int .u8 99))]) fun x36 =>
 ACalls PP gΓ ref16_Same [x12, x36] H35 fun x37 H38 =>
 condK x37 (
  condK x13 (
   pureK (ld (some true) 5 H38 (.ptr o6 0)) fun x39 =>
   pureK (ld (some true) 5 H38 (.ptr o18 0)) fun x40 =>
   ACalls PP gΓ code_Same [x39, x40] H38 fun x41 H42 =>
   condK x41 (
    pureK (bop .plain .eql x17 (I 0)) fun x43 =>
    condK x43 (
     pureK (unE .not x25) fun x44 =>
     condK x44 (
      pureK (bop .plain .eql x32 (I 190)) fun x45 =>
      condK x45 (
       pureK (ld (some true) 5 H42 (.ptr o6 0)) fun x46 =>
       ACalls PP gΓ code_Right [x46] H42 fun x47 H48 =>
       condK x47 (
        ACalls PP gΓ code_Long [I 2] H48 fun x49 H50 =>
        pureK (bop .plain .eql x49 (I 43)) fun x51 =>
        condK x51 (
         pureK (ld (some true) 5 H50 (.ptr o6 0)) fun x52 =>
         pureK (bld [(0, 1), (1, 2), (3, 1), (4, 1)] [.lst 0 [] .exact, .sc (.int .i64 0), .sc (.int .i64 0), .sc (.int .i64 0), .lst 0 [] .exact] []) fun x53 =>
         ACalls PP gΓ code_Same [x52, x53] H50 fun x54 H55 =>
         pureK (unE .not x54) fun x56 =>
         ret1 H55 R x56
        ) (
         ret1 H50 R (B false)
        )
       ) (
        ret1 H48 R (B false)
       )
      ) (
       ret1 H42 R (B false)
      )
     ) (
      ret1 H42 R (B false)
     )
    ) (
     ret1 H42 R (B false)
    )
   ) (
    ret1 H42 R (B false)
   )
  ) (
   ret1 H38 R (B false)
  )
 ) (
  ret1 H38 R (B false)
 )
theorem K_law19_alive (H : Heap) (R : AV → Heap → Prop) : awp E_law19_alive (drawK E_law19_alive) C_law19_alive (fun j => List.getD [] j .dead) H (retK PP Tryd.f7.results.toList R) = W_law19_alive  H R := by kernel_rfl
theorem law19_alive_of {H : Heap} {R : AV → Heap → Prop} (h : W_law19_alive  H R) : ACalls PP gΓ law19_alive [] H R :=
  ACalls.of_awp (E := E_law19_alive) follows_PP Tryd.func7 (c := C_law19_alive) (by kernel_rfl) Tryd.ntmps7 ((K_law19_alive  H R) ▸ h)

noncomputable def L_code_Encode : Nat → Option (List Nat) := fun k => bif Nat.beq k 1005 then some [1, 4, 18, 19, 20] else bif Nat.beq k 1017 then some [4, 67, 68, 69] else none
noncomputable abbrev E_code_Encode : Env := ⟨PP, gΓ, 78, L_code_Encode, fun _ => false⟩
noncomputable def C_code_Encode : Code := Tryd.f8.body.getD .skip
def W_code_Encode (a0 : AV) (H : Heap) (R : AV → Heap → Prop) : Prop :=
 allocK (some (AV.cells a0)) H fun p1 H2 =>
 pureK (ld (some true) 5 H2 p1) fun x3 =>
 ACalls PP gΓ code_Right [x3] H2 fun x4 H5 =>
 pureK (unE .not x4) fun x6 =>
 condK x6 (
  ret1 H5 R (.tup [.lst 0 [] .exact, B false])
 ) (
  pureK (fa 0 p1) fun x7 =>
  pureK (ld (some false) 1 H5 x7) fun x8 =>
  pureK (lnl x8) fun x9 =>
  pureK (cv (.toInt .u8) x9) fun x10 =>
  pureK (bsl 1 (.sc (.int .u8 0)) 1 [(0, x10)]) fun x11 =>
  pureK (fa 0 p1) fun x12 =>
  pureK (ld (some false) 1 H5 x12) fun x13 =>
  pureK (lnl x13) fun x14 =>
  ∃ J15 : List AV → Heap → Nat → Prop, (∃ (n21 : Nat) (H22 : Heap), H22 ≤ H5 ∧ J15 [p1, x11, x13, x14, I 0] H22 n21) ∧ ∀ (vs16 : List AV) (H17 : Heap) (n18 : Nat), J15 vs16 H17 n18 →
  pureK (bop .plain .lss (nth vs16 4) (nth vs16 3)) fun x23 =>
  condK x23 (
   pureK (ias 3 (nth vs16 2) (nth vs16 4)) fun x24 =>
   pureK (ld (some true) 3 H17 x24) fun x25 =>
   allocP [.sc (.int .i64 0), S emp, .sc (.int .i64 0)] H17 fun o26 H27 =>
   heapK (st 3 H27 (.ptr o26 0) x25) fun H28 =>
   pureK (fa 0 (.ptr o26 0)) fun x29 =>
   pureK (ld (some false) 1 H28 x29) fun x30 =>
   pureK (cv (.toInt .u8) x30) fun x31 =>
   pureK (bsl 1 (.sc (.int .u8 0)) 1 [(0, x31)]) fun x32 =>
   appK 1 (nth vs16 1) x32 H28 fun x33 H34 =>
   pureK (fa 0 (.ptr o26 0)) fun x35 =>
   pureK (ld (some false) 1 H34 x35) fun x36 =>
   pureK (bop .plain .eql x36 (I 1)) fun x37 =>
   condK x37 (
    pureK (fa 1 (.ptr o26 0)) fun x38 =>
    pureK (ld (some false) 1 H34 x38) fun x39 =>
    ACalls PP gΓ code_named [x33, x39] H34 fun x40 H41 =>
    pureK (bop .plain .add (nth vs16 4) (I 1)) fun x42 =>
    (∃ (n19 : Nat) (H20 : Heap), n19 < n18 ∧ H20 ≤ H41 ∧ J15 [nth vs16 0, x40, nth vs16 2, nth vs16 3, x42] H20 n19)
   ) (
    pureK (bop .plain .eql x36 (I 11)) fun x43 =>
    condK x43 (
     pureK (fa 2 (.ptr o26 0)) fun x44 =>
     pureK (ld (some false) 1 H34 x44) fun x45 =>
     pureK (cv (.toInt .u8) x45) fun x46 =>
     pureK (bsl 1 (.sc (.int .u8 0)) 1 [(0, x46)]) fun x47 =>
     appK 1 x33 x47 H34 fun x48 H49 =>
     pureK (bop .plain .add (nth vs16 4) (I 1)) fun x50 =>
     (∃ (n19 : Nat) (H20 : Heap), n19 < n18 ∧ H20 ≤ H49 ∧ J15 [nth vs16 0, x48, nth vs16 2, nth vs16 3, x50] H20 n19)
    ) (
     pureK (bop .plain .eql x36 (I 14)) fun x51 =>
     condK x51 (
      pureK (fa 2 (.ptr o26 0)) fun x52 =>
      pureK (ld (some false) 1 H34 x52) fun x53 =>
      pureK (cv (.toInt .u8) x53) fun x54 =>
      pureK (bsl 1 (.sc (.int .u8 0)) 1 [(0, x54)]) fun x55 =>
      appK 1 x33 x55 H34 fun x56 H57 =>
      pureK (bop .plain .add (nth vs16 4) (I 1)) fun x58 =>
      (∃ (n19 : Nat) (H20 : Heap), n19 < n18 ∧ H20 ≤ H57 ∧ J15 [nth vs16 0, x56, nth vs16 2, nth vs16 3, x58] H20 n19)
     ) (
      pureK (bop .plain .add (nth vs16 4) (I 1)) fun x59 =>
      (∃ (n19 : Nat) (H20 : Heap), n19 < n18 ∧ H20 ≤ H34 ∧ J15 [nth vs16 0, x33, nth vs16 2, nth vs16 3, x59] H20 n19)
     )
    )
   )
  ) (
   pureK (fa 1 (nth vs16 0)) fun x60 =>
   pureK (fa 0 x60) fun x61 =>
   pureK (ld (some false) 1 H17 x61) fun x62 =>
   pureK (cv (.toInt .u8) x62) fun x63 =>
   pureK (fa 1 (nth vs16 0)) fun x64 =>
   pureK (fa 1 x64) fun x65 =>
   pureK (ld (some false) 1 H17 x65) fun x66 =>
   pureK (cv (.toInt .u8) x66) fun x67 =>
   pureK (fa 3 (nth vs16 0)) fun x68 =>
   pureK (ld (some false) 1 H17 x68) fun x69 =>
   pureK (cv (.toInt .u8) x69) fun x70 =>
   pureK (fa 4 (nth vs16 0)) fun x71 =>
   pureK (ld (some false) 1 H17 x71) fun x72 =>
   pureK (lnl x72) fun x73 =>
   pureK (cv (.toInt .u8) x73) fun x74 =>
   pureK (bsl 1 (.sc (.int .u8 0)) 4 [(0, x63), (1, x67), (2, x70), (3, x74)]) fun x75 =>
   appK 1 (nth vs16 1) x75 H17 fun x76 H77 =>
   pureK (fa 4 (nth vs16 0)) fun x78 =>
   pureK (ld (some false) 1 H77 x78) fun x79 =>
   pureK (lnl x79) fun x80 =>
   ∃ J81 : List AV → Heap → Nat → Prop, (∃ (n87 : Nat) (H88 : Heap), H88 ≤ H77 ∧ J81 [x76, x79, x80, I 0] H88 n87) ∧ ∀ (vs82 : List AV) (H83 : Heap) (n84 : Nat), J81 vs82 H83 n84 →
   pureK (bop .plain .lss (nth vs82 3) (nth vs82 2)) fun x89 =>
   condK x89 (
    pureK (ias 1 (nth vs82 1) (nth vs82 3)) fun x90 =>
    pureK (ld (some false) 1 H83 x90) fun x91 =>
    ACalls PP gΓ code_named [nth vs82 0, x91] H83 fun x92 H93 =>
    pureK (bop .plain .add (nth vs82 3) (I 1)) fun x94 =>
    (∃ (n85 : Nat) (H86 : Heap), n85 < n84 ∧ H86 ≤ H93 ∧ J81 [x92, nth vs82 1, nth vs82 2, x94] H86 n85)
   ) (
    ret1 H83 R (.tup [nth vs82 0, B true])
   )
  )
 )
theorem K_code_Encode (a0 : AV) (H : Heap) (R : AV → Heap → Prop) : awp E_code_Encode (drawK E_code_Encode) C_code_Encode (fun j => List.getD [a0] j .dead) H (retK PP Tryd.f8.results.toList R) = W_code_Encode a0 H R := by kernel_rfl
theorem code_Encode_of {a0 : AV} {H : Heap} {R : AV → Heap → Prop} (h : W_code_Encode a0 H R) : ACalls PP gΓ code_Encode [a0] H R :=
  ACalls.of_awp (E := E_code_Encode) follows_PP Tryd.func8 (c := C_code_Encode) (by kernel_rfl) Tryd.ntmps8 ((K_code_Encode a0 H R) ▸ h)

noncomputable def L_law19_New : Nat → Option (List Nat) := fun k => none
noncomputable abbrev E_law19_New : Env := ⟨PP, gΓ, 4, L_law19_New, fun _ => false⟩
noncomputable def C_law19_New : Code := Tryd.f9.body.getD .skip
def W_law19_New (a0 : AV) (H : Heap) (R : AV → Heap → Prop) : Prop :=
 allocK (some (AV.cells a0)) H fun p1 H2 =>
 allocP [.lst 0 [] .exact, .sc (.int .i64 0), .sc (.int .i64 0), .sc (.int .i64 0), .lst 0 [] .exact] H2 fun o3 H4 =>
 pureK (ld (some true) 5 H4 p1) fun x5 =>
 heapK (st 5 H4 (.ptr o3 0) x5) fun H6 =>
 pureK (ld (some true) 5 H6 (.ptr o3 0)) fun x7 =>
 ret1 H6 R x7
theorem K_law19_New (a0 : AV) (H : Heap) (R : AV → Heap → Prop) : awp E_law19_New (drawK E_law19_New) C_law19_New (fun j => List.getD [a0] j .dead) H (retK PP Tryd.f9.results.toList R) = W_law19_New a0 H R := by kernel_rfl
theorem law19_New_of {a0 : AV} {H : Heap} {R : AV → Heap → Prop} (h : W_law19_New a0 H R) : ACalls PP gΓ law19_New [a0] H R :=
  ACalls.of_awp (E := E_law19_New) follows_PP Tryd.func9 (c := C_law19_New) (by kernel_rfl) Tryd.ntmps9 ((K_law19_New a0 H R) ▸ h)

noncomputable def L_code_Decode : Nat → Option (List Nat) := fun k => bif Nat.beq k 15 then some [0, 2, 4, 5, 6] else bif Nat.beq k 1005 then some [0, 2, 4, 5, 6, 7] else bif Nat.beq k 14 then some [0, 2, 4, 5, 6, 7, 8] else bif Nat.beq k 22 then some [0, 2, 4, 6] else bif Nat.beq k 1019 then some [0, 2, 4, 6, 9] else none
noncomputable abbrev E_code_Decode : Env := ⟨PP, gΓ, 104, L_code_Decode, fun f => Nat.beq f code_reader_name⟩
noncomputable def C_code_Decode : Code := Tryd.f10.body.getD .skip
def W_code_Decode (a0 : AV) (H : Heap) (R : AV → Heap → Prop) : Prop :=
 allocP [.lst 0 [] .exact, .sc (.int .i64 0), .sc (.int .i64 0), .sc (.int .i64 0), .lst 0 [] .exact] H fun o1 H2 =>
 pureK (bld [(0, 1), (1, 1)] [.lst 0 [] .exact, B false] [(0, a0)]) fun x3 =>
 allocK (some (AV.cells x3)) H2 fun p4 H5 =>
 allocP [.lst 0 [] .exact, .sc (.int .i64 0), .sc (.int .i64 0), .sc (.int .i64 0), .lst 0 [] .exact] H5 fun o6 H7 =>
 ∃ J8 : List AV → Heap → Prop, (
  callK (E_code_Decode) (.fn (.func code_reader_next) [p4] []) [] H7 fun x12 H13 =>
  ∃ J14 : List AV → Heap → Nat → Prop, (∃ (n20 : Nat) (H21 : Heap), H21 ≤ H13 ∧ J14 [a0, .ptr o1 0, p4, .fn (.func code_reader_next) [p4] [], .ptr o6 0, x12] H21 n20) ∧ ∀ (vs15 : List AV) (H16 : Heap) (n17 : Nat), J14 vs15 H16 n17 →
  pureK (bop .plain .gtr (nth vs15 5) (I 0)) fun x22 =>
  condK x22 (
   pureK (nilE (nth vs15 2)) fun x23 =>
   pureK (fa 1 x23) fun x24 =>
   pureK (ld (some false) 1 H16 x24) fun x25 =>
   pureK (unE .not x25) fun x26 =>
   condK x26 (
    callK (E_code_Decode) (nth vs15 3) [] H16 fun x27 H28 =>
    pureK (bld [(0, 1), (1, 1), (2, 1)] [.sc (.int .i64 0), S emp, .sc (.int .i64 0)] [(0, x27)]) fun x29 =>
    allocP [.sc (.int .i64 0), S emp, .sc (.int .i64 0)] H28 fun o30 H31 =>
    heapK (st 3 H31 (.ptr o30 0) x29) fun H32 =>
    ∃ J33 : List AV → Heap → Prop, (
     pureK (fa 0 (.ptr o30 0)) fun x37 =>
     pureK (ld (some false) 1 H32 x37) fun x38 =>
     pureK (bop .plain .eql x38 (I 1)) fun x39 =>
     condK x39 (
      ACalls PP gΓ code_reader_name [nth vs15 2] H32 fun x40 H41 =>
      pureK (fa 1 (.ptr o30 0)) fun x42 =>
      heapK (st 1 H41 x42 x40) fun H43 =>
      (∃ H36 : Heap, H36 ≤ H43 ∧ J33 [nth vs15 0, nth vs15 1, nth vs15 2, nth vs15 3, nth vs15 4, nth vs15 5, .ptr o30 0] H36)
     ) (
      pureK (bop .plain .eql x38 (I 11)) fun x44 =>
      condK x44 (
       callK (E_code_Decode) (nth vs15 3) [] H32 fun x45 H46 =>
       pureK (fa 2 (.ptr o30 0)) fun x47 =>
       heapK (st 1 H46 x47 x45) fun H48 =>
       (∃ H36 : Heap, H36 ≤ H48 ∧ J33 [nth vs15 0, nth vs15 1, nth vs15 2, nth vs15 3, nth vs15 4, nth vs15 5, .ptr o30 0] H36)
      ) (
       pureK (bop .plain .eql x38 (I 14)) fun x49 =>
       condK x49 (
        callK (E_code_Decode) (nth vs15 3) [] H32 fun x50 H51 =>
        pureK (fa 2 (.ptr o30 0)) fun x52 =>
        heapK (st 1 H51 x52 x50) fun H53 =>
        (∃ H36 : Heap, H36 ≤ H53 ∧ J33 [nth vs15 0, nth vs15 1, nth vs15 2, nth vs15 3, nth vs15 4, nth vs15 5, .ptr o30 0] H36)
       ) (
        (∃ H36 : Heap, H36 ≤ H32 ∧ J33 [nth vs15 0, nth vs15 1, nth vs15 2, nth vs15 3, nth vs15 4, nth vs15 5, .ptr o30 0] H36)
       )
      )
     )
    ) ∧ ∀ vs34 H35, J33 vs34 H35 →
    pureK (fa 0 (nth vs34 4)) fun x54 =>
    pureK (ld (some false) 1 H35 x54) fun x55 =>
    pureK (ld (some true) 3 H35 (nth vs34 6)) fun x56 =>
    pureK (bsl 3 (.agg [.sc (.int .i64 0), S emp, .sc (.int .i64 0)]) 1 [(0, x56)]) fun x57 =>
    appK 3 x55 x57 H35 fun x58 H59 =>
    pureK (fa 0 (nth vs34 4)) fun x60 =>
    heapK (st 1 H59 x60 x58) fun H61 =>
    pureK (bop .plain .sub (nth vs34 5) (I 1)) fun x62 =>
    (∃ (n18 : Nat) (H19 : Heap), n18 < n17 ∧ H19 ≤ H61 ∧ J14 [nth vs34 0, nth vs34 1, nth vs34 2, nth vs34 3, nth vs34 4, x62] H19 n18)
   ) (
    (∃ H11 : Heap, H11 ≤ H16 ∧ J8 [nth vs15 0, nth vs15 1, nth vs15 2, nth vs15 3, nth vs15 4] H11)
   )
  ) (
   (∃ H11 : Heap, H11 ≤ H16 ∧ J8 [nth vs15 0, nth vs15 1, nth vs15 2, nth vs15 3, nth vs15 4] H11)
  )
 ) ∧ ∀ vs9 H10, J8 vs9 H10 →
 callK (E_code_Decode) (nth vs9 3) [] H10 fun x63 H64 =>
 pureK (fa 1 (nth vs9 4)) fun x65 =>
 pureK (fa 0 x65) fun x66 =>
 heapK (st 1 H64 x66 x63) fun H67 =>
 callK (E_code_Decode) (nth vs9 3) [] H67 fun x68 H69 =>
 pureK (fa 1 (nth vs9 4)) fun x70 =>
 pureK (fa 1 x70) fun x71 =>
 heapK (st 1 H69 x71 x68) fun H72 =>
 callK (E_code_Decode) (nth vs9 3) [] H72 fun x73 H74 =>
 pureK (fa 3 (nth vs9 4)) fun x75 =>
 heapK (st 1 H74 x75 x73) fun H76 =>
 ∃ J77 : List AV → Heap → Prop, (
  callK (E_code_Decode) (nth vs9 3) [] H76 fun x81 H82 =>
  ∃ J83 : List AV → Heap → Nat → Prop, (∃ (n89 : Nat) (H90 : Heap), H90 ≤ H82 ∧ J83 [nth vs9 0, nth vs9 1, nth vs9 2, nth vs9 4, x81] H90 n89) ∧ ∀ (vs84 : List AV) (H85 : Heap) (n86 : Nat), J83 vs84 H85 n86 →
  pureK (bop .plain .gtr (nth vs84 4) (I 0)) fun x91 =>
  condK x91 (
   pureK (nilE (nth vs84 2)) fun x92 =>
   pureK (fa 1 x92) fun x93 =>
   pureK (ld (some false) 1 H85 x93) fun x94 =>
   pureK (unE .not x94) fun x95 =>
   condK x95 (
    ∃ fp96 : Option Nat, (∀ p, fp96 = some p → H85 p ≠ none) ∧
    pureK (fa 4 (nth vs84 3)) fun x97 =>
    pureK (ld (some false) 1 (rem H85 fp96) x97) fun x98 =>
    ∃ φ99 v100, AMakes PP gΓ code_reader_name [nth vs84 2] H85 fp96 φ99 ∧ MkVal φ99 v100 ∧
    pureK (bsl 1 (S emp) 1 [(0, v100)]) fun x101 =>
    ∀ rf102 ob103, φ99 rf102 ob103 → madeK fp96 H85 rf102 ob103 fun x104 H105 =>
    appK 1 x98 x101 H105 fun x106 H107 =>
    pureK (fa 4 (nth vs84 3)) fun x108 =>
    heapK (st 1 H107 x108 x106) fun H109 =>
    pureK (bop .plain .sub (nth vs84 4) (I 1)) fun x110 =>
    (∃ (n87 : Nat) (H88 : Heap), n87 < n86 ∧ H88 ≤ H109 ∧ J83 [nth vs84 0, nth vs84 1, nth vs84 2, nth vs84 3, x110] H88 n87)
   ) (
    (∃ H80 : Heap, H80 ≤ H85 ∧ J77 [nth vs84 0, nth vs84 1, nth vs84 2, nth vs84 3] H80)
   )
  ) (
   (∃ H80 : Heap, H80 ≤ H85 ∧ J77 [nth vs84 0, nth vs84 1, nth vs84 2, nth vs84 3] H80)
  )
 ) ∧ ∀ vs78 H79, J77 vs78 H79 →
 pureK (ld (some true) 5 H79 (nth vs78 3)) fun x111 =>
 ACalls PP gΓ code_Encode [x111] H79 fun x112 H113 =>
 pureK (extractE x112 0) fun x114 =>
 pureK (extractE x112 1) fun x115 =>
 pureK (unE .not x115) fun x116 =>
 condK x116 (
  pureK (bld [(0, 1), (1, 2), (3, 1), (4, 1)] [.lst 0 [] .exact, .sc (.int .i64 0), .sc (.int .i64 0), .sc (.int .i64 0), .lst 0 [] .exact] []) fun x117 =>
  heapK (st 5 H113 (nth vs78 1) x117) fun H118 =>
  pureK (ld (some true) 5 H118 (nth vs78 1)) fun x119 =>
  ret1 H118 R (.tup [x119, I 190])
 ) (
  pureK (nilE (nth vs78 2)) fun x120 =>
  pureK (fa 1 x120) fun x121 =>
  pureK (ld (some false) 1 H113 x121) fun x122 =>
  condK x122 (
   pureK (bld [(0, 1), (1, 2), (3, 1), (4, 1)] [.lst 0 [] .exact, .sc (.int .i64 0), .sc (.int .i64 0), .sc (.int .i64 0), .lst 0 [] .exact] []) fun x123 =>
   heapK (st 5 H113 (nth vs78 1) x123) fun H124 =>
   pureK (ld (some true) 5 H124 (nth vs78 1)) fun x125 =>
   ret1 H124 R (.tup [x125, I 190])
  ) (
   ACalls PP gΓ bytes_Equal [x114, nth vs78 0] H113 fun x126 H127 =>
   pureK (unE .not x126) fun x128 =>
   condK x128 (
    pureK (bld [(0, 1), (1, 2), (3, 1), (4, 1)] [.lst 0 [] .exact, .sc (.int .i64 0), .sc (.int .i64 0), .sc (.int .i64 0), .lst 0 [] .exact] []) fun x129 =>
    heapK (st 5 H127 (nth vs78 1) x129) fun H130 =>
    pureK (ld (some true) 5 H130 (nth vs78 1)) fun x131 =>
    ret1 H130 R (.tup [x131, I 190])
   ) (
    pureK (ld (some true) 5 H127 (nth vs78 3)) fun x132 =>
    heapK (st 5 H127 (nth vs78 1) x132) fun H133 =>
    pureK (ld (some true) 5 H133 (nth vs78 1)) fun x134 =>
    ret1 H133 R (.tup [x134, I 0])
   )
  )
 )
theorem K_code_Decode (a0 : AV) (H : Heap) (R : AV → Heap → Prop) : awp E_code_Decode (drawK E_code_Decode) C_code_Decode (fun j => List.getD [a0] j .dead) H (retK PP Tryd.f10.results.toList R) = W_code_Decode a0 H R := by kernel_rfl
theorem code_Decode_of {a0 : AV} {H : Heap} {R : AV → Heap → Prop} (h : W_code_Decode a0 H R) : ACalls PP gΓ code_Decode [a0] H R :=
  ACalls.of_awp (E := E_code_Decode) follows_PP Tryd.func10 (c := C_code_Decode) (by kernel_rfl) Tryd.ntmps10 ((K_code_Decode a0 H R) ▸ h)

noncomputable def L_ref19_Same : Nat → Option (List Nat) := fun k => none
noncomputable abbrev E_ref19_Same : Env := ⟨PP, gΓ, 31, L_ref19_Same, fun _ => false⟩
noncomputable def C_ref19_Same : Code := Tryd.f11.body.getD .skip
def W_ref19_Same (a0 a1 : AV) (H : Heap) (R : AV → Heap → Prop) : Prop :=
 allocK (some (AV.cells a0)) H fun p1 H2 =>
 allocK (some (AV.cells a1)) H2 fun p3 H4 =>
 pureK (fa 0 p1) fun x5 =>
 pureK (ld (some false) 1 H4 x5) fun x6 =>
 pureK (fa 0 p3) fun x7 =>
 pureK (ld (some false) 1 H4 x7) fun x8 =>
 ACalls PP gΓ ref03_Same [x6, x8] H4 fun x9 H10 =>
 condK x9 (
  pureK (fa 1 p1) fun x11 =>
  pureK (ld (some true) 2 H10 x11) fun x12 =>
  pureK (fa 1 p3) fun x13 =>
  pureK (ld (some true) 2 H10 x13) fun x14 =>
  pureK (bop (.flat [.int, .int]) .eql x12 x14) fun x15 =>
  condK x15 (
   pureK (fa 3 p1) fun x16 =>
   pureK (ld (some false) 1 H10 x16) fun x17 =>
   pureK (fa 3 p3) fun x18 =>
   pureK (ld (some false) 1 H10 x18) fun x19 =>
   pureK (bop .plain .eql x17 x19) fun x20 =>
   condK x20 (
    pureK (fa 4 p1) fun x21 =>
    pureK (ld (some false) 1 H10 x21) fun x22 =>
    pureK (fa 4 p3) fun x23 =>
    pureK (ld (some false) 1 H10 x23) fun x24 =>
    ACalls PP gΓ ref04_Texts [x22, x24] H10 fun x25 H26 =>
    ret1 H26 R x25
   ) (
    ret1 H10 R (B false)
   )
  ) (
   ret1 H10 R (B false)
  )
 ) (
  ret1 H10 R (B false)
 )
theorem K_ref19_Same (a0 a1 : AV) (H : Heap) (R : AV → Heap → Prop) : awp E_ref19_Same (drawK E_ref19_Same) C_ref19_Same (fun j => List.getD [a0, a1] j .dead) H (retK PP Tryd.f11.results.toList R) = W_ref19_Same a0 a1 H R := by kernel_rfl
theorem ref19_Same_of {a0 a1 : AV} {H : Heap} {R : AV → Heap → Prop} (h : W_ref19_Same a0 a1 H R) : ACalls PP gΓ ref19_Same [a0, a1] H R :=
  ACalls.of_awp (E := E_ref19_Same) follows_PP Tryd.func11 (c := C_ref19_Same) (by kernel_rfl) Tryd.ntmps11 ((K_ref19_Same a0 a1 H R) ▸ h)

noncomputable def L_law19_Old : Nat → Option (List Nat) := fun k => none
noncomputable abbrev E_law19_Old : Env := ⟨PP, gΓ, 4, L_law19_Old, fun _ => false⟩
noncomputable def C_law19_Old : Code := Tryd.f12.body.getD .skip
def W_law19_Old (a0 : AV) (H : Heap) (R : AV → Heap → Prop) : Prop :=
 allocK (some (AV.cells a0)) H fun p1 H2 =>
 allocP [.lst 0 [] .exact, .sc (.int .i64 0), .sc (.int .i64 0), .sc (.int .i64 0), .lst 0 [] .exact] H2 fun o3 H4 =>
 pureK (ld (some true) 5 H4 p1) fun x5 =>
 heapK (st 5 H4 (.ptr o3 0) x5) fun H6 =>
 pureK (ld (some true) 5 H6 (.ptr o3 0)) fun x7 =>
 ret1 H6 R x7
theorem K_law19_Old (a0 : AV) (H : Heap) (R : AV → Heap → Prop) : awp E_law19_Old (drawK E_law19_Old) C_law19_Old (fun j => List.getD [a0] j .dead) H (retK PP Tryd.f12.results.toList R) = W_law19_Old a0 H R := by kernel_rfl
theorem law19_Old_of {a0 : AV} {H : Heap} {R : AV → Heap → Prop} (h : W_law19_Old a0 H R) : ACalls PP gΓ law19_Old [a0] H R :=
  ACalls.of_awp (E := E_law19_Old) follows_PP Tryd.func12 (c := C_law19_Old) (by kernel_rfl) Tryd.ntmps12 ((K_law19_Old a0 H R) ▸ h)

noncomputable def L_code_Long : Nat → Option (List Nat) := fun k => none
noncomputable abbrev E_code_Long : Env := ⟨PP, gΓ, 12, L_code_Long, fun _ => false⟩
noncomputable def C_code_Long : Code := Tryd.f13.body.getD .skip
def W_code_Long (a0 : AV) (H : Heap) (R : AV → Heap → Prop) : Prop :=
 pureK (bop .plain .lss a0 (I 0)) fun x1 =>
 condK x1 (
  ret1 H R (I 0)
 ) (
  pureK (bop .plain .gtr a0 (I 60)) fun x2 =>
  condK x2 (
   ret1 H R (I 0)
  ) (
   pureK (bop .plain .mul (I 19) a0) fun x3 =>
   pureK (bop .plain .add (I 5) x3) fun x4 =>
   ret1 H R x4
  )
 )
theorem K_code_Long (a0 : AV) (H : Heap) (R : AV → Heap → Prop) : awp E_code_Long (drawK E_code_Long) C_code_Long (fun j => List.getD [a0] j .dead) H (retK PP Tryd.f13.results.toList R) = W_code_Long a0 H R := by kernel_rfl
theorem code_Long_of {a0 : AV} {H : Heap} {R : AV → Heap → Prop} (h : W_code_Long a0 H R) : ACalls PP gΓ code_Long [a0] H R :=
  ACalls.of_awp (E := E_code_Long) follows_PP Tryd.func13 (c := C_code_Long) (by kernel_rfl) Tryd.ntmps13 ((K_code_Long a0 H R) ▸ h)

noncomputable def L_code_Same : Nat → Option (List Nat) := fun k => none
noncomputable abbrev E_code_Same : Env := ⟨PP, gΓ, 33, L_code_Same, fun _ => false⟩
noncomputable def C_code_Same : Code := Tryd.f14.body.getD .skip
def W_code_Same (a0 a1 : AV) (H : Heap) (R : AV → Heap → Prop) : Prop :=
 allocK (some (AV.cells a0)) H fun p1 H2 =>
 allocK (some (AV.cells a1)) H2 fun p3 H4 =>
 pureK (fa 0 p1) fun x5 =>
 pureK (ld (some false) 1 H4 x5) fun x6 =>
 pureK (fa 0 p3) fun x7 =>
 pureK (ld (some false) 1 H4 x7) fun x8 =>
 ACalls PP gΓ row_Same [x6, x8] H4 fun x9 H10 =>
 condK x9 (
  pureK (fa 1 p1) fun x11 =>
  pureK (ld (some true) 2 H10 x11) fun x12 =>
  pureK (fa 1 p3) fun x13 =>
  pureK (ld (some true) 2 H10 x13) fun x14 =>
  pureK (bop (.flat [.int, .int]) .eql x12 x14) fun x15 =>
  condK x15 (
   pureK (fa 3 p1) fun x16 =>
   pureK (ld (some false) 1 H10 x16) fun x17 =>
   pureK (fa 3 p3) fun x18 =>
   pureK (ld (some false) 1 H10 x18) fun x19 =>
   pureK (bop .plain .eql x17 x19) fun x20 =>
   condK x20 (
    pureK (fa 4 p1) fun x21 =>
    pureK (ld (some false) 1 H10 x21) fun x22 =>
    pureK (fa 4 p3) fun x23 =>
    pureK (ld (some false) 1 H10 x23) fun x24 =>
    callK (E_code_Same) (.fn (.func code_Same_1) [] []) [x22, x24] H10 fun x25 H26 =>
    ret1 H26 R x25
   ) (
    ret1 H10 R (B false)
   )
  ) (
   ret1 H10 R (B false)
  )
 ) (
  ret1 H10 R (B false)
 )
theorem K_code_Same (a0 a1 : AV) (H : Heap) (R : AV → Heap → Prop) : awp E_code_Same (drawK E_code_Same) C_code_Same (fun j => List.getD [a0, a1] j .dead) H (retK PP Tryd.f14.results.toList R) = W_code_Same a0 a1 H R := by kernel_rfl
theorem code_Same_of {a0 a1 : AV} {H : Heap} {R : AV → Heap → Prop} (h : W_code_Same a0 a1 H R) : ACalls PP gΓ code_Same [a0, a1] H R :=
  ACalls.of_awp (E := E_code_Same) follows_PP Tryd.func14 (c := C_code_Same) (by kernel_rfl) Tryd.ntmps14 ((K_code_Same a0 a1 H R) ▸ h)

noncomputable def L_ref16_Same : Nat → Option (List Nat) := fun k => bif Nat.beq k 1004 then some [0, 1, 5] else none
noncomputable abbrev E_ref16_Same : Env := ⟨PP, gΓ, 26, L_ref16_Same, fun _ => false⟩
noncomputable def C_ref16_Same : Code := Tryd.f15.body.getD .skip
def W_ref16_Same (a0 a1 : AV) (H : Heap) (R : AV → Heap → Prop) : Prop :=
 pureK (lnl a0) fun x1 =>
 pureK (lnl a1) fun x2 =>
 pureK (bop .plain .neq x1 x2) fun x3 =>
 condK x3 (
  ret1 H R (B false)
 ) (
  ∃ J4 : List AV → Heap → Nat → Prop, (∃ (n10 : Nat) (H11 : Heap), H11 ≤ H ∧ J4 [a0, a1, I 0] H11 n10) ∧ ∀ (vs5 : List AV) (H6 : Heap) (n7 : Nat), J4 vs5 H6 n7 →
  pureK (lnl (nth vs5 0)) fun x12 =>
  pureK (bop .plain .lss (nth vs5 2) x12) fun x13 =>
  condK x13 (
   pureK (ias 1 (nth vs5 0) (nth vs5 2)) fun x14 =>
   pureK (ld (some false) 1 H6 x14) fun x15 =>
   pureK (ias 1 (nth vs5 1) (nth vs5 2)) fun x16 =>
   pureK (ld (some false) 1 H6 x16) fun x17 =>
   pureK (bop .plain .neq x15 x17) fun x18 =>
   condK x18 (
    ret1 H6 R (B false)
   ) (
    pureK (bop .plain .add (nth vs5 2) (I 1)) fun x19 =>
    (∃ (n8 : Nat) (H9 : Heap), n8 < n7 ∧ H9 ≤ H6 ∧ J4 [nth vs5 0, nth vs5 1, x19] H9 n8)
   )
  ) (
   ret1 H6 R (B true)
  )
 )
theorem K_ref16_Same (a0 a1 : AV) (H : Heap) (R : AV → Heap → Prop) : awp E_ref16_Same (drawK E_ref16_Same) C_ref16_Same (fun j => List.getD [a0, a1] j .dead) H (retK PP Tryd.f15.results.toList R) = W_ref16_Same a0 a1 H R := by kernel_rfl
theorem ref16_Same_of {a0 a1 : AV} {H : Heap} {R : AV → Heap → Prop} (h : W_ref16_Same a0 a1 H R) : ACalls PP gΓ ref16_Same [a0, a1] H R :=
  ACalls.of_awp (E := E_ref16_Same) follows_PP Tryd.func15 (c := C_ref16_Same) (by kernel_rfl) Tryd.ntmps15 ((K_ref16_Same a0 a1 H R) ▸ h)

noncomputable def L_ref19_Long : Nat → Option (List Nat) := fun k => none
noncomputable abbrev E_ref19_Long : Env := ⟨PP, gΓ, 15, L_ref19_Long, fun _ => false⟩
noncomputable def C_ref19_Long : Code := Tryd.f16.body.getD .skip
def W_ref19_Long (a0 : AV) (H : Heap) (R : AV → Heap → Prop) : Prop :=
 pureK (bop .plain .lss a0 (I 0)) fun x1 =>
 condK x1 (
  ret1 H R (I 0)
 ) (
  pureK (bop .plain .gtr a0 (I 60)) fun x2 =>
  condK x2 (
   ret1 H R (I 0)
  ) (
   pureK (bop .plain .mul (I 10) a0) fun x3 =>
   pureK (bop .plain .add (I 5) x3) fun x4 =>
   pureK (bop .plain .mul (I 9) a0) fun x5 =>
   pureK (bop .plain .add x4 x5) fun x6 =>
   ret1 H R x6
  )
 )
theorem K_ref19_Long (a0 : AV) (H : Heap) (R : AV → Heap → Prop) : awp E_ref19_Long (drawK E_ref19_Long) C_ref19_Long (fun j => List.getD [a0] j .dead) H (retK PP Tryd.f16.results.toList R) = W_ref19_Long a0 H R := by kernel_rfl
theorem ref19_Long_of {a0 : AV} {H : Heap} {R : AV → Heap → Prop} (h : W_ref19_Long a0 H R) : ACalls PP gΓ ref19_Long [a0] H R :=
  ACalls.of_awp (E := E_ref19_Long) follows_PP Tryd.func16 (c := C_ref19_Long) (by kernel_rfl) Tryd.ntmps16 ((K_ref19_Long a0 H R) ▸ h)

noncomputable def L_ref03_Depth : Nat → Option (List Nat) := fun k => none
noncomputable abbrev E_ref03_Depth : Env := ⟨PP, gΓ, 11, L_ref03_Depth, fun _ => false⟩
noncomputable def C_ref03_Depth : Code := Tryd.f17.body.getD .skip
def W_ref03_Depth (a0 : AV) (H : Heap) (R : AV → Heap → Prop) : Prop :=
 ACalls PP gΓ ref03_Walk [a0, I 0] H fun x1 H2 =>
 pureK (extractE x1 0) fun x3 =>
 pureK (extractE x1 1) fun x4 =>
 ret1 H2 R x4
theorem K_ref03_Depth (a0 : AV) (H : Heap) (R : AV → Heap → Prop) : awp E_ref03_Depth (drawK E_ref03_Depth) C_ref03_Depth (fun j => List.getD [a0] j .dead) H (retK PP Tryd.f17.results.toList R) = W_ref03_Depth a0 H R := by kernel_rfl
theorem ref03_Depth_of {a0 : AV} {H : Heap} {R : AV → Heap → Prop} (h : W_ref03_Depth a0 H R) : ACalls PP gΓ ref03_Depth [a0] H R :=
  ACalls.of_awp (E := E_ref03_Depth) follows_PP Tryd.func17 (c := C_ref03_Depth) (by kernel_rfl) Tryd.ntmps17 ((K_ref03_Depth a0 H R) ▸ h)

noncomputable def L_code_Right : Nat → Option (List Nat) := fun k => none
noncomputable abbrev E_code_Right : Env := ⟨PP, gΓ, 52, L_code_Right, fun _ => false⟩
noncomputable def C_code_Right : Code := Tryd.f18.body.getD .skip
def W_code_Right (a0 : AV) (H : Heap) (R : AV → Heap → Prop) : Prop :=
 allocK (some (AV.cells a0)) H fun p1 H2 =>
 pureK (fa 0 p1) fun x3 =>
 pureK (ld (some false) 1 H2 x3) fun x4 =>
 ACalls PP gΓ sort_On [x4, B false] H2 fun x5 H6 =>
 condK x5 (
  pureK (fa 0 p1) fun x7 =>
  pureK (ld (some false) 1 H6 x7) fun x8 =>
  ACalls PP gΓ settle_Settled [x8] H6 fun x9 H10 =>
  condK x9 (
   pureK (fa 0 p1) fun x11 =>
   pureK (ld (some false) 1 H10 x11) fun x12 =>
   pureK (lnl x12) fun x13 =>
   pureK (bop .plain .leq x13 (I 60)) fun x14 =>
   condK x14 (
    pureK (fa 1 p1) fun x15 =>
    pureK (fa 0 x15) fun x16 =>
    pureK (ld (some false) 1 H10 x16) fun x17 =>
    callK (E_code_Right) (.fn (.func code_Right_2) [] []) [x17, I 255] H10 fun x18 H19 =>
    condK x18 (
     pureK (fa 1 p1) fun x20 =>
     pureK (fa 1 x20) fun x21 =>
     pureK (ld (some false) 1 H19 x21) fun x22 =>
     callK (E_code_Right) (.fn (.func code_Right_2) [] []) [x22, I 5] H19 fun x23 H24 =>
     condK x23 (
      pureK (fa 3 p1) fun x25 =>
      pureK (ld (some false) 1 H24 x25) fun x26 =>
      callK (E_code_Right) (.fn (.func code_Right_2) [] []) [x26, I 60] H24 fun x27 H28 =>
      condK x27 (
       pureK (fa 4 p1) fun x29 =>
       pureK (ld (some false) 1 H28 x29) fun x30 =>
       pureK (lnl x30) fun x31 =>
       pureK (bop .plain .leq x31 (I 60)) fun x32 =>
       condK x32 (
        pureK (fa 4 p1) fun x33 =>
        pureK (ld (some false) 1 H28 x33) fun x34 =>
        ACalls PP gΓ slices_ContainsFunc_string [x34, .fn (.func code_Right_1) [] []] H28 fun x35 H36 =>
        pureK (unE .not x35) fun x37 =>
        ret1 H36 R x37
       ) (
        ret1 H28 R (B false)
       )
      ) (
       ret1 H28 R (B false)
      )
     ) (
      ret1 H24 R (B false)
     )
    ) (
     ret1 H19 R (B false)
    )
   ) (
    ret1 H10 R (B false)
   )
  ) (
   ret1 H10 R (B false)
  )
 ) (
  ret1 H6 R (B false)
 )
theorem K_code_Right (a0 : AV) (H : Heap) (R : AV → Heap → Prop) : awp E_code_Right (drawK E_code_Right) C_code_Right (fun j => List.getD [a0] j .dead) H (retK PP Tryd.f18.results.toList R) = W_code_Right a0 H R := by kernel_rfl
theorem code_Right_of {a0 : AV} {H : Heap} {R : AV → Heap → Prop} (h : W_code_Right a0 H R) : ACalls PP gΓ code_Right [a0] H R :=
  ACalls.of_awp (E := E_code_Right) follows_PP Tryd.func18 (c := C_code_Right) (by kernel_rfl) Tryd.ntmps18 ((K_code_Right a0 H R) ▸ h)

noncomputable def L_code_named : Nat → Option (List Nat) := fun k => none
noncomputable abbrev E_code_named : Env := ⟨PP, gΓ, 14, L_code_named, fun _ => false⟩
noncomputable def C_code_named : Code := Tryd.f19.body.getD .skip
def W_code_named (a0 a1 : AV) (H : Heap) (R : AV → Heap → Prop) : Prop :=
 pureK (lns a1) fun x1 =>
 pureK (cv (.toInt .u8) x1) fun x2 =>
 pureK (bsl 1 (.sc (.int .u8 0)) 1 [(0, x2)]) fun x3 =>
 appK 1 a0 x3 H fun x4 H5 =>
 appK 1 x4 a1 H5 fun x6 H7 =>
 ret1 H7 R x6
theorem K_code_named (a0 a1 : AV) (H : Heap) (R : AV → Heap → Prop) : awp E_code_named (drawK E_code_named) C_code_named (fun j => List.getD [a0, a1] j .dead) H (retK PP Tryd.f19.results.toList R) = W_code_named a0 a1 H R := by kernel_rfl
theorem code_named_of {a0 a1 : AV} {H : Heap} {R : AV → Heap → Prop} (h : W_code_named a0 a1 H R) : ACalls PP gΓ code_named [a0, a1] H R :=
  ACalls.of_awp (E := E_code_named) follows_PP Tryd.func19 (c := C_code_named) (by kernel_rfl) Tryd.ntmps19 ((K_code_named a0 a1 H R) ▸ h)

noncomputable def L_code_reader_next : Nat → Option (List Nat) := fun k => none
noncomputable abbrev E_code_reader_next : Env := ⟨PP, gΓ, 29, L_code_reader_next, fun _ => false⟩
noncomputable def C_code_reader_next : Code := Tryd.f20.body.getD .skip
def W_code_reader_next (a0 : AV) (H : Heap) (R : AV → Heap → Prop) : Prop :=
 pureK (nilE a0) fun x1 =>
 pureK (fa 0 x1) fun x2 =>
 pureK (ld (some false) 1 H x2) fun x3 =>
 pureK (lnl x3) fun x4 =>
 pureK (bop .plain .eql x4 (I 0)) fun x5 =>
 condK x5 (
  pureK (nilE a0) fun x6 =>
  pureK (fa 1 x6) fun x7 =>
  heapK (st 1 H x7 (B true)) fun H8 =>
  ret1 H8 R (I 0)
 ) (
  pureK (nilE a0) fun x9 =>
  pureK (fa 0 x9) fun x10 =>
  pureK (ld (some false) 1 H x10) fun x11 =>
  pureK (ias 1 x11 (I 0)) fun x12 =>
  pureK (ld (some false) 1 H x12) fun x13 =>
  pureK (nilE a0) fun x14 =>
  pureK (fa 0 x14) fun x15 =>
  pureK (ld (some false) 1 H x15) fun x16 =>
  pureK (sll 1 x16 (some (I 1)) none none) fun x17 =>
  pureK (nilE a0) fun x18 =>
  pureK (fa 0 x18) fun x19 =>
  heapK (st 1 H x19 x17) fun H20 =>
  pureK (cv (.toInt .i64) x13) fun x21 =>
  ret1 H20 R x21
 )
theorem K_code_reader_next (a0 : AV) (H : Heap) (R : AV → Heap → Prop) : awp E_code_reader_next (drawK E_code_reader_next) C_code_reader_next (fun j => List.getD [a0] j .dead) H (retK PP Tryd.f20.results.toList R) = W_code_reader_next a0 H R := by kernel_rfl
theorem code_reader_next_of {a0 : AV} {H : Heap} {R : AV → Heap → Prop} (h : W_code_reader_next a0 H R) : ACalls PP gΓ code_reader_next [a0] H R :=
  ACalls.of_awp (E := E_code_reader_next) follows_PP Tryd.func20 (c := C_code_reader_next) (by kernel_rfl) Tryd.ntmps20 ((K_code_reader_next a0 H R) ▸ h)

noncomputable def L_code_reader_name : Nat → Option (List Nat) := fun k => none
noncomputable abbrev E_code_reader_name : Env := ⟨PP, gΓ, 32, L_code_reader_name, fun _ => false⟩
noncomputable def C_code_reader_name : Code := Tryd.f21.body.getD .skip
def W_code_reader_name (a0 : AV) (H : Heap) (R : AV → Heap → Prop) : Prop :=
 ACalls PP gΓ code_reader_next [a0] H fun x1 H2 =>
 pureK (nilE a0) fun x3 =>
 pureK (fa 0 x3) fun x4 =>
 pureK (ld (some false) 1 H2 x4) fun x5 =>
 pureK (lnl x5) fun x6 =>
 pureK (minE [x1, x6]) fun x7 =>
 pureK (nilE a0) fun x8 =>
 pureK (fa 0 x8) fun x9 =>
 pureK (ld (some false) 1 H2 x9) fun x10 =>
 pureK (sll 1 x10 none (some x7) none) fun x11 =>
 pureK (cv .toStr x11) fun x12 =>
 pureK (nilE a0) fun x13 =>
 pureK (fa 0 x13) fun x14 =>
 pureK (ld (some false) 1 H2 x14) fun x15 =>
 pureK (sll 1 x15 (some x7) none none) fun x16 =>
 pureK (nilE a0) fun x17 =>
 pureK (fa 0 x17) fun x18 =>
 heapK (st 1 H2 x18 x16) fun H19 =>
 ret1 H19 R x12
theorem K_code_reader_name (a0 : AV) (H : Heap) (R : AV → Heap → Prop) : awp E_code_reader_name (drawK E_code_reader_name) C_code_reader_name (fun j => List.getD [a0] j .dead) H (retK PP Tryd.f21.results.toList R) = W_code_reader_name a0 H R := by kernel_rfl
theorem code_reader_name_of {a0 : AV} {H : Heap} {R : AV → Heap → Prop} (h : W_code_reader_name a0 H R) : ACalls PP gΓ code_reader_name [a0] H R :=
  ACalls.of_awp (E := E_code_reader_name) follows_PP Tryd.func21 (c := C_code_reader_name) (by kernel_rfl) Tryd.ntmps21 ((K_code_reader_name a0 H R) ▸ h)

noncomputable def L_bytes_Equal : Nat → Option (List Nat) := fun k => none
noncomputable abbrev E_bytes_Equal : Env := ⟨PP, gΓ, 10, L_bytes_Equal, fun _ => false⟩
noncomputable def C_bytes_Equal : Code := Tryd.f22.body.getD .skip
def W_bytes_Equal (a0 a1 : AV) (H : Heap) (R : AV → Heap → Prop) : Prop :=
 pureK (cv .toStr a0) fun x1 =>
 pureK (cv .toStr a1) fun x2 =>
 pureK (bop .plain .eql x1 x2) fun x3 =>
 ret1 H R x3
theorem K_bytes_Equal (a0 a1 : AV) (H : Heap) (R : AV → Heap → Prop) : awp E_bytes_Equal (drawK E_bytes_Equal) C_bytes_Equal (fun j => List.getD [a0, a1] j .dead) H (retK PP Tryd.f22.results.toList R) = W_bytes_Equal a0 a1 H R := by kernel_rfl
theorem bytes_Equal_of {a0 a1 : AV} {H : Heap} {R : AV → Heap → Prop} (h : W_bytes_Equal a0 a1 H R) : ACalls PP gΓ bytes_Equal [a0, a1] H R :=
  ACalls.of_awp (E := E_bytes_Equal) follows_PP Tryd.func22 (c := C_bytes_Equal) (by kernel_rfl) Tryd.ntmps22 ((K_bytes_Equal a0 a1 H R) ▸ h)

noncomputable def L_ref03_Same : Nat → Option (List Nat) := fun k => bif Nat.beq k 1004 then some [0, 1, 5] else none
noncomputable abbrev E_ref03_Same : Env := ⟨PP, gΓ, 26, L_ref03_Same, fun _ => false⟩
noncomputable def C_ref03_Same : Code := Tryd.f23.body.getD .skip
def W_ref03_Same (a0 a1 : AV) (H : Heap) (R : AV → Heap → Prop) : Prop :=
 pureK (lnl a0) fun x1 =>
 pureK (lnl a1) fun x2 =>
 pureK (bop .plain .neq x1 x2) fun x3 =>
 condK x3 (
  ret1 H R (B false)
 ) (
  ∃ J4 : List AV → Heap → Nat → Prop, (∃ (n10 : Nat) (H11 : Heap), H11 ≤ H ∧ J4 [a0, a1, I 0] H11 n10) ∧ ∀ (vs5 : List AV) (H6 : Heap) (n7 : Nat), J4 vs5 H6 n7 →
  pureK (lnl (nth vs5 0)) fun x12 =>
  pureK (bop .plain .lss (nth vs5 2) x12) fun x13 =>
  condK x13 (
   pureK (ias 3 (nth vs5 0) (nth vs5 2)) fun x14 =>
   pureK (ld (some true) 3 H6 x14) fun x15 =>
   pureK (ias 3 (nth vs5 1) (nth vs5 2)) fun x16 =>
   pureK (ld (some true) 3 H6 x16) fun x17 =>
   pureK (bop (.flat [.int, .str, .int]) .neq x15 x17) fun x18 =>
   condK x18 (
    ret1 H6 R (B false)
   ) (
    pureK (bop .plain .add (nth vs5 2) (I 1)) fun x19 =>
    (∃ (n8 : Nat) (H9 : Heap), n8 < n7 ∧ H9 ≤ H6 ∧ J4 [nth vs5 0, nth vs5 1, x19] H9 n8)
   )
  ) (
   ret1 H6 R (B true)
  )
 )
theorem K_ref03_Same (a0 a1 : AV) (H : Heap) (R : AV → Heap → Prop) : awp E_ref03_Same (drawK E_ref03_Same) C_ref03_Same (fun j => List.getD [a0, a1] j .dead) H (retK PP Tryd.f23.results.toList R) = W_ref03_Same a0 a1 H R := by kernel_rfl
theorem ref03_Same_of {a0 a1 : AV} {H : Heap} {R : AV → Heap → Prop} (h : W_ref03_Same a0 a1 H R) : ACalls PP gΓ ref03_Same [a0, a1] H R :=
  ACalls.of_awp (E := E_ref03_Same) follows_PP Tryd.func23 (c := C_ref03_Same) (by kernel_rfl) Tryd.ntmps23 ((K_ref03_Same a0 a1 H R) ▸ h)

noncomputable def L_ref04_Texts : Nat → Option (List Nat) := fun k => bif Nat.beq k 1004 then some [0, 1, 5] else none
noncomputable abbrev E_ref04_Texts : Env := ⟨PP, gΓ, 26, L_ref04_Texts, fun _ => false⟩
noncomputable def C_ref04_Texts : Code := Tryd.f24.body.getD .skip
def W_ref04_Texts (a0 a1 : AV) (H : Heap) (R : AV → Heap → Prop) : Prop :=
 pureK (lnl a0) fun x1 =>
 pureK (lnl a1) fun x2 =>
 pureK (bop .plain .neq x1 x2) fun x3 =>
 condK x3 (
  ret1 H R (B false)
 ) (
  ∃ J4 : List AV → Heap → Nat → Prop, (∃ (n10 : Nat) (H11 : Heap), H11 ≤ H ∧ J4 [a0, a1, I 0] H11 n10) ∧ ∀ (vs5 : List AV) (H6 : Heap) (n7 : Nat), J4 vs5 H6 n7 →
  pureK (lnl (nth vs5 0)) fun x12 =>
  pureK (bop .plain .lss (nth vs5 2) x12) fun x13 =>
  condK x13 (
   pureK (ias 1 (nth vs5 0) (nth vs5 2)) fun x14 =>
   pureK (ld (some false) 1 H6 x14) fun x15 =>
   pureK (ias 1 (nth vs5 1) (nth vs5 2)) fun x16 =>
   pureK (ld (some false) 1 H6 x16) fun x17 =>
   pureK (bop .plain .neq x15 x17) fun x18 =>
   condK x18 (
    ret1 H6 R (B false)
   ) (
    pureK (bop .plain .add (nth vs5 2) (I 1)) fun x19 =>
    (∃ (n8 : Nat) (H9 : Heap), n8 < n7 ∧ H9 ≤ H6 ∧ J4 [nth vs5 0, nth vs5 1, x19] H9 n8)
   )
  ) (
   ret1 H6 R (B true)
  )
 )
theorem K_ref04_Texts (a0 a1 : AV) (H : Heap) (R : AV → Heap → Prop) : awp E_ref04_Texts (drawK E_ref04_Texts) C_ref04_Texts (fun j => List.getD [a0, a1] j .dead) H (retK PP Tryd.f24.results.toList R) = W_ref04_Texts a0 a1 H R := by kernel_rfl
theorem ref04_Texts_of {a0 a1 : AV} {H : Heap} {R : AV → Heap → Prop} (h : W_ref04_Texts a0 a1 H R) : ACalls PP gΓ ref04_Texts [a0, a1] H R :=
  ACalls.of_awp (E := E_ref04_Texts) follows_PP Tryd.func24 (c := C_ref04_Texts) (by kernel_rfl) Tryd.ntmps24 ((K_ref04_Texts a0 a1 H R) ▸ h)

noncomputable def L_code_Same_1 : Nat → Option (List Nat) := fun k => none
noncomputable abbrev E_code_Same_1 : Env := ⟨PP, gΓ, 8, L_code_Same_1, fun _ => false⟩
noncomputable def C_code_Same_1 : Code := Tryd.f25.body.getD .skip
def W_code_Same_1 (a0 a1 : AV) (H : Heap) (R : AV → Heap → Prop) : Prop :=
 ACalls PP gΓ slices_Equal_string [a0, a1] H fun x1 H2 =>
 ret1 H2 R x1
theorem K_code_Same_1 (a0 a1 : AV) (H : Heap) (R : AV → Heap → Prop) : awp E_code_Same_1 (drawK E_code_Same_1) C_code_Same_1 (fun j => List.getD [a0, a1] j .dead) H (retK PP Tryd.f25.results.toList R) = W_code_Same_1 a0 a1 H R := by kernel_rfl
theorem code_Same_1_of {a0 a1 : AV} {H : Heap} {R : AV → Heap → Prop} (h : W_code_Same_1 a0 a1 H R) : ACalls PP gΓ code_Same_1 [a0, a1] H R :=
  ACalls.of_awp (E := E_code_Same_1) follows_PP Tryd.func25 (c := C_code_Same_1) (by kernel_rfl) Tryd.ntmps25 ((K_code_Same_1 a0 a1 H R) ▸ h)

noncomputable def L_slices_Equal_string : Nat → Option (List Nat) := fun k => bif Nat.beq k 1004 then some [0, 1, 12, 13] else none
noncomputable abbrev E_slices_Equal_string : Env := ⟨PP, gΓ, 26, L_slices_Equal_string, fun _ => false⟩
noncomputable def C_slices_Equal_string : Code := Tryd.f26.body.getD .skip
def W_slices_Equal_string (a0 a1 : AV) (H : Heap) (R : AV → Heap → Prop) : Prop :=
 pureK (lnl a0) fun x1 =>
 pureK (lnl a1) fun x2 =>
 pureK (bop .plain .neq x1 x2) fun x3 =>
 condK x3 (
  ret1 H R (B false)
 ) (
  pureK (lnl a0) fun x4 =>
  ∃ J5 : List AV → Heap → Nat → Prop, (∃ (n11 : Nat) (H12 : Heap), H12 ≤ H ∧ J5 [a0, a1, x4, I 0] H12 n11) ∧ ∀ (vs6 : List AV) (H7 : Heap) (n8 : Nat), J5 vs6 H7 n8 →
  pureK (bop .plain .lss (nth vs6 3) (nth vs6 2)) fun x13 =>
  condK x13 (
   pureK (ias 1 (nth vs6 0) (nth vs6 3)) fun x14 =>
   pureK (ld (some false) 1 H7 x14) fun x15 =>
   pureK (ias 1 (nth vs6 1) (nth vs6 3)) fun x16 =>
   pureK (ld (some false) 1 H7 x16) fun x17 =>
   pureK (bop .plain .neq x15 x17) fun x18 =>
   condK x18 (
    ret1 H7 R (B false)
   ) (
    pureK (bop .plain .add (nth vs6 3) (I 1)) fun x19 =>
    (∃ (n9 : Nat) (H10 : Heap), n9 < n8 ∧ H10 ≤ H7 ∧ J5 [nth vs6 0, nth vs6 1, nth vs6 2, x19] H10 n9)
   )
  ) (
   ret1 H7 R (B true)
  )
 )
theorem K_slices_Equal_string (a0 a1 : AV) (H : Heap) (R : AV → Heap → Prop) : awp E_slices_Equal_string (drawK E_slices_Equal_string) C_slices_Equal_string (fun j => List.getD [a0, a1] j .dead) H (retK PP Tryd.f26.results.toList R) = W_slices_Equal_string a0 a1 H R := by kernel_rfl
theorem slices_Equal_string_of {a0 a1 : AV} {H : Heap} {R : AV → Heap → Prop} (h : W_slices_Equal_string a0 a1 H R) : ACalls PP gΓ slices_Equal_string [a0, a1] H R :=
  ACalls.of_awp (E := E_slices_Equal_string) follows_PP Tryd.func26 (c := C_slices_Equal_string) (by kernel_rfl) Tryd.ntmps26 ((K_slices_Equal_string a0 a1 H R) ▸ h)

noncomputable def L_row_Same : Nat → Option (List Nat) := fun k => none
noncomputable abbrev E_row_Same : Env := ⟨PP, gΓ, 8, L_row_Same, fun _ => false⟩
noncomputable def C_row_Same : Code := Tryd.f27.body.getD .skip
def W_row_Same (a0 a1 : AV) (H : Heap) (R : AV → Heap → Prop) : Prop :=
 ACalls PP gΓ slices_Equal_Node [a0, a1] H fun x1 H2 =>
 ret1 H2 R x1
theorem K_row_Same (a0 a1 : AV) (H : Heap) (R : AV → Heap → Prop) : awp E_row_Same (drawK E_row_Same) C_row_Same (fun j => List.getD [a0, a1] j .dead) H (retK PP Tryd.f27.results.toList R) = W_row_Same a0 a1 H R := by kernel_rfl
theorem row_Same_of {a0 a1 : AV} {H : Heap} {R : AV → Heap → Prop} (h : W_row_Same a0 a1 H R) : ACalls PP gΓ row_Same [a0, a1] H R :=
  ACalls.of_awp (E := E_row_Same) follows_PP Tryd.func27 (c := C_row_Same) (by kernel_rfl) Tryd.ntmps27 ((K_row_Same a0 a1 H R) ▸ h)

noncomputable def L_ref03_Walk : Nat → Option (List Nat) := fun k => bif Nat.beq k 1006 then some [0, 1, 6, 7, 8] else none
noncomputable abbrev E_ref03_Walk : Env := ⟨PP, gΓ, 52, L_ref03_Walk, fun _ => false⟩
noncomputable def C_ref03_Walk : Code := Tryd.f28.body.getD .skip
def W_ref03_Walk (a0 a1 : AV) (H : Heap) (R : AV → Heap → Prop) : Prop :=
 pureK (lnl a0) fun x1 =>
 pureK (bop .plain .geq a1 x1) fun x2 =>
 condK x2 (
  ret1 H R (.tup [I (-1), I 0])
 ) (
  pureK (ias 3 a0 a1) fun x3 =>
  pureK (fa 0 x3) fun x4 =>
  pureK (ld (some false) 1 H x4) fun x5 =>
  ACalls PP gΓ ref03_Arity [x5] H fun x6 H7 =>
  pureK (bop .plain .lss x6 (I 0)) fun x8 =>
  condK x8 (
   ret1 H7 R (.tup [I (-1), I 0])
  ) (
   pureK (bop .plain .add a1 (I 1)) fun x9 =>
   ∃ J10 : List AV → Heap → Nat → Prop, (∃ (n16 : Nat) (H17 : Heap), H17 ≤ H7 ∧ J10 [a0, a1, x9, I 0, I 0] H17 n16) ∧ ∀ (vs11 : List AV) (H12 : Heap) (n13 : Nat), J10 vs11 H12 n13 →
   pureK (ias 3 (nth vs11 0) (nth vs11 1)) fun x18 =>
   pureK (fa 0 x18) fun x19 =>
   pureK (ld (some false) 1 H12 x19) fun x20 =>
   ACalls PP gΓ ref03_Arity [x20] H12 fun x21 H22 =>
   pureK (bop .plain .lss (nth vs11 4) x21) fun x23 =>
   condK x23 (
    ACalls PP gΓ ref03_Walk [nth vs11 0, nth vs11 2] H22 fun x24 H25 =>
    pureK (extractE x24 0) fun x26 =>
    pureK (extractE x24 1) fun x27 =>
    pureK (bop .plain .lss x26 (I 0)) fun x28 =>
    condK x28 (
     ret1 H25 R (.tup [I (-1), I 0])
    ) (
     pureK (bop .plain .gtr x27 (nth vs11 3)) fun x29 =>
     condK x29 (
      pureK (bop .plain .add (nth vs11 4) (I 1)) fun x30 =>
      (∃ (n14 : Nat) (H15 : Heap), n14 < n13 ∧ H15 ≤ H25 ∧ J10 [nth vs11 0, nth vs11 1, x26, x27, x30] H15 n14)
     ) (
      pureK (bop .plain .add (nth vs11 4) (I 1)) fun x31 =>
      (∃ (n14 : Nat) (H15 : Heap), n14 < n13 ∧ H15 ≤ H25 ∧ J10 [nth vs11 0, nth vs11 1, x26, nth vs11 3, x31] H15 n14)
     )
    )
   ) (
    pureK (bop .plain .add (nth vs11 3) (I 1)) fun x32 =>
    ret1 H22 R (.tup [nth vs11 2, x32])
   )
  )
 )
theorem K_ref03_Walk (a0 a1 : AV) (H : Heap) (R : AV → Heap → Prop) : awp E_ref03_Walk (drawK E_ref03_Walk) C_ref03_Walk (fun j => List.getD [a0, a1] j .dead) H (retK PP Tryd.f28.results.toList R) = W_ref03_Walk a0 a1 H R := by kernel_rfl
theorem ref03_Walk_of {a0 a1 : AV} {H : Heap} {R : AV → Heap → Prop} (h : W_ref03_Walk a0 a1 H R) : ACalls PP gΓ ref03_Walk [a0, a1] H R :=
  ACalls.of_awp (E := E_ref03_Walk) follows_PP Tryd.func28 (c := C_ref03_Walk) (by kernel_rfl) Tryd.ntmps28 ((K_ref03_Walk a0 a1 H R) ▸ h)

noncomputable def L_code_Right_1 : Nat → Option (List Nat) := fun k => none
noncomputable abbrev E_code_Right_1 : Env := ⟨PP, gΓ, 7, L_code_Right_1, fun _ => false⟩
noncomputable def C_code_Right_1 : Code := Tryd.f29.body.getD .skip
def W_code_Right_1 (a0 : AV) (H : Heap) (R : AV → Heap → Prop) : Prop :=
 pureK (bld [(0, 1), (1, 1), (2, 1)] [.sc (.int .i64 0), S emp, .sc (.int .i64 0)] [(0, I 1), (1, a0)]) fun x1 =>
 ACalls PP gΓ row_Right [x1] H fun x2 H3 =>
 pureK (unE .not x2) fun x4 =>
 ret1 H3 R x4
theorem K_code_Right_1 (a0 : AV) (H : Heap) (R : AV → Heap → Prop) : awp E_code_Right_1 (drawK E_code_Right_1) C_code_Right_1 (fun j => List.getD [a0] j .dead) H (retK PP Tryd.f29.results.toList R) = W_code_Right_1 a0 H R := by kernel_rfl
theorem code_Right_1_of {a0 : AV} {H : Heap} {R : AV → Heap → Prop} (h : W_code_Right_1 a0 H R) : ACalls PP gΓ code_Right_1 [a0] H R :=
  ACalls.of_awp (E := E_code_Right_1) follows_PP Tryd.func29 (c := C_code_Right_1) (by kernel_rfl) Tryd.ntmps29 ((K_code_Right_1 a0 H R) ▸ h)

noncomputable def L_row_Right : Nat → Option (List Nat) := fun k => none
noncomputable abbrev E_row_Right : Env := ⟨PP, gΓ, 50, L_row_Right, fun _ => false⟩
noncomputable def C_row_Right : Code := Tryd.f30.body.getD .skip
def W_row_Right (a0 : AV) (H : Heap) (R : AV → Heap → Prop) : Prop :=
 allocK (some (AV.cells a0)) H fun p1 H2 =>
 pureK (fa 0 p1) fun x3 =>
 pureK (ld (some false) 1 H2 x3) fun x4 =>
 pureK (bld [(0, 1), (1, 1), (2, 1)] [.sc (.int .i64 0), S emp, .sc (.int .i64 0)] [(0, x4)]) fun x5 =>
 allocP [.sc (.int .i64 0), S emp, .sc (.int .i64 0)] H2 fun o6 H7 =>
 heapK (st 3 H7 (.ptr o6 0) x5) fun H8 =>
 pureK (fa 0 p1) fun x9 =>
 pureK (ld (some false) 1 H8 x9) fun x10 =>
 pureK (bop .plain .eql x10 (I 1)) fun x11 =>
 condK x11 (
  pureK (fa 1 p1) fun x12 =>
  pureK (ld (some false) 1 H8 x12) fun x13 =>
  pureK (fa 1 (.ptr o6 0)) fun x14 =>
  heapK (st 1 H8 x14 x13) fun H15 =>
  pureK (ld (some true) 3 H15 p1) fun x16 =>
  pureK (ld (some true) 3 H15 (.ptr o6 0)) fun x17 =>
  pureK (bop (.flat [.int, .str, .int]) .eql x16 x17) fun x18 =>
  condK x18 (
   pureK (fa 1 p1) fun x19 =>
   pureK (ld (some false) 1 H15 x19) fun x20 =>
   ACalls PP gΓ row_named [x20] H15 fun x21 H22 =>
   ret1 H22 R x21
  ) (
   ret1 H15 R (B false)
  )
 ) (
  pureK (bop .plain .eql x10 (I 11)) fun x23 =>
  condK x23 (
   pureK (fa 2 p1) fun x24 =>
   pureK (ld (some false) 1 H8 x24) fun x25 =>
   pureK (fa 2 (.ptr o6 0)) fun x26 =>
   heapK (st 1 H8 x26 x25) fun H27 =>
   pureK (ld (some true) 3 H27 p1) fun x28 =>
   pureK (ld (some true) 3 H27 (.ptr o6 0)) fun x29 =>
   pureK (bop (.flat [.int, .str, .int]) .eql x28 x29) fun x30 =>
   condK x30 (
    pureK (fa 2 p1) fun x31 =>
    pureK (ld (some false) 1 H27 x31) fun x32 =>
    pureK (bop .plain .geq x32 (I 1)) fun x33 =>
    condK x33 (
     pureK (fa 2 p1) fun x34 =>
     pureK (ld (some false) 1 H27 x34) fun x35 =>
     pureK (bop .plain .leq x35 (I 3)) fun x36 =>
     ret1 H27 R x36
    ) (
     ret1 H27 R (B false)
    )
   ) (
    ret1 H27 R (B false)
   )
  ) (
   pureK (bop .plain .eql x10 (I 14)) fun x37 =>
   condK x37 (
    pureK (fa 2 p1) fun x38 =>
    pureK (ld (some false) 1 H8 x38) fun x39 =>
    pureK (fa 2 (.ptr o6 0)) fun x40 =>
    heapK (st 1 H8 x40 x39) fun H41 =>
    pureK (ld (some true) 3 H41 p1) fun x42 =>
    pureK (ld (some true) 3 H41 (.ptr o6 0)) fun x43 =>
    pureK (bop (.flat [.int, .str, .int]) .eql x42 x43) fun x44 =>
    condK x44 (
     pureK (fa 2 p1) fun x45 =>
     pureK (ld (some false) 1 H41 x45) fun x46 =>
     pureK (bop .plain .geq x46 (I 1)) fun x47 =>
     condK x47 (
      pureK (fa 2 p1) fun x48 =>
      pureK (ld (some false) 1 H41 x48) fun x49 =>
      pureK (bop .plain .leq x49 (I 3)) fun x50 =>
      ret1 H41 R x50
     ) (
      ret1 H41 R (B false)
     )
    ) (
     ret1 H41 R (B false)
    )
   ) (
    pureK (ld (some true) 3 H8 p1) fun x51 =>
    pureK (ld (some true) 3 H8 (.ptr o6 0)) fun x52 =>
    pureK (bop (.flat [.int, .str, .int]) .eql x51 x52) fun x53 =>
    condK x53 (
     pureK (fa 0 p1) fun x54 =>
     pureK (ld (some false) 1 H8 x54) fun x55 =>
     ACalls PP gΓ row_Arity [x55] H8 fun x56 H57 =>
     pureK (bop .plain .geq x56 (I 0)) fun x58 =>
     ret1 H57 R x58
    ) (
     ret1 H8 R (B false)
    )
   )
  )
 )
theorem K_row_Right (a0 : AV) (H : Heap) (R : AV → Heap → Prop) : awp E_row_Right (drawK E_row_Right) C_row_Right (fun j => List.getD [a0] j .dead) H (retK PP Tryd.f30.results.toList R) = W_row_Right a0 H R := by kernel_rfl
theorem row_Right_of {a0 : AV} {H : Heap} {R : AV → Heap → Prop} (h : W_row_Right a0 H R) : ACalls PP gΓ row_Right [a0] H R :=
  ACalls.of_awp (E := E_row_Right) follows_PP Tryd.func30 (c := C_row_Right) (by kernel_rfl) Tryd.ntmps30 ((K_row_Right a0 H R) ▸ h)

noncomputable def L_code_Right_2 : Nat → Option (List Nat) := fun k => none
noncomputable abbrev E_code_Right_2 : Env := ⟨PP, gΓ, 12, L_code_Right_2, fun _ => false⟩
noncomputable def C_code_Right_2 : Code := Tryd.f31.body.getD .skip
def W_code_Right_2 (a0 a1 : AV) (H : Heap) (R : AV → Heap → Prop) : Prop :=
 pureK (bop .plain .geq a0 (I 0)) fun x1 =>
 condK x1 (
  pureK (bop .plain .leq a0 a1) fun x2 =>
  ret1 H R x2
 ) (
  ret1 H R (B false)
 )
theorem K_code_Right_2 (a0 a1 : AV) (H : Heap) (R : AV → Heap → Prop) : awp E_code_Right_2 (drawK E_code_Right_2) C_code_Right_2 (fun j => List.getD [a0, a1] j .dead) H (retK PP Tryd.f31.results.toList R) = W_code_Right_2 a0 a1 H R := by kernel_rfl
theorem code_Right_2_of {a0 a1 : AV} {H : Heap} {R : AV → Heap → Prop} (h : W_code_Right_2 a0 a1 H R) : ACalls PP gΓ code_Right_2 [a0, a1] H R :=
  ACalls.of_awp (E := E_code_Right_2) follows_PP Tryd.func31 (c := C_code_Right_2) (by kernel_rfl) Tryd.ntmps31 ((K_code_Right_2 a0 a1 H R) ▸ h)

noncomputable def L_sort_On : Nat → Option (List Nat) := fun k => none
noncomputable abbrev E_sort_On : Env := ⟨PP, gΓ, 14, L_sort_On, fun _ => false⟩
noncomputable def C_sort_On : Code := Tryd.f32.body.getD .skip
def W_sort_On (a0 a1 : AV) (H : Heap) (R : AV → Heap → Prop) : Prop :=
 condK a1 (
  ACalls PP gΓ sort_Of [a0] H fun x1 H2 =>
  ACalls PP gΓ sort_on [x1] H2 fun x3 H4 =>
  pureK (bop .plain .eql x3 (I 4)) fun x5 =>
  ret1 H4 R x5
 ) (
  ACalls PP gΓ sort_Of [a0] H fun x6 H7 =>
  ACalls PP gΓ sort_on [x6] H7 fun x8 H9 =>
  pureK (bop .plain .eql x8 (I 3)) fun x10 =>
  ret1 H9 R x10
 )
theorem K_sort_On (a0 a1 : AV) (H : Heap) (R : AV → Heap → Prop) : awp E_sort_On (drawK E_sort_On) C_sort_On (fun j => List.getD [a0, a1] j .dead) H (retK PP Tryd.f32.results.toList R) = W_sort_On a0 a1 H R := by kernel_rfl
theorem sort_On_of {a0 a1 : AV} {H : Heap} {R : AV → Heap → Prop} (h : W_sort_On a0 a1 H R) : ACalls PP gΓ sort_On [a0, a1] H R :=
  ACalls.of_awp (E := E_sort_On) follows_PP Tryd.func32 (c := C_sort_On) (by kernel_rfl) Tryd.ntmps32 ((K_sort_On a0 a1 H R) ▸ h)

noncomputable def L_settle_Settled : Nat → Option (List Nat) := fun k => none
noncomputable abbrev E_settle_Settled : Env := ⟨PP, gΓ, 12, L_settle_Settled, fun _ => false⟩
noncomputable def C_settle_Settled : Code := Tryd.f33.body.getD .skip
def W_settle_Settled (a0 : AV) (H : Heap) (R : AV → Heap → Prop) : Prop :=
 pureK (lnl a0) fun x1 =>
 pureK (bop .plain .gtr x1 (I 0)) fun x2 =>
 condK x2 (
  ACalls PP gΓ settle_Settle [a0] H fun x3 H4 =>
  ACalls PP gΓ row_Same [x3, a0] H4 fun x5 H6 =>
  ret1 H6 R x5
 ) (
  ret1 H R (B false)
 )
theorem K_settle_Settled (a0 : AV) (H : Heap) (R : AV → Heap → Prop) : awp E_settle_Settled (drawK E_settle_Settled) C_settle_Settled (fun j => List.getD [a0] j .dead) H (retK PP Tryd.f33.results.toList R) = W_settle_Settled a0 H R := by kernel_rfl
theorem settle_Settled_of {a0 : AV} {H : Heap} {R : AV → Heap → Prop} (h : W_settle_Settled a0 H R) : ACalls PP gΓ settle_Settled [a0] H R :=
  ACalls.of_awp (E := E_settle_Settled) follows_PP Tryd.func33 (c := C_settle_Settled) (by kernel_rfl) Tryd.ntmps33 ((K_settle_Settled a0 H R) ▸ h)

noncomputable def L_slices_ContainsFunc_string : Nat → Option (List Nat) := fun k => none
noncomputable abbrev E_slices_ContainsFunc_string : Env := ⟨PP, gΓ, 9, L_slices_ContainsFunc_string, fun _ => false⟩
noncomputable def C_slices_ContainsFunc_string : Code := Tryd.f34.body.getD .skip
def W_slices_ContainsFunc_string (a0 a1 : AV) (H : Heap) (R : AV → Heap → Prop) : Prop :=
 ACalls PP gΓ slices_IndexFunc_string [a0, a1] H fun x1 H2 =>
 pureK (bop .plain .geq x1 (I 0)) fun x3 =>
 ret1 H2 R x3
theorem K_slices_ContainsFunc_string (a0 a1 : AV) (H : Heap) (R : AV → Heap → Prop) : awp E_slices_ContainsFunc_string (drawK E_slices_ContainsFunc_string) C_slices_ContainsFunc_string (fun j => List.getD [a0, a1] j .dead) H (retK PP Tryd.f34.results.toList R) = W_slices_ContainsFunc_string a0 a1 H R := by kernel_rfl
theorem slices_ContainsFunc_string_of {a0 a1 : AV} {H : Heap} {R : AV → Heap → Prop} (h : W_slices_ContainsFunc_string a0 a1 H R) : ACalls PP gΓ slices_ContainsFunc_string [a0, a1] H R :=
  ACalls.of_awp (E := E_slices_ContainsFunc_string) follows_PP Tryd.func34 (c := C_slices_ContainsFunc_string) (by kernel_rfl) Tryd.ntmps34 ((K_slices_ContainsFunc_string a0 a1 H R) ▸ h)

noncomputable def L_slices_Equal_Node : Nat → Option (List Nat) := fun k => bif Nat.beq k 1004 then some [0, 1, 12, 13] else none
noncomputable abbrev E_slices_Equal_Node : Env := ⟨PP, gΓ, 26, L_slices_Equal_Node, fun _ => false⟩
noncomputable def C_slices_Equal_Node : Code := Tryd.f35.body.getD .skip
def W_slices_Equal_Node (a0 a1 : AV) (H : Heap) (R : AV → Heap → Prop) : Prop :=
 pureK (lnl a0) fun x1 =>
 pureK (lnl a1) fun x2 =>
 pureK (bop .plain .neq x1 x2) fun x3 =>
 condK x3 (
  ret1 H R (B false)
 ) (
  pureK (lnl a0) fun x4 =>
  ∃ J5 : List AV → Heap → Nat → Prop, (∃ (n11 : Nat) (H12 : Heap), H12 ≤ H ∧ J5 [a0, a1, x4, I 0] H12 n11) ∧ ∀ (vs6 : List AV) (H7 : Heap) (n8 : Nat), J5 vs6 H7 n8 →
  pureK (bop .plain .lss (nth vs6 3) (nth vs6 2)) fun x13 =>
  condK x13 (
   pureK (ias 3 (nth vs6 0) (nth vs6 3)) fun x14 =>
   pureK (ld (some true) 3 H7 x14) fun x15 =>
   pureK (ias 3 (nth vs6 1) (nth vs6 3)) fun x16 =>
   pureK (ld (some true) 3 H7 x16) fun x17 =>
   pureK (bop (.flat [.int, .str, .int]) .neq x15 x17) fun x18 =>
   condK x18 (
    ret1 H7 R (B false)
   ) (
    pureK (bop .plain .add (nth vs6 3) (I 1)) fun x19 =>
    (∃ (n9 : Nat) (H10 : Heap), n9 < n8 ∧ H10 ≤ H7 ∧ J5 [nth vs6 0, nth vs6 1, nth vs6 2, x19] H10 n9)
   )
  ) (
   ret1 H7 R (B true)
  )
 )
theorem K_slices_Equal_Node (a0 a1 : AV) (H : Heap) (R : AV → Heap → Prop) : awp E_slices_Equal_Node (drawK E_slices_Equal_Node) C_slices_Equal_Node (fun j => List.getD [a0, a1] j .dead) H (retK PP Tryd.f35.results.toList R) = W_slices_Equal_Node a0 a1 H R := by kernel_rfl
theorem slices_Equal_Node_of {a0 a1 : AV} {H : Heap} {R : AV → Heap → Prop} (h : W_slices_Equal_Node a0 a1 H R) : ACalls PP gΓ slices_Equal_Node [a0, a1] H R :=
  ACalls.of_awp (E := E_slices_Equal_Node) follows_PP Tryd.func35 (c := C_slices_Equal_Node) (by kernel_rfl) Tryd.ntmps35 ((K_slices_Equal_Node a0 a1 H R) ▸ h)

noncomputable def L_ref03_Arity : Nat → Option (List Nat) := fun k => none
noncomputable abbrev E_ref03_Arity : Env := ⟨PP, gΓ, 21, L_ref03_Arity, fun _ => false⟩
noncomputable def C_ref03_Arity : Code := Tryd.f36.body.getD .skip
def W_ref03_Arity (a0 : AV) (H : Heap) (R : AV → Heap → Prop) : Prop :=
 pureK (bop .plain .eql a0 (I 1)) fun x1 =>
 condK x1 (
  ret1 H R (I 0)
 ) (
  pureK (bop .plain .eql a0 (I 2)) fun x2 =>
  condK x2 (
   ret1 H R (I 0)
  ) (
   pureK (bop .plain .eql a0 (I 3)) fun x3 =>
   condK x3 (
    ret1 H R (I 0)
   ) (
    pureK (bop .plain .eql a0 (I 4)) fun x4 =>
    condK x4 (
     ret1 H R (I 0)
    ) (
     pureK (bop .plain .eql a0 (I 11)) fun x5 =>
     condK x5 (
      ret1 H R (I 0)
     ) (
      pureK (bop .plain .eql a0 (I 9)) fun x6 =>
      condK x6 (
       ret1 H R (I 1)
      ) (
       pureK (bop .plain .eql a0 (I 14)) fun x7 =>
       condK x7 (
        ret1 H R (I 1)
       ) (
        pureK (bop .plain .eql a0 (I 5)) fun x8 =>
        condK x8 (
         ret1 H R (I 2)
        ) (
         pureK (bop .plain .eql a0 (I 6)) fun x9 =>
         condK x9 (
          ret1 H R (I 2)
         ) (
          pureK (bop .plain .eql a0 (I 7)) fun x10 =>
          condK x10 (
           ret1 H R (I 2)
          ) (
           pureK (bop .plain .eql a0 (I 8)) fun x11 =>
           condK x11 (
            ret1 H R (I 2)
           ) (
            pureK (bop .plain .eql a0 (I 10)) fun x12 =>
            condK x12 (
             ret1 H R (I 2)
            ) (
             pureK (bop .plain .eql a0 (I 12)) fun x13 =>
             condK x13 (
              ret1 H R (I 2)
             ) (
              pureK (bop .plain .eql a0 (I 13)) fun x14 =>
              condK x14 (
               ret1 H R (I 2)
              ) (
               ret1 H R (I (-1))
              )
             )
            )
           )
          )
         )
        )
       )
      )
     )
    )
   )
  )
 )
theorem K_ref03_Arity (a0 : AV) (H : Heap) (R : AV → Heap → Prop) : awp E_ref03_Arity (drawK E_ref03_Arity) C_ref03_Arity (fun j => List.getD [a0] j .dead) H (retK PP Tryd.f36.results.toList R) = W_ref03_Arity a0 H R := by kernel_rfl
theorem ref03_Arity_of {a0 : AV} {H : Heap} {R : AV → Heap → Prop} (h : W_ref03_Arity a0 H R) : ACalls PP gΓ ref03_Arity [a0] H R :=
  ACalls.of_awp (E := E_ref03_Arity) follows_PP Tryd.func36 (c := C_ref03_Arity) (by kernel_rfl) Tryd.ntmps36 ((K_ref03_Arity a0 H R) ▸ h)

noncomputable def L_row_named : Nat → Option (List Nat) := fun k => none
noncomputable abbrev E_row_named : Env := ⟨PP, gΓ, 21, L_row_named, fun _ => false⟩
noncomputable def C_row_named : Code := Tryd.f37.body.getD .skip
def W_row_named (a0 : AV) (H : Heap) (R : AV → Heap → Prop) : Prop :=
 pureK (bop .plain .neq a0 (S emp)) fun x1 =>
 condK x1 (
  pureK (lns a0) fun x2 =>
  pureK (bop .plain .leq x2 (I 8)) fun x3 =>
  condK x3 (
   ACalls PP gΓ strings_Trim [a0, S s_abcdefghijklmnopqrstuvwxyz] H fun x4 H5 =>
   pureK (bop .plain .eql x4 (S emp)) fun x6 =>
   condK x6 (
    pureK (sla 6 1 g0 none none none) fun x7 =>
    ACalls PP gΓ slices_Contains_string [x7, a0] H5 fun x8 H9 =>
    pureK (unE .not x8) fun x10 =>
    ret1 H9 R x10
   ) (
    ret1 H5 R (B false)
   )
  ) (
   ret1 H R (B false)
  )
 ) (
  ret1 H R (B false)
 )
theorem K_row_named (a0 : AV) (H : Heap) (R : AV → Heap → Prop) : awp E_row_named (drawK E_row_named) C_row_named (fun j => List.getD [a0] j .dead) H (retK PP Tryd.f37.results.toList R) = W_row_named a0 H R := by kernel_rfl
theorem row_named_of {a0 : AV} {H : Heap} {R : AV → Heap → Prop} (h : W_row_named a0 H R) : ACalls PP gΓ row_named [a0] H R :=
  ACalls.of_awp (E := E_row_named) follows_PP Tryd.func37 (c := C_row_named) (by kernel_rfl) Tryd.ntmps37 ((K_row_named a0 H R) ▸ h)

noncomputable def L_row_Arity : Nat → Option (List Nat) := fun k => none
noncomputable abbrev E_row_Arity : Env := ⟨PP, gΓ, 21, L_row_Arity, fun _ => false⟩
noncomputable def C_row_Arity : Code := Tryd.f38.body.getD .skip
def W_row_Arity (a0 : AV) (H : Heap) (R : AV → Heap → Prop) : Prop :=
 pureK (bop .plain .eql a0 (I 1)) fun x1 =>
 condK x1 (
  ret1 H R (I 0)
 ) (
  pureK (bop .plain .eql a0 (I 2)) fun x2 =>
  condK x2 (
   ret1 H R (I 0)
  ) (
   pureK (bop .plain .eql a0 (I 3)) fun x3 =>
   condK x3 (
    ret1 H R (I 0)
   ) (
    pureK (bop .plain .eql a0 (I 4)) fun x4 =>
    condK x4 (
     ret1 H R (I 0)
    ) (
     pureK (bop .plain .eql a0 (I 11)) fun x5 =>
     condK x5 (
      ret1 H R (I 0)
     ) (
      pureK (bop .plain .eql a0 (I 9)) fun x6 =>
      condK x6 (
       ret1 H R (I 1)
      ) (
       pureK (bop .plain .eql a0 (I 14)) fun x7 =>
       condK x7 (
        ret1 H R (I 1)
       ) (
        pureK (bop .plain .eql a0 (I 5)) fun x8 =>
        condK x8 (
         ret1 H R (I 2)
        ) (
         pureK (bop .plain .eql a0 (I 6)) fun x9 =>
         condK x9 (
          ret1 H R (I 2)
         ) (
          pureK (bop .plain .eql a0 (I 7)) fun x10 =>
          condK x10 (
           ret1 H R (I 2)
          ) (
           pureK (bop .plain .eql a0 (I 8)) fun x11 =>
           condK x11 (
            ret1 H R (I 2)
           ) (
            pureK (bop .plain .eql a0 (I 10)) fun x12 =>
            condK x12 (
             ret1 H R (I 2)
            ) (
             pureK (bop .plain .eql a0 (I 12)) fun x13 =>
             condK x13 (
              ret1 H R (I 2)
             ) (
              pureK (bop .plain .eql a0 (I 13)) fun x14 =>
              condK x14 (
               ret1 H R (I 2)
              ) (
               ret1 H R (I (-1))
              )
             )
            )
           )
          )
         )
        )
       )
      )
     )
    )
   )
  )
 )
theorem K_row_Arity (a0 : AV) (H : Heap) (R : AV → Heap → Prop) : awp E_row_Arity (drawK E_row_Arity) C_row_Arity (fun j => List.getD [a0] j .dead) H (retK PP Tryd.f38.results.toList R) = W_row_Arity a0 H R := by kernel_rfl
theorem row_Arity_of {a0 : AV} {H : Heap} {R : AV → Heap → Prop} (h : W_row_Arity a0 H R) : ACalls PP gΓ row_Arity [a0] H R :=
  ACalls.of_awp (E := E_row_Arity) follows_PP Tryd.func38 (c := C_row_Arity) (by kernel_rfl) Tryd.ntmps38 ((K_row_Arity a0 H R) ▸ h)

noncomputable def L_sort_on : Nat → Option (List Nat) := fun k => none
noncomputable abbrev E_sort_on : Env := ⟨PP, gΓ, 11, L_sort_on, fun _ => false⟩
noncomputable def C_sort_on : Code := Tryd.f39.body.getD .skip
def W_sort_on (a0 : AV) (H : Heap) (R : AV → Heap → Prop) : Prop :=
 pureK (bop .plain .eql a0 (I 1)) fun x1 =>
 condK x1 (
  pureK (bop .plain .add a0 (I 3)) fun x2 =>
  pureK (bop .plain .sub x2 (I 1)) fun x3 =>
  ret1 H R x3
 ) (
  pureK (bop .plain .eql a0 (I 2)) fun x4 =>
  condK x4 (
   pureK (bop .plain .add a0 (I 3)) fun x5 =>
   pureK (bop .plain .sub x5 (I 1)) fun x6 =>
   ret1 H R x6
  ) (
   ret1 H R a0
  )
 )
theorem K_sort_on (a0 : AV) (H : Heap) (R : AV → Heap → Prop) : awp E_sort_on (drawK E_sort_on) C_sort_on (fun j => List.getD [a0] j .dead) H (retK PP Tryd.f39.results.toList R) = W_sort_on a0 H R := by kernel_rfl
theorem sort_on_of {a0 : AV} {H : Heap} {R : AV → Heap → Prop} (h : W_sort_on a0 H R) : ACalls PP gΓ sort_on [a0] H R :=
  ACalls.of_awp (E := E_sort_on) follows_PP Tryd.func39 (c := C_sort_on) (by kernel_rfl) Tryd.ntmps39 ((K_sort_on a0 H R) ▸ h)

noncomputable def L_sort_Of : Nat → Option (List Nat) := fun k => none
noncomputable abbrev E_sort_Of : Env := ⟨PP, gΓ, 8, L_sort_Of, fun _ => false⟩
noncomputable def C_sort_Of : Code := Tryd.f40.body.getD .skip
def W_sort_Of (a0 : AV) (H : Heap) (R : AV → Heap → Prop) : Prop :=
 ACalls PP gΓ row_Whole [a0] H fun x1 H2 =>
 pureK (unE .not x1) fun x3 =>
 condK x3 (
  ret1 H2 R (I 0)
 ) (
  ACalls PP gΓ sort_sort [a0] H2 fun x4 H5 =>
  ret1 H5 R x4
 )
theorem K_sort_Of (a0 : AV) (H : Heap) (R : AV → Heap → Prop) : awp E_sort_Of (drawK E_sort_Of) C_sort_Of (fun j => List.getD [a0] j .dead) H (retK PP Tryd.f40.results.toList R) = W_sort_Of a0 H R := by kernel_rfl
theorem sort_Of_of {a0 : AV} {H : Heap} {R : AV → Heap → Prop} (h : W_sort_Of a0 H R) : ACalls PP gΓ sort_Of [a0] H R :=
  ACalls.of_awp (E := E_sort_Of) follows_PP Tryd.func40 (c := C_sort_Of) (by kernel_rfl) Tryd.ntmps40 ((K_sort_Of a0 H R) ▸ h)

noncomputable def L_settle_Settle : Nat → Option (List Nat) := fun k => none
noncomputable abbrev E_settle_Settle : Env := ⟨PP, gΓ, 20, L_settle_Settle, fun _ => false⟩
noncomputable def C_settle_Settle : Code := Tryd.f41.body.getD .skip
def W_settle_Settle (a0 : AV) (H : Heap) (R : AV → Heap → Prop) : Prop :=
 ACalls PP gΓ sort_On [a0, B false] H fun x1 H2 =>
 pureK (unE .not x1) fun x3 =>
 condK x3 (
  ACalls PP gΓ sort_On [a0, B true] H2 fun x4 H5 =>
  pureK (unE .not x4) fun x6 =>
  condK x6 (
   ret1 H5 R (.lst 0 [] .exact)
  ) (
   ACalls PP gΓ settle_settle [a0] H5 fun x7 H8 =>
   pureK (lnl x7) fun x9 =>
   pureK (bop .plain .gtr x9 (I 200)) fun x10 =>
   condK x10 (
    ret1 H8 R (.lst 0 [] .exact)
   ) (
    pureK (bsl 3 (.agg [.sc (.int .i64 0), S emp, .sc (.int .i64 0)]) 0 []) fun x11 =>
    appK 3 x11 x7 H8 fun x12 H13 =>
    ret1 H13 R x12
   )
  )
 ) (
  ACalls PP gΓ settle_settle [a0] H2 fun x14 H15 =>
  pureK (lnl x14) fun x16 =>
  pureK (bop .plain .gtr x16 (I 200)) fun x17 =>
  condK x17 (
   ret1 H15 R (.lst 0 [] .exact)
  ) (
   pureK (bsl 3 (.agg [.sc (.int .i64 0), S emp, .sc (.int .i64 0)]) 0 []) fun x18 =>
   appK 3 x18 x14 H15 fun x19 H20 =>
   ret1 H20 R x19
  )
 )
theorem K_settle_Settle (a0 : AV) (H : Heap) (R : AV → Heap → Prop) : awp E_settle_Settle (drawK E_settle_Settle) C_settle_Settle (fun j => List.getD [a0] j .dead) H (retK PP Tryd.f41.results.toList R) = W_settle_Settle a0 H R := by kernel_rfl
theorem settle_Settle_of {a0 : AV} {H : Heap} {R : AV → Heap → Prop} (h : W_settle_Settle a0 H R) : ACalls PP gΓ settle_Settle [a0] H R :=
  ACalls.of_awp (E := E_settle_Settle) follows_PP Tryd.func41 (c := C_settle_Settle) (by kernel_rfl) Tryd.ntmps41 ((K_settle_Settle a0 H R) ▸ h)

noncomputable def L_slices_IndexFunc_string : Nat → Option (List Nat) := fun k => bif Nat.beq k 1002 then some [0, 1, 7, 8] else none
noncomputable abbrev E_slices_IndexFunc_string : Env := ⟨PP, gΓ, 19, L_slices_IndexFunc_string, fun _ => false⟩
noncomputable def C_slices_IndexFunc_string : Code := Tryd.f42.body.getD .skip
def W_slices_IndexFunc_string (a0 a1 : AV) (H : Heap) (R : AV → Heap → Prop) : Prop :=
 pureK (lnl a0) fun x1 =>
 ∃ J2 : List AV → Heap → Nat → Prop, (∃ (n8 : Nat) (H9 : Heap), H9 ≤ H ∧ J2 [a0, a1, x1, I 0] H9 n8) ∧ ∀ (vs3 : List AV) (H4 : Heap) (n5 : Nat), J2 vs3 H4 n5 →
 pureK (bop .plain .lss (nth vs3 3) (nth vs3 2)) fun x10 =>
 condK x10 (
  pureK (ias 1 (nth vs3 0) (nth vs3 3)) fun x11 =>
  pureK (ld (some false) 1 H4 x11) fun x12 =>
  callK (E_slices_IndexFunc_string) (nth vs3 1) [x12] H4 fun x13 H14 =>
  condK x13 (
   ret1 H14 R (nth vs3 3)
  ) (
   pureK (bop .plain .add (nth vs3 3) (I 1)) fun x15 =>
   (∃ (n6 : Nat) (H7 : Heap), n6 < n5 ∧ H7 ≤ H14 ∧ J2 [nth vs3 0, nth vs3 1, nth vs3 2, x15] H7 n6)
  )
 ) (
  ret1 H4 R (I (-1))
 )
theorem K_slices_IndexFunc_string (a0 a1 : AV) (H : Heap) (R : AV → Heap → Prop) : awp E_slices_IndexFunc_string (drawK E_slices_IndexFunc_string) C_slices_IndexFunc_string (fun j => List.getD [a0, a1] j .dead) H (retK PP Tryd.f42.results.toList R) = W_slices_IndexFunc_string a0 a1 H R := by kernel_rfl
theorem slices_IndexFunc_string_of {a0 a1 : AV} {H : Heap} {R : AV → Heap → Prop} (h : W_slices_IndexFunc_string a0 a1 H R) : ACalls PP gΓ slices_IndexFunc_string [a0, a1] H R :=
  ACalls.of_awp (E := E_slices_IndexFunc_string) follows_PP Tryd.func42 (c := C_slices_IndexFunc_string) (by kernel_rfl) Tryd.ntmps42 ((K_slices_IndexFunc_string a0 a1 H R) ▸ h)

noncomputable def L_strings_Trim : Nat → Option (List Nat) := fun k => none
noncomputable abbrev E_strings_Trim : Env := ⟨PP, gΓ, 43, L_strings_Trim, fun _ => false⟩
noncomputable def C_strings_Trim : Code := Tryd.f43.body.getD .skip
def W_strings_Trim (a0 a1 : AV) (H : Heap) (R : AV → Heap → Prop) : Prop :=
 pureK (bop .plain .eql a0 (S emp)) fun x1 =>
 condK x1 (
  ret1 H R a0
 ) (
  pureK (bop .plain .eql a1 (S emp)) fun x2 =>
  condK x2 (
   ret1 H R a0
  ) (
   pureK (lns a1) fun x3 =>
   pureK (bop .plain .eql x3 (I 1)) fun x4 =>
   condK x4 (
    pureK (ixs a1 (I 0)) fun x5 =>
    pureK (bop .plain .lss x5 (.sc (.int .u8 128))) fun x6 =>
    condK x6 (
     pureK (ixs a1 (I 0)) fun x7 =>
     ∃ x8, AReads PP gΓ strings_trimRightByte [a0, x7] H x8 ∧
     pureK (ixs a1 (I 0)) fun x9 =>
     ACalls PP gΓ strings_trimLeftByte [x8, x9] H fun x10 H11 =>
     ret1 H11 R x10
    ) (
     ACalls PP gΓ strings_makeASCIISet [a1] H fun x12 H13 =>
     pureK (extractE x12 0) fun x14 =>
     pureK (extractE x12 1) fun x15 =>
     allocP (List.replicate 256 (B false)) H13 fun o16 H17 =>
     heapK (st 256 H17 (.ptr o16 0) x14) fun H18 =>
     condK x15 (
      ACalls PP gΓ strings_trimRightASCII [a0, .ptr o16 0] H18 fun x19 H20 =>
      ACalls PP gΓ strings_trimLeftASCII [x19, .ptr o16 0] H20 fun x21 H22 =>
      ret1 H22 R x21
     ) (
      ACalls PP gΓ strings_trimRightUnicode [a0, a1] H18 fun x23 H24 =>
      ACalls PP gΓ strings_trimLeftUnicode [x23, a1] H24 fun x25 H26 =>
      ret1 H26 R x25
     )
    )
   ) (
    ACalls PP gΓ strings_makeASCIISet [a1] H fun x27 H28 =>
    pureK (extractE x27 0) fun x29 =>
    pureK (extractE x27 1) fun x30 =>
    allocP (List.replicate 256 (B false)) H28 fun o31 H32 =>
    heapK (st 256 H32 (.ptr o31 0) x29) fun H33 =>
    condK x30 (
     ACalls PP gΓ strings_trimRightASCII [a0, .ptr o31 0] H33 fun x34 H35 =>
     ACalls PP gΓ strings_trimLeftASCII [x34, .ptr o31 0] H35 fun x36 H37 =>
     ret1 H37 R x36
    ) (
     ACalls PP gΓ strings_trimRightUnicode [a0, a1] H33 fun x38 H39 =>
     ACalls PP gΓ strings_trimLeftUnicode [x38, a1] H39 fun x40 H41 =>
     ret1 H41 R x40
    )
   )
  )
 )
theorem K_strings_Trim (a0 a1 : AV) (H : Heap) (R : AV → Heap → Prop) : awp E_strings_Trim (drawK E_strings_Trim) C_strings_Trim (fun j => List.getD [a0, a1] j .dead) H (retK PP Tryd.f43.results.toList R) = W_strings_Trim a0 a1 H R := by kernel_rfl
theorem strings_Trim_of {a0 a1 : AV} {H : Heap} {R : AV → Heap → Prop} (h : W_strings_Trim a0 a1 H R) : ACalls PP gΓ strings_Trim [a0, a1] H R :=
  ACalls.of_awp (E := E_strings_Trim) follows_PP Tryd.func43 (c := C_strings_Trim) (by kernel_rfl) Tryd.ntmps43 ((K_strings_Trim a0 a1 H R) ▸ h)

noncomputable def L_slices_Contains_string : Nat → Option (List Nat) := fun k => none
noncomputable abbrev E_slices_Contains_string : Env := ⟨PP, gΓ, 9, L_slices_Contains_string, fun _ => false⟩
noncomputable def C_slices_Contains_string : Code := Tryd.f44.body.getD .skip
def W_slices_Contains_string (a0 a1 : AV) (H : Heap) (R : AV → Heap → Prop) : Prop :=
 ACalls PP gΓ slices_Index_string [a0, a1] H fun x1 H2 =>
 pureK (bop .plain .geq x1 (I 0)) fun x3 =>
 ret1 H2 R x3
theorem K_slices_Contains_string (a0 a1 : AV) (H : Heap) (R : AV → Heap → Prop) : awp E_slices_Contains_string (drawK E_slices_Contains_string) C_slices_Contains_string (fun j => List.getD [a0, a1] j .dead) H (retK PP Tryd.f44.results.toList R) = W_slices_Contains_string a0 a1 H R := by kernel_rfl
theorem slices_Contains_string_of {a0 a1 : AV} {H : Heap} {R : AV → Heap → Prop} (h : W_slices_Contains_string a0 a1 H R) : ACalls PP gΓ slices_Contains_string [a0, a1] H R :=
  ACalls.of_awp (E := E_slices_Contains_string) follows_PP Tryd.func44 (c := C_slices_Contains_string) (by kernel_rfl) Tryd.ntmps44 ((K_slices_Contains_string a0 a1 H R) ▸ h)

noncomputable def L_row_Whole : Nat → Option (List Nat) := fun k => none
noncomputable abbrev E_row_Whole : Env := ⟨PP, gΓ, 25, L_row_Whole, fun _ => false⟩
noncomputable def C_row_Whole : Code := Tryd.f45.body.getD .skip
def W_row_Whole (a0 : AV) (H : Heap) (R : AV → Heap → Prop) : Prop :=
 pureK (lnl a0) fun x1 =>
 pureK (bop .plain .gtr x1 (I 0)) fun x2 =>
 condK x2 (
  pureK (lnl a0) fun x3 =>
  pureK (bop .plain .leq x3 (I 200)) fun x4 =>
  condK x4 (
   ACalls PP gΓ slices_ContainsFunc_Node [a0, .fn (.func row_Whole_1) [] []] H fun x5 H6 =>
   pureK (unE .not x5) fun x7 =>
   condK x7 (
    ACalls PP gΓ row_Size [a0] H6 fun x8 H9 =>
    pureK (lnl a0) fun x10 =>
    pureK (bop .plain .eql x8 x10) fun x11 =>
    ret1 H9 R x11
   ) (
    ret1 H6 R (B false)
   )
  ) (
   ret1 H R (B false)
  )
 ) (
  ret1 H R (B false)
 )
theorem K_row_Whole (a0 : AV) (H : Heap) (R : AV → Heap → Prop) : awp E_row_Whole (drawK E_row_Whole) C_row_Whole (fun j => List.getD [a0] j .dead) H (retK PP Tryd.f45.results.toList R) = W_row_Whole a0 H R := by kernel_rfl
theorem row_Whole_of {a0 : AV} {H : Heap} {R : AV → Heap → Prop} (h : W_row_Whole a0 H R) : ACalls PP gΓ row_Whole [a0] H R :=
  ACalls.of_awp (E := E_row_Whole) follows_PP Tryd.func45 (c := C_row_Whole) (by kernel_rfl) Tryd.ntmps45 ((K_row_Whole a0 H R) ▸ h)

noncomputable def L_sort_sort : Nat → Option (List Nat) := fun k => bif Nat.beq k 1003 then some [0, 3, 8, 9, 10] else none
noncomputable abbrev E_sort_sort : Env := ⟨PP, gΓ, 136, L_sort_sort, fun _ => false⟩
noncomputable def C_sort_sort : Code := Tryd.f46.body.getD .skip
def W_sort_sort (a0 : AV) (H : Heap) (R : AV → Heap → Prop) : Prop :=
 ACalls PP gΓ row_Kids [a0] H fun x1 H2 =>
 pureK (lnl x1) fun x3 =>
 ∃ J4 : List AV → Heap → Nat → Prop, (∃ (n10 : Nat) (H11 : Heap), H11 ≤ H2 ∧ J4 [a0, .lst 0 [] .exact, x1, x3, I 0] H11 n10) ∧ ∀ (vs5 : List AV) (H6 : Heap) (n7 : Nat), J4 vs5 H6 n7 →
 pureK (bop .plain .lss (nth vs5 4) (nth vs5 3)) fun x12 =>
 condK x12 (
  pureK (ias 1 (nth vs5 2) (nth vs5 4)) fun x13 =>
  pureK (ld (some false) 1 H6 x13) fun x14 =>
  ACalls PP gΓ sort_sort [x14] H6 fun x15 H16 =>
  pureK (bop .plain .eql x15 (I 0)) fun x17 =>
  condK x17 (
   ret1 H16 R (I 0)
  ) (
   pureK (bsl 1 (.sc (.int .i64 0)) 1 [(0, x15)]) fun x18 =>
   appK 1 (nth vs5 1) x18 H16 fun x19 H20 =>
   pureK (bop .plain .add (nth vs5 4) (I 1)) fun x21 =>
   (∃ (n8 : Nat) (H9 : Heap), n8 < n7 ∧ H9 ≤ H20 ∧ J4 [nth vs5 0, x19, nth vs5 2, nth vs5 3, x21] H9 n8)
  )
 ) (
  pureK (ias 3 (nth vs5 0) (I 0)) fun x22 =>
  pureK (fa 0 x22) fun x23 =>
  pureK (ld (some false) 1 H6 x23) fun x24 =>
  pureK (bop .plain .eql x24 (I 1)) fun x25 =>
  condK x25 (
   ret1 H6 R (I 1)
  ) (
   pureK (bop .plain .eql x24 (I 2)) fun x26 =>
   condK x26 (
    ret1 H6 R (I 1)
   ) (
    pureK (bop .plain .eql x24 (I 3)) fun x27 =>
    condK x27 (
     ret1 H6 R (I 1)
    ) (
     pureK (bop .plain .eql x24 (I 4)) fun x28 =>
     condK x28 (
      ret1 H6 R (I 1)
     ) (
      pureK (bop .plain .eql x24 (I 11)) fun x29 =>
      condK x29 (
       ret1 H6 R (I 3)
      ) (
       pureK (bop .plain .eql x24 (I 6)) fun x30 =>
       condK x30 (
        pureK (ias 1 (nth vs5 1) (I 0)) fun x31 =>
        pureK (ld (some false) 1 H6 x31) fun x32 =>
        pureK (bop .plain .gtr x32 (I 2)) fun x33 =>
        condK x33 (
         ret1 H6 R (I 0)
        ) (
         pureK (ias 1 (nth vs5 1) (I 1)) fun x34 =>
         pureK (ld (some false) 1 H6 x34) fun x35 =>
         pureK (bop .plain .gtr x35 (I 2)) fun x36 =>
         condK x36 (
          ret1 H6 R (I 0)
         ) (
          pureK (ias 1 (nth vs5 1) (I 0)) fun x37 =>
          pureK (ld (some false) 1 H6 x37) fun x38 =>
          pureK (ias 1 (nth vs5 1) (I 1)) fun x39 =>
          pureK (ld (some false) 1 H6 x39) fun x40 =>
          ACalls PP gΓ sort_both [x38, x40] H6 fun x41 H42 =>
          ret1 H42 R x41
         )
        )
       ) (
        pureK (bop .plain .eql x24 (I 7)) fun x43 =>
        condK x43 (
         pureK (ias 1 (nth vs5 1) (I 0)) fun x44 =>
         pureK (ld (some false) 1 H6 x44) fun x45 =>
         pureK (ias 1 (nth vs5 1) (I 1)) fun x46 =>
         pureK (ld (some false) 1 H6 x46) fun x47 =>
         ACalls PP gΓ sort_both [x45, x47] H6 fun x48 H49 =>
         ret1 H49 R x48
        ) (
         pureK (bop .plain .eql x24 (I 5)) fun x50 =>
         condK x50 (
          pureK (ias 1 (nth vs5 1) (I 0)) fun x51 =>
          pureK (ld (some false) 1 H6 x51) fun x52 =>
          pureK (ias 1 (nth vs5 1) (I 1)) fun x53 =>
          pureK (ld (some false) 1 H6 x53) fun x54 =>
          ∃ x55, AReads PP gΓ sort_behind [x52, x54, I 1] H6 x55 ∧
          pureK (ias 1 (nth vs5 1) (I 0)) fun x56 =>
          pureK (ld (some false) 1 H6 x56) fun x57 =>
          pureK (ias 1 (nth vs5 1) (I 1)) fun x58 =>
          pureK (ld (some false) 1 H6 x58) fun x59 =>
          ACalls PP gΓ sort_behind [x57, x59, I 2] H6 fun x60 H61 =>
          pureK (maxE [x55, x60]) fun x62 =>
          ret1 H61 R x62
         ) (
          pureK (bop .plain .eql x24 (I 8)) fun x63 =>
          condK x63 (
           pureK (ias 1 (nth vs5 1) (I 0)) fun x64 =>
           pureK (ld (some false) 1 H6 x64) fun x65 =>
           pureK (ias 1 (nth vs5 1) (I 1)) fun x66 =>
           pureK (ld (some false) 1 H6 x66) fun x67 =>
           ACalls PP gΓ sort_behind [x65, x67, I 1] H6 fun x68 H69 =>
           ret1 H69 R x68
          ) (
           pureK (bop .plain .eql x24 (I 9)) fun x70 =>
           condK x70 (
            pureK (ias 1 (nth vs5 1) (I 0)) fun x71 =>
            pureK (ld (some false) 1 H6 x71) fun x72 =>
            ACalls PP gΓ sort_on [x72] H6 fun x73 H74 =>
            pureK (bop .plain .eql x73 (I 4)) fun x75 =>
            condK x75 (
             pureK (ias 1 (nth vs5 1) (I 0)) fun x76 =>
             pureK (ld (some false) 1 H74 x76) fun x77 =>
             pureK (bop .plain .sub x77 (I 1)) fun x78 =>
             ret1 H74 R x78
            ) (
             ret1 H74 R (I 0)
            )
           ) (
            pureK (bop .plain .eql x24 (I 10)) fun x79 =>
            condK x79 (
             pureK (ias 1 (nth vs5 1) (I 0)) fun x80 =>
             pureK (ld (some false) 1 H6 x80) fun x81 =>
             pureK (bop .plain .eql x81 (I 1)) fun x82 =>
             condK x82 (
              pureK (ias 1 (nth vs5 1) (I 1)) fun x83 =>
              pureK (ld (some false) 1 H6 x83) fun x84 =>
              pureK (bop .plain .eql x84 (I 1)) fun x85 =>
              condK x85 (
               ret1 H6 R (I 2)
              ) (
               ret1 H6 R (I 0)
              )
             ) (
              ret1 H6 R (I 0)
             )
            ) (
             pureK (bop .plain .eql x24 (I 12)) fun x86 =>
             condK x86 (
              pureK (ias 1 (nth vs5 1) (I 0)) fun x87 =>
              pureK (ld (some false) 1 H6 x87) fun x88 =>
              ACalls PP gΓ sort_on [x88] H6 fun x89 H90 =>
              pureK (bop .plain .eql x89 (I 3)) fun x91 =>
              condK x91 (
               pureK (ias 1 (nth vs5 1) (I 1)) fun x92 =>
               pureK (ld (some false) 1 H90 x92) fun x93 =>
               pureK (bop .plain .eql x93 (I 1)) fun x94 =>
               condK x94 (
                ret1 H90 R (I 4)
               ) (
                ret1 H90 R (I 0)
               )
              ) (
               ret1 H90 R (I 0)
              )
             ) (
              pureK (bop .plain .eql x24 (I 13)) fun x95 =>
              condK x95 (
               pureK (ias 1 (nth vs5 1) (I 0)) fun x96 =>
               pureK (ld (some false) 1 H6 x96) fun x97 =>
               ACalls PP gΓ sort_on [x97] H6 fun x98 H99 =>
               pureK (bop .plain .eql x98 (I 4)) fun x100 =>
               condK x100 (
                pureK (ias 1 (nth vs5 1) (I 1)) fun x101 =>
                pureK (ld (some false) 1 H99 x101) fun x102 =>
                pureK (bop .plain .eql x102 (I 1)) fun x103 =>
                condK x103 (
                 ret1 H99 R (I 4)
                ) (
                 ret1 H99 R (I 0)
                )
               ) (
                ret1 H99 R (I 0)
               )
              ) (
               pureK (bop .plain .eql x24 (I 14)) fun x104 =>
               condK x104 (
                pureK (ias 1 (nth vs5 1) (I 0)) fun x105 =>
                pureK (ld (some false) 1 H6 x105) fun x106 =>
                pureK (bop .plain .eql x106 (I 1)) fun x107 =>
                condK x107 (
                 ret1 H6 R (I 4)
                ) (
                 ret1 H6 R (I 0)
                )
               ) (
                ret1 H6 R (I 0)
               )
              )
             )
            )
           )
          )
         )
        )
       )
      )
     )
    )
   )
  )
 )
theorem K_sort_sort (a0 : AV) (H : Heap) (R : AV → Heap → Prop) : awp E_sort_sort (drawK E_sort_sort) C_sort_sort (fun j => List.getD [a0] j .dead) H (retK PP Tryd.f46.results.toList R) = W_sort_sort a0 H R := by kernel_rfl
theorem sort_sort_of {a0 : AV} {H : Heap} {R : AV → Heap → Prop} (h : W_sort_sort a0 H R) : ACalls PP gΓ sort_sort [a0] H R :=
  ACalls.of_awp (E := E_sort_sort) follows_PP Tryd.func46 (c := C_sort_sort) (by kernel_rfl) Tryd.ntmps46 ((K_sort_sort a0 H R) ▸ h)

noncomputable def L_settle_settle : Nat → Option (List Nat) := fun k => none
noncomputable abbrev E_settle_settle : Env := ⟨PP, gΓ, 127, L_settle_settle, fun f => Nat.beq f row_Kids⟩
noncomputable def C_settle_settle : Code := Tryd.f47.body.getD .skip
def W_settle_settle (a0 : AV) (H : Heap) (R : AV → Heap → Prop) : Prop :=
 ∃ fp1 : Option Nat, (∀ p, fp1 = some p → H p ≠ none) ∧
 pureK (ias 3 a0 (I 0)) fun x2 =>
 pureK (ld (some true) 3 (rem H fp1) x2) fun x3 =>
 ∃ φ4 v5, AMakes PP gΓ row_Kids [a0] H fp1 φ4 ∧ MkVal φ4 v5 ∧
 ∀ rf6 ob7, φ4 rf6 ob7 → madeK fp1 H rf6 ob7 fun x8 H9 =>
 allocP [.sc (.int .i64 0), S emp, .sc (.int .i64 0)] H9 fun o10 H11 =>
 heapK (st 3 H11 (.ptr o10 0) x3) fun H12 =>
 pureK (fa 0 (.ptr o10 0)) fun x13 =>
 pureK (ld (some false) 1 H12 x13) fun x14 =>
 pureK (bop .plain .eql x14 (I 2)) fun x15 =>
 condK x15 (
  ACalls PP gΓ settle_over [I 1] H12 fun x16 H17 =>
  ret1 H17 R x16
 ) (
  pureK (bop .plain .eql x14 (I 3)) fun x18 =>
  condK x18 (
   ACalls PP gΓ settle_over [I 2] H12 fun x19 H20 =>
   ret1 H20 R x19
  ) (
   pureK (bop .plain .eql x14 (I 8)) fun x21 =>
   condK x21 (
    pureK (ld (some true) 3 H12 (.ptr o10 0)) fun x22 =>
    pureK (ias 1 x8 (I 0)) fun x23 =>
    pureK (ld (some false) 1 H12 x23) fun x24 =>
    ∃ x25, AReads PP gΓ settle_settle [x24] H12 x25 ∧
    pureK (ias 1 x8 (I 1)) fun x26 =>
    pureK (ld (some false) 1 H12 x26) fun x27 =>
    ACalls PP gΓ settle_behind [x22, x25, x27, I 2] H12 fun x28 H29 =>
    ret1 H29 R x28
   ) (
    pureK (bop .plain .eql x14 (I 5)) fun x30 =>
    condK x30 (
     pureK (ias 1 x8 (I 0)) fun x31 =>
     pureK (ld (some false) 1 H12 x31) fun x32 =>
     ACalls PP gΓ settle_settle [x32] H12 fun x33 H34 =>
     pureK (ias 3 x33 (I 0)) fun x35 =>
     pureK (fa 0 x35) fun x36 =>
     pureK (ld (some false) 1 H34 x36) fun x37 =>
     pureK (bop .plain .neq x37 (I 14)) fun x38 =>
     condK x38 (
      pureK (ld (some true) 3 H34 (.ptr o10 0)) fun x39 =>
      pureK (ias 1 x8 (I 1)) fun x40 =>
      pureK (ld (some false) 1 H34 x40) fun x41 =>
      ACalls PP gΓ settle_behind [x39, x33, x41, I 1] H34 fun x42 H43 =>
      ret1 H43 R x42
     ) (
      pureK (ias 3 x33 (I 0)) fun x44 =>
      pureK (fa 2 x44) fun x45 =>
      pureK (ld (some false) 1 H34 x45) fun x46 =>
      pureK (bop .plain .neq x46 (I 1)) fun x47 =>
      condK x47 (
       ret1 H34 R x33
      ) (
       pureK (ias 1 x8 (I 1)) fun x48 =>
       pureK (ld (some false) 1 H34 x48) fun x49 =>
       ∃ x50, AReads PP gΓ settle_settle [x49] H34 x50 ∧
       pureK (sll 3 x33 (some (I 1)) none none) fun x51 =>
       ACalls PP gΓ settle_stack [x50, x51] H34 fun x52 H53 =>
       ret1 H53 R x52
      )
     )
    ) (
     pureK (bop .plain .eql x14 (I 13)) fun x54 =>
     condK x54 (
      pureK (ias 1 x8 (I 0)) fun x55 =>
      pureK (ld (some false) 1 H12 x55) fun x56 =>
      ∃ x57, AReads PP gΓ settle_settle [x56] H12 x57 ∧
      pureK (ias 1 x8 (I 1)) fun x58 =>
      pureK (ld (some false) 1 H12 x58) fun x59 =>
      ACalls PP gΓ settle_stack [x57, x59] H12 fun x60 H61 =>
      ret1 H61 R x60
     ) (
      pureK (bop .plain .eql x14 (I 12)) fun x62 =>
      condK x62 (
       pureK (ias 1 x8 (I 0)) fun x63 =>
       pureK (ld (some false) 1 H12 x63) fun x64 =>
       ACalls PP gΓ settle_settle [x64] H12 fun x65 H66 =>
       ACalls PP gΓ settle_Ended [x65] H66 fun x67 H68 =>
       pureK (extractE x67 0) fun x69 =>
       pureK (extractE x67 1) fun x70 =>
       pureK (unE .not x70) fun x71 =>
       condK x71 (
        pureK (ld (some true) 3 H68 (.ptr o10 0)) fun x72 =>
        pureK (ias 1 x8 (I 1)) fun x73 =>
        pureK (ld (some false) 1 H68 x73) fun x74 =>
        pureK (bsl 1 (.lst 0 [] .exact) 2 [(0, x65), (1, x74)]) fun x75 =>
        ACalls PP gΓ row_Make [x72, x75] H68 fun x76 H77 =>
        ret1 H77 R x76
       ) (
        pureK (bop .plain .neq x69 (I 1)) fun x78 =>
        condK x78 (
         pureK (bld [(0, 1), (1, 1), (2, 1)] [.sc (.int .i64 0), S emp, .sc (.int .i64 0)] [(0, I 2)]) fun x79 =>
         pureK (bsl 3 (.agg [.sc (.int .i64 0), S emp, .sc (.int .i64 0)]) 1 [(0, x79)]) fun x80 =>
         pureK (ias 1 x8 (I 1)) fun x81 =>
         heapK (st 1 H68 x81 x80) fun H82 =>
         pureK (ias 1 x8 (I 1)) fun x83 =>
         pureK (ld (some false) 1 H82 x83) fun x84 =>
         ACalls PP gΓ settle_end [x69, x84] H82 fun x85 H86 =>
         ret1 H86 R x85
        ) (
         pureK (ias 1 x8 (I 1)) fun x87 =>
         pureK (ld (some false) 1 H68 x87) fun x88 =>
         ACalls PP gΓ settle_end [x69, x88] H68 fun x89 H90 =>
         ret1 H90 R x89
        )
       )
      ) (
       pureK (bop .plain .eql x14 (I 7)) fun x91 =>
       condK x91 (
        pureK (ld (some true) 3 H12 (.ptr o10 0)) fun x92 =>
        pureK (ias 1 x8 (I 0)) fun x93 =>
        pureK (ld (some false) 1 H12 x93) fun x94 =>
        ∃ x95, AReads PP gΓ settle_settle [x94] H12 x95 ∧
        pureK (ias 1 x8 (I 1)) fun x96 =>
        pureK (ld (some false) 1 H12 x96) fun x97 =>
        ∃ x98, AReads PP gΓ settle_settle [x97] H12 x98 ∧
        ACalls PP gΓ settle_par [x92, x95, x98] H12 fun x99 H100 =>
        ret1 H100 R x99
       ) (
        pureK (bop .plain .eql x14 (I 9)) fun x101 =>
        condK x101 (
         pureK (ld (some true) 3 H12 (.ptr o10 0)) fun x102 =>
         pureK (ias 1 x8 (I 0)) fun x103 =>
         pureK (ld (some false) 1 H12 x103) fun x104 =>
         ∃ x105, AReads PP gΓ settle_settle [x104] H12 x105 ∧
         ACalls PP gΓ settle_block [x102, x105] H12 fun x106 H107 =>
         ret1 H107 R x106
        ) (
         ret1 H12 R a0
        )
       )
      )
     )
    )
   )
  )
 )
theorem K_settle_settle (a0 : AV) (H : Heap) (R : AV → Heap → Prop) : awp E_settle_settle (drawK E_settle_settle) C_settle_settle (fun j => List.getD [a0] j .dead) H (retK PP Tryd.f47.results.toList R) = W_settle_settle a0 H R := by kernel_rfl
theorem settle_settle_of {a0 : AV} {H : Heap} {R : AV → Heap → Prop} (h : W_settle_settle a0 H R) : ACalls PP gΓ settle_settle [a0] H R :=
  ACalls.of_awp (E := E_settle_settle) follows_PP Tryd.func47 (c := C_settle_settle) (by kernel_rfl) Tryd.ntmps47 ((K_settle_settle a0 H R) ▸ h)

noncomputable def L_strings_trimLeftByte : Nat → Option (List Nat) := fun k => bif Nat.beq k 1001 then some [0, 1] else none
noncomputable abbrev E_strings_trimLeftByte : Env := ⟨PP, gΓ, 17, L_strings_trimLeftByte, fun _ => false⟩
noncomputable def C_strings_trimLeftByte : Code := Tryd.f48.body.getD .skip
def W_strings_trimLeftByte (a0 a1 : AV) (H : Heap) (R : AV → Heap → Prop) : Prop :=
 ∃ J1 : List AV → Heap → Nat → Prop, (∃ (n7 : Nat) (H8 : Heap), H8 ≤ H ∧ J1 [a0, a1] H8 n7) ∧ ∀ (vs2 : List AV) (H3 : Heap) (n4 : Nat), J1 vs2 H3 n4 →
 pureK (lns (nth vs2 0)) fun x9 =>
 pureK (bop .plain .gtr x9 (I 0)) fun x10 =>
 condK x10 (
  pureK (ixs (nth vs2 0) (I 0)) fun x11 =>
  pureK (bop .plain .eql x11 (nth vs2 1)) fun x12 =>
  condK x12 (
   pureK (sls (nth vs2 0) (some (I 1)) none none) fun x13 =>
   (∃ (n5 : Nat) (H6 : Heap), n5 < n4 ∧ H6 ≤ H3 ∧ J1 [x13, nth vs2 1] H6 n5)
  ) (
   ret1 H3 R (nth vs2 0)
  )
 ) (
  ret1 H3 R (nth vs2 0)
 )
theorem K_strings_trimLeftByte (a0 a1 : AV) (H : Heap) (R : AV → Heap → Prop) : awp E_strings_trimLeftByte (drawK E_strings_trimLeftByte) C_strings_trimLeftByte (fun j => List.getD [a0, a1] j .dead) H (retK PP Tryd.f48.results.toList R) = W_strings_trimLeftByte a0 a1 H R := by kernel_rfl
theorem strings_trimLeftByte_of {a0 a1 : AV} {H : Heap} {R : AV → Heap → Prop} (h : W_strings_trimLeftByte a0 a1 H R) : ACalls PP gΓ strings_trimLeftByte [a0, a1] H R :=
  ACalls.of_awp (E := E_strings_trimLeftByte) follows_PP Tryd.func48 (c := C_strings_trimLeftByte) (by kernel_rfl) Tryd.ntmps48 ((K_strings_trimLeftByte a0 a1 H R) ▸ h)

noncomputable def L_strings_trimRightByte : Nat → Option (List Nat) := fun k => bif Nat.beq k 1001 then some [0, 1] else none
noncomputable abbrev E_strings_trimRightByte : Env := ⟨PP, gΓ, 23, L_strings_trimRightByte, fun _ => false⟩
noncomputable def C_strings_trimRightByte : Code := Tryd.f49.body.getD .skip
def W_strings_trimRightByte (a0 a1 : AV) (H : Heap) (R : AV → Heap → Prop) : Prop :=
 ∃ J1 : List AV → Heap → Nat → Prop, (∃ (n7 : Nat) (H8 : Heap), H8 ≤ H ∧ J1 [a0, a1] H8 n7) ∧ ∀ (vs2 : List AV) (H3 : Heap) (n4 : Nat), J1 vs2 H3 n4 →
 pureK (lns (nth vs2 0)) fun x9 =>
 pureK (bop .plain .gtr x9 (I 0)) fun x10 =>
 condK x10 (
  pureK (lns (nth vs2 0)) fun x11 =>
  pureK (bop .plain .sub x11 (I 1)) fun x12 =>
  pureK (ixs (nth vs2 0) x12) fun x13 =>
  pureK (bop .plain .eql x13 (nth vs2 1)) fun x14 =>
  condK x14 (
   pureK (lns (nth vs2 0)) fun x15 =>
   pureK (bop .plain .sub x15 (I 1)) fun x16 =>
   pureK (sls (nth vs2 0) none (some x16) none) fun x17 =>
   (∃ (n5 : Nat) (H6 : Heap), n5 < n4 ∧ H6 ≤ H3 ∧ J1 [x17, nth vs2 1] H6 n5)
  ) (
   ret1 H3 R (nth vs2 0)
  )
 ) (
  ret1 H3 R (nth vs2 0)
 )
theorem K_strings_trimRightByte (a0 a1 : AV) (H : Heap) (R : AV → Heap → Prop) : awp E_strings_trimRightByte (drawK E_strings_trimRightByte) C_strings_trimRightByte (fun j => List.getD [a0, a1] j .dead) H (retK PP Tryd.f49.results.toList R) = W_strings_trimRightByte a0 a1 H R := by kernel_rfl
theorem strings_trimRightByte_of {a0 a1 : AV} {H : Heap} {R : AV → Heap → Prop} (h : W_strings_trimRightByte a0 a1 H R) : ACalls PP gΓ strings_trimRightByte [a0, a1] H R :=
  ACalls.of_awp (E := E_strings_trimRightByte) follows_PP Tryd.func49 (c := C_strings_trimRightByte) (by kernel_rfl) Tryd.ntmps49 ((K_strings_trimRightByte a0 a1 H R) ▸ h)

noncomputable def L_strings_makeASCIISet : Nat → Option (List Nat) := fun k => bif Nat.beq k 1002 then some [0, 2, 4] else none
noncomputable abbrev E_strings_makeASCIISet : Env := ⟨PP, gΓ, 21, L_strings_makeASCIISet, fun _ => false⟩
noncomputable def C_strings_makeASCIISet : Code := Tryd.f50.body.getD .skip
def W_strings_makeASCIISet (a0 : AV) (H : Heap) (R : AV → Heap → Prop) : Prop :=
 allocP (List.replicate 256 (B false)) H fun o1 H2 =>
 ∃ J3 : List AV → Heap → Nat → Prop, (∃ (n9 : Nat) (H10 : Heap), H10 ≤ H2 ∧ J3 [a0, .ptr o1 0, I 0] H10 n9) ∧ ∀ (vs4 : List AV) (H5 : Heap) (n6 : Nat), J3 vs4 H5 n6 →
 pureK (lns (nth vs4 0)) fun x11 =>
 pureK (bop .plain .lss (nth vs4 2) x11) fun x12 =>
 condK x12 (
  pureK (ixs (nth vs4 0) (nth vs4 2)) fun x13 =>
  pureK (bop .plain .geq x13 (.sc (.int .u8 128))) fun x14 =>
  condK x14 (
   pureK (ld (some true) 256 H5 (nth vs4 1)) fun x15 =>
   heapK (st 256 H5 (nth vs4 1) x15) fun H16 =>
   pureK (ld (some true) 256 H16 (nth vs4 1)) fun x17 =>
   ret1 H16 R (.tup [x17, B false])
  ) (
   pureK (iaa 256 1 (nth vs4 1) x13) fun x18 =>
   heapK (st 1 H5 x18 (B true)) fun H19 =>
   pureK (bop .plain .add (nth vs4 2) (I 1)) fun x20 =>
   (∃ (n7 : Nat) (H8 : Heap), n7 < n6 ∧ H8 ≤ H19 ∧ J3 [nth vs4 0, nth vs4 1, x20] H8 n7)
  )
 ) (
  pureK (ld (some true) 256 H5 (nth vs4 1)) fun x21 =>
  heapK (st 256 H5 (nth vs4 1) x21) fun H22 =>
  pureK (ld (some true) 256 H22 (nth vs4 1)) fun x23 =>
  ret1 H22 R (.tup [x23, B true])
 )
theorem K_strings_makeASCIISet (a0 : AV) (H : Heap) (R : AV → Heap → Prop) : awp E_strings_makeASCIISet (drawK E_strings_makeASCIISet) C_strings_makeASCIISet (fun j => List.getD [a0] j .dead) H (retK PP Tryd.f50.results.toList R) = W_strings_makeASCIISet a0 H R := by kernel_rfl
theorem strings_makeASCIISet_of {a0 : AV} {H : Heap} {R : AV → Heap → Prop} (h : W_strings_makeASCIISet a0 H R) : ACalls PP gΓ strings_makeASCIISet [a0] H R :=
  ACalls.of_awp (E := E_strings_makeASCIISet) follows_PP Tryd.func50 (c := C_strings_makeASCIISet) (by kernel_rfl) Tryd.ntmps50 ((K_strings_makeASCIISet a0 H R) ▸ h)

noncomputable def L_strings_trimLeftASCII : Nat → Option (List Nat) := fun k => bif Nat.beq k 1001 then some [0, 1] else none
noncomputable abbrev E_strings_trimLeftASCII : Env := ⟨PP, gΓ, 16, L_strings_trimLeftASCII, fun _ => false⟩
noncomputable def C_strings_trimLeftASCII : Code := Tryd.f51.body.getD .skip
def W_strings_trimLeftASCII (a0 a1 : AV) (H : Heap) (R : AV → Heap → Prop) : Prop :=
 ∃ J1 : List AV → Heap → Nat → Prop, (∃ (n7 : Nat) (H8 : Heap), H8 ≤ H ∧ J1 [a0, a1] H8 n7) ∧ ∀ (vs2 : List AV) (H3 : Heap) (n4 : Nat), J1 vs2 H3 n4 →
 pureK (lns (nth vs2 0)) fun x9 =>
 pureK (bop .plain .gtr x9 (I 0)) fun x10 =>
 condK x10 (
  pureK (ixs (nth vs2 0) (I 0)) fun x11 =>
  ACalls PP gΓ strings_asciiSet_contains [nth vs2 1, x11] H3 fun x12 H13 =>
  pureK (unE .not x12) fun x14 =>
  condK x14 (
   ret1 H13 R (nth vs2 0)
  ) (
   pureK (sls (nth vs2 0) (some (I 1)) none none) fun x15 =>
   (∃ (n5 : Nat) (H6 : Heap), n5 < n4 ∧ H6 ≤ H13 ∧ J1 [x15, nth vs2 1] H6 n5)
  )
 ) (
  ret1 H3 R (nth vs2 0)
 )
theorem K_strings_trimLeftASCII (a0 a1 : AV) (H : Heap) (R : AV → Heap → Prop) : awp E_strings_trimLeftASCII (drawK E_strings_trimLeftASCII) C_strings_trimLeftASCII (fun j => List.getD [a0, a1] j .dead) H (retK PP Tryd.f51.results.toList R) = W_strings_trimLeftASCII a0 a1 H R := by kernel_rfl
theorem strings_trimLeftASCII_of {a0 a1 : AV} {H : Heap} {R : AV → Heap → Prop} (h : W_strings_trimLeftASCII a0 a1 H R) : ACalls PP gΓ strings_trimLeftASCII [a0, a1] H R :=
  ACalls.of_awp (E := E_strings_trimLeftASCII) follows_PP Tryd.func51 (c := C_strings_trimLeftASCII) (by kernel_rfl) Tryd.ntmps51 ((K_strings_trimLeftASCII a0 a1 H R) ▸ h)

noncomputable def L_strings_trimRightASCII : Nat → Option (List Nat) := fun k => bif Nat.beq k 1001 then some [0, 1] else none
noncomputable abbrev E_strings_trimRightASCII : Env := ⟨PP, gΓ, 22, L_strings_trimRightASCII, fun _ => false⟩
noncomputable def C_strings_trimRightASCII : Code := Tryd.f52.body.getD .skip
def W_strings_trimRightASCII (a0 a1 : AV) (H : Heap) (R : AV → Heap → Prop) : Prop :=
 ∃ J1 : List AV → Heap → Nat → Prop, (∃ (n7 : Nat) (H8 : Heap), H8 ≤ H ∧ J1 [a0, a1] H8 n7) ∧ ∀ (vs2 : List AV) (H3 : Heap) (n4 : Nat), J1 vs2 H3 n4 →
 pureK (lns (nth vs2 0)) fun x9 =>
 pureK (bop .plain .gtr x9 (I 0)) fun x10 =>
 condK x10 (
  pureK (lns (nth vs2 0)) fun x11 =>
  pureK (bop .plain .sub x11 (I 1)) fun x12 =>
  pureK (ixs (nth vs2 0) x12) fun x13 =>
  ACalls PP gΓ strings_asciiSet_contains [nth vs2 1, x13] H3 fun x14 H15 =>
  pureK (unE .not x14) fun x16 =>
  condK x16 (
   ret1 H15 R (nth vs2 0)
  ) (
   pureK (lns (nth vs2 0)) fun x17 =>
   pureK (bop .plain .sub x17 (I 1)) fun x18 =>
   pureK (sls (nth vs2 0) none (some x18) none) fun x19 =>
   (∃ (n5 : Nat) (H6 : Heap), n5 < n4 ∧ H6 ≤ H15 ∧ J1 [x19, nth vs2 1] H6 n5)
  )
 ) (
  ret1 H3 R (nth vs2 0)
 )
theorem K_strings_trimRightASCII (a0 a1 : AV) (H : Heap) (R : AV → Heap → Prop) : awp E_strings_trimRightASCII (drawK E_strings_trimRightASCII) C_strings_trimRightASCII (fun j => List.getD [a0, a1] j .dead) H (retK PP Tryd.f52.results.toList R) = W_strings_trimRightASCII a0 a1 H R := by kernel_rfl
theorem strings_trimRightASCII_of {a0 a1 : AV} {H : Heap} {R : AV → Heap → Prop} (h : W_strings_trimRightASCII a0 a1 H R) : ACalls PP gΓ strings_trimRightASCII [a0, a1] H R :=
  ACalls.of_awp (E := E_strings_trimRightASCII) follows_PP Tryd.func52 (c := C_strings_trimRightASCII) (by kernel_rfl) Tryd.ntmps52 ((K_strings_trimRightASCII a0 a1 H R) ▸ h)

noncomputable def L_strings_trimLeftUnicode : Nat → Option (List Nat) := fun k => bif Nat.beq k 1001 then some [0, 1] else none
noncomputable abbrev E_strings_trimLeftUnicode : Env := ⟨PP, gΓ, 23, L_strings_trimLeftUnicode, fun _ => false⟩
noncomputable def C_strings_trimLeftUnicode : Code := Tryd.f53.body.getD .skip
def W_strings_trimLeftUnicode (a0 a1 : AV) (H : Heap) (R : AV → Heap → Prop) : Prop :=
 ∃ J1 : List AV → Heap → Nat → Prop, (∃ (n7 : Nat) (H8 : Heap), H8 ≤ H ∧ J1 [a0, a1] H8 n7) ∧ ∀ (vs2 : List AV) (H3 : Heap) (n4 : Nat), J1 vs2 H3 n4 →
 pureK (lns (nth vs2 0)) fun x9 =>
 pureK (bop .plain .gtr x9 (I 0)) fun x10 =>
 condK x10 (
  ACalls PP gΓ utf8_DecodeRuneInString [nth vs2 0] H3 fun x11 H12 =>
  pureK (extractE x11 0) fun x13 =>
  pureK (extractE x11 1) fun x14 =>
  ACalls PP gΓ strings_ContainsRune [nth vs2 1, x13] H12 fun x15 H16 =>
  pureK (unE .not x15) fun x17 =>
  condK x17 (
   ret1 H16 R (nth vs2 0)
  ) (
   pureK (sls (nth vs2 0) (some x14) none none) fun x18 =>
   (∃ (n5 : Nat) (H6 : Heap), n5 < n4 ∧ H6 ≤ H16 ∧ J1 [x18, nth vs2 1] H6 n5)
  )
 ) (
  ret1 H3 R (nth vs2 0)
 )
theorem K_strings_trimLeftUnicode (a0 a1 : AV) (H : Heap) (R : AV → Heap → Prop) : awp E_strings_trimLeftUnicode (drawK E_strings_trimLeftUnicode) C_strings_trimLeftUnicode (fun j => List.getD [a0, a1] j .dead) H (retK PP Tryd.f53.results.toList R) = W_strings_trimLeftUnicode a0 a1 H R := by kernel_rfl
theorem strings_trimLeftUnicode_of {a0 a1 : AV} {H : Heap} {R : AV → Heap → Prop} (h : W_strings_trimLeftUnicode a0 a1 H R) : ACalls PP gΓ strings_trimLeftUnicode [a0, a1] H R :=
  ACalls.of_awp (E := E_strings_trimLeftUnicode) follows_PP Tryd.func53 (c := C_strings_trimLeftUnicode) (by kernel_rfl) Tryd.ntmps53 ((K_strings_trimLeftUnicode a0 a1 H R) ▸ h)

noncomputable def L_strings_trimRightUnicode : Nat → Option (List Nat) := fun k => bif Nat.beq k 1001 then some [0, 1] else none
noncomputable abbrev E_strings_trimRightUnicode : Env := ⟨PP, gΓ, 34, L_strings_trimRightUnicode, fun _ => false⟩
noncomputable def C_strings_trimRightUnicode : Code := Tryd.f54.body.getD .skip
def W_strings_trimRightUnicode (a0 a1 : AV) (H : Heap) (R : AV → Heap → Prop) : Prop :=
 ∃ J1 : List AV → Heap → Nat → Prop, (∃ (n7 : Nat) (H8 : Heap), H8 ≤ H ∧ J1 [a0, a1] H8 n7) ∧ ∀ (vs2 : List AV) (H3 : Heap) (n4 : Nat), J1 vs2 H3 n4 →
 pureK (lns (nth vs2 0)) fun x9 =>
 pureK (bop .plain .gtr x9 (I 0)) fun x10 =>
 condK x10 (
  pureK (lns (nth vs2 0)) fun x11 =>
  pureK (bop .plain .sub x11 (I 1)) fun x12 =>
  pureK (ixs (nth vs2 0) x12) fun x13 =>
  pureK (cv (.toInt .i32) x13) fun x14 =>
  pureK (bop .plain .geq x14 (.sc (.int .i32 128))) fun x15 =>
  condK x15 (
   ACalls PP gΓ utf8_DecodeLastRuneInString [nth vs2 0] H3 fun x16 H17 =>
   pureK (extractE x16 0) fun x18 =>
   pureK (extractE x16 1) fun x19 =>
   ACalls PP gΓ strings_ContainsRune [nth vs2 1, x18] H17 fun x20 H21 =>
   pureK (unE .not x20) fun x22 =>
   condK x22 (
    ret1 H21 R (nth vs2 0)
   ) (
    pureK (lns (nth vs2 0)) fun x23 =>
    pureK (bop .plain .sub x23 x19) fun x24 =>
    pureK (sls (nth vs2 0) none (some x24) none) fun x25 =>
    (∃ (n5 : Nat) (H6 : Heap), n5 < n4 ∧ H6 ≤ H21 ∧ J1 [x25, nth vs2 1] H6 n5)
   )
  ) (
   ACalls PP gΓ strings_ContainsRune [nth vs2 1, x14] H3 fun x26 H27 =>
   pureK (unE .not x26) fun x28 =>
   condK x28 (
    ret1 H27 R (nth vs2 0)
   ) (
    pureK (lns (nth vs2 0)) fun x29 =>
    pureK (bop .plain .sub x29 (I 1)) fun x30 =>
    pureK (sls (nth vs2 0) none (some x30) none) fun x31 =>
    (∃ (n5 : Nat) (H6 : Heap), n5 < n4 ∧ H6 ≤ H27 ∧ J1 [x31, nth vs2 1] H6 n5)
   )
  )
 ) (
  ret1 H3 R (nth vs2 0)
 )
theorem K_strings_trimRightUnicode (a0 a1 : AV) (H : Heap) (R : AV → Heap → Prop) : awp E_strings_trimRightUnicode (drawK E_strings_trimRightUnicode) C_strings_trimRightUnicode (fun j => List.getD [a0, a1] j .dead) H (retK PP Tryd.f54.results.toList R) = W_strings_trimRightUnicode a0 a1 H R := by kernel_rfl
theorem strings_trimRightUnicode_of {a0 a1 : AV} {H : Heap} {R : AV → Heap → Prop} (h : W_strings_trimRightUnicode a0 a1 H R) : ACalls PP gΓ strings_trimRightUnicode [a0, a1] H R :=
  ACalls.of_awp (E := E_strings_trimRightUnicode) follows_PP Tryd.func54 (c := C_strings_trimRightUnicode) (by kernel_rfl) Tryd.ntmps54 ((K_strings_trimRightUnicode a0 a1 H R) ▸ h)

noncomputable def L_slices_Index_string : Nat → Option (List Nat) := fun k => bif Nat.beq k 1002 then some [0, 1, 7, 8] else none
noncomputable abbrev E_slices_Index_string : Env := ⟨PP, gΓ, 19, L_slices_Index_string, fun _ => false⟩
noncomputable def C_slices_Index_string : Code := Tryd.f55.body.getD .skip
def W_slices_Index_string (a0 a1 : AV) (H : Heap) (R : AV → Heap → Prop) : Prop :=
 pureK (lnl a0) fun x1 =>
 ∃ J2 : List AV → Heap → Nat → Prop, (∃ (n8 : Nat) (H9 : Heap), H9 ≤ H ∧ J2 [a0, a1, x1, I 0] H9 n8) ∧ ∀ (vs3 : List AV) (H4 : Heap) (n5 : Nat), J2 vs3 H4 n5 →
 pureK (bop .plain .lss (nth vs3 3) (nth vs3 2)) fun x10 =>
 condK x10 (
  pureK (ias 1 (nth vs3 0) (nth vs3 3)) fun x11 =>
  pureK (ld (some false) 1 H4 x11) fun x12 =>
  pureK (bop .plain .eql (nth vs3 1) x12) fun x13 =>
  condK x13 (
   ret1 H4 R (nth vs3 3)
  ) (
   pureK (bop .plain .add (nth vs3 3) (I 1)) fun x14 =>
   (∃ (n6 : Nat) (H7 : Heap), n6 < n5 ∧ H7 ≤ H4 ∧ J2 [nth vs3 0, nth vs3 1, nth vs3 2, x14] H7 n6)
  )
 ) (
  ret1 H4 R (I (-1))
 )
theorem K_slices_Index_string (a0 a1 : AV) (H : Heap) (R : AV → Heap → Prop) : awp E_slices_Index_string (drawK E_slices_Index_string) C_slices_Index_string (fun j => List.getD [a0, a1] j .dead) H (retK PP Tryd.f55.results.toList R) = W_slices_Index_string a0 a1 H R := by kernel_rfl
theorem slices_Index_string_of {a0 a1 : AV} {H : Heap} {R : AV → Heap → Prop} (h : W_slices_Index_string a0 a1 H R) : ACalls PP gΓ slices_Index_string [a0, a1] H R :=
  ACalls.of_awp (E := E_slices_Index_string) follows_PP Tryd.func55 (c := C_slices_Index_string) (by kernel_rfl) Tryd.ntmps55 ((K_slices_Index_string a0 a1 H R) ▸ h)

noncomputable def L_row_Whole_1 : Nat → Option (List Nat) := fun k => none
noncomputable abbrev E_row_Whole_1 : Env := ⟨PP, gΓ, 6, L_row_Whole_1, fun _ => false⟩
noncomputable def C_row_Whole_1 : Code := Tryd.f56.body.getD .skip
def W_row_Whole_1 (a0 : AV) (H : Heap) (R : AV → Heap → Prop) : Prop :=
 allocK (some (AV.cells a0)) H fun p1 H2 =>
 pureK (ld (some true) 3 H2 p1) fun x3 =>
 ACalls PP gΓ row_Right [x3] H2 fun x4 H5 =>
 pureK (unE .not x4) fun x6 =>
 ret1 H5 R x6
theorem K_row_Whole_1 (a0 : AV) (H : Heap) (R : AV → Heap → Prop) : awp E_row_Whole_1 (drawK E_row_Whole_1) C_row_Whole_1 (fun j => List.getD [a0] j .dead) H (retK PP Tryd.f56.results.toList R) = W_row_Whole_1 a0 H R := by kernel_rfl
theorem row_Whole_1_of {a0 : AV} {H : Heap} {R : AV → Heap → Prop} (h : W_row_Whole_1 a0 H R) : ACalls PP gΓ row_Whole_1 [a0] H R :=
  ACalls.of_awp (E := E_row_Whole_1) follows_PP Tryd.func56 (c := C_row_Whole_1) (by kernel_rfl) Tryd.ntmps56 ((K_row_Whole_1 a0 H R) ▸ h)

noncomputable def L_slices_ContainsFunc_Node : Nat → Option (List Nat) := fun k => none
noncomputable abbrev E_slices_ContainsFunc_Node : Env := ⟨PP, gΓ, 9, L_slices_ContainsFunc_Node, fun _ => false⟩
noncomputable def C_slices_ContainsFunc_Node : Code := Tryd.f57.body.getD .skip
def W_slices_ContainsFunc_Node (a0 a1 : AV) (H : Heap) (R : AV → Heap → Prop) : Prop :=
 ACalls PP gΓ slices_IndexFunc_Node [a0, a1] H fun x1 H2 =>
 pureK (bop .plain .geq x1 (I 0)) fun x3 =>
 ret1 H2 R x3
theorem K_slices_ContainsFunc_Node (a0 a1 : AV) (H : Heap) (R : AV → Heap → Prop) : awp E_slices_ContainsFunc_Node (drawK E_slices_ContainsFunc_Node) C_slices_ContainsFunc_Node (fun j => List.getD [a0, a1] j .dead) H (retK PP Tryd.f57.results.toList R) = W_slices_ContainsFunc_Node a0 a1 H R := by kernel_rfl
theorem slices_ContainsFunc_Node_of {a0 a1 : AV} {H : Heap} {R : AV → Heap → Prop} (h : W_slices_ContainsFunc_Node a0 a1 H R) : ACalls PP gΓ slices_ContainsFunc_Node [a0, a1] H R :=
  ACalls.of_awp (E := E_slices_ContainsFunc_Node) follows_PP Tryd.func57 (c := C_slices_ContainsFunc_Node) (by kernel_rfl) Tryd.ntmps57 ((K_slices_ContainsFunc_Node a0 a1 H R) ▸ h)

noncomputable def L_row_Size : Nat → Option (List Nat) := fun k => bif Nat.beq k 1003 then some [3, 7, 8, 9] else none
noncomputable abbrev E_row_Size : Env := ⟨PP, gΓ, 28, L_row_Size, fun _ => false⟩
noncomputable def C_row_Size : Code := Tryd.f58.body.getD .skip
def W_row_Size (a0 : AV) (H : Heap) (R : AV → Heap → Prop) : Prop :=
 pureK (lnl a0) fun x1 =>
 ∃ J2 : List AV → Heap → Nat → Prop, (∃ (n8 : Nat) (H9 : Heap), H9 ≤ H ∧ J2 [I 1, a0, x1, I 0] H9 n8) ∧ ∀ (vs3 : List AV) (H4 : Heap) (n5 : Nat), J2 vs3 H4 n5 →
 pureK (bop .plain .lss (nth vs3 3) (nth vs3 2)) fun x10 =>
 condK x10 (
  pureK (ias 3 (nth vs3 1) (nth vs3 3)) fun x11 =>
  pureK (ld (some true) 3 H4 x11) fun x12 =>
  allocP [.sc (.int .i64 0), S emp, .sc (.int .i64 0)] H4 fun o13 H14 =>
  heapK (st 3 H14 (.ptr o13 0) x12) fun H15 =>
  pureK (fa 0 (.ptr o13 0)) fun x16 =>
  pureK (ld (some false) 1 H15 x16) fun x17 =>
  ACalls PP gΓ row_Arity [x17] H15 fun x18 H19 =>
  pureK (bop .plain .lss x18 (I 0)) fun x20 =>
  condK x20 (
   ret1 H19 R (I 0)
  ) (
   pureK (bop .plain .sub x18 (I 1)) fun x21 =>
   pureK (bop .plain .add (nth vs3 0) x21) fun x22 =>
   pureK (bop .plain .eql x22 (I 0)) fun x23 =>
   condK x23 (
    pureK (bop .plain .add (nth vs3 3) (I 1)) fun x24 =>
    ret1 H19 R x24
   ) (
    pureK (bop .plain .add (nth vs3 3) (I 1)) fun x25 =>
    (∃ (n6 : Nat) (H7 : Heap), n6 < n5 ∧ H7 ≤ H19 ∧ J2 [x22, nth vs3 1, nth vs3 2, x25] H7 n6)
   )
  )
 ) (
  ret1 H4 R (I 0)
 )
theorem K_row_Size (a0 : AV) (H : Heap) (R : AV → Heap → Prop) : awp E_row_Size (drawK E_row_Size) C_row_Size (fun j => List.getD [a0] j .dead) H (retK PP Tryd.f58.results.toList R) = W_row_Size a0 H R := by kernel_rfl
theorem row_Size_of {a0 : AV} {H : Heap} {R : AV → Heap → Prop} (h : W_row_Size a0 H R) : ACalls PP gΓ row_Size [a0] H R :=
  ACalls.of_awp (E := E_row_Size) follows_PP Tryd.func58 (c := C_row_Size) (by kernel_rfl) Tryd.ntmps58 ((K_row_Size a0 H R) ▸ h)

noncomputable def L_row_Kids : Nat → Option (List Nat) := fun k => bif Nat.beq k 1006 then some [0, 3, 4, 13, 14] else none
noncomputable abbrev E_row_Kids : Env := ⟨PP, gΓ, 35, L_row_Kids, fun _ => false⟩
noncomputable def C_row_Kids : Code := Tryd.f59.body.getD .skip
def W_row_Kids (a0 : AV) (H : Heap) (R : AV → Heap → Prop) : Prop :=
 ACalls PP gΓ row_Size [a0] H fun x1 H2 =>
 pureK (bop .plain .eql x1 (I 0)) fun x3 =>
 condK x3 (
  ret1 H2 R (.lst 0 [] .exact)
 ) (
  pureK (ias 3 a0 (I 0)) fun x4 =>
  pureK (fa 0 x4) fun x5 =>
  pureK (ld (some false) 1 H2 x5) fun x6 =>
  ACalls PP gΓ row_Arity [x6] H2 fun x7 H8 =>
  ∃ J9 : List AV → Heap → Nat → Prop, (∃ (n15 : Nat) (H16 : Heap), H16 ≤ H8 ∧ J9 [a0, .lst 0 [] .exact, I 1, x7, I 0] H16 n15) ∧ ∀ (vs10 : List AV) (H11 : Heap) (n12 : Nat), J9 vs10 H11 n12 →
  pureK (bop .plain .lss (nth vs10 4) (nth vs10 3)) fun x17 =>
  condK x17 (
   pureK (sll 3 (nth vs10 0) (some (nth vs10 2)) none none) fun x18 =>
   ACalls PP gΓ row_Size [x18] H11 fun x19 H20 =>
   pureK (bop .plain .add (nth vs10 2) x19) fun x21 =>
   pureK (sll 3 (nth vs10 0) (some (nth vs10 2)) (some x21) none) fun x22 =>
   ACalls PP gΓ slices_Clone_Node [x22] H20 fun x23 H24 =>
   pureK (bsl 1 (.lst 0 [] .exact) 1 [(0, x23)]) fun x25 =>
   appK 1 (nth vs10 1) x25 H24 fun x26 H27 =>
   pureK (bop .plain .add (nth vs10 2) x19) fun x28 =>
   pureK (bop .plain .add (nth vs10 4) (I 1)) fun x29 =>
   (∃ (n13 : Nat) (H14 : Heap), n13 < n12 ∧ H14 ≤ H27 ∧ J9 [nth vs10 0, x26, x28, nth vs10 3, x29] H14 n13)
  ) (
   ret1 H11 R (nth vs10 1)
  )
 )
theorem K_row_Kids (a0 : AV) (H : Heap) (R : AV → Heap → Prop) : awp E_row_Kids (drawK E_row_Kids) C_row_Kids (fun j => List.getD [a0] j .dead) H (retK PP Tryd.f59.results.toList R) = W_row_Kids a0 H R := by kernel_rfl
theorem row_Kids_of {a0 : AV} {H : Heap} {R : AV → Heap → Prop} (h : W_row_Kids a0 H R) : ACalls PP gΓ row_Kids [a0] H R :=
  ACalls.of_awp (E := E_row_Kids) follows_PP Tryd.func59 (c := C_row_Kids) (by kernel_rfl) Tryd.ntmps59 ((K_row_Kids a0 H R) ▸ h)

noncomputable def L_sort_both : Nat → Option (List Nat) := fun k => none
noncomputable abbrev E_sort_both : Env := ⟨PP, gΓ, 13, L_sort_both, fun _ => false⟩
noncomputable def C_sort_both : Code := Tryd.f60.body.getD .skip
def W_sort_both (a0 a1 : AV) (H : Heap) (R : AV → Heap → Prop) : Prop :=
 ACalls PP gΓ sort_on [a0] H fun x1 H2 =>
 ACalls PP gΓ sort_on [a1] H2 fun x3 H4 =>
 pureK (bop .plain .neq x1 x3) fun x5 =>
 condK x5 (
  ret1 H4 R (I 0)
 ) (
  pureK (maxE [a0, a1]) fun x6 =>
  ret1 H4 R x6
 )
theorem K_sort_both (a0 a1 : AV) (H : Heap) (R : AV → Heap → Prop) : awp E_sort_both (drawK E_sort_both) C_sort_both (fun j => List.getD [a0, a1] j .dead) H (retK PP Tryd.f60.results.toList R) = W_sort_both a0 a1 H R := by kernel_rfl
theorem sort_both_of {a0 a1 : AV} {H : Heap} {R : AV → Heap → Prop} (h : W_sort_both a0 a1 H R) : ACalls PP gΓ sort_both [a0, a1] H R :=
  ACalls.of_awp (E := E_sort_both) follows_PP Tryd.func60 (c := C_sort_both) (by kernel_rfl) Tryd.ntmps60 ((K_sort_both a0 a1 H R) ▸ h)

noncomputable def L_sort_behind : Nat → Option (List Nat) := fun k => none
noncomputable abbrev E_sort_behind : Env := ⟨PP, gΓ, 18, L_sort_behind, fun _ => false⟩
noncomputable def C_sort_behind : Code := Tryd.f61.body.getD .skip
def W_sort_behind (a0 a1 a2 : AV) (H : Heap) (R : AV → Heap → Prop) : Prop :=
 pureK (bop .plain .neq a1 a2) fun x1 =>
 condK x1 (
  ret1 H R (I 0)
 ) (
  ACalls PP gΓ sort_on [a0] H fun x2 H3 =>
  ACalls PP gΓ sort_on [a2] H3 fun x4 H5 =>
  pureK (bop .plain .neq x2 x4) fun x6 =>
  condK x6 (
   ret1 H5 R (I 0)
  ) (
   ret1 H5 R a0
  )
 )
theorem K_sort_behind (a0 a1 a2 : AV) (H : Heap) (R : AV → Heap → Prop) : awp E_sort_behind (drawK E_sort_behind) C_sort_behind (fun j => List.getD [a0, a1, a2] j .dead) H (retK PP Tryd.f61.results.toList R) = W_sort_behind a0 a1 a2 H R := by kernel_rfl
theorem sort_behind_of {a0 a1 a2 : AV} {H : Heap} {R : AV → Heap → Prop} (h : W_sort_behind a0 a1 a2 H R) : ACalls PP gΓ sort_behind [a0, a1, a2] H R :=
  ACalls.of_awp (E := E_sort_behind) follows_PP Tryd.func61 (c := C_sort_behind) (by kernel_rfl) Tryd.ntmps61 ((K_sort_behind a0 a1 a2 H R) ▸ h)

noncomputable def L_settle_over : Nat → Option (List Nat) := fun k => none
noncomputable abbrev E_settle_over : Env := ⟨PP, gΓ, 6, L_settle_over, fun _ => false⟩
noncomputable def C_settle_over : Code := Tryd.f62.body.getD .skip
def W_settle_over (a0 : AV) (H : Heap) (R : AV → Heap → Prop) : Prop :=
 pureK (bld [(0, 1), (1, 1), (2, 1)] [.sc (.int .i64 0), S emp, .sc (.int .i64 0)] [(0, I 11), (2, a0)]) fun x1 =>
 pureK (bsl 3 (.agg [.sc (.int .i64 0), S emp, .sc (.int .i64 0)]) 1 [(0, x1)]) fun x2 =>
 ret1 H R x2
theorem K_settle_over (a0 : AV) (H : Heap) (R : AV → Heap → Prop) : awp E_settle_over (drawK E_settle_over) C_settle_over (fun j => List.getD [a0] j .dead) H (retK PP Tryd.f62.results.toList R) = W_settle_over a0 H R := by kernel_rfl
theorem settle_over_of {a0 : AV} {H : Heap} {R : AV → Heap → Prop} (h : W_settle_over a0 H R) : ACalls PP gΓ settle_over [a0] H R :=
  ACalls.of_awp (E := E_settle_over) follows_PP Tryd.func62 (c := C_settle_over) (by kernel_rfl) Tryd.ntmps62 ((K_settle_over a0 H R) ▸ h)

noncomputable def L_settle_behind : Nat → Option (List Nat) := fun k => none
noncomputable abbrev E_settle_behind : Env := ⟨PP, gΓ, 30, L_settle_behind, fun _ => false⟩
noncomputable def C_settle_behind : Code := Tryd.f63.body.getD .skip
def W_settle_behind (a0 a1 a2 a3 : AV) (H : Heap) (R : AV → Heap → Prop) : Prop :=
 allocK (some (AV.cells a0)) H fun p1 H2 =>
 pureK (ias 3 a1 (I 0)) fun x3 =>
 pureK (ld (some true) 3 H2 x3) fun x4 =>
 pureK (bld [(0, 1), (1, 1), (2, 1)] [.sc (.int .i64 0), S emp, .sc (.int .i64 0)] [(0, I 11), (2, a3)]) fun x5 =>
 pureK (bop (.flat [.int, .str, .int]) .eql x4 x5) fun x6 =>
 condK x6 (
  ACalls PP gΓ settle_settle [a2] H2 fun x7 H8 =>
  ret1 H8 R x7
 ) (
  pureK (ias 3 a1 (I 0)) fun x9 =>
  pureK (fa 0 x9) fun x10 =>
  pureK (ld (some false) 1 H2 x10) fun x11 =>
  pureK (bop .plain .eql x11 (I 11)) fun x12 =>
  condK x12 (
   ret1 H2 R a1
  ) (
   pureK (ld (some true) 3 H2 p1) fun x13 =>
   pureK (bsl 1 (.lst 0 [] .exact) 2 [(0, a1), (1, a2)]) fun x14 =>
   ACalls PP gΓ row_Make [x13, x14] H2 fun x15 H16 =>
   ret1 H16 R x15
  )
 )
theorem K_settle_behind (a0 a1 a2 a3 : AV) (H : Heap) (R : AV → Heap → Prop) : awp E_settle_behind (drawK E_settle_behind) C_settle_behind (fun j => List.getD [a0, a1, a2, a3] j .dead) H (retK PP Tryd.f63.results.toList R) = W_settle_behind a0 a1 a2 a3 H R := by kernel_rfl
theorem settle_behind_of {a0 a1 a2 a3 : AV} {H : Heap} {R : AV → Heap → Prop} (h : W_settle_behind a0 a1 a2 a3 H R) : ACalls PP gΓ settle_behind [a0, a1, a2, a3] H R :=
  ACalls.of_awp (E := E_settle_behind) follows_PP Tryd.func63 (c := C_settle_behind) (by kernel_rfl) Tryd.ntmps63 ((K_settle_behind a0 a1 a2 a3 H R) ▸ h)

noncomputable def L_settle_stack : Nat → Option (List Nat) := fun k => none
noncomputable abbrev E_settle_stack : Env := ⟨PP, gΓ, 26, L_settle_stack, fun _ => false⟩
noncomputable def C_settle_stack : Code := Tryd.f64.body.getD .skip
def W_settle_stack (a0 a1 : AV) (H : Heap) (R : AV → Heap → Prop) : Prop :=
 pureK (ias 3 a0 (I 0)) fun x1 =>
 pureK (fa 0 x1) fun x2 =>
 pureK (ld (some false) 1 H x2) fun x3 =>
 pureK (bop .plain .neq x3 (I 14)) fun x4 =>
 condK x4 (
  pureK (bld [(0, 1), (1, 1), (2, 1)] [.sc (.int .i64 0), S emp, .sc (.int .i64 0)] [(0, I 13)]) fun x5 =>
  pureK (bsl 1 (.lst 0 [] .exact) 2 [(0, a0), (1, a1)]) fun x6 =>
  ACalls PP gΓ row_Make [x5, x6] H fun x7 H8 =>
  ret1 H8 R x7
 ) (
  pureK (ias 3 a0 (I 0)) fun x9 =>
  pureK (fa 2 x9) fun x10 =>
  pureK (ld (some false) 1 H x10) fun x11 =>
  pureK (bld [(0, 1), (1, 1), (2, 1)] [.sc (.int .i64 0), S emp, .sc (.int .i64 0)] [(0, I 5)]) fun x12 =>
  pureK (sll 3 a0 (some (I 1)) none none) fun x13 =>
  pureK (bsl 1 (.lst 0 [] .exact) 2 [(0, x13), (1, a1)]) fun x14 =>
  ∃ x15, AReads PP gΓ row_Make [x12, x14] H x15 ∧
  ACalls PP gΓ settle_end [x11, x15] H fun x16 H17 =>
  ret1 H17 R x16
 )
theorem K_settle_stack (a0 a1 : AV) (H : Heap) (R : AV → Heap → Prop) : awp E_settle_stack (drawK E_settle_stack) C_settle_stack (fun j => List.getD [a0, a1] j .dead) H (retK PP Tryd.f64.results.toList R) = W_settle_stack a0 a1 H R := by kernel_rfl
theorem settle_stack_of {a0 a1 : AV} {H : Heap} {R : AV → Heap → Prop} (h : W_settle_stack a0 a1 H R) : ACalls PP gΓ settle_stack [a0, a1] H R :=
  ACalls.of_awp (E := E_settle_stack) follows_PP Tryd.func64 (c := C_settle_stack) (by kernel_rfl) Tryd.ntmps64 ((K_settle_stack a0 a1 H R) ▸ h)

noncomputable def L_settle_Ended : Nat → Option (List Nat) := fun k => none
noncomputable abbrev E_settle_Ended : Env := ⟨PP, gΓ, 18, L_settle_Ended, fun _ => false⟩
noncomputable def C_settle_Ended : Code := Tryd.f65.body.getD .skip
def W_settle_Ended (a0 : AV) (H : Heap) (R : AV → Heap → Prop) : Prop :=
 pureK (lnl a0) fun x1 =>
 pureK (bop .plain .neq x1 (I 1)) fun x2 =>
 condK x2 (
  ret1 H R (.tup [I 0, B false])
 ) (
  pureK (ias 3 a0 (I 0)) fun x3 =>
  pureK (fa 0 x3) fun x4 =>
  pureK (ld (some false) 1 H x4) fun x5 =>
  pureK (bop .plain .neq x5 (I 11)) fun x6 =>
  condK x6 (
   ret1 H R (.tup [I 0, B false])
  ) (
   pureK (ias 3 a0 (I 0)) fun x7 =>
   pureK (fa 2 x7) fun x8 =>
   pureK (ld (some false) 1 H x8) fun x9 =>
   ret1 H R (.tup [x9, B true])
  )
 )
theorem K_settle_Ended (a0 : AV) (H : Heap) (R : AV → Heap → Prop) : awp E_settle_Ended (drawK E_settle_Ended) C_settle_Ended (fun j => List.getD [a0] j .dead) H (retK PP Tryd.f65.results.toList R) = W_settle_Ended a0 H R := by kernel_rfl
theorem settle_Ended_of {a0 : AV} {H : Heap} {R : AV → Heap → Prop} (h : W_settle_Ended a0 H R) : ACalls PP gΓ settle_Ended [a0] H R :=
  ACalls.of_awp (E := E_settle_Ended) follows_PP Tryd.func65 (c := C_settle_Ended) (by kernel_rfl) Tryd.ntmps65 ((K_settle_Ended a0 H R) ▸ h)

noncomputable def L_row_Make : Nat → Option (List Nat) := fun k => none
noncomputable abbrev E_row_Make : Env := ⟨PP, gΓ, 10, L_row_Make, fun _ => false⟩
noncomputable def C_row_Make : Code := Tryd.f66.body.getD .skip
def W_row_Make (a0 a1 : AV) (H : Heap) (R : AV → Heap → Prop) : Prop :=
 allocK (some (AV.cells a0)) H fun p1 H2 =>
 pureK (ld (some true) 3 H2 p1) fun x3 =>
 pureK (bsl 3 (.agg [.sc (.int .i64 0), S emp, .sc (.int .i64 0)]) 1 [(0, x3)]) fun x4 =>
 ∃ x5, AReads PP gΓ slices_Concat_Node [a1] H2 x5 ∧
 appK 3 x4 x5 H2 fun x6 H7 =>
 ret1 H7 R x6
theorem K_row_Make (a0 a1 : AV) (H : Heap) (R : AV → Heap → Prop) : awp E_row_Make (drawK E_row_Make) C_row_Make (fun j => List.getD [a0, a1] j .dead) H (retK PP Tryd.f66.results.toList R) = W_row_Make a0 a1 H R := by kernel_rfl
theorem row_Make_of {a0 a1 : AV} {H : Heap} {R : AV → Heap → Prop} (h : W_row_Make a0 a1 H R) : ACalls PP gΓ row_Make [a0, a1] H R :=
  ACalls.of_awp (E := E_row_Make) follows_PP Tryd.func66 (c := C_row_Make) (by kernel_rfl) Tryd.ntmps66 ((K_row_Make a0 a1 H R) ▸ h)

noncomputable def L_settle_end : Nat → Option (List Nat) := fun k => none
noncomputable abbrev E_settle_end : Env := ⟨PP, gΓ, 10, L_settle_end, fun _ => false⟩
noncomputable def C_settle_end : Code := Tryd.f67.body.getD .skip
def W_settle_end (a0 a1 : AV) (H : Heap) (R : AV → Heap → Prop) : Prop :=
 pureK (bld [(0, 1), (1, 1), (2, 1)] [.sc (.int .i64 0), S emp, .sc (.int .i64 0)] [(0, I 14), (2, a0)]) fun x1 =>
 pureK (bsl 1 (.lst 0 [] .exact) 1 [(0, a1)]) fun x2 =>
 ACalls PP gΓ row_Make [x1, x2] H fun x3 H4 =>
 ret1 H4 R x3
theorem K_settle_end (a0 a1 : AV) (H : Heap) (R : AV → Heap → Prop) : awp E_settle_end (drawK E_settle_end) C_settle_end (fun j => List.getD [a0, a1] j .dead) H (retK PP Tryd.f67.results.toList R) = W_settle_end a0 a1 H R := by kernel_rfl
theorem settle_end_of {a0 a1 : AV} {H : Heap} {R : AV → Heap → Prop} (h : W_settle_end a0 a1 H R) : ACalls PP gΓ settle_end [a0, a1] H R :=
  ACalls.of_awp (E := E_settle_end) follows_PP Tryd.func67 (c := C_settle_end) (by kernel_rfl) Tryd.ntmps67 ((K_settle_end a0 a1 H R) ▸ h)

noncomputable def L_settle_par : Nat → Option (List Nat) := fun k => none
noncomputable abbrev E_settle_par : Env := ⟨PP, gΓ, 59, L_settle_par, fun _ => false⟩
noncomputable def C_settle_par : Code := Tryd.f68.body.getD .skip
def W_settle_par (a0 a1 a2 : AV) (H : Heap) (R : AV → Heap → Prop) : Prop :=
 allocK (some (AV.cells a0)) H fun p1 H2 =>
 pureK (ias 3 a1 (I 0)) fun x3 =>
 pureK (fa 2 x3) fun x4 =>
 pureK (ld (some false) 1 H2 x4) fun x5 =>
 pureK (ias 3 a2 (I 0)) fun x6 =>
 pureK (fa 2 x6) fun x7 =>
 pureK (ld (some false) 1 H2 x7) fun x8 =>
 ACalls PP gΓ sign_Both [x5, x8] H2 fun x9 H10 =>
 pureK (ias 3 a1 (I 0)) fun x11 =>
 pureK (fa 0 x11) fun x12 =>
 pureK (ld (some false) 1 H10 x12) fun x13 =>
 pureK (bop .plain .eql x13 (I 11)) fun x14 =>
 condK x14 (
  pureK (ias 3 a2 (I 0)) fun x15 =>
  pureK (fa 0 x15) fun x16 =>
  pureK (ld (some false) 1 H10 x16) fun x17 =>
  pureK (bop .plain .eql x17 (I 11)) fun x18 =>
  condK x18 (
   ACalls PP gΓ settle_over [x9] H10 fun x19 H20 =>
   ret1 H20 R x19
  ) (
   pureK (ias 3 a1 (I 0)) fun x21 =>
   pureK (fa 0 x21) fun x22 =>
   pureK (ld (some false) 1 H10 x22) fun x23 =>
   pureK (bop .plain .eql x23 (I 14)) fun x24 =>
   condK x24 (
    pureK (ias 3 a2 (I 0)) fun x25 =>
    pureK (fa 0 x25) fun x26 =>
    pureK (ld (some false) 1 H10 x26) fun x27 =>
    pureK (bop .plain .eql x27 (I 14)) fun x28 =>
    condK x28 (
     pureK (ld (some true) 3 H10 p1) fun x29 =>
     pureK (sll 3 a1 (some (I 1)) none none) fun x30 =>
     pureK (sll 3 a2 (some (I 1)) none none) fun x31 =>
     pureK (bsl 1 (.lst 0 [] .exact) 2 [(0, x30), (1, x31)]) fun x32 =>
     ∃ x33, AReads PP gΓ row_Make [x29, x32] H10 x33 ∧
     ACalls PP gΓ settle_end [x9, x33] H10 fun x34 H35 =>
     ret1 H35 R x34
    ) (
     pureK (ld (some true) 3 H10 p1) fun x36 =>
     pureK (bsl 1 (.lst 0 [] .exact) 2 [(0, a1), (1, a2)]) fun x37 =>
     ACalls PP gΓ row_Make [x36, x37] H10 fun x38 H39 =>
     ret1 H39 R x38
    )
   ) (
    pureK (ld (some true) 3 H10 p1) fun x40 =>
    pureK (bsl 1 (.lst 0 [] .exact) 2 [(0, a1), (1, a2)]) fun x41 =>
    ACalls PP gΓ row_Make [x40, x41] H10 fun x42 H43 =>
    ret1 H43 R x42
   )
  )
 ) (
  pureK (ias 3 a1 (I 0)) fun x44 =>
  pureK (fa 0 x44) fun x45 =>
  pureK (ld (some false) 1 H10 x45) fun x46 =>
  pureK (bop .plain .eql x46 (I 14)) fun x47 =>
  condK x47 (
   pureK (ias 3 a2 (I 0)) fun x48 =>
   pureK (fa 0 x48) fun x49 =>
   pureK (ld (some false) 1 H10 x49) fun x50 =>
   pureK (bop .plain .eql x50 (I 14)) fun x51 =>
   condK x51 (
    pureK (ld (some true) 3 H10 p1) fun x52 =>
    pureK (sll 3 a1 (some (I 1)) none none) fun x53 =>
    pureK (sll 3 a2 (some (I 1)) none none) fun x54 =>
    pureK (bsl 1 (.lst 0 [] .exact) 2 [(0, x53), (1, x54)]) fun x55 =>
    ∃ x56, AReads PP gΓ row_Make [x52, x55] H10 x56 ∧
    ACalls PP gΓ settle_end [x9, x56] H10 fun x57 H58 =>
    ret1 H58 R x57
   ) (
    pureK (ld (some true) 3 H10 p1) fun x59 =>
    pureK (bsl 1 (.lst 0 [] .exact) 2 [(0, a1), (1, a2)]) fun x60 =>
    ACalls PP gΓ row_Make [x59, x60] H10 fun x61 H62 =>
    ret1 H62 R x61
   )
  ) (
   pureK (ld (some true) 3 H10 p1) fun x63 =>
   pureK (bsl 1 (.lst 0 [] .exact) 2 [(0, a1), (1, a2)]) fun x64 =>
   ACalls PP gΓ row_Make [x63, x64] H10 fun x65 H66 =>
   ret1 H66 R x65
  )
 )
theorem K_settle_par (a0 a1 a2 : AV) (H : Heap) (R : AV → Heap → Prop) : awp E_settle_par (drawK E_settle_par) C_settle_par (fun j => List.getD [a0, a1, a2] j .dead) H (retK PP Tryd.f68.results.toList R) = W_settle_par a0 a1 a2 H R := by kernel_rfl
theorem settle_par_of {a0 a1 a2 : AV} {H : Heap} {R : AV → Heap → Prop} (h : W_settle_par a0 a1 a2 H R) : ACalls PP gΓ settle_par [a0, a1, a2] H R :=
  ACalls.of_awp (E := E_settle_par) follows_PP Tryd.func68 (c := C_settle_par) (by kernel_rfl) Tryd.ntmps68 ((K_settle_par a0 a1 a2 H R) ▸ h)

noncomputable def L_settle_block : Nat → Option (List Nat) := fun k => none
noncomputable abbrev E_settle_block : Env := ⟨PP, gΓ, 22, L_settle_block, fun _ => false⟩
noncomputable def C_settle_block : Code := Tryd.f69.body.getD .skip
def W_settle_block (a0 a1 : AV) (H : Heap) (R : AV → Heap → Prop) : Prop :=
 allocK (some (AV.cells a0)) H fun p1 H2 =>
 pureK (ias 3 a1 (I 0)) fun x3 =>
 pureK (ld (some true) 3 H2 x3) fun x4 =>
 pureK (bld [(0, 1), (1, 1), (2, 1)] [.sc (.int .i64 0), S emp, .sc (.int .i64 0)] [(0, I 14), (2, I 1)]) fun x5 =>
 pureK (bop (.flat [.int, .str, .int]) .eql x4 x5) fun x6 =>
 condK x6 (
  ACalls PP gΓ settle_over [I 1] H2 fun x7 H8 =>
  ret1 H8 R x7
 ) (
  pureK (bld [(0, 1), (1, 1), (2, 1)] [.sc (.int .i64 0), S emp, .sc (.int .i64 0)] [(0, I 14), (2, I 2)]) fun x9 =>
  pureK (bop (.flat [.int, .str, .int]) .eql x4 x9) fun x10 =>
  condK x10 (
   pureK (sll 3 a1 (some (I 1)) none none) fun x11 =>
   ACalls PP gΓ settle_settle [x11] H2 fun x12 H13 =>
   ret1 H13 R x12
  ) (
   pureK (ld (some true) 3 H2 p1) fun x14 =>
   pureK (bsl 1 (.lst 0 [] .exact) 1 [(0, a1)]) fun x15 =>
   ACalls PP gΓ row_Make [x14, x15] H2 fun x16 H17 =>
   ret1 H17 R x16
  )
 )
theorem K_settle_block (a0 a1 : AV) (H : Heap) (R : AV → Heap → Prop) : awp E_settle_block (drawK E_settle_block) C_settle_block (fun j => List.getD [a0, a1] j .dead) H (retK PP Tryd.f69.results.toList R) = W_settle_block a0 a1 H R := by kernel_rfl
theorem settle_block_of {a0 a1 : AV} {H : Heap} {R : AV → Heap → Prop} (h : W_settle_block a0 a1 H R) : ACalls PP gΓ settle_block [a0, a1] H R :=
  ACalls.of_awp (E := E_settle_block) follows_PP Tryd.func69 (c := C_settle_block) (by kernel_rfl) Tryd.ntmps69 ((K_settle_block a0 a1 H R) ▸ h)

noncomputable def L_strings_asciiSet_contains : Nat → Option (List Nat) := fun k => none
noncomputable abbrev E_strings_asciiSet_contains : Env := ⟨PP, gΓ, 10, L_strings_asciiSet_contains, fun _ => false⟩
noncomputable def C_strings_asciiSet_contains : Code := Tryd.f70.body.getD .skip
def W_strings_asciiSet_contains (a0 a1 : AV) (H : Heap) (R : AV → Heap → Prop) : Prop :=
 pureK (nilE a0) fun x1 =>
 pureK (iaa 256 1 x1 a1) fun x2 =>
 pureK (ld (some false) 1 H x2) fun x3 =>
 ret1 H R x3
theorem K_strings_asciiSet_contains (a0 a1 : AV) (H : Heap) (R : AV → Heap → Prop) : awp E_strings_asciiSet_contains (drawK E_strings_asciiSet_contains) C_strings_asciiSet_contains (fun j => List.getD [a0, a1] j .dead) H (retK PP Tryd.f70.results.toList R) = W_strings_asciiSet_contains a0 a1 H R := by kernel_rfl
theorem strings_asciiSet_contains_of {a0 a1 : AV} {H : Heap} {R : AV → Heap → Prop} (h : W_strings_asciiSet_contains a0 a1 H R) : ACalls PP gΓ strings_asciiSet_contains [a0, a1] H R :=
  ACalls.of_awp (E := E_strings_asciiSet_contains) follows_PP Tryd.func70 (c := C_strings_asciiSet_contains) (by kernel_rfl) Tryd.ntmps70 ((K_strings_asciiSet_contains a0 a1 H R) ▸ h)

noncomputable def L_utf8_DecodeRuneInString : Nat → Option (List Nat) := fun k => none
noncomputable abbrev E_utf8_DecodeRuneInString : Env := ⟨PP, gΓ, 19, L_utf8_DecodeRuneInString, fun _ => false⟩
noncomputable def C_utf8_DecodeRuneInString : Code := Tryd.f71.body.getD .skip
def W_utf8_DecodeRuneInString (a0 : AV) (H : Heap) (R : AV → Heap → Prop) : Prop :=
 pureK (bop .plain .neq a0 (S emp)) fun x1 =>
 condK x1 (
  pureK (ixs a0 (I 0)) fun x2 =>
  pureK (bop .plain .lss x2 (.sc (.int .u8 128))) fun x3 =>
  condK x3 (
   pureK (ixs a0 (I 0)) fun x4 =>
   pureK (cv (.toInt .i32) x4) fun x5 =>
   ret1 H R (.tup [x5, I 1])
  ) (
   ACalls PP gΓ utf8_decodeRuneInStringSlow [a0] H fun x6 H7 =>
   pureK (extractE x6 0) fun x8 =>
   pureK (extractE x6 1) fun x9 =>
   ret1 H7 R (.tup [x8, x9])
  )
 ) (
  ACalls PP gΓ utf8_decodeRuneInStringSlow [a0] H fun x10 H11 =>
  pureK (extractE x10 0) fun x12 =>
  pureK (extractE x10 1) fun x13 =>
  ret1 H11 R (.tup [x12, x13])
 )
theorem K_utf8_DecodeRuneInString (a0 : AV) (H : Heap) (R : AV → Heap → Prop) : awp E_utf8_DecodeRuneInString (drawK E_utf8_DecodeRuneInString) C_utf8_DecodeRuneInString (fun j => List.getD [a0] j .dead) H (retK PP Tryd.f71.results.toList R) = W_utf8_DecodeRuneInString a0 H R := by kernel_rfl
theorem utf8_DecodeRuneInString_of {a0 : AV} {H : Heap} {R : AV → Heap → Prop} (h : W_utf8_DecodeRuneInString a0 H R) : ACalls PP gΓ utf8_DecodeRuneInString [a0] H R :=
  ACalls.of_awp (E := E_utf8_DecodeRuneInString) follows_PP Tryd.func71 (c := C_utf8_DecodeRuneInString) (by kernel_rfl) Tryd.ntmps71 ((K_utf8_DecodeRuneInString a0 H R) ▸ h)

noncomputable def L_utf8_DecodeLastRuneInString : Nat → Option (List Nat) := fun k => bif Nat.beq k 1010 then some [0, 4, 5, 6] else none
noncomputable abbrev E_utf8_DecodeLastRuneInString : Env := ⟨PP, gΓ, 51, L_utf8_DecodeLastRuneInString, fun _ => false⟩
noncomputable def C_utf8_DecodeLastRuneInString : Code := Tryd.f73.body.getD .skip
def W_utf8_DecodeLastRuneInString (a0 : AV) (H : Heap) (R : AV → Heap → Prop) : Prop :=
 pureK (lns a0) fun x1 =>
 pureK (bop .plain .eql x1 (I 0)) fun x2 =>
 condK x2 (
  ret1 H R (.tup [.sc (.int .i32 65533), I 0])
 ) (
  pureK (bop .plain .sub x1 (I 1)) fun x3 =>
  pureK (ixs a0 x3) fun x4 =>
  pureK (cv (.toInt .i32) x4) fun x5 =>
  pureK (bop .plain .lss x5 (.sc (.int .i32 128))) fun x6 =>
  condK x6 (
   ret1 H R (.tup [x5, I 1])
  ) (
   pureK (bop .plain .sub x1 (I 4)) fun x7 =>
   pureK (maxE [x7, I 0]) fun x8 =>
   pureK (bop .plain .sub x3 (I 1)) fun x9 =>
   ∃ J10 : List AV → Heap → Nat → Prop, (∃ (n16 : Nat) (H17 : Heap), H17 ≤ H ∧ J10 [a0, x1, x9, x8] H17 n16) ∧ ∀ (vs11 : List AV) (H12 : Heap) (n13 : Nat), J10 vs11 H12 n13 →
   pureK (bop .plain .geq (nth vs11 2) (nth vs11 3)) fun x18 =>
   condK x18 (
    pureK (ixs (nth vs11 0) (nth vs11 2)) fun x19 =>
    ACalls PP gΓ utf8_RuneStart [x19] H12 fun x20 H21 =>
    condK x20 (
     pureK (bop .plain .lss (nth vs11 2) (I 0)) fun x22 =>
     condK x22 (
      pureK (sls (nth vs11 0) (some (I 0)) (some (nth vs11 1)) none) fun x23 =>
      ACalls PP gΓ utf8_DecodeRuneInString [x23] H21 fun x24 H25 =>
      pureK (extractE x24 0) fun x26 =>
      pureK (extractE x24 1) fun x27 =>
      pureK (bop .plain .add (I 0) x27) fun x28 =>
      pureK (bop .plain .neq x28 (nth vs11 1)) fun x29 =>
      condK x29 (
       ret1 H25 R (.tup [.sc (.int .i32 65533), I 1])
      ) (
       ret1 H25 R (.tup [x26, x27])
      )
     ) (
      pureK (sls (nth vs11 0) (some (nth vs11 2)) (some (nth vs11 1)) none) fun x30 =>
      ACalls PP gΓ utf8_DecodeRuneInString [x30] H21 fun x31 H32 =>
      pureK (extractE x31 0) fun x33 =>
      pureK (extractE x31 1) fun x34 =>
      pureK (bop .plain .add (nth vs11 2) x34) fun x35 =>
      pureK (bop .plain .neq x35 (nth vs11 1)) fun x36 =>
      condK x36 (
       ret1 H32 R (.tup [.sc (.int .i32 65533), I 1])
      ) (
       ret1 H32 R (.tup [x33, x34])
      )
     )
    ) (
     pureK (bop .plain .sub (nth vs11 2) (I 1)) fun x37 =>
     (∃ (n14 : Nat) (H15 : Heap), n14 < n13 ∧ H15 ≤ H21 ∧ J10 [nth vs11 0, nth vs11 1, x37, nth vs11 3] H15 n14)
    )
   ) (
    pureK (bop .plain .lss (nth vs11 2) (I 0)) fun x38 =>
    condK x38 (
     pureK (sls (nth vs11 0) (some (I 0)) (some (nth vs11 1)) none) fun x39 =>
     ACalls PP gΓ utf8_DecodeRuneInString [x39] H12 fun x40 H41 =>
     pureK (extractE x40 0) fun x42 =>
     pureK (extractE x40 1) fun x43 =>
     pureK (bop .plain .add (I 0) x43) fun x44 =>
     pureK (bop .plain .neq x44 (nth vs11 1)) fun x45 =>
     condK x45 (
      ret1 H41 R (.tup [.sc (.int .i32 65533), I 1])
     ) (
      ret1 H41 R (.tup [x42, x43])
     )
    ) (
     pureK (sls (nth vs11 0) (some (nth vs11 2)) (some (nth vs11 1)) none) fun x46 =>
     ACalls PP gΓ utf8_DecodeRuneInString [x46] H12 fun x47 H48 =>
     pureK (extractE x47 0) fun x49 =>
     pureK (extractE x47 1) fun x50 =>
     pureK (bop .plain .add (nth vs11 2) x50) fun x51 =>
     pureK (bop .plain .neq x51 (nth vs11 1)) fun x52 =>
     condK x52 (
      ret1 H48 R (.tup [.sc (.int .i32 65533), I 1])
     ) (
      ret1 H48 R (.tup [x49, x50])
     )
    )
   )
  )
 )
theorem K_utf8_DecodeLastRuneInString (a0 : AV) (H : Heap) (R : AV → Heap → Prop) : awp E_utf8_DecodeLastRuneInString (drawK E_utf8_DecodeLastRuneInString) C_utf8_DecodeLastRuneInString (fun j => List.getD [a0] j .dead) H (retK PP Tryd.f73.results.toList R) = W_utf8_DecodeLastRuneInString a0 H R := by kernel_rfl
theorem utf8_DecodeLastRuneInString_of {a0 : AV} {H : Heap} {R : AV → Heap → Prop} (h : W_utf8_DecodeLastRuneInString a0 H R) : ACalls PP gΓ utf8_DecodeLastRuneInString [a0] H R :=
  ACalls.of_awp (E := E_utf8_DecodeLastRuneInString) follows_PP Tryd.func73 (c := C_utf8_DecodeLastRuneInString) (by kernel_rfl) Tryd.ntmps73 ((K_utf8_DecodeLastRuneInString a0 H R) ▸ h)

noncomputable def L_slices_IndexFunc_Node : Nat → Option (List Nat) := fun k => bif Nat.beq k 1002 then some [0, 1, 7, 8] else none
noncomputable abbrev E_slices_IndexFunc_Node : Env := ⟨PP, gΓ, 19, L_slices_IndexFunc_Node, fun _ => false⟩
noncomputable def C_slices_IndexFunc_Node : Code := Tryd.f74.body.getD .skip
def W_slices_IndexFunc_Node (a0 a1 : AV) (H : Heap) (R : AV → Heap → Prop) : Prop :=
 pureK (lnl a0) fun x1 =>
 ∃ J2 : List AV → Heap → Nat → Prop, (∃ (n8 : Nat) (H9 : Heap), H9 ≤ H ∧ J2 [a0, a1, x1, I 0] H9 n8) ∧ ∀ (vs3 : List AV) (H4 : Heap) (n5 : Nat), J2 vs3 H4 n5 →
 pureK (bop .plain .lss (nth vs3 3) (nth vs3 2)) fun x10 =>
 condK x10 (
  pureK (ias 3 (nth vs3 0) (nth vs3 3)) fun x11 =>
  pureK (ld (some true) 3 H4 x11) fun x12 =>
  callK (E_slices_IndexFunc_Node) (nth vs3 1) [x12] H4 fun x13 H14 =>
  condK x13 (
   ret1 H14 R (nth vs3 3)
  ) (
   pureK (bop .plain .add (nth vs3 3) (I 1)) fun x15 =>
   (∃ (n6 : Nat) (H7 : Heap), n6 < n5 ∧ H7 ≤ H14 ∧ J2 [nth vs3 0, nth vs3 1, nth vs3 2, x15] H7 n6)
  )
 ) (
  ret1 H4 R (I (-1))
 )
theorem K_slices_IndexFunc_Node (a0 a1 : AV) (H : Heap) (R : AV → Heap → Prop) : awp E_slices_IndexFunc_Node (drawK E_slices_IndexFunc_Node) C_slices_IndexFunc_Node (fun j => List.getD [a0, a1] j .dead) H (retK PP Tryd.f74.results.toList R) = W_slices_IndexFunc_Node a0 a1 H R := by kernel_rfl
theorem slices_IndexFunc_Node_of {a0 a1 : AV} {H : Heap} {R : AV → Heap → Prop} (h : W_slices_IndexFunc_Node a0 a1 H R) : ACalls PP gΓ slices_IndexFunc_Node [a0, a1] H R :=
  ACalls.of_awp (E := E_slices_IndexFunc_Node) follows_PP Tryd.func74 (c := C_slices_IndexFunc_Node) (by kernel_rfl) Tryd.ntmps74 ((K_slices_IndexFunc_Node a0 a1 H R) ▸ h)

noncomputable def L_slices_Clone_Node : Nat → Option (List Nat) := fun k => none
noncomputable abbrev E_slices_Clone_Node : Env := ⟨PP, gΓ, 8, L_slices_Clone_Node, fun _ => false⟩
noncomputable def C_slices_Clone_Node : Code := Tryd.f75.body.getD .skip
def W_slices_Clone_Node (a0 : AV) (H : Heap) (R : AV → Heap → Prop) : Prop :=
 pureK (bop (.slice true) .eql a0 (.lst 0 [] .exact)) fun x1 =>
 condK x1 (
  ret1 H R (.lst 0 [] .exact)
 ) (
  pureK (bsl 3 (.agg [.sc (.int .i64 0), S emp, .sc (.int .i64 0)]) 0 []) fun x2 =>
  appK 3 x2 a0 H fun x3 H4 =>
  ret1 H4 R x3
 )
theorem K_slices_Clone_Node (a0 : AV) (H : Heap) (R : AV → Heap → Prop) : awp E_slices_Clone_Node (drawK E_slices_Clone_Node) C_slices_Clone_Node (fun j => List.getD [a0] j .dead) H (retK PP Tryd.f75.results.toList R) = W_slices_Clone_Node a0 H R := by kernel_rfl
theorem slices_Clone_Node_of {a0 : AV} {H : Heap} {R : AV → Heap → Prop} (h : W_slices_Clone_Node a0 H R) : ACalls PP gΓ slices_Clone_Node [a0] H R :=
  ACalls.of_awp (E := E_slices_Clone_Node) follows_PP Tryd.func75 (c := C_slices_Clone_Node) (by kernel_rfl) Tryd.ntmps75 ((K_slices_Clone_Node a0 H R) ▸ h)

noncomputable def L_slices_Concat_Node : Nat → Option (List Nat) := fun k => bif Nat.beq k 1003 then some [0, 3, 9, 10, 11] else bif Nat.beq k 1011 then some [6, 25, 26, 27] else none
noncomputable abbrev E_slices_Concat_Node : Env := ⟨PP, gΓ, 36, L_slices_Concat_Node, fun _ => false⟩
noncomputable def C_slices_Concat_Node : Code := Tryd.f76.body.getD .skip
def W_slices_Concat_Node (a0 : AV) (H : Heap) (R : AV → Heap → Prop) : Prop :=
 pureK (lnl a0) fun x1 =>
 ∃ J2 : List AV → Heap → Nat → Prop, (∃ (n8 : Nat) (H9 : Heap), H9 ≤ H ∧ J2 [a0, I 0, a0, x1, I 0] H9 n8) ∧ ∀ (vs3 : List AV) (H4 : Heap) (n5 : Nat), J2 vs3 H4 n5 →
 pureK (bop .plain .lss (nth vs3 4) (nth vs3 3)) fun x10 =>
 condK x10 (
  pureK (ias 1 (nth vs3 2) (nth vs3 4)) fun x11 =>
  pureK (ld (some false) 1 H4 x11) fun x12 =>
  pureK (lnl x12) fun x13 =>
  pureK (bop .plain .add (nth vs3 1) x13) fun x14 =>
  pureK (bop .plain .lss x14 (I 0)) fun x15 =>
  condK x15 (
   False
  ) (
   pureK (bop .plain .add (nth vs3 4) (I 1)) fun x16 =>
   (∃ (n6 : Nat) (H7 : Heap), n6 < n5 ∧ H7 ≤ H4 ∧ J2 [nth vs3 0, x14, nth vs3 2, nth vs3 3, x16] H7 n6)
  )
 ) (
  ACalls PP gΓ slices_Grow_Node [.lst 0 [] .exact, nth vs3 1] H4 fun x17 H18 =>
  pureK (lnl (nth vs3 0)) fun x19 =>
  ∃ J20 : List AV → Heap → Nat → Prop, (∃ (n26 : Nat) (H27 : Heap), H27 ≤ H18 ∧ J20 [x17, nth vs3 0, x19, I 0] H27 n26) ∧ ∀ (vs21 : List AV) (H22 : Heap) (n23 : Nat), J20 vs21 H22 n23 →
  pureK (bop .plain .lss (nth vs21 3) (nth vs21 2)) fun x28 =>
  condK x28 (
   pureK (ias 1 (nth vs21 1) (nth vs21 3)) fun x29 =>
   pureK (ld (some false) 1 H22 x29) fun x30 =>
   appK 3 (nth vs21 0) x30 H22 fun x31 H32 =>
   pureK (bop .plain .add (nth vs21 3) (I 1)) fun x33 =>
   (∃ (n24 : Nat) (H25 : Heap), n24 < n23 ∧ H25 ≤ H32 ∧ J20 [x31, nth vs21 1, nth vs21 2, x33] H25 n24)
  ) (
   ret1 H22 R (nth vs21 0)
  )
 )
theorem K_slices_Concat_Node (a0 : AV) (H : Heap) (R : AV → Heap → Prop) : awp E_slices_Concat_Node (drawK E_slices_Concat_Node) C_slices_Concat_Node (fun j => List.getD [a0] j .dead) H (retK PP Tryd.f76.results.toList R) = W_slices_Concat_Node a0 H R := by kernel_rfl
theorem slices_Concat_Node_of {a0 : AV} {H : Heap} {R : AV → Heap → Prop} (h : W_slices_Concat_Node a0 H R) : ACalls PP gΓ slices_Concat_Node [a0] H R :=
  ACalls.of_awp (E := E_slices_Concat_Node) follows_PP Tryd.func76 (c := C_slices_Concat_Node) (by kernel_rfl) Tryd.ntmps76 ((K_slices_Concat_Node a0 H R) ▸ h)

noncomputable def L_sign_Both : Nat → Option (List Nat) := fun k => none
noncomputable abbrev E_sign_Both : Env := ⟨PP, gΓ, 24, L_sign_Both, fun _ => false⟩
noncomputable def C_sign_Both : Code := Tryd.f77.body.getD .skip
def W_sign_Both (a0 a1 : AV) (H : Heap) (R : AV → Heap → Prop) : Prop :=
 ACalls PP gΓ sign_Is [a0] H fun x1 H2 =>
 pureK (unE .not x1) fun x3 =>
 condK x3 (
  ret1 H2 R (I 0)
 ) (
  ACalls PP gΓ sign_Is [a1] H2 fun x4 H5 =>
  pureK (unE .not x4) fun x6 =>
  condK x6 (
   ret1 H5 R (I 0)
  ) (
   pureK (bop .plain .eql a0 (I 2)) fun x7 =>
   condK x7 (
    ret1 H5 R (I 2)
   ) (
    pureK (bop .plain .eql a1 (I 2)) fun x8 =>
    condK x8 (
     ret1 H5 R (I 2)
    ) (
     pureK (maxE [a0, a1]) fun x9 =>
     ret1 H5 R x9
    )
   )
  )
 )
theorem K_sign_Both (a0 a1 : AV) (H : Heap) (R : AV → Heap → Prop) : awp E_sign_Both (drawK E_sign_Both) C_sign_Both (fun j => List.getD [a0, a1] j .dead) H (retK PP Tryd.f77.results.toList R) = W_sign_Both a0 a1 H R := by kernel_rfl
theorem sign_Both_of {a0 a1 : AV} {H : Heap} {R : AV → Heap → Prop} (h : W_sign_Both a0 a1 H R) : ACalls PP gΓ sign_Both [a0, a1] H R :=
  ACalls.of_awp (E := E_sign_Both) follows_PP Tryd.func77 (c := C_sign_Both) (by kernel_rfl) Tryd.ntmps77 ((K_sign_Both a0 a1 H R) ▸ h)

noncomputable def L_utf8_decodeRuneInStringSlow : Nat → Option (List Nat) := fun k => none
noncomputable abbrev E_utf8_decodeRuneInStringSlow : Env := ⟨PP, gΓ, 117, L_utf8_decodeRuneInStringSlow, fun _ => false⟩
noncomputable def C_utf8_decodeRuneInStringSlow : Code := Tryd.f78.body.getD .skip
def W_utf8_decodeRuneInStringSlow (a0 : AV) (H : Heap) (R : AV → Heap → Prop) : Prop :=
 pureK (lns a0) fun x1 =>
 pureK (bop .plain .lss x1 (I 1)) fun x2 =>
 condK x2 (
  ret1 H R (.tup [.sc (.int .i32 65533), I 0])
 ) (
  pureK (ixs a0 (I 0)) fun x3 =>
  pureK (iaa 256 1 g1 x3) fun x4 =>
  pureK (ld (some false) 1 H x4) fun x5 =>
  pureK (bop .plain .geq x5 (.sc (.int .u8 240))) fun x6 =>
  condK x6 (
   pureK (cv (.toInt .i32) x5) fun x7 =>
   pureK (bop .plain .shl x7 (.sc (.int .u64 31))) fun x8 =>
   pureK (bop .plain .shr x8 (.sc (.int .u64 31))) fun x9 =>
   pureK (ixs a0 (I 0)) fun x10 =>
   pureK (cv (.toInt .i32) x10) fun x11 =>
   pureK (bop .plain .andNot x11 x9) fun x12 =>
   pureK (bop .plain .and (.sc (.int .i32 65533)) x9) fun x13 =>
   pureK (bop .plain .or x12 x13) fun x14 =>
   ret1 H R (.tup [x14, I 1])
  ) (
   pureK (bop .plain .and x5 (.sc (.int .u8 7))) fun x15 =>
   pureK (cv (.toInt .i64) x15) fun x16 =>
   pureK (bop .plain .shr x5 (.sc (.int .u64 4))) fun x17 =>
   pureK (iaa 16 2 g2 x17) fun x18 =>
   pureK (ld (some true) 2 H x18) fun x19 =>
   allocP [.sc (.int .u8 0), .sc (.int .u8 0)] H fun o20 H21 =>
   heapK (st 2 H21 (.ptr o20 0) x19) fun H22 =>
   pureK (bop .plain .lss x1 x16) fun x23 =>
   condK x23 (
    ret1 H22 R (.tup [.sc (.int .i32 65533), I 1])
   ) (
    pureK (ixs a0 (I 1)) fun x24 =>
    pureK (fa 0 (.ptr o20 0)) fun x25 =>
    pureK (ld (some false) 1 H22 x25) fun x26 =>
    pureK (bop .plain .lss x24 x26) fun x27 =>
    condK x27 (
     ret1 H22 R (.tup [.sc (.int .i32 65533), I 1])
    ) (
     pureK (fa 1 (.ptr o20 0)) fun x28 =>
     pureK (ld (some false) 1 H22 x28) fun x29 =>
     pureK (bop .plain .lss x29 x24) fun x30 =>
     condK x30 (
      ret1 H22 R (.tup [.sc (.int .i32 65533), I 1])
     ) (
      pureK (bop .plain .leq x16 (I 2)) fun x31 =>
      condK x31 (
       pureK (bop .plain .and x3 (.sc (.int .u8 31))) fun x32 =>
       pureK (cv (.toInt .i32) x32) fun x33 =>
       pureK (bop .plain .shl x33 (.sc (.int .u64 6))) fun x34 =>
       pureK (bop .plain .and x24 (.sc (.int .u8 63))) fun x35 =>
       pureK (cv (.toInt .i32) x35) fun x36 =>
       pureK (bop .plain .or x34 x36) fun x37 =>
       ret1 H22 R (.tup [x37, I 2])
      ) (
       pureK (ixs a0 (I 2)) fun x38 =>
       pureK (bop .plain .lss x38 (.sc (.int .u8 128))) fun x39 =>
       condK x39 (
        ret1 H22 R (.tup [.sc (.int .i32 65533), I 1])
       ) (
        pureK (bop .plain .lss (.sc (.int .u8 191)) x38) fun x40 =>
        condK x40 (
         ret1 H22 R (.tup [.sc (.int .i32 65533), I 1])
        ) (
         pureK (bop .plain .leq x16 (I 3)) fun x41 =>
         condK x41 (
          pureK (bop .plain .and x3 (.sc (.int .u8 15))) fun x42 =>
          pureK (cv (.toInt .i32) x42) fun x43 =>
          pureK (bop .plain .shl x43 (.sc (.int .u64 12))) fun x44 =>
          pureK (bop .plain .and x24 (.sc (.int .u8 63))) fun x45 =>
          pureK (cv (.toInt .i32) x45) fun x46 =>
          pureK (bop .plain .shl x46 (.sc (.int .u64 6))) fun x47 =>
          pureK (bop .plain .or x44 x47) fun x48 =>
          pureK (bop .plain .and x38 (.sc (.int .u8 63))) fun x49 =>
          pureK (cv (.toInt .i32) x49) fun x50 =>
          pureK (bop .plain .or x48 x50) fun x51 =>
          ret1 H22 R (.tup [x51, I 3])
         ) (
          pureK (ixs a0 (I 3)) fun x52 =>
          pureK (bop .plain .lss x52 (.sc (.int .u8 128))) fun x53 =>
          condK x53 (
           ret1 H22 R (.tup [.sc (.int .i32 65533), I 1])
          ) (
           pureK (bop .plain .lss (.sc (.int .u8 191)) x52) fun x54 =>
           condK x54 (
            ret1 H22 R (.tup [.sc (.int .i32 65533), I 1])
           ) (
            pureK (bop .plain .and x3 (.sc (.int .u8 7))) fun x55 =>
            pureK (cv (.toInt .i32) x55) fun x56 =>
            pureK (bop .plain .shl x56 (.sc (.int .u64 18))) fun x57 =>
            pureK (bop .plain .and x24 (.sc (.int .u8 63))) fun x58 =>
            pureK (cv (.toInt .i32) x58) fun x59 =>
            pureK (bop .plain .shl x59 (.sc (.int .u64 12))) fun x60 =>
            pureK (bop .plain .or x57 x60) fun x61 =>
            pureK (bop .plain .and x38 (.sc (.int .u8 63))) fun x62 =>
            pureK (cv (.toInt .i32) x62) fun x63 =>
            pureK (bop .plain .shl x63 (.sc (.int .u64 6))) fun x64 =>
            pureK (bop .plain .or x61 x64) fun x65 =>
            pureK (bop .plain .and x52 (.sc (.int .u8 63))) fun x66 =>
            pureK (cv (.toInt .i32) x66) fun x67 =>
            pureK (bop .plain .or x65 x67) fun x68 =>
            ret1 H22 R (.tup [x68, I 4])
           )
          )
         )
        )
       )
      )
     )
    )
   )
  )
 )
theorem K_utf8_decodeRuneInStringSlow (a0 : AV) (H : Heap) (R : AV → Heap → Prop) : awp E_utf8_decodeRuneInStringSlow (drawK E_utf8_decodeRuneInStringSlow) C_utf8_decodeRuneInStringSlow (fun j => List.getD [a0] j .dead) H (retK PP Tryd.f78.results.toList R) = W_utf8_decodeRuneInStringSlow a0 H R := by kernel_rfl
theorem utf8_decodeRuneInStringSlow_of {a0 : AV} {H : Heap} {R : AV → Heap → Prop} (h : W_utf8_decodeRuneInStringSlow a0 H R) : ACalls PP gΓ utf8_decodeRuneInStringSlow [a0] H R :=
  ACalls.of_awp (E := E_utf8_decodeRuneInStringSlow) follows_PP Tryd.func78 (c := C_utf8_decodeRuneInStringSlow) (by kernel_rfl) Tryd.ntmps78 ((K_utf8_decodeRuneInStringSlow a0 H R) ▸ h)

noncomputable def L_utf8_RuneStart : Nat → Option (List Nat) := fun k => none
noncomputable abbrev E_utf8_RuneStart : Env := ⟨PP, gΓ, 6, L_utf8_RuneStart, fun _ => false⟩
noncomputable def C_utf8_RuneStart : Code := Tryd.f80.body.getD .skip
def W_utf8_RuneStart (a0 : AV) (H : Heap) (R : AV → Heap → Prop) : Prop :=
 pureK (bop .plain .and a0 (.sc (.int .u8 192))) fun x1 =>
 pureK (bop .plain .neq x1 (.sc (.int .u8 128))) fun x2 =>
 ret1 H R x2
theorem K_utf8_RuneStart (a0 : AV) (H : Heap) (R : AV → Heap → Prop) : awp E_utf8_RuneStart (drawK E_utf8_RuneStart) C_utf8_RuneStart (fun j => List.getD [a0] j .dead) H (retK PP Tryd.f80.results.toList R) = W_utf8_RuneStart a0 H R := by kernel_rfl
theorem utf8_RuneStart_of {a0 : AV} {H : Heap} {R : AV → Heap → Prop} (h : W_utf8_RuneStart a0 H R) : ACalls PP gΓ utf8_RuneStart [a0] H R :=
  ACalls.of_awp (E := E_utf8_RuneStart) follows_PP Tryd.func80 (c := C_utf8_RuneStart) (by kernel_rfl) Tryd.ntmps80 ((K_utf8_RuneStart a0 H R) ▸ h)

noncomputable def L_slices_Grow_Node : Nat → Option (List Nat) := fun k => none
noncomputable abbrev E_slices_Grow_Node : Env := ⟨PP, gΓ, 27, L_slices_Grow_Node, fun _ => false⟩
noncomputable def C_slices_Grow_Node : Code := Tryd.f81.body.getD .skip
def W_slices_Grow_Node (a0 a1 : AV) (H : Heap) (R : AV → Heap → Prop) : Prop :=
 pureK (bop .plain .lss a1 (I 0)) fun x1 =>
 condK x1 (
  False
 ) (
  pureK (cpl a0) fun x2 =>
  pureK (lnl a0) fun x3 =>
  pureK (bop .plain .sub x2 x3) fun x4 =>
  pureK (bop .plain .sub a1 x4) fun x5 =>
  pureK (bop .plain .gtr x5 (I 0)) fun x6 =>
  condK x6 (
   pureK (cpl a0) fun x7 =>
   pureK (sll 3 a0 none (some x7) none) fun x8 =>
   growK 3 x8 x5 H fun x9 H10 =>
   pureK (lnl a0) fun x11 =>
   pureK (sll 3 x9 none (some x11) none) fun x12 =>
   ret1 H10 R x12
  ) (
   ret1 H R a0
  )
 )
theorem K_slices_Grow_Node (a0 a1 : AV) (H : Heap) (R : AV → Heap → Prop) : awp E_slices_Grow_Node (drawK E_slices_Grow_Node) C_slices_Grow_Node (fun j => List.getD [a0, a1] j .dead) H (retK PP Tryd.f81.results.toList R) = W_slices_Grow_Node a0 a1 H R := by kernel_rfl
theorem slices_Grow_Node_of {a0 a1 : AV} {H : Heap} {R : AV → Heap → Prop} (h : W_slices_Grow_Node a0 a1 H R) : ACalls PP gΓ slices_Grow_Node [a0, a1] H R :=
  ACalls.of_awp (E := E_slices_Grow_Node) follows_PP Tryd.func81 (c := C_slices_Grow_Node) (by kernel_rfl) Tryd.ntmps81 ((K_slices_Grow_Node a0 a1 H R) ▸ h)

noncomputable def L_sign_Is : Nat → Option (List Nat) := fun k => none
noncomputable abbrev E_sign_Is : Env := ⟨PP, gΓ, 9, L_sign_Is, fun _ => false⟩
noncomputable def C_sign_Is : Code := Tryd.f82.body.getD .skip
def W_sign_Is (a0 : AV) (H : Heap) (R : AV → Heap → Prop) : Prop :=
 pureK (bop .plain .geq a0 (I 1)) fun x1 =>
 condK x1 (
  pureK (bop .plain .leq a0 (I 3)) fun x2 =>
  ret1 H R x2
 ) (
  ret1 H R (B false)
 )
theorem K_sign_Is (a0 : AV) (H : Heap) (R : AV → Heap → Prop) : awp E_sign_Is (drawK E_sign_Is) C_sign_Is (fun j => List.getD [a0] j .dead) H (retK PP Tryd.f82.results.toList R) = W_sign_Is a0 H R := by kernel_rfl
theorem sign_Is_of {a0 : AV} {H : Heap} {R : AV → Heap → Prop} (h : W_sign_Is a0 H R) : ACalls PP gΓ sign_Is [a0] H R :=
  ACalls.of_awp (E := E_sign_Is) follows_PP Tryd.func82 (c := C_sign_Is) (by kernel_rfl) Tryd.ntmps82 ((K_sign_Is a0 H R) ▸ h)

noncomputable def L_utf8_ValidRune : Nat → Option (List Nat) := fun k => none
noncomputable abbrev E_utf8_ValidRune : Env := ⟨PP, gΓ, 17, L_utf8_ValidRune, fun _ => false⟩
noncomputable def C_utf8_ValidRune : Code := Tryd.f84.body.getD .skip
def W_utf8_ValidRune (a0 : AV) (H : Heap) (R : AV → Heap → Prop) : Prop :=
 pureK (bop .plain .leq (.sc (.int .i32 0)) a0) fun x1 =>
 condK x1 (
  pureK (bop .plain .lss a0 (.sc (.int .i32 55296))) fun x2 =>
  condK x2 (
   ret1 H R (B true)
  ) (
   pureK (bop .plain .lss (.sc (.int .i32 57343)) a0) fun x3 =>
   condK x3 (
    pureK (bop .plain .leq a0 (.sc (.int .i32 1114111))) fun x4 =>
    condK x4 (
     ret1 H R (B true)
    ) (
     ret1 H R (B false)
    )
   ) (
    ret1 H R (B false)
   )
  )
 ) (
  pureK (bop .plain .lss (.sc (.int .i32 57343)) a0) fun x5 =>
  condK x5 (
   pureK (bop .plain .leq a0 (.sc (.int .i32 1114111))) fun x6 =>
   condK x6 (
    ret1 H R (B true)
   ) (
    ret1 H R (B false)
   )
  ) (
   ret1 H R (B false)
  )
 )
theorem K_utf8_ValidRune (a0 : AV) (H : Heap) (R : AV → Heap → Prop) : awp E_utf8_ValidRune (drawK E_utf8_ValidRune) C_utf8_ValidRune (fun j => List.getD [a0] j .dead) H (retK PP Tryd.f84.results.toList R) = W_utf8_ValidRune a0 H R := by kernel_rfl
theorem utf8_ValidRune_of {a0 : AV} {H : Heap} {R : AV → Heap → Prop} (h : W_utf8_ValidRune a0 H R) : ACalls PP gΓ utf8_ValidRune [a0] H R :=
  ACalls.of_awp (E := E_utf8_ValidRune) follows_PP Tryd.func84 (c := C_utf8_ValidRune) (by kernel_rfl) Tryd.ntmps84 ((K_utf8_ValidRune a0 H R) ▸ h)

noncomputable def L_bytealg_Cutover : Nat → Option (List Nat) := fun k => none
noncomputable abbrev E_bytealg_Cutover : Env := ⟨PP, gΓ, 6, L_bytealg_Cutover, fun _ => false⟩
noncomputable def C_bytealg_Cutover : Code := Tryd.f85.body.getD .skip
def W_bytealg_Cutover (a0 : AV) (H : Heap) (R : AV → Heap → Prop) : Prop :=
 pureK (bop .plain .add a0 (I 16)) fun x1 =>
 pureK (bop .plain .quo x1 (I 8)) fun x2 =>
 ret1 H R x2
theorem K_bytealg_Cutover (a0 : AV) (H : Heap) (R : AV → Heap → Prop) : awp E_bytealg_Cutover (drawK E_bytealg_Cutover) C_bytealg_Cutover (fun j => List.getD [a0] j .dead) H (retK PP Tryd.f85.results.toList R) = W_bytealg_Cutover a0 H R := by kernel_rfl
theorem bytealg_Cutover_of {a0 : AV} {H : Heap} {R : AV → Heap → Prop} (h : W_bytealg_Cutover a0 H R) : ACalls PP gΓ bytealg_Cutover [a0] H R :=
  ACalls.of_awp (E := E_bytealg_Cutover) follows_PP Tryd.func85 (c := C_bytealg_Cutover) (by kernel_rfl) Tryd.ntmps85 ((K_bytealg_Cutover a0 H R) ▸ h)

end
end Go.Av
