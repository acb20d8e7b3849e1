/- Own text CB of this claim: see the text that holds the theorem. -/
import Derived.Test.YtninikfblhoieaaGreatDoorCA
set_option linter.all false
set_option maxRecDepth 100000
namespace Go.Av
open Go Go.Proofs

def setL (f : Nat → Bool) : List AV := (List.range 256).map fun i => B (f i)
theorem setL_length (f : Nat → Bool) : (setL f).length = 256 := by simp [setL]
theorem setL_get (f : Nat → Bool) {i : Nat} (h : i < 256) : (setL f)[i]? = some (B (f i)) := by simp [setL, h]
abbrev U (b : UInt8) : AV := .sc (.int .u8 b.toNat)

theorem contains_ok (f : Nat → Bool) (b : UInt8) {H : Heap} {o : Nat} (hH : H o = some (.cells (setL f))) : ACalls PP gΓ strings_asciiSet_contains [.ptr o 0, U b] H (fun r H' => r = B (f b.toNat) ∧ H' = H) := by
 refine strings_asciiSet_contains_of ?_
 unfold W_strings_asciiSet_contains
 have hb : b.toNat < 256 := b.toNat_lt
 have e : iaa 256 1 (.ptr o 0) (U b) = some (.ptr o b.toNat) := by
  simp only [iaa]; rw [if_pos ⟨by omega, by omega⟩]; simp
 simp only [nilE_ptr, pureK_some]
 rw [e]
 simp only [pureK_some]
 rw [ld_ptr hH, cutE_one, setL_get f hb]
 simp

theorem ixs_S {s : ByteArray} {i : Nat} (h : i < s.size) : ixs (S s) (I i) = some (U s[i]) := by
 simp [ixs, h]
theorem sls_hi {s : ByteArray} {m : Nat} (h : m ≤ s.size) : sls (S s) none (some (I m)) none = some (S (s.extract 0 m)) := by
 simp [sls, bound, h]
theorem sls_lo {s : ByteArray} {m : Nat} (h : m ≤ s.size) : sls (S s) (some (I m)) none none = some (S (s.extract m s.size)) := by
 simp [sls, bound, h]

def small' (s : ByteArray) : Prop := s.size ≤ 1000000

theorem trimRight_ok (f : Nat → Bool) (s : ByteArray) (hs : small' s) {H : Heap} {o : Nat} (hH : H o = some (.cells (setL f))) :
 ACalls PP gΓ strings_trimRightASCII [S s, .ptr o 0] H (fun r H' => (∃ m, m ≤ s.size ∧ r = S (s.extract 0 m) ∧ (∀ i (h : i < s.size), m ≤ i → f s[i].toNat = true) ∧ (∀ h : m - 1 < s.size, m = 0 ∨ f s[m - 1].toNat = false)) ∧ H' = H) := by
 unfold small' at hs
 refine strings_trimRightASCII_of ?_
 unfold W_strings_trimRightASCII
 refine ⟨fun vs H' n => ∃ m, m ≤ s.size ∧ vs = [S (s.extract 0 m), .ptr o 0] ∧ H' = H ∧ n = m ∧ (∀ i (h : i < s.size), m ≤ i → f s[i].toNat = true), ⟨_, H, Heap.le_refl _, s.size, Nat.le_refl _, by rw [ByteArray.extract_zero_size], rfl, rfl, fun i h h2 => by omega⟩, ?_⟩
 rintro vs H' n ⟨m, hm, rfl, rfl, rfl, hin⟩
 have hsz : (s.extract 0 n).size = n := by rw [ByteArray.size_extract]; omega
 simp only [nth_zero, nth_succ, lns_S, hsz, bop_gtr, pureK_some, condK_B, decide_eq_true_eq, decide_eq_false_iff_not]
 refine ⟨fun h => ?_, fun h => ?_⟩
 · rw [bop_sub (by omega) (by omega)]
   have e1 : ((n : Int) - 1) = ((n - 1 : Nat) : Int) := by omega
   have hlt : n - 1 < (s.extract 0 n).size := by omega
   simp only [pureK_some]
   rw [e1, ixs_S hlt]
   have e2 : (s.extract 0 n)[n - 1] = s[n - 1]'(by omega) := by rw [ByteArray.getElem_extract]; simp
   rw [e2]
   simp only [pureK_some]
   refine (contains_ok f _ hH).then ?_
   simp only [unE_not, pureK_some, condK_B]
   refine ⟨fun h2 => ?_, fun h2 => ?_⟩
   · exact ret1_of H' (Heap.le_refl _) ⟨⟨n, hm, rfl, hin, fun _ => .inr (by simpa using h2)⟩, rfl⟩
   · rw [sls_hi (by omega)]
     simp only [pureK_some]
     refine ⟨n - 1, H', by omega, Heap.le_refl _, n - 1, by omega, ?_, rfl, rfl, fun i hi h3 => ?_⟩
     · rw [ByteArray.extract_extract]; congr 3; omega
     · by_cases e : i = n - 1
       · subst e; simpa using h2
       · exact hin i hi (by omega)
 · have : n = 0 := by omega
   subst this
   exact ret1_of H' (Heap.le_refl _) ⟨⟨0, hm, rfl, hin, fun _ => .inl rfl⟩, rfl⟩

theorem trimLeft_ok (f : Nat → Bool) (s : ByteArray) (hs : small' s) {H : Heap} {o : Nat} (hH : H o = some (.cells (setL f))) :
 ACalls PP gΓ strings_trimLeftASCII [S s, .ptr o 0] H (fun r H' => (∃ m, m ≤ s.size ∧ r = S (s.extract m s.size) ∧ (∀ i (h : i < s.size), i < m → f s[i].toNat = true) ∧ (∀ h : m < s.size, f s[m].toNat = false)) ∧ H' = H) := by
 unfold small' at hs
 refine strings_trimLeftASCII_of ?_
 unfold W_strings_trimLeftASCII
 refine ⟨fun vs H' n => ∃ m, m ≤ s.size ∧ vs = [S (s.extract m s.size), .ptr o 0] ∧ H' = H ∧ n = s.size - m ∧ (∀ i (h : i < s.size), i < m → f s[i].toNat = true), ⟨_, H, Heap.le_refl _, 0, Nat.zero_le _, by rw [ByteArray.extract_zero_size], rfl, rfl, fun i h h2 => by omega⟩, ?_⟩
 rintro vs H' n ⟨m, hm, rfl, rfl, rfl, hin⟩
 have hsz : (s.extract m s.size).size = s.size - m := by rw [ByteArray.size_extract]; omega
 simp only [nth_zero, nth_succ, lns_S, hsz, bop_gtr, pureK_some, condK_B, decide_eq_true_eq, decide_eq_false_iff_not]
 refine ⟨fun h => ?_, fun h => ?_⟩
 · have hlt : 0 < (s.extract m s.size).size := by omega
   have e0 : (I 0) = I ((0 : Nat) : Int) := rfl
   have e1 : (I 1) = I ((1 : Nat) : Int) := rfl
   rw [e0, ixs_S hlt]
   have e2 : (s.extract m s.size)[0] = s[m]'(by omega) := by rw [ByteArray.getElem_extract]; simp
   rw [e2]
   simp only [pureK_some]
   refine (contains_ok f _ hH).then ?_
   simp only [unE_not, pureK_some, condK_B]
   refine ⟨fun h2 => ?_, fun h2 => ?_⟩
   · exact ret1_of H' (Heap.le_refl _) ⟨⟨m, hm, rfl, hin, fun _ => by simpa using h2⟩, rfl⟩
   · rw [e1, sls_lo (by omega)]
     simp only [pureK_some]
     refine ⟨s.size - (m + 1), H', by omega, Heap.le_refl _, m + 1, by omega, ?_, rfl, rfl, fun i hi h3 => ?_⟩
     · rw [ByteArray.extract_extract, hsz]; congr 3; omega
     · by_cases e : i = m
       · subst e; simpa using h2
       · exact hin i hi (by omega)
 · have : m = s.size := by omega
   exact ret1_of H' (Heap.le_refl _) ⟨⟨m, hm, rfl, hin, fun h => by omega⟩, rfl⟩
end Go.Av
namespace Go.Av
open Go Go.Proofs

theorem ext_getD {l m : List AV} (h : l.length = m.length) (h2 : ∀ i, i < l.length → l.getD i .dead = m.getD i .dead) : l = m := by
 apply List.ext_getElem h
 intro i h3 h4
 have := h2 i h3
 simpa [List.getD_eq_getElem?_getD, h3, h4] using this

theorem splice_set (f : Nat → Bool) {b : Nat} (h : b < 256) : splice (setL f) b [B true] = setL (fun i => f i || i == b) := by
 have hl : b + [B true].length ≤ (setL f).length := by rw [setL_length]; simp; omega
 apply ext_getD
 · rw [splice_length _ _ _ hl, setL_length, setL_length]
 · intro i hi
   rw [splice_length _ _ _ hl, setL_length] at hi
   rw [splice_getD _ _ _ _ hl]
   simp only [List.length_cons, List.length_nil, List.getD_eq_getElem?_getD, setL_get _ hi, Option.getD_some]
   by_cases e : i = b
   · subst e; simp
   · rw [if_neg (by omega)]; simp [e]

def inS (s : ByteArray) (k i : Nat) : Bool := (s.data.toList.take k).any fun b => b.toNat == i

theorem inS_succ {s : ByteArray} {k : Nat} (h : k < s.size) (i : Nat) : inS s (k + 1) i = (inS s k i || i == s[k].toNat) := by
 unfold inS
 have h' : k < s.data.toList.length := by simpa using h
 rw [List.take_succ_eq_append_getElem h', List.any_append]
 congr 1
 simp only [List.any_cons, List.any_nil, Bool.or_false]
 have : s.data.toList[k] = s[k] := by simp; rfl
 rw [this]
 rw [Bool.eq_iff_iff]; simp; omega

theorem single_setL (f : Nat → Bool) : (setL f).all AV.single = true := by simp [setL, List.all_map]

theorem st_upd_of {n : Nat} {H : Heap} {o off : Nat} {cs : List AV} {v : AV} {r : List AV} (h1 : v.cells.length = n) (h2 : off + v.cells.length ≤ cs.length) (h3 : v.cells.all AV.single = true) (hr : splice cs off v.cells = r) :
 st n (H.upd o (.cells cs)) (.ptr o off) v = some (H.upd o (.cells r)) := by
 rw [st_upd, if_pos, hr]
 simp only [h1, h3, Bool.and_true, Bool.and_eq_true, decide_eq_true_eq]
 exact ⟨trivial, by omega⟩

theorem st_set {H : Heap} {o : Nat} (f : Nat → Bool) {b : Nat} (h : b < 256) : st 1 (H.upd o (.cells (setL f))) (.ptr o b) (B true) = some (H.upd o (.cells (setL (fun i => f i || i == b)))) :=
 st_upd_of rfl (by rw [setL_length]; show b + 1 ≤ 256; omega) rfl (splice_set f h)

theorem ld_set {H : Heap} {o : Nat} (f : Nat → Bool) : ld (some true) 256 (H.upd o (.cells (setL f))) (.ptr o 0) = some (.agg (setL f)) := by
 rw [ld_upd, cutE_agg, if_pos (by rw [setL_length]; omega), List.drop_zero, List.take_of_length_le (by rw [setL_length]; omega)]

theorem st_all {H : Heap} {o : Nat} {cs : List AV} (f : Nat → Bool) (hc : cs.length = 256) : st 256 (H.upd o (.cells cs)) (.ptr o 0) (.agg (setL f)) = some (H.upd o (.cells (setL f))) := by
 have e : splice cs 0 (setL f) = setL f := by
  simp only [splice, List.take_zero, List.nil_append, Nat.zero_add]
  rw [List.drop_eq_nil_of_le (by rw [setL_length]; omega), List.append_nil]
 exact st_upd_of (setL_length f) (by show 0 + (setL f).length ≤ cs.length; rw [setL_length, hc]; omega) (single_setL f) e

theorem zero_setL : List.replicate 256 (B false) = setL (fun _ => false) := by
 unfold setL
 rw [List.map_const']; simp

theorem makeSet_ok (s : ByteArray) (hs : small' s) (h8 : ∀ i (h : i < s.size), s[i].toNat < 128) : Pur strings_makeASCIISet [S s] (.tup [.agg (setL (inS s s.size)), B true]) := by
 unfold small' at hs
 intro H
 refine strings_makeASCIISet_of ?_
 unfold W_strings_makeASCIISet
 intro o ho
 refine ⟨fun vs H' n => ∃ k, k ≤ s.size ∧ vs = [S s, .ptr o 0, I k] ∧ H' = H.upd o (.cells (setL (inS s k))) ∧ n = s.size - k, ⟨_, _, Heap.le_refl _, 0, Nat.zero_le _, rfl, ?_, rfl⟩, ?_⟩
 · rw [zero_setL]; rfl
 rintro vs H' n ⟨k, hk, rfl, rfl, rfl⟩
 simp only [nth_zero, nth_succ, lns_S, bop_lss, pureK_some, condK_B, decide_eq_true_eq, decide_eq_false_iff_not]
 refine ⟨fun h => ?_, fun h => ?_⟩
 · have hk' : k < s.size := by omega
   have hb := h8 k hk'
   rw [ixs_S hk']
   simp only [pureK_some, bop_geq, condK_B, decide_eq_true_eq, decide_eq_false_iff_not]
   refine ⟨fun h2 => by omega, fun _ => ?_⟩
   have e : iaa 256 1 (.ptr o 0) (U s[k]) = some (.ptr o s[k].toNat) := by
    simp only [iaa]; rw [if_pos ⟨by omega, by omega⟩]; simp
   rw [e]
   simp only [pureK_some]
   rw [st_set _ (by omega), bop_add (by omega) (by omega)]
   simp only [pureK_some, heapK_some]
   refine ⟨s.size - (k + 1), _, by omega, Heap.le_refl _, k + 1, by omega, rfl, ?_, rfl⟩
   have e : (fun i => inS s k i || i == s[k].toNat) = inS s (k + 1) := by
    funext i
    rw [inS_succ hk']
   rw [e]
 · have hk' : k = s.size := by omega
   subst hk'
   rw [ld_set]
   simp only [pureK_some]
   rw [st_all _ (setL_length _)]
   simp only [heapK_some]
   rw [ld_set]
   simp [ho]

def lettersF (i : Nat) : Bool := decide (97 ≤ i ∧ i ≤ 122)
theorem letters_set : setL (inS s_abcdefghijklmnopqrstuvwxyz s_abcdefghijklmnopqrstuvwxyz.size) = setL lettersF := by
 unfold setL
 apply List.map_congr_left
 intro i hi
 rw [List.mem_range] at hi
 have : ∀ i : Fin 256, inS s_abcdefghijklmnopqrstuvwxyz s_abcdefghijklmnopqrstuvwxyz.size i.val = lettersF i.val := by decide +kernel
 rw [this ⟨i, hi⟩]

def allLetters (s : ByteArray) : Bool := s.data.toList.all fun b => lettersF b.toNat
theorem allLetters_iff (s : ByteArray) : allLetters s = true ↔ ∀ i (h : i < s.size), lettersF s[i].toNat = true := by
 unfold allLetters
 rw [List.all_eq_true]
 constructor
 · intro h i hi
   exact h s[i] (by
    have h1 : i < s.data.toList.length := by simpa using hi
    have h2 : s[i] = s.data.toList[i] := by simp; rfl
    rw [h2]; exact List.getElem_mem h1)
 · intro h b hb
   obtain ⟨i, hi, rfl⟩ := List.getElem_of_mem hb
   have h1 : i < s.size := by simpa using hi
   have h2 : s[i] = s.data.toList[i] := by simp; rfl
   rw [← h2]; exact h i h1
end Go.Av
namespace Go.Av
open Go Go.Proofs

theorem emp_eq : emp = ByteArray.empty := rfl

theorem letters_small : ∀ i : Fin s_abcdefghijklmnopqrstuvwxyz.size, (s_abcdefghijklmnopqrstuvwxyz[i.val]).toNat < 128 := by decide +kernel

theorem Trim_letters_ok (s : ByteArray) (hs : small' s) : PurR strings_Trim [S s, S s_abcdefghijklmnopqrstuvwxyz] (fun r => ∃ u, r = S u ∧ (u = emp ↔ allLetters s = true)) := by
 intro H
 refine strings_Trim_of ?_
 unfold W_strings_Trim
 have hsz : s_abcdefghijklmnopqrstuvwxyz.size = 26 := rfl
 have hne : ¬ s_abcdefghijklmnopqrstuvwxyz = emp := by decide
 simp only [bop_seql, lns_S, hsz, pureK_some, condK_B, decide_eq_true_eq, decide_eq_false_iff_not, bop_eql]
 refine ⟨fun h => ret1_of H (Heap.le_refl _) ⟨⟨s, rfl, ?_⟩, rfl⟩, fun h => ⟨fun h2 => absurd h2 hne, fun _ => ⟨fun h3 => by simp at h3, fun _ => ?_⟩⟩⟩
 · subst h; exact ⟨fun _ => rfl, fun _ => rfl⟩
 · have h8 : ∀ i (h : i < s_abcdefghijklmnopqrstuvwxyz.size), s_abcdefghijklmnopqrstuvwxyz[i].toNat < 128 := by
    intro i hi
    exact letters_small ⟨i, hi⟩
   refine (makeSet_ok _ (by unfold small'; rw [hsz]; omega) h8).run ?_
   rw [letters_set]
   simp only [extractE_tup, get0, get1, pureK_some]
   intro o ho
   rw [st_all _ List.length_replicate]
   simp only [heapK_some, condK_B]
   refine ⟨fun _ => ?_, fun h => by cases h⟩
   have hle : H ≤ H.upd o (.cells (setL lettersF)) := by simp [ho]
   refine (trimRight_ok lettersF s hs (Heap.upd_same _ _ _)).mono ?_
   rintro r H1 ⟨⟨m, hm, rfl, hin, hlast⟩, rfl⟩
   have hsz2 : (s.extract 0 m).size = m := by rw [ByteArray.size_extract]; omega
   refine (trimLeft_ok lettersF _ (by unfold small' at hs ⊢; omega) (Heap.upd_same _ _ _)).mono ?_
   rintro r H1 ⟨⟨k, hk, rfl, hin2, hfirst⟩, rfl⟩
   refine ret1_of H hle ⟨⟨_, rfl, ?_⟩, rfl⟩
   rw [emp_eq, ByteArray.extract_eq_empty_iff, allLetters_iff]
   constructor
   · intro hke i hi
     by_cases h1 : m ≤ i
     · exact hin i hi h1
     · have h2 : i < (s.extract 0 m).size := by omega
       have := hin2 i h2 (by omega)
       rw [ByteArray.getElem_extract] at this
       simpa using this
   · intro hall
     rcases Nat.eq_zero_or_pos m with h0 | h0
     · omega
     · have h1 := hlast (by omega)
       rcases h1 with h1 | h1
       · omega
       · rw [hall (m - 1) (by omega)] at h1; cases h1

theorem slices_Index_string_ok (l : List ByteArray) (s : ByteArray) (p : Perm) (hl : small l.length) : PurR slices_Index_string [txtA l p, S s] (fun r => ∃ k : Int, r = I k ∧ (0 ≤ k ↔ s ∈ l)) := by
 intro H
 refine slices_Index_string_of ?_
 unfold W_slices_Index_string
 simp only [lnl_lst, pureK_some, List.length_map]
 refine ⟨fun vs H' n => ∃ k : Nat, vs = [txtA l p, S s, I l.length, I k] ∧ H' = H ∧ n = l.length - k ∧ k ≤ l.length ∧ s ∉ l.take k, ⟨_, H, Heap.le_refl _, 0, rfl, rfl, rfl, Nat.zero_le _, by simp⟩, ?_⟩
 rintro vs H' n ⟨k, rfl, rfl, rfl, hk, hn⟩
 simp only [nth_zero, nth_succ, bop_lss, pureK_some, condK_B, decide_eq_true_eq, decide_eq_false_iff_not]
 refine ⟨fun h => ?_, fun h => ?_⟩
 · have hk' : k < l.length := by omega
   rw [ias_txt (by omega) (by omega)]
   simp only [pureK_some, ld_cp, cutE_one, get0, bop_seql, condK_B, decide_eq_true_eq, decide_eq_false_iff_not, Int.toNat_natCast]
   refine ⟨fun h1 => ret1_of H' (Heap.le_refl _) ⟨⟨k, rfl, ?_⟩, rfl⟩, fun h1 => ?_⟩
   · exact ⟨fun _ => by rw [h1]; exact List.getElem_mem hk', fun _ => by omega⟩
   · rw [bop_add (by omega) (by omega)]
     simp only [pureK_some]
     refine ⟨l.length - (k + 1), _, by omega, Heap.le_refl _, k + 1, rfl, rfl, rfl, by omega, ?_⟩
     rw [List.take_succ_eq_append_getElem hk']
     intro hm
     rcases List.mem_append.1 hm with hm | hm
     · exact hn hm
     · exact h1 (List.mem_singleton.1 hm)
 · have hk' : k = l.length := by omega
   subst hk'
   rw [List.take_length] at hn
   exact ret1_of H' (Heap.le_refl _) ⟨⟨-1, rfl, by constructor; (intro h; omega); (intro h; exact absurd h hn)⟩, rfl⟩

def memB (s : ByteArray) (l : List ByteArray) : Bool := l.any fun t => decide (t = s)
theorem memB_iff {s : ByteArray} {l : List ByteArray} : memB s l = true ↔ s ∈ l := by
 unfold memB; rw [List.any_eq_true]
 constructor
 · rintro ⟨t, h1, h2⟩; have := of_decide_eq_true h2; subst this; exact h1
 · intro h; exact ⟨s, h, by simp⟩

theorem slices_Contains_string_ok (l : List ByteArray) (s : ByteArray) (p : Perm) (hl : small l.length) : Pur slices_Contains_string [txtA l p, S s] (B (memB s l)) := by
 intro H
 refine slices_Contains_string_of ?_
 unfold W_slices_Contains_string
 refine (slices_Index_string_ok l s p hl).run ?_
 rintro v ⟨k, rfl, hk⟩
 simp only [bop_geq, pureK_some, ret1_pure]
 exact ⟨B_eq (by rw [Bool.eq_iff_iff, memB_iff, decide_eq_true_eq]; exact hk), Heap.le_refl _⟩

def named (s : ByteArray) : Bool := decide (s ≠ emp) && decide (s.size ≤ 8) && allLetters s && !memB s words

theorem row_named_ok (s : ByteArray) (hs : s.size ≤ 4611686018427387904) : Pur row_named [S s] (B (named s)) := by
 intro H
 refine row_named_of ?_
 unfold W_row_named
 simp only [bop_sneq, lns_S, pureK_some, condK_B, bop_leq, decide_eq_true_eq, decide_eq_false_iff_not]
 refine ⟨fun h => ⟨fun h2 => ?_, fun h2 => ?_⟩, fun h => ?_⟩
 · have h1 : s ≠ emp := by simpa using h
   have h3 : s.size ≤ 8 := by omega
   refine (Trim_letters_ok s (by unfold small'; omega)).run ?_
   rintro v ⟨u, rfl, hu⟩
   simp only [bop_seql, pureK_some, condK_B, decide_eq_true_eq, decide_eq_false_iff_not]
   refine ⟨fun h4 => ?_, fun h4 => ?_⟩
   · have e : sla 6 1 g0 none none none = some (txtA words .no) := rfl
     rw [e]
     simp only [pureK_some]
     refine (slices_Contains_string_ok words s .no (by decide)).run ?_
     simp only [unE_not, pureK_some, ret1_pure]
     refine ⟨B_eq ?_, Heap.le_refl _⟩
     simp [named, h1, h3, hu.1 h4]
   · simp only [ret1_pure]
     refine ⟨B_eq ?_, Heap.le_refl _⟩
     have : allLetters s = false := by
      cases h5 : allLetters s with
      | false => rfl
      | true => exact absurd (hu.2 h5) h4
     simp [named, this]
 · simp only [ret1_pure]
   refine ⟨B_eq ?_, Heap.le_refl _⟩
   have h3 : ¬ s.size ≤ 8 := by omega
   simp [named, h3]
 · simp only [ret1_pure]
   refine ⟨B_eq ?_, Heap.le_refl _⟩
   have h1 : s = emp := by simpa using h
   simp [named, h1]
end Go.Av
namespace Go.Av
open Go Go.Proofs

def right (n : Node) : Bool :=
 if n.kind = 1 then decide (n.sign = 0) && named n.name
 else if n.kind = 11 ∨ n.kind = 14 then decide (n.name = emp) && (decide (1 ≤ n.sign) && decide (n.sign ≤ 3))
 else (decide (n.name = emp) && decide (n.sign = 0)) && decide (0 ≤ arity n.kind)

theorem row_Right_ok (n : Node) (hn : n.name.size ≤ 4611686018427387904) : Pur row_Right [nd n] (B (right n)) := by
 intro H
 refine row_Right_of ?_
 unfold W_row_Right
 refine allocK_nd fun o1 ho1 => ?_
 simp only [fa_ptr, ld_upd, cutE_one, Nat.zero_add, get0, pureK_some]
 rw [bld_0]
 simp only [pureK_some]
 intro o2 ho2
 simp at ho2
 obtain ⟨hne, ho2'⟩ := ho2
 have hne' : o1 ≠ o2 := fun e => hne e.symm
 have hst : ∀ (m : Node) (cs : List AV), cs.length = 3 → st 3 ((H.upd o1 (.cells [I n.kind, S n.name, I n.sign])).upd o2 (.cells cs)) (.ptr o2 0) (nd m) = some ((H.upd o1 (.cells [I n.kind, S n.name, I n.sign])).upd o2 (.cells [I m.kind, S m.name, I m.sign])) := by
  intro m cs hc
  match cs, hc with
  | [a, b, c], _ => simp [nd, splice]
 rw [hst _ _ rfl]
 simp only [heapK_some, fa_ptr, ld_upd_ne hne', ld_upd, cutE_one, Nat.zero_add, get0, pureK_some, bop_eql, condK_B, decide_eq_true_eq, decide_eq_false_iff_not]
 refine ⟨fun h1 => ?_, fun h1 => ⟨fun h2 => ?_, fun h2 => ⟨fun h3 => ?_, fun h3 => ?_⟩⟩⟩
 · simp [splice, ld_upd_ne hne', h1]
   refine ⟨fun h4 => ?_, fun h4 => ?_⟩
   · refine (row_named_ok n.name hn).run ?_
     simp [right, h1, h4, ho1, ho2']
   · simp [right, h1, h4, ho1, ho2']
 · simp [splice, ld_upd_ne hne', h2, ho1, ho2']
   by_cases h4 : n.name = emp <;> by_cases h5 : 1 ≤ n.sign <;> simp [right, h1, h2, h4, h5] <;> try (intro h6; omega)
 · simp [splice, ld_upd_ne hne', h3, ho1, ho2']
   by_cases h4 : n.name = emp <;> by_cases h5 : 1 ≤ n.sign <;> simp [right, h1, h3, h4, h5] <;> try (intro h6; omega)
 · simp [splice, ld_upd_ne hne', ho1, ho2']
   refine ⟨fun h4 h5 => ?_, fun h4 => ?_⟩
   · refine (row_Arity_ok _).run ?_
     simp [right, h1, h2, h3, h4, h5, ho1, ho2']
   · by_cases h5 : n.name = emp
     · simp [right, h1, h2, h3, h5, h4 h5]
     · simp [right, h1, h2, h3, h5]

theorem row_Whole_1_ok (n : Node) (hn : n.name.size ≤ 4611686018427387904) : Pur row_Whole_1 [nd n] (B (!right n)) := by
 intro H
 refine row_Whole_1_of ?_
 unfold W_row_Whole_1
 refine allocK_nd fun o1 ho1 => ?_
 rw [ld_nd]
 simp only [pureK_some]
 refine (row_Right_ok n hn).run ?_
 simp [ho1]

theorem callK_pur {E : Env} (hP : E.P = PP) (hG : E.Γ = gΓ) {f : FuncId} {args cap : List AV} {v : AV} {H : Heap} {K : AV → Heap → Prop} (he : enters PP f = true) (h : Pur f (args ++ cap) v) (k : K v H) : callK E (.fn (.func f) [] cap) args H K := by
 unfold callK
 simp only [List.nil_append]
 rw [hP, hG, he]
 exact h.run k
set_option maxRecDepth 100000 in
theorem slices_IndexFunc_Node_ok (l : List Node) (p : Perm) (f : FuncId) (cap : List AV) (g : Node → Bool) (hl : small l.length) (he : enters PP f = true) (hf : ∀ x, x ∈ l → Pur f (nd x :: cap) (B (g x))) :
 PurR slices_IndexFunc_Node [rowA l p, .fn (.func f) [] cap] (fun r => ∃ k : Int, r = I k ∧ (0 ≤ k ↔ l.any g = true)) := by
 intro H
 refine slices_IndexFunc_Node_of ?_
 unfold W_slices_IndexFunc_Node
 simp only [lnl_lst, pureK_some, List.length_map]
 refine ⟨fun vs H' n => ∃ k : Nat, vs = [rowA l p, .fn (.func f) [] cap, I l.length, I k] ∧ H' = H ∧ n = l.length - k ∧ k ≤ l.length ∧ (l.take k).any g = false, ⟨_, H, Heap.le_refl _, 0, rfl, rfl, rfl, Nat.zero_le _, rfl⟩, ?_⟩
 rintro vs H' n ⟨k, rfl, rfl, rfl, hk, hn⟩
 simp only [nth_zero, nth_succ, bop_lss, pureK_some, condK_B, decide_eq_true_eq, decide_eq_false_iff_not]
 refine ⟨fun h => ?_, fun h => ?_⟩
 · have hk' : k < l.length := by omega
   rw [ias_row (by omega) (by omega)]
   simp only [pureK_some, ld_cp, cut_nd, get0, Int.toNat_natCast]
   refine callK_pur (E := E_slices_IndexFunc_Node) rfl rfl he (hf _ (List.getElem_mem hk')) ?_
   simp only [condK_B]
   refine ⟨fun h1 => ret1_of H' (Heap.le_refl _) ⟨⟨k, rfl, fun _ => List.any_eq_true.2 ⟨_, List.getElem_mem hk', h1⟩, fun _ => by omega⟩, rfl⟩, fun h1 => ?_⟩
   rw [bop_add (by omega) (by omega)]
   simp only [pureK_some]
   refine ⟨l.length - (k + 1), _, by omega, Heap.le_refl _, k + 1, rfl, rfl, rfl, by omega, ?_⟩
   rw [List.take_succ_eq_append_getElem hk', List.any_append, hn]
   simp only [List.any_cons, List.any_nil, h1, Bool.or_self]
 · have hk' : k = l.length := by omega
   subst hk'
   rw [List.take_length] at hn
   exact ret1_of H' (Heap.le_refl _) ⟨⟨-1, rfl, by rw [hn]; constructor <;> (intro h; first | omega | cases h)⟩, rfl⟩

theorem slices_ContainsFunc_Node_ok (l : List Node) (p : Perm) (f : FuncId) (cap : List AV) (g : Node → Bool) (hl : small l.length) (he : enters PP f = true) (hf : ∀ x, x ∈ l → Pur f (nd x :: cap) (B (g x))) :
 Pur slices_ContainsFunc_Node [rowA l p, .fn (.func f) [] cap] (B (l.any g)) := by
 intro H
 refine slices_ContainsFunc_Node_of ?_
 unfold W_slices_ContainsFunc_Node
 refine (slices_IndexFunc_Node_ok l p f cap g hl he hf).run ?_
 rintro v ⟨k, rfl, hk⟩
 simp only [bop_geq, pureK_some, ret1_pure]
 exact ⟨B_eq (by rw [Bool.eq_iff_iff, decide_eq_true_eq]; exact hk), Heap.le_refl _⟩

set_option maxRecDepth 100000 in
theorem slices_IndexFunc_string_ok (l : List ByteArray) (p : Perm) (f : FuncId) (cap : List AV) (g : ByteArray → Bool) (hl : small l.length) (he : enters PP f = true) (hf : ∀ x, x ∈ l → Pur f ((S x) :: cap) (B (g x))) :
 PurR slices_IndexFunc_string [txtA l p, .fn (.func f) [] cap] (fun r => ∃ k : Int, r = I k ∧ (0 ≤ k ↔ l.any g = true)) := by
 intro H
 refine slices_IndexFunc_string_of ?_
 unfold W_slices_IndexFunc_string
 simp only [lnl_lst, pureK_some, List.length_map]
 refine ⟨fun vs H' n => ∃ k : Nat, vs = [txtA l p, .fn (.func f) [] cap, I l.length, I k] ∧ H' = H ∧ n = l.length - k ∧ k ≤ l.length ∧ (l.take k).any g = false, ⟨_, H, Heap.le_refl _, 0, rfl, rfl, rfl, Nat.zero_le _, rfl⟩, ?_⟩
 rintro vs H' n ⟨k, rfl, rfl, rfl, hk, hn⟩
 simp only [nth_zero, nth_succ, bop_lss, pureK_some, condK_B, decide_eq_true_eq, decide_eq_false_iff_not]
 refine ⟨fun h => ?_, fun h => ?_⟩
 · have hk' : k < l.length := by omega
   rw [ias_txt (by omega) (by omega)]
   simp only [pureK_some, ld_cp, cutE_one, get0, Int.toNat_natCast]
   refine callK_pur (E := E_slices_IndexFunc_string) rfl rfl he (hf _ (List.getElem_mem hk')) ?_
   simp only [condK_B]
   refine ⟨fun h1 => ret1_of H' (Heap.le_refl _) ⟨⟨k, rfl, fun _ => List.any_eq_true.2 ⟨_, List.getElem_mem hk', h1⟩, fun _ => by omega⟩, rfl⟩, fun h1 => ?_⟩
   rw [bop_add (by omega) (by omega)]
   simp only [pureK_some]
   refine ⟨l.length - (k + 1), _, by omega, Heap.le_refl _, k + 1, rfl, rfl, rfl, by omega, ?_⟩
   rw [List.take_succ_eq_append_getElem hk', List.any_append, hn]
   simp only [List.any_cons, List.any_nil, h1, Bool.or_self]
 · have hk' : k = l.length := by omega
   subst hk'
   rw [List.take_length] at hn
   exact ret1_of H' (Heap.le_refl _) ⟨⟨-1, rfl, by rw [hn]; constructor <;> (intro h; first | omega | cases h)⟩, rfl⟩

theorem slices_ContainsFunc_string_ok (l : List ByteArray) (p : Perm) (f : FuncId) (cap : List AV) (g : ByteArray → Bool) (hl : small l.length) (he : enters PP f = true) (hf : ∀ x, x ∈ l → Pur f ((S x) :: cap) (B (g x))) :
 Pur slices_ContainsFunc_string [txtA l p, .fn (.func f) [] cap] (B (l.any g)) := by
 intro H
 refine slices_ContainsFunc_string_of ?_
 unfold W_slices_ContainsFunc_string
 refine (slices_IndexFunc_string_ok l p f cap g hl he hf).run ?_
 rintro v ⟨k, rfl, hk⟩
 simp only [bop_geq, pureK_some, ret1_pure]
 exact ⟨B_eq (by rw [Bool.eq_iff_iff, decide_eq_true_eq]; exact hk), Heap.le_refl _⟩

def whole (l : List Node) : Bool := decide (0 < l.length ∧ l.length ≤ 200) && (l.all right && decide (size l = l.length))

def names (l : List Node) : Prop := ∀ n, n ∈ l → n.name.size ≤ 4611686018427387904

theorem enters_W1 : enters PP row_Whole_1 = true := by kernel_rfl

theorem row_Whole_ok (l : List Node) (p : Perm) (hl : small l.length) (hn : names l) : Pur row_Whole [rowA l p] (B (whole l)) := by
 intro H
 refine row_Whole_of ?_
 unfold W_row_Whole
 simp only [lnl_lst, List.length_map, pureK_some, bop_gtr, bop_leq, condK_B, decide_eq_true_eq, decide_eq_false_iff_not, ret1_pure]
 refine ⟨fun h1 => ⟨fun h2 => ?_, fun h2 => ⟨B_eq ?_, Heap.le_refl _⟩⟩, fun h1 => ⟨B_eq ?_, Heap.le_refl _⟩⟩
 · refine (slices_ContainsFunc_Node_ok l p row_Whole_1 [] (fun n => !right n) hl enters_W1 (fun x hx => row_Whole_1_ok x (hn x hx))).run ?_
   have e : (!(l.any fun n => !right n)) = l.all right := by rw [List.not_any_eq_all_not]; simp
   simp only [unE_not, pureK_some, e, condK_B]
   have h3 : 0 < l.length ∧ l.length ≤ 200 := by omega
   refine ⟨fun h4 => ?_, fun h4 => ?_⟩
   · refine (row_Size_ok l p hl).run ?_
     simp only [bop_eql, pureK_some, ret1_pure]
     exact ⟨B_eq (by simp [whole, h3, h4]), Heap.le_refl _⟩
   · exact ⟨B_eq (by simp [whole, h4]), Heap.le_refl _⟩
 · have : ¬ (0 < l.length ∧ l.length ≤ 200) := by omega
   simp only [whole, decide_eq_false this, Bool.false_and]
 · have : ¬ (0 < l.length ∧ l.length ≤ 200) := by omega
   simp only [whole, decide_eq_false this, Bool.false_and]

end Go.Av
namespace Go.Av
open Go Go.Proofs

def sort2 (k s0 s1 : Int) : Int :=
 if s0 = 0 ∨ s1 = 0 then 0
 else if k = 6 then (if s0 > 2 ∨ s1 > 2 then 0 else sBoth s0 s1)
 else if k = 7 then sBoth s0 s1
 else if k = 5 then max (sBehind s0 s1 1) (sBehind s0 s1 2)
 else if k = 8 then sBehind s0 s1 1
 else if k = 10 then (if s0 = 1 ∧ s1 = 1 then 2 else 0)
 else if k = 12 then (if sOn s0 = 3 ∧ s1 = 1 then 4 else 0)
 else (if sOn s0 = 4 ∧ s1 = 1 then 4 else 0)
def sort1 (k s : Int) : Int :=
 if s = 0 then 0 else if k = 9 then (if sOn s = 4 then s - 1 else 0) else (if s = 1 then 4 else 0)
def sort0 (k : Int) : Int := if k = 11 then 3 else 1
def sortT : Tr → Int
 | .l0 n => sort0 n.kind
 | .l1 n a => sort1 n.kind (sortT a)
 | .l2 n a b => sort2 n.kind (sortT a) (sortT b)

theorem sBehind_range {a b t : Int} (h : 0 ≤ a ∧ a ≤ 4) : 0 ≤ sBehind a b t ∧ sBehind a b t ≤ 4 := by unfold sBehind; split <;> omega
theorem sBoth_range {a b : Int} (h : 0 ≤ a ∧ a ≤ 4) (h2 : 0 ≤ b ∧ b ≤ 4) : 0 ≤ sBoth a b ∧ sBoth a b ≤ 4 := by unfold sBoth; split <;> omega
theorem sortT_range (t : Tr) : 0 ≤ sortT t ∧ sortT t ≤ 4 := by
 induction t with
 | l0 n => simp only [sortT, sort0]; split <;> omega
 | l1 n a ih =>
   simp only [sortT, sort1]
   split
   · omega
   · split
     · split <;> omega
     · split <;> omega
 | l2 n a b iha ihb =>
   simp only [sortT, sort2]
   have h1 := sBoth_range iha ihb
   have h2 := sBehind_range (b := sortT b) (t := 1) iha
   have h3 := sBehind_range (b := sortT b) (t := 2) iha
   repeat' split
   all_goals omega

theorem sortT_zero {t : Tr} {x : Tr} (hx : x ∈ t.kids) (h : sortT x = 0) : sortT t = 0 := by
 cases t with
 | l0 n => simp [Tr.kids] at hx
 | l1 n a => simp [Tr.kids] at hx; subst hx; simp [sortT, sort1, h]
 | l2 n a b => simp [Tr.kids] at hx; rcases hx with rfl | rfl <;> simp [sortT, sort2, h]

abbrev intA (l : List Int) (s : Nat) (q : Perm) : AV := .lst s (l.map fun n => I n) q
theorem int0 (a : Int) (l : List Int) (q : Perm) : ias 1 (intA (a :: l) 1 q) (I 0) = some (.cp [I a] 0) := rfl
theorem int1 (a b : Int) (l : List Int) (q : Perm) : ias 1 (intA (a :: b :: l) 1 q) (I 1) = some (.cp [I b] 0) := rfl

theorem sort_sort_ok (t : Tr) : t.ok → t.flat.length ≤ 1000000 → ∀ p, Pur sort_sort [rowA t.flat p] (I (sortT t)) := by
 have step : ∀ t : Tr, t.ok → t.flat.length ≤ 1000000 → (∀ x, x ∈ t.kids → ∀ p, Pur sort_sort [rowA x.flat p] (I (sortT x))) → ∀ p, Pur sort_sort [rowA t.flat p] (I (sortT t)) := by
  intro t ht hl ih p H
  refine sort_sort_of ?_
  unfold W_sort_sort
  refine (row_Kids_ok t p ht hl).run ?_
  simp only [lnl_lst, List.length_map, pureK_some]
  have hk2 := t.kids_le
  refine ⟨fun vs H' n => ∃ (k s : Nat) (q : Perm), k ≤ t.kids.length ∧ vs = [rowA t.flat p, intA ((t.kids.take k).map sortT) s q, rowsA (t.kids.map Tr.flat) .no, I t.kids.length, I k] ∧ n = t.kids.length - k ∧ Bld H H' q (((t.kids.take k).map sortT).map fun n => I n).length ∧ (s = 1 ∨ (((t.kids.take k).map sortT).map (fun n => I n) = [] ∧ q = .exact)) ∧ (∀ x, x ∈ t.kids.take k → sortT x ≠ 0),
   ⟨_, H, Heap.le_refl _, 0, 0, .exact, Nat.zero_le _, rfl, rfl, .inl ⟨rfl, rfl⟩, .inr ⟨rfl, rfl⟩, by simp⟩, ?_⟩
  rintro vs H' n ⟨k, s, q, hk, rfl, rfl, hb, hsq, hnz⟩
  simp only [nth_zero, nth_succ, bop_lss, pureK_some, condK_B, decide_eq_true_eq, decide_eq_false_iff_not]
  refine ⟨fun h => ?_, fun h => ?_⟩
  · have hk' : k < t.kids.length := by omega
    rw [ias_rows (by simpa using hk')]
    have e : (t.kids.map Tr.flat)[k]'(by simpa using hk') = (t.kids[k]).flat := by simp
    rw [e]
    simp only [pureK_some, ld_cp, cutE_one, get0]
    refine (ih _ (List.getElem_mem hk') .no).run ?_
    simp only [bop_eql, pureK_some, condK_B, decide_eq_true_eq, decide_eq_false_iff_not]
    refine ⟨fun h1 => ret1_of H hb.le ⟨by rw [sortT_zero (List.getElem_mem hk') h1], rfl⟩, fun h1 => ?_⟩
    have e3 : ∀ x : AV, bsl 1 (I 0) 1 [(0, I (sortT t.kids[k]))] = some (.lst 1 [I (sortT t.kids[k])] .exact) := fun _ => rfl
    rw [e3 .dead]
    simp only [pureK_some]
    have htk : t.kids.take (k + 1) = t.kids.take k ++ [t.kids[k]] := List.take_succ_eq_append_getElem hk'
    refine appK_bld (H0 := H) (s := 1) (ys := [I (sortT t.kids[k])]) hb hsq rfl (by simp [maxApp]; omega) ?_
    intro q' H2 hb'
    rw [bop_add (by omega) (by omega)]
    simp only [pureK_some]
    refine ⟨t.kids.length - (k + 1), _, by omega, Heap.le_refl _, k + 1, 1, q', by omega, ?_, rfl, ?_, .inl rfl, ?_⟩
    · rw [htk]; simp only [intA, List.map_append, List.map_cons, List.map_nil]; rfl
    · rw [htk]; simpa only [List.map_append, List.map_cons, List.map_nil] using hb'
    · rw [htk]
      intro x hx
      rcases List.mem_append.1 hx with hx | hx
      · exact hnz x hx
      · rw [List.mem_singleton.1 hx]; exact h1
  · have hk' : k = t.kids.length := by omega
    subst hk'
    rw [List.take_length] at hnz hsq hb ⊢
    rw [ias_root]
    simp only [pureK_some, fa_cp, ld_cp, cutE_one, Nat.zero_add, get0, bop_eql, condK_B, decide_eq_true_eq, decide_eq_false_iff_not]
    have hle := hb.le
    clear hb
    cases t with
    | l0 n =>
      have ha : arity n.kind = 0 := ht
      have hk : n.kind = 1 ∨ n.kind = 2 ∨ n.kind = 3 ∨ n.kind = 4 ∨ n.kind = 11 := by unfold arity at ha; omega
      rcases hk with h | h | h | h | h <;> simp [Tr.root, h, sortT, sort0, hle]
    | l1 n a =>
      have ha : arity n.kind = 1 := ht.1
      have hk : n.kind = 9 ∨ n.kind = 14 := by unfold arity at ha; omega
      have hs1 : s = 1 := hsq.elim id fun h => by simp [Tr.kids] at h
      subst hs1
      have hz : sortT a ≠ 0 := hnz a (by simp [Tr.kids])
      have hr := sortT_range a
      simp only [Tr.kids, List.map_cons, List.map_nil]
      have e0 := int0 (sortT a) [] q
      rcases hk with h | h
      · simp [Tr.root, h, e0]
        refine (sort_on_ok _ (by omega)).run ?_
        simp (disch := omega) [bop_sub, hle]
        refine ⟨fun h2 => by simp [sortT, sort1, h, hz, h2], fun h2 => by simp [sortT, sort1, h, hz, h2]⟩
      · simp [Tr.root, h, e0, hle]
        refine ⟨fun h2 => by simp [sortT, sort1, h, h2], fun h2 => by simp [sortT, sort1, h, hz, h2]⟩
    | l2 n a b =>
      have ha : arity n.kind = 2 := ht.1
      have hk : n.kind = 5 ∨ n.kind = 6 ∨ n.kind = 7 ∨ n.kind = 8 ∨ n.kind = 10 ∨ n.kind = 12 ∨ n.kind = 13 := by unfold arity at ha; omega
      have hs1 : s = 1 := hsq.elim id fun h => by simp [Tr.kids] at h
      subst hs1
      have hz : sortT a ≠ 0 := hnz a (by simp [Tr.kids])
      have hz2 : sortT b ≠ 0 := hnz b (by simp [Tr.kids])
      have hr := sortT_range a
      have hr2 := sortT_range b
      simp only [Tr.kids, List.map_cons, List.map_nil]
      have e0 := int0 (sortT a) [sortT b] q
      have e1 := int1 (sortT a) (sortT b) [] q
      have hb1 := sBehind_range (b := sortT b) (t := 1) hr
      have hb2 := sBehind_range (b := sortT b) (t := 2) hr
      rcases hk with h | h | h | h | h | h | h
      · simp [Tr.root, h, e0, e1]
        refine ⟨_, (sort_behind_ok _ _ 1 (by omega) (by omega)).reads, (sort_behind_ok _ _ 2 (by omega) (by omega)).run ?_⟩
        rw [maxE_two]
        simp [hle, sortT, sort2, h, hz, hz2]
      · simp [Tr.root, h, e0, e1, hle]
        refine ⟨fun h2 => by simp [sortT, sort2, h, hz, hz2, h2], fun h2 => ⟨fun h3 => by simp [sortT, sort2, h, hz, hz2, h2, h3], fun h3 => ?_⟩⟩
        refine (sort_both_ok _ _ (by omega) (by omega)).run ?_
        have h2' : ¬ (sortT a > 2 ∨ sortT b > 2) := by omega
        refine ⟨I_eq ?_, hle⟩
        simp only [sortT, sort2, h, hz, hz2, or_self, if_false, if_true, if_neg h2']
      · simp [Tr.root, h, e0, e1]
        refine (sort_both_ok _ _ (by omega) (by omega)).run ?_
        simp [hle, sortT, sort2, h, hz, hz2]
      · simp [Tr.root, h, e0, e1]
        refine (sort_behind_ok _ _ 1 (by omega) (by omega)).run ?_
        simp [hle, sortT, sort2, h, hz, hz2]
      · simp [Tr.root, h, e0, e1, hle]
        refine ⟨fun h2 => ⟨fun h3 => by simp [sortT, sort2, h, h2, h3], fun h3 => by simp [sortT, sort2, h, hz2, h2, h3]⟩, fun h2 => by simp [sortT, sort2, h, hz, hz2, h2]⟩
      · simp [Tr.root, h, e0, e1]
        refine (sort_on_ok _ (by omega)).run ?_
        simp [hle, e0, e1]
        refine ⟨fun h2 => ⟨fun h3 => by simp [sortT, sort2, h, hz, h2, h3], fun h3 => by simp [sortT, sort2, h, hz, hz2, h2, h3]⟩, fun h2 => by simp [sortT, sort2, h, hz, hz2, h2]⟩
      · simp [Tr.root, h, e0, e1]
        refine (sort_on_ok _ (by omega)).run ?_
        simp [hle, e0, e1]
        refine ⟨fun h2 => ⟨fun h3 => by simp [sortT, sort2, h, hz, h2, h3], fun h3 => by simp [sortT, sort2, h, hz, hz2, h2, h3]⟩, fun h2 => by simp [sortT, sort2, h, hz, hz2, h2]⟩
 intro ht hl p
 induction t generalizing p with
 | l0 n => exact step _ ht hl (by intro x hx; simp [Tr.kids] at hx) p
 | l1 n a ih =>
   refine step _ ht hl ?_ p
   intro x hx p
   simp [Tr.kids] at hx; subst hx
   exact ih ht.2 (by simp [Tr.flat] at hl; omega) p
 | l2 n a b iha ihb =>
   refine step _ ht hl ?_ p
   intro x hx p
   simp [Tr.flat] at hl
   simp [Tr.kids] at hx
   rcases hx with rfl | rfl
   · exact iha ht.2.1 (by omega) p
   · exact ihb ht.2.2 (by omega) p

noncomputable def treeOf (l : List Node) : Tr := @dite _ (∃ t : Tr, t.ok ∧ l = t.flat) (Classical.propDecidable _) (fun h => h.choose) (fun _ => .l0 ⟨0, emp, 0⟩)
theorem treeOf_spec {l : List Node} (h : whole l = true) : (treeOf l).ok ∧ l = (treeOf l).flat := by
 unfold whole at h
 simp only [Bool.and_eq_true, decide_eq_true_eq] at h
 have hex : ∃ t : Tr, t.ok ∧ l = t.flat := parse (by intro e; rw [e] at h; simp at h) h.2.2
 unfold treeOf
 rw [dif_pos hex]
 exact hex.choose_spec
noncomputable def sortOf (l : List Node) : Int := if whole l then sortT (treeOf l) else 0
theorem sortOf_range (l : List Node) : 0 ≤ sortOf l ∧ sortOf l ≤ 4 := by
 unfold sortOf; split
 · exact sortT_range _
 · omega

theorem sort_Of_ok (l : List Node) (p : Perm) (hl : small l.length) (hn : names l) : Pur sort_Of [rowA l p] (I (sortOf l)) := by
 intro H
 refine sort_Of_of ?_
 unfold W_sort_Of
 refine (row_Whole_ok l p hl hn).run ?_
 simp only [unE_not, pureK_some, condK_B, ret1_pure]
 refine ⟨fun h => ⟨?_, Heap.le_refl _⟩, fun h => ?_⟩
 · have : whole l = false := by simpa using h
   simp [sortOf, this]
 · have hw : whole l = true := by simpa using h
   obtain ⟨h1, h2⟩ := treeOf_spec hw
   have hlen : l.length ≤ 200 := by
    unfold whole at hw
    simp only [Bool.and_eq_true, decide_eq_true_eq] at hw
    exact hw.1.2
   have key := sort_sort_ok (treeOf l) h1 (by rw [← h2]; omega) p
   rw [← h2] at key
   refine key.run ⟨?_, Heap.le_refl _⟩
   simp [sortOf, hw]

noncomputable def sortOn (l : List Node) (paired : Bool) : Bool := decide (sOn (sortOf l) = if paired then 4 else 3)
theorem sort_On_ok (l : List Node) (p : Perm) (b : Bool) (hl : small l.length) (hn : names l) : Pur sort_On [rowA l p, B b] (B (sortOn l b)) := by
 intro H
 refine sort_On_of ?_
 unfold W_sort_On
 have hr := sortOf_range l
 simp only [condK_B]
 refine ⟨fun h => ?_, fun h => ?_⟩
 · refine (sort_Of_ok l p hl hn).run ((sort_on_ok _ (by omega)).run ?_)
   simp [sortOn, h]
 · refine (sort_Of_ok l p hl hn).run ((sort_on_ok _ (by omega)).run ?_)
   simp [sortOn, h]
end Go.Av
namespace Go.Av
open Go Go.Proofs

structure St where
 l : List Node
 pl : Int
 how : Int
 n : Int
 a : List ByteArray
 deriving DecidableEq

abbrev stC (s : St) (p q : Perm) : List AV := [rowA s.l p, I s.pl, I s.how, I s.n, txtA s.a q]
def stA (s : St) (p q : Perm) : AV := .agg (stC s p q)

theorem allocK_st {s : St} {p q : Perm} {H : Heap} {K : AV → Heap → Prop} (h : ∀ o, H o = none → K (.ptr o 0) (H.upd o (.cells (stC s p q)))) : allocK (some (AV.cells (stA s p q))) H K := by
 simp [stA]; exact h

theorem ld_st {H : Heap} {o : Nat} {s : St} {p q : Perm} : ld (some true) 5 (H.upd o (.cells (stC s p q))) (.ptr o 0) = some (stA s p q) := by
 simp [stA]

@[simp] theorem cellsEq_two (a c a' c' : Int) : cellsEq [.int, .int] [I a, I c] [I a', I c'] = some (decide (a = a') && (decide (c = c') && true)) :=
  cellsEq_cons (cellEq_int _ _ _) (cellsEq_cons (cellEq_int _ _ _) rfl)

theorem st_ext_iff (x y : St) : x = y ↔ x.l = y.l ∧ x.pl = y.pl ∧ x.how = y.how ∧ x.n = y.n ∧ x.a = y.a := by
 cases x; cases y; simp

theorem code_Same_1_ok (l m : List ByteArray) (p q : Perm) (hl : small l.length) : Pur code_Same_1 [txtA l p, txtA m q] (B (decide (l = m))) := by
 intro H
 refine code_Same_1_of ?_
 unfold W_code_Same_1
 refine (slices_Equal_string_ok l m p q hl).run ?_
 simp

theorem enters_S1 : enters PP code_Same_1 = true := by kernel_rfl

theorem code_Same_ok (s t : St) (p q p' q' : Perm) (hl : small s.l.length) (ha : small s.a.length) : Pur code_Same [stA s p q, stA t p' q'] (B (decide (s = t))) := by
 intro H
 refine code_Same_of ?_
 unfold W_code_Same
 refine allocK_st fun o1 ho1 => ?_
 refine allocK_st fun o2 ho2 => ?_
 simp only [upd_none_iff] at ho2
 have hne : o1 ≠ o2 := fun e => ho2.1 e.symm
 simp only [fa_ptr, pureK_some, ld_upd_ne hne, ld_upd, cutE_one, Nat.zero_add, get0]
 refine (row_Same_ok _ _ _ _ hl).run ?_
 simp only [condK_B, decide_eq_true_eq, decide_eq_false_iff_not, fa_ptr, pureK_some, ld_upd_ne hne, ld_upd]
 have hle : H ≤ (H.upd o1 (.cells (stC s p q))).upd o2 (.cells (stC t p' q')) := by simp [ho1, ho2.2]
 refine ⟨fun h1 => ?_, fun h1 => ?_⟩
 · simp only [cutE_agg, List.length_cons, List.length_nil, List.drop_succ_cons, List.drop_zero, List.take_succ_cons, List.take_zero, Nat.zero_add, Nat.reduceAdd, Nat.reduceLeDiff, if_true, pureK_some, bop_flat_eql, cellsEq_two, cmpE_eql, condK_B, Bool.and_true, Bool.and_eq_true, decide_eq_true_eq]
   refine ⟨fun h2 => ?_, fun h2 => ?_⟩
   · simp only [cutE_one, get3, get4, pureK_some, bop_eql, condK_B, decide_eq_true_eq, decide_eq_false_iff_not]
     refine ⟨fun h3 => ?_, fun h3 => ?_⟩
     · refine callK_pur rfl rfl enters_S1 (code_Same_1_ok _ _ _ _ ha) ?_
       refine ret1_of H hle ⟨B_eq ?_, rfl⟩
       simp [st_ext_iff, h1, h2, h3]
     · refine ret1_of H hle ⟨B_eq ?_, rfl⟩
       simp [st_ext_iff, h3]
   · refine ret1_of H hle ⟨B_eq ?_, rfl⟩
     have : ¬ (s.pl = t.pl ∧ s.how = t.how) := by intro h; simp [h.1, h.2] at h2
     rw [eq_comm, decide_eq_false_iff_not, st_ext_iff]
     exact fun h => this ⟨h.2.1, h.2.2.1⟩
 · refine ret1_of H hle ⟨B_eq ?_, rfl⟩
   simp [st_ext_iff, h1]

theorem code_Right_2_ok (a b : Int) : Pur code_Right_2 [I a, I b] (B (decide (0 ≤ a) && decide (a ≤ b))) := by
 intro H
 refine code_Right_2_of ?_
 unfold W_code_Right_2
 simp only [bop_geq, bop_leq, pureK_some, condK_B, ret1_pure, decide_eq_true_eq, decide_eq_false_iff_not]
 refine ⟨fun h => ⟨B_eq (by simp [h]), Heap.le_refl _⟩, fun h => ⟨B_eq (by simp [h]), Heap.le_refl _⟩⟩

theorem code_Right_1_ok (s : ByteArray) (hs : s.size ≤ 4611686018427387904) : Pur code_Right_1 [S s] (B (!right ⟨1, s, 0⟩)) := by
 intro H
 refine code_Right_1_of ?_
 unfold W_code_Right_1
 rw [bld_01]
 simp only [pureK_some]
 refine (row_Right_ok ⟨1, s, 0⟩ hs).run ?_
 simp

end Go.Av
namespace Go.Av
open Go Go.Proofs

def sizes (l : List ByteArray) : Nat := (l.map ByteArray.size).sum
def byteOf (n : Int) : UInt8 := UInt8.ofNat (n % 256).toNat
theorem byteAV_byteOf (n : Int) : byteAV (byteOf n) = .sc (.int .u8 (n % 256)) := by
 unfold byteAV byteOf
 have h1 : 0 ≤ n % 256 := Int.emod_nonneg _ (by omega)
 have h2 : n % 256 < 256 := Int.emod_lt_of_pos _ (by omega)
 congr 2
 rw [UInt8.toNat_ofNat']
 omega
theorem cv_u8 (n : Int) : cv (.toInt .u8) (I n) = some (byteAV (byteOf n)) := by
 rw [byteAV_byteOf]
 rfl
theorem bsl_b (b : UInt8) : bsl 1 (.sc (.int .u8 0)) 1 [(0, byteAV b)] = some (bytA [b] .exact) := rfl
theorem bsl_b4 (a b c d : UInt8) : bsl 1 (.sc (.int .u8 0)) 4 [(0, byteAV a), (1, byteAV b), (2, byteAV c), (3, byteAV d)] = some (bytA [a, b, c, d] .exact) := rfl

def Out (H0 H : Heap) (bs : List UInt8) (v : AV) : Prop := ∃ p, v = bytA bs p ∧ Bld H0 H p bs.length

theorem app_out {H0 H : Heap} {bs cs : List UInt8} {v y : AV} {K : AV → Heap → Prop} (h : Out H0 H bs v) (hy : appended 1 y = some (cs.map byteAV)) (hl : bs.length + cs.length ≤ maxApp) (k : ∀ v' H', Out H0 H' (bs ++ cs) v' → K v' H') : appK 1 v y H K := by
 obtain ⟨p, rfl, hb⟩ := h
 refine appK_bld (H0 := H0) (ys := cs.map byteAV) (by simpa using hb) (.inl rfl) hy (by simpa using hl) ?_
 intro p' H' hb'
 refine k _ _ ⟨p', by rw [← List.map_append], by simpa using hb'⟩

theorem appended_byt (l : List UInt8) (p : Perm) : appended 1 (bytA l p) = some (l.map byteAV) := by simp [appended]
theorem appended_S (s : ByteArray) : appended 1 (S s) = some (s.data.toList.map byteAV) := rfl

def nameB (s : ByteArray) : List UInt8 := byteOf s.size :: s.data.toList

theorem code_named_ok (bs : List UInt8) (s : ByteArray) (H0 H : Heap) (v : AV) (h : Out H0 H bs v) (hl : bs.length + s.size ≤ 1000000) :
 ACalls PP gΓ code_named [v, S s] H (fun r H' => Out H0 H' (bs ++ nameB s) r) := by
 refine code_named_of ?_
 unfold W_code_named
 simp only [lns_S, pureK_some]
 rw [cv_u8]
 simp only [pureK_some]
 rw [bsl_b]
 simp only [pureK_some]
 have hsz : s.data.toList.length = s.size := by simp
 refine app_out h (appended_byt _ _) (by simp [maxApp]; omega) fun v1 H1 h1 => ?_
 refine app_out h1 (appended_S s) (by simp [maxApp]; omega) fun v2 H2 h2 => ?_
 refine ret1_of H2 (Heap.le_refl _) ?_
 simpa [nameB] using h2
end Go.Av
