/- Own text C9 of this claim: see the text that holds the theorem. -/
import Derived.Test.YtddolbhaekekaaaGreatDoorC8
set_option linter.all false
set_option maxRecDepth 100000
namespace Go.Av
open Go Go.Proofs

theorem ext_getD {l m : List AV} (h : l.length = m.length) (h2 : ∀ i, i < l.length → l.getD i .dead = m.getD i .dead) : l = m := by
  apply List.ext_getElem h
  intro i h3 h4
  have := h2 i h3
  simpa [List.getD_eq_getElem?_getD, h3, h4] using this

theorem splice_set (f : Nat → Bool) {b : Nat} (h : b < 256) : splice (setL f) b [B true] = setL (fun i => f i || i == b) := by
  have hl : b + [B true].length ≤ (setL f).length := by rw [setL_length]; simp; omega
  apply ext_getD
  · rw [splice_length _ _ _ hl, setL_length, setL_length]
  · intro i hi
    rw [splice_length _ _ _ hl, setL_length] at hi
    rw [splice_getD _ _ _ _ hl]
    simp only [List.length_cons, List.length_nil, List.getD_eq_getElem?_getD, setL_get _ hi, Option.getD_some]
    by_cases e : i = b
    · subst e; simp
    · rw [if_neg (by omega)]; simp [e]

def inS (s : ByteArray) (k i : Nat) : Bool := (s.data.toList.take k).any fun b => b.toNat == i

theorem inS_succ {s : ByteArray} {k : Nat} (h : k < s.size) (i : Nat) : inS s (k + 1) i = (inS s k i || i == s[k].toNat) := by
  unfold inS
  have h' : k < s.data.toList.length := by simpa using h
  rw [List.take_succ_eq_append_getElem h', List.any_append]
  congr 1
  simp only [List.any_cons, List.any_nil, Bool.or_false]
  have : s.data.toList[k] = s[k] := by simp; rfl
  rw [this]
  rw [Bool.eq_iff_iff]; simp; omega

theorem single_setL (f : Nat → Bool) : (setL f).all AV.single = true := by simp [setL, List.all_map]

theorem st_upd_of {n : Nat} {H : Heap} {o off : Nat} {cs : List AV} {v : AV} {r : List AV} (h1 : v.cells.length = n) (h2 : off + v.cells.length ≤ cs.length) (h3 : v.cells.all AV.single = true) (hr : splice cs off v.cells = r) :
    st n (H.upd o (.cells cs)) (.ptr o off) v = some (H.upd o (.cells r)) := by
  rw [st_upd, if_pos, hr]
  simp only [h1, h3, Bool.and_true, Bool.and_eq_true, decide_eq_true_eq]
  exact ⟨trivial, by omega⟩

theorem st_set {H : Heap} {o : Nat} (f : Nat → Bool) {b : Nat} (h : b < 256) : st 1 (H.upd o (.cells (setL f))) (.ptr o b) (B true) = some (H.upd o (.cells (setL (fun i => f i || i == b)))) :=
  st_upd_of rfl (by rw [setL_length]; show b + 1 ≤ 256; omega) rfl (splice_set f h)

theorem ld_set {H : Heap} {o : Nat} (f : Nat → Bool) : ld (some true) 256 (H.upd o (.cells (setL f))) (.ptr o 0) = some (.agg (setL f)) := by
  rw [ld_upd, cutE_agg, if_pos (by rw [setL_length]; omega), List.drop_zero, List.take_of_length_le (by rw [setL_length]; omega)]

theorem st_all {H : Heap} {o : Nat} {cs : List AV} (f : Nat → Bool) (hc : cs.length = 256) : st 256 (H.upd o (.cells cs)) (.ptr o 0) (.agg (setL f)) = some (H.upd o (.cells (setL f))) := by
  have e : splice cs 0 (setL f) = setL f := by
    simp only [splice, List.take_zero, List.nil_append, Nat.zero_add]
    rw [List.drop_eq_nil_of_le (by rw [setL_length]; omega), List.append_nil]
  exact st_upd_of (setL_length f) (by show 0 + (setL f).length ≤ cs.length; rw [setL_length, hc]; omega) (single_setL f) e

theorem zero_setL : List.replicate 256 (B false) = setL (fun _ => false) := by
  unfold setL
  rw [List.map_const']; simp

theorem makeSet_ok (s : ByteArray) (hs : small' s) (h8 : ∀ i (h : i < s.size), s[i].toNat < 128) : Pur strings_makeASCIISet [S s] (.tup [.agg (setL (inS s s.size)), B true]) := by
  unfold small' at hs
  intro H
  refine strings_makeASCIISet_of ?_
  unfold W_strings_makeASCIISet
  intro o ho
  refine ⟨fun vs H' n => ∃ k, k ≤ s.size ∧ vs = [S s, .ptr o 0, I k] ∧ H' = H.upd o (.cells (setL (inS s k))) ∧ n = s.size - k, ⟨_, _, Heap.le_refl _, 0, Nat.zero_le _, rfl, ?_, rfl⟩, ?_⟩
  · rw [zero_setL]; rfl
  rintro vs H' n ⟨k, hk, rfl, rfl, rfl⟩
  simp only [nth_zero, nth_succ, lns_S, bop_lss, pureK_some, condK_B, decide_eq_true_eq, decide_eq_false_iff_not]
  refine ⟨fun h => ?_, fun h => ?_⟩
  · have hk' : k < s.size := by omega
    have hb := h8 k hk'
    rw [ixs_S hk']
    simp only [pureK_some, bop_geq, condK_B, decide_eq_true_eq, decide_eq_false_iff_not]
    refine ⟨fun h2 => by omega, fun _ => ?_⟩
    have e : iaa 256 1 (.ptr o 0) (U s[k]) = some (.ptr o s[k].toNat) := by
      simp only [iaa]; rw [if_pos ⟨by omega, by omega⟩]; simp
    rw [e]
    simp only [pureK_some]
    rw [st_set _ (by omega), bop_add (by omega) (by omega)]
    simp only [pureK_some, heapK_some]
    refine ⟨s.size - (k + 1), _, by omega, Heap.le_refl _, k + 1, by omega, rfl, ?_, rfl⟩
    have e : (fun i => inS s k i || i == s[k].toNat) = inS s (k + 1) := by
      funext i
      rw [inS_succ hk']
    rw [e]
  · have hk' : k = s.size := by omega
    subst hk'
    rw [ld_set]
    simp only [pureK_some]
    rw [st_all _ (setL_length _)]
    simp only [heapK_some]
    rw [ld_set]
    simp [ho]

def lettersF (i : Nat) : Bool := decide (97 ≤ i ∧ i ≤ 122)
theorem letters_set : setL (inS s_abcdefghijklmnopqrstuvwxyz s_abcdefghijklmnopqrstuvwxyz.size) = setL lettersF := by
  unfold setL
  apply List.map_congr_left
  intro i hi
  rw [List.mem_range] at hi
  have : ∀ i : Fin 256, inS s_abcdefghijklmnopqrstuvwxyz s_abcdefghijklmnopqrstuvwxyz.size i.val = lettersF i.val := by decide +kernel
  rw [this ⟨i, hi⟩]

def allLetters (s : ByteArray) : Bool := s.data.toList.all fun b => lettersF b.toNat
theorem allLetters_iff (s : ByteArray) : allLetters s = true ↔ ∀ i (h : i < s.size), lettersF s[i].toNat = true := by
  unfold allLetters
  rw [List.all_eq_true]
  constructor
  · intro h i hi
    exact h s[i] (by
      have h1 : i < s.data.toList.length := by simpa using hi
      have h2 : s[i] = s.data.toList[i] := by simp; rfl
      rw [h2]; exact List.getElem_mem h1)
  · intro h b hb
    obtain ⟨i, hi, rfl⟩ := List.getElem_of_mem hb
    have h1 : i < s.size := by simpa using hi
    have h2 : s[i] = s.data.toList[i] := by simp; rfl
    rw [← h2]; exact h i h1
end Go.Av
