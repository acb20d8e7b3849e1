/- Own text C10 of this claim: see the text that holds the theorem. -/
import Derived.Test.YtddolbhaekekaaaGreatDoorC9
set_option linter.all false
set_option maxRecDepth 100000
namespace Go.Av
open Go Go.Proofs

theorem emp_eq : emp = ByteArray.empty := rfl

theorem letters_small : ∀ i : Fin s_abcdefghijklmnopqrstuvwxyz.size, (s_abcdefghijklmnopqrstuvwxyz[i.val]).toNat < 128 := by decide +kernel

theorem Trim_letters_ok (s : ByteArray) (hs : small' s) : PurR strings_Trim [S s, S s_abcdefghijklmnopqrstuvwxyz] (fun r => ∃ u, r = S u ∧ (u = emp ↔ allLetters s = true)) := by
  intro H
  refine strings_Trim_of ?_
  unfold W_strings_Trim
  have hsz : s_abcdefghijklmnopqrstuvwxyz.size = 26 := rfl
  have hne : ¬ s_abcdefghijklmnopqrstuvwxyz = emp := by decide
  simp only [bop_seql, lns_S, hsz, pureK_some, condK_B, decide_eq_true_eq, decide_eq_false_iff_not, bop_eql]
  refine ⟨fun h => ret1_of H (Heap.le_refl _) ⟨⟨s, rfl, ?_⟩, rfl⟩, fun h => ⟨fun h2 => absurd h2 hne, fun _ => ⟨fun h3 => by simp at h3, fun _ => ?_⟩⟩⟩
  · subst h; exact ⟨fun _ => rfl, fun _ => rfl⟩
  · have h8 : ∀ i (h : i < s_abcdefghijklmnopqrstuvwxyz.size), s_abcdefghijklmnopqrstuvwxyz[i].toNat < 128 := by
      intro i hi
      exact letters_small ⟨i, hi⟩
    refine (makeSet_ok _ (by unfold small'; rw [hsz]; omega) h8).run ?_
    rw [letters_set]
    simp only [extractE_tup, get0, get1, pureK_some]
    intro o ho
    rw [st_all _ List.length_replicate]
    simp only [heapK_some, condK_B]
    refine ⟨fun _ => ?_, fun h => by cases h⟩
    have hle : H ≤ H.upd o (.cells (setL lettersF)) := by simp [ho]
    refine (trimRight_ok lettersF s hs (Heap.upd_same _ _ _)).mono ?_
    rintro r H1 ⟨⟨m, hm, rfl, hin, hlast⟩, rfl⟩
    have hsz2 : (s.extract 0 m).size = m := by rw [ByteArray.size_extract]; omega
    refine (trimLeft_ok lettersF _ (by unfold small' at hs ⊢; omega) (Heap.upd_same _ _ _)).mono ?_
    rintro r H1 ⟨⟨k, hk, rfl, hin2, hfirst⟩, rfl⟩
    refine ret1_of H hle ⟨⟨_, rfl, ?_⟩, rfl⟩
    rw [emp_eq, ByteArray.extract_eq_empty_iff, allLetters_iff]
    constructor
    · intro hke i hi
      by_cases h1 : m ≤ i
      · exact hin i hi h1
      · have h2 : i < (s.extract 0 m).size := by omega
        have := hin2 i h2 (by omega)
        rw [ByteArray.getElem_extract] at this
        simpa using this
    · intro hall
      rcases Nat.eq_zero_or_pos m with h0 | h0
      · omega
      · have h1 := hlast (by omega)
        rcases h1 with h1 | h1
        · omega
        · rw [hall (m - 1) (by omega)] at h1; cases h1

theorem slices_Index_string_ok (l : List ByteArray) (s : ByteArray) (p : Perm) (hl : small l.length) : PurR slices_Index_string [txtA l p, S s] (fun r => ∃ k : Int, r = I k ∧ (0 ≤ k ↔ s ∈ l)) := by
  intro H
  refine slices_Index_string_of ?_
  unfold W_slices_Index_string
  simp only [lnl_lst, pureK_some, List.length_map]
  refine ⟨fun vs H' n => ∃ k : Nat, vs = [txtA l p, S s, I l.length, I k] ∧ H' = H ∧ n = l.length - k ∧ k ≤ l.length ∧ s ∉ l.take k, ⟨_, H, Heap.le_refl _, 0, rfl, rfl, rfl, Nat.zero_le _, by simp⟩, ?_⟩
  rintro vs H' n ⟨k, rfl, rfl, rfl, hk, hn⟩
  simp only [nth_zero, nth_succ, bop_lss, pureK_some, condK_B, decide_eq_true_eq, decide_eq_false_iff_not]
  refine ⟨fun h => ?_, fun h => ?_⟩
  · have hk' : k < l.length := by omega
    rw [ias_txt (by omega) (by omega)]
    simp only [pureK_some, ld_cp, cutE_one, get0, bop_seql, condK_B, decide_eq_true_eq, decide_eq_false_iff_not, Int.toNat_natCast]
    refine ⟨fun h1 => ret1_of H' (Heap.le_refl _) ⟨⟨k, rfl, ?_⟩, rfl⟩, fun h1 => ?_⟩
    · exact ⟨fun _ => by rw [h1]; exact List.getElem_mem hk', fun _ => by omega⟩
    · rw [bop_add (by omega) (by omega)]
      simp only [pureK_some]
      refine ⟨l.length - (k + 1), _, by omega, Heap.le_refl _, k + 1, rfl, rfl, rfl, by omega, ?_⟩
      rw [List.take_succ_eq_append_getElem hk']
      intro hm
      rcases List.mem_append.1 hm with hm | hm
      · exact hn hm
      · exact h1 (List.mem_singleton.1 hm)
  · have hk' : k = l.length := by omega
    subst hk'
    rw [List.take_length] at hn
    exact ret1_of H' (Heap.le_refl _) ⟨⟨-1, rfl, by constructor; (intro h; omega); (intro h; exact absurd h hn)⟩, rfl⟩

def memB (s : ByteArray) (l : List ByteArray) : Bool := l.any fun t => decide (t = s)
theorem memB_iff {s : ByteArray} {l : List ByteArray} : memB s l = true ↔ s ∈ l := by
  unfold memB; rw [List.any_eq_true]
  constructor
  · rintro ⟨t, h1, h2⟩; have := of_decide_eq_true h2; subst this; exact h1
  · intro h; exact ⟨s, h, by simp⟩

theorem slices_Contains_string_ok (l : List ByteArray) (s : ByteArray) (p : Perm) (hl : small l.length) : Pur slices_Contains_string [txtA l p, S s] (B (memB s l)) := by
  intro H
  refine slices_Contains_string_of ?_
  unfold W_slices_Contains_string
  refine (slices_Index_string_ok l s p hl).run ?_
  rintro v ⟨k, rfl, hk⟩
  simp only [bop_geq, pureK_some, ret1_pure]
  exact ⟨B_eq (by rw [Bool.eq_iff_iff, memB_iff, decide_eq_true_eq]; exact hk), Heap.le_refl _⟩

def named (s : ByteArray) : Bool := decide (s ≠ emp) && decide (s.size ≤ 8) && allLetters s && !memB s words

theorem row_named_ok (s : ByteArray) (hs : s.size ≤ 4611686018427387904) : Pur row_named [S s] (B (named s)) := by
  intro H
  refine row_named_of ?_
  unfold W_row_named
  simp only [bop_sneq, lns_S, pureK_some, condK_B, bop_leq, decide_eq_true_eq, decide_eq_false_iff_not]
  refine ⟨fun h => ⟨fun h2 => ?_, fun h2 => ?_⟩, fun h => ?_⟩
  · have h1 : s ≠ emp := by simpa using h
    have h3 : s.size ≤ 8 := by omega
    refine (Trim_letters_ok s (by unfold small'; omega)).run ?_
    rintro v ⟨u, rfl, hu⟩
    simp only [bop_seql, pureK_some, condK_B, decide_eq_true_eq, decide_eq_false_iff_not]
    refine ⟨fun h4 => ?_, fun h4 => ?_⟩
    · have e : sla 6 1 g0 none none none = some (txtA words .no) := rfl
      rw [e]
      simp only [pureK_some]
      refine (slices_Contains_string_ok words s .no (by decide)).run ?_
      simp only [unE_not, pureK_some, ret1_pure]
      refine ⟨B_eq ?_, Heap.le_refl _⟩
      simp [named, h1, h3, hu.1 h4]
    · simp only [ret1_pure]
      refine ⟨B_eq ?_, Heap.le_refl _⟩
      have : allLetters s = false := by
        cases h5 : allLetters s with
        | false => rfl
        | true => exact absurd (hu.2 h5) h4
      simp [named, this]
  · simp only [ret1_pure]
    refine ⟨B_eq ?_, Heap.le_refl _⟩
    have h3 : ¬ s.size ≤ 8 := by omega
    simp [named, h3]
  · simp only [ret1_pure]
    refine ⟨B_eq ?_, Heap.le_refl _⟩
    have h1 : s = emp := by simpa using h
    simp [named, h1]
end Go.Av
