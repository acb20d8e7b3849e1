/- Own text C5 of this claim: see the text that holds the theorem. -/
import Derived.Test.YtddolbhaekekaaaGreatDoorC4
set_option linter.all false
set_option maxRecDepth 100000
namespace Go.Av
open Go Go.Proofs

theorem bop_sub0 {bk : BK} {a : Int} (h1 : -9223372036854775808 ≤ a) (h2 : a < 9223372036854775808) : bop bk .sub (I a) (I 0) = some (I a) := by
  rw [bop_sub (by omega) (by omega)]; simp

theorem Grow_ok (n : Nat) (hn : n ≤ 1000000) (H : Heap) : ACalls PP gΓ slices_Grow_Node [.lst 0 [] .exact, I n] H (fun r H' => ∃ s q, r = .lst s [] q ∧ Bld H H' q 0 ∧ (s = 3 ∨ q = .exact)) := by
  refine slices_Grow_Node_of ?_
  unfold W_slices_Grow_Node
  simp only [bop_lss, pureK_some, condK_B, decide_eq_true_eq, decide_eq_false_iff_not]
  refine ⟨fun h => by omega, fun _ => ?_⟩
  have e1 : cpl (.lst 0 [] .exact) = some (I 0) := rfl
  have e2 : lnl (.lst 0 [] .exact) = some (I 0) := rfl
  rw [e1, e2]
  simp only [pureK_some]
  rw [bop_sub0 (by omega) (by omega)]
  simp only [pureK_some]
  rw [bop_sub0 (by omega) (by omega)]
  simp only [pureK_some, bop_gtr, condK_B, decide_eq_true_eq, decide_eq_false_iff_not]
  refine ⟨fun h => ?_, fun h => ret1_of H (Heap.le_refl _) ⟨0, .exact, rfl, .inl ⟨rfl, rfl⟩, .inr rfl⟩⟩
  have e3 : sll 3 (.lst 0 [] .exact) none (some (I 0)) none = some (.lst 3 [] .exact) := rfl
  rw [e3]
  simp only [pureK_some]
  refine ⟨h, by simp [maxApp]; omega, fun t ht => ?_⟩
  have e4 : sll 3 (.room 3 t (n : Int).toNat) none (some (I 0)) none = some (.lst 3 [] (.tok t)) := rfl
  dsimp only
  rw [e4]
  simp only [pureK_some]
  exact ret1_of _ (Heap.le_refl _) ⟨3, .tok t, rfl, .inr ⟨t, rfl, ht, rfl⟩, .inl rfl⟩

theorem ias_rows {ls : List (List Node)} {p : Perm} {k : Nat} (h : k < ls.length) : ias 1 (rowsA ls p) (I k) = some (.cp [rowA (ls[k]) .no] 0) := by
  rw [ias_lst (by omega) (v := rowA (ls[k]) .no) (by simp [h])]; rfl

/-- The rows of a slice, with what they may do told apart. -/
abbrev rowsP (ls : List (List Node × Perm)) (p : Perm) : AV := .lst 1 (ls.map fun l => rowA l.1 l.2) p
theorem ias_rowsP {ls : List (List Node × Perm)} {p : Perm} {k : Nat} (h : k < ls.length) : ias 1 (rowsP ls p) (I k) = some (.cp [rowA (ls[k]).1 (ls[k]).2] 0) := by
  rw [ias_lst (by omega) (v := rowA (ls[k]).1 (ls[k]).2) (by simp [h])]; rfl

def sumLen (ls : List (List Node × Perm)) : Nat := (ls.flatMap Prod.fst).length

theorem sumLen_take {ls : List (List Node × Perm)} {k : Nat} (h : k < ls.length) : sumLen (ls.take (k + 1)) = sumLen (ls.take k) + (ls[k]).1.length := by
  unfold sumLen
  rw [List.take_succ_eq_append_getElem h]
  simp only [List.flatMap_append, List.length_append, List.flatMap_cons, List.flatMap_nil, List.append_nil]
theorem sumLen_le (ls : List (List Node × Perm)) (k : Nat) : sumLen (ls.take k) ≤ sumLen ls := by
  unfold sumLen
  have : ls.flatMap Prod.fst = (ls.take k).flatMap Prod.fst ++ (ls.drop k).flatMap Prod.fst := by rw [← List.flatMap_append, List.take_append_drop]
  rw [this]; simp

theorem Concat_ok (ls : List (List Node × Perm)) (p : Perm) (hl : ls.length ≤ 1000) (hs : sumLen ls ≤ 1000000) : Pur slices_Concat_Node [rowsP ls p] (rowA (ls.flatMap Prod.fst) .no) := by
  refine Pur.weaken (φ := fun r => ∃ s q, r = .lst s ((ls.flatMap Prod.fst).map nd) q ∧ (s = 3 ∨ ls.flatMap Prod.fst = [])) (fun H => ?_) ?_
  rotate_left
  · rintro r ⟨s, q, rfl, h | h⟩
    · subst h; exact Weaker.lst
    · rw [h]; exact Weaker.empty
  refine slices_Concat_Node_of ?_
  unfold W_slices_Concat_Node
  simp only [lnl_lst, pureK_some, List.length_map]
  refine ⟨fun vs H' n => ∃ k : Nat, vs = [rowsP ls p, I (sumLen (ls.take k)), rowsP ls p, I ls.length, I k] ∧ H' = H ∧ n = ls.length - k ∧ k ≤ ls.length, ⟨_, H, Heap.le_refl _, 0, rfl, rfl, rfl, Nat.zero_le _⟩, ?_⟩
  rintro vs H' n ⟨k, rfl, rfl, rfl, hk⟩
  simp only [nth_zero, nth_succ, bop_lss, pureK_some, condK_B, decide_eq_true_eq, decide_eq_false_iff_not]
  refine ⟨fun h => ?_, fun h => ?_⟩
  · have hk' : k < ls.length := by omega
    have h1 := sumLen_take hk'
    have h2 := sumLen_le ls (k + 1)
    rw [ias_rowsP hk']
    simp only [pureK_some, ld_cp, cutE_one, get0, lnl_lst, List.length_map]
    rw [bop_add (by omega) (by omega)]
    simp only [pureK_some, bop_lss, condK_B, decide_eq_true_eq, decide_eq_false_iff_not]
    refine ⟨fun h => by omega, fun _ => ?_⟩
    rw [bop_add (by omega) (by omega)]
    simp only [pureK_some]
    refine ⟨_, _, ?_, Heap.le_refl _, k + 1, ?_, rfl, rfl, by omega⟩
    · omega
    · rw [h1]; simp
  · have hk' : k = ls.length := by omega
    subst hk'
    rw [List.take_length]
    refine (Grow_ok _ hs _).mono ?_
    rintro r H1 ⟨s, q, rfl, hb, hsq⟩
    simp only [lnl_lst, pureK_some, List.length_map]
    refine ⟨fun vs H2 n => ∃ (k : Nat) (s : Nat) (q : Perm), vs = [.lst s (((ls.take k).flatMap Prod.fst).map nd) q, rowsP ls p, I ls.length, I k] ∧ n = ls.length - k ∧ k ≤ ls.length ∧ Bld H' H2 q (((ls.take k).flatMap Prod.fst).map nd).length ∧ (s = 3 ∨ (((ls.take k).flatMap Prod.fst).map nd = [] ∧ q = .exact)),
      ⟨_, H1, Heap.le_refl _, 0, s, q, rfl, rfl, Nat.zero_le _, hb, hsq.imp id fun h => ⟨rfl, h⟩⟩, ?_⟩
    rintro vs H2 n ⟨k, s, q, rfl, rfl, hk, hb, hsq⟩
    simp only [nth_zero, nth_succ, bop_lss, pureK_some, condK_B, decide_eq_true_eq, decide_eq_false_iff_not]
    refine ⟨fun h => ?_, fun h => ?_⟩
    · have hk' : k < ls.length := by omega
      have h1 := sumLen_take hk'
      have h2 := sumLen_le ls (k + 1)
      rw [ias_rowsP hk']
      simp only [pureK_some, ld_cp, cutE_one, get0]
      refine appK_bld (H0 := H') (ys := (ls[k]).1.map nd) hb hsq (by simp [appended]) (by unfold sumLen at h1 h2 hs; simp only [List.length_map, maxApp]; omega) ?_
      intro q' H3 hb'
      rw [bop_add (by omega) (by omega)]
      simp only [pureK_some]
      have htk : (ls.take (k + 1)).flatMap Prod.fst = (ls.take k).flatMap Prod.fst ++ (ls[k]).1 := by
        rw [List.take_succ_eq_append_getElem hk']
        simp only [List.flatMap_append, List.flatMap_cons, List.flatMap_nil, List.append_nil]
      refine ⟨_, _, ?_, Heap.le_refl _, k + 1, 3, q', ?_, rfl, by omega, ?_, .inl rfl⟩
      · omega
      · rw [htk]; simp
      · rw [htk]; simpa using hb'
    · have hk' : k = ls.length := by omega
      subst hk'
      rw [List.take_length] at hsq hb ⊢
      exact ret1_of H' hb.le ⟨⟨s, q, rfl, hsq.imp id fun h => by simpa using h.1⟩, rfl⟩

end Go.Av
