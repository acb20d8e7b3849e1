/- Own text C13 of this claim: see the text that holds the theorem. -/
import Derived.Test.YtddolbhaekekaaaGreatDoorC12
set_option linter.all false
set_option maxRecDepth 100000
namespace Go.Av
open Go Go.Proofs

structure St where
  l : List Node
  pl : Int
  how : Int
  n : Int
  a : List ByteArray
  deriving DecidableEq

abbrev stC (s : St) (p q : Perm) : List AV := [rowA s.l p, I s.pl, I s.how, I s.n, txtA s.a q]
def stA (s : St) (p q : Perm) : AV := .agg (stC s p q)

theorem allocK_st {s : St} {p q : Perm} {H : Heap} {K : AV → Heap → Prop} (h : ∀ o, H o = none → K (.ptr o 0) (H.upd o (.cells (stC s p q)))) : allocK (some (AV.cells (stA s p q))) H K := by
  simp [stA]; exact h

theorem st_st {H : Heap} {o : Nat} {s : St} {p q : Perm} {cs : List AV} (hc : cs.length = 5) : st 5 (H.upd o (.cells cs)) (.ptr o 0) (stA s p q) = some (H.upd o (.cells (stC s p q))) := by
  match cs, hc with
  | [a, b, c, d, e], _ => simp [stA, splice]

theorem ld_st {H : Heap} {o : Nat} {s : St} {p q : Perm} : ld (some true) 5 (H.upd o (.cells (stC s p q))) (.ptr o 0) = some (stA s p q) := by
  simp [stA]

theorem law19_New_ok (s : St) (p q : Perm) : Pur law19_New [stA s p q] (stA s p q) := by
  intro H
  refine law19_New_of ?_
  unfold W_law19_New
  refine allocK_st fun o1 ho1 => ?_
  intro o2 ho2
  simp only [upd_none_iff] at ho2
  have hne : o1 ≠ o2 := fun e => ho2.1 e.symm
  rw [ld_upd_ne hne, ld_st]
  simp only [pureK_some]
  rw [st_st rfl]
  simp only [heapK_some]
  rw [ld_st]
  simp [ho1, ho2.2]

theorem law19_Old_ok (s : St) (p q : Perm) : Pur law19_Old [stA s p q] (stA s p q) := by
  intro H
  refine law19_Old_of ?_
  unfold W_law19_Old
  refine allocK_st fun o1 ho1 => ?_
  intro o2 ho2
  simp only [upd_none_iff] at ho2
  have hne : o1 ≠ o2 := fun e => ho2.1 e.symm
  rw [ld_upd_ne hne, ld_st]
  simp only [pureK_some]
  rw [st_st rfl]
  simp only [heapK_some]
  rw [ld_st]
  simp [ho1, ho2.2]

@[simp] theorem cellsEq_two (a c a' c' : Int) : cellsEq [.int, .int] [I a, I c] [I a', I c'] = some (decide (a = a') && (decide (c = c') && true)) :=
  cellsEq_cons (cellEq_int _ _ _) (cellsEq_cons (cellEq_int _ _ _) rfl)

theorem st_ext_iff (x y : St) : x = y ↔ x.l = y.l ∧ x.pl = y.pl ∧ x.how = y.how ∧ x.n = y.n ∧ x.a = y.a := by
  cases x; cases y; simp

theorem code_Same_1_ok (l m : List ByteArray) (p q : Perm) (hl : small l.length) : Pur code_Same_1 [txtA l p, txtA m q] (B (decide (l = m))) := by
  intro H
  refine code_Same_1_of ?_
  unfold W_code_Same_1
  refine (slices_Equal_string_ok l m p q hl).run ?_
  simp

theorem enters_S1 : enters PP code_Same_1 = true := by kernel_rfl

theorem code_Same_ok (s t : St) (p q p' q' : Perm) (hl : small s.l.length) (ha : small s.a.length) : Pur code_Same [stA s p q, stA t p' q'] (B (decide (s = t))) := by
  intro H
  refine code_Same_of ?_
  unfold W_code_Same
  refine allocK_st fun o1 ho1 => ?_
  refine allocK_st fun o2 ho2 => ?_
  simp only [upd_none_iff] at ho2
  have hne : o1 ≠ o2 := fun e => ho2.1 e.symm
  simp only [fa_ptr, pureK_some, ld_upd_ne hne, ld_upd, cutE_one, Nat.zero_add, get0]
  refine (row_Same_ok _ _ _ _ hl).run ?_
  simp only [condK_B, decide_eq_true_eq, decide_eq_false_iff_not, fa_ptr, pureK_some, ld_upd_ne hne, ld_upd]
  have hle : H ≤ (H.upd o1 (.cells (stC s p q))).upd o2 (.cells (stC t p' q')) := by simp [ho1, ho2.2]
  refine ⟨fun h1 => ?_, fun h1 => ?_⟩
  · simp only [cutE_agg, List.length_cons, List.length_nil, List.drop_succ_cons, List.drop_zero, List.take_succ_cons, List.take_zero, Nat.zero_add, Nat.reduceAdd, Nat.reduceLeDiff, if_true, pureK_some, bop_flat_eql, cellsEq_two, cmpE_eql, condK_B, Bool.and_true, Bool.and_eq_true, decide_eq_true_eq]
    refine ⟨fun h2 => ?_, fun h2 => ?_⟩
    · simp only [cutE_one, get3, get4, pureK_some, bop_eql, condK_B, decide_eq_true_eq, decide_eq_false_iff_not]
      refine ⟨fun h3 => ?_, fun h3 => ?_⟩
      · refine callK_pur rfl rfl enters_S1 (code_Same_1_ok _ _ _ _ ha) ?_
        refine ret1_of H hle ⟨B_eq ?_, rfl⟩
        simp [st_ext_iff, h1, h2, h3]
      · refine ret1_of H hle ⟨B_eq ?_, rfl⟩
        simp [st_ext_iff, h3]
    · refine ret1_of H hle ⟨B_eq ?_, rfl⟩
      have : ¬ (s.pl = t.pl ∧ s.how = t.how) := by intro h; simp [h.1, h.2] at h2
      rw [eq_comm, decide_eq_false_iff_not, st_ext_iff]
      exact fun h => this ⟨h.2.1, h.2.2.1⟩
  · refine ret1_of H hle ⟨B_eq ?_, rfl⟩
    simp [st_ext_iff, h1]

theorem ref19_Same_ok (s t : St) (p q p' q' : Perm) (hl : small s.l.length) (ha : small s.a.length) : Pur ref19_Same [stA s p q, stA t p' q'] (B (decide (s = t))) := by
  intro H
  refine ref19_Same_of ?_
  unfold W_ref19_Same
  refine allocK_st fun o1 ho1 => ?_
  refine allocK_st fun o2 ho2 => ?_
  simp only [upd_none_iff] at ho2
  have hne : o1 ≠ o2 := fun e => ho2.1 e.symm
  simp only [fa_ptr, pureK_some, ld_upd_ne hne, ld_upd, cutE_one, Nat.zero_add, get0]
  refine (ref03_Same_ok _ _ _ _ hl).run ?_
  simp only [condK_B, decide_eq_true_eq, decide_eq_false_iff_not, fa_ptr, pureK_some, ld_upd_ne hne, ld_upd]
  have hle : H ≤ (H.upd o1 (.cells (stC s p q))).upd o2 (.cells (stC t p' q')) := by simp [ho1, ho2.2]
  refine ⟨fun h1 => ?_, fun h1 => ?_⟩
  · simp only [cutE_agg, List.length_cons, List.length_nil, List.drop_succ_cons, List.drop_zero, List.take_succ_cons, List.take_zero, Nat.zero_add, Nat.reduceAdd, Nat.reduceLeDiff, if_true, pureK_some, bop_flat_eql, cellsEq_two, cmpE_eql, condK_B, Bool.and_true, Bool.and_eq_true, decide_eq_true_eq]
    refine ⟨fun h2 => ?_, fun h2 => ?_⟩
    · simp only [cutE_one, get3, get4, pureK_some, bop_eql, condK_B, decide_eq_true_eq, decide_eq_false_iff_not]
      refine ⟨fun h3 => ?_, fun h3 => ?_⟩
      · refine (ref04_Texts_ok _ _ _ _ ha).run ?_
        refine ret1_of H hle ⟨B_eq ?_, rfl⟩
        simp [st_ext_iff, h1, h2, h3]
      · refine ret1_of H hle ⟨B_eq ?_, rfl⟩
        simp [st_ext_iff, h3]
    · refine ret1_of H hle ⟨B_eq ?_, rfl⟩
      have : ¬ (s.pl = t.pl ∧ s.how = t.how) := by intro h; simp [h.1, h.2] at h2
      rw [eq_comm, decide_eq_false_iff_not, st_ext_iff]
      exact fun h => this ⟨h.2.1, h.2.2.1⟩
  · refine ret1_of H hle ⟨B_eq ?_, rfl⟩
    simp [st_ext_iff, h1]

theorem code_Right_2_ok (a b : Int) : Pur code_Right_2 [I a, I b] (B (decide (0 ≤ a) && decide (a ≤ b))) := by
  intro H
  refine code_Right_2_of ?_
  unfold W_code_Right_2
  simp only [bop_geq, bop_leq, pureK_some, condK_B, ret1_pure, decide_eq_true_eq, decide_eq_false_iff_not]
  refine ⟨fun h => ⟨B_eq (by simp [h]), Heap.le_refl _⟩, fun h => ⟨B_eq (by simp [h]), Heap.le_refl _⟩⟩

theorem code_Right_1_ok (s : ByteArray) (hs : s.size ≤ 4611686018427387904) : Pur code_Right_1 [S s] (B (!right ⟨1, s, 0⟩)) := by
  intro H
  refine code_Right_1_of ?_
  unfold W_code_Right_1
  rw [bld_01]
  simp only [pureK_some]
  refine (row_Right_ok ⟨1, s, 0⟩ hs).run ?_
  simp

end Go.Av
