/- Own text D5 of this claim: see the text that holds the theorem. -/
import Derived.Test.YtddolbhaekekaaaGreatDoorD4
set_option linter.all false
set_option maxRecDepth 100000
namespace Go.Av
open Go Go.Proofs

def first13 (a c : Tr) : Tr := if a.root.kind = 11 then a else if a.root.kind = 14 then endT a.root.sign (.l2 ⟨5, emp, 0⟩ a.sub c) else .l2 ⟨13, emp, 0⟩ a c
def firstT (k : Int) (a b : Tr) : Tr :=
  if a.root.kind = 11 then (if k = 12 then endT a.root.sign (if a.root.sign = 1 then b else .l0 ⟨2, emp, 0⟩) else if (k = 5 ∧ a.root.sign = 1) ∨ (k = 8 ∧ a.root.sign = 2) then settleT b else a)
  else if a.root.kind = 14 then (if k = 13 then endT a.root.sign (.l2 ⟨5, emp, 0⟩ a.sub b) else if a.root.sign = 1 then first13 (settleT b) a.sub else a)
  else .l2 ⟨k, emp, 0⟩ a b

theorem sll_sub {a : Tr} (ha : a.ok) (hk : a.root.kind = 14) : sll 3 (rowA a.flat .no) (some (I 1)) none none = some (rowA a.sub.flat .no) := by
  rw [(a.end_flat ha hk).1]; exact sll_no1

theorem sub_len {a : Tr} (ha : a.ok) (hk : a.root.kind = 14) : a.flat.length = 1 + a.sub.flat.length := by
  have := congrArg List.length (a.end_flat ha hk).1
  simp only [List.length_cons] at this
  omega

theorem node_two (k : Int) (a b : List Node) (h : a.length + b.length ≤ 900000) {H : Heap} {v : AV} (hv : rowA (⟨k, emp, 0⟩ :: (a ++ b)) .no = v) :
    ACalls PP gΓ ref10_node [I k, I 0] H fun x H1 => ACalls PP gΓ ref03_Two [x, rowA a .no, rowA b .no] H1 fun y H2 => ret1 H2 (fun r H' => r = v ∧ H' = H) y := by
  refine (ref10_node_ok k 0).run ?_
  refine (ref03_Two_ok ⟨k, emp, 0⟩ a b .no .no (by omega)).run ?_
  exact ret1_of H (Heap.le_refl _) ⟨hv, rfl⟩

theorem first13_ok (a c : Tr) (ha : a.ok) (hl : a.flat.length + c.flat.length ≤ 900000) : Pur ref10_first [I 13, rowA a.flat .no, rowA c.flat .no] (rowA (first13 a c).flat .no) := by
  intro H
  refine ref10_first_of ?_
  unfold W_ref10_first
  simp only [ias_root, pureK_some, fa_cp, ld_cp, cutE_one, Nat.zero_add, get0, get2, bop_eql, Int.reduceEq, decide_false, decide_true, condK_t, condK_f]
  by_cases h11 : a.root.kind = 11
  · simp only [h11, Int.reduceEq, decide_false, decide_true, condK_t, condK_f]
    exact ret1_of H (Heap.le_refl _) ⟨by simp [first13, h11], rfl⟩
  · simp only [decide_eq_false h11, condK_f]
    by_cases h14 : a.root.kind = 14
    · have hs := sub_len ha h14
      simp only [h14, Int.reduceEq, decide_false, decide_true, condK_t, condK_f, sll_sub ha h14, pureK_some]
      refine ⟨_, (ref10_node_ok 5 0).reads, _, (ref03_Two_ok ⟨5, emp, 0⟩ a.sub.flat c.flat .no .no (by omega)).reads, ?_⟩
      refine (ref10_end_ok a.root.sign _ .no (by simp; omega)).run ?_
      exact ret1_of H (Heap.le_refl _) ⟨by simp [first13, h14, endT, Tr.flat], rfl⟩
    · simp only [decide_eq_false h14, condK_f]
      exact node_two 13 a.flat c.flat hl (by simp [first13, h11, h14, Tr.flat])

theorem first_ok (k : Int) (hk : k = 5 ∨ k = 8 ∨ k = 12 ∨ k = 13) (a b : Tr) (ha : a.ok) (hb : b.ok) (hl : a.flat.length + b.flat.length ≤ 1000) (hT : Pur ref10_Tree [rowA b.flat .no] (rowA (settleT b).flat .no)) :
    Pur ref10_first [I k, rowA a.flat .no, rowA b.flat .no] (rowA (firstT k a b).flat .no) := by
  intro H
  refine ref10_first_of ?_
  unfold W_ref10_first
  simp only [ias_root, pureK_some, fa_cp, ld_cp, cutE_one, Nat.zero_add, get0, get2, bop_eql]
  obtain ⟨okT, lenT⟩ := settleT_ok hb
  have hTl : (settleT b).flat.length ≤ b.flat.length := lenT
  by_cases h11 : a.root.kind = 11
  · simp only [h11, Int.reduceEq, decide_false, decide_true, condK_t, condK_f]
    by_cases h12 : k = 12
    · simp only [h12, Int.reduceEq, decide_false, decide_true, condK_t, condK_f]
      by_cases hs : a.root.sign = 1
      · simp only [hs, decide_true, condK_t]
        refine (ref10_end_ok 1 b.flat .no (by omega)).run (ret1_of H (Heap.le_refl _) ⟨by simp [firstT, h11, hs, endT, Tr.flat], rfl⟩)
      · simp only [decide_eq_false hs, condK_f]
        refine (ref10_node_ok 2 0).run ?_
        have e2 : bsl 3 (.agg [I 0, S emp, I 0]) 1 [(0, nd ⟨2, emp, 0⟩)] = some (rowA [⟨2, emp, 0⟩] .exact) := rfl
        rw [e2, pureK_some]
        refine (ref10_end_ok a.root.sign [⟨2, emp, 0⟩] .exact (by simp)).run (ret1_of H (Heap.le_refl _) ⟨by simp [firstT, h11, hs, endT, Tr.flat], rfl⟩)
    · simp only [decide_eq_false h12, condK_f]
      by_cases h5 : k = 5
      · simp only [h5, Int.reduceEq, decide_false, decide_true, condK_t, condK_f]
        by_cases hs : a.root.sign = 1
        · simp only [hs, decide_true, condK_t]
          exact hT.run (ret1_of H (Heap.le_refl _) ⟨by simp [firstT, h11, hs], rfl⟩)
        · simp only [decide_eq_false hs, condK_f]
          exact ret1_of H (Heap.le_refl _) ⟨by simp [firstT, h11, hs], rfl⟩
      · simp only [decide_eq_false h5, condK_f]
        by_cases h8 : k = 8
        · simp only [h8, Int.reduceEq, decide_false, decide_true, condK_t, condK_f]
          by_cases hs : a.root.sign = 2
          · simp only [hs, decide_true, condK_t]
            exact hT.run (ret1_of H (Heap.le_refl _) ⟨by simp [firstT, h11, hs], rfl⟩)
          · simp only [decide_eq_false hs, condK_f]
            exact ret1_of H (Heap.le_refl _) ⟨by simp [firstT, h11, hs], rfl⟩
        · simp only [decide_eq_false h8, condK_f]
          exact ret1_of H (Heap.le_refl _) ⟨by simp [firstT, h11, h12, h5, h8], rfl⟩
  · simp only [decide_eq_false h11, condK_f]
    by_cases h14 : a.root.kind = 14
    · have hs := sub_len ha h14
      simp only [h14, Int.reduceEq, decide_false, decide_true, condK_t, condK_f, sll_sub ha h14, pureK_some]
      by_cases h13 : k = 13
      · simp only [h13, Int.reduceEq, decide_false, decide_true, condK_t, condK_f]
        refine ⟨_, (ref10_node_ok 5 0).reads, _, (ref03_Two_ok ⟨5, emp, 0⟩ a.sub.flat b.flat .no .no (by omega)).reads, ?_⟩
        refine (ref10_end_ok a.root.sign _ .no (by simp; omega)).run ?_
        exact ret1_of H (Heap.le_refl _) ⟨by simp [firstT, h14, endT, Tr.flat], rfl⟩
      · simp only [decide_eq_false h13, condK_f]
        by_cases h1 : a.root.sign = 1
        · simp only [h1, decide_true, condK_t]
          refine ⟨_, hT.reads, ?_⟩
          refine (first13_ok (settleT b) a.sub okT (by omega)).run ?_
          exact ret1_of H (Heap.le_refl _) ⟨by simp [firstT, h14, h13, h1], rfl⟩
        · simp only [decide_eq_false h1, condK_f]
          exact ret1_of H (Heap.le_refl _) ⟨by simp [firstT, h14, h13, h1], rfl⟩
    · simp only [decide_eq_false h14, condK_f]
      exact node_two k a.flat b.flat (by omega) (by simp [firstT, h11, h14, Tr.flat])

theorem ref10_par_ok (a b : Tr) (ha : a.ok) (hb : b.ok) (hl : a.flat.length + b.flat.length ≤ 900000) : Pur ref10_par [rowA a.flat .no, rowA b.flat .no] (rowA (parT ⟨7, emp, 0⟩ a b).flat .no) := by
  intro H
  refine ref10_par_of ?_
  unfold W_ref10_par
  simp only [ias_root, pureK_some, fa_cp, ld_cp, cutE_one, Nat.zero_add, get0, get2]
  refine (ref01_Both_ok _ _).run ?_
  simp only [bop_eql, pureK_some]
  have two : ¬ (a.root.kind = 11 ∧ b.root.kind = 11) → ¬ (a.root.kind = 14 ∧ b.root.kind = 14) → rowA (⟨7, emp, 0⟩ :: (a.flat ++ b.flat)) .no = rowA (parT ⟨7, emp, 0⟩ a b).flat .no := fun h1 h2 => by simp only [parT, if_neg h1, if_neg h2, Tr.flat]
  have both : a.root.kind = 14 → b.root.kind = 14 → pureK (sll 3 (rowA a.flat .no) (some (I 1)) none none) fun x28 => pureK (sll 3 (rowA b.flat .no) (some (I 1)) none none) fun x29 =>
      ∃ x30, AReads PP gΓ ref03_Two [nd ⟨7, emp, 0⟩, x28, x29] H x30 ∧ ACalls PP gΓ ref10_end [I (sBothSign a.root.sign b.root.sign), x30] H fun x31 H32 => ret1 H32 (fun r H' => r = rowA (parT ⟨7, emp, 0⟩ a b).flat .no ∧ H' = H) x31 := by
    intro h1 h2
    have l1 := sub_len ha h1
    have l2 := sub_len hb h2
    rw [sll_sub ha h1, sll_sub hb h2]
    simp only [pureK_some]
    refine ⟨_, (ref03_Two_ok ⟨7, emp, 0⟩ a.sub.flat b.sub.flat .no .no (by omega)).reads, ?_⟩
    refine (ref10_end_ok _ _ .no (by simp; omega)).run (ret1_of H (Heap.le_refl _) ⟨?_, rfl⟩)
    have h3 : ¬ (a.root.kind = 11 ∧ b.root.kind = 11) := by omega
    simp only [parT, if_neg h3, if_pos (And.intro h1 h2), endT, Tr.flat]
  by_cases h1 : a.root.kind = 11
  · simp only [h1, Int.reduceEq, decide_false, decide_true, condK_t, condK_f]
    by_cases h2 : b.root.kind = 11
    · simp only [h2, decide_true, condK_t]
      refine (ref10_over_ok _).run (ret1_of H (Heap.le_refl _) ⟨by simp [parT, h1, h2, overT, Tr.flat], rfl⟩)
    · simp only [decide_eq_false h2, condK_f]
      exact node_two 7 a.flat b.flat hl (two (by omega) (by omega))
  · simp only [decide_eq_false h1, condK_f]
    by_cases h3 : a.root.kind = 14
    · simp only [h3, Int.reduceEq, decide_false, decide_true, condK_t, condK_f]
      by_cases h4 : b.root.kind = 14
      · simp only [h4, decide_true, condK_t]
        exact ⟨_, (ref10_node_ok 7 0).reads, both h3 h4⟩
      · simp only [decide_eq_false h4, condK_f]
        exact node_two 7 a.flat b.flat hl (two (by omega) (by omega))
    · simp only [decide_eq_false h3, condK_f]
      exact node_two 7 a.flat b.flat hl (two (by omega) (by omega))

theorem ref10_block_ok (a : Tr) (ga : Good a) (hl : a.flat.length ≤ 900000) (hT : a.root.kind = 14 → Pur ref10_Tree [rowA a.sub.flat .no] (rowA (settleT a.sub).flat .no)) :
    Pur ref10_block [rowA a.flat .no] (rowA (blockT settleT ⟨9, emp, 0⟩ a).flat .no) := by
  intro H
  refine ref10_block_of ?_
  unfold W_ref10_block
  simp only [ias_root, pureK_some, fa_cp, ld_cp, cutE_one, Nat.zero_add, get0, get2, bop_eql]
  have one : a.root ≠ ⟨14, emp, 1⟩ → a.root ≠ ⟨14, emp, 2⟩ → ACalls PP gΓ ref10_node [I 9, I 0] H fun x H1 => ACalls PP gΓ ref03_One [x, rowA a.flat .no] H1 fun y H2 => ret1 H2 (fun r H' => r = rowA (blockT settleT ⟨9, emp, 0⟩ a).flat .no ∧ H' = H) y := by
    intro h1 h2
    refine (ref10_node_ok 9 0).run ?_
    refine (ref03_One_ok ⟨9, emp, 0⟩ a.flat .no (by omega)).run ?_
    exact ret1_of H (Heap.le_refl _) ⟨by simp [blockT, h1, h2, Tr.flat], rfl⟩
  by_cases h14 : a.root.kind = 14
  · have hr := (ga.endd h14).2.2.2.2.2
    simp only [h14, Int.reduceEq, decide_false, decide_true, condK_t, condK_f]
    by_cases h1 : a.root.sign = 1
    · simp only [h1, decide_true, condK_t]
      have e : a.root = ⟨14, emp, 1⟩ := by rw [hr, h1]
      exact (ref10_over_ok 1).run (ret1_of H (Heap.le_refl _) ⟨by simp [blockT, e, overT, Tr.flat], rfl⟩)
    · simp only [decide_eq_false h1, condK_f]
      by_cases h2 : a.root.sign = 2
      · have e : a.root = ⟨14, emp, 2⟩ := by rw [hr, h2]
        simp only [h2, decide_true, condK_t, sll_sub ga.ok h14, pureK_some]
        exact (hT h14).run (ret1_of H (Heap.le_refl _) ⟨by simp [blockT, e], rfl⟩)
      · simp only [decide_eq_false h2, condK_f]
        exact one (fun e => h1 (by rw [e])) (fun e => h2 (by rw [e]))
  · simp only [decide_eq_false h14, condK_f]
    exact one (fun e => h14 (by rw [e])) (fun e => h14 (by rw [e]))

/-! ### what the document says is what settle tells -/
theorem kind_of11 {A : Tr} (g : Good A) (s : Int) : A.root = ⟨11, emp, s⟩ ↔ A.root.kind = 11 ∧ A.root.sign = s := by
  constructor
  · intro e; rw [e]; exact ⟨rfl, rfl⟩
  · rintro ⟨h1, h2⟩; rw [(g.over h1).2.2.2, h2]

theorem flat_over {A : Tr} (g : Good A) (h : A.root.kind = 11) : A.flat.tail = [] := by
  have := g.ok
  cases A with
  | l0 n => rfl
  | l1 n a => have h1 : arity n.kind = 1 := this.1; have h2 : n.kind = 11 := h; rw [h2] at h1; cases h1
  | l2 n a b => have h1 : arity n.kind = 2 := this.1; have h2 : n.kind = 11 := h; rw [h2] at h1; cases h1

theorem law_first {n : Node} {a b : Tr} (g : Good (.l2 n a b)) (hk : n.kind = 5 ∨ n.kind = 8 ∨ n.kind = 12 ∨ n.kind = 13) : settleT (.l2 n a b) = firstT n.kind (settleT a) b := by
  obtain ⟨gA, sA⟩ := settle_good _ a (Nat.le_refl _) g.kidA
  obtain ⟨gB, sB⟩ := settle_good _ b (Nat.le_refl _) g.kidB
  have hn : n = ⟨n.kind, emp, 0⟩ := right_plain g.rootR (by show n.kind ≠ 1; omega) (by show n.kind ≠ 11; omega) (by show n.kind ≠ 14; omega)
  have hso : sort2 n.kind (sortT a) (sortT b) ≠ 0 := g.so
  have ra := sortT_range a
  have rb := sortT_range b
  rw [settleT_l2 n a b g.kidA.ok g.kidB.ok]
  rcases hk with h | h | h | h
  · -- Seq
    rw [h] at hso hn
    have two : sortT b = 1 ∧ sOn (sortT a) = 3 ∨ sortT b = 2 ∧ sOn (sortT a) = 4 := by
      rcases sort2_5 ra rb hso with ⟨s1, s2, s3⟩ | ⟨s1, s2, s3⟩
      · exact .inl ⟨s1, (sOn_iff3 ra).2 s2⟩
      · exact .inr ⟨s1, (sOn_iff4 ra).2 s2⟩
    simp only [h, Int.reduceEq, if_false, if_true]
    by_cases h11 : (settleT a).root.kind = 11
    · have h14 : (settleT a).root.kind ≠ 14 := by omega
      rw [if_pos h14]
      simp only [behindT, firstT, kind_of11 gA, h11, if_true, true_and, Int.reduceEq, if_false, false_and, or_false]
    · by_cases h14 : (settleT a).root.kind = 14
      · rw [if_neg (by simpa using h14)]
        simp only [firstT, h11, h14, if_true, if_false, Int.reduceEq]
        by_cases h1 : (settleT a).root.sign = 1
        · simp only [h1, ne_eq, not_true_eq_false, if_false, if_true]
          have e4 := (gA.endd h14).1
          have hb2 : sortT b = 2 := by
            rcases two with ⟨_, s2⟩ | ⟨s1, _⟩
            · rw [s2, e4] at sA; exact absurd sA (by decide)
            · exact s1
          have hB11 : (settleT b).root.kind ≠ 11 := fun e => by
            rw [(gB.over e).1, hb2] at sB; exact absurd sB (by decide)
          unfold stackT first13
          rw [if_neg hB11]
          by_cases hB14 : (settleT b).root.kind = 14
          · simp [hB14]
          · simp [hB14]
        · simp [h1]
      · rw [if_pos h14]
        have hne : (settleT a).root ≠ ⟨11, emp, 1⟩ := fun e => h11 (by rw [e])
        simp only [behindT, firstT, h11, h14, if_false, hne]
        rw [hn]
  · -- Hand
    rw [h] at hso hn
    obtain ⟨s1, s2, s3⟩ := sort2_8 ra rb hso
    rw [(sOn_iff3 ra).2 s2] at sA
    simp only [h, if_true]
    by_cases h11 : (settleT a).root.kind = 11
    · simp only [behindT, firstT, kind_of11 gA, h11, if_true, true_and, Int.reduceEq, if_false, false_and, false_or]
    · have h14 : (settleT a).root.kind ≠ 14 := fun e => by rw [(gA.endd e).1] at sA; exact absurd sA (by decide)
      have hne : (settleT a).root ≠ ⟨11, emp, 2⟩ := fun e => h11 (by rw [e])
      simp only [behindT, firstT, h11, h14, if_false, hne]
      rw [hn]
  · -- Going
    rw [h] at hso hn
    obtain ⟨s1, s2, s3⟩ := sort2_12 ra rb hso
    rw [(sOn_iff3 ra).2 s2] at sA
    simp only [h, Int.reduceEq, if_true, if_false]
    by_cases h11 : (settleT a).root.kind = 11
    · have he : ended (settleT a) = true := by simp [ended, flat_over gA h11, h11]
      simp only [he, if_true, firstT, h11]
      by_cases h1 : (settleT a).root.sign = 1 <;> simp [h1]
    · have he : ended (settleT a) = false := by simp [ended, h11]
      have h14 : (settleT a).root.kind ≠ 14 := fun e => by rw [(gA.endd e).1] at sA; exact absurd sA (by decide)
      simp only [he, firstT, h11, h14, if_false]
      rw [hn]; rfl
  · -- Stack
    rw [h] at hso hn
    obtain ⟨s1, s2, s3⟩ := sort2_13 ra rb hso
    rw [(sOn_iff4 ra).2 s2] at sA
    simp only [h, Int.reduceEq, if_true, if_false]
    have h11 : (settleT a).root.kind ≠ 11 := fun e => by rw [(gA.over e).1] at sA; exact absurd sA (by decide)
    unfold stackT
    by_cases h14 : (settleT a).root.kind = 14
    · simp [firstT, h14]
    · simp [firstT, h11, h14]

theorem ref10_Tree_ok : ∀ (N : Nat) (t : Tr), t.len ≤ N → Good t → t.flat.length ≤ 300 → Pur ref10_Tree [rowA t.flat .no] (rowA (settleT t).flat .no) := by
  intro N
  induction N with
  | zero => intro t h; have := len_pos t; omega
  | succ N ih =>
    intro t hN g hl H
    refine ref10_Tree_of ?_
    unfold W_ref10_Tree
    refine (ref03_Kids_ok t g.ok (by omega)).run ?_
    simp only [ias_root, pureK_some, fa_cp, ld_cp, cutE_one, Nat.zero_add, get0, bop_eql]
    cases t with
    | l0 n =>
      simp only [Tr.root]
      rcases kind0 g.ok with h | h | h | h | h <;> simp only [h, Int.reduceEq, decide_false, decide_true, condK_t, condK_f]
      · exact ret1_of H (Heap.le_refl _) ⟨by rw [settleT_l0]; simp [h], rfl⟩
      · exact (ref10_over_ok 1).run (ret1_of H (Heap.le_refl _) ⟨by rw [settleT_l0]; simp [h, overT, Tr.flat], rfl⟩)
      · exact (ref10_over_ok 2).run (ret1_of H (Heap.le_refl _) ⟨by rw [settleT_l0]; simp [h, overT, Tr.flat], rfl⟩)
      · exact ret1_of H (Heap.le_refl _) ⟨by rw [settleT_l0]; simp [h], rfl⟩
      · exact ret1_of H (Heap.le_refl _) ⟨by rw [settleT_l0]; simp [h], rfl⟩
    | l1 n a =>
      have hlen := len_l1 n a
      have hla : a.flat.length ≤ 299 := by have : (Tr.l1 n a).len ≤ 300 := hl; unfold Tr.len at *; omega
      obtain ⟨gA, sA⟩ := settle_good _ a (Nat.le_refl _) g.kid1
      obtain ⟨okA, lenA⟩ := settleT_ok g.kid1.ok
      have hTa := ih a (by omega) g.kid1 (by omega)
      simp only [Tr.root, Tr.kids, kid0, pureK_some, ld_cp, cutE_one, get0]
      rcases kind1 g.ok.1 with h | h <;> simp only [h, Int.reduceEq, decide_false, decide_true, condK_t, condK_f]
      · refine hTa.run ?_
        have hn : n = ⟨9, emp, 0⟩ := by
          have := right_plain g.rootR (by show n.kind ≠ 1; omega) (by show n.kind ≠ 11; omega) (by show n.kind ≠ 14; omega)
          have e : n = ⟨n.kind, emp, 0⟩ := this
          rw [e, h]
        refine (ref10_block_ok (settleT a) gA (by unfold Tr.len at *; omega) (fun h14 => ?_)).run ?_
        · obtain ⟨l1, l2⟩ := sub_of_end gA.ok h14
          exact ih _ (by omega) (gA.endd h14).2.1 (by unfold Tr.len at *; omega)
        · exact ret1_of H (Heap.le_refl _) ⟨by rw [settleT_l1 n a g.kid1.ok, if_pos h, hn], rfl⟩
      · exact ret1_of H (Heap.le_refl _) ⟨by rw [settleT_l1 n a g.kid1.ok]; simp [h], rfl⟩
    | l2 n a b =>
      have hlen := len_l2 n a b
      have pa := len_pos a
      have pb := len_pos b
      have hlab : a.flat.length + b.flat.length ≤ 299 := by have : (Tr.l2 n a b).len ≤ 300 := hl; unfold Tr.len at *; omega
      obtain ⟨okA, lenA⟩ := settleT_ok g.kidA.ok
      obtain ⟨okB, lenB⟩ := settleT_ok g.kidB.ok
      have hTa := ih a (by omega) g.kidA (by omega)
      have hTb := ih b (by omega) g.kidB (by omega)
      have hsum : (settleT a).flat.length + b.flat.length ≤ 1000 := by unfold Tr.len at *; omega
      simp only [Tr.root, Tr.kids, kids0, kids1, pureK_some, ld_cp, cutE_one, get0]
      rcases kind2 g.ok.1 with h | h | h | h | h | h | h <;> simp only [h, Int.reduceEq, decide_false, decide_true, condK_t, condK_f]
      · refine ⟨_, hTa.reads, ?_⟩
        refine (first_ok 5 (by omega) (settleT a) b okA g.kidB.ok hsum hTb).run (ret1_of H (Heap.le_refl _) ⟨by rw [law_first g (by omega), h], rfl⟩)
      · exact ret1_of H (Heap.le_refl _) ⟨by rw [settleT_l2 n a b g.kidA.ok g.kidB.ok]; simp [h], rfl⟩
      · have hn : n = ⟨7, emp, 0⟩ := by
          have := right_plain g.rootR (by show n.kind ≠ 1; omega) (by show n.kind ≠ 11; omega) (by show n.kind ≠ 14; omega)
          have e : n = ⟨n.kind, emp, 0⟩ := this
          rw [e, h]
        refine ⟨_, hTa.reads, ?_⟩
        refine hTb.run ?_
        refine (ref10_par_ok (settleT a) (settleT b) okA okB (by unfold Tr.len at *; omega)).run (ret1_of H (Heap.le_refl _) ⟨?_, rfl⟩)
        rw [settleT_l2 n a b g.kidA.ok g.kidB.ok]
        simp only [h, Int.reduceEq, if_false, if_true]
        rw [hn]
      · refine ⟨_, hTa.reads, ?_⟩
        refine (first_ok 8 (by omega) (settleT a) b okA g.kidB.ok hsum hTb).run (ret1_of H (Heap.le_refl _) ⟨by rw [law_first g (by omega), h], rfl⟩)
      · exact ret1_of H (Heap.le_refl _) ⟨by rw [settleT_l2 n a b g.kidA.ok g.kidB.ok]; simp [h], rfl⟩
      · refine ⟨_, hTa.reads, ?_⟩
        refine (first_ok 12 (by omega) (settleT a) b okA g.kidB.ok hsum hTb).run (ret1_of H (Heap.le_refl _) ⟨by rw [law_first g (by omega), h], rfl⟩)
      · refine ⟨_, hTa.reads, ?_⟩
        refine (first_ok 13 (by omega) (settleT a) b okA g.kidB.ok hsum hTb).run (ret1_of H (Heap.le_refl _) ⟨by rw [law_first g (by omega), h], rfl⟩)

end Go.Av
