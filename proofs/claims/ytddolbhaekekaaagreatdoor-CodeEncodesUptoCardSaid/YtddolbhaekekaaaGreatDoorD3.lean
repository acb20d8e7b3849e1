/- Own text D3 of this claim: see the text that holds the theorem. -/
import Derived.Test.YtddolbhaekekaaaGreatDoorD2
set_option linter.all false
set_option maxRecDepth 100000
namespace Go.Av
open Go Go.Proofs

def isSort (s x : Int) : Bool := if s = 1 then decide (x = 1) else if s = 2 then decide (x = 2) else if s = 3 then decide (x = 1) || decide (x = 3) else decide (x = 2) || decide (x = 4)
def plainF : Tr → Bool
  | .l0 n => decide (n.kind = 1 ∨ n.kind = 2 ∨ n.kind = 3 ∨ n.kind = 4)
  | .l1 n a => decide (n.kind = 9) && isSort 2 (sortT a)
  | .l2 n a b => decide (n.kind = 5 ∨ n.kind = 6 ∨ n.kind = 7 ∨ n.kind = 8) && (isSort 1 (sortT a) && isSort 1 (sortT b))
def pairedF : Tr → Bool
  | .l0 _ => false
  | .l1 _ _ => false
  | .l2 n a b => if n.kind = 10 then isSort 1 (sortT a) && isSort 1 (sortT b) else if n.kind = 5 ∨ n.kind = 6 ∨ n.kind = 7 then isSort 2 (sortT a) && isSort 2 (sortT b) else false
def plainOnF : Tr → Bool
  | .l0 n => decide (n.kind = 11)
  | .l1 n a => decide (n.kind = 9) && isSort 4 (sortT a)
  | .l2 n a b => if n.kind = 5 ∨ n.kind = 8 then isSort 3 (sortT a) && isSort 1 (sortT b) else if n.kind = 7 then isSort 3 (sortT a) && isSort 3 (sortT b) else false
def pairedOnF : Tr → Bool
  | .l0 _ => false
  | .l1 n a => decide (n.kind = 14) && isSort 1 (sortT a)
  | .l2 n a b => if n.kind = 12 then isSort 3 (sortT a) && isSort 1 (sortT b) else if n.kind = 5 then isSort 4 (sortT a) && isSort 2 (sortT b) else if n.kind = 7 then isSort 4 (sortT a) && isSort 4 (sortT b) else if n.kind = 13 then isSort 4 (sortT a) && isSort 1 (sortT b) else false

/-- What has been shown of ref04.Is. -/
def IsOk (x : Tr) : Prop := ∀ s, Pur ref04_Is [rowA x.flat .no, I s] (B (isSort s (sortT x)))

theorem is_and {a b : Tr} {s1 s2 : Int} {H : Heap} {v : Bool} (ha : IsOk a) (hb : IsOk b) (hv : (isSort s1 (sortT a) && isSort s2 (sortT b)) = v) :
    ACalls PP gΓ ref04_Is [rowA a.flat .no, I s1] H fun x11 H12 => condK x11 (pureK (ias 1 (rowsA ([a, b].map Tr.flat) .no) (I 1)) fun x13 => pureK (ld (some false) 1 H12 x13) fun x14 =>
      ACalls PP gΓ ref04_Is [x14, I s2] H12 fun x15 H16 => ret1 H16 (fun r H' => r = B v ∧ H' = H) x15) (ret1 H12 (fun r H' => r = B v ∧ H' = H) (B false)) := by
  refine (ha s1).run ?_
  cases h : isSort s1 (sortT a) with
  | false =>
    rw [condK_f]
    rw [h, Bool.false_and] at hv
    exact ret1_of H (Heap.le_refl _) ⟨by rw [hv], rfl⟩
  | true =>
    rw [condK_t, kids1]
    simp only [pureK_some, ld_cp, cutE_one, get0]
    rw [h, Bool.true_and] at hv
    refine (hb s2).run ?_
    exact ret1_of H (Heap.le_refl _) ⟨by rw [hv], rfl⟩

theorem is_one {a : Tr} {s1 : Int} {H : Heap} {v : Bool} (ha : IsOk a) (hv : isSort s1 (sortT a) = v) :
    ACalls PP gΓ ref04_Is [rowA a.flat .no, I s1] H fun x15 H16 => ret1 H16 (fun r H' => r = B v ∧ H' = H) x15 := by
  refine (ha s1).run ?_
  exact ret1_of H (Heap.le_refl _) ⟨by rw [hv], rfl⟩

theorem kind0 {n : Node} (h : arity n.kind = 0) : n.kind = 1 ∨ n.kind = 2 ∨ n.kind = 3 ∨ n.kind = 4 ∨ n.kind = 11 := by unfold arity at h; omega
theorem kind1 {n : Node} (h : arity n.kind = 1) : n.kind = 9 ∨ n.kind = 14 := by unfold arity at h; omega
theorem kind2 {n : Node} (h : arity n.kind = 2) : n.kind = 5 ∨ n.kind = 6 ∨ n.kind = 7 ∨ n.kind = 8 ∨ n.kind = 10 ∨ n.kind = 12 ∨ n.kind = 13 := by unfold arity at h; omega

theorem ref04_plain_ok (t : Tr) (ht : t.ok) (ih : ∀ x, x ∈ t.kids → IsOk x) : Pur ref04_plain [rowA t.flat .no, rowsA (t.kids.map Tr.flat) .no] (B (plainF t)) := by
  intro H
  refine ref04_plain_of ?_
  unfold W_ref04_plain
  rw [ias_root]
  cases t with
  | l0 n =>
    simp only [pureK_some, fa_cp, ld_cp, cutE_one, Nat.zero_add, get0, Tr.root]
    rcases kind0 ht with h | h | h | h | h <;> simp only [h, bop_eql, pureK_some, Int.reduceEq, decide_false, decide_true, condK_t, condK_f] <;> exact ret1_of H (Heap.le_refl _) ⟨by simp [plainF, h], rfl⟩
  | l1 n a =>
    have ha := ih a (by simp [Tr.kids])
    simp only [pureK_some, fa_cp, ld_cp, cutE_one, Nat.zero_add, get0, Tr.root, Tr.kids, kid0]
    rcases kind1 ht.1 with h | h <;> simp only [h, bop_eql, pureK_some, Int.reduceEq, decide_false, decide_true, condK_t, condK_f]
    · exact is_one ha (by simp [plainF, h])
    · exact ret1_of H (Heap.le_refl _) ⟨by simp [plainF, h], rfl⟩
  | l2 n a b =>
    have ha := ih a (by simp [Tr.kids])
    have hb := ih b (by simp [Tr.kids])
    simp only [pureK_some, fa_cp, ld_cp, cutE_one, Nat.zero_add, get0, Tr.root, Tr.kids, kids0]
    rcases kind2 ht.1 with h | h | h | h | h | h | h <;> simp only [h, bop_eql, pureK_some, Int.reduceEq, decide_false, decide_true, condK_t, condK_f]
    all_goals first | exact is_and ha hb (by simp [plainF, h]) | exact ret1_of H (Heap.le_refl _) ⟨by simp [plainF, h], rfl⟩

theorem ref04_paired_ok (t : Tr) (ht : t.ok) (ih : ∀ x, x ∈ t.kids → IsOk x) : Pur ref04_paired [rowA t.flat .no, rowsA (t.kids.map Tr.flat) .no] (B (pairedF t)) := by
  intro H
  refine ref04_paired_of ?_
  unfold W_ref04_paired
  rw [ias_root]
  cases t with
  | l0 n =>
    simp only [pureK_some, fa_cp, ld_cp, cutE_one, Nat.zero_add, get0, Tr.root]
    rcases kind0 ht with h | h | h | h | h <;> simp only [h, bop_eql, pureK_some, Int.reduceEq, decide_false, decide_true, condK_t, condK_f] <;> exact ret1_of H (Heap.le_refl _) ⟨by simp [pairedF], rfl⟩
  | l1 n a =>
    simp only [pureK_some, fa_cp, ld_cp, cutE_one, Nat.zero_add, get0, Tr.root, Tr.kids, kid0]
    rcases kind1 ht.1 with h | h <;> simp only [h, bop_eql, pureK_some, Int.reduceEq, decide_false, decide_true, condK_t, condK_f] <;> exact ret1_of H (Heap.le_refl _) ⟨by simp [pairedF], rfl⟩
  | l2 n a b =>
    have ha := ih a (by simp [Tr.kids])
    have hb := ih b (by simp [Tr.kids])
    simp only [pureK_some, fa_cp, ld_cp, cutE_one, Nat.zero_add, get0, Tr.root, Tr.kids, kids0]
    rcases kind2 ht.1 with h | h | h | h | h | h | h <;> simp only [h, bop_eql, pureK_some, Int.reduceEq, decide_false, decide_true, condK_t, condK_f]
    all_goals first | exact is_and ha hb (by simp [pairedF, h]) | exact ret1_of H (Heap.le_refl _) ⟨by simp [pairedF, h], rfl⟩

theorem ref04_plainOn_ok (t : Tr) (ht : t.ok) (ih : ∀ x, x ∈ t.kids → IsOk x) : Pur ref04_plainOn [rowA t.flat .no, rowsA (t.kids.map Tr.flat) .no] (B (plainOnF t)) := by
  intro H
  refine ref04_plainOn_of ?_
  unfold W_ref04_plainOn
  rw [ias_root]
  cases t with
  | l0 n =>
    simp only [pureK_some, fa_cp, ld_cp, cutE_one, Nat.zero_add, get0, Tr.root]
    rcases kind0 ht with h | h | h | h | h <;> simp only [h, bop_eql, pureK_some, Int.reduceEq, decide_false, decide_true, condK_t, condK_f] <;> exact ret1_of H (Heap.le_refl _) ⟨by simp [plainOnF, h], rfl⟩
  | l1 n a =>
    have ha := ih a (by simp [Tr.kids])
    simp only [pureK_some, fa_cp, ld_cp, cutE_one, Nat.zero_add, get0, Tr.root, Tr.kids, kid0]
    rcases kind1 ht.1 with h | h <;> simp only [h, bop_eql, pureK_some, Int.reduceEq, decide_false, decide_true, condK_t, condK_f]
    · exact is_one ha (by simp [plainOnF, h])
    · exact ret1_of H (Heap.le_refl _) ⟨by simp [plainOnF, h], rfl⟩
  | l2 n a b =>
    have ha := ih a (by simp [Tr.kids])
    have hb := ih b (by simp [Tr.kids])
    simp only [pureK_some, fa_cp, ld_cp, cutE_one, Nat.zero_add, get0, Tr.root, Tr.kids, kids0]
    rcases kind2 ht.1 with h | h | h | h | h | h | h <;> simp only [h, bop_eql, pureK_some, Int.reduceEq, decide_false, decide_true, condK_t, condK_f]
    all_goals first | exact is_and ha hb (by simp [plainOnF, h]) | exact ret1_of H (Heap.le_refl _) ⟨by simp [plainOnF, h], rfl⟩

theorem ref04_pairedOn_ok (t : Tr) (ht : t.ok) (ih : ∀ x, x ∈ t.kids → IsOk x) : Pur ref04_pairedOn [rowA t.flat .no, rowsA (t.kids.map Tr.flat) .no] (B (pairedOnF t)) := by
  intro H
  refine ref04_pairedOn_of ?_
  unfold W_ref04_pairedOn
  rw [ias_root]
  cases t with
  | l0 n =>
    simp only [pureK_some, fa_cp, ld_cp, cutE_one, Nat.zero_add, get0, Tr.root]
    rcases kind0 ht with h | h | h | h | h <;> simp only [h, bop_eql, pureK_some, Int.reduceEq, decide_false, decide_true, condK_t, condK_f] <;> exact ret1_of H (Heap.le_refl _) ⟨by simp [pairedOnF], rfl⟩
  | l1 n a =>
    have ha := ih a (by simp [Tr.kids])
    simp only [pureK_some, fa_cp, ld_cp, cutE_one, Nat.zero_add, get0, Tr.root, Tr.kids, kid0]
    rcases kind1 ht.1 with h | h <;> simp only [h, bop_eql, pureK_some, Int.reduceEq, decide_false, decide_true, condK_t, condK_f]
    · exact ret1_of H (Heap.le_refl _) ⟨by simp [pairedOnF, h], rfl⟩
    · exact is_one ha (by simp [pairedOnF, h])
  | l2 n a b =>
    have ha := ih a (by simp [Tr.kids])
    have hb := ih b (by simp [Tr.kids])
    simp only [pureK_some, fa_cp, ld_cp, cutE_one, Nat.zero_add, get0, Tr.root, Tr.kids, kids0]
    rcases kind2 ht.1 with h | h | h | h | h | h | h <;> simp only [h, bop_eql, pureK_some, Int.reduceEq, decide_false, decide_true, condK_t, condK_f]
    all_goals first | exact is_and ha hb (by simp [pairedOnF, h]) | exact ret1_of H (Heap.le_refl _) ⟨by simp [pairedOnF, h], rfl⟩

/-! ### the law: what Is tells is what the sort is -/
theorem five {s : Int} (h : 0 ≤ s ∧ s ≤ 4) : s = 0 ∨ s = 1 ∨ s = 2 ∨ s = 3 ∨ s = 4 := by omega

theorem sort_law (t : Tr) (ht : t.ok) : plainF t = isSort 1 (sortT t) ∧ pairedF t = isSort 2 (sortT t) ∧ (plainF t || plainOnF t) = isSort 3 (sortT t) ∧ (pairedF t || pairedOnF t) = isSort 4 (sortT t) := by
  cases t with
  | l0 n => rcases kind0 ht with h | h | h | h | h <;> simp [plainF, pairedF, plainOnF, pairedOnF, sortT, sort0, isSort, h]
  | l1 n a =>
    have hr := five (sortT_range a)
    rcases kind1 ht.1 with h | h <;> simp only [plainF, pairedF, plainOnF, pairedOnF, sortT, h] <;> rcases hr with e | e | e | e | e <;> rw [e] <;> decide
  | l2 n a b =>
    have hr := five (sortT_range a)
    have hs := five (sortT_range b)
    rcases kind2 ht.1 with h | h | h | h | h | h | h <;> simp only [plainF, pairedF, plainOnF, pairedOnF, sortT, h] <;> rcases hr with e | e | e | e | e <;> rw [e] <;> rcases hs with g | g | g | g | g <;> rw [g] <;> decide

theorem ref04_Is_ok : ∀ (N : Nat) (t : Tr), t.len ≤ N → t.ok → t.flat.length ≤ 1000000 → IsOk t := by
  intro N
  induction N with
  | zero => intro t h; have := len_pos t; omega
  | succ N ih =>
    intro t hN ht hl s H
    have hk : ∀ x, x ∈ t.kids → IsOk x := fun x hx => by
      have : x.len < t.len := by
        cases t with
        | l0 n => simp [Tr.kids] at hx
        | l1 n a => simp [Tr.kids] at hx; subst hx; rw [len_l1]; omega
        | l2 n a b => simp [Tr.kids] at hx; rw [len_l2]; have := len_pos a; have := len_pos b; rcases hx with rfl | rfl <;> omega
      exact ih x (by omega) (Tr.kids_ok ht x hx) (by unfold Tr.len at *; omega)
    obtain ⟨l1, l2, l3, l4⟩ := sort_law t ht
    refine ref04_Is_of ?_
    unfold W_ref04_Is
    refine (ref03_Kids_ok t ht hl).run ?_
    simp only [bop_eql, pureK_some, condK_B, decide_eq_true_eq, decide_eq_false_iff_not]
    refine ⟨fun h => ?_, fun h => ⟨fun h2 => ?_, fun h2 => ⟨fun h3 => ?_, fun h3 => ?_⟩⟩⟩
    · refine (ref04_plain_ok t ht hk).run (ret1_of H (Heap.le_refl _) ⟨?_, rfl⟩)
      rw [l1, h]
    · refine (ref04_paired_ok t ht hk).run (ret1_of H (Heap.le_refl _) ⟨?_, rfl⟩)
      rw [l2, h2]
    · rw [h3, ← l3]
      refine (ref04_plain_ok t ht hk).run ?_
      cases plainF t with
      | true =>
        rw [condK_t]
        exact ret1_of H (Heap.le_refl _) ⟨rfl, rfl⟩
      | false =>
        rw [condK_f]
        exact (ref04_plainOn_ok t ht hk).run (ret1_of H (Heap.le_refl _) ⟨by rw [Bool.false_or], rfl⟩)
    · have e : isSort s (sortT t) = isSort 4 (sortT t) := by simp [isSort, h, h2, h3]
      rw [e, ← l4]
      refine (ref04_paired_ok t ht hk).run ?_
      cases pairedF t with
      | true =>
        rw [condK_t]
        exact ret1_of H (Heap.le_refl _) ⟨rfl, rfl⟩
      | false =>
        rw [condK_f]
        exact (ref04_pairedOn_ok t ht hk).run (ret1_of H (Heap.le_refl _) ⟨by rw [Bool.false_or], rfl⟩)

theorem rowW {l : List Node} {p : Perm} : Weaker (rowA l p) (rowA l .no) := Weaker.lst

theorem ref04_Of_ok (l : List Node) (hl : small l.length) (hn : names l) : Pur ref04_Of [rowA l .no] (I (sortOf l)) := by
  intro H
  refine ref04_Of_of ?_
  unfold W_ref04_Of
  refine (ref03_Whole_ok l .no hl hn).run ?_
  simp only [unE_not, pureK_some]
  cases hw : whole l with
  | false =>
    rw [Bool.not_false, condK_t]
    exact ret1_of H (Heap.le_refl _) ⟨by simp [sortOf, hw], rfl⟩
  | true =>
    rw [Bool.not_true, condK_f]
    obtain ⟨h1, h2⟩ := treeOf_spec hw
    have hlen : l.length ≤ 200 := by
      unfold whole at hw
      simp only [Bool.and_eq_true, decide_eq_true_eq] at hw
      exact hw.1.2
    have hs : sortOf l = sortT (treeOf l) := by simp [sortOf, hw]
    have hr := five (sortT_range (treeOf l))
    have key := ref04_Is_ok (treeOf l).len (treeOf l) (Nat.le_refl _) h1 (by rw [← h2]; omega)
    unfold IsOk at key
    rw [← h2] at key
    rw [hs]
    generalize sortT (treeOf l) = x at hr key
    refine ⟨fun vs H' n => ∃ k : Int, vs = [rowA l .no, I k] ∧ H' = H ∧ n = (5 - k).toNat ∧ 1 ≤ k ∧ k ≤ 5 ∧ ∀ j, 1 ≤ j → j < k → isSort j x = false, ⟨_, H, Heap.le_refl _, 1, rfl, rfl, rfl, by omega, by omega, fun j h1 h2 => by omega⟩, ?_⟩
    rintro vs H' n ⟨k, rfl, rfl, rfl, k1, k5, hno⟩
    simp only [nth_zero, nth_succ, bop_leq, pureK_some, condK_B, decide_eq_true_eq, decide_eq_false_iff_not]
    refine ⟨fun h => ?_, fun h => ?_⟩
    · refine (key k).run ?_
      cases hk : isSort k x with
      | true =>
        rw [condK_t]
        refine ret1_of H' (Heap.le_refl _) ⟨I_eq ?_, rfl⟩
        have hkk : k = 1 ∨ k = 2 ∨ k = 3 ∨ k = 4 := by omega
        have n1 : 1 < k → isSort 1 x = false := fun h => hno 1 (by omega) h
        have n2 : 2 < k → isSort 2 x = false := fun h => hno 2 (by omega) h
        have n3 : 3 < k → isSort 3 x = false := fun h => hno 3 (by omega) h
        rcases hkk with rfl | rfl | rfl | rfl <;> simp [isSort] at hk n1 n2 n3 <;> omega
      | false =>
        rw [condK_f, bop_add (by omega) (by omega)]
        refine ⟨(5 - (k + 1)).toNat, H', by omega, Heap.le_refl _, k + 1, rfl, rfl, rfl, by omega, by omega, fun j h1 h2 => ?_⟩
        by_cases e : j < k
        · exact hno j h1 e
        · have : j = k := by omega
          rw [this]; exact hk
    · have : k = 5 := by omega
      subst this
      refine ret1_of H' (Heap.le_refl _) ⟨I_eq ?_, rfl⟩
      have n1 := hno 1 (by omega) (by omega)
      have n2 := hno 2 (by omega) (by omega)
      have n3 := hno 3 (by omega) (by omega)
      have n4 := hno 4 (by omega) (by omega)
      simp [isSort] at n1 n2 n3 n4
      omega

theorem ref04_On_ok (l : List Node) (p : Perm) (b : Bool) (hl : small l.length) (hn : names l) : Pur ref04_On [rowA l p, B b] (B (sortOn l b)) := by
  refine Pur.args2 (a' := rowA l .no) (b' := B b) rowW (Weaker.refl _) ?_
  intro H
  refine ref04_On_of ?_
  unfold W_ref04_On
  have hr := five (sortOf_range l)
  cases b with
  | true =>
    rw [condK_t]
    refine (ref04_Of_ok l hl hn).run ?_
    simp only [bop_eql, pureK_some, condK_B, decide_eq_true_eq, decide_eq_false_iff_not]
    refine ⟨fun h => ret1_of H (Heap.le_refl _) ⟨B_eq (by simp [sortOn, h, sOn]), rfl⟩, fun h => ?_⟩
    refine (ref04_Of_ok l hl hn).run ?_
    simp only [bop_eql, pureK_some]
    refine ret1_of H (Heap.le_refl _) ⟨B_eq ?_, rfl⟩
    rcases hr with e | e | e | e | e <;> rw [e] at h <;> simp [sortOn, sOn, e] <;> simp at h
  | false =>
    rw [condK_f]
    refine (ref04_Of_ok l hl hn).run ?_
    simp only [bop_eql, pureK_some, condK_B, decide_eq_true_eq, decide_eq_false_iff_not]
    refine ⟨fun h => ret1_of H (Heap.le_refl _) ⟨B_eq (by simp [sortOn, h, sOn]), rfl⟩, fun h => ?_⟩
    refine (ref04_Of_ok l hl hn).run ?_
    simp only [bop_eql, pureK_some]
    refine ret1_of H (Heap.le_refl _) ⟨B_eq ?_, rfl⟩
    rcases hr with e | e | e | e | e <;> rw [e] at h <;> simp [sortOn, sOn, e] <;> simp at h

end Go.Av
