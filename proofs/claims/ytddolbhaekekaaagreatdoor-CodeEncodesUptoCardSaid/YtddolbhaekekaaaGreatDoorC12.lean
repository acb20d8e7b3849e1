/- Own text C12 of this claim: see the text that holds the theorem. -/
import Derived.Test.YtddolbhaekekaaaGreatDoorC11
set_option linter.all false
set_option maxRecDepth 100000
namespace Go.Av
open Go Go.Proofs

def sort2 (k s0 s1 : Int) : Int :=
  if s0 = 0 ∨ s1 = 0 then 0
  else if k = 6 then (if s0 > 2 ∨ s1 > 2 then 0 else sBoth s0 s1)
  else if k = 7 then sBoth s0 s1
  else if k = 5 then max (sBehind s0 s1 1) (sBehind s0 s1 2)
  else if k = 8 then sBehind s0 s1 1
  else if k = 10 then (if s0 = 1 ∧ s1 = 1 then 2 else 0)
  else if k = 12 then (if sOn s0 = 3 ∧ s1 = 1 then 4 else 0)
  else (if sOn s0 = 4 ∧ s1 = 1 then 4 else 0)
def sort1 (k s : Int) : Int :=
  if s = 0 then 0 else if k = 9 then (if sOn s = 4 then s - 1 else 0) else (if s = 1 then 4 else 0)
def sort0 (k : Int) : Int := if k = 11 then 3 else 1
def sortT : Tr → Int
  | .l0 n => sort0 n.kind
  | .l1 n a => sort1 n.kind (sortT a)
  | .l2 n a b => sort2 n.kind (sortT a) (sortT b)

theorem sOn_range {s : Int} (h : 0 ≤ s ∧ s ≤ 4) : 0 ≤ sOn s ∧ sOn s ≤ 4 := by unfold sOn; split <;> omega
theorem sBehind_range {a b t : Int} (h : 0 ≤ a ∧ a ≤ 4) : 0 ≤ sBehind a b t ∧ sBehind a b t ≤ 4 := by unfold sBehind; split <;> omega
theorem sBoth_range {a b : Int} (h : 0 ≤ a ∧ a ≤ 4) (h2 : 0 ≤ b ∧ b ≤ 4) : 0 ≤ sBoth a b ∧ sBoth a b ≤ 4 := by unfold sBoth; split <;> omega
theorem sortT_range (t : Tr) : 0 ≤ sortT t ∧ sortT t ≤ 4 := by
  induction t with
  | l0 n => simp only [sortT, sort0]; split <;> omega
  | l1 n a ih =>
    simp only [sortT, sort1]
    split
    · omega
    · split
      · split <;> omega
      · split <;> omega
  | l2 n a b iha ihb =>
    simp only [sortT, sort2]
    have h1 := sBoth_range iha ihb
    have h2 := sBehind_range (b := sortT b) (t := 1) iha
    have h3 := sBehind_range (b := sortT b) (t := 2) iha
    repeat' split
    all_goals omega

theorem sortT_zero {t : Tr} {x : Tr} (hx : x ∈ t.kids) (h : sortT x = 0) : sortT t = 0 := by
  cases t with
  | l0 n => simp [Tr.kids] at hx
  | l1 n a => simp [Tr.kids] at hx; subst hx; simp [sortT, sort1, h]
  | l2 n a b => simp [Tr.kids] at hx; rcases hx with rfl | rfl <;> simp [sortT, sort2, h]

abbrev intA (l : List Int) (s : Nat) (q : Perm) : AV := .lst s (l.map fun n => I n) q
theorem int0 (a : Int) (l : List Int) (q : Perm) : ias 1 (intA (a :: l) 1 q) (I 0) = some (.cp [I a] 0) := rfl
theorem int1 (a b : Int) (l : List Int) (q : Perm) : ias 1 (intA (a :: b :: l) 1 q) (I 1) = some (.cp [I b] 0) := rfl

theorem sort_sort_ok (t : Tr) : t.ok → t.flat.length ≤ 1000000 → ∀ p, Pur sort_sort [rowA t.flat p] (I (sortT t)) := by
  have step : ∀ t : Tr, t.ok → t.flat.length ≤ 1000000 → (∀ x, x ∈ t.kids → ∀ p, Pur sort_sort [rowA x.flat p] (I (sortT x))) → ∀ p, Pur sort_sort [rowA t.flat p] (I (sortT t)) := by
    intro t ht hl ih p H
    refine sort_sort_of ?_
    unfold W_sort_sort
    refine (row_Kids_ok t p ht hl).run ?_
    simp only [lnl_lst, List.length_map, pureK_some]
    have hk2 := t.kids_le
    refine ⟨fun vs H' n => ∃ (k s : Nat) (q : Perm), k ≤ t.kids.length ∧ vs = [rowA t.flat p, intA ((t.kids.take k).map sortT) s q, rowsA (t.kids.map Tr.flat) .no, I t.kids.length, I k] ∧ n = t.kids.length - k ∧ Bld H H' q (((t.kids.take k).map sortT).map fun n => I n).length ∧ (s = 1 ∨ (((t.kids.take k).map sortT).map (fun n => I n) = [] ∧ q = .exact)) ∧ (∀ x, x ∈ t.kids.take k → sortT x ≠ 0),
      ⟨_, H, Heap.le_refl _, 0, 0, .exact, Nat.zero_le _, rfl, rfl, .inl ⟨rfl, rfl⟩, .inr ⟨rfl, rfl⟩, by simp⟩, ?_⟩
    rintro vs H' n ⟨k, s, q, hk, rfl, rfl, hb, hsq, hnz⟩
    simp only [nth_zero, nth_succ, bop_lss, pureK_some, condK_B, decide_eq_true_eq, decide_eq_false_iff_not]
    refine ⟨fun h => ?_, fun h => ?_⟩
    · have hk' : k < t.kids.length := by omega
      rw [ias_rows (by simpa using hk')]
      have e : (t.kids.map Tr.flat)[k]'(by simpa using hk') = (t.kids[k]).flat := by simp
      rw [e]
      simp only [pureK_some, ld_cp, cutE_one, get0]
      refine (ih _ (List.getElem_mem hk') .no).run ?_
      simp only [bop_eql, pureK_some, condK_B, decide_eq_true_eq, decide_eq_false_iff_not]
      refine ⟨fun h1 => ret1_of H hb.le ⟨by rw [sortT_zero (List.getElem_mem hk') h1], rfl⟩, fun h1 => ?_⟩
      have e3 : ∀ x : AV, bsl 1 (I 0) 1 [(0, I (sortT t.kids[k]))] = some (.lst 1 [I (sortT t.kids[k])] .exact) := fun _ => rfl
      rw [e3 .dead]
      simp only [pureK_some]
      have htk : t.kids.take (k + 1) = t.kids.take k ++ [t.kids[k]] := List.take_succ_eq_append_getElem hk'
      refine appK_bld (H0 := H) (s := 1) (ys := [I (sortT t.kids[k])]) hb hsq rfl (by simp [maxApp]; omega) ?_
      intro q' H2 hb'
      rw [bop_add (by omega) (by omega)]
      simp only [pureK_some]
      refine ⟨t.kids.length - (k + 1), _, by omega, Heap.le_refl _, k + 1, 1, q', by omega, ?_, rfl, ?_, .inl rfl, ?_⟩
      · rw [htk]; simp only [intA, List.map_append, List.map_cons, List.map_nil]; rfl
      · rw [htk]; simpa only [List.map_append, List.map_cons, List.map_nil] using hb'
      · rw [htk]
        intro x hx
        rcases List.mem_append.1 hx with hx | hx
        · exact hnz x hx
        · rw [List.mem_singleton.1 hx]; exact h1
    · have hk' : k = t.kids.length := by omega
      subst hk'
      rw [List.take_length] at hnz hsq hb ⊢
      rw [ias_root]
      simp only [pureK_some, fa_cp, ld_cp, cutE_one, Nat.zero_add, get0, bop_eql, condK_B, decide_eq_true_eq, decide_eq_false_iff_not]
      have hle := hb.le
      clear hb
      cases t with
      | l0 n =>
        have ha : arity n.kind = 0 := ht
        have hk : n.kind = 1 ∨ n.kind = 2 ∨ n.kind = 3 ∨ n.kind = 4 ∨ n.kind = 11 := by unfold arity at ha; omega
        rcases hk with h | h | h | h | h <;> simp [Tr.root, h, sortT, sort0, hle]
      | l1 n a =>
        have ha : arity n.kind = 1 := ht.1
        have hk : n.kind = 9 ∨ n.kind = 14 := by unfold arity at ha; omega
        have hs1 : s = 1 := hsq.elim id fun h => by simp [Tr.kids] at h
        subst hs1
        have hz : sortT a ≠ 0 := hnz a (by simp [Tr.kids])
        have hr := sortT_range a
        simp only [Tr.kids, List.map_cons, List.map_nil]
        have e0 := int0 (sortT a) [] q
        rcases hk with h | h
        · simp [Tr.root, h, e0]
          refine (sort_on_ok _ (by omega)).run ?_
          simp (disch := omega) [bop_sub, hle]
          refine ⟨fun h2 => by simp [sortT, sort1, h, hz, h2], fun h2 => by simp [sortT, sort1, h, hz, h2]⟩
        · simp [Tr.root, h, e0, hle]
          refine ⟨fun h2 => by simp [sortT, sort1, h, h2], fun h2 => by simp [sortT, sort1, h, hz, h2]⟩
      | l2 n a b =>
        have ha : arity n.kind = 2 := ht.1
        have hk : n.kind = 5 ∨ n.kind = 6 ∨ n.kind = 7 ∨ n.kind = 8 ∨ n.kind = 10 ∨ n.kind = 12 ∨ n.kind = 13 := by unfold arity at ha; omega
        have hs1 : s = 1 := hsq.elim id fun h => by simp [Tr.kids] at h
        subst hs1
        have hz : sortT a ≠ 0 := hnz a (by simp [Tr.kids])
        have hz2 : sortT b ≠ 0 := hnz b (by simp [Tr.kids])
        have hr := sortT_range a
        have hr2 := sortT_range b
        simp only [Tr.kids, List.map_cons, List.map_nil]
        have e0 := int0 (sortT a) [sortT b] q
        have e1 := int1 (sortT a) (sortT b) [] q
        have hb1 := sBehind_range (b := sortT b) (t := 1) hr
        have hb2 := sBehind_range (b := sortT b) (t := 2) hr
        rcases hk with h | h | h | h | h | h | h
        · simp [Tr.root, h, e0, e1]
          refine ⟨_, (sort_behind_ok _ _ 1 (by omega) (by omega)).reads, (sort_behind_ok _ _ 2 (by omega) (by omega)).run ?_⟩
          rw [maxE_two]
          simp [hle, sortT, sort2, h, hz, hz2]
        · simp [Tr.root, h, e0, e1, hle]
          refine ⟨fun h2 => by simp [sortT, sort2, h, hz, hz2, h2], fun h2 => ⟨fun h3 => by simp [sortT, sort2, h, hz, hz2, h2, h3], fun h3 => ?_⟩⟩
          refine (sort_both_ok _ _ (by omega) (by omega)).run ?_
          have h2' : ¬ (sortT a > 2 ∨ sortT b > 2) := by omega
          refine ⟨I_eq ?_, hle⟩
          simp only [sortT, sort2, h, hz, hz2, or_self, if_false, if_true, if_neg h2']
        · simp [Tr.root, h, e0, e1]
          refine (sort_both_ok _ _ (by omega) (by omega)).run ?_
          simp [hle, sortT, sort2, h, hz, hz2]
        · simp [Tr.root, h, e0, e1]
          refine (sort_behind_ok _ _ 1 (by omega) (by omega)).run ?_
          simp [hle, sortT, sort2, h, hz, hz2]
        · simp [Tr.root, h, e0, e1, hle]
          refine ⟨fun h2 => ⟨fun h3 => by simp [sortT, sort2, h, h2, h3], fun h3 => by simp [sortT, sort2, h, hz2, h2, h3]⟩, fun h2 => by simp [sortT, sort2, h, hz, hz2, h2]⟩
        · simp [Tr.root, h, e0, e1]
          refine (sort_on_ok _ (by omega)).run ?_
          simp [hle, e0, e1]
          refine ⟨fun h2 => ⟨fun h3 => by simp [sortT, sort2, h, hz, h2, h3], fun h3 => by simp [sortT, sort2, h, hz, hz2, h2, h3]⟩, fun h2 => by simp [sortT, sort2, h, hz, hz2, h2]⟩
        · simp [Tr.root, h, e0, e1]
          refine (sort_on_ok _ (by omega)).run ?_
          simp [hle, e0, e1]
          refine ⟨fun h2 => ⟨fun h3 => by simp [sortT, sort2, h, hz, h2, h3], fun h3 => by simp [sortT, sort2, h, hz, hz2, h2, h3]⟩, fun h2 => by simp [sortT, sort2, h, hz, hz2, h2]⟩
  intro ht hl p
  induction t generalizing p with
  | l0 n => exact step _ ht hl (by intro x hx; simp [Tr.kids] at hx) p
  | l1 n a ih =>
    refine step _ ht hl ?_ p
    intro x hx p
    simp [Tr.kids] at hx; subst hx
    exact ih ht.2 (by simp [Tr.flat] at hl; omega) p
  | l2 n a b iha ihb =>
    refine step _ ht hl ?_ p
    intro x hx p
    simp [Tr.flat] at hl
    simp [Tr.kids] at hx
    rcases hx with rfl | rfl
    · exact iha ht.2.1 (by omega) p
    · exact ihb ht.2.2 (by omega) p

/-- The sort of any row. -/
noncomputable def treeOf (l : List Node) : Tr := @dite _ (∃ t : Tr, t.ok ∧ l = t.flat) (Classical.propDecidable _) (fun h => h.choose) (fun _ => .l0 ⟨0, emp, 0⟩)
theorem treeOf_spec {l : List Node} (h : whole l = true) : (treeOf l).ok ∧ l = (treeOf l).flat := by
  unfold whole at h
  simp only [Bool.and_eq_true, decide_eq_true_eq] at h
  have hex : ∃ t : Tr, t.ok ∧ l = t.flat := parse (by intro e; rw [e] at h; simp at h) h.2.2
  unfold treeOf
  rw [dif_pos hex]
  exact hex.choose_spec
noncomputable def sortOf (l : List Node) : Int := if whole l then sortT (treeOf l) else 0
theorem sortOf_range (l : List Node) : 0 ≤ sortOf l ∧ sortOf l ≤ 4 := by
  unfold sortOf; split
  · exact sortT_range _
  · omega

theorem sort_Of_ok (l : List Node) (p : Perm) (hl : small l.length) (hn : names l) : Pur sort_Of [rowA l p] (I (sortOf l)) := by
  intro H
  refine sort_Of_of ?_
  unfold W_sort_Of
  refine (row_Whole_ok l p hl hn).run ?_
  simp only [unE_not, pureK_some, condK_B, ret1_pure]
  refine ⟨fun h => ⟨?_, Heap.le_refl _⟩, fun h => ?_⟩
  · have : whole l = false := by simpa using h
    simp [sortOf, this]
  · have hw : whole l = true := by simpa using h
    obtain ⟨h1, h2⟩ := treeOf_spec hw
    have hlen : l.length ≤ 200 := by
      unfold whole at hw
      simp only [Bool.and_eq_true, decide_eq_true_eq] at hw
      exact hw.1.2
    have key := sort_sort_ok (treeOf l) h1 (by rw [← h2]; omega) p
    rw [← h2] at key
    refine key.run ⟨?_, Heap.le_refl _⟩
    simp [sortOf, hw]

noncomputable def sortOn (l : List Node) (paired : Bool) : Bool := decide (sOn (sortOf l) = if paired then 4 else 3)
theorem sort_On_ok (l : List Node) (p : Perm) (b : Bool) (hl : small l.length) (hn : names l) : Pur sort_On [rowA l p, B b] (B (sortOn l b)) := by
  intro H
  refine sort_On_of ?_
  unfold W_sort_On
  have hr := sortOf_range l
  simp only [condK_B]
  refine ⟨fun h => ?_, fun h => ?_⟩
  · refine (sort_Of_ok l p hl hn).run ((sort_on_ok _ (by omega)).run ?_)
    simp [sortOn, h]
  · refine (sort_Of_ok l p hl hn).run ((sort_on_ok _ (by omega)).run ?_)
    simp [sortOn, h]
end Go.Av
