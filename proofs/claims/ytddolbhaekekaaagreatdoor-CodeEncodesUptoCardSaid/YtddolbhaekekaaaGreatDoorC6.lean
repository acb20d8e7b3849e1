/- Own text C6 of this claim: see the text that holds the theorem. -/
import Derived.Test.YtddolbhaekekaaaGreatDoorC5
set_option linter.all false
set_option maxRecDepth 100000
namespace Go.Av
open Go Go.Proofs

theorem row_Make_ok (n : Node) (ls : List (List Node × Perm)) (p : Perm) (hl : ls.length ≤ 1000) (hs : sumLen ls ≤ 1000000) : Pur row_Make [nd n, rowsP ls p] (rowA (n :: ls.flatMap Prod.fst) .no) := by
  intro H
  refine row_Make_of ?_
  unfold W_row_Make
  simp [nd]
  intro o1 ho1
  simp
  have e2 : bsl 3 (.agg [I 0, S emp, I 0]) 1 [(0, .agg [I n.kind, S n.name, I n.sign])] = some (.lst 3 [nd n] .exact) := rfl
  rw [e2]
  simp only [pureK_some]
  refine ⟨_, (Concat_ok ls p hl hs).reads, ?_⟩
  left
  unfold appK1
  have hap : appended 3 (rowA (ls.flatMap Prod.fst) .no) = some ((ls.flatMap Prod.fst).map nd) := by simp [appended]
  simp only [hap]
  refine ⟨.inl trivial, by unfold sumLen at hs; simp only [List.length_map, maxApp, List.length_cons, List.length_nil]; omega, .inl ?_⟩
  simp [nd, ho1]

theorem settle_over_ok (s : Int) : Pur settle_over [I s] (rowA [⟨11, emp, s⟩] .no) := by
  refine Pur.weaken (φ := fun r => r = rowA [⟨11, emp, s⟩] .exact) (fun H => ?_) (fun r h => by subst h; exact Weaker.lst)
  refine settle_over_of ?_
  show ret1 H (fun r H' => r = rowA [⟨11, emp, s⟩] .exact ∧ H' = H) _
  exact ret1_of H (Heap.le_refl _) ⟨rfl, rfl⟩

theorem settle_end_ok (s : Int) (c : List Node) (p : Perm) (hc : c.length ≤ 1000000) : Pur settle_end [I s, rowA c p] (rowA (⟨14, emp, s⟩ :: c) .no) := by
  intro H
  refine settle_end_of ?_
  unfold W_settle_end
  have e1 : bld [(0, 1), (1, 1), (2, 1)] [I 0, S emp, I 0] [(0, I 14), (2, I s)] = some (nd ⟨14, emp, s⟩) := rfl
  have e2 : bsl 1 (.lst 0 [] .exact) 1 [(0, rowA c p)] = some (rowsP [(c, p)] .exact) := rfl
  rw [e1]
  simp only [pureK_some]
  rw [e2]
  simp only [pureK_some]
  refine (row_Make_ok ⟨14, emp, s⟩ [(c, p)] .exact (by simp) (by simpa [sumLen] using hc)).run ?_
  simp

theorem ias_at {l : List Node} {x : Node} {r : List Node} {p : Perm} (h : l = x :: r) : ias 3 (rowA l p) (I 0) = some (.cp [I x.kind, S x.name, I x.sign] 0) := by
  subst h; rfl

theorem settle_Ended_ok (x : Node) (r : List Node) (p : Perm) : Pur settle_Ended [rowA (x :: r) p] (if r = [] ∧ x.kind = 11 then .tup [I x.sign, B true] else .tup [I 0, B false]) := by
  intro H
  refine settle_Ended_of ?_
  unfold W_settle_Ended
  simp only [lnl_lst, pureK_some, List.length_map, bop_neq, condK_B, ret1_pure]
  have hr : r = [] ↔ r.length = 0 := by simp
  refine ⟨fun h => ⟨?_, Heap.le_refl _⟩, fun h => ?_⟩
  · rw [if_neg]; intro h2; rw [h2.1] at h; simp at h
  · have h1 : r = [] := by rw [hr]; simp at h; omega
    rw [ias_at rfl]
    simp only [pureK_some, fa_cp, ld_cp, cutE_one, Nat.zero_add, get0, get2, bop_neq, condK_B, ret1_pure]
    refine ⟨fun h2 => ⟨?_, Heap.le_refl _⟩, fun h2 => ⟨?_, Heap.le_refl _⟩⟩
    · rw [if_neg]; intro h3; rw [h3.2] at h2; simp at h2
    · rw [if_pos]; exact ⟨h1, by simpa using h2⟩

/-! ### settle: the parts -/
def overT (s : Int) : Tr := .l0 ⟨11, emp, s⟩
def endT (s : Int) (c : Tr) : Tr := .l1 ⟨14, emp, s⟩ c
/-- The tree behind an End. -/
def Tr.sub : Tr → Tr
  | .l1 _ a => a
  | t => t
def stackT (a c : Tr) : Tr := if a.root.kind ≠ 14 then .l2 ⟨13, emp, 0⟩ a c else endT a.root.sign (.l2 ⟨5, emp, 0⟩ a.sub c)
def parT (n : Node) (a b : Tr) : Tr :=
  if a.root.kind = 11 ∧ b.root.kind = 11 then overT (sBothSign a.root.sign b.root.sign)
  else if a.root.kind = 14 ∧ b.root.kind = 14 then endT (sBothSign a.root.sign b.root.sign) (.l2 n a.sub b.sub)
  else .l2 n a b

theorem Tr.end_flat {t : Tr} (h : t.ok) (hk : t.root.kind = 14) : t.flat = t.root :: t.sub.flat ∧ t.sub.ok ∧ t = .l1 t.root t.sub := by
  cases t with
  | l0 n =>
    have h1 : arity n.kind = 0 := h
    have : n.kind = 14 := hk
    rw [this] at h1; cases h1
  | l1 n a => exact ⟨rfl, h.2, rfl⟩
  | l2 n a b =>
    have h1 : arity n.kind = 2 := h.1
    have : n.kind = 14 := hk
    rw [this] at h1; cases h1

theorem sll_tail {x : Node} {r : List Node} {p : Perm} : ∃ q, sll 3 (rowA (x :: r) p) (some (I 1)) none none = some (rowA r q) := by
  have := sll_row (l := x :: r) (p := p) (a := 1) (by simp)
  simpa using this

theorem settle_stack_ok (a c : Tr) (p q : Perm) (ha : a.ok) (hl : a.flat.length + c.flat.length ≤ 900000) : Pur settle_stack [rowA a.flat p, rowA c.flat q] (rowA (stackT a c).flat .no) := by
  intro H
  refine settle_stack_of ?_
  unfold W_settle_stack
  rw [ias_root]
  simp only [pureK_some, fa_cp, ld_cp, cutE_one, Nat.zero_add, get0, get2, bop_neq, condK_B]
  refine ⟨fun h => ?_, fun h => ?_⟩
  · have h' : a.root.kind ≠ 14 := by simpa using h
    have e1 : bld [(0, 1), (1, 1), (2, 1)] [I 0, S emp, I 0] [(0, I 13)] = some (nd ⟨13, emp, 0⟩) := rfl
    have e2 : bsl 1 (.lst 0 [] .exact) 2 [(0, rowA a.flat p), (1, rowA c.flat q)] = some (rowsP [(a.flat, p), (c.flat, q)] .exact) := rfl
    rw [e1]; simp only [pureK_some]
    rw [e2]; simp only [pureK_some]
    refine (row_Make_ok ⟨13, emp, 0⟩ [(a.flat, p), (c.flat, q)] .exact (by simp) (by simp [sumLen]; omega)).run ?_
    simp [stackT, h', Tr.flat]
  · have h' : a.root.kind = 14 := by simpa using h
    obtain ⟨hf, hs, _⟩ := a.end_flat ha h'
    have hlen := congrArg List.length hf
    simp only [List.length_cons] at hlen
    have e1 : bld [(0, 1), (1, 1), (2, 1)] [I 0, S emp, I 0] [(0, I 5)] = some (nd ⟨5, emp, 0⟩) := rfl
    rw [e1]; simp only [pureK_some]
    obtain ⟨q1, e3⟩ := sll_tail (x := a.root) (r := a.sub.flat) (p := p)
    rw [hf, e3]; simp only [pureK_some]
    have e2 : bsl 1 (.lst 0 [] .exact) 2 [(0, rowA a.sub.flat q1), (1, rowA c.flat q)] = some (rowsP [(a.sub.flat, q1), (c.flat, q)] .exact) := rfl
    rw [e2]; simp only [pureK_some]
    refine ⟨_, (row_Make_ok ⟨5, emp, 0⟩ [(a.sub.flat, q1), (c.flat, q)] .exact (by simp) (by simp [sumLen]; omega)).reads, ?_⟩
    refine (settle_end_ok a.root.sign _ .no (by simp; omega)).run ?_
    simp [stackT, h', Tr.flat, endT]
end Go.Av
