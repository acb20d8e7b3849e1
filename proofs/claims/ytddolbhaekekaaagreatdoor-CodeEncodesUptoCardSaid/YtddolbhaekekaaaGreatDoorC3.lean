/- Own text C3 of this claim: see the text that holds the theorem. -/
import Derived.Test.YtddolbhaekekaaaGreatDoorC2
set_option linter.all false
set_option maxRecDepth 100000
namespace Go.Av
open Go Go.Proofs

/-! ### trees -/
inductive Tr where
  | l0 (n : Node)
  | l1 (n : Node) (a : Tr)
  | l2 (n : Node) (a b : Tr)
  deriving DecidableEq

def Tr.flat : Tr → List Node
  | .l0 n => [n]
  | .l1 n a => n :: a.flat
  | .l2 n a b => n :: (a.flat ++ b.flat)
def Tr.ok : Tr → Prop
  | .l0 n => arity n.kind = 0
  | .l1 n a => arity n.kind = 1 ∧ a.ok
  | .l2 n a b => arity n.kind = 2 ∧ a.ok ∧ b.ok
def Tr.root : Tr → Node
  | .l0 n => n
  | .l1 n _ => n
  | .l2 n _ _ => n
def Tr.kids : Tr → List Tr
  | .l0 _ => []
  | .l1 _ a => [a]
  | .l2 _ a b => [a, b]

theorem Tr.flat_pos : ∀ t : Tr, 0 < t.flat.length
  | .l0 _ => by simp [Tr.flat]
  | .l1 _ _ => by simp [Tr.flat]
  | .l2 _ _ _ => by simp [Tr.flat]

theorem Tr.flat_root : ∀ t : Tr, t.flat = t.root :: t.flat.tail
  | .l0 _ => rfl
  | .l1 _ _ => rfl
  | .l2 _ _ _ => rfl

theorem Tr.arity_root {t : Tr} (h : t.ok) : arity t.root.kind = t.kids.length := by
  cases t with
  | l0 n => exact h
  | l1 n a => exact h.1
  | l2 n a b => exact h.1

theorem sizeGo_flat (t : Tr) : t.ok → ∀ (r : List Node) (o k : Int), 1 ≤ o → sizeGo (t.flat ++ r) o k = if o = 1 then k + t.flat.length else sizeGo r (o - 1) (k + t.flat.length) := by
  induction t with
  | l0 n =>
    intro h r o k ho
    have h : arity n.kind = 0 := h
    simp only [Tr.flat, List.cons_append, List.nil_append, sizeGo, h, List.length_cons, List.length_nil]
    by_cases e : o = 1
    · subst e; simp
    · rw [if_neg (by omega), if_neg (by omega), if_neg e]; congr 1
  | l1 n a iha =>
    intro h r o k ho
    obtain ⟨h, ha⟩ := h
    simp only [Tr.flat, List.cons_append, sizeGo, h, List.length_cons]
    rw [if_neg (by omega), if_neg (by omega), iha ha r _ _ (by omega)]
    by_cases e : o = 1
    · subst e; simp; omega
    · rw [if_neg (by omega), if_neg e]; congr 1 <;> omega
  | l2 n a b iha ihb =>
    intro h r o k ho
    obtain ⟨h, ha, hb⟩ := h
    simp only [Tr.flat, List.cons_append, List.append_assoc, sizeGo, h, List.length_cons, List.length_append]
    rw [if_neg (by omega), if_neg (by omega), iha ha _ _ _ (by omega), if_neg (by omega), ihb hb r _ _ (by omega)]
    by_cases e : o = 1
    · subst e; simp; omega
    · rw [if_neg (by omega), if_neg e]; congr 1 <;> omega

theorem size_flat {t : Tr} (h : t.ok) (r : List Node) : size (t.flat ++ r) = t.flat.length := by
  unfold size
  rw [sizeGo_flat t h r 1 0 (by omega), if_pos rfl]; omega

/-- A row that is so many trees. -/
theorem parse_forest : ∀ (l : List Node) (o : Nat) (k : Int), 1 ≤ o → 0 ≤ k → (l ≠ [] ∨ 1 ≤ k) → sizeGo l o k = k + l.length → ∃ ts : List Tr, ts.length = o ∧ (∀ t, t ∈ ts → t.ok) ∧ l = ts.flatMap Tr.flat
  | [], o, k, ho, hk, h0, h => by
    simp only [sizeGo, List.length_nil] at h
    rcases h0 with h0 | h0
    · exact absurd rfl h0
    · omega
  | n :: l, o, k, ho, hk, h0, h => by
    simp only [sizeGo, List.length_cons] at h
    have hr := arity_range n.kind
    split at h
    · omega
    · rename_i h1
      split at h
      · rename_i h2
        have hl : l.length = 0 := by omega
        have hl' : l = [] := List.eq_nil_of_length_eq_zero hl
        subst hl'
        refine ⟨[.l0 n], by simp; omega, ?_, by simp [Tr.flat]⟩
        intro t ht
        simp at ht; subst ht
        show arity n.kind = 0
        omega
      · rename_i h2
        have e : ((o : Int) + (arity n.kind - 1)) = (((o : Int) + (arity n.kind - 1)).toNat : Int) := by omega
        rw [e] at h
        obtain ⟨ts, g1, g2, g3⟩ := parse_forest l ((o : Int) + (arity n.kind - 1)).toNat (k + 1) (by omega) (by omega) (.inr (by omega)) (by rw [h]; omega)
        have hm : arity n.kind = 0 ∨ arity n.kind = 1 ∨ arity n.kind = 2 := by omega
        rcases hm with hm | hm | hm
        · refine ⟨.l0 n :: ts, by simp; omega, ?_, by simp [Tr.flat, g3]⟩
          intro t ht
          rcases List.mem_cons.1 ht with rfl | ht
          · exact hm
          · exact g2 t ht
        · match ts, g1, g2, g3 with
          | [], g1, _, _ => simp at g1; omega
          | a :: ts, g1, g2, g3 =>
            refine ⟨.l1 n a :: ts, by simp at g1 ⊢; omega, ?_, by simp [Tr.flat, g3]⟩
            intro t ht
            rcases List.mem_cons.1 ht with rfl | ht
            · exact ⟨hm, g2 a (by simp)⟩
            · exact g2 t (by simp [ht])
        · match ts, g1, g2, g3 with
          | [], g1, _, _ => simp at g1; omega
          | [_], g1, _, _ => simp at g1; omega
          | a :: b :: ts, g1, g2, g3 =>
            refine ⟨.l2 n a b :: ts, by simp at g1 ⊢; omega, ?_, by simp [Tr.flat, g3]⟩
            intro t ht
            rcases List.mem_cons.1 ht with rfl | ht
            · exact ⟨hm, g2 a (by simp), g2 b (by simp)⟩
            · exact g2 t (by simp [ht])

theorem parse {l : List Node} (h0 : l ≠ []) (h : size l = l.length) : ∃ t : Tr, t.ok ∧ l = t.flat := by
  obtain ⟨ts, h1, h2, h3⟩ := parse_forest l 1 0 (by omega) (by omega) (.inl h0) (by unfold size at h; simpa using h)
  match ts, h1, h2, h3 with
  | [t], _, h2, h3 => exact ⟨t, h2 t (by simp), by simpa using h3⟩

theorem Clone_ok (t : List Node) (p : Perm) (ht : t ≠ []) (hl : t.length ≤ 1000000) : Pur slices_Clone_Node [rowA t p] (rowA t .no) := by
  intro H
  refine slices_Clone_Node_of ?_
  unfold W_slices_Clone_Node
  cases t with
  | nil => exact absurd rfl ht
  | cons x t =>
    have e : bop (.slice true) .eql (rowA (x :: t) p) (.lst 0 [] .exact) = some (B false) := rfl
    rw [e]
    simp
    have e2 : bsl 3 (.agg [I 0, S emp, I 0]) 0 [] = some (.lst 3 [] .exact) := rfl
    rw [e2]
    simp
    left
    unfold appK1
    simp [appended, ret1_pure, maxApp]
    simp at hl
    omega
end Go.Av
