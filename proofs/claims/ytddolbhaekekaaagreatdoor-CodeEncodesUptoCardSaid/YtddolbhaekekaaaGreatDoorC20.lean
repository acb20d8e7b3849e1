/- Own text C20 of this claim: see the text that holds the theorem. -/
import Derived.Test.YtddolbhaekekaaaGreatDoorC19
set_option linter.all false
set_option maxRecDepth 100000
namespace Go.Av
open Go Go.Proofs

theorem flatMap_le {α : Type} (l : List α) (f : α → List UInt8) (k : Nat) (h : ∀ x, x ∈ l → (f x).length ≤ k) : (l.flatMap f).length ≤ k * l.length := by
  induction l with
  | nil => simp
  | cons x l ih =>
    have h1 := h x (by simp)
    have h2 := ih (fun y hy => h y (by simp [hy]))
    simp only [List.flatMap_cons, List.length_append, List.length_cons, Nat.mul_add, Nat.mul_one]
    omega

theorem right_name {n : Node} (h : right n = true) (hk : n.kind = 1) : n.name.size ≤ 8 := by
  unfold right at h
  rw [if_pos hk] at h
  unfold named at h
  simp only [Bool.and_eq_true, decide_eq_true_eq] at h
  exact h.2.1.1.2

theorem nodeB_le {n : Node} (h : right n = true) : (nodeB n).length ≤ 10 := by
  unfold nodeB
  by_cases e : n.kind = 1
  · have := right_name h e
    rw [if_pos e, List.length_cons, nameB_length]; omega
  · rw [if_neg e]
    split <;> simp

theorem rightS_parts {s : St} (h : rightS s = true) : (∀ n, n ∈ s.l → right n = true) ∧ s.l.length ≤ 60 ∧ s.a.length ≤ 60 ∧ (∀ x, x ∈ s.a → x.size ≤ 8) := by
  unfold rightS at h
  simp only [Bool.and_eq_true, decide_eq_true_eq, Bool.not_eq_true'] at h
  obtain ⟨h1, _, h3, h4, h5, h6, h7, h8⟩ := h
  have hw := sortOn_whole h1
  unfold whole at hw
  simp only [Bool.and_eq_true, decide_eq_true_eq, List.all_eq_true] at hw
  refine ⟨hw.2.1, h3, h7, fun x hx => ?_⟩
  have := List.any_eq_false.1 h8 x hx
  have hr : right ⟨1, x, 0⟩ = true := by simpa using this
  exact right_name hr rfl

theorem enc_len {s : St} (h : rightS s = true) : (enc s).length ≤ 5 + 10 * s.l.length + 9 * s.a.length := by
  obtain ⟨h1, _, _, h2⟩ := rightS_parts h
  have e1 := flatMap_le s.l nodeB 10 (fun x hx => nodeB_le (h1 x hx))
  have e2 := flatMap_le s.a nameB 9 (fun x hx => by have := h2 x hx; rw [nameB_length]; omega)
  simp only [enc, List.length_append, List.length_cons, List.length_nil]
  omega

theorem treeOf_flat {t : Tr} (h : t.ok) : treeOf t.flat = t := by
  have hex : ∃ u : Tr, u.ok ∧ t.flat = u.flat := ⟨t, h, rfl⟩
  unfold treeOf
  rw [dif_pos hex]
  have := hex.choose_spec
  have key := flat_inj t _ [] [] h this.1 (by simpa using this.2)
  exact key.1.symm

/-- The state that alive() makes. -/
def aliveNode : Node := ⟨1, { data := #[97, 98] }, 0⟩
def aliveSt : St := ⟨[aliveNode], 0, 1, 1, [{ data := #[99] }]⟩
theorem aliveNode_right : right aliveNode = true := by decide +kernel
theorem alive_name : right ⟨1, { data := #[99] }, 0⟩ = true := by decide +kernel
theorem alive_ok : (Tr.l0 aliveNode).ok := rfl
theorem alive_whole : whole [aliveNode] = true := by decide +kernel
theorem alive_tree : treeOf [aliveNode] = .l0 aliveNode := treeOf_flat alive_ok
theorem alive_sort : sortOf [aliveNode] = 1 := by
  unfold sortOf
  rw [if_pos alive_whole, alive_tree]; rfl
theorem alive_on : sortOn [aliveNode] false = true := by
  unfold sortOn; rw [alive_sort]; rfl
theorem alive_settled : settled [aliveNode] = true := by
  unfold settled settleRow
  rw [alive_on, alive_tree]; decide +kernel
theorem alive_right : rightS aliveSt = true := by
  unfold rightS aliveSt
  simp only [alive_on, alive_settled, List.any_cons, List.any_nil, alive_name]
  decide
theorem alive_enc : enc aliveSt = [1, 1, 2, 97, 98, 0, 1, 1, 1, 1, 99] := by decide +kernel

def zeroSt : St := ⟨[], 0, 0, 0, []⟩
theorem zero_right : rightS zeroSt = false := by
  have : sortOn [] false = false := by
    cases h : sortOn [] false with
    | false => rfl
    | true => have := sortOn_whole h; exact absurd this (by decide +kernel)
  unfold rightS zeroSt
  rw [this]; rfl
theorem alive_ne : aliveSt ≠ zeroSt := by decide +kernel
end Go.Av
