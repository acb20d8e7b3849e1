/- Own text C21 of this claim: see the text that holds the theorem. -/
import Derived.Test.YtddolbhaekekaaaGreatDoorC20
set_option linter.all false
set_option maxRecDepth 100000
namespace Go.Av
open Go Go.Proofs

theorem behindT_congr {r r' : Tr → Tr} {n : Node} {a b : Tr} {s : Int} (h : r b = r' b) : behindT r n a b s = behindT r' n a b s := by
  unfold behindT; rw [h]

theorem settleF_fuel : ∀ (N : Nat) (t : Tr), t.ok → t.len ≤ N → ∀ f g, t.len ≤ f → t.len ≤ g → settleF f t = settleF g t := by
  intro N
  induction N with
  | zero => intro t _ h; have := len_pos t; omega
  | succ N ih =>
    intro t ht hN f g hf hg
    have hp := len_pos t
    obtain ⟨f, rfl⟩ : ∃ k, f = k + 1 := ⟨f - 1, by omega⟩
    obtain ⟨g, rfl⟩ : ∃ k, g = k + 1 := ⟨g - 1, by omega⟩
    cases t with
    | l0 n => rfl
    | l1 n a =>
      rw [len_l1] at hN hf hg
      have e := ih a ht.2 (by omega) f g (by omega) (by omega)
      obtain ⟨h1, h2⟩ := settleF_ok g a ht.2
      unfold settleF
      rw [e]
      split
      · unfold blockT
        split
        · rfl
        · split
          · rename_i e14
            obtain ⟨g1, g2⟩ := sub_of_end h1 (by rw [e14])
            exact ih _ g1 (by omega) f g (by omega) (by omega)
          · rfl
      · rfl
    | l2 n a b =>
      rw [len_l2] at hN hf hg
      obtain ⟨_, ha, hb⟩ := ht
      have ea := ih a ha (by omega) f g (by omega) (by omega)
      have eb := ih b hb (by omega) f g (by omega) (by omega)
      unfold settleF
      rw [ea, eb]
      rw [behindT_congr (r' := settleF g) eb, behindT_congr (r' := settleF g) eb]

/-- What settle tells, for all sizes. -/
def settleT (t : Tr) : Tr := settleF t.len t

theorem settleF_eq {t : Tr} (h : t.ok) {f : Nat} (hf : t.len ≤ f) : settleF f t = settleT t := settleF_fuel f t h hf f t.len hf (Nat.le_refl _)
theorem settleT_ok {t : Tr} (h : t.ok) : (settleT t).ok ∧ (settleT t).len ≤ t.len := settleF_ok _ t h

end Go.Av
