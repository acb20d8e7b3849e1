/- Own text C18 of this claim: see the text that holds the theorem. -/
import Derived.Test.YtddolbhaekekaaaGreatDoorC17
set_option linter.all false
set_option maxRecDepth 100000
namespace Go.Av
open Go Go.Proofs

def Tr.len (t : Tr) : Nat := t.flat.length
theorem len_l0 (n : Node) : (Tr.l0 n).len = 1 := rfl
theorem len_l1 (n : Node) (a : Tr) : (Tr.l1 n a).len = 1 + a.len := by simp [Tr.len, Tr.flat]; omega
theorem len_l2 (n : Node) (a b : Tr) : (Tr.l2 n a b).len = 1 + a.len + b.len := by simp [Tr.len, Tr.flat]; omega
theorem len_pos (t : Tr) : 1 ≤ t.len := t.flat_pos

theorem sub_of_end {t : Tr} (h : t.ok) (hk : t.root.kind = 14) : t.sub.ok ∧ t.len = 1 + t.sub.len := by
  obtain ⟨h1, h2, h3⟩ := t.end_flat h hk
  refine ⟨h2, ?_⟩
  have := congrArg List.length h1
  simp only [List.length_cons] at this
  unfold Tr.len; omega

theorem overT_ok (s : Int) : (overT s).ok := by show arity 11 = 0; rfl
theorem endT_ok (s : Int) {c : Tr} (h : c.ok) : (endT s c).ok := ⟨rfl, h⟩
theorem stackT_ok {a c : Tr} (ha : a.ok) (hc : c.ok) : (stackT a c).ok ∧ (stackT a c).len ≤ 1 + a.len + c.len := by
  unfold stackT
  split
  · exact ⟨⟨rfl, ha, hc⟩, by rw [len_l2]; omega⟩
  · rename_i h
    have hk : a.root.kind = 14 := by simpa using h
    obtain ⟨h1, h2⟩ := sub_of_end ha hk
    refine ⟨endT_ok _ ⟨rfl, h1, hc⟩, ?_⟩
    unfold endT; rw [len_l1, len_l2]; omega
theorem parT_ok {n : Node} {a b : Tr} (hn : arity n.kind = 2) (ha : a.ok) (hb : b.ok) : (parT n a b).ok ∧ (parT n a b).len ≤ 1 + a.len + b.len := by
  have h1 := len_pos a
  have h2 := len_pos b
  unfold parT
  split
  · exact ⟨overT_ok _, by unfold overT; rw [len_l0]; omega⟩
  · split
    · rename_i h
      obtain ⟨g1, g2⟩ := sub_of_end ha h.1
      obtain ⟨g3, g4⟩ := sub_of_end hb h.2
      exact ⟨endT_ok _ ⟨hn, g1, g3⟩, by unfold endT; rw [len_l1, len_l2]; omega⟩
    · exact ⟨⟨hn, ha, hb⟩, by rw [len_l2]; omega⟩

theorem settleF_ok : ∀ (f : Nat) (t : Tr), t.ok → (settleF f t).ok ∧ (settleF f t).len ≤ t.len := by
  intro f
  induction f with
  | zero => intro t h; exact ⟨h, Nat.le_refl _⟩
  | succ f ih =>
    intro t h
    have beh : ∀ (n : Node) (a b : Tr) (s : Int), arity n.kind = 2 → a.ok → b.ok → (behindT (settleF f) n a b s).ok ∧ (behindT (settleF f) n a b s).len ≤ 1 + a.len + b.len := by
      intro n a b s hn ha hb
      unfold behindT
      split
      · exact ⟨(ih b hb).1, by have := (ih b hb).2; omega⟩
      · split
        · exact ⟨ha, by omega⟩
        · exact ⟨⟨hn, ha, hb⟩, by rw [len_l2]; omega⟩
    cases t with
    | l0 n =>
      unfold settleF
      split
      · exact ⟨overT_ok _, Nat.le_refl _⟩
      · split
        · exact ⟨overT_ok _, Nat.le_refl _⟩
        · exact ⟨h, Nat.le_refl _⟩
    | l1 n a =>
      obtain ⟨h1, h2⟩ := ih a h.2
      unfold settleF
      rw [len_l1]
      split
      · unfold blockT
        split
        · exact ⟨overT_ok _, by unfold overT; rw [len_l0]; omega⟩
        · split
          · rename_i e
            obtain ⟨g1, g2⟩ := sub_of_end h1 (by rw [e])
            obtain ⟨g3, g4⟩ := ih _ g1
            exact ⟨g3, by omega⟩
          · exact ⟨⟨h.1, h1⟩, by rw [len_l1]; omega⟩
      · exact ⟨h, by rw [len_l1]; omega⟩
    | l2 n a b =>
      obtain ⟨hn, ha, hb⟩ := h
      obtain ⟨a1, a2⟩ := ih a ha
      obtain ⟨b1, b2⟩ := ih b hb
      unfold settleF
      rw [len_l2]
      split
      · have := beh n (settleF f a) b 2 hn a1 hb
        exact ⟨this.1, by omega⟩
      · split
        · split
          · have := beh n (settleF f a) b 1 hn a1 hb
            exact ⟨this.1, by omega⟩
          · split
            · exact ⟨a1, by omega⟩
            · rename_i e _
              obtain ⟨g1, g2⟩ := sub_of_end a1 (by simpa using e)
              have := stackT_ok b1 g1
              exact ⟨this.1, by omega⟩
        · split
          · have := stackT_ok a1 hb
            exact ⟨this.1, by omega⟩
          · split
            · split
              · split
                · exact ⟨endT_ok _ (by show arity 2 = 0; rfl), by unfold endT; rw [len_l1, len_l0]; have := len_pos b; have := len_pos a; omega⟩
                · exact ⟨endT_ok _ hb, by unfold endT; rw [len_l1]; have := len_pos a; omega⟩
              · exact ⟨⟨hn, a1, hb⟩, by rw [len_l2]; omega⟩
            · split
              · have := parT_ok hn a1 b1
                exact ⟨this.1, by omega⟩
              · exact ⟨⟨hn, ha, hb⟩, by rw [len_l2]; omega⟩

/-- A tree is told by its row. -/
theorem flat_inj : ∀ (t u : Tr) (r s : List Node), t.ok → u.ok → t.flat ++ r = u.flat ++ s → t = u ∧ r = s := by
  intro t
  induction t with
  | l0 n =>
    intro u r s ht hu h
    cases u with
    | l0 m => simp [Tr.flat] at h; exact ⟨by rw [h.1], h.2⟩
    | l1 m b =>
      have h1 : arity n.kind = 0 := ht
      have h2 : arity m.kind = 1 := hu.1
      simp [Tr.flat] at h; rw [h.1, h2] at h1; cases h1
    | l2 m b c =>
      have h1 : arity n.kind = 0 := ht
      have h2 : arity m.kind = 2 := hu.1
      simp [Tr.flat] at h; rw [h.1, h2] at h1; cases h1
  | l1 n a iha =>
    intro u r s ht hu h
    have h1 : arity n.kind = 1 := ht.1
    cases u with
    | l0 m =>
      have h2 : arity m.kind = 0 := hu
      simp [Tr.flat] at h; rw [h.1, h2] at h1; cases h1
    | l1 m b =>
      simp [Tr.flat] at h
      obtain ⟨e1, e2⟩ := iha b r s ht.2 hu.2 h.2
      exact ⟨by rw [h.1, e1], e2⟩
    | l2 m b c =>
      have h2 : arity m.kind = 2 := hu.1
      simp [Tr.flat] at h; rw [h.1, h2] at h1; cases h1
  | l2 n a b iha ihb =>
    intro u r s ht hu h
    have h1 : arity n.kind = 2 := ht.1
    cases u with
    | l0 m =>
      have h2 : arity m.kind = 0 := hu
      simp [Tr.flat] at h; rw [h.1, h2] at h1; cases h1
    | l1 m c =>
      have h2 : arity m.kind = 1 := hu.1
      simp [Tr.flat] at h; rw [h.1, h2] at h1; cases h1
    | l2 m c d =>
      simp [Tr.flat] at h
      obtain ⟨e1, e2⟩ := iha c _ _ ht.2.1 hu.2.1 h.2
      obtain ⟨e3, e4⟩ := ihb d r s ht.2.2 hu.2.2 e2
      exact ⟨by rw [h.1, e1, e3], e4⟩
end Go.Av
