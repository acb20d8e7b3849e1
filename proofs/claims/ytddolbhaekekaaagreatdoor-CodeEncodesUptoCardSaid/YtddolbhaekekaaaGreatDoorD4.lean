/- Own text D4 of this claim: see the text that holds the theorem. -/
import Derived.Test.YtddolbhaekekaaaGreatDoorD3
set_option linter.all false
set_option maxRecDepth 100000
namespace Go.Av
open Go Go.Proofs

structure Good (t : Tr) : Prop where
  ok : t.ok
  rt : ∀ n, n ∈ t.flat → right n = true
  so : sortT t ≠ 0

theorem right_sign {n : Node} (h : right n = true) (hk : n.kind = 11 ∨ n.kind = 14) : n.name = emp ∧ 1 ≤ n.sign ∧ n.sign ≤ 3 := by
  unfold right at h
  rw [if_neg (by omega), if_pos hk] at h
  simpa using h
theorem right_plain {n : Node} (h : right n = true) (h1 : n.kind ≠ 1) (h2 : n.kind ≠ 11) (h3 : n.kind ≠ 14) : n = ⟨n.kind, emp, 0⟩ := by
  unfold right at h
  rw [if_neg h1, if_neg (by omega)] at h
  simp at h
  cases n with
  | mk k s g => simp at h ⊢; exact h.1
theorem root_mem (t : Tr) : t.root ∈ t.flat := by rw [t.flat_root]; simp

theorem Good.kid1 {n : Node} {a : Tr} (h : Good (.l1 n a)) : Good a :=
  ⟨h.ok.2, fun m hm => h.rt m (by simp [Tr.flat, hm]), fun e => h.so (sortT_zero (t := .l1 n a) (x := a) (by simp [Tr.kids]) e)⟩
theorem Good.kidA {n : Node} {a b : Tr} (h : Good (.l2 n a b)) : Good a :=
  ⟨h.ok.2.1, fun m hm => h.rt m (by simp [Tr.flat, hm]), fun e => h.so (sortT_zero (t := .l2 n a b) (x := a) (by simp [Tr.kids]) e)⟩
theorem Good.kidB {n : Node} {a b : Tr} (h : Good (.l2 n a b)) : Good b :=
  ⟨h.ok.2.2, fun m hm => h.rt m (by simp [Tr.flat, hm]), fun e => h.so (sortT_zero (t := .l2 n a b) (x := b) (by simp [Tr.kids]) e)⟩
theorem Good.rootR {t : Tr} (h : Good t) : right t.root = true := h.rt _ (root_mem t)

theorem good_l2 {n : Node} {a b : Tr} (hn : right n = true) (hk : arity n.kind = 2) (ha : Good a) (hb : Good b) (hs : sortT (.l2 n a b) ≠ 0) : Good (.l2 n a b) :=
  ⟨⟨hk, ha.ok, hb.ok⟩, fun m hm => by
    simp only [Tr.flat, List.mem_cons, List.mem_append] at hm
    rcases hm with rfl | hm | hm
    · exact hn
    · exact ha.rt m hm
    · exact hb.rt m hm, hs⟩
theorem good_l1 {n : Node} {a : Tr} (hn : right n = true) (hk : arity n.kind = 1) (ha : Good a) (hs : sortT (.l1 n a) ≠ 0) : Good (.l1 n a) :=
  ⟨⟨hk, ha.ok⟩, fun m hm => by
    simp only [Tr.flat, List.mem_cons] at hm
    rcases hm with rfl | hm
    · exact hn
    · exact ha.rt m hm, hs⟩
theorem right_mk {k s : Int} (h : (k = 11 ∨ k = 14) ∧ 1 ≤ s ∧ s ≤ 3) : right ⟨k, emp, s⟩ = true := by
  unfold right
  simp only
  rw [if_neg (by omega), if_pos h.1]
  simp; omega
theorem right_mk0 {k : Int} (h : 0 ≤ arity k) (h1 : k ≠ 1) (h2 : k ≠ 11) (h3 : k ≠ 14) : right ⟨k, emp, 0⟩ = true := by
  unfold right
  simp only
  rw [if_neg h1, if_neg (by omega)]
  simp; exact h

theorem good_over {s : Int} (h : 1 ≤ s ∧ s ≤ 3) : Good (overT s) ∧ sortT (overT s) = 3 :=
  ⟨⟨rfl, fun m hm => by
    simp [overT, Tr.flat] at hm
    rw [hm]; exact right_mk ⟨.inl rfl, h⟩, by show sort0 11 ≠ 0; decide⟩, rfl⟩
theorem good_skip : Good (.l0 ⟨2, emp, 0⟩) ∧ sortT (.l0 ⟨2, emp, 0⟩) = 1 :=
  ⟨⟨rfl, fun m hm => by
    simp [Tr.flat] at hm
    rw [hm]; exact right_mk0 (by decide) (by decide) (by decide) (by decide), by show sort0 2 ≠ 0; decide⟩, rfl⟩
theorem good_end {s : Int} {c : Tr} (h : 1 ≤ s ∧ s ≤ 3) (hc : Good c) (hs : sortT c = 1) : Good (endT s c) ∧ sortT (endT s c) = 4 := by
  have e : sortT (endT s c) = 4 := by
    show sort1 14 (sortT c) = 4
    rw [hs]; decide
  exact ⟨good_l1 (right_mk ⟨.inr rfl, h⟩) rfl hc (by unfold endT at e; rw [e]; decide), e⟩

theorem Good.over {t : Tr} (h : Good t) (hk : t.root.kind = 11) : sortT t = 3 ∧ 1 ≤ t.root.sign ∧ t.root.sign ≤ 3 ∧ t.root = ⟨11, emp, t.root.sign⟩ := by
  have hr := right_sign h.rootR (.inl hk)
  refine ⟨?_, hr.2.1, hr.2.2, ?_⟩
  · cases t with
    | l0 n => have : n.kind = 11 := hk; simp [sortT, sort0, this]
    | l1 n a => have h1 : arity n.kind = 1 := h.ok.1; have h2 : n.kind = 11 := hk; rw [h2] at h1; cases h1
    | l2 n a b => have h1 : arity n.kind = 2 := h.ok.1; have h2 : n.kind = 11 := hk; rw [h2] at h1; cases h1
  · have := hr.1
    generalize t.root = n at this hk ⊢
    cases n with
    | mk k s g => simp at this hk ⊢; exact ⟨hk, this⟩
theorem Good.endd {t : Tr} (h : Good t) (hk : t.root.kind = 14) : sortT t = 4 ∧ Good t.sub ∧ sortT t.sub = 1 ∧ 1 ≤ t.root.sign ∧ t.root.sign ≤ 3 ∧ t.root = ⟨14, emp, t.root.sign⟩ := by
  have hr := right_sign h.rootR (.inr hk)
  have e : t.root = ⟨14, emp, t.root.sign⟩ := by
    have := hr.1
    generalize t.root = n at this hk ⊢
    cases n with
    | mk k s g => simp at this hk ⊢; exact ⟨hk, this⟩
  cases t with
  | l0 n => have h1 : arity n.kind = 0 := h.ok; have h2 : n.kind = 14 := hk; rw [h2] at h1; cases h1
  | l2 n a b => have h1 : arity n.kind = 2 := h.ok.1; have h2 : n.kind = 14 := hk; rw [h2] at h1; cases h1
  | l1 n a =>
    have h2 : n.kind = 14 := hk
    have hs := h.so
    have ha := h.kid1.so
    simp only [sortT, sort1, h2] at hs
    rw [if_neg ha] at hs
    have h1 : sortT a = 1 := by
      simp at hs; exact hs
    refine ⟨?_, h.kid1, h1, hr.2.1, hr.2.2, e⟩
    simp [sortT, sort1, h2, h1]

theorem sOn_four {s : Int} (h : 0 ≤ s ∧ s ≤ 4) (hz : s ≠ 0) : (sOn s = 3 ∧ (s = 1 ∨ s = 3)) ∨ (sOn s = 4 ∧ (s = 2 ∨ s = 4)) := by
  unfold sOn; split <;> omega

theorem sort2_5 {x y : Int} (hx : 0 ≤ x ∧ x ≤ 4) (hy : 0 ≤ y ∧ y ≤ 4) (h : sort2 5 x y ≠ 0) : (y = 1 ∧ (x = 1 ∨ x = 3) ∧ sort2 5 x y = x) ∨ (y = 2 ∧ (x = 2 ∨ x = 4) ∧ sort2 5 x y = x) := by
  rcases five hx with e | e | e | e | e <;> rcases five hy with g | g | g | g | g <;> subst e g <;> revert h <;> decide
theorem sort2_8 {x y : Int} (hx : 0 ≤ x ∧ x ≤ 4) (hy : 0 ≤ y ∧ y ≤ 4) (h : sort2 8 x y ≠ 0) : y = 1 ∧ (x = 1 ∨ x = 3) ∧ sort2 8 x y = x := by
  rcases five hx with e | e | e | e | e <;> rcases five hy with g | g | g | g | g <;> subst e g <;> revert h <;> decide
theorem sort2_12 {x y : Int} (hx : 0 ≤ x ∧ x ≤ 4) (hy : 0 ≤ y ∧ y ≤ 4) (h : sort2 12 x y ≠ 0) : y = 1 ∧ (x = 1 ∨ x = 3) ∧ sort2 12 x y = 4 := by
  rcases five hx with e | e | e | e | e <;> rcases five hy with g | g | g | g | g <;> subst e g <;> revert h <;> decide
theorem sort2_13 {x y : Int} (hx : 0 ≤ x ∧ x ≤ 4) (hy : 0 ≤ y ∧ y ≤ 4) (h : sort2 13 x y ≠ 0) : y = 1 ∧ (x = 2 ∨ x = 4) ∧ sort2 13 x y = 4 := by
  rcases five hx with e | e | e | e | e <;> rcases five hy with g | g | g | g | g <;> subst e g <;> revert h <;> decide
theorem sort2_7 {x y : Int} (hx : 0 ≤ x ∧ x ≤ 4) (hy : 0 ≤ y ∧ y ≤ 4) (h : sort2 7 x y ≠ 0) : sOn x = sOn y ∧ sOn (sort2 7 x y) = sOn x ∧ x ≠ 0 ∧ y ≠ 0 := by
  rcases five hx with e | e | e | e | e <;> rcases five hy with g | g | g | g | g <;> subst e g <;> revert h <;> decide
theorem sort2_7' {x y : Int} (hx : 0 ≤ x ∧ x ≤ 4) (hy : 0 ≤ y ∧ y ≤ 4) (h1 : x ≠ 0) (h2 : y ≠ 0) (h : sOn x = sOn y) : sort2 7 x y ≠ 0 ∧ sOn (sort2 7 x y) = sOn x := by
  rcases five hx with e | e | e | e | e <;> rcases five hy with g | g | g | g | g <;> subst e g <;> revert h1 h2 h <;> decide
theorem sort1_9 {x : Int} (hx : 0 ≤ x ∧ x ≤ 4) (h : sort1 9 x ≠ 0) : (x = 2 ∨ x = 4) ∧ sOn (sort1 9 x) = 3 := by
  rcases five hx with e | e | e | e | e <;> subst e <;> revert h <;> decide
theorem sort1_9' {x : Int} (h : x = 2 ∨ x = 4) : sort1 9 x ≠ 0 ∧ sOn (sort1 9 x) = 3 := by
  rcases h with e | e <;> subst e <;> decide
theorem sOn_iff3 {x : Int} (hx : 0 ≤ x ∧ x ≤ 4) : sOn x = 3 ↔ x = 1 ∨ x = 3 := by
  rcases five hx with e | e | e | e | e <;> subst e <;> decide
theorem sOn_iff4 {x : Int} (hx : 0 ≤ x ∧ x ≤ 4) : sOn x = 4 ↔ x = 2 ∨ x = 4 := by
  rcases five hx with e | e | e | e | e <;> subst e <;> decide

theorem sBoth_sign {a b : Int} (ha : 1 ≤ a ∧ a ≤ 3) (hb : 1 ≤ b ∧ b ≤ 3) : 1 ≤ sBothSign a b ∧ sBothSign a b ≤ 3 := by
  have h1 : sIs a = true := by simp [sIs]; omega
  have h2 : sIs b = true := by simp [sIs]; omega
  simp only [sBothSign, h1, h2]
  simp
  split <;> omega

/-- What comes of a stack. -/
theorem good_stack {a c : Tr} (ha : Good a) (hs : sOn (sortT a) = 4) (hc : Good c) (hs1 : sortT c = 1) : Good (stackT a c) ∧ sOn (sortT (stackT a c)) = 4 := by
  have ha4 := (sOn_iff4 (sortT_range a)).1 hs
  unfold stackT
  split
  · have e : sortT (.l2 ⟨13, emp, 0⟩ a c) = 4 := by
      show sort2 13 (sortT a) (sortT c) = 4
      rw [hs1]; rcases ha4 with e | e <;> rw [e] <;> decide
    exact ⟨good_l2 (right_mk0 (by decide) (by decide) (by decide) (by decide)) rfl ha hc (by rw [e]; decide), by rw [e]; decide⟩
  · rename_i h
    have hk : a.root.kind = 14 := by simpa using h
    obtain ⟨_, g1, g2, g3, g4, _⟩ := ha.endd hk
    have e : sortT (.l2 ⟨5, emp, 0⟩ a.sub c) = 1 := by
      show sort2 5 (sortT a.sub) (sortT c) = 1
      rw [hs1, g2]; decide
    have := good_end ⟨g3, g4⟩ (good_l2 (n := ⟨5, emp, 0⟩) (right_mk0 (by decide) (by decide) (by decide) (by decide)) rfl g1 hc (by rw [e]; decide)) e
    exact ⟨this.1, by rw [this.2]; decide⟩

theorem settle_good : ∀ (N : Nat) (t : Tr), t.len ≤ N → Good t → Good (settleT t) ∧ sOn (sortT (settleT t)) = sOn (sortT t) := by
  intro N
  induction N with
  | zero => intro t h; have := len_pos t; omega
  | succ N ih =>
    intro t hN h
    cases t with
    | l0 n =>
      rw [settleT_l0]
      split
      · rename_i e
        have := good_over (s := 1) (by omega)
        exact ⟨this.1, by rw [this.2]; simp [sortT, sort0, e]; decide⟩
      · split
        · rename_i e
          have := good_over (s := 2) (by omega)
          exact ⟨this.1, by rw [this.2]; simp [sortT, sort0, e]; decide⟩
        · exact ⟨h, rfl⟩
    | l1 n a =>
      have hl := len_l1 n a
      obtain ⟨ga, sa⟩ := ih a (by omega) h.kid1
      obtain ⟨oka, lena⟩ := settleT_ok h.kid1.ok
      rw [settleT_l1 n a h.kid1.ok]
      split
      · rename_i hk
        have hs : sort1 9 (sortT a) ≠ 0 := by have := h.so; simpa [sortT, hk] using this
        obtain ⟨s1, s2⟩ := sort1_9 (sortT_range a) hs
        have e0 : sOn (sortT (.l1 n a)) = 3 := by simp only [sortT, hk]; exact s2
        have hA4 : sOn (sortT (settleT a)) = 4 := by rw [sa]; exact (sOn_iff4 (sortT_range a)).2 s1
        rw [e0]
        unfold blockT
        split
        · have := good_over (s := 1) (by omega)
          exact ⟨this.1, by rw [this.2]; decide⟩
        · split
          · rename_i e14
            obtain ⟨_, g1, g2, _⟩ := ga.endd (by rw [e14])
            obtain ⟨l1, l2⟩ := sub_of_end ga.ok (by rw [e14])
            obtain ⟨g5, g6⟩ := ih _ (by omega) g1
            exact ⟨g5, by rw [g6, g2]; decide⟩
          · have := sort1_9' ((sOn_iff4 (sortT_range _)).1 hA4)
            have e : sortT (.l1 n (settleT a)) = sort1 9 (sortT (settleT a)) := by simp only [sortT, hk]
            exact ⟨good_l1 h.rootR h.ok.1 ga (by rw [e]; exact this.1), by rw [e]; exact this.2⟩
      · exact ⟨h, rfl⟩
    | l2 n a b =>
      have hl := len_l2 n a b
      obtain ⟨ga, sa⟩ := ih a (by omega) h.kidA
      obtain ⟨gb, sb⟩ := ih b (by omega) h.kidB
      have ra := sortT_range a
      have rb := sortT_range b
      have rA := sortT_range (settleT a)
      have rB := sortT_range (settleT b)
      have hso : sort2 n.kind (sortT a) (sortT b) ≠ 0 := h.so
      have e0 : sortT (.l2 n a b) = sort2 n.kind (sortT a) (sortT b) := rfl
      have hn : right n = true := h.rootR
      rw [settleT_l2 n a b h.kidA.ok h.kidB.ok, e0]
      split
      · rename_i hk
        rw [hk] at hso ⊢
        obtain ⟨s1, s2, s3⟩ := sort2_8 ra rb hso
        rw [s3, (sOn_iff3 ra).2 s2]
        rw [(sOn_iff3 ra).2 s2] at sa
        unfold behindT
        split
        · exact ⟨gb, by rw [sb, s1]; decide⟩
        · split
          · exact ⟨ga, sa⟩
          · have e : sortT (.l2 n (settleT a) b) = sort2 8 (sortT (settleT a)) 1 := by simp only [sortT, hk, s1]
            have hA := (sOn_iff3 rA).1 sa
            have e2 : sort2 8 (sortT (settleT a)) 1 = sortT (settleT a) := by rcases hA with e | e <;> rw [e] <;> decide
            exact ⟨good_l2 hn h.ok.1 ga h.kidB (by rw [e, e2]; exact ga.so), by rw [e, e2]; exact sa⟩
      · split
        · rename_i hk
          rw [hk] at hso ⊢
          have two : sort2 5 (sortT a) (sortT b) = sortT a ∧ (sortT b = 1 ∧ sOn (sortT a) = 3 ∨ sortT b = 2 ∧ sOn (sortT a) = 4) := by
            rcases sort2_5 ra rb hso with ⟨s1, s2, s3⟩ | ⟨s1, s2, s3⟩
            · exact ⟨s3, .inl ⟨s1, (sOn_iff3 ra).2 s2⟩⟩
            · exact ⟨s3, .inr ⟨s1, (sOn_iff4 ra).2 s2⟩⟩
          rw [two.1]
          have keep : Good (.l2 n (settleT a) b) ∧ sOn (sortT (.l2 n (settleT a) b)) = sOn (sortT a) := by
            have e : sortT (.l2 n (settleT a) b) = sort2 5 (sortT (settleT a)) (sortT b) := by simp only [sortT, hk]
            have e2 : sort2 5 (sortT (settleT a)) (sortT b) = sortT (settleT a) := by
              rcases two.2 with ⟨s1, s2⟩ | ⟨s1, s2⟩
              · rw [s1]; rw [s2] at sa
                rcases (sOn_iff3 rA).1 sa with e | e <;> rw [e] <;> decide
              · rw [s1]; rw [s2] at sa
                rcases (sOn_iff4 rA).1 sa with e | e <;> rw [e] <;> decide
            exact ⟨good_l2 hn h.ok.1 ga h.kidB (by rw [e, e2]; exact ga.so), by rw [e, e2]; exact sa⟩
          split
          · unfold behindT
            split
            · rename_i e11
              have := (ga.over (by rw [e11])).1
              rcases two.2 with ⟨s1, s2⟩ | ⟨s1, s2⟩
              · exact ⟨gb, by rw [sb, s1, s2]; decide⟩
              · rw [s2, this] at sa; exact absurd sa (by decide)
            · split
              · exact ⟨ga, sa⟩
              · exact keep
          · rename_i h14
            have hk14 : (settleT a).root.kind = 14 := by simpa using h14
            obtain ⟨q1, q2, q3, q4, q5, _⟩ := ga.endd hk14
            split
            · exact ⟨ga, sa⟩
            · rcases two.2 with ⟨s1, s2⟩ | ⟨s1, s2⟩
              · rw [s2, q1] at sa; exact absurd sa (by decide)
              · have := good_stack gb (by rw [sb, s1]; decide) q2 q3
                exact ⟨this.1, by rw [this.2, s2]⟩
        · split
          · rename_i hk
            rw [hk] at hso ⊢
            obtain ⟨s1, s2, s3⟩ := sort2_13 ra rb hso
            rw [(sOn_iff4 ra).2 s2] at sa
            have := good_stack ga sa h.kidB s1
            exact ⟨this.1, by rw [this.2, s3]; decide⟩
          · split
            · rename_i hk
              rw [hk] at hso ⊢
              obtain ⟨s1, s2, s3⟩ := sort2_12 ra rb hso
              rw [(sOn_iff3 ra).2 s2] at sa
              rw [s3]
              split
              · rename_i he
                unfold ended at he
                have hk11 : (settleT a).root.kind = 11 := by simp at he; exact he.2
                obtain ⟨_, q2, q3, _⟩ := ga.over hk11
                split
                · have := good_end ⟨q2, q3⟩ good_skip.1 good_skip.2
                  exact ⟨this.1, by rw [this.2]⟩
                · have := good_end ⟨q2, q3⟩ h.kidB s1
                  exact ⟨this.1, by rw [this.2]⟩
              · have e : sortT (.l2 n (settleT a) b) = sort2 12 (sortT (settleT a)) 1 := by simp only [sortT, hk, s1]
                have hA := (sOn_iff3 rA).1 sa
                have e2 : sort2 12 (sortT (settleT a)) 1 = 4 := by rcases hA with e | e <;> rw [e] <;> decide
                exact ⟨good_l2 hn h.ok.1 ga h.kidB (by rw [e, e2]; decide), by rw [e, e2]⟩
            · split
              · rename_i hk
                rw [hk] at hso ⊢
                obtain ⟨s1, s2, s3, s4⟩ := sort2_7 ra rb hso
                rw [s2]
                have eAB : sOn (sortT (settleT a)) = sOn (sortT (settleT b)) := by rw [sa, sb, s1]
                unfold parT
                split
                · rename_i e
                  obtain ⟨p1, p2, p3, _⟩ := ga.over e.1
                  obtain ⟨_, q2, q3, _⟩ := gb.over e.2
                  have := good_over (sBoth_sign ⟨p2, p3⟩ ⟨q2, q3⟩)
                  rw [p1] at sa
                  exact ⟨this.1, by rw [this.2]; exact sa⟩
                · split
                  · rename_i e
                    obtain ⟨p1, p2, p3, p4, p5, _⟩ := ga.endd e.1
                    obtain ⟨_, q2, q3, q4, q5, _⟩ := gb.endd e.2
                    have e1 : sortT (.l2 n (settleT a).sub (settleT b).sub) = 1 := by
                      simp only [sortT, hk, p3, q3]; decide
                    have := good_end (sBoth_sign ⟨p4, p5⟩ ⟨q4, q5⟩) (good_l2 (n := n) hn h.ok.1 p2 q2 (by rw [e1]; decide)) e1
                    rw [p1] at sa
                    exact ⟨this.1, by rw [this.2]; exact sa⟩
                  · have e1 : sortT (.l2 n (settleT a) (settleT b)) = sort2 7 (sortT (settleT a)) (sortT (settleT b)) := by simp only [sortT, hk]
                    have := sort2_7' rA rB ga.so gb.so eAB
                    exact ⟨good_l2 hn h.ok.1 ga gb (by rw [e1]; exact this.1), by rw [e1, this.2, sa]⟩
              · exact ⟨h, rfl⟩

end Go.Av
