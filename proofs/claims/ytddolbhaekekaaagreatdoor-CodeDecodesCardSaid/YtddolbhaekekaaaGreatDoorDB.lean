/- Own text DB of this claim: see the text that holds the theorem. -/
import Derived.Test.YtddolbhaekekaaaGreatDoorDA
set_option linter.all false
set_option maxRecDepth 100000
namespace Go.Av
open Go Go.Proofs

structure Good (t : Tr) : Prop where
  ok : t.ok
  rt : ∀ n, n ∈ t.flat → right n = true
  so : sortT t ≠ 0

theorem right_sign {n : Node} (h : right n = true) (hk : n.kind = 11 ∨ n.kind = 14) : n.name = emp ∧ 1 ≤ n.sign ∧ n.sign ≤ 3 := by
  unfold right at h
  rw [if_neg (by omega), if_pos hk] at h
  simpa using h
theorem right_plain {n : Node} (h : right n = true) (h1 : n.kind ≠ 1) (h2 : n.kind ≠ 11) (h3 : n.kind ≠ 14) : n = ⟨n.kind, emp, 0⟩ := by
  unfold right at h
  rw [if_neg h1, if_neg (by omega)] at h
  simp at h
  cases n with
  | mk k s g => simp at h ⊢; exact h.1
theorem root_mem (t : Tr) : t.root ∈ t.flat := by rw [t.flat_root]; simp

theorem Good.kid1 {n : Node} {a : Tr} (h : Good (.l1 n a)) : Good a :=
  ⟨h.ok.2, fun m hm => h.rt m (by simp [Tr.flat, hm]), fun e => h.so (sortT_zero (t := .l1 n a) (x := a) (by simp [Tr.kids]) e)⟩
theorem Good.kidA {n : Node} {a b : Tr} (h : Good (.l2 n a b)) : Good a :=
  ⟨h.ok.2.1, fun m hm => h.rt m (by simp [Tr.flat, hm]), fun e => h.so (sortT_zero (t := .l2 n a b) (x := a) (by simp [Tr.kids]) e)⟩
theorem Good.kidB {n : Node} {a b : Tr} (h : Good (.l2 n a b)) : Good b :=
  ⟨h.ok.2.2, fun m hm => h.rt m (by simp [Tr.flat, hm]), fun e => h.so (sortT_zero (t := .l2 n a b) (x := b) (by simp [Tr.kids]) e)⟩
theorem Good.rootR {t : Tr} (h : Good t) : right t.root = true := h.rt _ (root_mem t)

theorem good_l2 {n : Node} {a b : Tr} (hn : right n = true) (hk : arity n.kind = 2) (ha : Good a) (hb : Good b) (hs : sortT (.l2 n a b) ≠ 0) : Good (.l2 n a b) :=
  ⟨⟨hk, ha.ok, hb.ok⟩, fun m hm => by
    simp only [Tr.flat, List.mem_cons, List.mem_append] at hm
    rcases hm with rfl | hm | hm
    · exact hn
    · exact ha.rt m hm
    · exact hb.rt m hm, hs⟩
theorem good_l1 {n : Node} {a : Tr} (hn : right n = true) (hk : arity n.kind = 1) (ha : Good a) (hs : sortT (.l1 n a) ≠ 0) : Good (.l1 n a) :=
  ⟨⟨hk, ha.ok⟩, fun m hm => by
    simp only [Tr.flat, List.mem_cons] at hm
    rcases hm with rfl | hm
    · exact hn
    · exact ha.rt m hm, hs⟩
theorem right_mk {k s : Int} (h : (k = 11 ∨ k = 14) ∧ 1 ≤ s ∧ s ≤ 3) : right ⟨k, emp, s⟩ = true := by
  unfold right
  simp only
  rw [if_neg (by omega), if_pos h.1]
  simp; omega
theorem right_mk0 {k : Int} (h : 0 ≤ arity k) (h1 : k ≠ 1) (h2 : k ≠ 11) (h3 : k ≠ 14) : right ⟨k, emp, 0⟩ = true := by
  unfold right
  simp only
  rw [if_neg h1, if_neg (by omega)]
  simp; exact h

theorem good_over {s : Int} (h : 1 ≤ s ∧ s ≤ 3) : Good (overT s) ∧ sortT (overT s) = 3 :=
  ⟨⟨rfl, fun m hm => by
    simp [overT, Tr.flat] at hm
    rw [hm]; exact right_mk ⟨.inl rfl, h⟩, by show sort0 11 ≠ 0; decide⟩, rfl⟩
theorem good_skip : Good (.l0 ⟨2, emp, 0⟩) ∧ sortT (.l0 ⟨2, emp, 0⟩) = 1 :=
  ⟨⟨rfl, fun m hm => by
    simp [Tr.flat] at hm
    rw [hm]; exact right_mk0 (by decide) (by decide) (by decide) (by decide), by show sort0 2 ≠ 0; decide⟩, rfl⟩
theorem good_end {s : Int} {c : Tr} (h : 1 ≤ s ∧ s ≤ 3) (hc : Good c) (hs : sortT c = 1) : Good (endT s c) ∧ sortT (endT s c) = 4 := by
  have e : sortT (endT s c) = 4 := by
    show sort1 14 (sortT c) = 4
    rw [hs]; decide
  exact ⟨good_l1 (right_mk ⟨.inr rfl, h⟩) rfl hc (by unfold endT at e; rw [e]; decide), e⟩

theorem Good.over {t : Tr} (h : Good t) (hk : t.root.kind = 11) : sortT t = 3 ∧ 1 ≤ t.root.sign ∧ t.root.sign ≤ 3 ∧ t.root = ⟨11, emp, t.root.sign⟩ := by
  have hr := right_sign h.rootR (.inl hk)
  refine ⟨?_, hr.2.1, hr.2.2, ?_⟩
  · cases t with
    | l0 n => have : n.kind = 11 := hk; simp [sortT, sort0, this]
    | l1 n a => have h1 : arity n.kind = 1 := h.ok.1; have h2 : n.kind = 11 := hk; rw [h2] at h1; cases h1
    | l2 n a b => have h1 : arity n.kind = 2 := h.ok.1; have h2 : n.kind = 11 := hk; rw [h2] at h1; cases h1
  · have := hr.1
    generalize t.root = n at this hk ⊢
    cases n with
    | mk k s g => simp at this hk ⊢; exact ⟨hk, this⟩
theorem Good.endd {t : Tr} (h : Good t) (hk : t.root.kind = 14) : sortT t = 4 ∧ Good t.sub ∧ sortT t.sub = 1 ∧ 1 ≤ t.root.sign ∧ t.root.sign ≤ 3 ∧ t.root = ⟨14, emp, t.root.sign⟩ := by
  have hr := right_sign h.rootR (.inr hk)
  have e : t.root = ⟨14, emp, t.root.sign⟩ := by
    have := hr.1
    generalize t.root = n at this hk ⊢
    cases n with
    | mk k s g => simp at this hk ⊢; exact ⟨hk, this⟩
  cases t with
  | l0 n => have h1 : arity n.kind = 0 := h.ok; have h2 : n.kind = 14 := hk; rw [h2] at h1; cases h1
  | l2 n a b => have h1 : arity n.kind = 2 := h.ok.1; have h2 : n.kind = 14 := hk; rw [h2] at h1; cases h1
  | l1 n a =>
    have h2 : n.kind = 14 := hk
    have hs := h.so
    have ha := h.kid1.so
    simp only [sortT, sort1, h2] at hs
    rw [if_neg ha] at hs
    have h1 : sortT a = 1 := by
      simp at hs; exact hs
    refine ⟨?_, h.kid1, h1, hr.2.1, hr.2.2, e⟩
    simp [sortT, sort1, h2, h1]

theorem sOn_four {s : Int} (h : 0 ≤ s ∧ s ≤ 4) (hz : s ≠ 0) : (sOn s = 3 ∧ (s = 1 ∨ s = 3)) ∨ (sOn s = 4 ∧ (s = 2 ∨ s = 4)) := by
  unfold sOn; split <;> omega

theorem sort2_5 {x y : Int} (hx : 0 ≤ x ∧ x ≤ 4) (hy : 0 ≤ y ∧ y ≤ 4) (h : sort2 5 x y ≠ 0) : (y = 1 ∧ (x = 1 ∨ x = 3) ∧ sort2 5 x y = x) ∨ (y = 2 ∧ (x = 2 ∨ x = 4) ∧ sort2 5 x y = x) := by
  rcases five hx with e | e | e | e | e <;> rcases five hy with g | g | g | g | g <;> subst e g <;> revert h <;> decide
theorem sort2_8 {x y : Int} (hx : 0 ≤ x ∧ x ≤ 4) (hy : 0 ≤ y ∧ y ≤ 4) (h : sort2 8 x y ≠ 0) : y = 1 ∧ (x = 1 ∨ x = 3) ∧ sort2 8 x y = x := by
  rcases five hx with e | e | e | e | e <;> rcases five hy with g | g | g | g | g <;> subst e g <;> revert h <;> decide
theorem sort2_12 {x y : Int} (hx : 0 ≤ x ∧ x ≤ 4) (hy : 0 ≤ y ∧ y ≤ 4) (h : sort2 12 x y ≠ 0) : y = 1 ∧ (x = 1 ∨ x = 3) ∧ sort2 12 x y = 4 := by
  rcases five hx with e | e | e | e | e <;> rcases five hy with g | g | g | g | g <;> subst e g <;> revert h <;> decide
theorem sort2_13 {x y : Int} (hx : 0 ≤ x ∧ x ≤ 4) (hy : 0 ≤ y ∧ y ≤ 4) (h : sort2 13 x y ≠ 0) : y = 1 ∧ (x = 2 ∨ x = 4) ∧ sort2 13 x y = 4 := by
  rcases five hx with e | e | e | e | e <;> rcases five hy with g | g | g | g | g <;> subst e g <;> revert h <;> decide
theorem sort2_7 {x y : Int} (hx : 0 ≤ x ∧ x ≤ 4) (hy : 0 ≤ y ∧ y ≤ 4) (h : sort2 7 x y ≠ 0) : sOn x = sOn y ∧ sOn (sort2 7 x y) = sOn x ∧ x ≠ 0 ∧ y ≠ 0 := by
  rcases five hx with e | e | e | e | e <;> rcases five hy with g | g | g | g | g <;> subst e g <;> revert h <;> decide
theorem sort2_7' {x y : Int} (hx : 0 ≤ x ∧ x ≤ 4) (hy : 0 ≤ y ∧ y ≤ 4) (h1 : x ≠ 0) (h2 : y ≠ 0) (h : sOn x = sOn y) : sort2 7 x y ≠ 0 ∧ sOn (sort2 7 x y) = sOn x := by
  rcases five hx with e | e | e | e | e <;> rcases five hy with g | g | g | g | g <;> subst e g <;> revert h1 h2 h <;> decide
theorem sort1_9 {x : Int} (hx : 0 ≤ x ∧ x ≤ 4) (h : sort1 9 x ≠ 0) : (x = 2 ∨ x = 4) ∧ sOn (sort1 9 x) = 3 := by
  rcases five hx with e | e | e | e | e <;> subst e <;> revert h <;> decide
theorem sort1_9' {x : Int} (h : x = 2 ∨ x = 4) : sort1 9 x ≠ 0 ∧ sOn (sort1 9 x) = 3 := by
  rcases h with e | e <;> subst e <;> decide
theorem sOn_iff3 {x : Int} (hx : 0 ≤ x ∧ x ≤ 4) : sOn x = 3 ↔ x = 1 ∨ x = 3 := by
  rcases five hx with e | e | e | e | e <;> subst e <;> decide
theorem sOn_iff4 {x : Int} (hx : 0 ≤ x ∧ x ≤ 4) : sOn x = 4 ↔ x = 2 ∨ x = 4 := by
  rcases five hx with e | e | e | e | e <;> subst e <;> decide

theorem sBoth_sign {a b : Int} (ha : 1 ≤ a ∧ a ≤ 3) (hb : 1 ≤ b ∧ b ≤ 3) : 1 ≤ sBothSign a b ∧ sBothSign a b ≤ 3 := by
  have h1 : sIs a = true := by simp [sIs]; omega
  have h2 : sIs b = true := by simp [sIs]; omega
  simp only [sBothSign, h1, h2]
  simp
  split <;> omega

/-- What comes of a stack. -/
theorem good_stack {a c : Tr} (ha : Good a) (hs : sOn (sortT a) = 4) (hc : Good c) (hs1 : sortT c = 1) : Good (stackT a c) ∧ sOn (sortT (stackT a c)) = 4 := by
  have ha4 := (sOn_iff4 (sortT_range a)).1 hs
  unfold stackT
  split
  · have e : sortT (.l2 ⟨13, emp, 0⟩ a c) = 4 := by
      show sort2 13 (sortT a) (sortT c) = 4
      rw [hs1]; rcases ha4 with e | e <;> rw [e] <;> decide
    exact ⟨good_l2 (right_mk0 (by decide) (by decide) (by decide) (by decide)) rfl ha hc (by rw [e]; decide), by rw [e]; decide⟩
  · rename_i h
    have hk : a.root.kind = 14 := by simpa using h
    obtain ⟨_, g1, g2, g3, g4, _⟩ := ha.endd hk
    have e : sortT (.l2 ⟨5, emp, 0⟩ a.sub c) = 1 := by
      show sort2 5 (sortT a.sub) (sortT c) = 1
      rw [hs1, g2]; decide
    have := good_end ⟨g3, g4⟩ (good_l2 (n := ⟨5, emp, 0⟩) (right_mk0 (by decide) (by decide) (by decide) (by decide)) rfl g1 hc (by rw [e]; decide)) e
    exact ⟨this.1, by rw [this.2]; decide⟩

theorem settle_good : ∀ (N : Nat) (t : Tr), t.len ≤ N → Good t → Good (settleT t) ∧ sOn (sortT (settleT t)) = sOn (sortT t) := by
  intro N
  induction N with
  | zero => intro t h; have := len_pos t; omega
  | succ N ih =>
    intro t hN h
    cases t with
    | l0 n =>
      rw [settleT_l0]
      split
      · rename_i e
        have := good_over (s := 1) (by omega)
        exact ⟨this.1, by rw [this.2]; simp [sortT, sort0, e]; decide⟩
      · split
        · rename_i e
          have := good_over (s := 2) (by omega)
          exact ⟨this.1, by rw [this.2]; simp [sortT, sort0, e]; decide⟩
        · exact ⟨h, rfl⟩
    | l1 n a =>
      have hl := len_l1 n a
      obtain ⟨ga, sa⟩ := ih a (by omega) h.kid1
      obtain ⟨oka, lena⟩ := settleT_ok h.kid1.ok
      rw [settleT_l1 n a h.kid1.ok]
      split
      · rename_i hk
        have hs : sort1 9 (sortT a) ≠ 0 := by have := h.so; simpa [sortT, hk] using this
        obtain ⟨s1, s2⟩ := sort1_9 (sortT_range a) hs
        have e0 : sOn (sortT (.l1 n a)) = 3 := by simp only [sortT, hk]; exact s2
        have hA4 : sOn (sortT (settleT a)) = 4 := by rw [sa]; exact (sOn_iff4 (sortT_range a)).2 s1
        rw [e0]
        unfold blockT
        split
        · have := good_over (s := 1) (by omega)
          exact ⟨this.1, by rw [this.2]; decide⟩
        · split
          · rename_i e14
            obtain ⟨_, g1, g2, _⟩ := ga.endd (by rw [e14])
            obtain ⟨l1, l2⟩ := sub_of_end ga.ok (by rw [e14])
            obtain ⟨g5, g6⟩ := ih _ (by omega) g1
            exact ⟨g5, by rw [g6, g2]; decide⟩
          · have := sort1_9' ((sOn_iff4 (sortT_range _)).1 hA4)
            have e : sortT (.l1 n (settleT a)) = sort1 9 (sortT (settleT a)) := by simp only [sortT, hk]
            exact ⟨good_l1 h.rootR h.ok.1 ga (by rw [e]; exact this.1), by rw [e]; exact this.2⟩
      · exact ⟨h, rfl⟩
    | l2 n a b =>
      have hl := len_l2 n a b
      obtain ⟨ga, sa⟩ := ih a (by omega) h.kidA
      obtain ⟨gb, sb⟩ := ih b (by omega) h.kidB
      have ra := sortT_range a
      have rb := sortT_range b
      have rA := sortT_range (settleT a)
      have rB := sortT_range (settleT b)
      have hso : sort2 n.kind (sortT a) (sortT b) ≠ 0 := h.so
      have e0 : sortT (.l2 n a b) = sort2 n.kind (sortT a) (sortT b) := rfl
      have hn : right n = true := h.rootR
      rw [settleT_l2 n a b h.kidA.ok h.kidB.ok, e0]
      split
      · rename_i hk
        rw [hk] at hso ⊢
        obtain ⟨s1, s2, s3⟩ := sort2_8 ra rb hso
        rw [s3, (sOn_iff3 ra).2 s2]
        rw [(sOn_iff3 ra).2 s2] at sa
        unfold behindT
        split
        · exact ⟨gb, by rw [sb, s1]; decide⟩
        · split
          · exact ⟨ga, sa⟩
          · have e : sortT (.l2 n (settleT a) b) = sort2 8 (sortT (settleT a)) 1 := by simp only [sortT, hk, s1]
            have hA := (sOn_iff3 rA).1 sa
            have e2 : sort2 8 (sortT (settleT a)) 1 = sortT (settleT a) := by rcases hA with e | e <;> rw [e] <;> decide
            exact ⟨good_l2 hn h.ok.1 ga h.kidB (by rw [e, e2]; exact ga.so), by rw [e, e2]; exact sa⟩
      · split
        · rename_i hk
          rw [hk] at hso ⊢
          have two : sort2 5 (sortT a) (sortT b) = sortT a ∧ (sortT b = 1 ∧ sOn (sortT a) = 3 ∨ sortT b = 2 ∧ sOn (sortT a) = 4) := by
            rcases sort2_5 ra rb hso with ⟨s1, s2, s3⟩ | ⟨s1, s2, s3⟩
            · exact ⟨s3, .inl ⟨s1, (sOn_iff3 ra).2 s2⟩⟩
            · exact ⟨s3, .inr ⟨s1, (sOn_iff4 ra).2 s2⟩⟩
          rw [two.1]
          have keep : Good (.l2 n (settleT a) b) ∧ sOn (sortT (.l2 n (settleT a) b)) = sOn (sortT a) := by
            have e : sortT (.l2 n (settleT a) b) = sort2 5 (sortT (settleT a)) (sortT b) := by simp only [sortT, hk]
            have e2 : sort2 5 (sortT (settleT a)) (sortT b) = sortT (settleT a) := by
              rcases two.2 with ⟨s1, s2⟩ | ⟨s1, s2⟩
              · rw [s1]; rw [s2] at sa
                rcases (sOn_iff3 rA).1 sa with e | e <;> rw [e] <;> decide
              · rw [s1]; rw [s2] at sa
                rcases (sOn_iff4 rA).1 sa with e | e <;> rw [e] <;> decide
            exact ⟨good_l2 hn h.ok.1 ga h.kidB (by rw [e, e2]; exact ga.so), by rw [e, e2]; exact sa⟩
          split
          · unfold behindT
            split
            · rename_i e11
              have := (ga.over (by rw [e11])).1
              rcases two.2 with ⟨s1, s2⟩ | ⟨s1, s2⟩
              · exact ⟨gb, by rw [sb, s1, s2]; decide⟩
              · rw [s2, this] at sa; exact absurd sa (by decide)
            · split
              · exact ⟨ga, sa⟩
              · exact keep
          · rename_i h14
            have hk14 : (settleT a).root.kind = 14 := by simpa using h14
            obtain ⟨q1, q2, q3, q4, q5, _⟩ := ga.endd hk14
            split
            · exact ⟨ga, sa⟩
            · rcases two.2 with ⟨s1, s2⟩ | ⟨s1, s2⟩
              · rw [s2, q1] at sa; exact absurd sa (by decide)
              · have := good_stack gb (by rw [sb, s1]; decide) q2 q3
                exact ⟨this.1, by rw [this.2, s2]⟩
        · split
          · rename_i hk
            rw [hk] at hso ⊢
            obtain ⟨s1, s2, s3⟩ := sort2_13 ra rb hso
            rw [(sOn_iff4 ra).2 s2] at sa
            have := good_stack ga sa h.kidB s1
            exact ⟨this.1, by rw [this.2, s3]; decide⟩
          · split
            · rename_i hk
              rw [hk] at hso ⊢
              obtain ⟨s1, s2, s3⟩ := sort2_12 ra rb hso
              rw [(sOn_iff3 ra).2 s2] at sa
              rw [s3]
              split
              · rename_i he
                unfold ended at he
                have hk11 : (settleT a).root.kind = 11 := by simp at he; exact he.2
                obtain ⟨_, q2, q3, _⟩ := ga.over hk11
                split
                · have := good_end ⟨q2, q3⟩ good_skip.1 good_skip.2
                  exact ⟨this.1, by rw [this.2]⟩
                · have := good_end ⟨q2, q3⟩ h.kidB s1
                  exact ⟨this.1, by rw [this.2]⟩
              · have e : sortT (.l2 n (settleT a) b) = sort2 12 (sortT (settleT a)) 1 := by simp only [sortT, hk, s1]
                have hA := (sOn_iff3 rA).1 sa
                have e2 : sort2 12 (sortT (settleT a)) 1 = 4 := by rcases hA with e | e <;> rw [e] <;> decide
                exact ⟨good_l2 hn h.ok.1 ga h.kidB (by rw [e, e2]; decide), by rw [e, e2]⟩
            · split
              · rename_i hk
                rw [hk] at hso ⊢
                obtain ⟨s1, s2, s3, s4⟩ := sort2_7 ra rb hso
                rw [s2]
                have eAB : sOn (sortT (settleT a)) = sOn (sortT (settleT b)) := by rw [sa, sb, s1]
                unfold parT
                split
                · rename_i e
                  obtain ⟨p1, p2, p3, _⟩ := ga.over e.1
                  obtain ⟨_, q2, q3, _⟩ := gb.over e.2
                  have := good_over (sBoth_sign ⟨p2, p3⟩ ⟨q2, q3⟩)
                  rw [p1] at sa
                  exact ⟨this.1, by rw [this.2]; exact sa⟩
                · split
                  · rename_i e
                    obtain ⟨p1, p2, p3, p4, p5, _⟩ := ga.endd e.1
                    obtain ⟨_, q2, q3, q4, q5, _⟩ := gb.endd e.2
                    have e1 : sortT (.l2 n (settleT a).sub (settleT b).sub) = 1 := by
                      simp only [sortT, hk, p3, q3]; decide
                    have := good_end (sBoth_sign ⟨p4, p5⟩ ⟨q4, q5⟩) (good_l2 (n := n) hn h.ok.1 p2 q2 (by rw [e1]; decide)) e1
                    rw [p1] at sa
                    exact ⟨this.1, by rw [this.2]; exact sa⟩
                  · have e1 : sortT (.l2 n (settleT a) (settleT b)) = sort2 7 (sortT (settleT a)) (sortT (settleT b)) := by simp only [sortT, hk]
                    have := sort2_7' rA rB ga.so gb.so eAB
                    exact ⟨good_l2 hn h.ok.1 ga gb (by rw [e1]; exact this.1), by rw [e1, this.2, sa]⟩
              · exact ⟨h, rfl⟩

end Go.Av
namespace Go.Av
open Go Go.Proofs

def first13 (a c : Tr) : Tr := if a.root.kind = 11 then a else if a.root.kind = 14 then endT a.root.sign (.l2 ⟨5, emp, 0⟩ a.sub c) else .l2 ⟨13, emp, 0⟩ a c
def firstT (k : Int) (a b : Tr) : Tr :=
  if a.root.kind = 11 then (if k = 12 then endT a.root.sign (if a.root.sign = 1 then b else .l0 ⟨2, emp, 0⟩) else if (k = 5 ∧ a.root.sign = 1) ∨ (k = 8 ∧ a.root.sign = 2) then settleT b else a)
  else if a.root.kind = 14 then (if k = 13 then endT a.root.sign (.l2 ⟨5, emp, 0⟩ a.sub b) else if a.root.sign = 1 then first13 (settleT b) a.sub else a)
  else .l2 ⟨k, emp, 0⟩ a b

theorem sll_sub {a : Tr} (ha : a.ok) (hk : a.root.kind = 14) : sll 3 (rowA a.flat .no) (some (I 1)) none none = some (rowA a.sub.flat .no) := by
  rw [(a.end_flat ha hk).1]; exact sll_no1

theorem sub_len {a : Tr} (ha : a.ok) (hk : a.root.kind = 14) : a.flat.length = 1 + a.sub.flat.length := by
  have := congrArg List.length (a.end_flat ha hk).1
  simp only [List.length_cons] at this
  omega

theorem node_two (k : Int) (a b : List Node) (h : a.length + b.length ≤ 900000) {H : Heap} {v : AV} (hv : rowA (⟨k, emp, 0⟩ :: (a ++ b)) .no = v) :
    ACalls PP gΓ ref10_node [I k, I 0] H fun x H1 => ACalls PP gΓ ref03_Two [x, rowA a .no, rowA b .no] H1 fun y H2 => ret1 H2 (fun r H' => r = v ∧ H' = H) y := by
  refine (ref10_node_ok k 0).run ?_
  refine (ref03_Two_ok ⟨k, emp, 0⟩ a b .no .no (by omega)).run ?_
  exact ret1_of H (Heap.le_refl _) ⟨hv, rfl⟩

theorem first13_ok (a c : Tr) (ha : a.ok) (hl : a.flat.length + c.flat.length ≤ 900000) : Pur ref10_first [I 13, rowA a.flat .no, rowA c.flat .no] (rowA (first13 a c).flat .no) := by
  intro H
  refine ref10_first_of ?_
  unfold W_ref10_first
  simp only [ias_root, pureK_some, fa_cp, ld_cp, cutE_one, Nat.zero_add, get0, get2, bop_eql, Int.reduceEq, decide_false, decide_true, condK_t, condK_f]
  by_cases h11 : a.root.kind = 11
  · simp only [h11, Int.reduceEq, decide_false, decide_true, condK_t, condK_f]
    exact ret1_of H (Heap.le_refl _) ⟨by simp [first13, h11], rfl⟩
  · simp only [decide_eq_false h11, condK_f]
    by_cases h14 : a.root.kind = 14
    · have hs := sub_len ha h14
      simp only [h14, Int.reduceEq, decide_false, decide_true, condK_t, condK_f, sll_sub ha h14, pureK_some]
      refine ⟨_, (ref10_node_ok 5 0).reads, _, (ref03_Two_ok ⟨5, emp, 0⟩ a.sub.flat c.flat .no .no (by omega)).reads, ?_⟩
      refine (ref10_end_ok a.root.sign _ .no (by simp; omega)).run ?_
      exact ret1_of H (Heap.le_refl _) ⟨by simp [first13, h14, endT, Tr.flat], rfl⟩
    · simp only [decide_eq_false h14, condK_f]
      exact node_two 13 a.flat c.flat hl (by simp [first13, h11, h14, Tr.flat])

theorem first_ok (k : Int) (hk : k = 5 ∨ k = 8 ∨ k = 12 ∨ k = 13) (a b : Tr) (ha : a.ok) (hb : b.ok) (hl : a.flat.length + b.flat.length ≤ 1000) (hT : Pur ref10_Tree [rowA b.flat .no] (rowA (settleT b).flat .no)) :
    Pur ref10_first [I k, rowA a.flat .no, rowA b.flat .no] (rowA (firstT k a b).flat .no) := by
  intro H
  refine ref10_first_of ?_
  unfold W_ref10_first
  simp only [ias_root, pureK_some, fa_cp, ld_cp, cutE_one, Nat.zero_add, get0, get2, bop_eql]
  obtain ⟨okT, lenT⟩ := settleT_ok hb
  have hTl : (settleT b).flat.length ≤ b.flat.length := lenT
  by_cases h11 : a.root.kind = 11
  · simp only [h11, Int.reduceEq, decide_false, decide_true, condK_t, condK_f]
    by_cases h12 : k = 12
    · simp only [h12, Int.reduceEq, decide_false, decide_true, condK_t, condK_f]
      by_cases hs : a.root.sign = 1
      · simp only [hs, decide_true, condK_t]
        refine (ref10_end_ok 1 b.flat .no (by omega)).run (ret1_of H (Heap.le_refl _) ⟨by simp [firstT, h11, hs, endT, Tr.flat], rfl⟩)
      · simp only [decide_eq_false hs, condK_f]
        refine (ref10_node_ok 2 0).run ?_
        have e2 : bsl 3 (.agg [I 0, S emp, I 0]) 1 [(0, nd ⟨2, emp, 0⟩)] = some (rowA [⟨2, emp, 0⟩] .exact) := rfl
        rw [e2, pureK_some]
        refine (ref10_end_ok a.root.sign [⟨2, emp, 0⟩] .exact (by simp)).run (ret1_of H (Heap.le_refl _) ⟨by simp [firstT, h11, hs, endT, Tr.flat], rfl⟩)
    · simp only [decide_eq_false h12, condK_f]
      by_cases h5 : k = 5
      · simp only [h5, Int.reduceEq, decide_false, decide_true, condK_t, condK_f]
        by_cases hs : a.root.sign = 1
        · simp only [hs, decide_true, condK_t]
          exact hT.run (ret1_of H (Heap.le_refl _) ⟨by simp [firstT, h11, hs], rfl⟩)
        · simp only [decide_eq_false hs, condK_f]
          exact ret1_of H (Heap.le_refl _) ⟨by simp [firstT, h11, hs], rfl⟩
      · simp only [decide_eq_false h5, condK_f]
        by_cases h8 : k = 8
        · simp only [h8, Int.reduceEq, decide_false, decide_true, condK_t, condK_f]
          by_cases hs : a.root.sign = 2
          · simp only [hs, decide_true, condK_t]
            exact hT.run (ret1_of H (Heap.le_refl _) ⟨by simp [firstT, h11, hs], rfl⟩)
          · simp only [decide_eq_false hs, condK_f]
            exact ret1_of H (Heap.le_refl _) ⟨by simp [firstT, h11, hs], rfl⟩
        · simp only [decide_eq_false h8, condK_f]
          exact ret1_of H (Heap.le_refl _) ⟨by simp [firstT, h11, h12, h5, h8], rfl⟩
  · simp only [decide_eq_false h11, condK_f]
    by_cases h14 : a.root.kind = 14
    · have hs := sub_len ha h14
      simp only [h14, Int.reduceEq, decide_false, decide_true, condK_t, condK_f, sll_sub ha h14, pureK_some]
      by_cases h13 : k = 13
      · simp only [h13, Int.reduceEq, decide_false, decide_true, condK_t, condK_f]
        refine ⟨_, (ref10_node_ok 5 0).reads, _, (ref03_Two_ok ⟨5, emp, 0⟩ a.sub.flat b.flat .no .no (by omega)).reads, ?_⟩
        refine (ref10_end_ok a.root.sign _ .no (by simp; omega)).run ?_
        exact ret1_of H (Heap.le_refl _) ⟨by simp [firstT, h14, endT, Tr.flat], rfl⟩
      · simp only [decide_eq_false h13, condK_f]
        by_cases h1 : a.root.sign = 1
        · simp only [h1, decide_true, condK_t]
          refine ⟨_, hT.reads, ?_⟩
          refine (first13_ok (settleT b) a.sub okT (by omega)).run ?_
          exact ret1_of H (Heap.le_refl _) ⟨by simp [firstT, h14, h13, h1], rfl⟩
        · simp only [decide_eq_false h1, condK_f]
          exact ret1_of H (Heap.le_refl _) ⟨by simp [firstT, h14, h13, h1], rfl⟩
    · simp only [decide_eq_false h14, condK_f]
      exact node_two k a.flat b.flat (by omega) (by simp [firstT, h11, h14, Tr.flat])

theorem ref10_par_ok (a b : Tr) (ha : a.ok) (hb : b.ok) (hl : a.flat.length + b.flat.length ≤ 900000) : Pur ref10_par [rowA a.flat .no, rowA b.flat .no] (rowA (parT ⟨7, emp, 0⟩ a b).flat .no) := by
  intro H
  refine ref10_par_of ?_
  unfold W_ref10_par
  simp only [ias_root, pureK_some, fa_cp, ld_cp, cutE_one, Nat.zero_add, get0, get2]
  refine (ref01_Both_ok _ _).run ?_
  simp only [bop_eql, pureK_some]
  have two : ¬ (a.root.kind = 11 ∧ b.root.kind = 11) → ¬ (a.root.kind = 14 ∧ b.root.kind = 14) → rowA (⟨7, emp, 0⟩ :: (a.flat ++ b.flat)) .no = rowA (parT ⟨7, emp, 0⟩ a b).flat .no := fun h1 h2 => by simp only [parT, if_neg h1, if_neg h2, Tr.flat]
  have both : a.root.kind = 14 → b.root.kind = 14 → pureK (sll 3 (rowA a.flat .no) (some (I 1)) none none) fun x28 => pureK (sll 3 (rowA b.flat .no) (some (I 1)) none none) fun x29 =>
      ∃ x30, AReads PP gΓ ref03_Two [nd ⟨7, emp, 0⟩, x28, x29] H x30 ∧ ACalls PP gΓ ref10_end [I (sBothSign a.root.sign b.root.sign), x30] H fun x31 H32 => ret1 H32 (fun r H' => r = rowA (parT ⟨7, emp, 0⟩ a b).flat .no ∧ H' = H) x31 := by
    intro h1 h2
    have l1 := sub_len ha h1
    have l2 := sub_len hb h2
    rw [sll_sub ha h1, sll_sub hb h2]
    simp only [pureK_some]
    refine ⟨_, (ref03_Two_ok ⟨7, emp, 0⟩ a.sub.flat b.sub.flat .no .no (by omega)).reads, ?_⟩
    refine (ref10_end_ok _ _ .no (by simp; omega)).run (ret1_of H (Heap.le_refl _) ⟨?_, rfl⟩)
    have h3 : ¬ (a.root.kind = 11 ∧ b.root.kind = 11) := by omega
    simp only [parT, if_neg h3, if_pos (And.intro h1 h2), endT, Tr.flat]
  by_cases h1 : a.root.kind = 11
  · simp only [h1, Int.reduceEq, decide_false, decide_true, condK_t, condK_f]
    by_cases h2 : b.root.kind = 11
    · simp only [h2, decide_true, condK_t]
      refine (ref10_over_ok _).run (ret1_of H (Heap.le_refl _) ⟨by simp [parT, h1, h2, overT, Tr.flat], rfl⟩)
    · simp only [decide_eq_false h2, condK_f]
      exact node_two 7 a.flat b.flat hl (two (by omega) (by omega))
  · simp only [decide_eq_false h1, condK_f]
    by_cases h3 : a.root.kind = 14
    · simp only [h3, Int.reduceEq, decide_false, decide_true, condK_t, condK_f]
      by_cases h4 : b.root.kind = 14
      · simp only [h4, decide_true, condK_t]
        exact ⟨_, (ref10_node_ok 7 0).reads, both h3 h4⟩
      · simp only [decide_eq_false h4, condK_f]
        exact node_two 7 a.flat b.flat hl (two (by omega) (by omega))
    · simp only [decide_eq_false h3, condK_f]
      exact node_two 7 a.flat b.flat hl (two (by omega) (by omega))

theorem ref10_block_ok (a : Tr) (ga : Good a) (hl : a.flat.length ≤ 900000) (hT : a.root.kind = 14 → Pur ref10_Tree [rowA a.sub.flat .no] (rowA (settleT a.sub).flat .no)) :
    Pur ref10_block [rowA a.flat .no] (rowA (blockT settleT ⟨9, emp, 0⟩ a).flat .no) := by
  intro H
  refine ref10_block_of ?_
  unfold W_ref10_block
  simp only [ias_root, pureK_some, fa_cp, ld_cp, cutE_one, Nat.zero_add, get0, get2, bop_eql]
  have one : a.root ≠ ⟨14, emp, 1⟩ → a.root ≠ ⟨14, emp, 2⟩ → ACalls PP gΓ ref10_node [I 9, I 0] H fun x H1 => ACalls PP gΓ ref03_One [x, rowA a.flat .no] H1 fun y H2 => ret1 H2 (fun r H' => r = rowA (blockT settleT ⟨9, emp, 0⟩ a).flat .no ∧ H' = H) y := by
    intro h1 h2
    refine (ref10_node_ok 9 0).run ?_
    refine (ref03_One_ok ⟨9, emp, 0⟩ a.flat .no (by omega)).run ?_
    exact ret1_of H (Heap.le_refl _) ⟨by simp [blockT, h1, h2, Tr.flat], rfl⟩
  by_cases h14 : a.root.kind = 14
  · have hr := (ga.endd h14).2.2.2.2.2
    simp only [h14, Int.reduceEq, decide_false, decide_true, condK_t, condK_f]
    by_cases h1 : a.root.sign = 1
    · simp only [h1, decide_true, condK_t]
      have e : a.root = ⟨14, emp, 1⟩ := by rw [hr, h1]
      exact (ref10_over_ok 1).run (ret1_of H (Heap.le_refl _) ⟨by simp [blockT, e, overT, Tr.flat], rfl⟩)
    · simp only [decide_eq_false h1, condK_f]
      by_cases h2 : a.root.sign = 2
      · have e : a.root = ⟨14, emp, 2⟩ := by rw [hr, h2]
        simp only [h2, decide_true, condK_t, sll_sub ga.ok h14, pureK_some]
        exact (hT h14).run (ret1_of H (Heap.le_refl _) ⟨by simp [blockT, e], rfl⟩)
      · simp only [decide_eq_false h2, condK_f]
        exact one (fun e => h1 (by rw [e])) (fun e => h2 (by rw [e]))
  · simp only [decide_eq_false h14, condK_f]
    exact one (fun e => h14 (by rw [e])) (fun e => h14 (by rw [e]))

/-! ### what the document says is what settle tells -/
theorem kind_of11 {A : Tr} (g : Good A) (s : Int) : A.root = ⟨11, emp, s⟩ ↔ A.root.kind = 11 ∧ A.root.sign = s := by
  constructor
  · intro e; rw [e]; exact ⟨rfl, rfl⟩
  · rintro ⟨h1, h2⟩; rw [(g.over h1).2.2.2, h2]

theorem flat_over {A : Tr} (g : Good A) (h : A.root.kind = 11) : A.flat.tail = [] := by
  have := g.ok
  cases A with
  | l0 n => rfl
  | l1 n a => have h1 : arity n.kind = 1 := this.1; have h2 : n.kind = 11 := h; rw [h2] at h1; cases h1
  | l2 n a b => have h1 : arity n.kind = 2 := this.1; have h2 : n.kind = 11 := h; rw [h2] at h1; cases h1

theorem law_first {n : Node} {a b : Tr} (g : Good (.l2 n a b)) (hk : n.kind = 5 ∨ n.kind = 8 ∨ n.kind = 12 ∨ n.kind = 13) : settleT (.l2 n a b) = firstT n.kind (settleT a) b := by
  obtain ⟨gA, sA⟩ := settle_good _ a (Nat.le_refl _) g.kidA
  obtain ⟨gB, sB⟩ := settle_good _ b (Nat.le_refl _) g.kidB
  have hn : n = ⟨n.kind, emp, 0⟩ := right_plain g.rootR (by show n.kind ≠ 1; omega) (by show n.kind ≠ 11; omega) (by show n.kind ≠ 14; omega)
  have hso : sort2 n.kind (sortT a) (sortT b) ≠ 0 := g.so
  have ra := sortT_range a
  have rb := sortT_range b
  rw [settleT_l2 n a b g.kidA.ok g.kidB.ok]
  rcases hk with h | h | h | h
  · -- Seq
    rw [h] at hso hn
    have two : sortT b = 1 ∧ sOn (sortT a) = 3 ∨ sortT b = 2 ∧ sOn (sortT a) = 4 := by
      rcases sort2_5 ra rb hso with ⟨s1, s2, s3⟩ | ⟨s1, s2, s3⟩
      · exact .inl ⟨s1, (sOn_iff3 ra).2 s2⟩
      · exact .inr ⟨s1, (sOn_iff4 ra).2 s2⟩
    simp only [h, Int.reduceEq, if_false, if_true]
    by_cases h11 : (settleT a).root.kind = 11
    · have h14 : (settleT a).root.kind ≠ 14 := by omega
      rw [if_pos h14]
      simp only [behindT, firstT, kind_of11 gA, h11, if_true, true_and, Int.reduceEq, if_false, false_and, or_false]
    · by_cases h14 : (settleT a).root.kind = 14
      · rw [if_neg (by simpa using h14)]
        simp only [firstT, h11, h14, if_true, if_false, Int.reduceEq]
        by_cases h1 : (settleT a).root.sign = 1
        · simp only [h1, ne_eq, not_true_eq_false, if_false, if_true]
          have e4 := (gA.endd h14).1
          have hb2 : sortT b = 2 := by
            rcases two with ⟨_, s2⟩ | ⟨s1, _⟩
            · rw [s2, e4] at sA; exact absurd sA (by decide)
            · exact s1
          have hB11 : (settleT b).root.kind ≠ 11 := fun e => by
            rw [(gB.over e).1, hb2] at sB; exact absurd sB (by decide)
          unfold stackT first13
          rw [if_neg hB11]
          by_cases hB14 : (settleT b).root.kind = 14
          · simp [hB14]
          · simp [hB14]
        · simp [h1]
      · rw [if_pos h14]
        have hne : (settleT a).root ≠ ⟨11, emp, 1⟩ := fun e => h11 (by rw [e])
        simp only [behindT, firstT, h11, h14, if_false, hne]
        rw [hn]
  · -- Hand
    rw [h] at hso hn
    obtain ⟨s1, s2, s3⟩ := sort2_8 ra rb hso
    rw [(sOn_iff3 ra).2 s2] at sA
    simp only [h, if_true]
    by_cases h11 : (settleT a).root.kind = 11
    · simp only [behindT, firstT, kind_of11 gA, h11, if_true, true_and, Int.reduceEq, if_false, false_and, false_or]
    · have h14 : (settleT a).root.kind ≠ 14 := fun e => by rw [(gA.endd e).1] at sA; exact absurd sA (by decide)
      have hne : (settleT a).root ≠ ⟨11, emp, 2⟩ := fun e => h11 (by rw [e])
      simp only [behindT, firstT, h11, h14, if_false, hne]
      rw [hn]
  · -- Going
    rw [h] at hso hn
    obtain ⟨s1, s2, s3⟩ := sort2_12 ra rb hso
    rw [(sOn_iff3 ra).2 s2] at sA
    simp only [h, Int.reduceEq, if_true, if_false]
    by_cases h11 : (settleT a).root.kind = 11
    · have he : ended (settleT a) = true := by simp [ended, flat_over gA h11, h11]
      simp only [he, if_true, firstT, h11]
      by_cases h1 : (settleT a).root.sign = 1 <;> simp [h1]
    · have he : ended (settleT a) = false := by simp [ended, h11]
      have h14 : (settleT a).root.kind ≠ 14 := fun e => by rw [(gA.endd e).1] at sA; exact absurd sA (by decide)
      simp only [he, firstT, h11, h14, if_false]
      rw [hn]; rfl
  · -- Stack
    rw [h] at hso hn
    obtain ⟨s1, s2, s3⟩ := sort2_13 ra rb hso
    rw [(sOn_iff4 ra).2 s2] at sA
    simp only [h, Int.reduceEq, if_true, if_false]
    have h11 : (settleT a).root.kind ≠ 11 := fun e => by rw [(gA.over e).1] at sA; exact absurd sA (by decide)
    unfold stackT
    by_cases h14 : (settleT a).root.kind = 14
    · simp [firstT, h14]
    · simp [firstT, h11, h14]

theorem ref10_Tree_ok : ∀ (N : Nat) (t : Tr), t.len ≤ N → Good t → t.flat.length ≤ 300 → Pur ref10_Tree [rowA t.flat .no] (rowA (settleT t).flat .no) := by
  intro N
  induction N with
  | zero => intro t h; have := len_pos t; omega
  | succ N ih =>
    intro t hN g hl H
    refine ref10_Tree_of ?_
    unfold W_ref10_Tree
    refine (ref03_Kids_ok t g.ok (by omega)).run ?_
    simp only [ias_root, pureK_some, fa_cp, ld_cp, cutE_one, Nat.zero_add, get0, bop_eql]
    cases t with
    | l0 n =>
      simp only [Tr.root]
      rcases kind0 g.ok with h | h | h | h | h <;> simp only [h, Int.reduceEq, decide_false, decide_true, condK_t, condK_f]
      · exact ret1_of H (Heap.le_refl _) ⟨by rw [settleT_l0]; simp [h], rfl⟩
      · exact (ref10_over_ok 1).run (ret1_of H (Heap.le_refl _) ⟨by rw [settleT_l0]; simp [h, overT, Tr.flat], rfl⟩)
      · exact (ref10_over_ok 2).run (ret1_of H (Heap.le_refl _) ⟨by rw [settleT_l0]; simp [h, overT, Tr.flat], rfl⟩)
      · exact ret1_of H (Heap.le_refl _) ⟨by rw [settleT_l0]; simp [h], rfl⟩
      · exact ret1_of H (Heap.le_refl _) ⟨by rw [settleT_l0]; simp [h], rfl⟩
    | l1 n a =>
      have hlen := len_l1 n a
      have hla : a.flat.length ≤ 299 := by have : (Tr.l1 n a).len ≤ 300 := hl; unfold Tr.len at *; omega
      obtain ⟨gA, sA⟩ := settle_good _ a (Nat.le_refl _) g.kid1
      obtain ⟨okA, lenA⟩ := settleT_ok g.kid1.ok
      have hTa := ih a (by omega) g.kid1 (by omega)
      simp only [Tr.root, Tr.kids, kid0, pureK_some, ld_cp, cutE_one, get0]
      rcases kind1 g.ok.1 with h | h <;> simp only [h, Int.reduceEq, decide_false, decide_true, condK_t, condK_f]
      · refine hTa.run ?_
        have hn : n = ⟨9, emp, 0⟩ := by
          have := right_plain g.rootR (by show n.kind ≠ 1; omega) (by show n.kind ≠ 11; omega) (by show n.kind ≠ 14; omega)
          have e : n = ⟨n.kind, emp, 0⟩ := this
          rw [e, h]
        refine (ref10_block_ok (settleT a) gA (by unfold Tr.len at *; omega) (fun h14 => ?_)).run ?_
        · obtain ⟨l1, l2⟩ := sub_of_end gA.ok h14
          exact ih _ (by omega) (gA.endd h14).2.1 (by unfold Tr.len at *; omega)
        · exact ret1_of H (Heap.le_refl _) ⟨by rw [settleT_l1 n a g.kid1.ok, if_pos h, hn], rfl⟩
      · exact ret1_of H (Heap.le_refl _) ⟨by rw [settleT_l1 n a g.kid1.ok]; simp [h], rfl⟩
    | l2 n a b =>
      have hlen := len_l2 n a b
      have pa := len_pos a
      have pb := len_pos b
      have hlab : a.flat.length + b.flat.length ≤ 299 := by have : (Tr.l2 n a b).len ≤ 300 := hl; unfold Tr.len at *; omega
      obtain ⟨okA, lenA⟩ := settleT_ok g.kidA.ok
      obtain ⟨okB, lenB⟩ := settleT_ok g.kidB.ok
      have hTa := ih a (by omega) g.kidA (by omega)
      have hTb := ih b (by omega) g.kidB (by omega)
      have hsum : (settleT a).flat.length + b.flat.length ≤ 1000 := by unfold Tr.len at *; omega
      simp only [Tr.root, Tr.kids, kids0, kids1, pureK_some, ld_cp, cutE_one, get0]
      rcases kind2 g.ok.1 with h | h | h | h | h | h | h <;> simp only [h, Int.reduceEq, decide_false, decide_true, condK_t, condK_f]
      · refine ⟨_, hTa.reads, ?_⟩
        refine (first_ok 5 (by omega) (settleT a) b okA g.kidB.ok hsum hTb).run (ret1_of H (Heap.le_refl _) ⟨by rw [law_first g (by omega), h], rfl⟩)
      · exact ret1_of H (Heap.le_refl _) ⟨by rw [settleT_l2 n a b g.kidA.ok g.kidB.ok]; simp [h], rfl⟩
      · have hn : n = ⟨7, emp, 0⟩ := by
          have := right_plain g.rootR (by show n.kind ≠ 1; omega) (by show n.kind ≠ 11; omega) (by show n.kind ≠ 14; omega)
          have e : n = ⟨n.kind, emp, 0⟩ := this
          rw [e, h]
        refine ⟨_, hTa.reads, ?_⟩
        refine hTb.run ?_
        refine (ref10_par_ok (settleT a) (settleT b) okA okB (by unfold Tr.len at *; omega)).run (ret1_of H (Heap.le_refl _) ⟨?_, rfl⟩)
        rw [settleT_l2 n a b g.kidA.ok g.kidB.ok]
        simp only [h, Int.reduceEq, if_false, if_true]
        rw [hn]
      · refine ⟨_, hTa.reads, ?_⟩
        refine (first_ok 8 (by omega) (settleT a) b okA g.kidB.ok hsum hTb).run (ret1_of H (Heap.le_refl _) ⟨by rw [law_first g (by omega), h], rfl⟩)
      · exact ret1_of H (Heap.le_refl _) ⟨by rw [settleT_l2 n a b g.kidA.ok g.kidB.ok]; simp [h], rfl⟩
      · refine ⟨_, hTa.reads, ?_⟩
        refine (first_ok 12 (by omega) (settleT a) b okA g.kidB.ok hsum hTb).run (ret1_of H (Heap.le_refl _) ⟨by rw [law_first g (by omega), h], rfl⟩)
      · refine ⟨_, hTa.reads, ?_⟩
        refine (first_ok 13 (by omega) (settleT a) b okA g.kidB.ok hsum hTb).run (ret1_of H (Heap.le_refl _) ⟨by rw [law_first g (by omega), h], rfl⟩)

end Go.Av
namespace Go.Av
open Go Go.Proofs

theorem good_of {l : List Node} (h : sortOf l ≠ 0) : whole l = true ∧ Good (treeOf l) ∧ l = (treeOf l).flat ∧ l.length ≤ 200 := by
  unfold sortOf at h
  cases hw : whole l with
  | false => rw [hw] at h; simp at h
  | true =>
    rw [hw] at h
    simp only [if_true] at h
    obtain ⟨h1, h2⟩ := treeOf_spec hw
    unfold whole at hw
    simp only [Bool.and_eq_true, decide_eq_true_eq, List.all_eq_true] at hw
    exact ⟨rfl, ⟨h1, fun n hn => hw.2.1 n (by rw [h2]; exact hn), h⟩, h2, hw.1.2⟩

theorem on_or {l : List Node} : (sortOn l false || sortOn l true) = !decide (sortOf l = 0) := by
  rcases five (sortOf_range l) with e | e | e | e | e <;> simp [sortOn, sOn, e]

theorem ref10_Settle_ok (l : List Node) (p : Perm) (hl : small l.length) (hn : names l) : Pur ref10_Settle [rowA l p] (rowA (settleRow l) .no) := by
  refine Pur.args (args' := [rowA l .no]) rfl (fun i hi => by
    match i, hi with
    | 0, _ => exact rowW) ?_
  refine Pur.weaken (φ := fun r => r = rowA (settleRow l) .no ∨ (settleRow l = [] ∧ r = .lst 0 [] .exact)) (fun H => ?_) ?_
  rotate_left
  · rintro r (rfl | ⟨h, rfl⟩)
    · exact Weaker.refl _
    · rw [h]; exact Weaker.empty
  refine ref10_Settle_of ?_
  unfold W_ref10_Settle
  refine (ref04_Of_ok l hl hn).run ?_
  simp only [bop_eql, pureK_some]
  by_cases h0 : sortOf l = 0
  · simp only [h0, decide_true, condK_t]
    refine ret1_of H (Heap.le_refl _) ⟨.inr ⟨?_, rfl⟩, rfl⟩
    unfold settleRow
    rw [on_or]; simp [h0]
  · simp only [decide_eq_false h0, condK_f]
    obtain ⟨hw, g, he, hlen⟩ := good_of h0
    have hon : (sortOn l false || sortOn l true) = true := by rw [on_or]; simp [h0]
    have key := ref10_Tree_ok (treeOf l).len (treeOf l) (Nat.le_refl _) g (by rw [← he]; omega)
    rw [← he] at key
    have hset : settleF l.length (treeOf l) = settleT (treeOf l) := settleF_eq g.ok (by unfold Tr.len; rw [← he]; exact Nat.le_refl _)
    refine key.run ?_
    simp only [lnl_lst, List.length_map, pureK_some, bop_gtr, condK_B, decide_eq_true_eq, decide_eq_false_iff_not]
    refine ⟨fun h => ret1_of H (Heap.le_refl _) ⟨.inr ⟨?_, rfl⟩, rfl⟩, fun h => ret1_of H (Heap.le_refl _) ⟨.inl ?_, rfl⟩⟩
    · unfold settleRow
      rw [if_pos hon, hset, if_pos (by omega)]
    · unfold settleRow
      rw [if_pos hon, hset, if_neg (by omega)]

theorem ref11_Settled_ok (l : List Node) (p : Perm) (hl : small l.length) (hn : names l) : Pur ref11_Settled [rowA l p] (B (settled l)) := by
  intro H
  refine ref11_Settled_of ?_
  unfold W_ref11_Settled
  simp only [lnl_lst, List.length_map, pureK_some, bop_gtr, condK_B, decide_eq_true_eq, decide_eq_false_iff_not]
  refine ⟨fun h => ?_, fun h => ?_⟩
  · refine (ref10_Settle_ok l p hl hn).run ?_
    have := settleRow_len l
    refine (ref03_Same_ok _ _ _ _ (by unfold small; omega)).run ?_
    refine ret1_of H (Heap.le_refl _) ⟨B_eq ?_, rfl⟩
    have h' : 0 < l.length := by omega
    simp [settled, h']
  · refine ret1_of H (Heap.le_refl _) ⟨B_eq ?_, rfl⟩
    have h' : ¬ 0 < l.length := by omega
    simp only [settled, decide_eq_false h', Bool.false_and]

theorem ref19_in_ok (n m : Int) : Pur ref19_in [I n, I m] (B (decide (0 ≤ n) && decide (n ≤ m))) := by
  intro H
  refine ref19_in_of ?_
  unfold W_ref19_in
  simp only [bop_geq, bop_leq, pureK_some]
  by_cases h : 0 ≤ n
  · simp only [h, decide_true, condK_t, Bool.true_and]
    exact ret1_of H (Heap.le_refl _) ⟨rfl, rfl⟩
  · simp only [decide_eq_false h, condK_f, Bool.false_and]
    exact ret1_of H (Heap.le_refl _) ⟨rfl, rfl⟩

theorem ref19_Right_ok {s : St} (h : Fits s) (p q : Perm) : Pur ref19_Right [stA s p q] (B (rightS s)) := by
  intro H
  refine ref19_Right_of ?_
  unfold W_ref19_Right
  refine allocK_st fun o ho => ?_
  have hle : H ≤ H.upd o (.cells (stC s p q)) := by simp [ho]
  have hg : (H.upd o (.cells (stC s p q))) o = some (.cells (stC s p q)) := Heap.upd_same _ _ _
  generalize H.upd o (.cells (stC s p q)) = HB at hle hg ⊢
  simp only [fa_ptr, pureK_some, Nat.zero_add, Nat.reduceAdd, ld_ptr hg, cutE_one, get0, get1, get2, get3, get4]
  refine (ref04_On_ok _ _ false h.l h.n).run ?_
  simp only [unE_not, pureK_some]
  cases h1 : sortOn s.l false with
  | false =>
    rw [Bool.not_false, condK_t]
    exact ret1_of H hle ⟨B_eq (by simp [rightS, h1]), rfl⟩
  | true =>
  rw [Bool.not_true, condK_f]
  simp only [fa_ptr, pureK_some, Nat.zero_add, Nat.reduceAdd, ld_ptr hg, cutE_one, get0, get1, get2, get3, get4]
  refine (ref11_Settled_ok _ _ h.l h.n).run ?_
  simp only [unE_not, pureK_some]
  cases h2 : settled s.l with
  | false =>
    rw [Bool.not_false, condK_t]
    exact ret1_of H hle ⟨B_eq (by simp [rightS, h2]), rfl⟩
  | true =>
  rw [Bool.not_true, condK_f]
  simp only [fa_ptr, pureK_some, Nat.zero_add, Nat.reduceAdd, ld_ptr hg, cutE_one, get0, get1, get2, get3, get4, lnl_lst, List.length_map, bop_gtr, condK_B, decide_eq_true_eq, decide_eq_false_iff_not]
  refine ⟨fun h3 => ret1_of H hle ⟨B_eq (by simp [rightS, show ¬ s.l.length ≤ 60 by omega]), rfl⟩, fun h3 => ⟨fun h4 => ret1_of H hle ⟨B_eq (by simp [rightS, show ¬ s.a.length ≤ 60 by omega]), rfl⟩, fun h4 => ?_⟩⟩
  have h3' : s.l.length ≤ 60 := by omega
  have h4' : s.a.length ≤ 60 := by omega
  refine ⟨fun vs H' n => ∃ k : Nat, vs = [.ptr o 0, I k] ∧ H' = HB ∧ n = s.a.length - k ∧ k ≤ s.a.length ∧ (s.a.take k).all (fun x => right ⟨1, x, 0⟩) = true, ⟨_, HB, Heap.le_refl _, 0, rfl, rfl, rfl, Nat.zero_le _, rfl⟩, ?_⟩
  rintro vs H' n ⟨k, rfl, rfl, rfl, hk, hall⟩
  simp only [nth_zero, nth_succ, fa_ptr, pureK_some, Nat.zero_add, Nat.reduceAdd, ld_ptr hg, cutE_one, get0, get1, get2, get3, get4, lnl_lst, List.length_map, bop_lss, condK_B, decide_eq_true_eq, decide_eq_false_iff_not]
  refine ⟨fun h5 => ?_, fun h5 => ?_⟩
  · have hk' : k < s.a.length := by omega
    rw [ias_txt (by omega) (by omega)]
    simp only [pureK_some, ld_cp, cutE_one, get0, Int.toNat_natCast]
    rw [bld_01]
    simp only [pureK_some]
    refine (ref03_Right_ok ⟨1, s.a[k], 0⟩ (h.m _ (List.getElem_mem hk'))).run ?_
    simp only [unE_not, pureK_some]
    cases hr : right ⟨1, s.a[k], 0⟩ with
    | false =>
      rw [Bool.not_false, condK_t]
      refine ret1_of H hle ⟨B_eq ?_, rfl⟩
      have : (s.a.any fun x => !right ⟨1, x, 0⟩) = true := List.any_eq_true.2 ⟨s.a[k], List.getElem_mem hk', by simp [hr]⟩
      simp only [rightS, this, Bool.not_true, Bool.and_false]
    | true =>
      rw [Bool.not_true, condK_f, bop_add (by omega) (by omega)]
      refine ⟨s.a.length - (k + 1), H', by omega, Heap.le_refl _, k + 1, rfl, rfl, rfl, by omega, ?_⟩
      rw [List.take_succ_eq_append_getElem hk', List.all_append, hall]
      simp [hr]
  · have hk' : k = s.a.length := by omega
    subst hk'
    rw [List.take_length] at hall
    have ha : (s.a.any fun x => !right ⟨1, x, 0⟩) = false := by
      rw [List.any_eq_false]
      intro x hx
      have := List.all_eq_true.1 hall x hx
      simp [this]
    refine (ref19_in_ok s.pl 255).run ?_
    have fin : rightS s = ((decide (0 ≤ s.pl) && decide (s.pl ≤ 255)) && ((decide (0 ≤ s.how) && decide (s.how ≤ 5)) && (decide (0 ≤ s.n) && decide (s.n ≤ 60)))) := by
      simp only [rightS, h1, h2, ha, decide_eq_true h3', decide_eq_true h4', Bool.true_and, Bool.and_true, Bool.not_false]
    cases g1 : (decide (0 ≤ s.pl) && decide (s.pl ≤ 255)) with
    | false =>
      rw [condK_f]
      exact ret1_of H hle ⟨B_eq (by rw [fin, g1, Bool.false_and]), rfl⟩
    | true =>
    rw [condK_t]
    simp only [fa_ptr, pureK_some, Nat.zero_add, Nat.reduceAdd, ld_ptr hg, cutE_one, get2]
    refine (ref19_in_ok s.how 5).run ?_
    cases g2 : (decide (0 ≤ s.how) && decide (s.how ≤ 5)) with
    | false =>
      rw [condK_f]
      exact ret1_of H hle ⟨B_eq (by rw [fin, g2]; simp), rfl⟩
    | true =>
    rw [condK_t]
    simp only [fa_ptr, pureK_some, Nat.zero_add, Nat.reduceAdd, ld_ptr hg, cutE_one, get3]
    refine (ref19_in_ok s.n 60).run ?_
    exact ret1_of H hle ⟨B_eq (by rw [fin, g1, g2, Bool.true_and, Bool.true_and]), rfl⟩

theorem ref19_name_ok (s : ByteArray) (hs : s.size ≤ 1000000) : Pur ref19_name [S s] (bytA (nameB s) .no) := by
  intro H
  refine ref19_name_of ?_
  unfold W_ref19_name
  simp only [lns_S, pureK_some]
  rw [cv_u8]
  simp only [pureK_some]
  rw [bsl_b]
  simp only [pureK_some]
  left
  unfold appK1
  simp only [appended_S]
  refine ⟨.inl trivial, by simp [maxApp]; omega, .inl ?_⟩
  exact ret1_of H (Heap.le_refl _) ⟨by simp [nameB], rfl⟩

theorem ref19_Encode_ok {s : St} (hf : Fits s) (p q : Perm) (H : Heap) :
    ACalls PP gΓ ref19_Encode [stA s p q] H (fun r H' => ∃ v, r = .tup [v, B (rightS s)] ∧ H ≤ H' ∧ (rightS s = true → ∃ pv, v = bytA (enc s) pv) ∧ (rightS s = false → v = .lst 0 [] .exact)) := by
  refine ref19_Encode_of ?_
  unfold W_ref19_Encode
  refine allocK_st fun o1 ho1 => ?_
  have hle : H ≤ H.upd o1 (.cells (stC s p q)) := by simp [ho1]
  rw [ld_st]
  simp only [pureK_some]
  refine (ref19_Right_ok hf p q).run ?_
  simp only [unE_not, pureK_some]
  cases hr : rightS s with
  | false =>
    rw [Bool.not_false, condK_t]
    exact ret1_of _ (Heap.le_refl _) ⟨_, rfl, hle, fun h => (by cases h), fun _ => rfl⟩
  | true =>
  rw [Bool.not_true, condK_f]
  have hlen := enc_len hr
  obtain ⟨hnr, hl60, ha60, hna⟩ := rightS_parts hr
  have hle2 : (enc s).length = 1 + (s.l.flatMap nodeB).length + 4 + (s.a.flatMap nameB).length := by simp only [enc, List.length_append, List.length_cons, List.length_nil]; omega
  generalize hHB : H.upd o1 (.cells (stC s p q)) = HB at hle ⊢
  have hob : HB o1 = some (.cells (stC s p q)) := by rw [← hHB]; exact Heap.upd_same _ _ _
  simp only [fa_ptr, pureK_some, ld_ptr hob, cutE_one, Nat.zero_add, get0, lnl_lst, List.length_map]
  rw [cv_u8]
  simp only [pureK_some]
  rw [bsl_b]
  simp only [pureK_some]
  refine ⟨fun vs H' n => ∃ (k : Nat) (v : AV), vs = [.ptr o1 0, v, I k] ∧ n = s.l.length - k ∧ k ≤ s.l.length ∧ Out HB H' (byteOf s.l.length :: (s.l.take k).flatMap nodeB) v,
    ⟨_, HB, Heap.le_refl _, 0, _, rfl, rfl, Nat.zero_le _, .exact, rfl, .inl ⟨rfl, rfl⟩⟩, ?_⟩
  rintro vs H' n ⟨k, v, rfl, rfl, hk, hout⟩
  have hg0 := hout.get hob
  simp only [nth_zero, nth_succ, fa_ptr, pureK_some, ld_ptr hg0, cutE_one, Nat.zero_add, Nat.reduceAdd, get0, get1, get2, get3, get4, lnl_lst, List.length_map, bop_lss, condK_B, decide_eq_true_eq, decide_eq_false_iff_not]
  refine ⟨fun h => ?_, fun h => ?_⟩
  · have hk' : k < s.l.length := by omega
    have hst := flatMap_take_succ s.l nodeB hk'
    have htl := flatMap_take_le s.l nodeB (k + 1)
    rw [hst, List.length_append] at htl
    rw [ias_row (by omega) (by omega)]
    simp only [pureK_some, fa_cp, ld_cp, cutE_one, Nat.zero_add, get0, get1, get2, Int.toNat_natCast]
    rw [cv_u8]
    simp only [pureK_some]
    rw [bsl_b]
    simp only [pureK_some]
    have hnl : 1 ≤ (nodeB s.l[k]).length := by simp [nodeB]
    have fin : ∀ (v2 : AV) (H2 : Heap) (bs : List UInt8), Out HB H2 bs v2 → bs = byteOf s.l.length :: (s.l.take (k + 1)).flatMap nodeB →
        pureK (bop .plain .add (I k) (I 1)) fun x42 => ∃ (n19 : Nat) (H20 : Heap), n19 < s.l.length - k ∧ H20 ≤ H2 ∧ ∃ (k : Nat) (v : AV), [.ptr o1 0, v2, x42] = [.ptr o1 0, v, I k] ∧ n19 = s.l.length - k ∧ k ≤ s.l.length ∧ Out HB H20 (byteOf s.l.length :: (s.l.take k).flatMap nodeB) v := by
      intro v2 H2 bs h2 hbs
      rw [bop_add (by omega) (by omega)]
      exact ⟨s.l.length - (k + 1), H2, by omega, Heap.le_refl _, k + 1, v2, rfl, rfl, by omega, by rw [← hbs]; exact h2⟩
    refine app_out hout (appended_byt _ _) (by simp only [maxApp, List.length_cons, List.length_nil]; omega) fun v1 H1 h1 => ?_
    have hg1 := h1.get hob
    simp only [ld_ptr hg1, cutE_one, get0, pureK_some, fa_ptr, Nat.zero_add]
    rw [ias_row (by omega) (by omega)]
    simp only [pureK_some, fa_cp, ld_cp, cutE_one, Nat.zero_add, get0, get1, get2, Int.toNat_natCast, bop_eql]
    by_cases h5 : s.l[k].kind = 1
    · simp only [h5, decide_true, condK_t]
      have e : nodeB s.l[k] = byteOf s.l[k].kind :: nameB s.l[k].name := by simp [nodeB, h5]
      have e2 := nameB_length s.l[k].name
      rw [e] at htl
      simp only [List.length_cons] at htl
      have hsz : s.l[k].name.size ≤ 8 := right_name (hnr _ (List.getElem_mem hk')) h5
      refine (ref19_name_ok _ (by omega)).run ?_
      refine app_out h1 (appended_byt _ _) (by simp only [maxApp, List.length_cons, List.length_append, List.length_nil]; omega) fun v2 H2 h2 => ?_
      have hg2 := h2.get hob
      simp only [ld_ptr hg2, cutE_one, get0, pureK_some, fa_ptr, Nat.zero_add]
      rw [ias_row (by omega) (by omega)]
      simp only [pureK_some, fa_cp, ld_cp, cutE_one, Nat.zero_add, get0, get1, get2, Int.toNat_natCast, bop_eql, h5, Int.reduceEq, decide_false, condK_f]
      refine fin _ _ _ h2 ?_
      rw [hst, e, h5]; simp
    · simp only [decide_eq_false h5, condK_f]
      by_cases h6 : s.l[k].kind = 11
      · simp only [h6, decide_true, condK_t]
        have e : nodeB s.l[k] = [byteOf s.l[k].kind, byteOf s.l[k].sign] := by simp [nodeB, h6]
        rw [e] at htl
        rw [cv_u8]
        simp only [pureK_some]
        rw [bsl_b]
        simp only [pureK_some]
        refine app_out h1 (appended_byt _ _) (by simp only [maxApp, List.length_cons, List.length_append, List.length_nil] at htl ⊢; omega) fun v2 H2 h2 => ?_
        refine fin _ _ _ h2 ?_
        rw [hst, e, h6]; simp
      · simp only [decide_eq_false h6, condK_f]
        by_cases h7 : s.l[k].kind = 14
        · simp only [h7, decide_true, condK_t]
          have e : nodeB s.l[k] = [byteOf s.l[k].kind, byteOf s.l[k].sign] := by simp [nodeB, h7]
          rw [e] at htl
          rw [cv_u8]
          simp only [pureK_some]
          rw [bsl_b]
          simp only [pureK_some]
          refine app_out h1 (appended_byt _ _) (by simp only [maxApp, List.length_cons, List.length_append, List.length_nil] at htl ⊢; omega) fun v2 H2 h2 => ?_
          refine fin _ _ _ h2 ?_
          rw [hst, e, h7]; simp
        · simp only [decide_eq_false h7, condK_f]
          have e : nodeB s.l[k] = [byteOf s.l[k].kind] := by simp [nodeB, h5, h6, h7]
          refine fin _ _ _ h1 ?_
          rw [hst, e]; simp
  · have hk' : k = s.l.length := by omega
    subst hk'
    rw [List.take_length] at hout
    rw [cv_u8, cv_u8, cv_u8, cv_u8]
    simp only [pureK_some]
    rw [bsl_b4]
    simp only [pureK_some]
    refine app_out hout (appended_byt _ _) (by simp only [maxApp, List.length_cons, List.length_nil]; omega) fun v1 H1 h1 => ?_
    refine ⟨fun vs H' n => ∃ (k : Nat) (v : AV), vs = [.ptr o1 0, v, I k] ∧ n = s.a.length - k ∧ k ≤ s.a.length ∧ Out HB H' (byteOf s.l.length :: s.l.flatMap nodeB ++ [byteOf s.pl, byteOf s.how, byteOf s.n, byteOf s.a.length] ++ (s.a.take k).flatMap nameB) v,
      ⟨_, H1, Heap.le_refl _, 0, _, rfl, rfl, Nat.zero_le _, by simpa using h1⟩, ?_⟩
    rintro vs H2 n ⟨k, v2, rfl, rfl, hk, hout2⟩
    have hg2 := hout2.get hob
    simp only [nth_zero, nth_succ, fa_ptr, pureK_some, ld_ptr hg2, cutE_one, Nat.zero_add, get4, lnl_lst, List.length_map, bop_lss, condK_B, decide_eq_true_eq, decide_eq_false_iff_not]
    refine ⟨fun h => ?_, fun h => ?_⟩
    · have hk' : k < s.a.length := by omega
      have hst := flatMap_take_succ s.a nameB hk'
      have htl := flatMap_take_le s.a nameB (k + 1)
      rw [hst, List.length_append, nameB_length] at htl
      rw [ias_txt (by omega) (by omega)]
      simp only [pureK_some, ld_cp, cutE_one, get0, Int.toNat_natCast]
      have hsz := hna _ (List.getElem_mem hk')
      refine (ref19_name_ok _ (by omega)).run ?_
      refine app_out hout2 (appended_byt _ _) (by rw [nameB_length]; simp only [maxApp, List.length_cons, List.length_append, List.length_nil]; omega) fun v3 H3 h3 => ?_
      rw [bop_add (by omega) (by omega)]
      refine ⟨s.a.length - (k + 1), H3, by omega, Heap.le_refl _, k + 1, v3, rfl, rfl, by omega, ?_⟩
      rw [hst, ← List.append_assoc]; exact h3
    · have hk' : k = s.a.length := by omega
      subst hk'
      rw [List.take_length] at hout2
      have hle3 : H ≤ H2 := fun o x h => hout2.le o x (hle o x h)
      obtain ⟨pv, hv, _⟩ := hout2
      exact ret1_of H2 (Heap.le_refl _) ⟨v2, rfl, hle3, fun _ => ⟨pv, hv⟩, fun h => (by cases h)⟩

end Go.Av
