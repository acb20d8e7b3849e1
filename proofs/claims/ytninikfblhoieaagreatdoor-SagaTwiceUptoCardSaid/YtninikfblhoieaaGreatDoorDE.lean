/- Own text DE of this claim: see the text that holds the theorem. -/
import Derived.Test.YtninikfblhoieaaGreatDoorCD
import Derived.RangeFuncBound
set_option linter.all false
set_option maxRecDepth 100000
namespace Go.Av
open Go Go.Proofs

theorem five {s : Int} (h : 0 ≤ s ∧ s ≤ 4) : s = 0 ∨ s = 1 ∨ s = 2 ∨ s = 3 ∨ s = 4 := by omega

structure Good (t : Tr) : Prop where
 ok : t.ok
 rt : ∀ n, n ∈ t.flat → right n = true
 so : sortT t ≠ 0

theorem right_sign {n : Node} (h : right n = true) (hk : n.kind = 11 ∨ n.kind = 14) : n.name = emp ∧ 1 ≤ n.sign ∧ n.sign ≤ 3 := by
 unfold right at h
 rw [if_neg (by omega), if_pos hk] at h
 simpa using h
theorem right_plain {n : Node} (h : right n = true) (h1 : n.kind ≠ 1) (h2 : n.kind ≠ 11) (h3 : n.kind ≠ 14) : n = ⟨n.kind, emp, 0⟩ := by
 unfold right at h
 rw [if_neg h1, if_neg (by omega)] at h
 simp at h
 cases n with
 | mk k s g => simp at h ⊢; exact h.1
theorem root_mem (t : Tr) : t.root ∈ t.flat := by rw [t.flat_root]; simp

theorem Good.kid1 {n : Node} {a : Tr} (h : Good (.l1 n a)) : Good a :=
 ⟨h.ok.2, fun m hm => h.rt m (by simp [Tr.flat, hm]), fun e => h.so (sortT_zero (t := .l1 n a) (x := a) (by simp [Tr.kids]) e)⟩
theorem Good.kidA {n : Node} {a b : Tr} (h : Good (.l2 n a b)) : Good a :=
 ⟨h.ok.2.1, fun m hm => h.rt m (by simp [Tr.flat, hm]), fun e => h.so (sortT_zero (t := .l2 n a b) (x := a) (by simp [Tr.kids]) e)⟩
theorem Good.kidB {n : Node} {a b : Tr} (h : Good (.l2 n a b)) : Good b :=
 ⟨h.ok.2.2, fun m hm => h.rt m (by simp [Tr.flat, hm]), fun e => h.so (sortT_zero (t := .l2 n a b) (x := b) (by simp [Tr.kids]) e)⟩
theorem Good.rootR {t : Tr} (h : Good t) : right t.root = true := h.rt _ (root_mem t)

theorem good_l2 {n : Node} {a b : Tr} (hn : right n = true) (hk : arity n.kind = 2) (ha : Good a) (hb : Good b) (hs : sortT (.l2 n a b) ≠ 0) : Good (.l2 n a b) :=
 ⟨⟨hk, ha.ok, hb.ok⟩, fun m hm => by
   simp only [Tr.flat, List.mem_cons, List.mem_append] at hm
   rcases hm with rfl | hm | hm
   · exact hn
   · exact ha.rt m hm
   · exact hb.rt m hm, hs⟩
theorem good_l1 {n : Node} {a : Tr} (hn : right n = true) (hk : arity n.kind = 1) (ha : Good a) (hs : sortT (.l1 n a) ≠ 0) : Good (.l1 n a) :=
 ⟨⟨hk, ha.ok⟩, fun m hm => by
   simp only [Tr.flat, List.mem_cons] at hm
   rcases hm with rfl | hm
   · exact hn
   · exact ha.rt m hm, hs⟩
theorem right_mk {k s : Int} (h : (k = 11 ∨ k = 14) ∧ 1 ≤ s ∧ s ≤ 3) : right ⟨k, emp, s⟩ = true := by
 unfold right
 simp only
 rw [if_neg (by omega), if_pos h.1]
 simp; omega
theorem right_mk0 {k : Int} (h : 0 ≤ arity k) (h1 : k ≠ 1) (h2 : k ≠ 11) (h3 : k ≠ 14) : right ⟨k, emp, 0⟩ = true := by
 unfold right
 simp only
 rw [if_neg h1, if_neg (by omega)]
 simp; exact h

theorem good_over {s : Int} (h : 1 ≤ s ∧ s ≤ 3) : Good (overT s) ∧ sortT (overT s) = 3 :=
 ⟨⟨rfl, fun m hm => by
   simp [overT, Tr.flat] at hm
   rw [hm]; exact right_mk ⟨.inl rfl, h⟩, by show sort0 11 ≠ 0; decide⟩, rfl⟩
theorem good_skip : Good (.l0 ⟨2, emp, 0⟩) ∧ sortT (.l0 ⟨2, emp, 0⟩) = 1 :=
 ⟨⟨rfl, fun m hm => by
   simp [Tr.flat] at hm
   rw [hm]; exact right_mk0 (by decide) (by decide) (by decide) (by decide), by show sort0 2 ≠ 0; decide⟩, rfl⟩
theorem good_end {s : Int} {c : Tr} (h : 1 ≤ s ∧ s ≤ 3) (hc : Good c) (hs : sortT c = 1) : Good (endT s c) ∧ sortT (endT s c) = 4 := by
 have e : sortT (endT s c) = 4 := by
  show sort1 14 (sortT c) = 4
  rw [hs]; decide
 exact ⟨good_l1 (right_mk ⟨.inr rfl, h⟩) rfl hc (by unfold endT at e; rw [e]; decide), e⟩

theorem Good.over {t : Tr} (h : Good t) (hk : t.root.kind = 11) : sortT t = 3 ∧ 1 ≤ t.root.sign ∧ t.root.sign ≤ 3 ∧ t.root = ⟨11, emp, t.root.sign⟩ := by
 have hr := right_sign h.rootR (.inl hk)
 refine ⟨?_, hr.2.1, hr.2.2, ?_⟩
 · cases t with
   | l0 n => have : n.kind = 11 := hk; simp [sortT, sort0, this]
   | l1 n a => have h1 : arity n.kind = 1 := h.ok.1; have h2 : n.kind = 11 := hk; rw [h2] at h1; cases h1
   | l2 n a b => have h1 : arity n.kind = 2 := h.ok.1; have h2 : n.kind = 11 := hk; rw [h2] at h1; cases h1
 · have := hr.1
   generalize t.root = n at this hk ⊢
   cases n with
   | mk k s g => simp at this hk ⊢; exact ⟨hk, this⟩
theorem Good.endd {t : Tr} (h : Good t) (hk : t.root.kind = 14) : sortT t = 4 ∧ Good t.sub ∧ sortT t.sub = 1 ∧ 1 ≤ t.root.sign ∧ t.root.sign ≤ 3 ∧ t.root = ⟨14, emp, t.root.sign⟩ := by
 have hr := right_sign h.rootR (.inr hk)
 have e : t.root = ⟨14, emp, t.root.sign⟩ := by
  have := hr.1
  generalize t.root = n at this hk ⊢
  cases n with
  | mk k s g => simp at this hk ⊢; exact ⟨hk, this⟩
 cases t with
 | l0 n => have h1 : arity n.kind = 0 := h.ok; have h2 : n.kind = 14 := hk; rw [h2] at h1; cases h1
 | l2 n a b => have h1 : arity n.kind = 2 := h.ok.1; have h2 : n.kind = 14 := hk; rw [h2] at h1; cases h1
 | l1 n a =>
   have h2 : n.kind = 14 := hk
   have hs := h.so
   have ha := h.kid1.so
   simp only [sortT, sort1, h2] at hs
   rw [if_neg ha] at hs
   have h1 : sortT a = 1 := by
    simp at hs; exact hs
   refine ⟨?_, h.kid1, h1, hr.2.1, hr.2.2, e⟩
   simp [sortT, sort1, h2, h1]

theorem sOn_four {s : Int} (h : 0 ≤ s ∧ s ≤ 4) (hz : s ≠ 0) : (sOn s = 3 ∧ (s = 1 ∨ s = 3)) ∨ (sOn s = 4 ∧ (s = 2 ∨ s = 4)) := by
 unfold sOn; split <;> omega

theorem sort2_5 {x y : Int} (hx : 0 ≤ x ∧ x ≤ 4) (hy : 0 ≤ y ∧ y ≤ 4) (h : sort2 5 x y ≠ 0) : (y = 1 ∧ (x = 1 ∨ x = 3) ∧ sort2 5 x y = x) ∨ (y = 2 ∧ (x = 2 ∨ x = 4) ∧ sort2 5 x y = x) := by
 rcases five hx with e | e | e | e | e <;> rcases five hy with g | g | g | g | g <;> subst e g <;> revert h <;> decide
theorem sort2_8 {x y : Int} (hx : 0 ≤ x ∧ x ≤ 4) (hy : 0 ≤ y ∧ y ≤ 4) (h : sort2 8 x y ≠ 0) : y = 1 ∧ (x = 1 ∨ x = 3) ∧ sort2 8 x y = x := by
 rcases five hx with e | e | e | e | e <;> rcases five hy with g | g | g | g | g <;> subst e g <;> revert h <;> decide
theorem sort2_12 {x y : Int} (hx : 0 ≤ x ∧ x ≤ 4) (hy : 0 ≤ y ∧ y ≤ 4) (h : sort2 12 x y ≠ 0) : y = 1 ∧ (x = 1 ∨ x = 3) ∧ sort2 12 x y = 4 := by
 rcases five hx with e | e | e | e | e <;> rcases five hy with g | g | g | g | g <;> subst e g <;> revert h <;> decide
theorem sort2_13 {x y : Int} (hx : 0 ≤ x ∧ x ≤ 4) (hy : 0 ≤ y ∧ y ≤ 4) (h : sort2 13 x y ≠ 0) : y = 1 ∧ (x = 2 ∨ x = 4) ∧ sort2 13 x y = 4 := by
 rcases five hx with e | e | e | e | e <;> rcases five hy with g | g | g | g | g <;> subst e g <;> revert h <;> decide
theorem sort2_7 {x y : Int} (hx : 0 ≤ x ∧ x ≤ 4) (hy : 0 ≤ y ∧ y ≤ 4) (h : sort2 7 x y ≠ 0) : sOn x = sOn y ∧ sOn (sort2 7 x y) = sOn x ∧ x ≠ 0 ∧ y ≠ 0 := by
 rcases five hx with e | e | e | e | e <;> rcases five hy with g | g | g | g | g <;> subst e g <;> revert h <;> decide
theorem sort2_7' {x y : Int} (hx : 0 ≤ x ∧ x ≤ 4) (hy : 0 ≤ y ∧ y ≤ 4) (h1 : x ≠ 0) (h2 : y ≠ 0) (h : sOn x = sOn y) : sort2 7 x y ≠ 0 ∧ sOn (sort2 7 x y) = sOn x := by
 rcases five hx with e | e | e | e | e <;> rcases five hy with g | g | g | g | g <;> subst e g <;> revert h1 h2 h <;> decide
theorem sort1_9 {x : Int} (hx : 0 ≤ x ∧ x ≤ 4) (h : sort1 9 x ≠ 0) : (x = 2 ∨ x = 4) ∧ sOn (sort1 9 x) = 3 := by
 rcases five hx with e | e | e | e | e <;> subst e <;> revert h <;> decide
theorem sort1_9' {x : Int} (h : x = 2 ∨ x = 4) : sort1 9 x ≠ 0 ∧ sOn (sort1 9 x) = 3 := by
 rcases h with e | e <;> subst e <;> decide
theorem sOn_iff3 {x : Int} (hx : 0 ≤ x ∧ x ≤ 4) : sOn x = 3 ↔ x = 1 ∨ x = 3 := by
 rcases five hx with e | e | e | e | e <;> subst e <;> decide
theorem sOn_iff4 {x : Int} (hx : 0 ≤ x ∧ x ≤ 4) : sOn x = 4 ↔ x = 2 ∨ x = 4 := by
 rcases five hx with e | e | e | e | e <;> subst e <;> decide

theorem sBoth_sign {a b : Int} (ha : 1 ≤ a ∧ a ≤ 3) (hb : 1 ≤ b ∧ b ≤ 3) : 1 ≤ sBothSign a b ∧ sBothSign a b ≤ 3 := by
 have h1 : sIs a = true := by simp [sIs]; omega
 have h2 : sIs b = true := by simp [sIs]; omega
 simp only [sBothSign, h1, h2]
 simp
 split <;> omega

theorem good_stack {a c : Tr} (ha : Good a) (hs : sOn (sortT a) = 4) (hc : Good c) (hs1 : sortT c = 1) : Good (stackT a c) ∧ sOn (sortT (stackT a c)) = 4 := by
 have ha4 := (sOn_iff4 (sortT_range a)).1 hs
 unfold stackT
 split
 · have e : sortT (.l2 ⟨13, emp, 0⟩ a c) = 4 := by
    show sort2 13 (sortT a) (sortT c) = 4
    rw [hs1]; rcases ha4 with e | e <;> rw [e] <;> decide
   exact ⟨good_l2 (right_mk0 (by decide) (by decide) (by decide) (by decide)) rfl ha hc (by rw [e]; decide), by rw [e]; decide⟩
 · rename_i h
   have hk : a.root.kind = 14 := by simpa using h
   obtain ⟨_, g1, g2, g3, g4, _⟩ := ha.endd hk
   have e : sortT (.l2 ⟨5, emp, 0⟩ a.sub c) = 1 := by
    show sort2 5 (sortT a.sub) (sortT c) = 1
    rw [hs1, g2]; decide
   have := good_end ⟨g3, g4⟩ (good_l2 (n := ⟨5, emp, 0⟩) (right_mk0 (by decide) (by decide) (by decide) (by decide)) rfl g1 hc (by rw [e]; decide)) e
   exact ⟨this.1, by rw [this.2]; decide⟩

theorem settle_good : ∀ (N : Nat) (t : Tr), t.len ≤ N → Good t → Good (settleT t) ∧ sOn (sortT (settleT t)) = sOn (sortT t) := by
 intro N
 induction N with
 | zero => intro t h; have := len_pos t; omega
 | succ N ih =>
   intro t hN h
   cases t with
   | l0 n =>
     rw [settleT_l0]
     split
     · rename_i e
       have := good_over (s := 1) (by omega)
       exact ⟨this.1, by rw [this.2]; simp [sortT, sort0, e]; decide⟩
     · split
       · rename_i e
         have := good_over (s := 2) (by omega)
         exact ⟨this.1, by rw [this.2]; simp [sortT, sort0, e]; decide⟩
       · exact ⟨h, rfl⟩
   | l1 n a =>
     have hl := len_l1 n a
     obtain ⟨ga, sa⟩ := ih a (by omega) h.kid1
     obtain ⟨oka, lena⟩ := settleT_ok h.kid1.ok
     rw [settleT_l1 n a h.kid1.ok]
     split
     · rename_i hk
       have hs : sort1 9 (sortT a) ≠ 0 := by have := h.so; simpa [sortT, hk] using this
       obtain ⟨s1, s2⟩ := sort1_9 (sortT_range a) hs
       have e0 : sOn (sortT (.l1 n a)) = 3 := by simp only [sortT, hk]; exact s2
       have hA4 : sOn (sortT (settleT a)) = 4 := by rw [sa]; exact (sOn_iff4 (sortT_range a)).2 s1
       rw [e0]
       unfold blockT
       split
       · have := good_over (s := 1) (by omega)
         exact ⟨this.1, by rw [this.2]; decide⟩
       · split
         · rename_i e14
           obtain ⟨_, g1, g2, _⟩ := ga.endd (by rw [e14])
           obtain ⟨l1, l2⟩ := sub_of_end ga.ok (by rw [e14])
           obtain ⟨g5, g6⟩ := ih _ (by omega) g1
           exact ⟨g5, by rw [g6, g2]; decide⟩
         · have := sort1_9' ((sOn_iff4 (sortT_range _)).1 hA4)
           have e : sortT (.l1 n (settleT a)) = sort1 9 (sortT (settleT a)) := by simp only [sortT, hk]
           exact ⟨good_l1 h.rootR h.ok.1 ga (by rw [e]; exact this.1), by rw [e]; exact this.2⟩
     · exact ⟨h, rfl⟩
   | l2 n a b =>
     have hl := len_l2 n a b
     obtain ⟨ga, sa⟩ := ih a (by omega) h.kidA
     obtain ⟨gb, sb⟩ := ih b (by omega) h.kidB
     have ra := sortT_range a
     have rb := sortT_range b
     have rA := sortT_range (settleT a)
     have rB := sortT_range (settleT b)
     have hso : sort2 n.kind (sortT a) (sortT b) ≠ 0 := h.so
     have e0 : sortT (.l2 n a b) = sort2 n.kind (sortT a) (sortT b) := rfl
     have hn : right n = true := h.rootR
     rw [settleT_l2 n a b h.kidA.ok h.kidB.ok, e0]
     split
     · rename_i hk
       rw [hk] at hso ⊢
       obtain ⟨s1, s2, s3⟩ := sort2_8 ra rb hso
       rw [s3, (sOn_iff3 ra).2 s2]
       rw [(sOn_iff3 ra).2 s2] at sa
       unfold behindT
       split
       · exact ⟨gb, by rw [sb, s1]; decide⟩
       · split
         · exact ⟨ga, sa⟩
         · have e : sortT (.l2 n (settleT a) b) = sort2 8 (sortT (settleT a)) 1 := by simp only [sortT, hk, s1]
           have hA := (sOn_iff3 rA).1 sa
           have e2 : sort2 8 (sortT (settleT a)) 1 = sortT (settleT a) := by rcases hA with e | e <;> rw [e] <;> decide
           exact ⟨good_l2 hn h.ok.1 ga h.kidB (by rw [e, e2]; exact ga.so), by rw [e, e2]; exact sa⟩
     · split
       · rename_i hk
         rw [hk] at hso ⊢
         have two : sort2 5 (sortT a) (sortT b) = sortT a ∧ (sortT b = 1 ∧ sOn (sortT a) = 3 ∨ sortT b = 2 ∧ sOn (sortT a) = 4) := by
          rcases sort2_5 ra rb hso with ⟨s1, s2, s3⟩ | ⟨s1, s2, s3⟩
          · exact ⟨s3, .inl ⟨s1, (sOn_iff3 ra).2 s2⟩⟩
          · exact ⟨s3, .inr ⟨s1, (sOn_iff4 ra).2 s2⟩⟩
         rw [two.1]
         have keep : Good (.l2 n (settleT a) b) ∧ sOn (sortT (.l2 n (settleT a) b)) = sOn (sortT a) := by
          have e : sortT (.l2 n (settleT a) b) = sort2 5 (sortT (settleT a)) (sortT b) := by simp only [sortT, hk]
          have e2 : sort2 5 (sortT (settleT a)) (sortT b) = sortT (settleT a) := by
           rcases two.2 with ⟨s1, s2⟩ | ⟨s1, s2⟩
           · rw [s1]; rw [s2] at sa
             rcases (sOn_iff3 rA).1 sa with e | e <;> rw [e] <;> decide
           · rw [s1]; rw [s2] at sa
             rcases (sOn_iff4 rA).1 sa with e | e <;> rw [e] <;> decide
          exact ⟨good_l2 hn h.ok.1 ga h.kidB (by rw [e, e2]; exact ga.so), by rw [e, e2]; exact sa⟩
         split
         · unfold behindT
           split
           · rename_i e11
             have := (ga.over (by rw [e11])).1
             rcases two.2 with ⟨s1, s2⟩ | ⟨s1, s2⟩
             · exact ⟨gb, by rw [sb, s1, s2]; decide⟩
             · rw [s2, this] at sa; exact absurd sa (by decide)
           · split
             · exact ⟨ga, sa⟩
             · exact keep
         · rename_i h14
           have hk14 : (settleT a).root.kind = 14 := by simpa using h14
           obtain ⟨q1, q2, q3, q4, q5, _⟩ := ga.endd hk14
           split
           · exact ⟨ga, sa⟩
           · rcases two.2 with ⟨s1, s2⟩ | ⟨s1, s2⟩
             · rw [s2, q1] at sa; exact absurd sa (by decide)
             · have := good_stack gb (by rw [sb, s1]; decide) q2 q3
               exact ⟨this.1, by rw [this.2, s2]⟩
       · split
         · rename_i hk
           rw [hk] at hso ⊢
           obtain ⟨s1, s2, s3⟩ := sort2_13 ra rb hso
           rw [(sOn_iff4 ra).2 s2] at sa
           have := good_stack ga sa h.kidB s1
           exact ⟨this.1, by rw [this.2, s3]; decide⟩
         · split
           · rename_i hk
             rw [hk] at hso ⊢
             obtain ⟨s1, s2, s3⟩ := sort2_12 ra rb hso
             rw [(sOn_iff3 ra).2 s2] at sa
             rw [s3]
             split
             · rename_i he
               unfold ended at he
               have hk11 : (settleT a).root.kind = 11 := by simp at he; exact he.2
               obtain ⟨_, q2, q3, _⟩ := ga.over hk11
               split
               · have := good_end ⟨q2, q3⟩ good_skip.1 good_skip.2
                 exact ⟨this.1, by rw [this.2]⟩
               · have := good_end ⟨q2, q3⟩ h.kidB s1
                 exact ⟨this.1, by rw [this.2]⟩
             · have e : sortT (.l2 n (settleT a) b) = sort2 12 (sortT (settleT a)) 1 := by simp only [sortT, hk, s1]
               have hA := (sOn_iff3 rA).1 sa
               have e2 : sort2 12 (sortT (settleT a)) 1 = 4 := by rcases hA with e | e <;> rw [e] <;> decide
               exact ⟨good_l2 hn h.ok.1 ga h.kidB (by rw [e, e2]; decide), by rw [e, e2]⟩
           · split
             · rename_i hk
               rw [hk] at hso ⊢
               obtain ⟨s1, s2, s3, s4⟩ := sort2_7 ra rb hso
               rw [s2]
               have eAB : sOn (sortT (settleT a)) = sOn (sortT (settleT b)) := by rw [sa, sb, s1]
               unfold parT
               split
               · rename_i e
                 obtain ⟨p1, p2, p3, _⟩ := ga.over e.1
                 obtain ⟨_, q2, q3, _⟩ := gb.over e.2
                 have := good_over (sBoth_sign ⟨p2, p3⟩ ⟨q2, q3⟩)
                 rw [p1] at sa
                 exact ⟨this.1, by rw [this.2]; exact sa⟩
               · split
                 · rename_i e
                   obtain ⟨p1, p2, p3, p4, p5, _⟩ := ga.endd e.1
                   obtain ⟨_, q2, q3, q4, q5, _⟩ := gb.endd e.2
                   have e1 : sortT (.l2 n (settleT a).sub (settleT b).sub) = 1 := by
                    simp only [sortT, hk, p3, q3]; decide
                   have := good_end (sBoth_sign ⟨p4, p5⟩ ⟨q4, q5⟩) (good_l2 (n := n) hn h.ok.1 p2 q2 (by rw [e1]; decide)) e1
                   rw [p1] at sa
                   exact ⟨this.1, by rw [this.2]; exact sa⟩
                 · have e1 : sortT (.l2 n (settleT a) (settleT b)) = sort2 7 (sortT (settleT a)) (sortT (settleT b)) := by simp only [sortT, hk]
                   have := sort2_7' rA rB ga.so gb.so eAB
                   exact ⟨good_l2 hn h.ok.1 ga gb (by rw [e1]; exact this.1), by rw [e1, this.2, sa]⟩
             · exact ⟨h, rfl⟩

end Go.Av
namespace Go.Av
open Go Go.Proofs

theorem WRel.freeze {Γ : Nat → Option AV} {G : Ghost} {H : Heap} {w : World} (hW : WRel Γ G H w) {o s n cap : Nat} {es zs : List AV} {v : Value} (hH : H o = some (.cells (es.flatMap AV.cells ++ zs))) (hs : ∀ e, e ∈ es → e.cells.length = s)
 (hn : es.length = n) (hc : n ≤ cap) (hv : Rep G w v (.ms o 0 n cap)) :
 ∃ G', Ext G w G' w ∧ WRel Γ G' (rem H (some o)) w ∧ Rep G' w v (.lst s es .no) := by
 obtain ⟨hu, hbase, hpriv, c, el, hb, hsz, hcells⟩ := hW.obj o _ hH
 obtain ⟨rfl, _⟩ := hv.inv_ms
 have hx : Ext G w (G.addImm (G.loc o)) w := by
  refine ⟨Nat.le_refl _, fun _ h => ⟨h, rfl⟩, fun _ _ => Nat.le_refl _, fun _ _ _ _ h => h, fun b hi _ hr => ?_, fun t b m _ _ hr => ⟨?_, rfl⟩, rfl, rfl⟩
  · unfold Ghost.reads Ghost.addImm at *
    by_cases e : b = G.loc o
    · simp [e]
    · simp only [e, if_false]; exact hr
  · show (if b = G.loc o then Role.imm else G.role b) = _
    rw [if_neg (fun e => by rw [e, hpriv] at hr; cases hr)]; exact hr
 have hle : rem H (some o) ≤ H := fun i x hx => by
  unfold rem at hx
  by_cases e : i = o
  · simp [e] at hx
  · simpa [e] using hx
 have hfl := flatMap_length es s hs
 refine ⟨_, hx, ?_, ?_⟩
 · refine ⟨hW.base, hW.frame, fun b hb => ?_, fun i x hi => ?_, fun i j x y hi hj => hW.inj i j x y (hle i x hi) (hle j y hj), fun b t m hr => ?_, hW.fin, fun g a e => (hW.glob g a e).ext hx⟩
   · show (if b = G.loc o then Role.imm else G.role b) = _
     split
     · rfl
     · exact hW.old b hb
   · obtain ⟨h1, h2⟩ := hW.obj i x (hle i x hi)
     have hne : i ≠ o := fun e => by subst e; simp [rem] at hi
     refine ⟨h1, h2.ext hx h1 (fun _ _ => rfl) (fun _ => rfl) (fun hbk => ?_)⟩
     show (if G.loc i = G.loc o then Role.imm else G.role (G.loc i)) = _
     rw [if_neg (fun e => hne (hW.inj i o x _ (hle i x hi) hH hbk rfl e))]
   · have hr' : (if b = G.loc o then Role.imm else G.role b) = .tok t m := hr
     split at hr'
     · cases hr'
     · exact hW.tokB b t m hr'
 · subst hn
   refine .lst (G.loc o) 0 cap s es .no (fun k => c.getD k undef) hc hs (fun k hk => ?_) (fun k hk => ?_) (fun k hk => ?_) (.inr ?_) trivial
   · have := (hcells k (by simp [hfl]; omega)).1
     rwa [List.getD_eq_getElem?_getD, List.getElem?_append_left (by omega), ← List.getD_eq_getElem?_getD] at this
   · have hk' : k < c.size := by rw [hsz]; simp [hfl]; omega
     simp [World.cell?, hb, Array.getD_eq_getD_getElem?, hk']
   · have := (hcells k (by simp [hfl]; omega)).2
     rw [List.getD_eq_getElem?_getD, List.getElem?_append_left (by omega), ← List.getD_eq_getElem?_getD] at this
     exact this.ext hx
   · simp [Ghost.reads, Ghost.addImm]

def MsV (H H' : Heap) (s : Nat) (es : List AV) (r : AV) : Prop :=
 (∃ s1 q, es.length ≤ 1 ∧ r = .lst s1 es q ∧ (s1 = s ∨ es = []) ∧ H ≤ H') ∨ ∃ o n cap zs, r = .ms o 0 n cap ∧ H o = none ∧ H' o = some (.cells (es.flatMap AV.cells ++ zs)) ∧ es.length = n ∧ n ≤ cap ∧ (es.flatMap AV.cells ++ zs).length = cap * s ∧ H ≤ H'

theorem ACalls.freeze {f : FuncId} {args : List AV} {s : Nat} {es : List AV} {H : Heap} (hs : ∀ e, e ∈ es → e.cells.length = s) (h : ACalls PP gΓ f args H (fun r H' => MsV H H' s es r)) :
 ACalls PP gΓ f args H (fun r H' => r = .lst s es .no ∧ H' = H) := by
 intro G w vs hW hl hr
 refine (h G w vs hW hl hr).mono ?_
 rintro e w' ⟨v, G', r, H', rfl, x, hW', hrep, hm⟩
 rcases hm with ⟨s1, q, _, rfl, hsq, hle⟩ | ⟨o, n, cap, zs, rfl, ho, hH, hn, hc, _, hle⟩
 · refine ⟨v, G', _, H, rfl, x, hW'.forget hle, ?_, rfl, rfl⟩
   rcases hsq with rfl | rfl
   · exact Weaker.lst _ _ _ hrep
   · exact Weaker.empty _ _ _ hrep
 · obtain ⟨G2, x2, hW2, hr2⟩ := hW'.freeze hH hs hn hc hrep
   refine ⟨v, G2, _, H, rfl, x.trans x2, hW2.forget (fun i y hi => ?_), hr2, rfl, rfl⟩
   unfold rem
   have hne : i ≠ o := fun e => by subst e; rw [ho] at hi; cases hi
   simp only [hne, if_false]
   exact hle i y hi

theorem move_always_ok (a b : AV) : Pur move_always [a, b] (B true) := by
 intro H
 refine move_always_of ?_
 unfold W_move_always
 exact ret1_of H (Heap.le_refl _) ⟨rfl, rfl⟩

theorem step_leaf_ok (k s : Int) : Pur step_leaf [I k, I s] (rowA [⟨k, emp, s⟩] .exact) := by
 intro H
 refine step_leaf_of ?_
 unfold W_step_leaf
 have e1 : bld [(0, 1), (1, 1), (2, 1)] [I 0, S emp, I 0] [(0, I k), (2, I s)] = some (nd ⟨k, emp, s⟩) := rfl
 have e2 : bsl 3 (.agg [I 0, S emp, I 0]) 1 [(0, nd ⟨k, emp, s⟩)] = some (rowA [⟨k, emp, s⟩] .exact) := rfl
 rw [e1]
 simp only [pureK_some]
 rw [e2]
 simp only [pureK_some]
 exact ret1_of H (Heap.le_refl _) ⟨rfl, rfl⟩

def goes (k : Int) : Int := if k = 5 ∨ k = 8 ∨ k = 12 ∨ k = 13 ∨ k = 9 then 1 else if k = 7 then 2 else 0
theorem doom_goes_ok (n : Node) : Pur doom_goes [nd n] (I (goes n.kind)) := by
 intro H
 refine doom_goes_of ?_
 unfold W_doom_goes
 rw [cells_nd]
 simp only [allocK_some]
 refine ⟨rfl, fun o ho => ?_⟩
 have hle : H ≤ H.upd o (.cells [I n.kind, S n.name, I n.sign]) := by simp [ho]
 simp only [fa_ptr, pureK_some, ld_upd, cutE_one, Nat.zero_add, get0, bop_eql, condK_B, decide_eq_true_eq, decide_eq_false_iff_not]
 unfold goes
 repeat' first | refine And.intro ?_ ?_ | intro h
 all_goals exact ret1_of H hle ⟨by simp [*], rfl⟩

theorem plot_one_ok (l : List Node) (p : Perm) (hl : small l.length) : Pur plot_one [rowA l p] (B (decide (0 < l.length) && decide (size l = l.length))) := by
 intro H
 refine plot_one_of ?_
 unfold W_plot_one
 simp only [lnl_lst, pureK_some, List.length_map, bop_gtr, condK_B, decide_eq_true_eq, decide_eq_false_iff_not]
 refine ⟨fun h => ?_, fun h => ?_⟩
 · refine (row_Size_ok l p hl).run ?_
   simp only [bop_eql, pureK_some]
   have h' : 0 < l.length := by omega
   exact ret1_of H (Heap.le_refl _) ⟨by simp [h'], rfl⟩
 · have h' : ¬ 0 < l.length := by omega
   exact ret1_of H (Heap.le_refl _) ⟨by simp [h'], rfl⟩

abbrev natA (l : List Nat) (p : Perm) : AV := .lst 1 (l.map fun n : Nat => I (n : Int)) p
theorem ias_nat {l : List Nat} {p : Perm} {k : Nat} (h : k < l.length) : ias 1 (natA l p) (I k) = some (.cp [I (l[k] : Nat)] 0) := by
 have := ias_lst (s := 1) (es := l.map fun n : Nat => I (n : Int)) (p := p) (i := (k : Int)) (v := I (l[k] : Nat)) (by omega) (by simp [h])
 exact this
theorem ias_int {l : List Int} {s : Nat} {p : Perm} {k : Nat} (h : k < l.length) : ias s (intA l s p) (I k) = some (.cp [I l[k]] 0) := by
 have := ias_lst (s := s) (es := l.map fun n => I n) (p := p) (i := (k : Int)) (v := I l[k]) (by omega) (by simp [h])
 exact this

theorem slices_Index_int_ok (l : List Int) (p : Perm) (x : Int) (hl : small l.length) : PurR slices_Index_int [intA l 1 p, I x] (fun r => ∃ k : Int, r = I k ∧ (0 ≤ k ↔ x ∈ l)) := by
 intro H
 refine slices_Index_int_of ?_
 unfold W_slices_Index_int
 simp only [lnl_lst, pureK_some, List.length_map]
 refine ⟨fun vs H' n => ∃ k : Nat, vs = [intA l 1 p, I x, I l.length, I k] ∧ H' = H ∧ n = l.length - k ∧ k ≤ l.length ∧ x ∉ l.take k, ⟨_, H, Heap.le_refl _, 0, rfl, rfl, rfl, Nat.zero_le _, by simp⟩, ?_⟩
 rintro vs H' n ⟨k, rfl, rfl, rfl, hk, hn⟩
 simp only [nth_zero, nth_succ, bop_lss, pureK_some, condK_B, decide_eq_true_eq, decide_eq_false_iff_not]
 refine ⟨fun h => ?_, fun h => ?_⟩
 · have hk' : k < l.length := by omega
   rw [ias_int hk']
   simp only [pureK_some, ld_cp, cutE_one, get0, bop_eql, condK_B, decide_eq_true_eq, decide_eq_false_iff_not]
   refine ⟨fun h1 => ret1_of H' (Heap.le_refl _) ⟨⟨k, rfl, fun _ => h1 ▸ List.getElem_mem hk', fun _ => by omega⟩, rfl⟩, fun h1 => ?_⟩
   rw [bop_add (by omega) (by omega)]
   simp only [pureK_some]
   refine ⟨l.length - (k + 1), _, by omega, Heap.le_refl _, k + 1, rfl, rfl, rfl, by omega, ?_⟩
   rw [List.take_succ_eq_append_getElem hk', List.mem_append, List.mem_singleton]
   exact fun h => h.elim hn h1
 · have hk' : k = l.length := by omega
   subst hk'
   rw [List.take_length] at hn
   exact ret1_of H' (Heap.le_refl _) ⟨⟨-1, rfl, by constructor <;> (intro h; first | omega | exact absurd h hn)⟩, rfl⟩

theorem slices_Contains_int_ok (l : List Int) (p : Perm) (x : Int) (hl : small l.length) : Pur slices_Contains_int [intA l 1 p, I x] (B (decide (x ∈ l))) := by
 intro H
 refine slices_Contains_int_of ?_
 unfold W_slices_Contains_int
 refine (slices_Index_int_ok l p x hl).run ?_
 rintro v ⟨k, rfl, hk⟩
 simp only [bop_geq, pureK_some, ret1_pure]
 exact ⟨B_eq (by rw [Bool.eq_iff_iff, decide_eq_true_eq, decide_eq_true_eq]; exact hk), Heap.le_refl _⟩

def mv (m : Int × Int) : AV := .agg [I m.1, I m.2]
@[simp] theorem cells_mv (m : Int × Int) : AV.cells (mv m) = [I m.1, I m.2] := rfl
abbrev mvsA (l : List (Int × Int)) (p : Perm) : AV := .lst 2 (l.map mv) p
theorem ias_mv {l : List (Int × Int)} {p : Perm} {k : Nat} (h : k < l.length) : ias 2 (mvsA l p) (I k) = some (.cp [I l[k].1, I l[k].2] 0) := by
 have := ias_lst (s := 2) (es := l.map mv) (p := p) (i := (k : Int)) (v := mv l[k]) (by omega) (by simp [h])
 exact this
theorem cut_mv (m : Int × Int) : cutE [I m.1, I m.2] 0 (some true) 2 = some (mv m) := rfl
@[simp] theorem cellsEq_mv (a b a' b' : Int) : cellsEq [.int, .int] [I a, I b] [I a', I b'] = some (decide (a = a') && (decide (b = b') && true)) := by
  rw [cellsEq_cons (cellEq_int _ _ _) (cellsEq_cons (cellEq_int _ _ _) cellsEq_nil)]

theorem slices_Index_Move_ok (l : List (Int × Int)) (p : Perm) (x : Int × Int) (hl : small l.length) : PurR slices_Index_Move [mvsA l p, mv x] (fun r => ∃ k : Int, r = I k ∧ (0 ≤ k ↔ x ∈ l)) := by
 intro H
 refine slices_Index_Move_of ?_
 unfold W_slices_Index_Move
 simp only [cells_mv, allocK_some]
 refine ⟨rfl, fun o ho => ?_⟩
 simp only [lnl_lst, pureK_some, List.length_map]
 have hle : H ≤ H.upd o (.cells [I x.1, I x.2]) := by simp [ho]
 refine ⟨fun vs H' n => ∃ k : Nat, vs = [mvsA l p, .ptr o 0, I l.length, I k] ∧ H' = H.upd o (.cells [I x.1, I x.2]) ∧ n = l.length - k ∧ k ≤ l.length ∧ x ∉ l.take k, ⟨_, _, Heap.le_refl _, 0, rfl, rfl, rfl, Nat.zero_le _, by simp⟩, ?_⟩
 rintro vs H' n ⟨k, rfl, rfl, rfl, hk, hn⟩
 simp only [nth_zero, nth_succ, bop_lss, pureK_some, condK_B, decide_eq_true_eq, decide_eq_false_iff_not]
 refine ⟨fun h => ?_, fun h => ?_⟩
 · have hk' : k < l.length := by omega
   rw [ias_mv hk']
   simp only [pureK_some, ld_cp, ld_upd, cut_mv, mv, bop_flat_eql, cellsEq_mv, cmpE_eql, condK_B, Bool.and_true, Bool.and_eq_true, decide_eq_true_eq]
   refine ⟨fun h1 => ret1_of H hle ⟨⟨k, rfl, fun _ => (Prod.ext h1.1 h1.2 : x = l[k]) ▸ List.getElem_mem hk', fun _ => by omega⟩, rfl⟩, fun h1 => ?_⟩
   rw [bop_add (by omega) (by omega)]
   simp only [pureK_some]
   refine ⟨l.length - (k + 1), _, by omega, Heap.le_refl _, k + 1, rfl, rfl, rfl, by omega, ?_⟩
   rw [List.take_succ_eq_append_getElem hk', List.mem_append, List.mem_singleton]
   refine fun h => h.elim hn fun e => ?_
   rw [e] at h1; simp at h1
 · have hk' : k = l.length := by omega
   subst hk'
   rw [List.take_length] at hn
   exact ret1_of H hle ⟨⟨-1, rfl, by constructor <;> (intro h; first | omega | exact absurd h hn)⟩, rfl⟩

theorem slices_Contains_Move_ok (l : List (Int × Int)) (p : Perm) (x : Int × Int) (hl : small l.length) : Pur slices_Contains_Move [mvsA l p, mv x] (B (decide (x ∈ l))) := by
 intro H
 refine slices_Contains_Move_of ?_
 unfold W_slices_Contains_Move
 simp only [cells_mv, allocK_some]
 refine ⟨rfl, fun o ho => ?_⟩
 have hle : H ≤ H.upd o (.cells [I x.1, I x.2]) := by simp [ho]
 simp only [ld_upd, cut_mv, pureK_some]
 refine (slices_Index_Move_ok l p x hl).run ?_
 rintro v ⟨k, rfl, hk⟩
 simp only [bop_geq, pureK_some]
 exact ret1_of H hle ⟨B_eq (by rw [Bool.eq_iff_iff, decide_eq_true_eq, decide_eq_true_eq]; exact hk), rfl⟩

theorem row_Count_one (n : Node) (ks : List Int) (p q : Perm) (hk : small ks.length) : Pur row_Count [rowA [n] p, intA ks 1 q] (I (if n.kind ∈ ks then 1 else 0)) := by
 intro H
 refine row_Count_of ?_
 unfold W_row_Count
 simp only [lnl_lst, pureK_some, List.length_map, List.length_cons, List.length_nil, Nat.zero_add]
 refine ⟨fun vs H' m => H ≤ H' ∧ ((vs = [intA ks 1 q, I 0, rowA [n] p, I 1, I 0] ∧ m = 1) ∨ (vs = [intA ks 1 q, I (if n.kind ∈ ks then 1 else 0), rowA [n] p, I 1, I 1] ∧ m = 0)), ⟨1, H, Heap.le_refl _, Heap.le_refl _, .inl ⟨rfl, rfl⟩⟩, ?_⟩
 rintro vs H' m ⟨hle, ⟨rfl, rfl⟩ | ⟨rfl, rfl⟩⟩
 · simp only [nth_zero, nth_succ, bop_lss, pureK_some, condK_B, decide_eq_true_eq, decide_eq_false_iff_not]
   refine ⟨fun _ => ?_, fun h => absurd (by omega) h⟩
   have e1 : ias 3 (rowA [n] p) (I 0) = some (.cp [I n.kind, S n.name, I n.sign] 0) := rfl
   rw [e1]
   simp only [pureK_some, ld_cp, cut_nd]
   intro o ho
   rw [st_nd3]
   simp only [heapK_some, fa_ptr, pureK_some, ld_upd, cutE_one, Nat.zero_add, get0]
   refine (slices_Contains_int_ok ks q n.kind hk).run ?_
   have hle2 : H ≤ H'.upd o (.cells [I n.kind, S n.name, I n.sign]) := Heap.le_upd hle (le_none hle ho)
   simp only [condK_B, decide_eq_true_eq, decide_eq_false_iff_not]
   refine ⟨fun h => ?_, fun h => ?_⟩
   · rw [bop_add (by omega) (by omega)]
     simp only [pureK_some]
     exact ⟨0, _, by omega, Heap.le_refl _, hle2, .inr ⟨by simp [h], rfl⟩⟩
   · rw [bop_add (by omega) (by omega)]
     simp only [pureK_some]
     exact ⟨0, _, by omega, Heap.le_refl _, hle2, .inr ⟨by simp [h], rfl⟩⟩
 · simp only [nth_zero, nth_succ, bop_lss, pureK_some, condK_B, decide_eq_true_eq, decide_eq_false_iff_not]
   exact ⟨fun h => absurd h (by omega), fun _ => ret1_of H hle ⟨rfl, rfl⟩⟩
end Go.Av
namespace Go.Av
open Go Go.Proofs

theorem AReads.mono {f : FuncId} {args : List AV} {H H2 : Heap} {v : AV} (h : AReads PP gΓ f args H v) (hle : H ≤ H2) : AReads PP gΓ f args H2 v := fun H' h' => h H' (Heap.le_trans hle h')
theorem AReads.run {f : FuncId} {args : List AV} {H : Heap} {v : AV} {K : AV → Heap → Prop} (h : AReads PP gΓ f args H v) (k : K v H) : ACalls PP gΓ f args H K := (h H (Heap.le_refl _)).then k
theorem callK_reads {E : Env} (hP : E.P = PP) (hG : E.Γ = gΓ) {f : FuncId} {args cap : List AV} {v : AV} {H : Heap} {K : AV → Heap → Prop} (he : enters PP f = true) (h : AReads PP gΓ f (args ++ cap) H v) (k : K v H) : callK E (.fn (.func f) [] cap) args H K := by
 unfold callK
 simp only [List.nil_append]
 rw [hP, hG, he]
 exact h.run k

theorem row_Kids_ok2 (t : Tr) (r : List Node) (p : Perm) (ht : t.ok) (hl : (t.flat ++ r).length ≤ 1000000) : Pur row_Kids [rowA (t.flat ++ r) p] (rowsA (t.kids.map Tr.flat) .no) := by
 refine Pur.weaken (φ := fun r => (r = .lst 0 [] .exact ∧ t.kids = []) ∨ ∃ q, r = rowsA (t.kids.map Tr.flat) q) (fun H => ?_) ?_
 rotate_left
 · rintro r (⟨rfl, hk⟩ | ⟨q, rfl⟩)
   · rw [hk]; exact Weaker.empty
   · exact Weaker.lst
 refine row_Kids_of ?_
 unfold W_row_Kids
 refine (row_Size_ok (t.flat ++ r) p (by omega)).run ?_
 have hs : size (t.flat ++ r) = t.flat.length := size_flat ht r
 have hl0 : t.flat.length + r.length ≤ 1000000 := by simpa using hl
 have hpos := t.flat_pos
 have hk2 := t.kids_le
 rw [hs]
 simp only [bop_eql, pureK_some, condK_B, decide_eq_true_eq, decide_eq_false_iff_not]
 refine ⟨fun h => by omega, fun _ => ?_⟩
 have eroot : ias 3 (rowA (t.flat ++ r) p) (I 0) = some (.cp [I t.root.kind, S t.root.name, I t.root.sign] 0) := by unfold rowA; rw [t.flat_root]; rfl
 rw [eroot]
 simp only [pureK_some, fa_cp, ld_cp, cutE_one, Nat.zero_add, get0]
 refine (row_Arity_ok _).run ?_
 rw [Tr.arity_root ht]
 refine ⟨fun vs H' n => ∃ (k : Nat) (s : Nat) (q : Perm), k ≤ t.kids.length ∧ vs = [rowA (t.flat ++ r) p, .lst s (((t.kids.take k).map Tr.flat).map fun l => rowA l .no) q, I (1 + ((t.kids.take k).flatMap Tr.flat).length), I t.kids.length, I k] ∧ n = t.kids.length - k ∧ Bld H H' q k ∧ (s = 1 ∨ (k = 0 ∧ q = .exact ∧ s = 0)),
  ⟨_, H, Heap.le_refl _, 0, 0, .exact, Nat.zero_le _, rfl, rfl, .inl ⟨rfl, rfl⟩, .inr ⟨rfl, rfl, rfl⟩⟩, ?_⟩
 rintro vs H' n ⟨k, s, q, hk, rfl, rfl, hb, hsq⟩
 simp only [nth_zero, nth_succ, bop_lss, pureK_some, condK_B, decide_eq_true_eq, decide_eq_false_iff_not]
 refine ⟨fun h => ?_, fun h => ?_⟩
 · have hk' : k < t.kids.length := by omega
   obtain ⟨post, hpost⟩ := Tr.flat_split hk'
   have hkok := Tr.kids_ok ht _ (List.getElem_mem hk')
   generalize hx : t.kids[k] = x at hpost hkok
   generalize hpre : (t.kids.take k).flatMap Tr.flat = pre at hpost hb ⊢
   have hat : (1 : Int) + pre.length = ((([t.root] ++ pre).length : Nat) : Int) := by simp; omega
   have hxl := x.flat_pos
   have hlen := congrArg List.length hpost
   simp only [List.length_append, List.length_cons, List.length_nil] at hlen
   obtain ⟨q1, e1⟩ := sll_row (l := t.flat ++ r) (p := p) (a := ([t.root] ++ pre).length) (by simp; omega)
   rw [hat, e1]
   have hpost2 : t.flat ++ r = [t.root] ++ pre ++ x.flat ++ (post ++ r) := by rw [hpost]; simp
   have hdrop : (t.flat ++ r).drop ([t.root] ++ pre).length = x.flat ++ (post ++ r) := by rw [hpost2, List.append_assoc, List.drop_left]
   rw [hdrop]
   simp only [pureK_some]
   refine (row_Size_ok _ q1 (by simp; omega)).run ?_
   rw [size_flat hkok]
   rw [bop_add (by simp; omega) (by simp; omega)]
   simp only [pureK_some]
   have hsum : ((([t.root] ++ pre).length : Nat) : Int) + x.flat.length = ((([t.root] ++ pre).length + x.flat.length : Nat) : Int) := by simp
   rw [hsum]
   obtain ⟨q2, e2⟩ := sll_row2 (l := t.flat ++ r) (p := p) (a := ([t.root] ++ pre).length) (b := ([t.root] ++ pre).length + x.flat.length) (by omega) (by simp; omega)
   rw [e2, hpost2, take_drop_kid]
   simp only [pureK_some]
   refine (Clone_ok x.flat q2 (by intro e; rw [e] at hxl; simp at hxl) (by omega)).run ?_
   have e3 : bsl 1 (.lst 0 [] .exact) 1 [(0, rowA x.flat .no)] = some (.lst 1 [rowA x.flat .no] .exact) := rfl
   rw [e3]
   simp only [pureK_some]
   have htk : t.kids.take (k + 1) = t.kids.take k ++ [x] := by rw [List.take_succ_eq_append_getElem hk', hx]
   refine appK_bld (H0 := H) (s := 1) (ys := [rowA x.flat .no]) (by simpa [Nat.min_eq_left hk] using hb) (hsq.imp id fun h => ⟨by obtain ⟨rfl, _⟩ := h; simp, h.2.1⟩) rfl (by simp [maxApp, Nat.min_eq_left hk]; omega) ?_
   intro q' H2 hb'
   rw [bop_add (by omega) (by omega)]
   simp only [pureK_some]
   refine ⟨_, _, ?_, Heap.le_refl _, k + 1, 1, q', by omega, ?_, rfl, ?_, .inl rfl⟩
   · omega
   · rw [htk]; simp [hpre]; omega
   · simpa [Nat.min_eq_left hk] using hb'
 · have hk' : k = t.kids.length := by omega
   subst hk'
   refine ret1_of H hb.le ⟨?_, rfl⟩
   rw [List.take_length]
   rcases hsq with rfl | ⟨h0, rfl, rfl⟩
   · exact .inr ⟨q, rfl⟩
   · have : t.kids = [] := List.eq_nil_of_length_eq_zero h0
     rw [this]
     exact .inl ⟨rfl, rfl⟩

set_option maxRecDepth 100000 in
theorem slices_IndexFunc_int_ok (l : List Nat) (p : Perm) (f : FuncId) (cap : List AV) (g : Nat → Bool) (H : Heap) (hl : small l.length) (he : enters PP f = true) (hf : ∀ x, x ∈ l → AReads PP gΓ f (I (x : Int) :: cap) H (B (g x))) :
 ∀ HX, H ≤ HX → ACalls PP gΓ slices_IndexFunc_int [natA l p, .fn (.func f) [] cap] HX (fun r H' => (∃ k : Int, r = I k ∧ (0 ≤ k ↔ l.any g = true)) ∧ H' = HX) := by
 intro HX hHX
 refine slices_IndexFunc_int_of ?_
 unfold W_slices_IndexFunc_int
 simp only [lnl_lst, pureK_some, List.length_map]
 refine ⟨fun vs H' n => ∃ k : Nat, vs = [natA l p, .fn (.func f) [] cap, I l.length, I k] ∧ H' = HX ∧ n = l.length - k ∧ k ≤ l.length ∧ (l.take k).any g = false, ⟨_, HX, Heap.le_refl _, 0, rfl, rfl, rfl, Nat.zero_le _, rfl⟩, ?_⟩
 rintro vs H' n ⟨k, rfl, rfl, rfl, hk, hn⟩
 simp only [nth_zero, nth_succ, bop_lss, pureK_some, condK_B, decide_eq_true_eq, decide_eq_false_iff_not]
 refine ⟨fun h => ?_, fun h => ?_⟩
 · have hk' : k < l.length := by omega
   rw [ias_nat hk']
   simp only [pureK_some, ld_cp, cutE_one, get0]
   refine callK_reads (E := E_slices_IndexFunc_int) rfl rfl he ((hf _ (List.getElem_mem hk')).mono hHX) ?_
   simp only [condK_B]
   refine ⟨fun h1 => ret1_of H' (Heap.le_refl _) ⟨⟨k, rfl, fun _ => List.any_eq_true.2 ⟨_, List.getElem_mem hk', h1⟩, fun _ => by omega⟩, rfl⟩, fun h1 => ?_⟩
   rw [bop_add (by omega) (by omega)]
   simp only [pureK_some]
   refine ⟨l.length - (k + 1), _, by omega, Heap.le_refl _, k + 1, rfl, rfl, rfl, by omega, ?_⟩
   rw [List.take_succ_eq_append_getElem hk', List.any_append, hn]
   simp only [List.any_cons, List.any_nil, h1, Bool.or_self]
 · have hk' : k = l.length := by omega
   subst hk'
   rw [List.take_length] at hn
   exact ret1_of H' (Heap.le_refl _) ⟨⟨-1, rfl, by rw [hn]; constructor <;> (intro h; first | omega | cases h)⟩, rfl⟩

theorem slices_ContainsFunc_int_ok (l : List Nat) (p : Perm) (f : FuncId) (cap : List AV) (g : Nat → Bool) (H : Heap) (hl : small l.length) (he : enters PP f = true) (hf : ∀ x, x ∈ l → AReads PP gΓ f (I (x : Int) :: cap) H (B (g x))) :
 AReads PP gΓ slices_ContainsFunc_int [natA l p, .fn (.func f) [] cap] H (B (l.any g)) := by
 intro HX hHX
 refine slices_ContainsFunc_int_of ?_
 unfold W_slices_ContainsFunc_int
 refine (slices_IndexFunc_int_ok l p f cap g H hl he hf HX hHX).mono ?_
 rintro v H2 ⟨⟨k, rfl, hk⟩, rfl⟩
 simp only [bop_geq, pureK_some, ret1_pure]
 exact ⟨B_eq (by rw [Bool.eq_iff_iff, decide_eq_true_eq]; exact hk), Heap.le_refl _⟩

set_option maxRecDepth 100000 in
theorem slices_IndexFunc_Node_2_ok (l : List (List Node)) (p : Perm) (f : FuncId) (cap : List AV) (g : (List Node) → Bool) (H : Heap) (hl : small l.length) (he : enters PP f = true) (hf : ∀ x, x ∈ l → AReads PP gΓ f (rowA x .no :: cap) H (B (g x))) :
 ∀ HX, H ≤ HX → ACalls PP gΓ slices_IndexFunc_Node_2 [rowsA l p, .fn (.func f) [] cap] HX (fun r H' => (∃ k : Int, r = I k ∧ (0 ≤ k ↔ l.any g = true)) ∧ H' = HX) := by
 intro HX hHX
 refine slices_IndexFunc_Node_2_of ?_
 unfold W_slices_IndexFunc_Node_2
 simp only [lnl_lst, pureK_some, List.length_map]
 refine ⟨fun vs H' n => ∃ k : Nat, vs = [rowsA l p, .fn (.func f) [] cap, I l.length, I k] ∧ H' = HX ∧ n = l.length - k ∧ k ≤ l.length ∧ (l.take k).any g = false, ⟨_, HX, Heap.le_refl _, 0, rfl, rfl, rfl, Nat.zero_le _, rfl⟩, ?_⟩
 rintro vs H' n ⟨k, rfl, rfl, rfl, hk, hn⟩
 simp only [nth_zero, nth_succ, bop_lss, pureK_some, condK_B, decide_eq_true_eq, decide_eq_false_iff_not]
 refine ⟨fun h => ?_, fun h => ?_⟩
 · have hk' : k < l.length := by omega
   rw [ias_rows hk']
   simp only [pureK_some, ld_cp, cutE_one, get0]
   refine callK_reads (E := E_slices_IndexFunc_Node_2) rfl rfl he ((hf _ (List.getElem_mem hk')).mono hHX) ?_
   simp only [condK_B]
   refine ⟨fun h1 => ret1_of H' (Heap.le_refl _) ⟨⟨k, rfl, fun _ => List.any_eq_true.2 ⟨_, List.getElem_mem hk', h1⟩, fun _ => by omega⟩, rfl⟩, fun h1 => ?_⟩
   rw [bop_add (by omega) (by omega)]
   simp only [pureK_some]
   refine ⟨l.length - (k + 1), _, by omega, Heap.le_refl _, k + 1, rfl, rfl, rfl, by omega, ?_⟩
   rw [List.take_succ_eq_append_getElem hk', List.any_append, hn]
   simp only [List.any_cons, List.any_nil, h1, Bool.or_self]
 · have hk' : k = l.length := by omega
   subst hk'
   rw [List.take_length] at hn
   exact ret1_of H' (Heap.le_refl _) ⟨⟨-1, rfl, by rw [hn]; constructor <;> (intro h; first | omega | cases h)⟩, rfl⟩

theorem slices_ContainsFunc_Node_2_ok (l : List (List Node)) (p : Perm) (f : FuncId) (cap : List AV) (g : (List Node) → Bool) (H : Heap) (hl : small l.length) (he : enters PP f = true) (hf : ∀ x, x ∈ l → AReads PP gΓ f (rowA x .no :: cap) H (B (g x))) :
 AReads PP gΓ slices_ContainsFunc_Node_2 [rowsA l p, .fn (.func f) [] cap] H (B (l.any g)) := by
 intro HX hHX
 refine slices_ContainsFunc_Node_2_of ?_
 unfold W_slices_ContainsFunc_Node_2
 refine (slices_IndexFunc_Node_2_ok l p f cap g H hl he hf HX hHX).mono ?_
 rintro v H2 ⟨⟨k, rfl, hk⟩, rfl⟩
 simp only [bop_geq, pureK_some, ret1_pure]
 exact ⟨B_eq (by rw [Bool.eq_iff_iff, decide_eq_true_eq]; exact hk), Heap.le_refl _⟩


def subT : Tr → Nat → Tr
 | .l0 n, _ => .l0 n
 | .l1 n a, i => if i = 0 then .l1 n a else subT a (i - 1)
 | .l2 n a b, i => if i = 0 then .l2 n a b else if i - 1 < a.len then subT a (i - 1) else subT b (i - 1 - a.len)
def ancT : Tr → Nat → Nat → List (Nat × Nat)
 | .l0 _, _, _ => []
 | .l1 _ a, b, i => if i = 0 then [] else (b, 0) :: ancT a (b + 1) (i - 1)
 | .l2 _ a c, b, i => if i = 0 then [] else if i - 1 < a.len then (b, 0) :: ancT a (b + 1) (i - 1) else (b, 1) :: ancT c (b + 1 + a.len) (i - 1 - a.len)

theorem subT_zero (t : Tr) : subT t 0 = t := by cases t <;> simp [subT]

theorem subT_drop : ∀ (t : Tr) (i : Nat), t.ok → i < t.len → (subT t i).ok ∧ ∃ r, t.flat.drop i = (subT t i).flat ++ r := by
 intro t
 induction t with
 | l0 n => intro i ht hi; rw [len_l0] at hi; have : i = 0 := by omega
           subst this; exact ⟨ht, [], by simp [subT]⟩
 | l1 n a iha =>
   intro i ht hi
   rw [len_l1] at hi
   by_cases h : i = 0
   · subst h; rw [subT_zero]; exact ⟨ht, [], by simp⟩
   · simp only [subT, if_neg h]
     obtain ⟨h1, r, h2⟩ := iha (i - 1) ht.2 (by omega)
     refine ⟨h1, r, ?_⟩
     obtain ⟨j, rfl⟩ : ∃ j, i = j + 1 := ⟨i - 1, by omega⟩
     simpa [Tr.flat] using h2
 | l2 n a b iha ihb =>
   intro i ht hi
   rw [len_l2] at hi
   by_cases h : i = 0
   · subst h; rw [subT_zero]; exact ⟨ht, [], by simp⟩
   · simp only [subT, if_neg h]
     obtain ⟨j, rfl⟩ : ∃ j, i = j + 1 := ⟨i - 1, by omega⟩
     simp only [Nat.add_sub_cancel]
     by_cases hj : j < a.len
     · rw [if_pos hj]
       obtain ⟨h1, r, h2⟩ := iha j ht.2.1 hj
       refine ⟨h1, r ++ b.flat, ?_⟩
       simp only [Tr.flat, List.drop_succ_cons]
       rw [List.drop_append_of_le_length (by unfold Tr.len at hj; omega), h2, List.append_assoc]
     · rw [if_neg hj]
       obtain ⟨h1, r, h2⟩ := ihb (j - a.len) ht.2.2 (by omega)
       refine ⟨h1, r, ?_⟩
       simp only [Tr.flat, List.drop_succ_cons]
       rw [List.drop_append, List.drop_eq_nil_of_le (by unfold Tr.len at hj; omega), List.nil_append]
       exact h2

theorem get_sub {t : Tr} {i : Nat} (ht : t.ok) (hi : i < t.flat.length) : t.flat[i] = (subT t i).root := by
 obtain ⟨h1, r, h2⟩ := subT_drop t i ht hi
 have h3 : (t.flat.drop i)[0]? = some t.flat[i] := by simp [hi]
 rw [h2, (subT t i).flat_root] at h3
 simpa using h3.symm

def kidGo : List Nat → Int → Int → Int
 | [], _, _ => 0
 | n :: r, j, k => if j - n < 0 then k else kidGo r (j - n) (k + 1)
def kidF (t : Tr) (j : Int) : Int := kidGo (t.kids.map Tr.len) j 0

theorem doom_kid_ok (t : Tr) (p : Perm) (ht : t.ok) (hl : t.flat.length ≤ 1000) (over at' : Nat) (ho : over < t.flat.length) (ha : at' < t.flat.length) :
 Pur doom_kid [rowA t.flat p, I over, I at'] (I (kidF (subT t over) (at' - (over + 1)))) := by
 intro H
 refine doom_kid_of ?_
 unfold W_doom_kid
 rw [bop_add (by omega) (by omega)]
 simp only [pureK_some]
 rw [bop_sub (by omega) (by omega)]
 simp only [pureK_some]
 obtain ⟨q, e1⟩ := sll_row (l := t.flat) (p := p) (a := over) (by omega)
 rw [e1]
 simp only [pureK_some]
 obtain ⟨hok, r, hr⟩ := subT_drop t over ht ho
 generalize subT t over = x at hok hr ⊢
 have hlen : x.flat.length + r.length ≤ 1000 := by
  have := congrArg List.length hr
  simp only [List.length_drop, List.length_append] at this
  omega
 rw [hr]
 refine (row_Kids_ok2 x r q hok (by simp; omega)).run ?_
 simp only [lnl_lst, pureK_some, List.length_map]
 have hk2 := x.kids_le
 refine ⟨fun vs H' n => H' = H ∧ ∃ (k : Nat) (j : Int), k ≤ x.kids.length ∧ vs = [I j, rowsA (x.kids.map Tr.flat) .no, I x.kids.length, I k] ∧ n = x.kids.length - k ∧ -100000 ≤ j ∧ j ≤ 100000 ∧ kidGo ((x.kids.drop k).map Tr.len) j k = kidF x (at' - (over + 1)) ∧ 0 ≤ j + 1000,
  ⟨_, H, Heap.le_refl _, rfl, 0, _, Nat.zero_le _, rfl, rfl, by omega, by omega, rfl, by omega⟩, ?_⟩
 rintro vs H' n ⟨rfl, k, j, hk, rfl, rfl, hj1, hj2, hgo, hj3⟩
 simp only [nth_zero, nth_succ, bop_lss, pureK_some, condK_B, decide_eq_true_eq, decide_eq_false_iff_not]
 refine ⟨fun h => ?_, fun h => ?_⟩
 · have hk' : k < x.kids.length := by omega
   rw [ias_rows (by simpa using hk')]
   simp only [pureK_some, ld_cp, cutE_one, get0, lnl_lst, List.length_map, List.getElem_map]
   have hxl : (x.kids[k]).flat.length ≤ 1000 := by
    obtain ⟨post, hpost⟩ := Tr.flat_split hk'
    have := congrArg List.length hpost
    simp only [List.length_append] at this
    omega
   rw [bop_sub (by omega) (by omega)]
   simp only [pureK_some, bop_lss, condK_B, decide_eq_true_eq, decide_eq_false_iff_not]
   rw [List.drop_eq_getElem_cons hk', List.map_cons] at hgo
   simp only [kidGo] at hgo
   rw [show (x.kids[k]).len = (x.kids[k]).flat.length from rfl] at hgo
   refine ⟨fun h1 => ret1_of H' (Heap.le_refl _) ⟨?_, rfl⟩, fun h1 => ?_⟩
   · rw [if_pos h1] at hgo; rw [hgo]
   · rw [if_neg h1] at hgo
     rw [bop_add (by omega) (by omega)]
     simp only [pureK_some]
     exact ⟨x.kids.length - (k + 1), _, by omega, Heap.le_refl _, rfl, k + 1, _, by omega, rfl, rfl, by omega, by omega, hgo, by omega⟩
 · have hk' : k = x.kids.length := by omega
   subst hk'
   rw [List.drop_length] at hgo
   refine ret1_of H' (Heap.le_refl _) ⟨?_, rfl⟩
   rw [← hgo]; rfl

end Go.Av
namespace Go.Av
open Go Go.Proofs

abbrev Stk := List (Nat × Int)
def stkC (s : Stk) : List AV := s.reverse.flatMap fun b => [I b.1, I b.2]
theorem stkC_cons (a : Nat) (l : Int) (s : Stk) : stkC ((a, l) :: s) = stkC s ++ [I a, I l] := by simp [stkC]
theorem stkC_len (s : Stk) : (stkC s).length = s.length * 2 := by
 induction s with
 | nil => rfl
 | cons b s ih => obtain ⟨a, l⟩ := b; rw [stkC_cons]; simp [ih]; omega

def SV (X : Nat → Prop) (H : Heap) (v : AV) (s : Stk) : Prop :=
 (v = .lst 0 [] .exact ∧ s = []) ∨ ∃ o cap zs, v = .ms o 0 s.length cap ∧ ¬ X o ∧ H o = some (.cells (stkC s ++ zs)) ∧ s.length ≤ cap ∧ (stkC s ++ zs).length = cap * 2

variable {X : Nat → Prop} {H H' : Heap} {v : AV} {s : Stk}

theorem SV.len (h : SV X H v s) : lnl v = some (I s.length) := by
 rcases h with ⟨rfl, rfl⟩ | ⟨o, cap, zs, rfl, _⟩ <;> rfl

theorem SV.frame (h : SV X H v s) (hf : ∀ i, ¬ X i → H i ≠ none → H' i = H i) : SV X H' v s := by
 rcases h with h | ⟨o, cap, zs, h1, h2, h3, h4, h5⟩
 · exact .inl h
 · exact .inr ⟨o, cap, zs, h1, h2, by rw [hf o h2 (by rw [h3]; simp)]; exact h3, h4, h5⟩

theorem SV.more (h : SV X H v s) {Y : Nat → Prop} (hy : ∀ i, Y i → X i ∨ H i = none) : SV Y H v s := by
 rcases h with h | ⟨o, cap, zs, h1, h2, h3, h4, h5⟩
 · exact .inl h
 · exact .inr ⟨o, cap, zs, h1, fun hh => (hy o hh).elim h2 (fun e => by rw [e] at h3; cases h3), h3, h4, h5⟩

theorem SV.top {a : Nat} {l : Int} (h : SV X H v ((a, l) :: s)) : ∃ o pos cs, ias 2 v (I ((((a, l) :: s).length : Int) - 1)) = some (.ptr o pos) ∧ ¬ X o ∧ H o = some (.cells cs) ∧ cs[pos]? = some (I a) ∧ cs[pos + 1]? = some (I l) ∧ pos + 2 ≤ cs.length ∧
 ∀ H2 l', SV X (Heap.upd H2 o (.cells (splice cs (pos + 1) [I l']))) v ((a, l') :: s) := by
 rcases h with ⟨_, h⟩ | ⟨o, cap, zs, rfl, h2, h3, h4, h5⟩
 · cases h
 · refine ⟨o, s.length * 2, _, ?_, h2, h3, ?_, ?_, ?_, fun H2 l' => ?_⟩
   · simp only [List.length_cons, ias]
     have : ((s.length + 1 : Nat) : Int) - 1 = (s.length : Int) := by omega
     rw [this]
     simp
     omega
   · rw [stkC_cons, List.append_assoc, List.getElem?_append_right (by rw [stkC_len]; exact Nat.le_refl _), stkC_len]; simp
   · rw [stkC_cons, List.append_assoc, List.getElem?_append_right (by rw [stkC_len]; omega), stkC_len]
     rw [show s.length * 2 + 1 - s.length * 2 = 1 by omega]; simp
   · rw [stkC_cons]; simp [stkC_len]
   · refine .inr ⟨o, cap, zs, by simp, h2, ?_, by simpa using h4, ?_⟩
     · rw [Heap.upd_same]
       congr 2
       rw [stkC_cons, stkC_cons]
       have e1 : stkC s ++ [I a, I l] ++ zs = (stkC s ++ [I a]) ++ ([I l] ++ zs) := by simp
       have e2 : s.length * 2 + 1 = (stkC s ++ [I a]).length := by simp [stkC_len]
       unfold splice
       rw [e1, e2, List.take_left, List.length_singleton, ← List.drop_drop, List.drop_left]
       simp
     · rw [stkC_cons] at h5 ⊢
       simpa using h5

theorem SV.pop {a : Nat} {l : Int} (h : SV X H v ((a, l) :: s)) : ∃ v', sll 2 v none (some (I ((((a, l) :: s).length : Int) - 1))) none = some v' ∧ SV X H v' s := by
 rcases h with ⟨_, h⟩ | ⟨o, cap, zs, rfl, h2, h3, h4, h5⟩
 · cases h
 · refine ⟨.ms o 0 s.length cap, ?_, .inr ⟨o, cap, [I a, I l] ++ zs, rfl, h2, ?_, by simp at h4; omega, ?_⟩⟩
   · have e : ((((a, l) :: s).length : Nat) : Int) - 1 = (s.length : Int) := by simp
     rw [e]
     have h4' : s.length + 1 ≤ cap := by simpa using h4
     simp only [sll, bound]
     simp
     omega
   · rw [h3, stkC_cons]; simp
   · rw [stkC_cons] at h5; simpa using h5

theorem SV.push {K : AV → Heap → Prop} (h : SV X H v s) (a : Nat) (l : Int) (hX : ∀ i, X i → H i ≠ none) (hl : s.length ≤ 100000)
 (k : ∀ v' H', SV X H' v' ((a, l) :: s) → (∀ i, X i → H' i = H i) → K v' H') : appK 2 v (.lst 2 [.agg [I a, I l]] .exact) H K := by
 right
 have hne : ∀ i, X i → ∀ o, H o = none → i ≠ o := fun i hi o ho e => by subst e; exact hX i hi ho
 rcases h with ⟨rfl, rfl⟩ | ⟨o, cap, zs, rfl, h2, h3, h4, h5⟩
 · simp only [appM, appended, if_true, true_or]
   refine ⟨.inr trivial, by simp, by simp [maxApp], fun o cap zs ho hc hz => ?_⟩
   refine k _ _ (.inr ⟨o, cap, zs, by simp, fun hh => hX o hh ho, by simp [Heap.upd_same, stkC], by simpa using hc, ?_⟩) fun i hi => Heap.upd_ne _ _ (hne i hi o ho)
   simp [stkC, hz] at hc ⊢; omega
 · simp only [appM, appended, if_true, true_or, h3]
   have h5' : s.length * 2 + zs.length = cap * 2 := by simpa [stkC_len] using h5
   refine ⟨by simp [stkC_len]; omega, h4, by simp, by simp [maxApp]; omega, fun hc => ?_, fun hc o2 cap2 zs2 ho hc2 hz => ?_⟩
   · have hc' : s.length + 1 ≤ cap := by simpa using hc
     refine k _ _ (.inr ⟨o, cap, zs.drop 2, by simp, h2, ?_, by simpa using hc', ?_⟩) fun i hi => Heap.upd_ne _ _ (fun e => h2 (e ▸ hi))
     · rw [Heap.upd_same]
       congr 2
       rw [stkC_cons]
       unfold splice
       have e2 : 0 + s.length * 2 = (stkC s).length := by rw [stkC_len]; omega
       rw [e2, List.take_left, ← List.drop_drop, List.drop_left]
       simp
     · rw [stkC_cons]; simp [stkC_len]; omega
   · refine k _ _ (.inr ⟨o2, cap2, zs2, by simp, fun hh => hX o2 hh ho, ?_, by simpa using hc2, ?_⟩) fun i hi => Heap.upd_ne _ _ (hne i hi o2 ho)
     · rw [Heap.upd_same]
       congr 2
       rw [stkC_cons, List.drop_zero]
       have e2 : s.length * 2 = (stkC s).length := by rw [stkC_len]
       rw [e2, List.take_left]
       simp
     · rw [stkC_cons]
       simp at hc2 hz
       simp [stkC_len, hz]; omega

def popZ (s : Stk) : Stk := s.dropWhile fun b => b.2 == 0
def decT : Stk → Stk
 | [] => []
 | (a, l) :: s => (a, l - 1) :: s
def topT : Stk → Int
 | [] => -1
 | (a, _) :: _ => a
def goO : List Node → Nat → Stk → List Int
 | [], _, _ => []
 | n :: r, k, s => topT s :: goO r (k + 1) (if 0 < arity n.kind then (k, arity n.kind) :: decT s else popZ (decT s))
def ovT : Tr → Nat → Int → List Int
 | .l0 _, _, o => [o]
 | .l1 _ a, k, o => o :: ovT a (k + 1) k
 | .l2 _ a c, k, o => o :: (ovT a (k + 1) k ++ ovT c (k + 1 + a.len) k)

theorem ovT_len : ∀ (t : Tr) (k : Nat) (o : Int), (ovT t k o).length = t.len := by
 intro t
 induction t with
 | l0 n => intro k o; rfl
 | l1 n a ih => intro k o; rw [len_l1]; simp [ovT, ih]; omega
 | l2 n a b iha ihb => intro k o; rw [len_l2]; simp [ovT, iha, ihb]; omega

theorem popZ_zero (a : Nat) (s : Stk) : popZ ((a, 0) :: s) = popZ s := by simp [popZ]
theorem popZ_pos (a : Nat) (l : Int) (s : Stk) (h : l ≠ 0) : popZ ((a, l) :: s) = (a, l) :: s := by simp [popZ, h]

theorem goO_tree : ∀ (t : Tr), t.ok → ∀ (r : List Node) (k : Nat) (s : Stk), goO (t.flat ++ r) k s = ovT t k (topT s) ++ goO r (k + t.len) (popZ (decT s)) := by
 intro t
 induction t with
 | l0 n =>
   intro ht r k s
   have h : arity n.kind = 0 := ht
   simp [Tr.flat, goO, ovT, h, len_l0]
 | l1 n a ih =>
   intro ht r k s
   have h : arity n.kind = 1 := ht.1
   rw [len_l1]
   simp only [Tr.flat, List.cons_append, goO, ovT, h]
   rw [if_pos (by omega), ih ht.2]
   simp only [topT, decT, show (1 : Int) - 1 = 0 by omega, popZ_zero]
   rw [show k + 1 + a.len = k + (1 + a.len) by omega]
 | l2 n a b iha ihb =>
   intro ht r k s
   have h : arity n.kind = 2 := ht.1
   rw [len_l2]
   simp only [Tr.flat, List.cons_append, List.append_assoc, goO, ovT, h]
   rw [if_pos (by omega), iha ht.2.1]
   simp only [topT, decT, show (2 : Int) - 1 = 1 by omega]
   rw [popZ_pos _ _ _ (by omega), ihb ht.2.2]
   simp only [topT, decT, show (1 : Int) - 1 = 0 by omega, popZ_zero]
   rw [show k + 1 + a.len + b.len = k + (1 + a.len + b.len) by omega]

def overs (t : Tr) : List Int := ovT t 0 (-1)
theorem goO_overs {t : Tr} (h : t.ok) : goO t.flat 0 [] = overs t := by
 have := goO_tree t h [] 0 []
 simpa [goO, overs, topT] using this

end Go.Av
namespace Go.Av
open Go Go.Proofs

instance : Inhabited Node := ⟨⟨0, emp, 0⟩⟩
theorem AYield.mono {P : Program} {Γ : Nat → Option AV} {o : Nat} {args : List AV} {H : Heap} {R R' : AV → Heap → Prop} (h : AYield P Γ o args H R) (hr : ∀ r H', R r H' → R' r H') : AYield P Γ o args H R' := by
 intro G w vs n hW hl ha
 refine YieldAt.mono (h G w vs n hW hl ha) ?_
 rintro e w' ⟨v, G', r, H', h1, h2, h3, h4, h5⟩
 exact ⟨v, G', r, H', h1, h2, h3, h4, hr _ _ h5⟩
theorem callK_yl {E : Env} (hP : E.P = PP) (hG : E.Γ = gΓ) {o : Nat} {args : List AV} {H : Heap} {K : AV → Heap → Prop} (h : AYield PP gΓ o args H K) : callK E (.yl o) args H K := by
 unfold callK; rw [hP, hG]; exact h

structure YProto (o : Nat) (ovs : List Int) (HB : Nat → Heap) : Prop where
 dom : ∀ k i, HB k i = none ↔ HB 0 i = none
 call : ∀ (k : Nat) (hk : k < ovs.length) (c : Value) (H : Heap), plain c = true → HB k ≤ H →
  AYield PP gΓ o [I k, .agg [.sc c, I (ovs[k])]] H (fun r H' => r = B true ∧ HB (k + 1) ≤ H' ∧ ∀ i, HB k i = none → H i ≠ none → H' i = H i)

theorem cv_float (k : FloatKind) (n : Int) : cv (.toFloat k) (I n) = some (.sc (.float k (k.nearest n))) := rfl
theorem cpx_eq (k : FloatKind) (a b : Nat) : cpx (.sc (.float k a)) (.sc (.float k b)) = some (.sc (.complex k a b)) := by simp [cpx]
theorem bld_spot (c : Value) (n : Int) : bld [(0, 1), (1, 1)] [.sc (.complex .f64 0 0), I 0] [(0, .sc c), (1, I n)] = some (.agg [.sc c, I n]) := rfl
theorem bld_branch (a b : Int) : bld [(0, 1), (1, 1)] [I 0, I 0] [(0, I a), (1, I b)] = some (.agg [I a, I b]) := rfl
theorem bsl_branch (a b : Int) : bsl 2 (.agg [I 0, I 0]) 1 [(0, .agg [I a, I b])] = some (.lst 2 [.agg [I a, I b]] .exact) := rfl
theorem st_one {H : Heap} {o off : Nat} {cs : List AV} {v : AV} (h : H o = some (.cells cs)) (ho : off + 1 ≤ cs.length) (hv : v.cells = [v]) (hs : v.single = true) : st 1 H (.ptr o off) v = some (H.upd o (.cells (splice cs off [v]))) := by
 simp [st, h, hv, hs, ho]

theorem arity_nonneg {t : Tr} {k : Nat} (ht : t.ok) (hk : k < t.flat.length) : 0 ≤ arity (t.flat[k]).kind := by
 rw [get_sub ht hk, Tr.arity_root (subT_drop t k ht hk).1]; omega

def Mid (t : Tr) (p : Perm) (o : Nat) (HB : Nat → Heap) (k o18 : Nat) (s : Stk) (vs : List AV) (H' : Heap) (m : Nat) : Prop :=
 ∃ (v : AV) (s2 : Stk) (lv : Nat), vs = [.yl o, v, I lv, .ptr o18 0, rowA t.flat p, I t.flat.length, I k] ∧ HB (k + 1) ≤ H' ∧ H' o18 = some (.cells [I (t.flat.getD k default).kind, S (t.flat.getD k default).name, I (t.flat.getD k default).sign]) ∧ lv ≤ k + 1 ∧
   SV (fun i => HB 0 i ≠ none ∨ i = o18) H' v s2 ∧ (if arity (t.flat.getD k default).kind = 0 then popZ s2 = popZ (decT s) else s2 = (k, arity (t.flat.getD k default).kind) :: decT s) ∧ s2.length ≤ k + 1 ∧ (∀ b, b ∈ s2 → -((k : Int) + 1) ≤ b.2 ∧ b.2 ≤ 2) ∧ m = s2.length

theorem spots_1_ok (t : Tr) (ht : t.ok) (hl : t.flat.length ≤ 1000) (p : Perm) {o : Nat} {HB : Nat → Heap} (hy : YProto o (overs t) HB) {a1 : AV} {H : Heap} (hB : HB 0 ≤ H) (hld : ld (some false) 1 H a1 = some (rowA t.flat p)) :
 ACalls PP gΓ plot_spots_1 [.yl o, a1] H (fun _ H' => HB t.flat.length ≤ H') := by
 refine plot_spots_1_of ?_
 unfold W_plot_spots_1
 rw [hld]
 simp only [pureK_some]
 refine (plot_one_ok t.flat p (by omega)).run ?_
 have hpos := t.flat_pos
 have h1 : (decide (0 < t.flat.length) && decide (size t.flat = t.flat.length)) = true := by
  have : size t.flat = t.flat.length := by simpa using size_flat ht []
  simp [this, hpos]
 rw [h1]
 simp only [unE_not, Bool.not_true, condK_B, pureK_some]
 refine ⟨fun h => (by cases h), fun _ => ?_⟩
 rw [hld]
 simp only [pureK_some, lnl_lst, List.length_map]
 have holen : (overs t).length = t.flat.length := ovT_len t 0 (-1)
 refine ⟨fun vs H' n => ∃ (k : Nat) (v : AV) (s : Stk) (lv : Nat), k ≤ t.flat.length ∧ vs = [.yl o, v, I lv, rowA t.flat p, I t.flat.length, I k] ∧ n = t.flat.length - k ∧ HB k ≤ H' ∧ lv ≤ k ∧ SV (fun i => HB 0 i ≠ none) H' v s ∧
  goO (t.flat.drop k) k s = (overs t).drop k ∧ s.length ≤ k ∧ (∀ b, b ∈ s → -(k : Int) ≤ b.2 ∧ b.2 ≤ 2),
  ⟨_, H, Heap.le_refl _, 0, _, [], 0, Nat.zero_le _, rfl, rfl, hB, Nat.le_refl _, .inl ⟨rfl, rfl⟩, by simpa using goO_overs ht, Nat.le_refl _, by simp⟩, ?_⟩
 rintro vs H9 n ⟨k, v, s, lv, hk, rfl, rfl, hBk, hlv, hsv, hgo, hsl, hbd⟩
 simp only [nth_zero, nth_succ, bop_lss, pureK_some, condK_B, decide_eq_true_eq, decide_eq_false_iff_not]
 refine ⟨fun h => ?_, fun h => ?_⟩
 rotate_left
 · have hk' : k = t.flat.length := by omega
   subst hk'
   exact ret1_of H9 (Heap.le_refl _) hBk
 have hk' : k < t.flat.length := by omega
 have hko : k < (overs t).length := by omega
 have hgetD : t.flat.getD k default = t.flat[k] := by simp [List.getD_eq_getElem?_getD, hk']
 have hdrop : t.flat.drop k = t.flat[k] :: t.flat.drop (k + 1) := List.drop_eq_getElem_cons hk'
 have hodrop : (overs t).drop k = (overs t)[k] :: (overs t).drop (k + 1) := List.drop_eq_getElem_cons hko
 have har0 := arity_nonneg ht hk'
 have har2 := (arity_range (t.flat[k]).kind).2
 rw [hdrop, hodrop] at hgo
 simp only [goO, List.cons.injEq] at hgo
 obtain ⟨hov, hgo⟩ := hgo
 rw [ias_row (by omega) (by omega)]
 simp only [pureK_some, ld_cp, cut_nd, Int.toNat_natCast]
 generalize hnd : t.flat[k] = nk at har0 har2 hgo ⊢
 rw [hnd] at hgetD
 intro o18 ho18
 rw [st_nd3]
 simp only [heapK_some, cv_float, pureK_some, hsv.len, cpx_eq]
 rw [bld_spot]
 simp only [pureK_some]
 generalize hc : Value.complex .f64 (FloatKind.nearest .f64 (lv : Int)) (FloatKind.nearest .f64 (s.length : Int)) = c
 have hpl : plain c = true := by rw [← hc]; rfl
 intro o26 ho26
 simp only [upd_none_iff] at ho26
 have est : st 2 ((H9.upd o18 (.cells [I nk.kind, S nk.name, I nk.sign])).upd o26 (.cells [.sc (.complex .f64 0 0), .sc (.int .i64 0)])) (.ptr o26 0) (.agg [.sc c, I (-1)]) = some ((H9.upd o18 (.cells [I nk.kind, S nk.name, I nk.sign])).upd o26 (.cells [.sc c, I (-1)])) := by simp [splice]
 rw [est]
 simp only [heapK_some]
 clear est
 have hB18 : HB k o18 = none := le_none hBk ho18
 have hB26 : HB k o26 = none := le_none hBk ho26.2
 have hBd : ∀ i, HB 0 i ≠ none → HB k i ≠ none := fun i h h' => h ((hy.dom k i).1 h')
 have hB28 : HB k ≤ (H9.upd o18 (.cells [I nk.kind, S nk.name, I nk.sign])).upd o26 (.cells [.sc c, I (-1)]) := Heap.le_upd (Heap.le_upd hBk hB18) hB26
 have hsv28 : SV (fun i => HB 0 i ≠ none ∨ i = o18 ∨ i = o26) ((H9.upd o18 (.cells [I nk.kind, S nk.name, I nk.sign])).upd o26 (.cells [.sc c, I (-1)])) v s := by
  refine SV.frame (hsv.more fun i hi => ?_) fun i hi _ => ?_
  · rcases hi with hi | hi | hi
    · exact .inl hi
    · exact .inr (hi ▸ ho18)
    · exact .inr (hi ▸ ho26.2)
  · rw [Heap.upd_ne _ _ (fun e => hi (.inr (.inr e))), Heap.upd_ne _ _ (fun e => hi (.inr (.inl e)))]
 have h18 : ((H9.upd o18 (.cells [I nk.kind, S nk.name, I nk.sign])).upd o26 (.cells [.sc c, I (-1)])) o18 = some (.cells [I nk.kind, S nk.name, I nk.sign]) := by
  rw [Heap.upd_ne _ _ (fun e => ho26.1 e.symm), Heap.upd_same]
 have h26 : ((H9.upd o18 (.cells [I nk.kind, S nk.name, I nk.sign])).upd o26 (.cells [.sc c, I (-1)])) o26 = some (.cells [.sc c, I (-1)]) := Heap.upd_same _ _ _
 generalize ((H9.upd o18 (.cells [I nk.kind, S nk.name, I nk.sign])).upd o26 (.cells [.sc c, I (-1)])) = H28 at hB28 hsv28 h18 h26 ⊢
 refine ⟨fun vs H31 => vs = [.yl o, v, I lv, I k, .ptr o18 0, .ptr o26 0, rowA t.flat p, I t.flat.length, I k] ∧ HB k ≤ H31 ∧ H31 o18 = some (.cells [I nk.kind, S nk.name, I nk.sign]) ∧ H31 o26 = some (.cells [.sc c, I (topT s)]) ∧ SV (fun i => HB 0 i ≠ none ∨ i = o18 ∨ i = o26) H31 v (decT s), ?_, ?_⟩
 · simp only [hsv28.len, pureK_some, bop_gtr, condK_B, decide_eq_true_eq, decide_eq_false_iff_not]
   refine ⟨fun hpos => ?_, fun hz => ?_⟩
   · cases s with
     | nil => simp at hpos
     | cons b s =>
       obtain ⟨a, l⟩ := b
       obtain ⟨hl1, hl2⟩ := hbd (a, l) (by simp)
       simp only at hl1 hl2
       have hsl' : s.length + 1 ≤ k := by simpa using hsl
       rw [bop_sub (by simp only [List.length_cons]; omega) (by simp only [List.length_cons]; omega)]
       obtain ⟨os, pos, cs, e1, e2, e3, e4, e5, e6, e7⟩ := hsv28.top
       simp only [pureK_some]
       rw [e1]
       simp only [pureK_some, nilE_ptr, fa_ptr, Nat.add_zero, Nat.zero_add, ld_ptr e3, cutE_one, e4]
       have hos26 : os ≠ o26 := fun e => e2 (.inr (.inr e))
       have hos18 : os ≠ o18 := fun e => e2 (.inr (.inl e))
       rw [st_one h26 (by simp) rfl rfl]
       simp only [heapK_some]
       have e3' : (H28.upd o26 (.cells (splice [.sc c, I (-1)] 1 [I (a : Int)]))) os = some (.cells cs) := by rw [Heap.upd_ne _ _ hos26]; exact e3
       simp only [ld_ptr e3', cutE_one, e5, pureK_some]
       rw [bop_sub (by omega) (by omega)]
       simp only [pureK_some]
       rw [st_one e3' (by omega) rfl rfl]
       simp only [heapK_some]
       refine ⟨_, Heap.le_refl _, by simp, Heap.le_upd (Heap.le_upd hB28 hB26) ?_, ?_, ?_, ?_⟩
       · cases e : HB k os with
         | none => rfl
         | some x => exact absurd (.inl (fun e' => by rw [(hy.dom k os).2 e'] at e; cases e)) e2
       · rw [Heap.upd_ne _ _ (fun e => hos18 e.symm), Heap.upd_ne _ _ (fun e => ho26.1 e.symm)]; exact h18
       · rw [Heap.upd_ne _ _ (fun e => hos26 e.symm), Heap.upd_same]; simp [splice, topT]
       · exact e7 _ _
   · cases s with
     | nil => exact ⟨_, Heap.le_refl _, by simp, hB28, h18, h26, hsv28⟩
     | cons b s => exact absurd (by simp) hz
 rintro vs H31 ⟨rfl, hB31, g18, g26, hsv31⟩
 simp only [nth_zero, nth_succ, ld_ptr g26]
 have ecut : cutE [.sc c, I (topT s)] 0 (some true) 2 = some (.agg [.sc c, I (topT s)]) := rfl
 rw [ecut]
 simp only [pureK_some]
 refine callK_yl rfl rfl ?_
 have hcall := hy.call k hko c H31 hpl hB31
 rw [← hov] at hcall
 refine hcall.mono ?_
 rintro r H52 ⟨rfl, hB52, hfr⟩
 simp only [unE_not, Bool.not_true, pureK_some, condK_B]
 refine ⟨fun h => (by cases h), fun _ => ?_⟩
 have g52 : H52 o18 = some (.cells [I nk.kind, S nk.name, I nk.sign]) := by rw [hfr o18 hB18 (by rw [g18]; simp)]; exact g18
 have hsv52 : SV (fun i => HB 0 i ≠ none ∨ i = o18) H52 v (decT s) := by
  refine SV.more (SV.frame hsv31 fun i hi hn => hfr i ?_ hn) fun i hi => .inl (hi.imp id .inl)
  refine (hy.dom k i).2 (Classical.byContradiction fun h => hi (.inl h))
 have hdl : (decT s).length = s.length := by cases s with | nil => rfl | cons b s => rfl
 have hdb : ∀ b, b ∈ decT s → -((k : Int) + 1) ≤ b.2 ∧ b.2 ≤ 2 := by
  intro b hb
  cases s with
  | nil => simp [decT] at hb
  | cons b0 s =>
    obtain ⟨a, l⟩ := b0
    simp only [decT, List.mem_cons] at hb
    rcases hb with rfl | hb
    · have := hbd (a, l) (by simp); simp only at this ⊢; omega
    · have := hbd b (by simp [hb]); omega
 refine ⟨fun vs H' => ∃ m, Mid t p o HB k o18 s vs H' m, ?_, ?_⟩
 · simp only [fa_ptr, pureK_some, ld_ptr g52, cutE_one, get0, Nat.zero_add]
   refine (row_Arity_ok _).run ?_
   simp only [bop_gtr, pureK_some, condK_B, decide_eq_true_eq, decide_eq_false_iff_not]
   refine ⟨fun hpos => ?_, fun hz => ?_⟩
   · rw [bld_branch]
     simp only [pureK_some]
     rw [bsl_branch]
     simp only [pureK_some]
     refine SV.push hsv52 k (arity nk.kind) (fun i hi => ?_) (by omega) fun v' H' hsv' hfr' => ?_
     · rcases hi with hi | rfl
       · cases e : HB (k + 1) i with
         | none => exact absurd ((hy.dom (k + 1) i).1 e) hi
         | some x => rw [hB52 i x e]; simp
       · rw [g52]; simp
     · refine ⟨_, Heap.le_refl _, _, v', _, lv, rfl, fun i x e => ?_, ?_, by omega, hsv', ?_, ?_, ?_, rfl⟩
       · rw [hfr' i (.inl (fun e' => by rw [(hy.dom (k + 1) i).2 e'] at e; cases e))]; exact hB52 i x e
       · rw [hfr' o18 (.inr rfl), hgetD]; exact g52
       · rw [hgetD, if_neg (by omega)]
       · simp [hdl]; omega
       · intro b hb
         rcases List.mem_cons.1 hb with rfl | hb
         · simp only; omega
         · exact hdb b hb
   · rw [bop_add (by omega) (by omega)]
     simp only [pureK_some]
     refine ⟨_, Heap.le_refl _, _, v, decT s, lv + 1, by simp, hB52, by rw [hgetD]; exact g52, by omega, hsv52, ?_, by omega, hdb, rfl⟩
     rw [hgetD, if_pos (by omega)]
 rintro vs H56 ⟨m0, hm0⟩
 refine ⟨Mid t p o HB k o18 s, ⟨m0, H56, Heap.le_refl _, by obtain ⟨v2, s2, lv2, rfl, hh⟩ := hm0; exact ⟨v2, s2, lv2, rfl, hh⟩⟩, ?_⟩
 rintro vs H70 m ⟨v2, s2, lv2, rfl, hB70, g70, hlv2, hsv2, hst, hsl2, hbd2, rfl⟩
 rw [hgetD] at g70 hst
 have fin : goO (t.flat.drop (k + 1)) (k + 1) s2 = (overs t).drop (k + 1) → ∃ (n11 : Nat) (H12 : Heap), n11 < t.flat.length - k ∧ H12 ≤ H70 ∧ ∃ (k1 : Nat) (v1 : AV) (s1 : Stk) (lv1 : Nat), k1 ≤ t.flat.length ∧ [AV.yl o, v2, I lv2, rowA t.flat p, I t.flat.length, I ((k : Int) + 1)] = [.yl o, v1, I lv1, rowA t.flat p, I t.flat.length, I k1] ∧ n11 = t.flat.length - k1 ∧ HB k1 ≤ H12 ∧ lv1 ≤ k1 ∧ SV (fun i => HB 0 i ≠ none) H12 v1 s1 ∧
  goO (t.flat.drop k1) k1 s1 = (overs t).drop k1 ∧ s1.length ≤ k1 ∧ (∀ b, b ∈ s1 → -(k1 : Int) ≤ b.2 ∧ b.2 ≤ 2) := fun hg =>
  ⟨t.flat.length - (k + 1), H70, by omega, Heap.le_refl _, k + 1, v2, s2, lv2, by omega, by simp, rfl, hB70, hlv2, hsv2.more fun i hi => .inl (.inl hi), hg, hsl2, fun b hb => by have := hbd2 b hb; omega⟩
 simp only [nth_zero, nth_succ, hsv2.len, pureK_some, bop_gtr, condK_B, decide_eq_true_eq, decide_eq_false_iff_not]
 refine ⟨fun hpos => ?_, fun hz => ?_⟩
 · cases s2 with
   | nil => simp at hpos
   | cons b s3 =>
     obtain ⟨a, l⟩ := b
     have hsl' : s3.length ≤ k := by simpa using hsl2
     rw [bop_sub (by simp only [List.length_cons]; omega) (by simp only [List.length_cons]; omega)]
     obtain ⟨os, pos, cs, e1, e2, e3, e4, e5, e6, e7⟩ := hsv2.top
     simp only [pureK_some]
     rw [e1]
     simp only [pureK_some, fa_ptr, ld_ptr e3, cutE_one, e5, bop_eql, condK_B, decide_eq_true_eq, decide_eq_false_iff_not]
     refine ⟨fun hl0 => ?_, fun hl0 => ?_⟩
     · simp only [Nat.zero_add, ld_ptr g70, cutE_one, get0, pureK_some]
       refine (row_Arity_ok _).run ?_
       simp only [bop_eql, pureK_some, condK_B, decide_eq_true_eq, decide_eq_false_iff_not]
       refine ⟨fun ha => ?_, fun ha => ?_⟩
       · obtain ⟨v3, e8, hsv3⟩ := hsv2.pop
         rw [e8]
         simp only [pureK_some]
         rw [if_pos ha, hl0, popZ_zero] at hst
         exact ⟨s3.length, H70, by simp, Heap.le_refl _, v3, s3, lv2, rfl, hB70, by rw [hgetD]; exact g70, hlv2, hsv3, by rw [hgetD, if_pos ha]; exact hst, by simp at hsl2; omega, fun b hb => hbd2 b (by simp [hb]), rfl⟩
       · rw [bop_add (by omega) (by omega)]
         simp only [pureK_some]
         refine fin ?_
         rw [if_neg ha] at hst
         rw [hst, ← hgo, if_pos (by omega)]
     · rw [bop_add (by omega) (by omega)]
       simp only [pureK_some]
       refine fin ?_
       rw [← hgo]
       by_cases ha : arity nk.kind = 0
       · rw [if_pos ha, popZ_pos _ _ _ hl0] at hst
         rw [hst, if_neg (by omega)]
       · rw [if_neg ha] at hst
         rw [hst, if_pos (by omega)]
 · have hs2 : s2 = [] := List.eq_nil_of_length_eq_zero (by omega)
   subst hs2
   rw [bop_add (by omega) (by omega)]
   simp only [pureK_some]
   refine fin ?_
   rw [← hgo]
   by_cases ha : arity nk.kind = 0
   · rw [if_pos ha] at hst
     rw [← hst, if_neg (by omega)]; rfl
   · rw [if_neg ha] at hst
     cases hst

end Go.Av
