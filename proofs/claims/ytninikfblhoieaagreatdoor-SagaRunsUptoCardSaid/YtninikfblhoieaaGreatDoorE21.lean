/- Own text E21 of this claim: see the text that holds the theorem. -/
import Derived.Test.YtninikfblhoieaaGreatDoorED
set_option linter.all false
set_option maxRecDepth 100000
namespace Go.Av
open Go Go.Proofs

def cutG (g : SG) (n : Int) : SG := { g with d := { g.d with cut := true, left := max 0 n } }
def stG (g : SG) : St := ⟨g.t.flat, g.m.1, g.m.2, g.n, g.a⟩
structure LastI (L c : Nat) (g g0 : SG) : Prop where
 ok : OkM L c g
 ok0 : OkM L c { g with t := g0.t, m := g0.m, n := g0.n, a := g0.a }
 r0 : rightS (stG g0) = true
 kept : Kept g.d (g0.n + 1) (enc (stG g0))
 is : stG g = stG g0 ∧ g.t = g0.t ∨ g.down = true ∧ g.n = g0.n + 1
theorem SG.same {g g0 : SG} (e1 : stG g = stG g0) (e2 : g.t = g0.t) : g.t = g0.t ∧ g.m = g0.m ∧ g.n = g0.n ∧ g.a = g0.a := by
 unfold stG at e1
 injection e1 with a1 a2 a3 a4 a5
 exact ⟨e2, Prod.ext a2 a3, by omega, a5⟩
theorem LastI.new {l : List Node} {ps rf : List Int} {nb : Int} (h : newE l nb = 0) (hp : ps.length ≤ 1100000) (hr : rf.length ≤ 1100000) (hok : OkM l.length 0 (newG l ps rf nb)) (hk : Kept (newG l ps rf nb).d 1 (enc (keepS (preG l ps rf nb)))) :
 LastI l.length 0 (newG l ps rf nb) (newG l ps rf nb) := by
 obtain ⟨hpre, _⟩ := pre_ok (l := l) (ps := ps) (rf := rf) h hp hr
 exact ⟨hok, hok, hpre.keepR, hk, .inl ⟨rfl, rfl⟩⟩
theorem OkM.with {L c : Nat} {g g' : SG} (h : OkM L c { g with t := g'.t, m := g'.m, n := g'.n, a := g'.a }) {g2 : SG} {c2 : Nat} (k : OkM L c2 g2) : OkM L c2 { g2 with t := g'.t, m := g'.m, n := g'.n, a := g'.a } :=
 ⟨⟨h.live, h.len, h.L60, h.al, h.nw, h.nm, k.dok, k.h3, k.room, k.dl, k.rf, k.pk⟩, h.hm⟩
theorem LastI.step {L c : Nat} {g g0 : SG} (h : LastI L c g g0) : ((stepG g).2 = 0 → LastI L (c + 1) (stepG g).1 (stepG g).1) ∧ ((stepG g).2 ≠ 0 → LastI L (c + 1) (stepG g).1 g0) := by
 by_cases hs : stopsE g = 0
 · obtain ⟨hdn, hk11⟩ := stopsE_zero hs
   have hst := h.ok.step
   rcases h.is with ⟨e1, e2⟩ | ⟨e, _⟩
   rotate_left
   · rw [hdn] at e; cases e
   obtain ⟨_, em, en, ea⟩ := SG.same e1 e2
   have hk : Kept g.d (g.n + 1) (enc (stG g0)) := by rw [en]; exact h.kept
   have hg := h.ok.gone hk11
   rcases step_kept h.ok hs hk with ⟨s1, s2⟩ | ⟨s0, s1, s2⟩
   · rw [s1] at hst ⊢
     refine ⟨fun _ => ⟨hst, hst, hg.keepR, ?_, .inl ⟨rfl, rfl⟩⟩, fun e => absurd rfl e⟩
     exact s2
   · rw [s1] at hst ⊢
     refine ⟨fun e => (by cases e), fun _ => ⟨hst, h.ok0.with hst, h.r0, ?_, .inr ⟨rfl, ?_⟩⟩⟩
     · rw [en] at s2; exact s2
     · show g.n + 1 = g0.n + 1
       rw [en]
 · have e : stepG g = (g, stopsE g) := by unfold stepG; rw [if_pos hs]
   rw [e]
   refine ⟨fun h0 => absurd h0 hs, fun _ => ⟨h.ok.mono (by omega), h.ok0.mono (by omega), h.r0, h.kept, h.is⟩⟩
theorem LastI.halt {L c : Nat} {g g0 : SG} (h : LastI L c g g0) : LastI L (c + 1) (haltG g).1 g0 := by
 have hst := h.ok.halt
 by_cases hs : stopsE g = 0
 · have e : haltG g = ({ askG g with down := true }, 0) := by unfold haltG; rw [if_neg (by simp [hs])]
   obtain ⟨hdn, _⟩ := stopsE_zero hs
   rcases h.is with ⟨e1, e2⟩ | ⟨e, _⟩
   rotate_left
   · rw [hdn] at e; cases e
   rw [e] at hst ⊢
   obtain ⟨a1, a2, a3, a4, a5, a6, a7, a8⟩ := askG_same g
   refine ⟨hst, h.ok0.with hst, h.r0, ?_, .inl ⟨?_, ?_⟩⟩
   · show Kept (askG g).d _ _
     rw [a8]; exact h.kept
   · rw [← e1]
     show (⟨(askG g).t.flat, (askG g).m.1, (askG g).m.2, (askG g).n, (askG g).a⟩ : St) = _
     rw [a3, a4, a5, a6]; rfl
   · show (askG g).t = g0.t
     rw [a3]; exact e2
 · have e : haltG g = (g, stopsE g) := by unfold haltG; rw [if_pos hs]
   rw [e]
   exact ⟨h.ok.mono (by omega), h.ok0.mono (by omega), h.r0, h.kept, h.is⟩
theorem LastI.recover {L c : Nat} {g g0 : SG} (h : LastI L c g g0) : (recG g).2 = 0 ∧ stG (recG g).1 = stG g0 ∧ LastI L c (recG g).1 g0 := by
 have ht : treeOf (stG g0).l = g0.t := treeOf_flat h.ok0.live.good.ok
 have e := rec_kept h.kept h.r0
 rw [ht] at e
 have e' : recG g = ({ g with d := { g.d with cut := false }, t := g0.t, m := g0.m, n := g0.n, a := g0.a, down := false }, 0) := e
 rw [e']
 have ok1 : OkM L c { g with d := { g.d with cut := false }, t := g0.t, m := g0.m, n := g0.n, a := g0.a, down := false } := (h.ok0.disk (d' := { g.d with cut := false }) h.ok.dok rfl).setDown false
 exact ⟨rfl, rfl, ok1, ok1, h.r0, h.kept.uncut, .inl ⟨rfl, rfl⟩⟩
theorem LastI.cut {L c : Nat} {g g0 : SG} (h : LastI L c g g0) (n : Int) : LastI L c (cutG g n) g0 := by
 have ok1 : OkM L c (cutG g n) := h.ok.disk (d' := { g.d with cut := true, left := max 0 n }) h.ok.dok rfl
 exact ⟨ok1, h.ok0.with ok1, h.r0, ⟨h.kept.ok, h.kept.h3, h.kept.has, h.kept.old, h.kept.room⟩, h.is⟩
theorem LastI.more {L c c' : Nat} {g g0 : SG} (h : LastI L c g g0) (hc : c ≤ c') : LastI L c' g g0 := ⟨h.ok.mono hc, h.ok0.mono hc, h.r0, h.kept, h.is⟩
theorem LastI.at {L c : Nat} {g g0 : SG} (h : LastI L c g g0) : g.n = g0.n ∨ g.n = g0.n + 1 ∧ g.down = true := by
 rcases h.is with ⟨e1, e2⟩ | ⟨e1, e2⟩
 · exact .inl (SG.same e1 e2).2.2.1
 · exact .inr ⟨e2, e1⟩
end Go.Av
