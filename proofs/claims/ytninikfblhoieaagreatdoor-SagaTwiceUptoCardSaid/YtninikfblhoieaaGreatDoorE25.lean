/- Own text E25 of this claim: see the text that holds the theorem. -/
import Derived.Test.YtninikfblhoieaaGreatDoorE22
set_option linter.all false
set_option maxRecDepth 100000
namespace Go.Av
open Go Go.Proofs

structure Core where
 t : Tr
 m : Int × Int
 n : Nat
 a : List ByteArray
def coreOf (g : SG) : Core := ⟨g.t, g.m, g.n, g.a⟩
def refC (rf : List Int) (c : Core) : Bool := decide (c.m.2 = 1) && decide (((c.n : Int) + 1) ∈ rf)
noncomputable def nextC (ps rf : List Int) (c : Core) : Core :=
 { t := if refC rf c then refT c.t c.m else nextT c.t c.m,
   m := pickF (if refC rf c then refT c.t c.m else nextT c.t c.m) (ps.getD (c.n + 1) 0),
   n := c.n + 1,
   a := if decide (c.m.2 = 1) && !refC rf c then c.a ++ [(subT c.t c.m.1.toNat).root.name] else c.a }
noncomputable def sigC (ps rf : List Int) (c0 : Core) : Nat → Core
 | 0 => c0
 | k + 1 => nextC ps rf (sigC ps rf c0 k)
noncomputable def cntC (ps rf : List Int) (c0 : Core) : Nat → Nat
 | 0 => 0
 | k + 1 => cntC ps rf c0 k + if (sigC ps rf c0 k).m.2 = 1 then 1 else 0

structure SameI (L c : Nat) (ps rf : List Int) (c0 : Core) (g g0 : SG) : Prop where
 last : LastI L c g g0
 ep : g.picks = ps
 er : g.refuses = rf
 core : coreOf g0 = sigC ps rf c0 g0.n
 pass : ∀ k, k < g0.n → (sigC ps rf c0 k).t.root.kind ≠ 11
 kn : ∀ x, x ∈ g.known → x.2 = !decide (x.1 ∈ rf) ∧ x.1 ≤ (g0.n : Int) + 1
 kn1 : ∀ b, findB ((g0.n : Int) + 1) g.known = some b → g0.m.2 = 1 ∧ g0.t.root.kind ≠ 11
 dl : g.deeds.length = cntC ps rf c0 g0.n + (if findB ((g0.n : Int) + 1) g.known = none then 0 else 1)

theorem findB_some {id : Int} {kw : List (Int × Bool)} {b : Bool} (h : findB id kw = some b) : (id, b) ∈ kw := by
 induction kw with
 | nil => cases h
 | cons x r ih =>
   unfold findB at h
   split at h
   · rename_i e
     injection h with h
     rw [← e, ← h]; simp
   · exact List.mem_cons_of_mem _ (ih h)
theorem findB_snoc {id : Int} {kw : List (Int × Bool)} {b : Bool} (h : findB id kw = none) : findB id (kw ++ [(id, b)]) = some b := by
 induction kw with
 | nil => simp [findB]
 | cons x r ih =>
   unfold findB at h
   split at h
   · cases h
   · rename_i e
     rw [List.cons_append]
     unfold findB
     rw [if_neg e]
     exact ih h
variable {L c : Nat} {ps rf : List Int} {c0 : Core} {g g0 : SG}
theorem findB_far {kw : List (Int × Bool)} {n : Int} (h : ∀ x, x ∈ kw → x.1 ≤ n) : findB (n + 1) kw = none := by
 cases e : findB (n + 1) kw with
 | none => rfl
 | some b => have := h _ (findB_some e); simp only at this; omega
theorem SameI.ask (h : SameI L c ps rf c0 g g0) (hn : g.n = g0.n) : askB g.refuses g.known ((g.n : Int) + 1) = !decide (((g0.n : Int) + 1) ∈ rf) := by
 rw [h.er, hn]
 unfold askB
 cases e : findB ((g0.n : Int) + 1) g.known with
 | none => rfl
 | some b => exact (h.kn _ (findB_some e)).1
theorem SameI.refd (h : SameI L c ps rf c0 g g0) (hc : coreOf g = coreOf g0) : refd g = refC rf (coreOf g0) := by
 have hn : g.n = g0.n := congrArg Core.n hc
 have hm : g.m = g0.m := congrArg Core.m hc
 unfold Av.refd refC said
 rw [h.ask hn, hm, Bool.not_not]
 rfl
theorem SameI.asked (h : SameI L c ps rf c0 g g0) (hc : coreOf g = coreOf g0) (hk : g.t.root.kind ≠ 11) :
 (∀ x, x ∈ (askG g).known → x.2 = !decide (x.1 ∈ rf) ∧ x.1 ≤ (g0.n : Int) + 1) ∧ (∀ b, findB ((g0.n : Int) + 1) (askG g).known = some b → g0.m.2 = 1 ∧ g0.t.root.kind ≠ 11) ∧
 (askG g).deeds.length = cntC ps rf c0 g0.n + (if findB ((g0.n : Int) + 1) (askG g).known = none then 0 else 1) ∧ (askG g).deeds.length = cntC ps rf c0 (g0.n + 1) := by
 have hn : g.n = g0.n := congrArg Core.n hc
 have hm : g.m = g0.m := congrArg Core.m hc
 have ht : g.t = g0.t := congrArg Core.t hc
 have hcore : (sigC ps rf c0 g0.n).m = g0.m := by rw [← h.core]; rfl
 have hcnt : cntC ps rf c0 (g0.n + 1) = cntC ps rf c0 g0.n + if g0.m.2 = 1 then 1 else 0 := by
  show cntC ps rf c0 g0.n + (if (sigC ps rf c0 g0.n).m.2 = 1 then 1 else 0) = _
  rw [hcore]
 by_cases hs : g.m.2 = 1
 · have hs0 : g0.m.2 = 1 := by rw [← hm]; exact hs
   have hsaid : said g = true := by unfold said; exact decide_eq_true hs
   have ek : (askG g).known = askK g.refuses g.known ((g.n : Int) + 1) := by unfold askG; rw [if_pos hsaid]
   have ed : (askG g).deeds = askD g.refuses g.known g.deeds ((g.n : Int) + 1) (nameG g) := by unfold askG; rw [if_pos hsaid]
   rw [ek, ed, hcnt, if_pos hs0, hn, h.er]
   unfold askK askD
   cases e : findB ((g0.n : Int) + 1) g.known with
   | none =>
     have hdl := h.dl
     rw [e, if_pos rfl] at hdl
     rw [if_pos rfl, if_pos rfl, findB_snoc e]
     refine ⟨fun x hx => ?_, fun b _ => ⟨hs0, by rw [← ht]; exact hk⟩, ?_, ?_⟩
     · rcases List.mem_append.1 hx with hx | hx
       · exact h.kn x hx
       · rw [List.mem_singleton.1 hx]
         exact ⟨rfl, Int.le_refl _⟩
     · rw [if_neg (by simp)]; simp; omega
     · simp; omega
   | some b =>
     have hdl := h.dl
     rw [e, if_neg (by simp)] at hdl
     rw [if_neg (by simp), if_neg (by simp), e]
     exact ⟨h.kn, fun b' _ => ⟨hs0, by rw [← ht]; exact hk⟩, by rw [if_neg (by simp)]; exact hdl, hdl⟩
 · have hs0 : ¬ g0.m.2 = 1 := by rw [← hm]; exact hs
   have hsaid : said g = false := by unfold said; exact decide_eq_false hs
   have ea : askG g = g := by unfold askG; rw [if_neg (by simp [hsaid])]
   rw [ea, hcnt, if_neg hs0]
   have hnone : findB ((g0.n : Int) + 1) g.known = none := by
    cases e : findB ((g0.n : Int) + 1) g.known with
    | none => rfl
    | some b => exact absurd (h.kn1 b e).1 hs0
   have hdl := h.dl
   refine ⟨h.kn, h.kn1, hdl, ?_⟩
   rw [hnone, if_pos rfl] at hdl
   exact hdl
theorem SameI.coreEq (h : SameI L c ps rf c0 g g0) (hd : g.down = false) : coreOf g = coreOf g0 := by
 rcases h.last.is with ⟨e1, e2⟩ | ⟨e, _⟩
 · obtain ⟨s1, s2, s3, s4⟩ := SG.same e1 e2
   unfold coreOf; rw [s1, s2, s3, s4]
 · rw [hd] at e; cases e
theorem gone_core (h : SameI L c ps rf c0 g g0) (hc : coreOf g = coreOf g0) : coreOf (keepG (goneG g)) = nextC ps rf (coreOf g0) := by
 have hr := h.refd hc
 obtain ⟨a1, _⟩ := askG_same g
 have ht : doneT g = if refC rf (coreOf g0) then refT (coreOf g0).t (coreOf g0).m else nextT (coreOf g0).t (coreOf g0).m := by
  unfold doneT; rw [hr, ← hc]; rfl
 have ha : doneA g = if decide ((coreOf g0).m.2 = 1) && !refC rf (coreOf g0) then (coreOf g0).a ++ [(subT (coreOf g0).t (coreOf g0).m.1.toNat).root.name] else (coreOf g0).a := by
  unfold doneA said nameG; rw [hr, ← hc]; rfl
 have hn : g.n = (coreOf g0).n := by rw [← hc]; rfl
 show (⟨doneT g, pickF (doneT g) ((askG g).picks.getD (g.n + 1) 0), g.n + 1, doneA g⟩ : Core) = _
 rw [a1, h.ep, ht, ha, hn]; rfl
theorem SameI.step (h : SameI L c ps rf c0 g g0) : ((stepG g).2 = 0 → SameI L (c + 1) ps rf c0 (stepG g).1 (stepG g).1) ∧ ((stepG g).2 ≠ 0 → SameI L (c + 1) ps rf c0 (stepG g).1 g0) := by
 have hl := h.last.step
 by_cases hs : stopsE g = 0
 · obtain ⟨hdn, hk11⟩ := stopsE_zero hs
   have hc := h.coreEq hdn
   have hn : g.n = g0.n := congrArg Core.n hc
   obtain ⟨q1, q2, q3, q4⟩ := h.asked hc hk11
   obtain ⟨a1, a2, _⟩ := askG_same g
   have hk : Kept g.d (g.n + 1) (enc (stG g0)) := by rw [hn]; exact h.last.kept
   rcases step_kept h.last.ok hs hk with ⟨s1, _⟩ | ⟨_, s1, _⟩
   · rw [s1] at hl ⊢
     refine ⟨fun e => ?_, fun e => absurd rfl e⟩
     have hgc := gone_core h hc
     have hsig : coreOf (keepG (goneG g)) = sigC ps rf c0 (g0.n + 1) := by rw [hgc, h.core]; rfl
     have hn1 : (keepG (goneG g)).n = g0.n + 1 := by show g.n + 1 = _; rw [hn]
     have ekn : (keepG (goneG g)).known = (askG g).known := rfl
     have edl : (keepG (goneG g)).deeds = (askG g).deeds := rfl
     have hfar : findB (((keepG (goneG g)).n : Int) + 1) (keepG (goneG g)).known = none := by
      rw [hn1, ekn]
      have := findB_far (kw := (askG g).known) (n := (g0.n : Int) + 1) (fun x hx => (q1 x hx).2)
      rw [show (((g0.n + 1 : Nat) : Int) + 1) = (g0.n : Int) + 1 + 1 by omega]; exact this
     refine ⟨hl.1 rfl, a1.trans h.ep, a2.trans h.er, ?_, ?_, ?_, ?_, ?_⟩
     · rw [hn1]; exact hsig
     · intro k hk'
       rw [hn1] at hk'
       by_cases hkk : k < g0.n
       · exact h.pass k hkk
       · have : k = g0.n := by omega
         rw [this, ← h.core, ← hc]; exact hk11
     · intro x hx
       rw [ekn] at hx
       obtain ⟨x1, x2⟩ := q1 x hx
       exact ⟨x1, by rw [hn1]; omega⟩
     · intro b hb
       rw [hfar] at hb; cases hb
     · rw [hfar, if_pos rfl, hn1, edl, q4]; rfl
   · rw [s1] at hl ⊢
     refine ⟨fun e => (by cases e), fun _ => ⟨hl.2 (show (210 : Int) ≠ 0 by decide), a1.trans h.ep, a2.trans h.er, h.core, h.pass, q1, q2, q3⟩⟩
 · have e : stepG g = (g, stopsE g) := by unfold stepG; rw [if_pos hs]
   rw [e] at hl ⊢
   exact ⟨fun h0 => absurd h0 hs, fun h0 => ⟨hl.2 h0, h.ep, h.er, h.core, h.pass, h.kn, h.kn1, h.dl⟩⟩
theorem SameI.halt (h : SameI L c ps rf c0 g g0) : SameI L (c + 1) ps rf c0 (haltG g).1 g0 := by
 have hl := h.last.halt
 by_cases hs : stopsE g = 0
 · have e : haltG g = ({ askG g with down := true }, 0) := by unfold haltG; rw [if_neg (by simp [hs])]
   obtain ⟨hdn, hk11⟩ := stopsE_zero hs
   obtain ⟨q1, q2, q3, _⟩ := h.asked (h.coreEq hdn) hk11
   obtain ⟨a1, a2, _⟩ := askG_same g
   rw [e] at hl ⊢
   exact ⟨hl, a1.trans h.ep, a2.trans h.er, h.core, h.pass, q1, q2, q3⟩
 · have e : haltG g = (g, stopsE g) := by unfold haltG; rw [if_pos hs]
   rw [e] at hl ⊢
   exact ⟨hl, h.ep, h.er, h.core, h.pass, h.kn, h.kn1, h.dl⟩
theorem SameI.recover (h : SameI L c ps rf c0 g g0) : (recG g).2 = 0 ∧ coreOf (recG g).1 = coreOf g0 ∧ (recG g).1.down = false ∧ (recG g).1.d.cut = false ∧ SameI L c ps rf c0 (recG g).1 g0 := by
 obtain ⟨r1, r2, r3⟩ := h.last.recover
 have ht : treeOf (stG g0).l = g0.t := treeOf_flat h.last.ok0.live.good.ok
 have e := rec_kept h.last.kept h.last.r0
 rw [ht] at e
 have e' : recG g = ({ g with d := { g.d with cut := false }, t := g0.t, m := g0.m, n := g0.n, a := g0.a, down := false }, 0) := e
 rw [e'] at r3 ⊢
 exact ⟨rfl, rfl, rfl, rfl, r3, h.ep, h.er, h.core, h.pass, h.kn, h.kn1, h.dl⟩
theorem SameI.cut (h : SameI L c ps rf c0 g g0) (n : Int) : SameI L c ps rf c0 (cutG g n) g0 := ⟨h.last.cut n, h.ep, h.er, h.core, h.pass, h.kn, h.kn1, h.dl⟩
theorem SameI.more (h : SameI L c ps rf c0 g g0) {c' : Nat} (hc : c ≤ c') : SameI L c' ps rf c0 g g0 := ⟨h.last.more hc, h.ep, h.er, h.core, h.pass, h.kn, h.kn1, h.dl⟩
theorem SameI.run : ∀ (k c : Nat) (g g0 : SG), SameI L c ps rf c0 g g0 → ∃ g1, SameI L (c + k) ps rf c0 (runG g k).1 g1 := by
 intro k
 induction k with
 | zero => intro c g g0 h; exact ⟨g0, h⟩
 | succ k ih =>
   intro c g g0 h
   have hs := h.step
   unfold runG
   split
   · rename_i he
     exact ⟨g0, (hs.2 he).more (by omega)⟩
   · rename_i he
     have he' : (stepG g).2 = 0 := by simpa using he
     obtain ⟨g1, h1⟩ := ih (c + 1) _ _ (hs.1 he')
     exact ⟨g1, by rw [show c + (k + 1) = c + 1 + k by omega]; exact h1⟩
theorem SameI.act (h : SameI L c ps rf c0 g g0) (x : Int × Int) : ∃ g1, SameI L (c + 1000) ps rf c0 (doG g x).1 g1 := by
 unfold doG
 split
 · by_cases he : (stepG g).2 = 0
   · exact ⟨_, (h.step.1 he).more (by omega)⟩
   · exact ⟨_, (h.step.2 he).more (by omega)⟩
 · split
   · exact ⟨_, h.halt.more (by omega)⟩
   · split
     · exact ⟨_, h.recover.2.2.2.2.more (by omega)⟩
     · split
       · exact ⟨_, (h.cut x.2).more (by omega)⟩
       · split
         · obtain ⟨g1, h1⟩ := SameI.run (min x.2 1000).toNat c g g0 h
           exact ⟨g1, h1.more (by omega)⟩
         · exact ⟨g0, h.more (by omega)⟩

structure EndI (L c : Nat) (ps rf : List Int) (c0 : Core) (g : SG) : Prop where
 same : SameI L c ps rf c0 g g
 over : g.t.root.kind = 11
 up : g.down = false
theorem SameI.ends : ∀ (k c : Nat) (g : SG), SameI L c ps rf c0 g g → g.down = false → g.d.cut = false → wN g.t.flat < k → (runG g k).2.2 = 211 ∧ EndI L (c + k) ps rf c0 (runG g k).1 := by
 intro k
 induction k with
 | zero => intro c g _ _ _ h; omega
 | succ k ih =>
   intro c g h hd hc hw
   by_cases hk : g.t.root.kind = 11
   · have hs : stepG g = (g, 211) := by
      have : stopsE g = 211 := by unfold stopsE; rw [hd]; simp [hk]
      unfold stepG; rw [this, if_pos (by decide)]
     unfold runG
     rw [hs, if_pos (show (211 : Int) ≠ 0 by decide)]
     exact ⟨rfl, h.more (by omega), hk, hd⟩
   · have hs : stopsE g = 0 := by unfold stopsE; rw [hd]; simp [hk]
     have hst := h.step
     have hcut := stepG_cut h.last.ok
     rcases step_kept h.last.ok hs h.last.kept with ⟨s1, _⟩ | ⟨s0, _⟩
     rotate_left
     · rw [hc] at s0; cases s0
     have h1 := hst.1 (by rw [s1])
     obtain ⟨a1, a2, a3, a4, a5, a6, a7, a8⟩ := askG_same g
     have hd1 : (stepG g).1.down = false := by rw [s1]; exact a7.trans hd
     have hw1 : wN (stepG g).1.t.flat + 1 ≤ wN g.t.flat := by
      rw [s1]
      show wN (doneT g).flat + 1 ≤ _
      unfold doneT
      have hm := h.last.ok.hm hk
      split
      · rename_i hr
        have hm1 : g.m.2 = 1 := by
         unfold Av.refd said at hr
         simp only [Bool.and_eq_true, decide_eq_true_eq] at hr
         exact hr.1
        exact (live_refuse h.last.ok.live hm hm1).2.2
      · exact (live_next h.last.ok.live hm).2.2
     obtain ⟨r1, r2⟩ := ih (c + 1) (stepG g).1 h1 hd1 (hcut.1.trans hc) (by omega)
     unfold runG
     rw [if_neg (by rw [s1]; simp)]
     exact ⟨r1, by rw [show c + (k + 1) = c + 1 + k by omega]; exact r2⟩
theorem SameI.new {l : List Node} {nb : Int} (h : newE l nb = 0) (hp : ps.length ≤ 1100000) (hr : rf.length ≤ 1100000) (hok : OkM l.length 0 (newG l ps rf nb)) (hk : Kept (newG l ps rf nb).d 1 (enc (keepS (preG l ps rf nb)))) :
 SameI l.length 0 ps rf (coreOf (newG l ps rf nb)) (newG l ps rf nb) (newG l ps rf nb) :=
 ⟨LastI.new h hp hr hok hk, rfl, rfl, rfl, fun k hk => absurd hk (by show ¬ k < 0; omega), fun x hx => by simp [newG, keepG, preG] at hx, fun b hb => by simp [newG, keepG, preG, findB] at hb, rfl⟩

end Go.Av
