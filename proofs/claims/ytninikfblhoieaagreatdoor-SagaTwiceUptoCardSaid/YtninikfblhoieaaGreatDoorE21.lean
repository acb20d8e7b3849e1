/- Own text E21 of this claim: see the text that holds the theorem. -/
import Derived.Test.YtninikfblhoieaaGreatDoorED
set_option linter.all false
set_option maxRecDepth 100000
namespace Go.Av
open Go Go.Proofs

theorem disk_Cut_ok {H : Heap} {dk bl : Nat} {d : DK} (h : DiskAt H dk bl d) (n : Int) :
 ACalls PP gΓ disk_Disk_Cut [.ptr dk 0, I n] H (fun r H' => r = .tup [] ∧ DiskAt H' dk bl { d with cut := true, left := max 0 n } ∧ SameBut [dk] H H') := by
 refine disk_Disk_Cut_of ?_
 unfold W_disk_Disk_Cut
 rw [maxE_two]
 simp only [nilE_ptr, pureK_some, fa_ptr, Nat.zero_add]
 rw [st_at (n := 1) h.hd rfl (by simp [diskCells]) rfl]
 simp only [heapK_some]
 rw [st_at (n := 1) (Heap.upd_same _ _ _) rfl (by simp [diskCells, splice]) rfl]
 simp only [heapK_some, Heap.upd_upd']
 refine ret1_of _ (Heap.le_refl _) ⟨rfl, ⟨?_, ?_, h.ok, h.ne⟩, (SameBut.refl _ _).upd (by simp) _⟩
 · rw [Heap.upd_same]; rfl
 · rw [Heap.upd_ne _ _ (Ne.symm h.ne)]; exact h.hb
def cutG (g : SG) (n : Int) : SG := { g with d := { g.d with cut := true, left := max 0 n } }
theorem DoneQ.cut {H0 H : Heap} {i : Ids} {g : SG} {K : AV → Heap → Prop} (hq : DoneQ H0 i g H) (n : Int) (k : ∀ H', DoneQ H0 i (cutG g n) H' → K (.tup []) H') : ACalls PP gΓ disk_Disk_Cut [.ptr i.dk 0, I n] H K := by
 obtain ⟨tk1, hS, htk, hsb⟩ := hq
 refine (disk_Cut_ok hS.store.disk n).mono ?_
 rintro r H' ⟨rfl, hD, hsb2⟩
 refine k H' ⟨tk1, hS.disk hD rfl (hsb2.more fun o ho => ?_), htk, hsb.trans (hsb2.more fun o ho => ?_)⟩
 · simp at ho ⊢; exact .inl ho
 · simp only [List.mem_cons, List.not_mem_nil, or_false] at ho
   rw [ho]; simp [Ids.all]
noncomputable def doG (g : SG) (x : Int × Int) : SG × Int × Int :=
 if x.1 = 1 then ((stepG g).1, 0, (stepG g).2)
 else if x.1 = 2 then ((haltG g).1, 0, (haltG g).2)
 else if x.1 = 3 then ((recG g).1, 0, (recG g).2)
 else if x.1 = 4 then (cutG g x.2, 0, 0)
 else if x.1 = 5 then ((runG g (min x.2 1000).toNat).1, (((runG g (min x.2 1000).toNat).2.1 : Nat) : Int), (runG g (min x.2 1000).toNat).2.2)
 else (g, 0, 0)
theorem DoneQ.act {H0 H : Heap} {i : Ids} {g : SG} {L c : Nat} {K : AV → Heap → Prop} (hq : DoneQ H0 i g H) (ok : OkM L c g) (hc : c ≤ 700000) (x : Int × Int)
 (k : ∀ H', DoneQ H0 i (doG g x).1 H' → K (.tup [I (doG g x).2.1, I (doG g x).2.2]) H') : ACalls PP gΓ law21_Do [.ptr i.s 0, .agg [I x.1, I x.2]] H K := by
 refine law21_Do_of ?_
 unfold W_law21_Do
 simp only [cells_agg, allocK_some]
 refine ⟨rfl, fun o1 ho1 => ?_⟩
 have g1 : (H.upd o1 (.cells [I x.1, I x.2])) o1 = some (.cells [I x.1, I x.2]) := Heap.upd_same _ _ _
 obtain ⟨tk1, hS, htk, hsb⟩ := hq
 have hS2 : SagaAt (H.upd o1 (.cells [I x.1, I x.2])) { i with tk := tk1 } g := hS.le (by simp [ho1])
 have hn1 : ∀ o, o ≠ o1 → (H.upd o1 (.cells [I x.1, I x.2])) o = H o := fun o ho => Heap.upd_ne _ _ ho
 have hle1 : H ≤ H.upd o1 (.cells [I x.1, I x.2]) := by simp [ho1]
 generalize H.upd o1 (.cells [I x.1, I x.2]) = H2 at g1 hS2 hn1 hle1 ⊢
 have hq2 : DoneQ H2 { i with tk := tk1 } g H2 := DoneQ.refl hS2
 -- what is done is done in H, too
 have fin : ∀ (H7 : Heap) (r : AV), DoneQ H2 { i with tk := tk1 } (doG g x).1 H7 → r = .tup [I (doG g x).2.1, I (doG g x).2.2] → ret1 H7 K r := fun H7 r hq7 hr => by
  obtain ⟨tk2, hS7, htk7, hsb7⟩ := hq7
  have hS7' : SagaAt H7 { i with tk := tk2 } (doG g x).1 := hS7
  have ho1n : o1 ∉ ({ i with tk := tk1 } : Ids).all := fun e => by
   obtain ⟨pl, pa, h1⟩ := hS.hs
   obtain ⟨v, d1, d2⟩ := hS.deal.hd
   simp only [Ids.all, dealIds, List.mem_append, List.mem_cons, List.not_mem_nil, or_false] at e
   rcases e with (e | e | e | e) | (e | e) | e
   · rw [e] at ho1; rw [h1] at ho1; cases ho1
   · rw [e] at ho1; rw [hS.store.hs] at ho1; cases ho1
   · rw [e] at ho1; rw [hS.store.disk.hd] at ho1; cases ho1
   · rw [e] at ho1; rw [hS.store.disk.hb] at ho1; cases ho1
   · rw [e] at ho1; rw [d1] at ho1; cases ho1
   · rw [e] at ho1; rw [hS.deal.hk] at ho1; cases ho1
   · rcases d2 with ⟨_, _, d3⟩ | ⟨t, d3, _, d4⟩
     · have d3' : tk1 = none := d3
       rw [d3'] at e; simp at e
     · have d3' : tk1 = some t := d3
       rw [d3'] at e
       have : o1 = t := by simpa using e
       rw [this, d4] at ho1; cases ho1
  -- the heap without the variable
  obtain ⟨HF, hHF⟩ : ∃ HF : Heap, ∀ o, HF o = if o ∈ ({ i with tk := tk2 } : Ids).all then H7 o else H o := ⟨fun o => if o ∈ ({ i with tk := tk2 } : Ids).all then H7 o else H o, fun _ => rfl⟩
  have hF : DoneQ H { i with tk := tk1 } (doG g x).1 HF := by
   refine ⟨tk2, hS7'.same fun o ho => by rw [hHF, if_pos ho], ?_, fun o ho => by rw [hHF, if_neg ho]⟩
   rcases htk7 with e | ⟨e, t, e2, e3⟩
   · exact .inl e
   · refine .inr ⟨e, t, e2, ?_⟩
     cases e4 : H t with
     | none => rfl
     | some y => rw [hle1 _ _ e4] at e3; cases e3
  refine ret1_of HF (fun o y hy => ?_) (by rw [hr]; exact k HF (DoneQ.next hS htk hsb hF))
  rw [hHF] at hy
  split at hy
  · exact hy
  · rename_i hno
    have hno7 : o ∉ ({ ({ i with tk := tk1 } : Ids) with tk := tk2 } : Ids).all := hno
    rw [hsb7 o hno7]
    exact hle1 _ _ hy
 simp only [fa_ptr, pureK_some, Nat.zero_add]
 rw [ld_ptr g1]
 simp only [cutE_one, get0, get1, pureK_some, bop_eql, condK_B, decide_eq_true_eq, decide_eq_false_iff_not]
 refine ⟨fun e1 => ?_, fun e1 => ⟨fun e2 => ?_, fun e2 => ⟨fun e3 => ?_, fun e3 => ⟨fun e4 => ?_, fun e4 => ⟨fun e5 => ?_, fun e5 => ?_⟩⟩⟩⟩⟩
 · have e : doG g x = ((stepG g).1, 0, (stepG g).2) := by unfold doG; rw [if_pos e1]
   refine hq2.step ok (by omega) fun H7 hq7 => fin H7 _ (by rw [e]; exact hq7) (by rw [e])
 · have e : doG g x = ((haltG g).1, 0, (haltG g).2) := by unfold doG; rw [if_neg e1, if_pos e2]
   refine hq2.halt ok (by omega) fun H7 hq7 => fin H7 _ (by rw [e]; exact hq7) (by rw [e])
 · have e : doG g x = ((recG g).1, 0, (recG g).2) := by unfold doG; rw [if_neg e1, if_neg e2, if_pos e3]
   refine hq2.recover fun H7 hq7 => fin H7 _ (by rw [e]; exact hq7) (by rw [e])
 · have e : doG g x = (cutG g x.2, 0, 0) := by unfold doG; rw [if_neg e1, if_neg e2, if_neg e3, if_pos e4]
   refine ⟨_, fun HX hX => Disk_ok (i := { i with tk := tk1 }) (hS2.le hX), ?_⟩
   rw [ld_ptr g1]
   simp only [cutE_one, get1, pureK_some]
   refine hq2.cut x.2 fun H7 hq7 => fin H7 _ (by rw [e]; exact hq7) (by rw [e])
 · have e : doG g x = ((runG g (min x.2 1000).toNat).1, (((runG g (min x.2 1000).toNat).2.1 : Nat) : Int), (runG g (min x.2 1000).toNat).2.2) := by unfold doG; rw [if_neg e1, if_neg e2, if_neg e3, if_neg e4, if_pos e5]
   rw [ld_ptr g1]
   simp only [cutE_one, get1, pureK_some]
   rw [minE_two]
   simp only [pureK_some]
   refine hq2.run ok (min x.2 1000) (by omega) (by omega) fun H7 hq7 _ => ?_
   simp only [extractE_tup, get0, get1, pureK_some]
   exact fin H7 _ (by rw [e]; exact hq7) (by rw [e])
 · have e : doG g x = (g, 0, 0) := by unfold doG; rw [if_neg e1, if_neg e2, if_neg e3, if_neg e4, if_neg e5]
   exact fin H2 _ (by rw [e]; exact hq2) (by rw [e])

def stG (g : SG) : St := ⟨g.t.flat, g.m.1, g.m.2, g.n, g.a⟩
structure LastI (L c : Nat) (g g0 : SG) : Prop where
 ok : OkM L c g
 ok0 : OkM L c { g with t := g0.t, m := g0.m, n := g0.n, a := g0.a }
 r0 : rightS (stG g0) = true
 kept : Kept g.d (g0.n + 1) (enc (stG g0))
 is : stG g = stG g0 ∧ g.t = g0.t ∨ g.down = true ∧ g.n = g0.n + 1
theorem SG.same {g g0 : SG} (e1 : stG g = stG g0) (e2 : g.t = g0.t) : g.t = g0.t ∧ g.m = g0.m ∧ g.n = g0.n ∧ g.a = g0.a := by
 unfold stG at e1
 injection e1 with a1 a2 a3 a4 a5
 exact ⟨e2, Prod.ext a2 a3, by omega, a5⟩
theorem LastI.new {l : List Node} {ps rf : List Int} {nb : Int} (h : newE l nb = 0) (hp : ps.length ≤ 1100000) (hr : rf.length ≤ 1100000) (hok : OkM l.length 0 (newG l ps rf nb)) (hk : Kept (newG l ps rf nb).d 1 (enc (keepS (preG l ps rf nb)))) :
 LastI l.length 0 (newG l ps rf nb) (newG l ps rf nb) := by
 obtain ⟨hpre, _⟩ := pre_ok (l := l) (ps := ps) (rf := rf) h hp hr
 exact ⟨hok, hok, hpre.keepR, hk, .inl ⟨rfl, rfl⟩⟩
theorem OkM.with {L c : Nat} {g g' : SG} (h : OkM L c { g with t := g'.t, m := g'.m, n := g'.n, a := g'.a }) {g2 : SG} {c2 : Nat} (k : OkM L c2 g2) : OkM L c2 { g2 with t := g'.t, m := g'.m, n := g'.n, a := g'.a } :=
 ⟨⟨h.live, h.len, h.L60, h.al, h.nw, h.nm, k.dok, k.h3, k.room, k.dl, k.rf, k.pk⟩, h.hm⟩
theorem LastI.step {L c : Nat} {g g0 : SG} (h : LastI L c g g0) : ((stepG g).2 = 0 → LastI L (c + 1) (stepG g).1 (stepG g).1) ∧ ((stepG g).2 ≠ 0 → LastI L (c + 1) (stepG g).1 g0) := by
 by_cases hs : stopsE g = 0
 · obtain ⟨hdn, hk11⟩ := stopsE_zero hs
   have hst := h.ok.step
   rcases h.is with ⟨e1, e2⟩ | ⟨e, _⟩
   rotate_left
   · rw [hdn] at e; cases e
   obtain ⟨_, em, en, ea⟩ := SG.same e1 e2
   have hk : Kept g.d (g.n + 1) (enc (stG g0)) := by rw [en]; exact h.kept
   have hg := h.ok.gone hk11
   rcases step_kept h.ok hs hk with ⟨s1, s2⟩ | ⟨s0, s1, s2⟩
   · rw [s1] at hst ⊢
     refine ⟨fun _ => ⟨hst, hst, hg.keepR, ?_, .inl ⟨rfl, rfl⟩⟩, fun e => absurd rfl e⟩
     exact s2
   · rw [s1] at hst ⊢
     refine ⟨fun e => (by cases e), fun _ => ⟨hst, h.ok0.with hst, h.r0, ?_, .inr ⟨rfl, ?_⟩⟩⟩
     · rw [en] at s2; exact s2
     · show g.n + 1 = g0.n + 1
       rw [en]
 · have e : stepG g = (g, stopsE g) := by unfold stepG; rw [if_pos hs]
   rw [e]
   refine ⟨fun h0 => absurd h0 hs, fun _ => ⟨h.ok.mono (by omega), h.ok0.mono (by omega), h.r0, h.kept, h.is⟩⟩
theorem LastI.halt {L c : Nat} {g g0 : SG} (h : LastI L c g g0) : LastI L (c + 1) (haltG g).1 g0 := by
 have hst := h.ok.halt
 by_cases hs : stopsE g = 0
 · have e : haltG g = ({ askG g with down := true }, 0) := by unfold haltG; rw [if_neg (by simp [hs])]
   obtain ⟨hdn, _⟩ := stopsE_zero hs
   rcases h.is with ⟨e1, e2⟩ | ⟨e, _⟩
   rotate_left
   · rw [hdn] at e; cases e
   rw [e] at hst ⊢
   obtain ⟨a1, a2, a3, a4, a5, a6, a7, a8⟩ := askG_same g
   refine ⟨hst, h.ok0.with hst, h.r0, ?_, .inl ⟨?_, ?_⟩⟩
   · show Kept (askG g).d _ _
     rw [a8]; exact h.kept
   · rw [← e1]
     show (⟨(askG g).t.flat, (askG g).m.1, (askG g).m.2, (askG g).n, (askG g).a⟩ : St) = _
     rw [a3, a4, a5, a6]; rfl
   · show (askG g).t = g0.t
     rw [a3]; exact e2
 · have e : haltG g = (g, stopsE g) := by unfold haltG; rw [if_pos hs]
   rw [e]
   exact ⟨h.ok.mono (by omega), h.ok0.mono (by omega), h.r0, h.kept, h.is⟩
theorem LastI.recover {L c : Nat} {g g0 : SG} (h : LastI L c g g0) : (recG g).2 = 0 ∧ stG (recG g).1 = stG g0 ∧ LastI L c (recG g).1 g0 := by
 have ht : treeOf (stG g0).l = g0.t := treeOf_flat h.ok0.live.good.ok
 have e := rec_kept h.kept h.r0
 rw [ht] at e
 have e' : recG g = ({ g with d := { g.d with cut := false }, t := g0.t, m := g0.m, n := g0.n, a := g0.a, down := false }, 0) := e
 rw [e']
 have ok1 : OkM L c { g with d := { g.d with cut := false }, t := g0.t, m := g0.m, n := g0.n, a := g0.a, down := false } := (h.ok0.disk (d' := { g.d with cut := false }) h.ok.dok rfl).setDown false
 exact ⟨rfl, rfl, ok1, ok1, h.r0, h.kept.uncut, .inl ⟨rfl, rfl⟩⟩
theorem LastI.cut {L c : Nat} {g g0 : SG} (h : LastI L c g g0) (n : Int) : LastI L c (cutG g n) g0 := by
 have ok1 : OkM L c (cutG g n) := h.ok.disk (d' := { g.d with cut := true, left := max 0 n }) h.ok.dok rfl
 exact ⟨ok1, h.ok0.with ok1, h.r0, ⟨h.kept.ok, h.kept.h3, h.kept.has, h.kept.old, h.kept.room⟩, h.is⟩
theorem LastI.more {L c c' : Nat} {g g0 : SG} (h : LastI L c g g0) (hc : c ≤ c') : LastI L c' g g0 := ⟨h.ok.mono hc, h.ok0.mono hc, h.r0, h.kept, h.is⟩
theorem LastI.at {L c : Nat} {g g0 : SG} (h : LastI L c g g0) : g.n = g0.n ∨ g.n = g0.n + 1 ∧ g.down = true := by
 rcases h.is with ⟨e1, e2⟩ | ⟨e1, e2⟩
 · exact .inl (SG.same e1 e2).2.2.1
 · exact .inr ⟨e2, e1⟩
theorem LastI.act {L c : Nat} {g g0 : SG} (h : LastI L c g g0) {x : Int × Int} (hx : x.1 ≠ 5) : (x.1 = 3 → (doG g x).2.2 = 0 ∧ stG (doG g x).1 = stG g0) ∧
 LastI L (c + 1) (doG g x).1 (if x.1 = 1 ∧ (doG g x).2.2 = 0 ∨ x.1 = 3 then (doG g x).1 else g0) := by
 by_cases h1 : x.1 = 1
 · have e : doG g x = ((stepG g).1, 0, (stepG g).2) := by unfold doG; rw [if_pos h1]
   rw [e]
   refine ⟨fun h3 => by omega, ?_⟩
   by_cases h0 : (stepG g).2 = 0
   · rw [if_pos (.inl ⟨h1, h0⟩)]; exact h.step.1 h0
   · rw [if_neg (by rintro (⟨_, e⟩ | e); exact h0 e; omega)]; exact h.step.2 h0
 · by_cases h2 : x.1 = 2
   · have e : doG g x = ((haltG g).1, 0, (haltG g).2) := by unfold doG; rw [if_neg h1, if_pos h2]
     rw [e, if_neg (by omega)]
     exact ⟨fun h3 => by omega, h.halt⟩
   · by_cases h3 : x.1 = 3
     · have e : doG g x = ((recG g).1, 0, (recG g).2) := by unfold doG; rw [if_neg h1, if_neg h2, if_pos h3]
       obtain ⟨r1, r2, r3⟩ := h.recover
       rw [e, if_pos (.inr h3)]
       refine ⟨fun _ => ⟨r1, r2⟩, ?_⟩
       have r4 : (recG g).1.t = g0.t ∧ stG (recG g).1 = stG g0 := by
        refine ⟨?_, r2⟩
        have ht : treeOf (stG g0).l = g0.t := treeOf_flat h.ok0.live.good.ok
        rw [rec_kept h.kept h.r0]
        exact ht
       obtain ⟨s1, s2, s3, s4⟩ := SG.same r4.2 r4.1
       exact ⟨r3.ok.mono (by omega), r3.ok.mono (by omega), by rw [r2]; exact h.r0, by rw [r2, s3]; exact r3.kept, .inl ⟨rfl, rfl⟩⟩
     · by_cases h4 : x.1 = 4
       · have e : doG g x = (cutG g x.2, 0, 0) := by unfold doG; rw [if_neg h1, if_neg h2, if_neg h3, if_pos h4]
         rw [e, if_neg (by omega)]
         exact ⟨fun h3 => by omega, (h.cut x.2).more (by omega)⟩
       · have e : doG g x = (g, 0, 0) := by unfold doG; rw [if_neg h1, if_neg h2, if_neg h3, if_neg h4, if_neg hx]
         rw [e, if_neg (by omega)]
         exact ⟨fun h => absurd h h3, h.more (by omega)⟩

end Go.Av
