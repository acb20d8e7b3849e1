/- Own text E24 of this claim: see the text that holds the theorem. -/
import Derived.Test.YtninikfblhoieaaGreatDoorE23
set_option linter.all false
set_option maxRecDepth 100000
namespace Go.Av
open Go Go.Proofs

theorem over_moves {t : Tr} (h : t.ok) (hk : t.root.kind = 11) : enF t = [] := by
 have ha := Tr.arity_root h
 rw [hk] at ha
 cases t with
 | l0 n =>
   have hk' : n.kind = 11 := hk
   have hf : actF (.l0 n) = [] := by
    unfold actF
    have : (Tr.l0 n).flat.length = 1 := rfl
    rw [this]
    have e : List.range 1 = [0] := rfl
    rw [e]
    have hw : waits (subT (.l0 n) 0).root.kind = false := by
     show waits n.kind = false
     rw [hk']; rfl
    simp [hw]
   unfold enF actL
   rw [hf]
   simp
 | l1 n a => exact absurd ha (by simp [Tr.kids]; decide)
 | l2 n a b => exact absurd ha (by simp [Tr.kids]; decide)

structure RunI (L c : Nat) (g : SG) : Prop where
 last : LastI L c g g
 rf : g.refuses = []
 kn : ∀ x, x ∈ g.known → x.2 = true
 cut : g.d.cut = false
 dn : g.down = false
 mv : g.m = pickF g.t (g.picks.getD g.n 0)
theorem findB_true {kw : List (Int × Bool)} (h : ∀ x, x ∈ kw → x.2 = true) (id : Int) : findB id kw = none ∨ findB id kw = some true := by
 induction kw with
 | nil => exact .inl rfl
 | cons x r ih =>
   unfold findB
   split
   · right; rw [h x (by simp)]
   · exact ih fun y hy => h y (by simp [hy])
theorem RunI.ask {L c : Nat} {g : SG} (h : RunI L c g) : askB g.refuses g.known (g.n + 1) = true ∧ ∀ x, x ∈ askK g.refuses g.known (g.n + 1) → x.2 = true := by
 have hf := findB_true h.kn ((g.n : Int) + 1)
 unfold askB askK
 rw [h.rf]
 rcases hf with e | e
 · rw [e]
   refine ⟨rfl, fun x hx => ?_⟩
   rw [if_pos rfl] at hx
   rcases List.mem_append.1 hx with hx | hx
   · exact h.kn x hx
   · rw [List.mem_singleton.1 hx]; rfl
 · rw [e]
   refine ⟨rfl, fun x hx => ?_⟩
   rw [if_neg (by simp)] at hx
   exact h.kn x hx
theorem RunI.step {L c : Nat} {g : SG} (h : RunI L c g) (hk : g.t.root.kind ≠ 11) : (stepG g).2 = 0 ∧ RunI L (c + 1) (stepG g).1 ∧ (stepG g).1.picks = g.picks ∧ (stepG g).1.t = nextT g.t g.m ∧ (stepG g).1.n = g.n + 1 ∧
 (stepG g).1.a = (if g.m.2 = 1 then g.a ++ [(subT g.t g.m.1.toNat).root.name] else g.a) := by
 have hs : stopsE g = 0 := by unfold stopsE; rw [h.dn]; simp [hk]
 have hka := h.ask
 have hr : refd g = false := by unfold refd; rw [hka.1]; simp
 obtain ⟨a1, a2, a3, a4, a5, a6, a7, a8⟩ := askG_same g
 rcases step_kept h.last.ok hs h.last.kept with ⟨s1, _⟩ | ⟨s0, _⟩
 rotate_left
 · rw [h.cut] at s0; cases s0
 have hst := h.last.step.1 (by rw [s1])
 have hcut := stepG_cut h.last.ok
 rw [s1] at hst hcut ⊢
 have e1 : (keepG (goneG g)).t = nextT g.t g.m := by
  show doneT g = _
  unfold doneT; rw [hr]; rfl
 have ep : (keepG (goneG g)).picks = g.picks := a1
 have en : (keepG (goneG g)).n = g.n + 1 := rfl
 refine ⟨rfl, ⟨hst, a2.trans h.rf, ?_, hcut.1.trans h.cut, a7.trans h.dn, ?_⟩, ep, e1, en, ?_⟩
 · show ∀ x, x ∈ (askG g).known → _
   unfold askG
   split
   · exact hka.2
   · exact h.kn
 · show pickF (keepG (goneG g)).t ((keepG (goneG g)).picks.getD (keepG (goneG g)).n 0) = _
   rfl
 · show doneA g = _
   unfold doneA
   rw [hr]
   unfold said nameG
   by_cases h1 : g.m.2 = 1
   · rw [if_pos h1]; simp [h1]
   · rw [if_neg h1]; simp [h1]
theorem play_run {L : Nat} : ∀ (k c : Nat) (g : SG), RunI L c g → g.n + k = g.picks.length → ∃ (j : Nat) (e : Int), runG g k = ((runG g k).1, j, e) ∧ RunI L (c + j) (runG g k).1 ∧ j ≤ k ∧ (runG g k).1.n = g.n + j ∧ (e = 0 ↔ j = k) ∧
 playF (g.picks.drop g.n) g.t g.a g.n = ((runG g k).1.t, (runG g k).1.a, (runG g k).1.n) := by
 intro k
 induction k with
 | zero =>
   intro c g h hn
   refine ⟨0, 0, rfl, h, Nat.le_refl _, rfl, by simp, ?_⟩
   rw [List.drop_of_length_le (by omega)]
   rfl
 | succ k ih =>
   intro c g h hn
   have hlt : g.n < g.picks.length := by omega
   have hdrop : g.picks.drop g.n = g.picks[g.n] :: g.picks.drop (g.n + 1) := List.drop_eq_getElem_cons hlt
   have hget : g.picks.getD g.n 0 = g.picks[g.n] := by simp [List.getD, hlt]
   rw [hdrop]
   by_cases hk : g.t.root.kind = 11
   · have hs : stepG g = (g, 211) := by
      have : stopsE g = 211 := by unfold stopsE; rw [h.dn]; simp [hk]
      unfold stepG; rw [this, if_pos (by decide)]
     have hr : runG g (k + 1) = (g, 0, 211) := by unfold runG; rw [hs, if_pos (show (211 : Int) ≠ 0 by decide)]
     rw [hr]
     refine ⟨0, 211, rfl, h, Nat.zero_le _, rfl, by simp, ?_⟩
     unfold playF
     rw [if_pos (over_moves h.last.ok.live.good.ok hk)]
   · obtain ⟨s1, s2, s3, s4, s5, s6⟩ := h.step hk
     obtain ⟨j, e, r1, r2, r3, r4, r5, r6⟩ := ih (c + 1) (stepG g).1 s2 (by rw [s3, s5]; omega)
     have hr : runG g (k + 1) = ((runG (stepG g).1 k).1, j + 1, e) := by
      conv => lhs; unfold runG
      rw [if_neg (by rw [s1]; simp), r1]
     rw [hr]
     refine ⟨j + 1, e, rfl, by rw [show c + (j + 1) = c + 1 + j by omega]; exact r2, by omega, ?_, by rw [r5]; omega, ?_⟩
     · show (runG (stepG g).1 k).1.n = _
       rw [r4, s5]; omega
     · have hne : enF g.t ≠ [] := (live_moves h.last.ok.live).resolve_left hk
       have hm : g.m = pickF g.t g.picks[g.n] := by rw [h.mv, hget]
       conv => lhs; unfold playF
       rw [if_neg hne, ← hm]
       rw [s3, s4, s5, s6] at r6
       exact r6

set_option maxRecDepth 100000 in
theorem law21_SagaRuns_ok (l : List Node) (p : Perm) (ps : List Int) (p1 : Perm) (nb : Int) (hl : small l.length) (hp : ps.length ≤ 1100000) :
 Pur law21_SagaRuns [rowA l p, intA ps 1 p1, I nb] (B true) := by
 intro H
 refine law21_SagaRuns_of ?_
 unfold W_law21_SagaRuns
 have e1 : bld [(0, 1), (1, 1), (2, 1)] [.lst 0 [] .exact, .lst 0 [] .exact, .sc (.int .i64 0)] [(0, intA ps 1 p1), (2, I nb)] = some (.agg [intA ps 1 p1, intA [] 0 .exact, I nb]) := rfl
 rw [e1]
 simp only [pureK_some]
 intro o2 ho2
 rw [st_at (n := 3) (v := .agg [intA ps 1 p1, intA [] 0 .exact, I nb]) (Heap.upd_same _ _ _) rfl (by simp) rfl]
 simp only [heapK_some, Heap.upd_upd']
 have e0 : splice [.lst 0 [] .exact, .lst 0 [] .exact, .sc (.int .i64 0)] 0 (AV.cells (.agg [intA ps 1 p1, intA [] 0 .exact, I nb])) = [intA ps 1 p1, intA [] 0 .exact, I nb] := rfl
 rw [e0]
 have g2 : (H.upd o2 (.cells [intA ps 1 p1, intA [] 0 .exact, I nb])) o2 = some (.cells [intA ps 1 p1, intA [] 0 .exact, I nb]) := Heap.upd_same _ _ _
 have hle2 : H ≤ H.upd o2 (.cells [intA ps 1 p1, intA [] 0 .exact, I nb]) := by simp [ho2]
 generalize H.upd o2 (.cells [intA ps 1 p1, intA [] 0 .exact, I nb]) = H4 at g2 hle2 ⊢
 rw [ld_ptr g2]
 have e3 : cutE [intA ps 1 p1, intA [] 0 .exact, I nb] 0 (some true) 3 = some (.agg [intA ps 1 p1, intA [] 0 .exact, I nb]) := rfl
 rw [e3]
 simp only [pureK_some]
 have yes : ∀ HX, H ≤ HX → ACalls PP gΓ law21_alive [] HX (fun x12 H13 => ret1 H13 (fun r H' => r = B true ∧ H' = H) x12) := fun HX hle => alive21_ok.run (ret1_of H hle ⟨rfl, rfl⟩)
 refine (made_ok l p ps [] 1 0 p1 .exact nb (.inl rfl) (.inr rfl) hp (by decide) H4).mono ?_
 rintro r H7 (⟨hne, rfl, rfl⟩ | ⟨h0, i, rfl, hM⟩)
 · simp only [extractE_tup, get0, get1, pureK_some]
   rw [ld_ptr g2, e3]
   simp only [pureK_some]
   refine (few_ok l p ps [] 1 0 p1 .exact nb [] 0 .exact (.inr rfl) hl hp (by decide) (by decide)).run ?_
   rintro v ⟨b, rfl, _⟩
   simp only [unE_not, pureK_some, condK_B]
   exact ⟨fun _ => yes _ hle2, fun _ => ⟨fun _ => yes _ hle2, fun e => by simp at e⟩⟩
 have hle7 : H4 ≤ H7 := hM.le
 have hle07 : H ≤ H7 := Heap.le_trans hle2 hle7
 simp only [extractE_tup, get0, get1, pureK_some]
 rw [ld_ptr (hle7 _ _ g2), e3]
 simp only [pureK_some]
 refine (few_ok l p ps [] 1 0 p1 .exact nb [] 0 .exact (.inr rfl) hl hp (by decide) (by decide)).run ?_
 rintro v ⟨b, rfl, hfew⟩
 simp only [unE_not, pureK_some, condK_B]
 refine ⟨fun _ => yes _ hle07, fun hb => ⟨fun _ => yes _ hle07, fun _ => ?_⟩⟩
 obtain ⟨_, hps, _⟩ := hfew (by simpa using hb)
 obtain ⟨hfree, hS, hsb, hok, hK⟩ := hM
 obtain ⟨hpre, hbeg⟩ := pre_ok (l := l) (ps := ps) (rf := []) (nb := nb) h0 hp (by decide)
 have hI : RunI l.length 0 (newG l ps [] nb) := ⟨LastI.new h0 hp (by decide) hok hK, rfl, fun x hx => by simp [newG, keepG, preG] at hx, hpre.keep.2.2.trans rfl, rfl, rfl⟩
 have hq0 : DoneQ H7 i (newG l ps [] nb) H7 := DoneQ.refl hS
 simp only [lnl_lst, List.length_map, pureK_some]
 refine hq0.run hok ps.length (by omega) (by omega) fun H21 hq1 _ => ?_
 obtain ⟨j, e, r1, r2, r3, r4, r5, r6⟩ := play_run ps.length 0 (newG l ps [] nb) hI (by show 0 + ps.length = ps.length; omega)
 rw [Int.toNat_natCast] at hq1 ⊢
 have x1 : (runG (newG l ps [] nb) ps.length).2.1 = j := by rw [r1]
 have x2 : (runG (newG l ps [] nb) ps.length).2.2 = e := by rw [r1]
 rw [x1, x2]
 have r6' : playF ps (preG l ps [] nb).t [] 0 = ((runG (newG l ps [] nb) ps.length).1.t, (runG (newG l ps [] nb) ps.length).1.a, (runG (newG l ps [] nb) ps.length).1.n) := r6
 have r4' : (runG (newG l ps [] nb) ps.length).1.n = j := by
  have : (newG l ps [] nb).n = 0 := rfl
  rw [r4, this]; omega
 have okg := r2.last.ok
 clear r6 r1 x1 x2 r4 r2
 generalize (runG (newG l ps [] nb) ps.length).1 = g at hq1 r6' r4' okg
 simp only [extractE_tup, get0, get1, pureK_some]
 refine (settle_Begin_all l p).run ?_
 rw [hbeg]
 have hlive := hpre.live
 refine (runs_Play_fn (preG l ps [] nb).t hlive.toInv ps (by omega) .no p1 H21).mono ?_
 rintro r H27 ⟨t, A, N, rfl, _, hpf, rfl⟩
 rw [r6'] at hpf
 injection hpf with t1 hpf
 injection hpf with t2 t3
 subst t1 t2 t3
 intro o28 ho28
 rw [st_at (n := 3) (v := .agg [rowA g.t.flat .no, txtA g.a .no, I g.n]) (Heap.upd_same _ _ _) rfl (by simp) rfl]
 simp only [heapK_some, Heap.upd_upd']
 have e4 : splice [.lst 0 [] .exact, .lst 0 [] .exact, .sc (.int .i64 0)] 0 (AV.cells (.agg [rowA g.t.flat .no, txtA g.a .no, I g.n])) = [rowA g.t.flat .no, txtA g.a .no, I g.n] := rfl
 rw [e4]
 have g28 : (H27.upd o28 (.cells [rowA g.t.flat .no, txtA g.a .no, I g.n])) o28 = some (.cells [rowA g.t.flat .no, txtA g.a .no, I g.n]) := Heap.upd_same _ _ _
 have hle28 : H27 ≤ H27.upd o28 (.cells [rowA g.t.flat .no, txtA g.a .no, I g.n]) := by simp [ho28]
 obtain ⟨tk', hS28⟩ := hq1.alloc ho28 (.cells [rowA g.t.flat .no, txtA g.a .no, I g.n])
 have hH27 : H ≤ H27 := Heap.le_trans hle2 (DoneQ.le hfree hsb hq1)
 generalize H27.upd o28 (.cells [rowA g.t.flat .no, txtA g.a .no, I g.n]) = H30 at g28 hle28 hS28 ⊢
 have hq : DoneQ H30 { i with tk := tk' } g H30 := DoneQ.refl hS28
 have k1 := okg.len
 have k2 := okg.L60
 have k3 := okg.al
 have k4 := okg.nw
 refine hq.state (by omega) (by omega) ?_
 intro o33 ho33
 rw [st5 (Heap.upd_same _ _ _) rfl ⟨g.t.flat, g.m.1, g.m.2, g.n, g.a⟩]
 simp only [heapK_some, Heap.upd_upd']
 have g33 : (H30.upd o33 (.cells (stA ⟨g.t.flat, g.m.1, g.m.2, g.n, g.a⟩ .no .no).cells)) o33 = some (.cells (stA ⟨g.t.flat, g.m.1, g.m.2, g.n, g.a⟩ .no .no).cells) := Heap.upd_same _ _ _
 have g28' : (H30.upd o33 (.cells (stA ⟨g.t.flat, g.m.1, g.m.2, g.n, g.a⟩ .no .no).cells)) o28 = some (.cells [rowA g.t.flat .no, txtA g.a .no, I g.n]) := by
  rw [Heap.upd_ne _ _ (fun e => by rw [← e, g28] at ho33; cases ho33)]; exact g28
 have hle33 : H30 ≤ H30.upd o33 (.cells (stA ⟨g.t.flat, g.m.1, g.m.2, g.n, g.a⟩ .no .no).cells) := by simp [ho33]
 generalize H30.upd o33 (.cells (stA ⟨g.t.flat, g.m.1, g.m.2, g.n, g.a⟩ .no .no).cells) = H35 at g33 g28' hle33 ⊢
 refine alive21_ok.run ?_
 have hall : H ≤ H35 := Heap.le_trans hH27 (Heap.le_trans hle28 hle33)
 have l1 : ld (some false) 1 H35 (.ptr o28 2) = some (I g.n) := by rw [ld_ptr g28']; rfl
 have l2 : ld (some false) 1 H35 (.ptr o33 0) = some (rowA g.t.flat .no) := by rw [ld_ptr g33]; rfl
 have l3 : ld (some false) 1 H35 (.ptr o28 0) = some (rowA g.t.flat .no) := by rw [ld_ptr g28']; rfl
 have l4 : ld (some false) 1 H35 (.ptr o33 4) = some (txtA g.a .no) := by rw [ld_ptr g33]; rfl
 have l5 : ld (some false) 1 H35 (.ptr o28 1) = some (txtA g.a .no) := by rw [ld_ptr g28']; rfl
 have l6 : ld (some false) 1 H35 (.ptr o33 3) = some (I g.n) := by rw [ld_ptr g33]; rfl
 simp only [condK_B, fa_ptr, pureK_some, Nat.zero_add, l1, l2, l3, l4, l5, l6, bop_eql, decide_eq_true_eq, decide_eq_false_iff_not]
 refine ⟨fun _ => ⟨fun _ => ?_, fun h => absurd (by rw [r4']) h⟩, fun h => by simp at h⟩
 have ebb : bop .bool .eql (B (decide (e = 0))) (B (decide ((j : Int) = (ps.length : Int)))) = some (B true) := by
  have : decide (e = 0) = decide ((j : Int) = (ps.length : Int)) := by
   by_cases h : j = ps.length
   · rw [decide_eq_true (r5.2 h), decide_eq_true (by omega)]
   · rw [decide_eq_false (fun h2 => h (r5.1 h2)), decide_eq_false (by omega)]
  rw [this]
  cases decide ((j : Int) = (ps.length : Int)) <;> rfl
 rw [ebb]
 simp only [pureK_some, condK_B]
 refine ⟨fun _ => ?_, fun h => by simp at h⟩
 refine (ref03_Same_ok g.t.flat g.t.flat .no .no (by unfold small; omega)).run ?_
 simp only [decide_true, condK_B]
 refine ⟨fun _ => ?_, fun h => by simp at h⟩
 simp only [l4, l5, pureK_some]
 refine (ref04_Texts_ok g.a g.a .no .no (by unfold small; omega)).run ?_
 simp only [decide_true, condK_B]
 refine ⟨fun _ => ?_, fun h => by simp at h⟩
 simp only [l6, pureK_some, bop_eql]
 exact ret1_of H hall ⟨B_eq (by rw [r4']; simp), rfl⟩

end Go.Av
