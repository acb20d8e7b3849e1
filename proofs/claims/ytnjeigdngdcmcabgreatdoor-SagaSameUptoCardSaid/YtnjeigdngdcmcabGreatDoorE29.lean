/- Own text E29 of this claim: see the text that holds the theorem. -/
import Derived.Test.YtnjeigdngdcmcabGreatDoorE28
set_option linter.all false
set_option maxRecDepth 100000
namespace Go.Av
open Go Go.Proofs

theorem bop_ptr_none (o : Nat) : bop .ptr .eql (.ptr o 0) (.sc (.pointer none)) = some (B false) := rfl
theorem bop_none_none : bop .ptr .eql (.sc (.pointer none)) (.sc (.pointer none)) = some (B true) := rfl
theorem core_stG {g g' : SG} (h : coreOf g = coreOf g') : stG g = stG g' := by
 have h1 : g.t = g'.t := congrArg Core.t h
 have h2 : g.m = g'.m := congrArg Core.m h
 have h3 : g.n = g'.n := congrArg Core.n h
 have h4 : g.a = g'.a := congrArg Core.a h
 unfold stG; rw [h1, h2, h3, h4]

set_option maxRecDepth 100000 in
theorem law21_SagaSame_ok (l : List Node) (p : Perm) (ps rf : List Int) (s1 s2 : Nat) (p1 p2 : Perm) (nb : Int) (acts : List (Int × Int)) (sa : Nat) (pa : Perm) (hs1 : s1 = 1 ∨ ps = []) (hs2 : s2 = 1 ∨ rf = []) (hsa : sa = 2 ∨ acts = []) (hl : small l.length)
 (hp : ps.length ≤ 1100000) (hr : rf.length ≤ 1100000) (hac : acts.length ≤ 1100000) :
 Pur law21_SagaSame [rowA l p, .agg [intA ps s1 p1, intA rf s2 p2, I nb], actsA acts sa pa] (B true) := by
 intro H
 refine law21_SagaSame_of ?_
 unfold W_law21_SagaSame
 simp only [cells_agg, allocK_some]
 refine ⟨rfl, fun o1 ho1 => ?_⟩
 have g1 : (H.upd o1 (.cells [intA ps s1 p1, intA rf s2 p2, I nb])) o1 = some (.cells [intA ps s1 p1, intA rf s2 p2, I nb]) := Heap.upd_same _ _ _
 have hle1 : H ≤ H.upd o1 (.cells [intA ps s1 p1, intA rf s2 p2, I nb]) := by simp [ho1]
 generalize H.upd o1 (.cells [intA ps s1 p1, intA rf s2 p2, I nb]) = H2 at g1 hle1 ⊢
 dsimp only
 rw [ld_ptr g1]
 have e3 : cutE [intA ps s1 p1, intA rf s2 p2, I nb] 0 (some true) 3 = some (.agg [intA ps s1 p1, intA rf s2 p2, I nb]) := rfl
 rw [e3]
 simp only [pureK_some]
 have yes : ∀ HX, H ≤ HX → ACalls PP gΓ law21_alive [] HX (fun x12 H13 => ret1 H13 (fun r H' => r = B true ∧ H' = H) x12) := fun HX hle => alive21_ok.run (ret1_of H hle ⟨rfl, rfl⟩)
 refine (few_ok l p ps rf s1 s2 p1 p2 nb acts sa pa hsa hl hp hr hac).run ?_
 rintro v ⟨b, rfl, hfew⟩
 simp only [unE_not, pureK_some, condK_B]
 refine ⟨fun _ => yes _ hle1, fun hb => ?_⟩
 obtain ⟨_, _, _, hac60, _⟩ := hfew (by simpa using hb)
 rw [ld_ptr g1, e3]
 simp only [pureK_some]
 refine (Played_ok l p ps rf s1 s2 p1 p2 nb acts sa pa hs1 hs2 hsa hp hr hac60 H2).mono ?_
 rintro r H11 (⟨hne, rfl, rfl⟩ | ⟨h0, i, g, tk, cr, rfl, hin, hE⟩)
 · simp only [extractE_tup, get0, get1, get2, pureK_some]
   rw [ld_ptr g1, e3]
   simp only [pureK_some]
   refine (Played_ok l p ps rf s1 s2 p1 p2 nb [] 0 .exact hs1 hs2 (.inr rfl) hp hr (by decide) H11).mono ?_
   rintro r H17 (⟨_, rfl, rfl⟩ | ⟨h0, _⟩)
   rotate_left
   · exact absurd h0 hne
   simp only [extractE_tup, get0, get1, get2, pureK_some, bop_none_none, condK_B]
   refine ⟨fun _ => ?_, fun e => by simp at e⟩
   refine alive21_ok.run ?_
   simp only [condK_B]
   refine ⟨fun _ => ⟨fun _ => ?_, fun e => by simp at e⟩, fun e => by simp at e⟩
   exact ret1_of H hle1 ⟨rfl, rfl⟩
 have hle11 : H2 ≤ H11 := hin.le
 simp only [extractE_tup, get0, get1, get2, pureK_some]
 rw [ld_ptr (hle11 _ _ g1), e3]
 simp only [pureK_some]
 refine (Played_ok l p ps rf s1 s2 p1 p2 nb [] 0 .exact hs1 hs2 (.inr rfl) hp hr (by decide) H11).mono ?_
 rintro r H17 (⟨hne, _⟩ | ⟨_, i', g', tk', cr', rfl, hin', hE'⟩)
 · exact absurd h0 hne
 simp only [extractE_tup, get0, get1, get2, pureK_some, bop_ptr_none, condK_B]
 refine ⟨fun e => by simp at e, fun _ => ⟨fun e => by simp at e, fun _ => ?_⟩⟩
 obtain ⟨hcore, hdl⟩ := hE.eq hE'
 have hst := core_stG hcore
 have ht : g.t = g'.t := congrArg Core.t hcore
 have ha : g.a = g'.a := congrArg Core.a hcore
 have k1 := hE.same.last.ok.al
 have k2 := hE.same.last.ok.nw
 have k3 := hE.same.last.ok.L60
 have k4 := hE.same.last.ok.len
 have k5 := hE.same.last.ok.dl
 have k1' := hE'.same.last.ok.al
 have k2' := hE'.same.last.ok.nw
 have k4' := hE'.same.last.ok.len
 have k5' := hE'.same.last.ok.dl
 have hg := hin.up hin'.le
 refine hg.q.trace hE.same.last.ok.live.good.ok (by omega) ?_
 rw [if_pos hE.over]
 simp only [extractE_tup, get0, get1, pureK_some]
 intro o35 ho35
 have stT : ∀ (HY : Heap) (a : List ByteArray) (s : Int) (o : Nat) (cs : List AV), HY o = some (.cells cs) → cs.length = 2 → st 2 HY (.ptr o 0) (.agg [txtA a .no, I s]) = some (HY.upd o (.cells [txtA a .no, I s])) := fun HY a s o cs hy hcs => by
  rw [st_at (n := 2) (v := .agg [txtA a .no, I s]) hy rfl (by rw [hcs]; decide) rfl]
  have : splice cs 0 (AV.cells (.agg [txtA a .no, I s])) = [txtA a .no, I s] := by
   unfold splice
   rw [List.take_zero, List.nil_append, Nat.zero_add, show (AV.cells (.agg [txtA a .no, I s])).length = 2 from rfl, List.drop_of_length_le (by omega), List.append_nil]; rfl
  rw [this]
 rw [stT _ _ _ _ _ (Heap.upd_same _ _ _) rfl]
 simp only [heapK_some, Heap.upd_upd']
 have hg2 := hg.alloc ho35 (.cells [txtA g.a .no, I g.t.root.sign])
 have hg2' := hin'.alloc ho35 (.cells [txtA g.a .no, I g.t.root.sign])
 have l35 : (H17.upd o35 (.cells [txtA g.a .no, I g.t.root.sign])) o35 = some (.cells [txtA g.a .no, I g.t.root.sign]) := Heap.upd_same _ _ _
 generalize H17.upd o35 (.cells [txtA g.a .no, I g.t.root.sign]) = H37 at hg2 hg2' l35 ⊢
 refine hg2'.q.trace hE'.same.last.ok.live.good.ok (by omega) ?_
 rw [if_pos hE'.over]
 simp only [extractE_tup, get0, get1, pureK_some]
 intro o42 ho42
 rw [stT _ _ _ _ _ (Heap.upd_same _ _ _) rfl]
 simp only [heapK_some, Heap.upd_upd']
 have hg3 := hg2.alloc ho42 (.cells [txtA g'.a .no, I g'.t.root.sign])
 have hg3' := hg2'.alloc ho42 (.cells [txtA g'.a .no, I g'.t.root.sign])
 have l42 : (H37.upd o42 (.cells [txtA g'.a .no, I g'.t.root.sign])) o42 = some (.cells [txtA g'.a .no, I g'.t.root.sign]) := Heap.upd_same _ _ _
 have l35' : (H37.upd o42 (.cells [txtA g'.a .no, I g'.t.root.sign])) o35 = some (.cells [txtA g.a .no, I g.t.root.sign]) := by
  rw [Heap.upd_ne _ _ (fun e => by rw [e, ho42] at l35; cases l35)]; exact l35
 generalize H37.upd o42 (.cells [txtA g'.a .no, I g'.t.root.sign]) = H44 at hg3 hg3' l42 l35' ⊢
 have hall : H ≤ H44 := Heap.le_trans hle1 hg3.le
 refine alive21_ok.run ?_
 simp only [condK_B]
 refine ⟨fun _ => ⟨fun _ => ⟨fun _ => ?_, fun e => by simp at e⟩, fun e => by simp at e⟩, fun e => by simp at e⟩
 have c1 : cutE [txtA g.a .no, I g.t.root.sign] 0 (some true) 2 = some (.agg [txtA g.a .no, I g.t.root.sign]) := rfl
 have c2 : cutE [txtA g'.a .no, I g'.t.root.sign] 0 (some true) 2 = some (.agg [txtA g'.a .no, I g'.t.root.sign]) := rfl
 rw [ld_ptr l35', c1]
 simp only [pureK_some]
 rw [ld_ptr l42, c2]
 simp only [pureK_some]
 rw [← ht, ← ha]
 refine (Compare_same g.a .no .no g.t.root.sign (by omega)).run ?_
 simp only [bop_eql, pureK_some, condK_B]
 refine ⟨fun _ => ?_, fun e => by simp at e⟩
 refine hg3.q.state (by omega) (by omega) ?_
 refine hg3'.q.state (by omega) (by omega) ?_
 refine (code_Same_ok (stG g) (stG g') .no .no .no .no (by show g.t.flat.length ≤ _; omega) (by show g.a.length ≤ _; omega)).run ?_
 rw [hst]
 simp only [decide_true, condK_B]
 refine ⟨fun _ => ?_, fun e => by simp at e⟩
 refine hg3.q.deal ?_
 refine (Deeds_ok hg3.sa.deal (by omega)).mono ?_
 rintro r HA ⟨rfl, rfl⟩
 simp only [lnl_lst, pureK_some]
 refine hg3'.q.deal ?_
 refine (Deeds_ok hg3'.sa.deal (by omega)).mono ?_
 rintro r HB ⟨rfl, rfl⟩
 simp only [lnl_lst, pureK_some, List.length_map, bop_eql]
 exact ret1_of H hall ⟨B_eq (by rw [hdl]; simp), rfl⟩

end Go.Av
