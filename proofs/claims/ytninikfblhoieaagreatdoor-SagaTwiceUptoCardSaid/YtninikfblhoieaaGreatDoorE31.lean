/- Own text E31 of this claim: see the text that holds the theorem. -/
import Derived.Test.YtninikfblhoieaaGreatDoorW0
import Derived.Test.YtninikfblhoieaaGreatDoorE30
set_option linter.all false
set_option maxRecDepth 100000
namespace Go.Av
open Go Go.Proofs

theorem bld3 {v1 v2 : AV} (nb : Int) (h1 : v1.single = true) (h2 : v2.single = true) : bld [(0, 1), (1, 1), (2, 1)] [.lst 0 [] .exact, .lst 0 [] .exact, .sc (.int .i64 0)] [(0, v1), (1, v2), (2, I nb)] = some (.agg [v1, v2, I nb]) := by
 cases v1 <;> first | (cases v2 <;> first | rfl | (simp [AV.single] at h2; done)) | (simp [AV.single] at h1; done)
theorem splice_set1 {cs : List AV} {k : Nat} {x : AV} (h : k < cs.length) : splice cs k [x] = cs.set k x := by
 unfold splice
 rw [List.set_eq_take_append_cons_drop, if_pos h]
 simp
theorem row_inc {HX : Heap} {v : AV} {n k : Nat} (h : Own HX v n) (hk : k < n) : ∃ (o : Nat) (cs : List AV) (m : Int), ownO v = some o ∧ HX o = some (.cells cs) ∧ ias 1 v (I k) = some (.ptr o (0 + k * 1)) ∧ ld (some false) 1 HX (.ptr o (0 + k * 1)) = some (I m) ∧
 ∀ m' : Int, st 1 HX (.ptr o (0 + k * 1)) (I m') = some (HX.upd o (.cells (cs.set k (I m')))) ∧ Own (HX.upd o (.cells (cs.set k (I m')))) v n := by
 rcases h with ⟨rfl, _⟩ | ⟨o, cap, cs, rfl, h1, h2, h3⟩
 · omega
 · obtain ⟨m, hm⟩ := h3 k hk
   have e0 : 0 + k * 1 = k := by omega
   refine ⟨o, cs, m, rfl, h1, ?_, ?_, fun m' => ⟨?_, .inr ⟨o, cap, _, rfl, Heap.upd_same _ _ _, by simpa using h2, fun q hq => ?_⟩⟩⟩
   · show (if 0 ≤ (k : Int) ∧ (k : Int) < n then some (AV.ptr o (0 + (k : Int).toNat * 1)) else none) = _
     rw [if_pos (by omega)]; rfl
   · rw [ld_ptr h1, e0, cutE_one]; exact hm
   · rw [st_at (n := 1) h1 rfl (by rw [e0]; show k + 1 ≤ _; omega) rfl, e0]
     show some (HX.upd o (.cells (splice cs k [I m']))) = _
     rw [splice_set1 (by omega)]
   · rw [List.getElem?_set]
     by_cases e : k = q
     · subst e; rw [if_pos rfl, if_pos (by omega)]; exact ⟨m', rfl⟩
     · rw [if_neg e]; exact h3 q hq

set_option maxRecDepth 100000 in
theorem law21_SagaTwice_ok (l : List Node) (p : Perm) (ps rf : List Int) (s1 s2 : Nat) (p1 p2 : Perm) (nb : Int) (acts : List (Int × Int)) (sa : Nat) (pa : Perm) (hs1 : s1 = 1 ∨ ps = []) (hs2 : s2 = 1 ∨ rf = []) (hsa : sa = 2 ∨ acts = []) (hl : small l.length)
 (hp : ps.length ≤ 1100000) (hr : rf.length ≤ 1100000) (hac : acts.length ≤ 1100000) :
 Pur law21_SagaTwice [rowA l p, .agg [intA ps s1 p1, intA rf s2 p2, I nb], actsA acts sa pa] (B true) := by
 intro H
 refine law21_SagaTwice_of ?_
 unfold W_law21_SagaTwice
 simp only [cells_agg, allocK_some]
 refine ⟨rfl, fun o1 ho1 => ?_⟩
 have g1 : (H.upd o1 (.cells [intA ps s1 p1, intA rf s2 p2, I nb])) o1 = some (.cells [intA ps s1 p1, intA rf s2 p2, I nb]) := Heap.upd_same _ _ _
 have hle1 : H ≤ H.upd o1 (.cells [intA ps s1 p1, intA rf s2 p2, I nb]) := by simp [ho1]
 generalize H.upd o1 (.cells [intA ps s1 p1, intA rf s2 p2, I nb]) = H2 at g1 hle1 ⊢
 dsimp only
 rw [ld_ptr g1]
 have e3 : cutE [intA ps s1 p1, intA rf s2 p2, I nb] 0 (some true) 3 = some (.agg [intA ps s1 p1, intA rf s2 p2, I nb]) := rfl
 rw [e3]
 simp only [pureK_some]
 have yes : ∀ HX, H ≤ HX → ACalls PP gΓ law21_alive [] HX (fun x12 H13 => ret1 H13 (fun r H' => r = B true ∧ H' = H) x12) := fun HX hle => alive21_ok.run (ret1_of H hle ⟨rfl, rfl⟩)
 refine (few_ok l p ps rf s1 s2 p1 p2 nb acts sa pa hsa hl hp hr hac).run ?_
 rintro v ⟨b, rfl, hfew⟩
 simp only [unE_not, pureK_some, condK_B]
 refine ⟨fun _ => yes _ hle1, fun hb => ?_⟩
 obtain ⟨_, _, _, hac60, _⟩ := hfew (by simpa using hb)
 -- the rows that are made
 have e2 : bsl 1 (.sc (.int .i64 0)) 0 [] = some (.lst 1 [] .exact) := rfl
 simp only [e2, pureK_some, fa_ptr, Nat.zero_add, ld_ptr g1, cutE_one, get0, get1, get2]
 obtain ⟨φ1, a1, b1, c1⟩ := row_app ps s1 p1 hs1 hp H2
 obtain ⟨φ2, a2, b2, c2⟩ := row_app rf s2 p2 hs2 hr H2
 refine ⟨φ1, a1, φ2, a2, ?_, ?_⟩
 · rintro v19 ⟨rf', ob, q, h1, rfl⟩ v20 ⟨rf2, ob2, q2, h2, rfl⟩
   exact ⟨_, bld3 nb (b1 _ _ q h1) (b2 _ _ q2 h2)⟩
 intro rf21 ob22 h1
 refine c1 _ _ _ _ h1 fun v1 H24 w1 le24 f1 => ?_
 intro rf25 ob26 h2
 refine c2 _ _ _ _ h2 fun v2 H28 w2 le28 f2 => ?_
 clear h1 h2 c1 c2 b1 b2 a1 a2
 rw [bld3 nb w1.single w2.single]
 simp only [pureK_some]
 intro o30 ho30
 rw [st_at (n := 3) (v := .agg [v1, v2, I nb]) (Heap.upd_same _ _ _) rfl (by simp) (by simp only [AV.cells, List.all_cons, w1.single, w2.single]; rfl)]
 simp only [heapK_some, Heap.upd_upd']
 have e0 : splice [.lst 0 [] .exact, .lst 0 [] .exact, .sc (.int .i64 0)] 0 (AV.cells (.agg [v1, v2, I nb])) = [v1, v2, I nb] := rfl
 rw [e0]
 have le32 : H28 ≤ H28.upd o30 (.cells [v1, v2, I nb]) := by simp [ho30]
 have g30 : (H28.upd o30 (.cells [v1, v2, I nb])) o30 = some (.cells [v1, v2, I nb]) := Heap.upd_same _ _ _
 generalize H28.upd o30 (.cells [v1, v2, I nb]) = H32 at le32 g30 ⊢
 have hle32 : H2 ≤ H32 := Heap.le_trans le24 (Heap.le_trans le28 le32)
 have w1' : RowV H32 v1 ps := w1.le (Heap.le_trans le28 le32)
 have w2' : RowV H32 v2 rf := w2.le le32
 rw [ld_ptr (hle32 _ _ g1), e3]
 simp only [pureK_some]
 have e4 : cutE [v1, v2, I nb] 0 (some true) 3 = some (.agg [v1, v2, I nb]) := rfl
 refine (made_ok l p ps rf s1 s2 p1 p2 nb hs1 hs2 hp hr H32).mono ?_
 rintro r H35 (⟨hne, rfl, rfl⟩ | ⟨h0, i, rfl, hM1⟩)
 · simp only [extractE_tup, get0, get1, pureK_some]
   rw [ld_ptr g30, e4]
   simp only [pureK_some]
   refine (made_gen l p ps rf v1 v2 nb w1.single w2.single hp hr H35 (fun H' h => Clone_row (w1'.le h) hp) (fun H' h => deal_New_row (w2'.le h) hr)).mono ?_
   rintro r H40 (⟨_, rfl, rfl⟩ | ⟨h0, _⟩)
   rotate_left
   · exact absurd h0 hne
   simp only [extractE_tup, get0, get1, pureK_some, unE_not, condK_B]
   refine ⟨fun _ => ?_, fun e => by simp at e⟩
   refine alive21_ok.run ?_
   simp only [condK_B]
   refine ⟨fun _ => ?_, fun e => by simp at e⟩
   have eb : bop .bool .eql (B false) (B false) = some (B true) := rfl
   rw [eb]
   simp only [pureK_some]
   exact ret1_of H (Heap.le_trans hle1 hle32) ⟨rfl, rfl⟩
 have hle35 := hM1.le
 simp only [extractE_tup, get0, get1, pureK_some]
 rw [ld_ptr (hle35 _ _ g30), e4]
 simp only [pureK_some]
 refine (made_gen l p ps rf v1 v2 nb w1.single w2.single hp hr H35 (fun H' h => Clone_row ((w1'.le hle35).le h) hp) (fun H' h => deal_New_row ((w2'.le hle35).le h) hr)).mono ?_
 rintro r H40 (⟨hne, _⟩ | ⟨_, j, rfl, hM2⟩)
 · exact absurd h0 hne
 have hle40 := hM2.le
 simp only [extractE_tup, get0, get1, pureK_some, unE_not, condK_B]
 refine ⟨fun e => by simp at e, fun _ => ⟨fun e => by simp at e, fun _ => ?_⟩⟩
 -- what stands in the heap
 have fresh : ∀ {HA : Heap} {o : Nat}, H ≤ HA → HA o = none → H o = none := fun {HA o} hle ho => by
  cases e : H o with
  | none => rfl
  | some x => rw [hle _ _ e] at ho; cases ho
 have stay : ∀ {HA HB : Heap} {o : Nat}, HA ≤ HB → HA o ≠ none → HB o ≠ none := fun {HA HB o} hle ho e => by
  cases e2 : HA o with
  | none => exact ho e2
  | some x => rw [hle _ _ e2] at e; cases e
 have hI := SameI.new h0 hp hr hM1.2.2.2.1 hM1.2.2.2.2
 have hT0 : TwoAt H i j i.tk j.tk (newG l ps rf nb) (newG l ps rf nb) H40 := by
  refine ⟨SagaAt.le (i := i) hM1.2.1 hle40, hM2.2.1, fun o ho => fresh (Heap.le_trans hle1 hle32) (hM1.1 o ho), fun o ho => fresh (Heap.le_trans hle1 (Heap.le_trans hle32 hle35)) (hM2.1 o ho), fun o ho hj => ?_, Heap.le_trans hle1 (Heap.le_trans hle32 (Heap.le_trans hle35 hle40))⟩
  have e := hM2.1 o hj
  exact SagaAt.alive (i := i) hM1.2.1 ho e
 have d1 : ∀ o, ownO v1 = some o → H o = none ∧ o ∉ ({ i with tk := i.tk } : Ids).all ∧ o ∉ ({ j with tk := j.tk } : Ids).all ∧ o ≠ o30 ∧ ownO v2 ≠ some o := fun o ho => by
  have al24 := w1.alive ho
  have al32 := stay (Heap.le_trans le28 le32) al24
  refine ⟨fresh hle1 (f1 o ho), fun e => al32 (hM1.1 o e), fun e => stay hle35 al32 (hM2.1 o e), fun e => ?_, fun e => al24 (f2 o e)⟩
  rw [e] at al24
  exact stay le28 al24 ho30
 have d2 : ∀ o, ownO v2 = some o → H o = none ∧ o ∉ ({ i with tk := i.tk } : Ids).all ∧ o ∉ ({ j with tk := j.tk } : Ids).all ∧ o ≠ o30 ∧ ownO v1 ≠ some o := fun o ho => by
  have al28 := w2.alive ho
  have al32 := stay le32 al28
  refine ⟨fresh (Heap.le_trans hle1 le24) (f2 o ho), fun e => al32 (hM1.1 o e), fun e => stay hle35 al32 (hM2.1 o e), fun e => ?_, fun e => w1.alive e (f2 o ho)⟩
  rw [e] at al28
  exact al28 ho30
 have hg30 : H40 o30 = some (.cells [v1, v2, I nb]) := hle40 _ _ (hle35 _ _ g30)
 have ow1 : Own H40 v1 ps.length := (w1'.le (Heap.le_trans hle35 hle40)).own
 have ow2 : Own H40 v2 rf.length := (w2'.le (Heap.le_trans hle35 hle40)).own
 generalize newG l ps rf nb = g00 at hT0 hI
 clear hM1 hM2 w1' w2' f1 f2 w1 w2 hle40 hle35 hle32 g30 le32 le24 le28 ho30
 simp only [fa_ptr, pureK_some, Nat.zero_add, ld_ptr hg30, cutE_one, get0, ow1.lnl]
 refine ⟨fun vs HX nn => ∃ k : Nat, k ≤ ps.length ∧ nn = ps.length - k ∧ vs = [actsA acts sa pa, .ptr o30 0, .ptr i.s 0, .ptr j.s 0, I ps.length, I k] ∧ TwoAt H i j i.tk j.tk g00 g00 HX ∧ HX o30 = some (.cells [v1, v2, I nb]) ∧ Own HX v1 ps.length ∧ Own HX v2 rf.length,
  ⟨_, _, Heap.le_refl _, 0, Nat.zero_le _, rfl, rfl, hT0, hg30, ow1, ow2⟩, ?_⟩
 clear hT0 hg30 ow1 ow2
 rintro vs H56 nn ⟨k, hk, rfl, rfl, hT, hg30, ow1, ow2⟩
 simp only [nth_zero, nth_succ, bop_lss, pureK_some, condK_B, decide_eq_true_eq, decide_eq_false_iff_not]
 refine ⟨fun hlt => ?_, fun _ => ?_⟩
 · obtain ⟨o, cs, m, q1, q2, q3, q4, q5⟩ := row_inc ow1 (k := k) (by omega)
   obtain ⟨t1, t2, t3, t4, t5⟩ := d1 o q1
   obtain ⟨q6, q7⟩ := q5 (IntKind.wrap .i64 (m + 1))
   simp only [fa_ptr, pureK_some, Nat.zero_add, ld_ptr hg30, cutE_one, get0, q3]
   rw [Nat.zero_add] at q4 q6
   simp only [q4, pureK_some, bop_addw, q6, heapK_some]
   refine ⟨ps.length - (k + 1), _, by omega, Heap.le_refl _, k + 1, by omega, rfl, ?_, hT.turn t1 t2 t3 _, ?_, q7, ow2.ne t5 _⟩
   · have : IntKind.wrap .i64 ((k : Int) + 1) = ((k + 1 : Nat) : Int) := by
      have e := bop_add (bk := .plain) (a := (k : Int)) (b := 1) (by omega) (by omega)
      rw [bop_addw] at e
      injection e with e
      injection e with e
      injection e with _ e
     rw [this]
   · rw [Heap.upd_ne _ _ (Ne.symm t4)]; exact hg30
 clear hk
 simp only [fa_ptr, pureK_some, Nat.zero_add, ld_ptr hg30, cutE_one, get1, ow2.lnl]
 refine ⟨fun vs HX nn => ∃ k : Nat, k ≤ rf.length ∧ nn = rf.length - k ∧ vs = [actsA acts sa pa, .ptr o30 0, .ptr i.s 0, .ptr j.s 0, I rf.length, I k] ∧ TwoAt H i j i.tk j.tk g00 g00 HX ∧ HX o30 = some (.cells [v1, v2, I nb]) ∧ Own HX v2 rf.length,
  ⟨_, _, Heap.le_refl _, 0, Nat.zero_le _, rfl, rfl, hT, hg30, ow2⟩, ?_⟩
 clear hT hg30 ow1 ow2
 rintro vs H76 nn ⟨k, hk, rfl, rfl, hT, hg30, ow2⟩
 simp only [nth_zero, nth_succ, bop_lss, pureK_some, condK_B, decide_eq_true_eq, decide_eq_false_iff_not]
 refine ⟨fun hlt => ?_, fun _ => ?_⟩
 · obtain ⟨o, cs, m, q1, q2, q3, q4, q5⟩ := row_inc ow2 (k := k) (by omega)
   obtain ⟨t1, t2, t3, t4, t5⟩ := d2 o q1
   obtain ⟨q6, q7⟩ := q5 (IntKind.wrap .i64 (m + 1))
   simp only [fa_ptr, pureK_some, Nat.zero_add, ld_ptr hg30, cutE_one, get1, q3]
   rw [Nat.zero_add] at q4 q6
   simp only [q4, pureK_some, bop_addw, q6, heapK_some]
   refine ⟨rf.length - (k + 1), _, by omega, Heap.le_refl _, k + 1, by omega, rfl, ?_, hT.turn t1 t2 t3 _, ?_, q7⟩
   · have : IntKind.wrap .i64 ((k : Int) + 1) = ((k + 1 : Nat) : Int) := by
      have e := bop_add (bk := .plain) (a := (k : Int)) (b := 1) (by omega) (by omega)
      rw [bop_addw] at e
      injection e with e
      injection e with e
      injection e with _ e
     rw [this]
   · rw [Heap.upd_ne _ _ (Ne.symm t4)]; exact hg30
 clear hk hg30 ow2 d1 d2
 simp only [lnl_lst, List.length_map, pureK_some]
 refine ⟨fun vs HX nn => ∃ (k : Nat) (g g0 : SG) (ti tj : Option Nat), k ≤ acts.length ∧ nn = acts.length - k ∧ vs = [.ptr i.s 0, .ptr j.s 0, actsA acts sa pa, I acts.length, I k] ∧ TwoAt H i j ti tj g g HX ∧ SameI l.length (1000 * k) ps rf (coreOf g00) g g0,
  ⟨_, _, Heap.le_refl _, 0, g00, g00, i.tk, j.tk, Nat.zero_le _, rfl, rfl, hT, hI⟩, ?_⟩
 clear hT
 rintro vs HX nn ⟨k, g, g0, ti, tj, hk, rfl, rfl, hT, hI⟩
 simp only [nth_zero, nth_succ, bop_lss, pureK_some, condK_B, decide_eq_true_eq, decide_eq_false_iff_not]
 refine ⟨fun hlt => ?_, fun _ => ?_⟩
 · have hk' : k < acts.length := by omega
   have hsa' : sa = 2 := hsa.resolve_right fun e => by rw [e] at hk'; simp at hk'
   subst hsa'
   rw [ias_act hk']
   simp only [pureK_some]
   obtain ⟨x, hx⟩ : ∃ x, x = acts[k] := ⟨_, rfl⟩
   rw [← hx]
   have e5 : ld (some true) 2 HX (.cp [I x.1, I x.2] 0) = some (.agg [I x.1, I x.2]) := rfl
   rw [e5]
   simp only [pureK_some]
   intro o103 ho103
   rw [st2 x (Heap.upd_same _ _ _) rfl]
   simp only [heapK_some, Heap.upd_upd']
   have n1 : o103 ∉ ({ i with tk := ti } : Ids).all := fun e => hT.a.alive e ho103
   have n2 : o103 ∉ ({ j with tk := tj } : Ids).all := fun e => hT.b.alive e ho103
   have hT1 := hT.alloc ho103 (.cells [I x.1, I x.2])
   have g103 : (HX.upd o103 (.cells [I x.1, I x.2])) o103 = some (.cells [I x.1, I x.2]) := Heap.upd_same _ _ _
   generalize HX.upd o103 (.cells [I x.1, I x.2]) = H105 at hT1 g103 ⊢
   have l1 : ld (some true) 2 H105 (.ptr o103 0) = some (.agg [I x.1, I x.2]) := by rw [ld_ptr g103]; rfl
   rw [l1]
   simp only [pureK_some]
   refine hT1.q.act hI.last.ok (by omega) x fun H108 hq108 => ?_
   obtain ⟨ti2, hT2, hkeep⟩ := hT1.next hq108
   obtain ⟨_, n2', g103'⟩ := hkeep _ _ g103 n1 n2
   simp only [extractE_tup, get0, get1, pureK_some]
   have l2 : ld (some true) 2 H108 (.ptr o103 0) = some (.agg [I x.1, I x.2]) := by rw [ld_ptr g103']; rfl
   rw [l2]
   simp only [pureK_some]
   refine hT2.swap.q.act hI.last.ok (by omega) x fun H113 hq113 => ?_
   obtain ⟨tj2, hT3, _⟩ := hT2.swap.next hq113
   have hT4 := hT3.swap
   obtain ⟨g1', hI2⟩ := hI.act x
   simp only [extractE_tup, get0, get1, pureK_some, bop_neq, condK_B]
   refine ⟨fun e => by simp at e, fun _ => ⟨fun e => by simp at e, fun _ => ?_⟩⟩
   generalize (doG g x).1 = g2 at hT4 hI2
   have k1 := hI2.last.ok.len
   have k2 := hI2.last.ok.L60
   have k3 := hI2.last.ok.al
   have k4 := hI2.last.ok.nw
   refine hT4.q.state (by omega) (by omega) ?_
   refine hT4.swap.q.state (by omega) (by omega) ?_
   refine (code_Same_ok (stG g2) (stG g2) .no .no .no .no (by show g2.t.flat.length ≤ _; omega) (by show g2.a.length ≤ _; omega)).run ?_
   simp only [decide_true, unE_not, pureK_some, condK_B]
   refine ⟨fun e => by simp at e, fun _ => ?_⟩
   rw [bop_add (by omega) (by omega)]
   simp only [pureK_some]
   exact ⟨acts.length - (k + 1), H113, by omega, Heap.le_refl _, k + 1, g2, g1', ti2, tj2, by omega, rfl, rfl, hT4, hI2.more (by omega)⟩
 · refine alive21_ok.run ?_
   simp only [condK_B]
   refine ⟨fun _ => ?_, fun e => by simp at e⟩
   refine hT.q.deal (hT.q.asked (hT.swap.q.deal (hT.swap.q.asked ?_)))
   simp only [bop_eql, pureK_some, condK_B, decide_true]
   refine ⟨fun _ => ?_, fun e => by simp at e⟩
   refine hT.q.disk ((Writes_ok hT.a.store.disk).mono ?_)
   rintro r HA ⟨rfl, rfl⟩
   refine hT.swap.q.disk ((Writes_ok hT.b.store.disk).mono ?_)
   rintro r HB ⟨rfl, rfl⟩
   simp only [bop_eql, pureK_some, decide_true]
   exact ret1_of H hT.le ⟨rfl, rfl⟩

end Go.Av
