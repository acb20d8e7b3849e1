/- Own text E28 of this claim: see the text that holds the theorem. -/
import Derived.Test.YtnjeigdngdcmcabGreatDoorE27
set_option linter.all false
set_option maxRecDepth 100000
namespace Go.Av
open Go Go.Proofs

theorem bytesLess_irr (l : List UInt8) : Op.bytesLess l l = false := by
 induction l with
 | nil => rfl
 | cons x l ih => simp [Op.bytesLess, ih]
theorem bop_str (a : ByteArray) : bop .plain .neq (S a) (S a) = some (B false) ∧ bop .plain .lss (S a) (S a) = some (B false) ∧ bop .plain .gtr (S a) (S a) = some (B false) := by
 refine ⟨?_, ?_, ?_⟩
 · show some (B (!decide (a = a))) = _
   simp
 · show some (B (Op.bytesLess a.toList a.toList)) = _
   rw [bytesLess_irr]
 · show some (B (!(Op.bytesLess a.toList a.toList || decide (a = a)))) = _
   simp
theorem isNaN_str (a : ByteArray) : Pur cmp_isNaN_string [S a] (B false) := by
 intro H
 refine cmp_isNaN_string_of ?_
 unfold W_cmp_isNaN_string
 rw [(bop_str a).1]
 simp only [pureK_some]
 exact ret1_of H (Heap.le_refl _) ⟨rfl, rfl⟩
theorem isNaN_int (a : Int) : Pur cmp_isNaN_int [I a] (B false) := by
 intro H
 refine cmp_isNaN_int_of ?_
 unfold W_cmp_isNaN_int
 simp only [bop_neq, pureK_some, decide_true, Bool.not_true]
 exact ret1_of H (Heap.le_refl _) ⟨rfl, rfl⟩
theorem Compare_str (a : ByteArray) : Pur cmp_Compare_string [S a, S a] (I 0) := by
 intro H
 refine cmp_Compare_string_of ?_
 unfold W_cmp_Compare_string
 refine (isNaN_str a).run ((isNaN_str a).run ?_)
 obtain ⟨_, h2, h3⟩ := bop_str a
 simp only [condK_B, h2, h3, pureK_some]
 exact ⟨fun e => by simp at e, fun _ => ⟨fun e => by simp at e, fun _ => ⟨fun e => by simp at e, fun _ => ⟨fun e => by simp at e, fun _ => ret1_of H (Heap.le_refl _) ⟨rfl, rfl⟩⟩⟩⟩⟩
theorem Compare_int (a : Int) : Pur cmp_Compare_int [I a, I a] (I 0) := by
 intro H
 refine cmp_Compare_int_of ?_
 unfold W_cmp_Compare_int
 refine (isNaN_int a).run ((isNaN_int a).run ?_)
 simp only [condK_B, bop_lss, bop_gtr, pureK_some]
 exact ⟨fun e => by simp at e, fun _ => ⟨fun e => by simp at e, fun _ => ⟨fun e => by simp at e, fun _ => ⟨fun e => by simp at e, fun _ => ret1_of H (Heap.le_refl _) ⟨rfl, rfl⟩⟩⟩⟩⟩
theorem Compare_txt (a : List ByteArray) (p q : Perm) (hl : a.length ≤ 1000000) : Pur slices_Compare_string [txtA a p, txtA a q] (I 0) := by
 intro H
 refine slices_Compare_string_of ?_
 unfold W_slices_Compare_string
 simp only [lnl_lst, pureK_some, List.length_map]
 refine ⟨fun vs H' m => ∃ k : Nat, k ≤ a.length ∧ vs = [txtA a p, txtA a q, txtA a p, I a.length, I k] ∧ H' = H ∧ m = a.length - k, ⟨_, H, Heap.le_refl _, 0, Nat.zero_le _, rfl, rfl, rfl⟩, ?_⟩
 rintro vs H' m ⟨k, hk, rfl, rfl, rfl⟩
 simp only [nth_zero, nth_succ, lnl_lst, List.length_map, bop_lss, bop_geq, pureK_some, condK_B, decide_eq_true_eq, decide_eq_false_iff_not]
 refine ⟨fun hlt => ?_, fun _ => ⟨fun e => absurd e (by omega), fun _ => ret1_of H' (Heap.le_refl _) ⟨rfl, rfl⟩⟩⟩
 have hk' : k < a.length := by omega
 rw [ias_txt (by omega) (by simpa using hk'), ias_txt (by omega) (by simpa using hk')]
 simp only [pureK_some, ld_cp, cutE_one, get0]
 refine ⟨fun e => absurd e (by omega), fun _ => ?_⟩
 refine (Compare_str _).run ?_
 simp only [bop_neq, pureK_some, condK_B]
 refine ⟨fun e => by simp at e, fun _ => ?_⟩
 rw [bop_add (by omega) (by omega)]
 simp only [pureK_some]
 exact ⟨a.length - (k + 1), H', by omega, Heap.le_refl _, k + 1, by omega, rfl, rfl, rfl⟩
theorem Or_zero : Pur cmp_Or_int [.lst 1 [I 0, I 0] .exact] (I 0) := by
 intro H
 refine cmp_Or_int_of ?_
 unfold W_cmp_Or_int
 simp only [lnl_lst, pureK_some]
 refine ⟨fun vs H' m => ∃ k : Nat, k ≤ 2 ∧ vs = [I 0, .lst 1 [I 0, I 0] .exact, I 2, I k] ∧ H' = H ∧ m = 2 - k, ⟨_, H, Heap.le_refl _, 0, Nat.zero_le _, rfl, rfl, rfl⟩, ?_⟩
 rintro vs H' m ⟨k, hk, rfl, rfl, rfl⟩
 simp only [nth_zero, nth_succ, bop_lss, pureK_some, condK_B, decide_eq_true_eq, decide_eq_false_iff_not]
 refine ⟨fun hlt => ?_, fun _ => ret1_of H' (Heap.le_refl _) ⟨rfl, rfl⟩⟩
 have hk' : k < 2 := by omega
 have e1 : ias 1 (.lst 1 [I 0, I 0] .exact) (I k) = some (.cp [I 0] 0) := by
  match k, hk' with
  | 0, _ => rfl
  | 1, _ => rfl
 rw [e1]
 simp only [pureK_some, ld_cp, cutE_one, get0, bop_neq, condK_B]
 refine ⟨fun e => by simp at e, fun _ => ?_⟩
 rw [bop_add (by omega) (by omega)]
 simp only [pureK_some]
 exact ⟨2 - (k + 1), H', by omega, Heap.le_refl _, k + 1, by omega, rfl, rfl, rfl⟩
theorem compare_same (a : List ByteArray) (p q : Perm) (e : Int) (hl : a.length ≤ 1000000) : Pur trace_Trace_compare [.agg [txtA a p, I e], .agg [txtA a q, I e]] (I 0) := by
 intro H
 refine trace_Trace_compare_of ?_
 unfold W_trace_Trace_compare
 simp only [cells_agg, allocK_some]
 refine ⟨rfl, fun o1 ho1 => ⟨rfl, fun o3 ho3 => ?_⟩⟩
 have hle1 : H ≤ H.upd o1 (.cells [txtA a p, I e]) := by simp [ho1]
 have g3 : ((H.upd o1 (.cells [txtA a p, I e])).upd o3 (.cells [txtA a q, I e])) o3 = some (.cells [txtA a q, I e]) := Heap.upd_same _ _ _
 have hne : o1 ≠ o3 := fun h => by rw [← h, Heap.upd_same] at ho3; cases ho3
 have g1 : ((H.upd o1 (.cells [txtA a p, I e])).upd o3 (.cells [txtA a q, I e])) o1 = some (.cells [txtA a p, I e]) := by rw [Heap.upd_ne _ _ hne, Heap.upd_same]
 have hle3 : H ≤ (H.upd o1 (.cells [txtA a p, I e])).upd o3 (.cells [txtA a q, I e]) := Heap.le_trans hle1 (by simp [ho3])
 generalize (H.upd o1 (.cells [txtA a p, I e])).upd o3 (.cells [txtA a q, I e]) = H4 at g1 g3 hle3 ⊢
 simp only [fa_ptr, pureK_some, Nat.zero_add, ld_ptr g1, ld_ptr g3, cutE_one, get0, get1]
 refine ⟨_, (Compare_txt a p q hl).reads, ?_⟩
 refine (Compare_int e).run ?_
 have e2 : bsl 1 (.sc (.int .i64 0)) 2 [(0, I 0), (1, I 0)] = some (.lst 1 [I 0, I 0] .exact) := rfl
 rw [e2]
 simp only [pureK_some]
 refine Or_zero.run ?_
 exact ret1_of H hle3 ⟨rfl, rfl⟩
theorem Compare_same (a : List ByteArray) (p q : Perm) (e : Int) (hl : a.length ≤ 1000000) : Pur trace_Compare [.agg [txtA a p, I e], .agg [txtA a q, I e]] (I 0) := by
 intro H
 refine trace_Compare_of ?_
 unfold W_trace_Compare
 simp only [cells_agg, allocK_some]
 refine ⟨rfl, fun o1 ho1 => ⟨rfl, fun o3 ho3 => ?_⟩⟩
 have hle1 : H ≤ H.upd o1 (.cells [txtA a p, I e]) := by simp [ho1]
 have g3 : ((H.upd o1 (.cells [txtA a p, I e])).upd o3 (.cells [txtA a q, I e])) o3 = some (.cells [txtA a q, I e]) := Heap.upd_same _ _ _
 have hne : o1 ≠ o3 := fun h => by rw [← h, Heap.upd_same] at ho3; cases ho3
 have g1 : ((H.upd o1 (.cells [txtA a p, I e])).upd o3 (.cells [txtA a q, I e])) o1 = some (.cells [txtA a p, I e]) := by rw [Heap.upd_ne _ _ hne, Heap.upd_same]
 have hle3 : H ≤ (H.upd o1 (.cells [txtA a p, I e])).upd o3 (.cells [txtA a q, I e]) := Heap.le_trans hle1 (by simp [ho3])
 generalize (H.upd o1 (.cells [txtA a p, I e])).upd o3 (.cells [txtA a q, I e]) = H4 at g1 g3 hle3 ⊢
 have c1 : cutE [txtA a p, I e] 0 (some true) 2 = some (.agg [txtA a p, I e]) := rfl
 have c2 : cutE [txtA a q, I e] 0 (some true) 2 = some (.agg [txtA a q, I e]) := rfl
 dsimp only
 rw [ld_ptr g1, c1]
 simp only [pureK_some]
 rw [ld_ptr g3, c2]
 simp only [pureK_some]
 refine (compare_same a p q e hl).run ?_
 exact ret1_of H hle3 ⟨rfl, rfl⟩

theorem Clone_deed (ds : List (Int × ByteArray × Bool)) (p : Perm) (hl : ds.length ≤ 1000000) : Pur slices_Clone_Deed [.lst 3 (ds.map deedA) p] (.lst 3 (ds.map deedA) .no) := by
 refine Pur.weaken (φ := fun r => Weaker r (.lst 3 (ds.map deedA) .no)) (fun H => ?_) (fun r h => h)
 refine slices_Clone_Deed_of ?_
 unfold W_slices_Clone_Deed
 have e2 : bsl 3 (.agg [.sc (.int .i64 0), S emp, B false]) 0 [] = some (.lst 3 [] .exact) := rfl
 have fin : pureK (bsl 3 (.agg [.sc (.int .i64 0), S emp, B false]) 0 []) (fun x2 => appK 3 x2 (.lst 3 (ds.map deedA) p) H fun x3 H4 => ret1 H4 (fun r H' => Weaker r (.lst 3 (ds.map deedA) .no) ∧ H' = H) x3) := by
  rw [e2, pureK_some]
  exact appK_clone (.inl rfl) (by simp [maxApp]; omega) (ret1_of H (Heap.le_refl _) ⟨Weaker.refl _, rfl⟩)
 cases ds with
 | nil =>
   simp only [List.map_nil, nilK_nil, condK_B]
   exact ⟨⟨fun _ => ret1_of H (Heap.le_refl _) ⟨Weaker.empty, rfl⟩, fun e => (by cases e)⟩, fun e => (by cases e), fun _ => fin⟩
 | cons x l =>
   simp only [List.map_cons, nilK_cons, condK_B]
   exact ⟨fun e => (by cases e), fun _ => fin⟩
theorem Deeds_ok {H : Heap} {dl kn : Nat} {tk : Option Nat} {refuses : List Int} {deeds : List (Int × ByteArray × Bool)} {known : List (Int × Bool)} {asked : Int} (h : DealAt H dl kn tk refuses deeds known asked) (hl : deeds.length ≤ 1000000) :
 ACalls PP gΓ deal_Dealer_Deeds [.ptr dl 0] H (fun r H' => r = .lst 3 (deeds.map deedA) .no ∧ H' = H) := by
 obtain ⟨v, hd, hv⟩ := h.hd
 refine deal_Dealer_Deeds_of ?_
 unfold W_deal_Dealer_Deeds
 simp only [nilE_ptr, pureK_some, fa_ptr, Nat.zero_add, ld_ptr hd, cutE_one, get1]
 have hw : Weaker v (.lst 3 (deeds.map deedA) .no) := by
  rcases hv with ⟨e, rfl, _⟩ | ⟨t, _, rfl, _⟩
  · rw [e]; exact Weaker.empty
  · exact Weaker.lst
 refine ACalls.args (args' := [.lst 3 (deeds.map deedA) .no]) rfl (fun i hi => ?_) ?_
 · match i, hi with
   | 0, _ => exact hw
 refine (Clone_deed deeds .no hl).run ?_
 exact ret1_of H (Heap.le_refl _) ⟨rfl, rfl⟩

structure SagaIn (H : Heap) (i : Ids) (g : SG) (HX : Heap) (tk : Option Nat) : Prop where
 sa : SagaAt HX { i with tk := tk } g
 free : ∀ o, o ∈ ({ i with tk := tk } : Ids).all → H o = none
 le : H ≤ HX
theorem SagaIn.next {H HX H' : Heap} {i : Ids} {g g' : SG} {tk : Option Nat} (h : SagaIn H i g HX tk) (hq : DoneQ HX { i with tk := tk } g' H') :
 ∃ tk', SagaIn H i g' H' tk' ∧ ∀ o x, HX o = some x → o ∉ ({ i with tk := tk } : Ids).all → o ∉ ({ i with tk := tk' } : Ids).all ∧ H' o = some x := by
 obtain ⟨tk', h1, h2, h3, h4⟩ := DoneQ.over h.free h.le hq
 exact ⟨tk', ⟨h1, h2, h3⟩, h4⟩
theorem SagaIn.alloc {H HX : Heap} {i : Ids} {g : SG} {tk : Option Nat} (h : SagaIn H i g HX tk) {o : Nat} (ho : HX o = none) (x : AObj) : SagaIn H i g (HX.upd o x) tk :=
 have hle : HX ≤ HX.upd o x := by simp [ho]
 ⟨h.sa.le hle, h.free, Heap.le_trans h.le hle⟩
theorem SagaIn.up {H HX HY : Heap} {i : Ids} {g : SG} {tk : Option Nat} (h : SagaIn H i g HX tk) (hle : HX ≤ HY) : SagaIn H i g HY tk := ⟨h.sa.le hle, h.free, Heap.le_trans h.le hle⟩
theorem SagaIn.q {H HX : Heap} {i : Ids} {g : SG} {tk : Option Nat} (h : SagaIn H i g HX tk) : DoneQ HX { i with tk := tk } g HX := DoneQ.refl h.sa
theorem st2 {HY : Heap} {o : Nat} {cs : List AV} (y : Int × Int) (hy : HY o = some (.cells cs)) (hcs : cs.length = 2) : st 2 HY (.ptr o 0) (.agg [I y.1, I y.2]) = some (HY.upd o (.cells [I y.1, I y.2])) := by
 rw [st_at (n := 2) (v := .agg [I y.1, I y.2]) hy rfl (by rw [hcs]; decide) rfl]
 have : splice cs 0 (AV.cells (.agg [I y.1, I y.2])) = [I y.1, I y.2] := by
  unfold splice
  rw [List.take_zero, List.nil_append, Nat.zero_add, show (AV.cells (.agg [I y.1, I y.2])).length = 2 from rfl, List.drop_of_length_le (by omega), List.append_nil]; rfl
 rw [this]

set_option maxRecDepth 100000 in
theorem Played_ok (l : List Node) (p : Perm) (ps rf : List Int) (s1 s2 : Nat) (p1 p2 : Perm) (nb : Int) (acts : List (Int × Int)) (sa : Nat) (pa : Perm) (hs1 : s1 = 1 ∨ ps = []) (hs2 : s2 = 1 ∨ rf = []) (hsa : sa = 2 ∨ acts = [])
 (hp : ps.length ≤ 1100000) (hr : rf.length ≤ 1100000) (hac : acts.length ≤ 60) (H : Heap) :
 ACalls PP gΓ law21_Played [rowA l p, .agg [intA ps s1 p1, intA rf s2 p2, I nb], actsA acts sa pa] H (fun r H' => (newE l nb ≠ 0 ∧ r = .tup [.sc (.pointer none), I 0, B false] ∧ H' = H) ∨
  (newE l nb = 0 ∧ ∃ (i : Ids) (g : SG) (tk : Option Nat) (cr : Int), r = .tup [.ptr i.s 0, I cr, B true] ∧ SagaIn H i g H' tk ∧ EndI l.length 61000 ps rf (coreOf (newG l ps rf nb)) g)) := by
 refine law21_Played_of ?_
 unfold W_law21_Played
 simp only [cells_agg, allocK_some]
 refine ⟨rfl, fun o1 ho1 => ?_⟩
 have g1 : (H.upd o1 (.cells [intA ps s1 p1, intA rf s2 p2, I nb])) o1 = some (.cells [intA ps s1 p1, intA rf s2 p2, I nb]) := Heap.upd_same _ _ _
 have hle1 : H ≤ H.upd o1 (.cells [intA ps s1 p1, intA rf s2 p2, I nb]) := by simp [ho1]
 generalize H.upd o1 (.cells [intA ps s1 p1, intA rf s2 p2, I nb]) = H2 at g1 hle1 ⊢
 dsimp only
 rw [ld_ptr g1]
 have e3 : cutE [intA ps s1 p1, intA rf s2 p2, I nb] 0 (some true) 3 = some (.agg [intA ps s1 p1, intA rf s2 p2, I nb]) := rfl
 rw [e3]
 simp only [pureK_some]
 refine (made_ok l p ps rf s1 s2 p1 p2 nb hs1 hs2 hp hr H2).mono ?_
 rintro r H5 (⟨hne, rfl, rfl⟩ | ⟨h0, i, rfl, hM⟩)
 · simp only [extractE_tup, get0, get1, pureK_some, unE_not, condK_B]
   exact ⟨fun _ => ret1_of H hle1 (.inl ⟨hne, rfl, rfl⟩), fun e => by simp at e⟩
 have hle5 : H ≤ H5 := Heap.le_trans hle1 hM.le
 obtain ⟨hfree, hS, hsb, hok, hK⟩ := hM
 have hfree' : ∀ o, o ∈ ({ i with tk := i.tk } : Ids).all → H o = none := fun o ho => by
  cases e : H o with
  | none => rfl
  | some x => have := hfree o ho; rw [hle1 _ _ e] at this; cases this
 have hI := SameI.new h0 hp hr hok hK
 have hin0 : SagaIn H i (newG l ps rf nb) H5 i.tk := ⟨hS, hfree', hle5⟩
 obtain ⟨c0, hc0⟩ : ∃ c0, c0 = coreOf (newG l ps rf nb) := ⟨_, rfl⟩
 rw [← hc0] at hI ⊢
 generalize newG l ps rf nb = g00 at hin0 hI
 clear hK hok hS hsb hfree hfree' hc0
 simp only [extractE_tup, get0, get1, pureK_some, unE_not, condK_B, lnl_lst, List.length_map]
 refine ⟨fun e => by simp at e, fun _ => ?_⟩
 refine ⟨fun vs HX nn => ∃ (k cr : Nat) (g g0 : SG) (tk : Option Nat), k ≤ acts.length ∧ cr ≤ k ∧ nn = acts.length - k ∧ vs = [.ptr i.s 0, I cr, actsA acts sa pa, I acts.length, I k] ∧ SagaIn H i g HX tk ∧ SameI l.length (1000 * k) ps rf c0 g g0,
  ⟨_, _, Heap.le_refl _, 0, 0, g00, g00, i.tk, Nat.zero_le _, Nat.le_refl _, rfl, rfl, hin0, hI⟩, ?_⟩
 clear hin0 hI
 rintro vs HX nn ⟨k, cr, g, g0, tk, hk, hcr, rfl, rfl, hin, hI⟩
 simp only [nth_zero, nth_succ, bop_lss, pureK_some, condK_B, decide_eq_true_eq, decide_eq_false_iff_not]
 refine ⟨fun hlt => ?_, fun _ => ?_⟩
 · have hk' : k < acts.length := by omega
   have hsa' : sa = 2 := hsa.resolve_right fun e => by rw [e] at hk'; simp at hk'
   subst hsa'
   rw [ias_act hk']
   simp only [pureK_some]
   obtain ⟨x, hx⟩ : ∃ x, x = acts[k] := ⟨_, rfl⟩
   rw [← hx]
   have e0 : ld (some true) 2 HX (.cp [I x.1, I x.2] 0) = some (.agg [I x.1, I x.2]) := rfl
   rw [e0]
   simp only [pureK_some]
   intro o21 ho21
   rw [st2 x (Heap.upd_same _ _ _) rfl]
   simp only [heapK_some, Heap.upd_upd']
   have n21 : o21 ∉ ({ i with tk := tk } : Ids).all := fun e => hin.sa.alive e ho21
   have hin1 := hin.alloc ho21 (.cells [I x.1, I x.2])
   have g21 : (HX.upd o21 (.cells [I x.1, I x.2])) o21 = some (.cells [I x.1, I x.2]) := Heap.upd_same _ _ _
   generalize HX.upd o21 (.cells [I x.1, I x.2]) = H23 at hin1 g21 ⊢
   refine hin1.q.down ?_
   have l1 : ld (some false) 1 H23 (.ptr o21 0) = some (I x.1) := by rw [ld_ptr g21]; rfl
   have l2 : ld (some true) 2 H23 (.ptr o21 0) = some (.agg [I x.1, I x.2]) := by rw [ld_ptr g21]; rfl
   have ek : bop .plain .add (I (k : Int)) (I 1) = some (I ((k + 1 : Nat) : Int)) := by rw [bop_add (by omega) (by omega)]; rfl
   have ec : bop .plain .add (I (cr : Int)) (I 1) = some (I ((cr + 1 : Nat) : Int)) := by rw [bop_add (by omega) (by omega)]; rfl
   have stay : ∃ (n14 : Nat) (H15 : Heap), n14 < acts.length - k ∧ H15 ≤ H23 ∧ ∃ (k' cr' : Nat) (g g0 : SG) (tk : Option Nat), k' ≤ acts.length ∧ cr' ≤ k' ∧ n14 = acts.length - k' ∧ [AV.ptr i.s 0, I (cr : Int), actsA acts 2 pa, I acts.length, I ((k + 1 : Nat) : Int)] = [.ptr i.s 0, I (cr' : Int), actsA acts 2 pa, I acts.length, I (k' : Int)] ∧ SagaIn H i g H15 tk ∧ SameI l.length (1000 * k') ps rf c0 g g0 :=
    ⟨acts.length - (k + 1), H23, by omega, Heap.le_refl _, k + 1, cr, g, g0, tk, by omega, by omega, rfl, rfl, hin1, hI.more (by omega)⟩
   simp only [fa_ptr, pureK_some, Nat.zero_add, l1, l2, bop_lss, bop_gtr, condK_B, ek, decide_eq_true_eq, decide_eq_false_iff_not]
   refine ⟨fun _ => stay, fun _ => ⟨fun _ => stay, fun _ => ?_⟩⟩
   refine hin1.q.act hI.last.ok (by omega) x fun H36 hq36 => ?_
   obtain ⟨tk2, hin2, hkeep⟩ := hin1.next hq36
   obtain ⟨n21', g21'⟩ := hkeep _ _ g21 n21
   obtain ⟨g1', hI2⟩ := hI.act x
   generalize (doG g x).1 = g2 at hin2 hI2
   have l3 : ld (some false) 1 H36 (.ptr o21 0) = some (I x.1) := by rw [ld_ptr g21']; rfl
   have more : ∀ cr' : Nat, cr' ≤ k + 1 → ∃ (n14 : Nat) (H15 : Heap), n14 < acts.length - k ∧ H15 ≤ H36 ∧ ∃ (k' cr2 : Nat) (g g0 : SG) (tk : Option Nat), k' ≤ acts.length ∧ cr2 ≤ k' ∧ n14 = acts.length - k' ∧ [AV.ptr i.s 0, I (cr' : Int), actsA acts 2 pa, I acts.length, I ((k + 1 : Nat) : Int)] = [.ptr i.s 0, I (cr2 : Int), actsA acts 2 pa, I acts.length, I (k' : Int)] ∧ SagaIn H i g H15 tk ∧ SameI l.length (1000 * k') ps rf c0 g g0 := fun cr' hcr' =>
    ⟨acts.length - (k + 1), H36, by omega, Heap.le_refl _, k + 1, cr', g2, g1', tk2, by omega, hcr', rfl, rfl, hin2, hI2.more (by omega)⟩
   have m0 := more cr (by omega)
   have m1 := more (cr + 1) (by omega)
   have tail : ∀ HA : Heap, HA = H36 → pureK (fa 0 (.ptr o21 0)) fun x50 => pureK (ld (some false) 1 HA x50) fun x51 => pureK (bop .plain .eql x51 (I 3)) fun x52 => condK x52 (pureK (unE .not (B g.down)) fun x53 => condK x53 (
    pureK (bop .plain .add (I (cr : Int)) (I 1)) fun x54 => pureK (bop .plain .add (I (k : Int)) (I 1)) fun x55 =>
    (∃ (n14 : Nat) (H15 : Heap), n14 < acts.length - k ∧ H15 ≤ HA ∧ ∃ (k' cr2 : Nat) (g g0 : SG) (tk : Option Nat), k' ≤ acts.length ∧ cr2 ≤ k' ∧ n14 = acts.length - k' ∧ [AV.ptr i.s 0, x54, actsA acts 2 pa, I acts.length, x55] = [.ptr i.s 0, I (cr2 : Int), actsA acts 2 pa, I acts.length, I (k' : Int)] ∧ SagaIn H i g H15 tk ∧ SameI l.length (1000 * k') ps rf c0 g g0))
    (pureK (bop .plain .add (I (k : Int)) (I 1)) fun x56 =>
    (∃ (n14 : Nat) (H15 : Heap), n14 < acts.length - k ∧ H15 ≤ HA ∧ ∃ (k' cr2 : Nat) (g g0 : SG) (tk : Option Nat), k' ≤ acts.length ∧ cr2 ≤ k' ∧ n14 = acts.length - k' ∧ [AV.ptr i.s 0, I (cr : Int), actsA acts 2 pa, I acts.length, x56] = [.ptr i.s 0, I (cr2 : Int), actsA acts 2 pa, I acts.length, I (k' : Int)] ∧ SagaIn H i g H15 tk ∧ SameI l.length (1000 * k') ps rf c0 g g0)))
    (pureK (bop .plain .add (I (k : Int)) (I 1)) fun x57 =>
    (∃ (n14 : Nat) (H15 : Heap), n14 < acts.length - k ∧ H15 ≤ HA ∧ ∃ (k' cr2 : Nat) (g g0 : SG) (tk : Option Nat), k' ≤ acts.length ∧ cr2 ≤ k' ∧ n14 = acts.length - k' ∧ [AV.ptr i.s 0, I (cr : Int), actsA acts 2 pa, I acts.length, x57] = [.ptr i.s 0, I (cr2 : Int), actsA acts 2 pa, I acts.length, I (k' : Int)] ∧ SagaIn H i g H15 tk ∧ SameI l.length (1000 * k') ps rf c0 g g0)) := by
    rintro HA rfl
    simp only [fa_ptr, pureK_some, Nat.zero_add, l3, bop_eql, unE_not, condK_B, ek, ec]
    exact ⟨fun _ => ⟨fun _ => m1, fun _ => m0⟩, fun _ => m0⟩
   rw [unE_not]
   simp only [pureK_some, condK_B]
   refine ⟨fun _ => ?_, fun _ => ?_⟩
   · refine hin2.q.down ?_
     simp only [condK_B, ec, pureK_some]
     refine ⟨fun _ => m1, fun _ => ?_⟩
     have := tail H36 rfl
     simpa only [fa_ptr, pureK_some, Nat.zero_add, l3, bop_eql, unE_not, condK_B, ek, ec] using this
   · have := tail H36 rfl
     simpa only [fa_ptr, pureK_some, Nat.zero_add, l3, bop_eql, unE_not, condK_B, ek, ec] using this
 · -- the end
   obtain ⟨r1, r2, r3⟩ := hI.fin
   obtain ⟨_, _, _, _, hIr⟩ := hI.recover
   have hcI : 1000 * k ≤ 60000 := by omega
   have ec : bop .plain .add (I (cr : Int)) (I 1) = some (I ((cr + 1 : Nat) : Int)) := by rw [bop_add (by omega) (by omega)]; rfl
   refine hin.q.recover fun H59 hq59 => ?_
   obtain ⟨tk2, hin2, _⟩ := hin.next hq59
   rw [r1]
   simp only [bop_neq, pureK_some, condK_B]
   refine ⟨fun e => by simp at e, fun _ => ?_⟩
   refine hin2.q.run hIr.last.ok 1000 (by omega) (by omega) fun H63 hq63 _ => ?_
   obtain ⟨tk3, hin3, _⟩ := hin2.next hq63
   have e1000 : (1000 : Int).toNat = 1000 := rfl
   rw [e1000] at hin3 ⊢
   rw [r2]
   simp only [extractE_tup, get0, get1, pureK_some, ec, bop_eql, decide_true]
   exact ret1_of H63 (Heap.le_refl _) (.inr ⟨h0, i, _, tk3, _, rfl, hin3, ⟨r3.same.more (by omega), r3.over, r3.up⟩⟩)

end Go.Av
