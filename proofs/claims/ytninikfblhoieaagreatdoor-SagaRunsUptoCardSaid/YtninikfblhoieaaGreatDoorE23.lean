/- Own text E23 of this claim: see the text that holds the theorem. -/
import Derived.Test.YtninikfblhoieaaGreatDoorE22
set_option linter.all false
set_option maxRecDepth 100000
namespace Go.Av
open Go Go.Proofs

noncomputable def playF : List Int → Tr → List ByteArray → Nat → Tr × List ByteArray × Nat
 | [], t, A, N => (t, A, N)
 | p :: ps, t, A, N => if enF t = [] then (t, A, N) else playF ps (nextT t (pickF t p)) (if (pickF t p).2 = 1 then A ++ [(subT t (pickF t p).1.toNat).root.name] else A) (N + 1)

theorem runs_Play_fn (t0 : Tr) (h0 : Inv t0) (ps : List Int) (hp : ps.length ≤ 1000) (p q : Perm) (H : Heap) :
 ACalls PP gΓ runs_Play [rowA t0.flat p, intA ps 1 q] H (fun r H' => ∃ t A N, r = .agg [rowA t.flat .no, txtA A .no, I (N : Nat)] ∧ PlayR t0 t A N ∧ playF ps t0 [] 0 = (t, A, N) ∧ H' = H) := by
 refine ACalls.weaken (R := fun r H' => ∃ t A N, Weaker r (.agg [rowA t.flat .no, txtA A .no, I (N : Nat)]) ∧ PlayR t0 t A N ∧ playF ps t0 [] 0 = (t, A, N) ∧ H' = H) ?_ (fun r H' ⟨t, A, N, h1, h2, h3⟩ => ⟨_, h1, t, A, N, rfl, h2, h3⟩)
 refine runs_Play_of ?_
 unfold W_runs_Play
 have hl0 := h0.len
 intro o1 ho1
 have hle1 : H ≤ H.upd o1 (.cells [.lst 0 [] .exact, .lst 0 [] .exact, .sc (.int .i64 0)]) := by simp [ho1]
 have g1 : (H.upd o1 (.cells [.lst 0 [] .exact, .lst 0 [] .exact, .sc (.int .i64 0)])) o1 = some (.cells [.lst 0 [] .exact, .lst 0 [] .exact, .sc (.int .i64 0)]) := Heap.upd_same _ _ _
 generalize H.upd o1 (.cells [.lst 0 [] .exact, .lst 0 [] .exact, .sc (.int .i64 0)]) = H2 at hle1 g1 ⊢
 refine (Clone_ok t0.flat p (by have := t0.flat_pos; intro e; rw [e] at this; simp at this) (by omega)).run ?_
 have e1 : bld [(0, 1), (1, 1), (2, 1)] [.lst 0 [] .exact, .lst 0 [] .exact, .sc (.int .i64 0)] [(0, rowA t0.flat .no)] = some (.agg [rowA t0.flat .no, .lst 0 [] .exact, I 0]) := rfl
 rw [e1]
 simp only [pureK_some]
 intro o6 ho6
 have est : st 3 (H2.upd o6 (.cells [.lst 0 [] .exact, .lst 0 [] .exact, .sc (.int .i64 0)])) (.ptr o6 0) (.agg [rowA t0.flat .no, .lst 0 [] .exact, I 0]) = some (H2.upd o6 (.cells [rowA t0.flat .no, .lst 0 [] .exact, I 0])) := by simp [splice]
 rw [est]
 simp only [heapK_some, lnl_lst, pureK_some, List.length_map]
 have hne : o1 ≠ o6 := fun e => by subst e; rw [g1] at ho6; cases ho6
 have hH6 : H o6 = none := le_none hle1 ho6
 refine ⟨fun vs H' n => ∃ (k : Nat) (t : Tr) (A : List ByteArray) (N : Nat) (v : AV), k ≤ ps.length ∧ vs = [.ptr o1 0, .ptr o6 0, intA ps 1 q, I ps.length, I k] ∧ n = ps.length - k ∧ H ≤ H' ∧ (∃ c0 c1 c2, H' o1 = some (.cells [c0, c1, c2])) ∧
  H' o6 = some (.cells [rowA t.flat .no, v, I N]) ∧ Acc H H' 1 (A.map fun s => S s) v ∧ PlayR t0 t A N ∧ playF ps t0 [] 0 = playF (ps.drop k) t A N,
  ⟨_, _, Heap.le_refl _, 0, t0, [], 0, _, Nat.zero_le _, rfl, rfl, Heap.le_upd hle1 hH6, ⟨_, _, _, by rw [Heap.upd_ne _ _ hne]; exact g1⟩, Heap.upd_same _ _ _, .inl ⟨rfl, rfl⟩, ⟨h0, Nat.le_refl _, Nat.le_refl _, by omega, by simp⟩, rfl⟩, ?_⟩
 clear est e1
 rintro vs H12 n ⟨k, t, A, N, v, hk, rfl, rfl, hle, ⟨c0, c1, c2, g1'⟩, g6, hacc, hP, hpf⟩
 obtain ⟨hinv, htl, hAN, hNw, hA⟩ := hP
 have hl := hinv.len
 have hn := good_names hinv.good
 have hwl := wN_le t0.flat
 have fin : ∀ HX : Heap, H ≤ HX → HX o1 = some (.cells [c0, c1, c2]) → HX o6 = some (.cells [rowA t.flat .no, v, I N]) → Acc H HX 1 (A.map fun s => S s) v → playF ps t0 [] 0 = (t, A, N) →
  pureK (ld (some true) 3 HX (.ptr o6 0)) fun x31 => heapK (st 3 HX (.ptr o1 0) x31) fun H32 => pureK (ld (some true) 3 H32 (.ptr o1 0)) fun x33 =>
   ret1 H32 (fun r H' => ∃ t A N, Weaker r (.agg [rowA t.flat .no, txtA A .no, I (N : Nat)]) ∧ PlayR t0 t A N ∧ playF ps t0 [] 0 = (t, A, N) ∧ H' = H) x33 := fun HX hleX gX1 gX6 haccX hend => by
  rw [ld_ptr gX6]
  have ec : ∀ a b c : AV, cutE [a, b, c] 0 (some true) 3 = some (.agg [a, b, c]) := fun _ _ _ => rfl
  rw [ec]
  simp only [pureK_some]
  have hvc := haccX.cells
  have est : st 3 HX (.ptr o1 0) (.agg [rowA t.flat .no, v, I N]) = some (HX.upd o1 (.cells [rowA t.flat .no, v, I N])) := by
   simp [st, gX1, splice, hvc.2]
  rw [est]
  simp only [heapK_some, ld_upd, ec, pureK_some]
  refine ret1_of H (Heap.le_upd hleX ho1) ⟨t, A, N, ?_, ⟨hinv, htl, hAN, hNw, hA⟩, hend, rfl⟩
  refine Weaker.agg rfl (fun i hi => ?_) (fun i hi => ?_)
  · match i, hi with
    | 0, _ => rfl
    | 1, _ => rfl
    | 2, _ => rfl
  · match i, hi with
    | 0, _ => exact Weaker.refl _
    | 1, _ => exact haccX.weak
    | 2, _ => exact Weaker.refl _
 simp only [nth_zero, nth_succ, bop_lss, pureK_some, condK_B, decide_eq_true_eq, decide_eq_false_iff_not]
 refine ⟨fun hlt => ?_, fun hge => fin H12 hle g1' g6 hacc (by rw [hpf, show k = ps.length by omega, List.drop_length]; rfl)⟩
 have hk' : k < ps.length := by omega
 rw [ias_int hk']
 simp only [pureK_some, ld_cp, cutE_one, get0, fa_ptr, Nat.zero_add, ld_ptr g6]
 refine (Pick_ok t hinv.good.ok (by omega) hn .no _).run ?_
 have alloc2 : ∀ (m : Int × Int) (o : Nat), st 2 (H12.upd o (.cells [.sc (.int .i64 0), .sc (.int .i64 0)])) (.ptr o 0) (mv m) = some (H12.upd o (.cells [I m.1, I m.2])) := fun m o => by simp [splice, mv]
 rintro r ⟨e, rfl, hen⟩
 have hdrop : ps.drop k = ps[k] :: ps.drop (k + 1) := List.drop_eq_getElem_cons hk'
 rw [hdrop] at hpf
 by_cases hz : enF t = []
 · simp only [extractE_tup, get0, get1, pureK_some]
   intro o27 ho27
   rw [alloc2]
   simp only [heapK_some, bop_neq, pureK_some, condK_B]
   have he : ¬ e = 0 := fun e0 => hen.1 e0 hz
   refine ⟨fun _ => ?_, fun h => by simp [he] at h⟩
   refine fin _ (Heap.le_upd hle (le_none hle ho27)) ?_ ?_ (hacc.upd (fun n e => by rw [ho27] at e; cases e)) (by rw [hpf]; unfold playF; rw [if_pos hz])
   · rw [Heap.upd_ne _ _ (fun e => by subst e; rw [g1'] at ho27; cases ho27)]; exact g1'
   · rw [Heap.upd_ne _ _ (fun e => by subst e; rw [g6] at ho27; cases ho27)]; exact g6
 · have he : e = 0 := hen.2 hz
   subst he
   have hm : pickF t ps[k] ∈ enF t := pickF_mem hz _
   obtain ⟨m, hmm⟩ : ∃ m, m = pickF t ps[k] := ⟨_, rfl⟩
   have hpf' : playF ps t0 [] 0 = playF (ps.drop (k + 1)) (nextT t m) (if m.2 = 1 then A ++ [(subT t m.1.toNat).root.name] else A) (N + 1) := by
    rw [hpf, hmm]; conv => lhs; unfold playF
    rw [if_neg hz]
   rw [← hmm] at hm ⊢
   simp only [extractE_tup, get0, get1, pureK_some]
   intro o27 ho27
   rw [alloc2]
   have k1 : (H12.upd o27 (.cells [I m.1, I m.2])) o1 = some (.cells [c0, c1, c2]) := by rw [Heap.upd_ne _ _ (fun e => by subst e; rw [g1'] at ho27; cases ho27)]; exact g1'
   have k6 : (H12.upd o27 (.cells [I m.1, I m.2])) o6 = some (.cells [rowA t.flat .no, v, I N]) := by rw [Heap.upd_ne _ _ (fun e => by subst e; rw [g6] at ho27; cases ho27)]; exact g6
   have k27 : (H12.upd o27 (.cells [I m.1, I m.2])) o27 = some (.cells [I m.1, I m.2]) := Heap.upd_same _ _ _
   have kle : H ≤ H12.upd o27 (.cells [I m.1, I m.2]) := Heap.le_upd hle (le_none hle ho27)
   have kacc : Acc H (H12.upd o27 (.cells [I m.1, I m.2])) 1 (A.map fun s => S s) v := hacc.upd (fun n e => by rw [ho27] at e; cases e)
   generalize H12.upd o27 (.cells [I m.1, I m.2]) = H29 at k1 k6 k27 kle kacc
   simp only [heapK_some, bop_neq, pureK_some, condK_B]
   refine ⟨fun h => absurd h (by decide), fun _ => ?_⟩
   simp only [fa_ptr, Nat.zero_add, ld_ptr k6, cutE_one, get0, pureK_some]
   have emv : ld (some true) 2 H29 (.ptr o27 0) = some (mv m) := by rw [ld_ptr k27]; rfl
   rw [emv]
   simp only [pureK_some]
   refine (step_Next_ok t hinv .no hm).run ?_
   obtain ⟨n1, n2, n3⟩ := next_inv hinv hm
   obtain ⟨i, hi, hilt, hact, w, hw, hhow⟩ := enF_mem hm
   have ei : m.1.toNat = i := by omega
   simp only [extractE_tup, get0, get1, get2, pureK_some, ld_ptr k27, cutE_one, bop_eql, condK_B, decide_eq_true_eq, decide_eq_false_iff_not]
   have hvc := kacc.cells
   have hsp3 : ∀ (a b c x : AV), splice [a, b, c] 0 [x] = [x, b, c] ∧ splice [a, b, c] 1 [x] = [a, x, c] ∧ splice [a, b, c] 2 [x] = [a, b, x] := fun a b c x => ⟨rfl, rfl, rfl⟩
   refine ⟨fun h1 => ?_, fun h1 => ?_⟩
   · simp only [ld_ptr k6, cutE_one, get1, pureK_some]
     have e4 : ∀ y : ByteArray, bsl 1 (S emp) 1 [(0, S y)] = some (.lst 1 [S y] .exact) := fun _ => rfl
     rw [e4]
     simp only [pureK_some]
     refine acc_app2 kacc kle (ys := [S (subT t m.1.toNat).root.name]) rfl (by simp [maxApp]; omega) fun v' H49 hacc' hle49 hkeep => ?_
     have j1 := hkeep _ _ k1 (fun n e => by cases e)
     have j6 := hkeep _ _ k6 (fun n e => by cases e)
     have hvc' := hacc'.cells
     rw [st_one j6 (by simp) hvc'.1 hvc'.2]
     simp only [heapK_some]
     rw [st_one (cs := [rowA t.flat .no, v', I N]) (by rw [Heap.upd_same]; rfl) (by simp) rfl rfl]
     simp only [heapK_some, Heap.upd_upd', (hsp3 _ _ _ _).1]
     simp only [ld_upd, cutE_one, get2, pureK_some]
     rw [bop_add (by omega) (by omega)]
     simp only [pureK_some]
     rw [st_one (cs := [rowA (nextT t m).flat .no, v', I N]) (by rw [Heap.upd_same]) (by simp) rfl rfl]
     simp only [heapK_some, Heap.upd_upd', (hsp3 _ _ _ _).2.2]
     rw [bop_add (by omega) (by omega)]
     simp only [pureK_some]
     have hkind : (subT t i).root.kind = 1 := waysOf_do hw (by rw [← hhow]; exact h1)
     have hname : right ⟨1, (subT t m.1.toNat).root.name, 0⟩ = true := by
      rw [ei]; exact right_act (good_sub t i hinv.good hilt).rootR hkind
     refine ⟨ps.length - (k + 1), _, by omega, Heap.le_refl _, k + 1, nextT t m, A ++ [(subT t m.1.toNat).root.name], N + 1, v', by omega, by simp, rfl, Heap.le_upd hle49 hH6, ⟨c0, c1, c2, by rw [Heap.upd_ne _ _ hne]; exact j1⟩, by rw [Heap.upd_same]; rfl, ?_, ⟨n1, by omega, by simp; omega, by omega, ?_⟩, by rw [hpf', if_pos h1]⟩
     · have := hacc'.upd (o := o6) (x := .cells [rowA (nextT t m).flat .no, v', I ((N : Int) + 1)]) (fun n e => by rw [j6] at e; cases e)
       simpa using this
     · intro x hx
       rcases List.mem_append.1 hx with hx | hx
       · exact hA x hx
       · rw [List.mem_singleton.1 hx]; exact hname
   · rw [st_one k6 (by simp) rfl rfl]
     simp only [heapK_some, (hsp3 _ _ _ _).1]
     simp only [ld_upd, cutE_one, get2, pureK_some]
     rw [bop_add (by omega) (by omega)]
     simp only [pureK_some]
     rw [st_one (cs := [rowA (nextT t m).flat .no, v, I N]) (by rw [Heap.upd_same]) (by simp) rfl rfl]
     simp only [heapK_some, Heap.upd_upd', (hsp3 _ _ _ _).2.2]
     rw [bop_add (by omega) (by omega)]
     simp only [pureK_some]
     refine ⟨ps.length - (k + 1), _, by omega, Heap.le_refl _, k + 1, nextT t m, A, N + 1, v, by omega, by simp, rfl, Heap.le_upd kle hH6, ⟨c0, c1, c2, by rw [Heap.upd_ne _ _ hne]; exact k1⟩, by rw [Heap.upd_same]; rfl, ?_, ⟨n1, by omega, by omega, by omega, hA⟩, by rw [hpf', if_neg h1]⟩
     exact kacc.upd (fun n e => by rw [k6] at e; cases e)

end Go.Av
