/- Own text C27 of this claim: see the text that holds the theorem. -/
import Derived.Test.YtddolbhaekekaaaDoorC26
set_option linter.all false
namespace Go.Av
open Go Go.Proofs

theorem encode_ok2 {s : St} (h : Fits s) (p q : Perm) (H : Heap) :
    ACalls PP gΓ code_Encode [stA s p q] H (fun r H' => ∃ v, r = .tup [v, B (rightS s)] ∧ H ≤ H' ∧ (rightS s = true → ∃ pv, v = bytA (enc s) pv) ∧ (rightS s = false → v = .lst 0 [] .exact)) := by
  refine (encode_ok h p q H).mono ?_
  rintro r H' (⟨h1, rfl, rfl⟩ | ⟨h1, v, rfl, pv, h2, hb⟩)
  · exact ⟨_, by rw [h1], Heap.le_refl _, fun h => by rw [h1] at h; (cases h), fun _ => rfl⟩
  · exact ⟨v, by rw [h1], hb.le, fun _ => ⟨pv, h2⟩, fun h => by rw [h1] at h; (cases h)⟩

structure Fits2 (s : St) : Prop extends Fits s where
  z : sizes s.a ≤ 1000000000000

theorem cut_st {H : Heap} {o : Nat} {s : St} {p q : Perm} (h : H o = some (.cells (stC s p q))) : ld (some true) 5 H (.ptr o 0) = some (stA s p q) := by rw [ld_ptr h]; rfl

theorem law19_CodeSame_ok (s t : St) (p q p' q' : Perm) (n : Int) (hs : Fits2 s) (ht : Fits2 t) : Pur law19_CodeSame [stA s p q, stA t p' q', I n] (B true) := by
  intro H
  refine law19_CodeSame_of ?_
  unfold W_law19_CodeSame
  refine allocK_st fun o1 h1 => ?_
  refine allocK_st fun o2 h2 => ?_
  simp only [upd_none_iff] at h2
  have hle : H ≤ (H.upd o1 (.cells (stC s p q))).upd o2 (.cells (stC t p' q')) := by simp [h1, h2.2]
  have g1 : ((H.upd o1 (.cells (stC s p q))).upd o2 (.cells (stC t p' q'))) o1 = some (.cells (stC s p q)) := by rw [Heap.upd_ne _ _ (fun e => h2.1 e.symm), Heap.upd_same]
  have g2 : ((H.upd o1 (.cells (stC s p q))).upd o2 (.cells (stC t p' q'))) o2 = some (.cells (stC t p' q')) := Heap.upd_same _ _ _
  generalize (H.upd o1 (.cells (stC s p q))).upd o2 (.cells (stC t p' q')) = HB at hle g1 g2 ⊢
  rw [cut_st g1]
  simp only [pureK_some]
  refine (law19_few_ok s p q hs.l hs.a hs.z).run ?_
  rintro v ⟨b1, rfl, _⟩
  simp only [unE_not, pureK_some]
  cases b1 with
  | false => exact law19_alive_ok.run (ret1_of H hle ⟨rfl, rfl⟩)
  | true =>
  simp only [Bool.not_true, condK_f]
  rw [cut_st g2]
  simp only [pureK_some]
  refine (law19_few_ok t p' q' ht.l ht.a ht.z).run ?_
  rintro v ⟨b2, rfl, _⟩
  simp only [unE_not, pureK_some]
  cases b2 with
  | false => exact law19_alive_ok.run (ret1_of H hle ⟨rfl, rfl⟩)
  | true =>
  simp only [Bool.not_true, condK_f, cut_st g1, pureK_some]
  refine (law19_New_ok s p q).run ?_
  refine (encode_ok2 hs.toFits p q HB).mono ?_
  rintro r H1 ⟨v1, rfl, hl1, ht1, _⟩
  have k2 := hl1 _ _ g2
  have k1 := hl1 _ _ g1
  simp only [extractE_tup, get0, get1, pureK_some, cut_st k2]
  refine (law19_New_ok t p' q').run ?_
  refine (encode_ok2 ht.toFits p' q' H1).mono ?_
  rintro r H2 ⟨v2, rfl, hl2, ht2, _⟩
  have m2 := hl2 _ _ k2
  have m1 := hl2 _ _ k1
  have hle2 : H ≤ H2 := fun o x h => hl2 _ _ (hl1 _ _ (hle _ _ h))
  simp only [extractE_tup, get0, get1, pureK_some]
  refine ⟨_, law19_alive_ok.reads, ?_⟩
  simp only [condK_t, cut_st m1, cut_st m2, pureK_some]
  refine ⟨_, (law19_New_ok s p q).reads, _, (law19_New_ok t p' q').reads, _, (code_Same_ok s t p q p' q' hs.l hs.a).reads, _, (ref19_Same_ok s t p q p' q' hs.l hs.a).reads, ?_⟩
  simp only [bop_beql, beq_self_eq_true, pureK_some, condK_t]
  refine ⟨_, (code_Long_ok n).reads, _, (ref19_Long_ok n).reads, ?_⟩
  simp only [bop_eql, decide_true, eq_self, pureK_some, condK_t, unE_not]
  cases hr1 : rightS s with
  | false =>
    simp only [Bool.not_false, condK_t]
    exact ret1_of H hle2 ⟨rfl, rfl⟩
  | true =>
  simp only [Bool.not_true, condK_f]
  cases hr2 : rightS t with
  | false =>
    simp only [Bool.not_false, condK_t]
    exact ret1_of H hle2 ⟨rfl, rfl⟩
  | true =>
  simp only [Bool.not_true, condK_f]
  obtain ⟨q1, rfl⟩ := ht1 hr1
  obtain ⟨q2, rfl⟩ := ht2 hr2
  have len1 := enc_len hr1
  have parts := rightS_parts hr1
  refine ⟨_, (ref16_Same_ok (enc s) (enc t) q1 q2 (by unfold small; omega)).reads, ?_⟩
  refine (ref19_Same_ok s t p q p' q' hs.l hs.a).run ?_
  simp only [bop_beql, pureK_some]
  refine ret1_of H hle2 ⟨?_, rfl⟩
  have := enc_inj hr1 hr2
  simp [this]

theorem long_of {n : Nat} (h : n ≤ 60) : long n = 5 + 19 * n := by
  unfold long; rw [if_neg (by omega)]

theorem law19_CodeBack_ok (s : St) (p q : Perm) (hs : Fits2 s) : Pur law19_CodeBack [stA s p q] (B true) := by
  intro H
  refine law19_CodeBack_of ?_
  unfold W_law19_CodeBack
  refine allocK_st fun o1 h1 => ?_
  have hle : H ≤ H.upd o1 (.cells (stC s p q)) := by simp [h1]
  have g1 : (H.upd o1 (.cells (stC s p q))) o1 = some (.cells (stC s p q)) := Heap.upd_same _ _ _
  generalize H.upd o1 (.cells (stC s p q)) = HB at hle g1 ⊢
  rw [cut_st g1]
  simp only [pureK_some]
  refine (law19_few_ok s p q hs.l hs.a hs.z).run ?_
  rintro v ⟨b1, rfl, _⟩
  simp only [unE_not, pureK_some]
  cases b1 with
  | false => exact law19_alive_ok.run (ret1_of H hle ⟨rfl, rfl⟩)
  | true =>
  simp only [Bool.not_true, condK_f, cut_st g1, pureK_some]
  refine (law19_New_ok s p q).run ?_
  refine (encode_ok2 hs.toFits p q HB).mono ?_
  rintro r H1 ⟨v1, rfl, hl1, ht1, hf1⟩
  have k1 := hl1 _ _ g1
  have hle1 : H ≤ H1 := fun o x h => hl1 _ _ (hle _ _ h)
  simp only [extractE_tup, get0, get1, pureK_some, unE_not]
  cases hr : rightS s with
  | false =>
    simp only [Bool.not_false, condK_t]
    refine law19_alive_ok.run ?_
    rw [hf1 hr]
    simp only [condK_t, lnl_lst, pureK_some, bop_eql]
    exact ret1_of H hle1 ⟨rfl, rfl⟩
  | true =>
  simp only [Bool.not_true, condK_f]
  obtain ⟨q1, rfl⟩ := ht1 hr
  have len1 := enc_len hr
  obtain ⟨_, pl, pa, _⟩ := rightS_parts hr
  refine (code_Decode_ok (enc s) q1 (by omega)).run ?_
  rw [decode_enc hr]
  simp only [decV, extractE_tup, get0, get1, pureK_some]
  intro o2 h2
  rw [st_st rfl]
  simp only [heapK_some]
  have hle2 : H ≤ H1.upd o2 (.cells (stC s .no .no)) := Heap.le_upd hle1 (le_none hle1 h2)
  have m1 : (H1.upd o2 (.cells (stC s .no .no))) o1 = some (.cells (stC s p q)) := by
    rw [Heap.upd_ne _ _ (fun e => by subst e; rw [h2] at k1; cases k1)]; exact k1
  have m2 : (H1.upd o2 (.cells (stC s .no .no))) o2 = some (.cells (stC s .no .no)) := Heap.upd_same _ _ _
  generalize H1.upd o2 (.cells (stC s .no .no)) = HC at hle2 m1 m2 ⊢
  refine ⟨_, law19_alive_ok.reads, ?_⟩
  simp only [condK_t, cut_st m1, cut_st m2, pureK_some, bop_eql, decide_true, eq_self]
  refine ⟨_, (law19_Old_ok s .no .no).reads, _, (ref19_Same_ok s s .no .no p q hs.l hs.a).reads, ?_⟩
  simp only [decide_true, eq_self, condK_t]
  simp only [fa_ptr, ld_ptr m1, cutE_one, Nat.zero_add, get0, get4, pureK_some, lnl_lst, List.length_map, bop_gtr, condK_B, decide_eq_true_eq, decide_eq_false_iff_not]
  refine ⟨fun h => ret1_of H hle2 ⟨rfl, rfl⟩, fun h => ?_⟩
  refine ⟨_, (code_Long_ok s.l.length).reads, ?_⟩
  simp only [bop_leq, pureK_some]
  refine ret1_of H hle2 ⟨B_eq ?_, rfl⟩
  rw [long_of pl]
  have : (enc s).length ≤ 5 + 19 * s.l.length := by omega
  rw [decide_eq_true_eq]; omega

end Go.Av
