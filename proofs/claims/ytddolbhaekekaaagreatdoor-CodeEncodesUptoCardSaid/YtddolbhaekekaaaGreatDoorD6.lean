/- Own text D6 of this claim: see the text that holds the theorem. -/
import Derived.Test.YtddolbhaekekaaaGreatDoorD5
set_option linter.all false
set_option maxRecDepth 100000
namespace Go.Av
open Go Go.Proofs

theorem good_of {l : List Node} (h : sortOf l ≠ 0) : whole l = true ∧ Good (treeOf l) ∧ l = (treeOf l).flat ∧ l.length ≤ 200 := by
  unfold sortOf at h
  cases hw : whole l with
  | false => rw [hw] at h; simp at h
  | true =>
    rw [hw] at h
    simp only [if_true] at h
    obtain ⟨h1, h2⟩ := treeOf_spec hw
    unfold whole at hw
    simp only [Bool.and_eq_true, decide_eq_true_eq, List.all_eq_true] at hw
    exact ⟨rfl, ⟨h1, fun n hn => hw.2.1 n (by rw [h2]; exact hn), h⟩, h2, hw.1.2⟩

theorem on_or {l : List Node} : (sortOn l false || sortOn l true) = !decide (sortOf l = 0) := by
  rcases five (sortOf_range l) with e | e | e | e | e <;> simp [sortOn, sOn, e]

theorem ref10_Settle_ok (l : List Node) (p : Perm) (hl : small l.length) (hn : names l) : Pur ref10_Settle [rowA l p] (rowA (settleRow l) .no) := by
  refine Pur.args (args' := [rowA l .no]) rfl (fun i hi => by
    match i, hi with
    | 0, _ => exact rowW) ?_
  refine Pur.weaken (φ := fun r => r = rowA (settleRow l) .no ∨ (settleRow l = [] ∧ r = .lst 0 [] .exact)) (fun H => ?_) ?_
  rotate_left
  · rintro r (rfl | ⟨h, rfl⟩)
    · exact Weaker.refl _
    · rw [h]; exact Weaker.empty
  refine ref10_Settle_of ?_
  unfold W_ref10_Settle
  refine (ref04_Of_ok l hl hn).run ?_
  simp only [bop_eql, pureK_some]
  by_cases h0 : sortOf l = 0
  · simp only [h0, decide_true, condK_t]
    refine ret1_of H (Heap.le_refl _) ⟨.inr ⟨?_, rfl⟩, rfl⟩
    unfold settleRow
    rw [on_or]; simp [h0]
  · simp only [decide_eq_false h0, condK_f]
    obtain ⟨hw, g, he, hlen⟩ := good_of h0
    have hon : (sortOn l false || sortOn l true) = true := by rw [on_or]; simp [h0]
    have key := ref10_Tree_ok (treeOf l).len (treeOf l) (Nat.le_refl _) g (by rw [← he]; omega)
    rw [← he] at key
    have hset : settleF l.length (treeOf l) = settleT (treeOf l) := settleF_eq g.ok (by unfold Tr.len; rw [← he]; exact Nat.le_refl _)
    refine key.run ?_
    simp only [lnl_lst, List.length_map, pureK_some, bop_gtr, condK_B, decide_eq_true_eq, decide_eq_false_iff_not]
    refine ⟨fun h => ret1_of H (Heap.le_refl _) ⟨.inr ⟨?_, rfl⟩, rfl⟩, fun h => ret1_of H (Heap.le_refl _) ⟨.inl ?_, rfl⟩⟩
    · unfold settleRow
      rw [if_pos hon, hset, if_pos (by omega)]
    · unfold settleRow
      rw [if_pos hon, hset, if_neg (by omega)]

theorem ref11_Settled_ok (l : List Node) (p : Perm) (hl : small l.length) (hn : names l) : Pur ref11_Settled [rowA l p] (B (settled l)) := by
  intro H
  refine ref11_Settled_of ?_
  unfold W_ref11_Settled
  simp only [lnl_lst, List.length_map, pureK_some, bop_gtr, condK_B, decide_eq_true_eq, decide_eq_false_iff_not]
  refine ⟨fun h => ?_, fun h => ?_⟩
  · refine (ref10_Settle_ok l p hl hn).run ?_
    have := settleRow_len l
    refine (ref03_Same_ok _ _ _ _ (by unfold small; omega)).run ?_
    refine ret1_of H (Heap.le_refl _) ⟨B_eq ?_, rfl⟩
    have h' : 0 < l.length := by omega
    simp [settled, h']
  · refine ret1_of H (Heap.le_refl _) ⟨B_eq ?_, rfl⟩
    have h' : ¬ 0 < l.length := by omega
    simp only [settled, decide_eq_false h', Bool.false_and]

theorem ref19_in_ok (n m : Int) : Pur ref19_in [I n, I m] (B (decide (0 ≤ n) && decide (n ≤ m))) := by
  intro H
  refine ref19_in_of ?_
  unfold W_ref19_in
  simp only [bop_geq, bop_leq, pureK_some]
  by_cases h : 0 ≤ n
  · simp only [h, decide_true, condK_t, Bool.true_and]
    exact ret1_of H (Heap.le_refl _) ⟨rfl, rfl⟩
  · simp only [decide_eq_false h, condK_f, Bool.false_and]
    exact ret1_of H (Heap.le_refl _) ⟨rfl, rfl⟩

theorem ref19_Right_ok {s : St} (h : Fits s) (p q : Perm) : Pur ref19_Right [stA s p q] (B (rightS s)) := by
  intro H
  refine ref19_Right_of ?_
  unfold W_ref19_Right
  refine allocK_st fun o ho => ?_
  have hle : H ≤ H.upd o (.cells (stC s p q)) := by simp [ho]
  have hg : (H.upd o (.cells (stC s p q))) o = some (.cells (stC s p q)) := Heap.upd_same _ _ _
  generalize H.upd o (.cells (stC s p q)) = HB at hle hg ⊢
  simp only [fa_ptr, pureK_some, Nat.zero_add, Nat.reduceAdd, ld_ptr hg, cutE_one, get0, get1, get2, get3, get4]
  refine (ref04_On_ok _ _ false h.l h.n).run ?_
  simp only [unE_not, pureK_some]
  cases h1 : sortOn s.l false with
  | false =>
    rw [Bool.not_false, condK_t]
    exact ret1_of H hle ⟨B_eq (by simp [rightS, h1]), rfl⟩
  | true =>
  rw [Bool.not_true, condK_f]
  simp only [fa_ptr, pureK_some, Nat.zero_add, Nat.reduceAdd, ld_ptr hg, cutE_one, get0, get1, get2, get3, get4]
  refine (ref11_Settled_ok _ _ h.l h.n).run ?_
  simp only [unE_not, pureK_some]
  cases h2 : settled s.l with
  | false =>
    rw [Bool.not_false, condK_t]
    exact ret1_of H hle ⟨B_eq (by simp [rightS, h2]), rfl⟩
  | true =>
  rw [Bool.not_true, condK_f]
  simp only [fa_ptr, pureK_some, Nat.zero_add, Nat.reduceAdd, ld_ptr hg, cutE_one, get0, get1, get2, get3, get4, lnl_lst, List.length_map, bop_gtr, condK_B, decide_eq_true_eq, decide_eq_false_iff_not]
  refine ⟨fun h3 => ret1_of H hle ⟨B_eq (by simp [rightS, show ¬ s.l.length ≤ 60 by omega]), rfl⟩, fun h3 => ⟨fun h4 => ret1_of H hle ⟨B_eq (by simp [rightS, show ¬ s.a.length ≤ 60 by omega]), rfl⟩, fun h4 => ?_⟩⟩
  have h3' : s.l.length ≤ 60 := by omega
  have h4' : s.a.length ≤ 60 := by omega
  refine ⟨fun vs H' n => ∃ k : Nat, vs = [.ptr o 0, I k] ∧ H' = HB ∧ n = s.a.length - k ∧ k ≤ s.a.length ∧ (s.a.take k).all (fun x => right ⟨1, x, 0⟩) = true, ⟨_, HB, Heap.le_refl _, 0, rfl, rfl, rfl, Nat.zero_le _, rfl⟩, ?_⟩
  rintro vs H' n ⟨k, rfl, rfl, rfl, hk, hall⟩
  simp only [nth_zero, nth_succ, fa_ptr, pureK_some, Nat.zero_add, Nat.reduceAdd, ld_ptr hg, cutE_one, get0, get1, get2, get3, get4, lnl_lst, List.length_map, bop_lss, condK_B, decide_eq_true_eq, decide_eq_false_iff_not]
  refine ⟨fun h5 => ?_, fun h5 => ?_⟩
  · have hk' : k < s.a.length := by omega
    rw [ias_txt (by omega) (by omega)]
    simp only [pureK_some, ld_cp, cutE_one, get0, Int.toNat_natCast]
    rw [bld_01]
    simp only [pureK_some]
    refine (ref03_Right_ok ⟨1, s.a[k], 0⟩ (h.m _ (List.getElem_mem hk'))).run ?_
    simp only [unE_not, pureK_some]
    cases hr : right ⟨1, s.a[k], 0⟩ with
    | false =>
      rw [Bool.not_false, condK_t]
      refine ret1_of H hle ⟨B_eq ?_, rfl⟩
      have : (s.a.any fun x => !right ⟨1, x, 0⟩) = true := List.any_eq_true.2 ⟨s.a[k], List.getElem_mem hk', by simp [hr]⟩
      simp only [rightS, this, Bool.not_true, Bool.and_false]
    | true =>
      rw [Bool.not_true, condK_f, bop_add (by omega) (by omega)]
      refine ⟨s.a.length - (k + 1), H', by omega, Heap.le_refl _, k + 1, rfl, rfl, rfl, by omega, ?_⟩
      rw [List.take_succ_eq_append_getElem hk', List.all_append, hall]
      simp [hr]
  · have hk' : k = s.a.length := by omega
    subst hk'
    rw [List.take_length] at hall
    have ha : (s.a.any fun x => !right ⟨1, x, 0⟩) = false := by
      rw [List.any_eq_false]
      intro x hx
      have := List.all_eq_true.1 hall x hx
      simp [this]
    refine (ref19_in_ok s.pl 255).run ?_
    have fin : rightS s = ((decide (0 ≤ s.pl) && decide (s.pl ≤ 255)) && ((decide (0 ≤ s.how) && decide (s.how ≤ 5)) && (decide (0 ≤ s.n) && decide (s.n ≤ 60)))) := by
      simp only [rightS, h1, h2, ha, decide_eq_true h3', decide_eq_true h4', Bool.true_and, Bool.and_true, Bool.not_false]
    cases g1 : (decide (0 ≤ s.pl) && decide (s.pl ≤ 255)) with
    | false =>
      rw [condK_f]
      exact ret1_of H hle ⟨B_eq (by rw [fin, g1, Bool.false_and]), rfl⟩
    | true =>
    rw [condK_t]
    simp only [fa_ptr, pureK_some, Nat.zero_add, Nat.reduceAdd, ld_ptr hg, cutE_one, get2]
    refine (ref19_in_ok s.how 5).run ?_
    cases g2 : (decide (0 ≤ s.how) && decide (s.how ≤ 5)) with
    | false =>
      rw [condK_f]
      exact ret1_of H hle ⟨B_eq (by rw [fin, g2]; simp), rfl⟩
    | true =>
    rw [condK_t]
    simp only [fa_ptr, pureK_some, Nat.zero_add, Nat.reduceAdd, ld_ptr hg, cutE_one, get3]
    refine (ref19_in_ok s.n 60).run ?_
    exact ret1_of H hle ⟨B_eq (by rw [fin, g1, g2, Bool.true_and, Bool.true_and]), rfl⟩

theorem ref19_name_ok (s : ByteArray) (hs : s.size ≤ 1000000) : Pur ref19_name [S s] (bytA (nameB s) .no) := by
  intro H
  refine ref19_name_of ?_
  unfold W_ref19_name
  simp only [lns_S, pureK_some]
  rw [cv_u8]
  simp only [pureK_some]
  rw [bsl_b]
  simp only [pureK_some]
  left
  unfold appK1
  simp only [appended_S]
  refine ⟨.inl trivial, by simp [maxApp]; omega, .inl ?_⟩
  exact ret1_of H (Heap.le_refl _) ⟨by simp [nameB], rfl⟩

theorem ref19_Encode_ok {s : St} (hf : Fits s) (p q : Perm) (H : Heap) :
    ACalls PP gΓ ref19_Encode [stA s p q] H (fun r H' => ∃ v, r = .tup [v, B (rightS s)] ∧ H ≤ H' ∧ (rightS s = true → ∃ pv, v = bytA (enc s) pv) ∧ (rightS s = false → v = .lst 0 [] .exact)) := by
  refine ref19_Encode_of ?_
  unfold W_ref19_Encode
  refine allocK_st fun o1 ho1 => ?_
  have hle : H ≤ H.upd o1 (.cells (stC s p q)) := by simp [ho1]
  rw [ld_st]
  simp only [pureK_some]
  refine (ref19_Right_ok hf p q).run ?_
  simp only [unE_not, pureK_some]
  cases hr : rightS s with
  | false =>
    rw [Bool.not_false, condK_t]
    exact ret1_of _ (Heap.le_refl _) ⟨_, rfl, hle, fun h => (by cases h), fun _ => rfl⟩
  | true =>
  rw [Bool.not_true, condK_f]
  have hlen := enc_len hr
  obtain ⟨hnr, hl60, ha60, hna⟩ := rightS_parts hr
  have hle2 : (enc s).length = 1 + (s.l.flatMap nodeB).length + 4 + (s.a.flatMap nameB).length := by simp only [enc, List.length_append, List.length_cons, List.length_nil]; omega
  generalize hHB : H.upd o1 (.cells (stC s p q)) = HB at hle ⊢
  have hob : HB o1 = some (.cells (stC s p q)) := by rw [← hHB]; exact Heap.upd_same _ _ _
  simp only [fa_ptr, pureK_some, ld_ptr hob, cutE_one, Nat.zero_add, get0, lnl_lst, List.length_map]
  rw [cv_u8]
  simp only [pureK_some]
  rw [bsl_b]
  simp only [pureK_some]
  refine ⟨fun vs H' n => ∃ (k : Nat) (v : AV), vs = [.ptr o1 0, v, I k] ∧ n = s.l.length - k ∧ k ≤ s.l.length ∧ Out HB H' (byteOf s.l.length :: (s.l.take k).flatMap nodeB) v,
    ⟨_, HB, Heap.le_refl _, 0, _, rfl, rfl, Nat.zero_le _, .exact, rfl, .inl ⟨rfl, rfl⟩⟩, ?_⟩
  rintro vs H' n ⟨k, v, rfl, rfl, hk, hout⟩
  have hg0 := hout.get hob
  simp only [nth_zero, nth_succ, fa_ptr, pureK_some, ld_ptr hg0, cutE_one, Nat.zero_add, Nat.reduceAdd, get0, get1, get2, get3, get4, lnl_lst, List.length_map, bop_lss, condK_B, decide_eq_true_eq, decide_eq_false_iff_not]
  refine ⟨fun h => ?_, fun h => ?_⟩
  · have hk' : k < s.l.length := by omega
    have hst := flatMap_take_succ s.l nodeB hk'
    have htl := flatMap_take_le s.l nodeB (k + 1)
    rw [hst, List.length_append] at htl
    rw [ias_row (by omega) (by omega)]
    simp only [pureK_some, fa_cp, ld_cp, cutE_one, Nat.zero_add, get0, get1, get2, Int.toNat_natCast]
    rw [cv_u8]
    simp only [pureK_some]
    rw [bsl_b]
    simp only [pureK_some]
    have hnl : 1 ≤ (nodeB s.l[k]).length := by simp [nodeB]
    have fin : ∀ (v2 : AV) (H2 : Heap) (bs : List UInt8), Out HB H2 bs v2 → bs = byteOf s.l.length :: (s.l.take (k + 1)).flatMap nodeB →
        pureK (bop .plain .add (I k) (I 1)) fun x42 => ∃ (n19 : Nat) (H20 : Heap), n19 < s.l.length - k ∧ H20 ≤ H2 ∧ ∃ (k : Nat) (v : AV), [.ptr o1 0, v2, x42] = [.ptr o1 0, v, I k] ∧ n19 = s.l.length - k ∧ k ≤ s.l.length ∧ Out HB H20 (byteOf s.l.length :: (s.l.take k).flatMap nodeB) v := by
      intro v2 H2 bs h2 hbs
      rw [bop_add (by omega) (by omega)]
      exact ⟨s.l.length - (k + 1), H2, by omega, Heap.le_refl _, k + 1, v2, rfl, rfl, by omega, by rw [← hbs]; exact h2⟩
    refine app_out hout (appended_byt _ _) (by simp only [maxApp, List.length_cons, List.length_nil]; omega) fun v1 H1 h1 => ?_
    have hg1 := h1.get hob
    simp only [ld_ptr hg1, cutE_one, get0, pureK_some, fa_ptr, Nat.zero_add]
    rw [ias_row (by omega) (by omega)]
    simp only [pureK_some, fa_cp, ld_cp, cutE_one, Nat.zero_add, get0, get1, get2, Int.toNat_natCast, bop_eql]
    by_cases h5 : s.l[k].kind = 1
    · simp only [h5, decide_true, condK_t]
      have e : nodeB s.l[k] = byteOf s.l[k].kind :: nameB s.l[k].name := by simp [nodeB, h5]
      have e2 := nameB_length s.l[k].name
      rw [e] at htl
      simp only [List.length_cons] at htl
      have hsz : s.l[k].name.size ≤ 8 := right_name (hnr _ (List.getElem_mem hk')) h5
      refine (ref19_name_ok _ (by omega)).run ?_
      refine app_out h1 (appended_byt _ _) (by simp only [maxApp, List.length_cons, List.length_append, List.length_nil]; omega) fun v2 H2 h2 => ?_
      have hg2 := h2.get hob
      simp only [ld_ptr hg2, cutE_one, get0, pureK_some, fa_ptr, Nat.zero_add]
      rw [ias_row (by omega) (by omega)]
      simp only [pureK_some, fa_cp, ld_cp, cutE_one, Nat.zero_add, get0, get1, get2, Int.toNat_natCast, bop_eql, h5, Int.reduceEq, decide_false, condK_f]
      refine fin _ _ _ h2 ?_
      rw [hst, e, h5]; simp
    · simp only [decide_eq_false h5, condK_f]
      by_cases h6 : s.l[k].kind = 11
      · simp only [h6, decide_true, condK_t]
        have e : nodeB s.l[k] = [byteOf s.l[k].kind, byteOf s.l[k].sign] := by simp [nodeB, h6]
        rw [e] at htl
        rw [cv_u8]
        simp only [pureK_some]
        rw [bsl_b]
        simp only [pureK_some]
        refine app_out h1 (appended_byt _ _) (by simp only [maxApp, List.length_cons, List.length_append, List.length_nil] at htl ⊢; omega) fun v2 H2 h2 => ?_
        refine fin _ _ _ h2 ?_
        rw [hst, e, h6]; simp
      · simp only [decide_eq_false h6, condK_f]
        by_cases h7 : s.l[k].kind = 14
        · simp only [h7, decide_true, condK_t]
          have e : nodeB s.l[k] = [byteOf s.l[k].kind, byteOf s.l[k].sign] := by simp [nodeB, h7]
          rw [e] at htl
          rw [cv_u8]
          simp only [pureK_some]
          rw [bsl_b]
          simp only [pureK_some]
          refine app_out h1 (appended_byt _ _) (by simp only [maxApp, List.length_cons, List.length_append, List.length_nil] at htl ⊢; omega) fun v2 H2 h2 => ?_
          refine fin _ _ _ h2 ?_
          rw [hst, e, h7]; simp
        · simp only [decide_eq_false h7, condK_f]
          have e : nodeB s.l[k] = [byteOf s.l[k].kind] := by simp [nodeB, h5, h6, h7]
          refine fin _ _ _ h1 ?_
          rw [hst, e]; simp
  · have hk' : k = s.l.length := by omega
    subst hk'
    rw [List.take_length] at hout
    rw [cv_u8, cv_u8, cv_u8, cv_u8]
    simp only [pureK_some]
    rw [bsl_b4]
    simp only [pureK_some]
    refine app_out hout (appended_byt _ _) (by simp only [maxApp, List.length_cons, List.length_nil]; omega) fun v1 H1 h1 => ?_
    refine ⟨fun vs H' n => ∃ (k : Nat) (v : AV), vs = [.ptr o1 0, v, I k] ∧ n = s.a.length - k ∧ k ≤ s.a.length ∧ Out HB H' (byteOf s.l.length :: s.l.flatMap nodeB ++ [byteOf s.pl, byteOf s.how, byteOf s.n, byteOf s.a.length] ++ (s.a.take k).flatMap nameB) v,
      ⟨_, H1, Heap.le_refl _, 0, _, rfl, rfl, Nat.zero_le _, by simpa using h1⟩, ?_⟩
    rintro vs H2 n ⟨k, v2, rfl, rfl, hk, hout2⟩
    have hg2 := hout2.get hob
    simp only [nth_zero, nth_succ, fa_ptr, pureK_some, ld_ptr hg2, cutE_one, Nat.zero_add, get4, lnl_lst, List.length_map, bop_lss, condK_B, decide_eq_true_eq, decide_eq_false_iff_not]
    refine ⟨fun h => ?_, fun h => ?_⟩
    · have hk' : k < s.a.length := by omega
      have hst := flatMap_take_succ s.a nameB hk'
      have htl := flatMap_take_le s.a nameB (k + 1)
      rw [hst, List.length_append, nameB_length] at htl
      rw [ias_txt (by omega) (by omega)]
      simp only [pureK_some, ld_cp, cutE_one, get0, Int.toNat_natCast]
      have hsz := hna _ (List.getElem_mem hk')
      refine (ref19_name_ok _ (by omega)).run ?_
      refine app_out hout2 (appended_byt _ _) (by rw [nameB_length]; simp only [maxApp, List.length_cons, List.length_append, List.length_nil]; omega) fun v3 H3 h3 => ?_
      rw [bop_add (by omega) (by omega)]
      refine ⟨s.a.length - (k + 1), H3, by omega, Heap.le_refl _, k + 1, v3, rfl, rfl, by omega, ?_⟩
      rw [hst, ← List.append_assoc]; exact h3
    · have hk' : k = s.a.length := by omega
      subst hk'
      rw [List.take_length] at hout2
      have hle3 : H ≤ H2 := fun o x h => hout2.le o x (hle o x h)
      obtain ⟨pv, hv, _⟩ := hout2
      exact ret1_of H2 (Heap.le_refl _) ⟨v2, rfl, hle3, fun _ => ⟨pv, hv⟩, fun h => (by cases h)⟩

end Go.Av
