/- Own text C15 of this claim: see the text that holds the theorem. -/
import Derived.Test.YtddolbhaekekaaaGreatDoorC14
set_option linter.all false
set_option maxRecDepth 100000
namespace Go.Av
open Go Go.Proofs

theorem Out.le {H0 H : Heap} {bs : List UInt8} {v : AV} (h : Out H0 H bs v) : H0 ≤ H := by obtain ⟨p, _, hb⟩ := h; exact hb.le
theorem Out.get {H0 H : Heap} {bs : List UInt8} {v : AV} (h : Out H0 H bs v) {o : Nat} {x : AObj} (ho : H0 o = some x) : H o = some x := h.le o x ho

theorem Bld.alloc {H0 H : Heap} {p : Perm} {n o : Nat} {x : AObj} (h : Bld H0 H p n) (ho : H o = none) : Bld (H0.upd o x) (H.upd o x) p n := by
  rcases h with ⟨rfl, rfl⟩ | ⟨t, rfl, ht, rfl⟩
  · exact .inl ⟨rfl, rfl⟩
  · simp only [upd_none_iff] at ho
    exact .inr ⟨t, rfl, by simp [ht]; exact fun e => ho.1 e.symm, Heap.upd_comm _ _ _ (fun e => ho.1 e.symm)⟩
theorem Out.alloc {H0 H : Heap} {bs : List UInt8} {v : AV} (h : Out H0 H bs v) {o : Nat} {x : AObj} (ho : H o = none) : Out (H0.upd o x) (H.upd o x) bs v := by
  obtain ⟨p, h1, hb⟩ := h; exact ⟨p, h1, hb.alloc ho⟩
theorem Bld.fall {H0 H : Heap} {p : Perm} {n o : Nat} {x : AObj} (h : Bld (H0.upd o x) H p n) (ho : H0 o = none) : ∃ H1, H1 ≤ H ∧ Bld H0 H1 p n := by
  rcases h with ⟨rfl, rfl⟩ | ⟨t, rfl, ht, rfl⟩
  · exact ⟨H0, by simp [ho], .inl ⟨rfl, rfl⟩⟩
  · simp only [upd_none_iff] at ht
    refine ⟨H0.upd t (.tok n), ?_, .inr ⟨t, rfl, ht.2, rfl⟩⟩
    exact Heap.upd_le_upd (by simp [ho])
theorem Out.fall {H0 H : Heap} {bs : List UInt8} {v : AV} {o : Nat} {x : AObj} (h : Out (H0.upd o x) H bs v) (ho : H0 o = none) : ∃ H1, H1 ≤ H ∧ Out H0 H1 bs v := by
  obtain ⟨p, h1, hb⟩ := h
  obtain ⟨H1, h2, h3⟩ := hb.fall ho
  exact ⟨H1, h2, p, h1, h3⟩
theorem Out.none {H0 H : Heap} {bs : List UInt8} {v : AV} (h : Out H0 H bs v) {o : Nat} (ho : H o = none) : H0 o = none := by
  cases e : H0 o with
  | none => rfl
  | some x => rw [h.get e] at ho; cases ho

def nodeB (n : Node) : List UInt8 := byteOf n.kind :: (if n.kind = 1 then nameB n.name else if n.kind = 11 ∨ n.kind = 14 then [byteOf n.sign] else [])
def enc (s : St) : List UInt8 := byteOf s.l.length :: s.l.flatMap nodeB ++ [byteOf s.pl, byteOf s.how, byteOf s.n, byteOf s.a.length] ++ s.a.flatMap nameB

theorem nameB_length (s : ByteArray) : (nameB s).length = 1 + s.size := by simp [nameB]; omega
theorem flatMap_take_le {α β : Type} (l : List α) (f : α → List β) (k : Nat) : ((l.take k).flatMap f).length ≤ (l.flatMap f).length := by
  have : l.flatMap f = (l.take k).flatMap f ++ (l.drop k).flatMap f := by rw [← List.flatMap_append, List.take_append_drop]
  rw [this]; simp
theorem flatMap_take_succ {α β : Type} (l : List α) (f : α → List β) {k : Nat} (h : k < l.length) : (l.take (k + 1)).flatMap f = (l.take k).flatMap f ++ f l[k] := by
  rw [List.take_succ_eq_append_getElem h]
  simp only [List.flatMap_append, List.flatMap_cons, List.flatMap_nil, List.append_nil]

theorem code_Encode_ok (s : St) (p q : Perm) (b : Bool) (hR : Pur code_Right [stA s p q] (B b)) (hl : b = true → (enc s).length ≤ 900000) (hs : small s.l.length) (ha : small s.a.length) (H : Heap) :
    ACalls PP gΓ code_Encode [stA s p q] H (fun r H' => (b = false ∧ r = .tup [.lst 0 [] .exact, B false] ∧ H' = H) ∨ (b = true ∧ ∃ v, r = .tup [v, B true] ∧ Out H H' (enc s) v)) := by
  refine code_Encode_of ?_
  unfold W_code_Encode
  refine allocK_st fun o1 ho1 => ?_
  have hle : H ≤ H.upd o1 (.cells (stC s p q)) := by simp [ho1]
  rw [ld_st]
  simp only [pureK_some]
  refine hR.run ?_
  simp only [unE_not, pureK_some, condK_B]
  refine ⟨fun h => ret1_of H hle (.inl ⟨by simpa using h, rfl, rfl⟩), fun h => ?_⟩
  have hb : b = true := by simpa using h
  have hlen := hl hb
  have hle2 : (enc s).length = 1 + (s.l.flatMap nodeB).length + 4 + (s.a.flatMap nameB).length := by simp only [enc, List.length_append, List.length_cons, List.length_nil]; omega
  generalize hHB : H.upd o1 (.cells (stC s p q)) = HB at hle ⊢
  have hob : HB o1 = some (.cells (stC s p q)) := by rw [← hHB]; exact Heap.upd_same _ _ _
  simp only [fa_ptr, pureK_some, ld_ptr hob, cutE_one, Nat.zero_add, get0, lnl_lst, List.length_map]
  rw [cv_u8]
  simp only [pureK_some]
  rw [bsl_b]
  simp only [pureK_some]
  refine ⟨fun vs H' n => ∃ (k : Nat) (v : AV), vs = [.ptr o1 0, v, rowA s.l p, I s.l.length, I k] ∧ n = s.l.length - k ∧ k ≤ s.l.length ∧ Out HB H' (byteOf s.l.length :: (s.l.take k).flatMap nodeB) v,
    ⟨_, HB, Heap.le_refl _, 0, _, rfl, rfl, Nat.zero_le _, .exact, rfl, .inl ⟨rfl, rfl⟩⟩, ?_⟩
  rintro vs H' n ⟨k, v, rfl, rfl, hk, hout⟩
  simp only [nth_zero, nth_succ, bop_lss, pureK_some, condK_B, decide_eq_true_eq, decide_eq_false_iff_not]
  refine ⟨fun h => ?_, fun h => ?_⟩
  · have hk' : k < s.l.length := by omega
    have hst := flatMap_take_succ s.l nodeB hk'
    have htl := flatMap_take_le s.l nodeB (k + 1)
    rw [hst, List.length_append] at htl
    rw [ias_row (by omega) (by omega)]
    simp only [pureK_some, ld_cp, cut_nd, Int.toNat_natCast]
    intro o2 ho2
    have hst3 : st 3 (H'.upd o2 (.cells [I 0, S emp, I 0])) (.ptr o2 0) (nd s.l[k]) = some (H'.upd o2 (.cells [I s.l[k].kind, S s.l[k].name, I s.l[k].sign])) := by simp [nd, splice]
    rw [hst3]
    simp only [heapK_some, fa_ptr, pureK_some, ld_upd, cutE_one, Nat.zero_add, get0]
    have hout2 := hout.alloc (x := .cells [I s.l[k].kind, S s.l[k].name, I s.l[k].sign]) ho2
    have hHo2 := hout.none ho2
    rw [cv_u8]
    simp only [pureK_some]
    rw [bsl_b]
    simp only [pureK_some]
    have hnl : 1 ≤ (nodeB s.l[k]).length := by simp [nodeB]
    refine app_out hout2 (appended_byt _ _) (by simp only [maxApp, List.length_cons, List.length_nil]; omega) fun v1 H1 h1 => ?_
    have hget := h1.get (o := o2) (Heap.upd_same _ _ _)
    simp only [ld_ptr hget, cutE_one, get0, get1, get2, pureK_some, bop_eql, condK_B, decide_eq_true_eq, decide_eq_false_iff_not, fa_ptr, Nat.zero_add]
    have fin : ∀ (v2 : AV) (H2 : Heap) (bs : List UInt8), Out (HB.upd o2 (.cells [I s.l[k].kind, S s.l[k].name, I s.l[k].sign])) H2 bs v2 → bs = byteOf s.l.length :: (s.l.take (k + 1)).flatMap nodeB →
        pureK (bop .plain .add (I k) (I 1)) fun x42 => ∃ (n19 : Nat) (H20 : Heap), n19 < s.l.length - k ∧ H20 ≤ H2 ∧ ∃ (k : Nat) (v : AV), [.ptr o1 0, v2, rowA s.l p, I s.l.length, x42] = [.ptr o1 0, v, rowA s.l p, I s.l.length, I k] ∧ n19 = s.l.length - k ∧ k ≤ s.l.length ∧ Out HB H20 (byteOf s.l.length :: (s.l.take k).flatMap nodeB) v := by
      intro v2 H2 bs h2 hbs
      obtain ⟨H3, h3, h4⟩ := h2.fall hHo2
      rw [bop_add (by omega) (by omega)]
      exact ⟨s.l.length - (k + 1), H3, by omega, h3, k + 1, v2, rfl, rfl, by omega, by rw [← hbs]; exact h4⟩
    refine ⟨fun h5 => ?_, fun h5 => ⟨fun h6 => ?_, fun h6 => ⟨fun h7 => ?_, fun h7 => ?_⟩⟩⟩
    · have e : nodeB s.l[k] = byteOf s.l[k].kind :: nameB s.l[k].name := by simp [nodeB, h5]
      have e2 := nameB_length s.l[k].name
      rw [e] at htl
      simp only [List.length_cons] at htl
      refine (code_named_ok _ _ _ _ _ h1 (by simp only [List.length_cons, List.length_append, List.length_nil]; omega)).mono ?_
      intro r H3 h8
      refine fin _ _ _ h8 ?_
      rw [hst, e]; simp
    · have e : nodeB s.l[k] = [byteOf s.l[k].kind, byteOf s.l[k].sign] := by simp [nodeB, h6]
      rw [e] at htl
      rw [cv_u8]
      simp only [pureK_some]
      rw [bsl_b]
      simp only [pureK_some]
      refine app_out h1 (appended_byt _ _) (by simp only [maxApp, List.length_cons, List.length_append, List.length_nil] at htl ⊢; omega) fun v2 H2 h2 => ?_
      refine fin _ _ _ h2 ?_
      rw [hst, e]; simp
    · have e : nodeB s.l[k] = [byteOf s.l[k].kind, byteOf s.l[k].sign] := by simp [nodeB, h7]
      rw [e] at htl
      rw [cv_u8]
      simp only [pureK_some]
      rw [bsl_b]
      simp only [pureK_some]
      refine app_out h1 (appended_byt _ _) (by simp only [maxApp, List.length_cons, List.length_append, List.length_nil] at htl ⊢; omega) fun v2 H2 h2 => ?_
      refine fin _ _ _ h2 ?_
      rw [hst, e]; simp
    · have e : nodeB s.l[k] = [byteOf s.l[k].kind] := by simp [nodeB, h5, h6, h7]
      refine fin _ _ _ h1 ?_
      rw [hst, e]; simp
  · have hk' : k = s.l.length := by omega
    subst hk'
    rw [List.take_length] at hout
    have hget := hout.get hob
    simp only [fa_ptr, pureK_some, ld_ptr hget, cutE_one, Nat.zero_add, Nat.reduceAdd, get0, get1, get2, get3, get4, lnl_lst, List.length_map]
    rw [cv_u8, cv_u8, cv_u8, cv_u8]
    simp only [pureK_some]
    rw [bsl_b4]
    simp only [pureK_some]
    refine app_out hout (appended_byt _ _) (by simp only [maxApp, List.length_cons, List.length_nil]; omega) fun v1 H1 h1 => ?_
    simp only [ld_ptr (h1.get hob), cutE_one, get4, pureK_some, lnl_lst, List.length_map]
    refine ⟨fun vs H' n => ∃ (k : Nat) (v : AV), vs = [v, txtA s.a q, I s.a.length, I k] ∧ n = s.a.length - k ∧ k ≤ s.a.length ∧ Out HB H' (byteOf s.l.length :: s.l.flatMap nodeB ++ [byteOf s.pl, byteOf s.how, byteOf s.n, byteOf s.a.length] ++ (s.a.take k).flatMap nameB) v,
      ⟨_, H1, Heap.le_refl _, 0, _, rfl, rfl, Nat.zero_le _, by simpa using h1⟩, ?_⟩
    rintro vs H2 n ⟨k, v2, rfl, rfl, hk, hout2⟩
    simp only [nth_zero, nth_succ, bop_lss, pureK_some, condK_B, decide_eq_true_eq, decide_eq_false_iff_not]
    refine ⟨fun h => ?_, fun h => ?_⟩
    · have hk' : k < s.a.length := by omega
      have hst := flatMap_take_succ s.a nameB hk'
      have htl := flatMap_take_le s.a nameB (k + 1)
      rw [hst, List.length_append, nameB_length] at htl
      rw [ias_txt (by omega) (by omega)]
      simp only [pureK_some, ld_cp, cutE_one, get0, Int.toNat_natCast]
      refine (code_named_ok _ _ _ _ _ hout2 (by simp only [List.length_cons, List.length_append, List.length_nil]; omega)).mono ?_
      intro r H3 h8
      rw [bop_add (by omega) (by omega)]
      refine ⟨s.a.length - (k + 1), H3, by omega, Heap.le_refl _, k + 1, r, rfl, rfl, by omega, ?_⟩
      rw [hst, ← List.append_assoc]; exact h8
    · have hk' : k = s.a.length := by omega
      subst hk'
      rw [List.take_length] at hout2
      rw [← hHB] at hout2
      obtain ⟨H3, h3, h4⟩ := hout2.fall ho1
      exact ret1_of H3 h3 (.inr ⟨hb, v2, rfl, h4⟩)
end Go.Av
