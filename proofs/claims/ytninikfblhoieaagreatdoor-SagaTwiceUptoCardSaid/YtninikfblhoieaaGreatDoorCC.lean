/- Own text CC of this claim: see the text that holds the theorem. -/
import Derived.Test.YtninikfblhoieaaGreatDoorCB
set_option linter.all false
set_option maxRecDepth 100000
namespace Go.Av
open Go Go.Proofs

theorem Out.le {H0 H : Heap} {bs : List UInt8} {v : AV} (h : Out H0 H bs v) : H0 ≤ H := by obtain ⟨p, _, hb⟩ := h; exact hb.le
theorem Out.get {H0 H : Heap} {bs : List UInt8} {v : AV} (h : Out H0 H bs v) {o : Nat} {x : AObj} (ho : H0 o = some x) : H o = some x := h.le o x ho

theorem Bld.alloc {H0 H : Heap} {p : Perm} {n o : Nat} {x : AObj} (h : Bld H0 H p n) (ho : H o = none) : Bld (H0.upd o x) (H.upd o x) p n := by
 rcases h with ⟨rfl, rfl⟩ | ⟨t, rfl, ht, rfl⟩
 · exact .inl ⟨rfl, rfl⟩
 · simp only [upd_none_iff] at ho
   exact .inr ⟨t, rfl, by simp [ht]; exact fun e => ho.1 e.symm, Heap.upd_comm _ _ _ (fun e => ho.1 e.symm)⟩
theorem Out.alloc {H0 H : Heap} {bs : List UInt8} {v : AV} (h : Out H0 H bs v) {o : Nat} {x : AObj} (ho : H o = none) : Out (H0.upd o x) (H.upd o x) bs v := by
 obtain ⟨p, h1, hb⟩ := h; exact ⟨p, h1, hb.alloc ho⟩
theorem Bld.fall {H0 H : Heap} {p : Perm} {n o : Nat} {x : AObj} (h : Bld (H0.upd o x) H p n) (ho : H0 o = none) : ∃ H1, H1 ≤ H ∧ Bld H0 H1 p n := by
 rcases h with ⟨rfl, rfl⟩ | ⟨t, rfl, ht, rfl⟩
 · exact ⟨H0, by simp [ho], .inl ⟨rfl, rfl⟩⟩
 · simp only [upd_none_iff] at ht
   refine ⟨H0.upd t (.tok n), ?_, .inr ⟨t, rfl, ht.2, rfl⟩⟩
   exact Heap.upd_le_upd (by simp [ho])
theorem Out.fall {H0 H : Heap} {bs : List UInt8} {v : AV} {o : Nat} {x : AObj} (h : Out (H0.upd o x) H bs v) (ho : H0 o = none) : ∃ H1, H1 ≤ H ∧ Out H0 H1 bs v := by
 obtain ⟨p, h1, hb⟩ := h
 obtain ⟨H1, h2, h3⟩ := hb.fall ho
 exact ⟨H1, h2, p, h1, h3⟩
theorem Out.none {H0 H : Heap} {bs : List UInt8} {v : AV} (h : Out H0 H bs v) {o : Nat} (ho : H o = none) : H0 o = none := by
 cases e : H0 o with
 | none => rfl
 | some x => rw [h.get e] at ho; cases ho

def nodeB (n : Node) : List UInt8 := byteOf n.kind :: (if n.kind = 1 then nameB n.name else if n.kind = 11 ∨ n.kind = 14 then [byteOf n.sign] else [])
def enc (s : St) : List UInt8 := byteOf s.l.length :: s.l.flatMap nodeB ++ [byteOf s.pl, byteOf s.how, byteOf s.n, byteOf s.a.length] ++ s.a.flatMap nameB

theorem nameB_length (s : ByteArray) : (nameB s).length = 1 + s.size := by simp [nameB]; omega
theorem flatMap_take_le {α β : Type} (l : List α) (f : α → List β) (k : Nat) : ((l.take k).flatMap f).length ≤ (l.flatMap f).length := by
 have : l.flatMap f = (l.take k).flatMap f ++ (l.drop k).flatMap f := by rw [← List.flatMap_append, List.take_append_drop]
 rw [this]; simp
theorem flatMap_take_succ {α β : Type} (l : List α) (f : α → List β) {k : Nat} (h : k < l.length) : (l.take (k + 1)).flatMap f = (l.take k).flatMap f ++ f l[k] := by
 rw [List.take_succ_eq_append_getElem h]
 simp only [List.flatMap_append, List.flatMap_cons, List.flatMap_nil, List.append_nil]

theorem code_Encode_ok (s : St) (p q : Perm) (b : Bool) (hR : Pur code_Right [stA s p q] (B b)) (hl : b = true → (enc s).length ≤ 900000) (hs : small s.l.length) (ha : small s.a.length) (H : Heap) :
 ACalls PP gΓ code_Encode [stA s p q] H (fun r H' => (b = false ∧ r = .tup [.lst 0 [] .exact, B false] ∧ H' = H) ∨ (b = true ∧ ∃ v, r = .tup [v, B true] ∧ Out H H' (enc s) v)) := by
 refine code_Encode_of ?_
 unfold W_code_Encode
 refine allocK_st fun o1 ho1 => ?_
 have hle : H ≤ H.upd o1 (.cells (stC s p q)) := by simp [ho1]
 rw [ld_st]
 simp only [pureK_some]
 refine hR.run ?_
 simp only [unE_not, pureK_some, condK_B]
 refine ⟨fun h => ret1_of H hle (.inl ⟨by simpa using h, rfl, rfl⟩), fun h => ?_⟩
 have hb : b = true := by simpa using h
 have hlen := hl hb
 have hle2 : (enc s).length = 1 + (s.l.flatMap nodeB).length + 4 + (s.a.flatMap nameB).length := by simp only [enc, List.length_append, List.length_cons, List.length_nil]; omega
 generalize hHB : H.upd o1 (.cells (stC s p q)) = HB at hle ⊢
 have hob : HB o1 = some (.cells (stC s p q)) := by rw [← hHB]; exact Heap.upd_same _ _ _
 simp only [fa_ptr, pureK_some, ld_ptr hob, cutE_one, Nat.zero_add, get0, lnl_lst, List.length_map]
 rw [cv_u8]
 simp only [pureK_some]
 rw [bsl_b]
 simp only [pureK_some]
 refine ⟨fun vs H' n => ∃ (k : Nat) (v : AV), vs = [.ptr o1 0, v, rowA s.l p, I s.l.length, I k] ∧ n = s.l.length - k ∧ k ≤ s.l.length ∧ Out HB H' (byteOf s.l.length :: (s.l.take k).flatMap nodeB) v,
  ⟨_, HB, Heap.le_refl _, 0, _, rfl, rfl, Nat.zero_le _, .exact, rfl, .inl ⟨rfl, rfl⟩⟩, ?_⟩
 rintro vs H' n ⟨k, v, rfl, rfl, hk, hout⟩
 simp only [nth_zero, nth_succ, bop_lss, pureK_some, condK_B, decide_eq_true_eq, decide_eq_false_iff_not]
 refine ⟨fun h => ?_, fun h => ?_⟩
 · have hk' : k < s.l.length := by omega
   have hst := flatMap_take_succ s.l nodeB hk'
   have htl := flatMap_take_le s.l nodeB (k + 1)
   rw [hst, List.length_append] at htl
   rw [ias_row (by omega) (by omega)]
   simp only [pureK_some, ld_cp, cut_nd, Int.toNat_natCast]
   intro o2 ho2
   have hst3 : st 3 (H'.upd o2 (.cells [I 0, S emp, I 0])) (.ptr o2 0) (nd s.l[k]) = some (H'.upd o2 (.cells [I s.l[k].kind, S s.l[k].name, I s.l[k].sign])) := by simp [nd, splice]
   rw [hst3]
   simp only [heapK_some, fa_ptr, pureK_some, ld_upd, cutE_one, Nat.zero_add, get0]
   have hout2 := hout.alloc (x := .cells [I s.l[k].kind, S s.l[k].name, I s.l[k].sign]) ho2
   have hHo2 := hout.none ho2
   rw [cv_u8]
   simp only [pureK_some]
   rw [bsl_b]
   simp only [pureK_some]
   have hnl : 1 ≤ (nodeB s.l[k]).length := by simp [nodeB]
   refine app_out hout2 (appended_byt _ _) (by simp only [maxApp, List.length_cons, List.length_nil]; omega) fun v1 H1 h1 => ?_
   have hget := h1.get (o := o2) (Heap.upd_same _ _ _)
   simp only [ld_ptr hget, cutE_one, get0, get1, get2, pureK_some, bop_eql, condK_B, decide_eq_true_eq, decide_eq_false_iff_not, fa_ptr, Nat.zero_add]
   have fin : ∀ (v2 : AV) (H2 : Heap) (bs : List UInt8), Out (HB.upd o2 (.cells [I s.l[k].kind, S s.l[k].name, I s.l[k].sign])) H2 bs v2 → bs = byteOf s.l.length :: (s.l.take (k + 1)).flatMap nodeB →
    pureK (bop .plain .add (I k) (I 1)) fun x42 => ∃ (n19 : Nat) (H20 : Heap), n19 < s.l.length - k ∧ H20 ≤ H2 ∧ ∃ (k : Nat) (v : AV), [.ptr o1 0, v2, rowA s.l p, I s.l.length, x42] = [.ptr o1 0, v, rowA s.l p, I s.l.length, I k] ∧ n19 = s.l.length - k ∧ k ≤ s.l.length ∧ Out HB H20 (byteOf s.l.length :: (s.l.take k).flatMap nodeB) v := by
    intro v2 H2 bs h2 hbs
    obtain ⟨H3, h3, h4⟩ := h2.fall hHo2
    rw [bop_add (by omega) (by omega)]
    exact ⟨s.l.length - (k + 1), H3, by omega, h3, k + 1, v2, rfl, rfl, by omega, by rw [← hbs]; exact h4⟩
   refine ⟨fun h5 => ?_, fun h5 => ⟨fun h6 => ?_, fun h6 => ⟨fun h7 => ?_, fun h7 => ?_⟩⟩⟩
   · have e : nodeB s.l[k] = byteOf s.l[k].kind :: nameB s.l[k].name := by simp [nodeB, h5]
     have e2 := nameB_length s.l[k].name
     rw [e] at htl
     simp only [List.length_cons] at htl
     refine (code_named_ok _ _ _ _ _ h1 (by simp only [List.length_cons, List.length_append, List.length_nil]; omega)).mono ?_
     intro r H3 h8
     refine fin _ _ _ h8 ?_
     rw [hst, e]; simp
   · have e : nodeB s.l[k] = [byteOf s.l[k].kind, byteOf s.l[k].sign] := by simp [nodeB, h6]
     rw [e] at htl
     rw [cv_u8]
     simp only [pureK_some]
     rw [bsl_b]
     simp only [pureK_some]
     refine app_out h1 (appended_byt _ _) (by simp only [maxApp, List.length_cons, List.length_append, List.length_nil] at htl ⊢; omega) fun v2 H2 h2 => ?_
     refine fin _ _ _ h2 ?_
     rw [hst, e]; simp
   · have e : nodeB s.l[k] = [byteOf s.l[k].kind, byteOf s.l[k].sign] := by simp [nodeB, h7]
     rw [e] at htl
     rw [cv_u8]
     simp only [pureK_some]
     rw [bsl_b]
     simp only [pureK_some]
     refine app_out h1 (appended_byt _ _) (by simp only [maxApp, List.length_cons, List.length_append, List.length_nil] at htl ⊢; omega) fun v2 H2 h2 => ?_
     refine fin _ _ _ h2 ?_
     rw [hst, e]; simp
   · have e : nodeB s.l[k] = [byteOf s.l[k].kind] := by simp [nodeB, h5, h6, h7]
     refine fin _ _ _ h1 ?_
     rw [hst, e]; simp
 · have hk' : k = s.l.length := by omega
   subst hk'
   rw [List.take_length] at hout
   have hget := hout.get hob
   simp only [fa_ptr, pureK_some, ld_ptr hget, cutE_one, Nat.zero_add, Nat.reduceAdd, get0, get1, get2, get3, get4, lnl_lst, List.length_map]
   rw [cv_u8, cv_u8, cv_u8, cv_u8]
   simp only [pureK_some]
   rw [bsl_b4]
   simp only [pureK_some]
   refine app_out hout (appended_byt _ _) (by simp only [maxApp, List.length_cons, List.length_nil]; omega) fun v1 H1 h1 => ?_
   simp only [ld_ptr (h1.get hob), cutE_one, get4, pureK_some, lnl_lst, List.length_map]
   refine ⟨fun vs H' n => ∃ (k : Nat) (v : AV), vs = [v, txtA s.a q, I s.a.length, I k] ∧ n = s.a.length - k ∧ k ≤ s.a.length ∧ Out HB H' (byteOf s.l.length :: s.l.flatMap nodeB ++ [byteOf s.pl, byteOf s.how, byteOf s.n, byteOf s.a.length] ++ (s.a.take k).flatMap nameB) v,
    ⟨_, H1, Heap.le_refl _, 0, _, rfl, rfl, Nat.zero_le _, by simpa using h1⟩, ?_⟩
   rintro vs H2 n ⟨k, v2, rfl, rfl, hk, hout2⟩
   simp only [nth_zero, nth_succ, bop_lss, pureK_some, condK_B, decide_eq_true_eq, decide_eq_false_iff_not]
   refine ⟨fun h => ?_, fun h => ?_⟩
   · have hk' : k < s.a.length := by omega
     have hst := flatMap_take_succ s.a nameB hk'
     have htl := flatMap_take_le s.a nameB (k + 1)
     rw [hst, List.length_append, nameB_length] at htl
     rw [ias_txt (by omega) (by omega)]
     simp only [pureK_some, ld_cp, cutE_one, get0, Int.toNat_natCast]
     refine (code_named_ok _ _ _ _ _ hout2 (by simp only [List.length_cons, List.length_append, List.length_nil]; omega)).mono ?_
     intro r H3 h8
     rw [bop_add (by omega) (by omega)]
     refine ⟨s.a.length - (k + 1), H3, by omega, Heap.le_refl _, k + 1, r, rfl, rfl, by omega, ?_⟩
     rw [hst, ← List.append_assoc]; exact h8
   · have hk' : k = s.a.length := by omega
     subst hk'
     rw [List.take_length] at hout2
     rw [← hHB] at hout2
     obtain ⟨H3, h3, h4⟩ := hout2.fall ho1
     exact ret1_of H3 h3 (.inr ⟨hb, v2, rfl, h4⟩)
end Go.Av
namespace Go.Av
open Go Go.Proofs

theorem st_get {n : Nat} {H : Heap} {o off : Nat} {cs : List AV} {v : AV} {r : List AV} (h : H o = some (.cells cs)) (h1 : v.cells.length = n) (h2 : off + v.cells.length ≤ cs.length) (h3 : v.cells.all AV.single = true) (hr : splice cs off v.cells = r) :
 st n H (.ptr o off) v = some (H.upd o (.cells r)) := by
 have := st_upd_of (H := H) (o := o) h1 h2 h3 hr
 rw [Heap.upd_self h] at this
 rw [this]

def headI : List UInt8 → Int
 | [] => 0
 | b :: _ => b.toNat

theorem sllB_drop {l : List UInt8} {p : Perm} {a : Nat} (h : a ≤ l.length) : ∃ q, sll 1 (bytA l p) (some (I a)) none none = some (bytA (l.drop a) q) := by
 refine ⟨if p = .exact then .exact else .no, ?_⟩
 simp [sll, bound, h, List.take_of_length_le]
theorem sllB_take {l : List UInt8} {p : Perm} {a : Nat} (h : a ≤ l.length) : ∃ q, sll 1 (bytA l p) none (some (I a)) none = some (bytA (l.take a) q) := by
 refine ⟨if p = .exact ∧ a = l.length then .exact else .no, ?_⟩
 simp [sll, bound, h]

theorem cv_i64 (b : UInt8) : cv (.toInt .i64) (byteAV b) = some (I b.toNat) := by
 have hb : b.toNat < 256 := b.toNat_lt
 show some (AV.sc (.int .i64 (IntKind.wrap .i64 b.toNat))) = _
 rw [wrap_i64 (by omega) (by omega)]

theorem bytesOf_map (l : List UInt8) : bytesOf? (l.map byteAV) = some l := by
 induction l with
 | nil => rfl
 | cons b l ih =>
   show (bytesOf? (l.map byteAV)).map (UInt8.ofNat ((b.toNat : Int)).toNat :: ·) = _
   rw [ih]; simp
theorem cv_toStr (l : List UInt8) (p : Perm) : cv .toStr (bytA l p) = some (S ⟨l.toArray⟩) := by
 simp [cv, bytesOf_map]

theorem reader_next_ok (bs : List UInt8) (bad : Bool) (p : Perm) (o : Nat) (H : Heap) (h : H o = some (.cells [bytA bs p, B bad])) (hl : bs.length ≤ 1000000) :
 ACalls PP gΓ code_reader_next [.ptr o 0] H (fun r H' => ∃ q, r = I (headI bs) ∧ H' = H.upd o (.cells [bytA bs.tail q, B (bad || bs.isEmpty)])) := by
 refine code_reader_next_of ?_
 unfold W_code_reader_next
 simp only [nilE_ptr, fa_ptr, pureK_some, ld_ptr h, cutE_one, Nat.zero_add, get0, lnl_lst, List.length_map, bop_eql, condK_B, decide_eq_true_eq, decide_eq_false_iff_not]
 refine ⟨fun h1 => ?_, fun h1 => ?_⟩
 · have hb : bs = [] := List.eq_nil_of_length_eq_zero (by omega)
   subst hb
   rw [st_get (n := 1) (off := 1) (v := B true) (r := [bytA [] p, B true]) h rfl (by simp) rfl rfl]
   simp only [heapK_some]
   exact ret1_of _ (Heap.le_refl _) ⟨p, rfl, by simp⟩
 · match bs, h1, h, hl with
   | b :: bs, _, h, hl =>
     rw [ias_byt (by omega) (by simp)]
     obtain ⟨q, e⟩ := sllB_drop (l := b :: bs) (p := p) (a := 1) (by simp)
     have e1 : (I 1) = I ((1 : Nat) : Int) := rfl
     rw [e1, e]
     simp only [pureK_some, ld_cp, cutE_one, get0]
     rw [st_get (n := 1) (off := 0) (v := bytA ((b :: bs).drop 1) q) (r := [bytA bs q, B bad]) h rfl (by simp) rfl rfl]
     have e2 : (b :: bs)[(0 : Int).toNat]'(by simp) = b := rfl
     rw [e2, cv_i64]
     simp only [heapK_some, pureK_some]
     exact ret1_of _ (Heap.le_refl _) ⟨q, rfl, by simp⟩

def nameN (bs : List UInt8) : Nat := min (headI bs).toNat bs.tail.length

theorem headI_nonneg (bs : List UInt8) : 0 ≤ headI bs := by cases bs <;> simp [headI]

theorem minE_two (a b : Int) : minE [I a, I b] = some (I (min a b)) := by
 simp only [minE, foldE, min2E, Option.bind_some]
 by_cases h : b < a
 · rw [if_pos h, Int.min_def, if_neg (by omega)]
 · rw [if_neg h, Int.min_def, if_pos (by omega)]

theorem reader_name_ok (bs : List UInt8) (bad : Bool) (p : Perm) (o : Nat) (H : Heap) (h : H o = some (.cells [bytA bs p, B bad])) (hl : bs.length ≤ 1000000) :
 ACalls PP gΓ code_reader_name [.ptr o 0] H (fun r H' => ∃ q, r = S ⟨(bs.tail.take (nameN bs)).toArray⟩ ∧ H' = H.upd o (.cells [bytA (bs.tail.drop (nameN bs)) q, B (bad || bs.isEmpty)])) := by
 refine code_reader_name_of ?_
 unfold W_code_reader_name
 refine (reader_next_ok bs bad p o H h hl).mono ?_
 rintro r H1 ⟨q, rfl, rfl⟩
 have hn := headI_nonneg bs
 have e0 : min (headI bs) (bs.tail.length : Int) = ((nameN bs : Nat) : Int) := by unfold nameN; omega
 have hle : nameN bs ≤ bs.tail.length := by unfold nameN; omega
 simp only [nilE_ptr, fa_ptr, pureK_some, ld_upd, cutE_one, Nat.zero_add, get0, lnl_lst, List.length_map]
 rw [minE_two, e0]
 simp only [pureK_some]
 obtain ⟨q1, e1⟩ := sllB_take (l := bs.tail) (p := q) (a := nameN bs) hle
 obtain ⟨q2, e2⟩ := sllB_drop (l := bs.tail) (p := q) (a := nameN bs) hle
 rw [e1, e2]
 simp only [pureK_some]
 rw [cv_toStr]
 simp only [pureK_some]
 rw [st_upd_of (n := 1) (off := 0) (v := bytA (bs.tail.drop (nameN bs)) q2) (r := [bytA (bs.tail.drop (nameN bs)) q2, B (bad || bs.isEmpty)]) rfl (by simp) rfl rfl]
 simp only [heapK_some]
 exact ret1_of _ (Heap.le_refl _) ⟨q2, rfl, rfl⟩
end Go.Av
namespace Go.Av
open Go Go.Proofs

theorem bytes_Equal_ok (l m : List UInt8) (p q : Perm) : Pur bytes_Equal [bytA l p, bytA m q] (B (decide (l = m))) := by
 intro H
 refine bytes_Equal_of ?_
 unfold W_bytes_Equal
 rw [cv_toStr, cv_toStr]
 simp only [pureK_some, bop_seql, ret1_pure]
 refine ⟨B_eq ?_, Heap.le_refl _⟩
 have : ((⟨l.toArray⟩ : ByteArray) = ⟨m.toArray⟩) ↔ l = m := by
  constructor
  · intro h; injection h with h; simpa using h
  · intro h; rw [h]
 simp only [this]

def ended (t : Tr) : Bool := decide (t.flat.tail = [] ∧ t.root.kind = 11)

def settleF : Nat → Tr → Tr
 | 0, t => t
 | f + 1, .l0 n => if n.kind = 2 then overT 1 else if n.kind = 3 then overT 2 else .l0 n
 | f + 1, .l1 n a => if n.kind = 9 then blockT (settleF f) n (settleF f a) else .l1 n a
 | f + 1, .l2 n a b =>
   if n.kind = 8 then behindT (settleF f) n (settleF f a) b 2
   else if n.kind = 5 then
    (if (settleF f a).root.kind ≠ 14 then behindT (settleF f) n (settleF f a) b 1
     else if (settleF f a).root.sign ≠ 1 then settleF f a
     else stackT (settleF f b) (settleF f a).sub)
   else if n.kind = 13 then stackT (settleF f a) b
   else if n.kind = 12 then
    (if ended (settleF f a) then endT (settleF f a).root.sign (if (settleF f a).root.sign ≠ 1 then .l0 ⟨2, emp, 0⟩ else b)
     else .l2 n (settleF f a) b)
   else if n.kind = 7 then parT n (settleF f a) (settleF f b)
   else .l2 n a b

def SettleOk : Prop := ∀ (t : Tr) (p : Perm), t.ok → t.flat.length ≤ 1000 → Pur settle_settle [rowA t.flat p] (rowA (settleF t.flat.length t).flat .no)

noncomputable def settleRow (l : List Node) : List Node :=
 if sortOn l false || sortOn l true then
  (if (settleF l.length (treeOf l)).flat.length > 200 then [] else (settleF l.length (treeOf l)).flat)
 else []

theorem sortOn_whole {l : List Node} {b : Bool} (h : sortOn l b = true) : whole l = true := by
 unfold sortOn sortOf at h
 cases hw : whole l with
 | true => rfl
 | false => rw [hw] at h; simp [sOn] at h; cases b <;> simp at h

theorem settle_Settle_ok (hset : SettleOk) (l : List Node) (p : Perm) (hl : small l.length) (hn : names l) : Pur settle_Settle [rowA l p] (rowA (settleRow l) .no) := by
 refine Pur.weaken (φ := fun r => r = rowA (settleRow l) .no ∨ (settleRow l = [] ∧ r = .lst 0 [] .exact)) (fun H => ?_) ?_
 rotate_left
 · rintro r (rfl | ⟨h, rfl⟩)
   · exact Weaker.refl _
   · rw [h]; exact Weaker.empty
 refine settle_Settle_of ?_
 unfold W_settle_Settle
 have body : ∀ (hs : sortOn l false = true ∨ sortOn l true = true), ACalls PP gΓ settle_settle [rowA l p] H fun x14 H15 =>
  pureK (lnl x14) fun x16 => pureK (bop .plain .gtr x16 (I 200)) fun x17 =>
  condK x17 (ret1 H15 (fun r H' => (r = rowA (settleRow l) .no ∨ (settleRow l = [] ∧ r = .lst 0 [] .exact)) ∧ H' = H) (.lst 0 [] .exact))
   (pureK (bsl 3 (.agg [.sc (.int .i64 0), S emp, .sc (.int .i64 0)]) 0 []) fun x18 => appK 3 x18 x14 H15 fun x19 H20 => ret1 H20 (fun r H' => (r = rowA (settleRow l) .no ∨ (settleRow l = [] ∧ r = .lst 0 [] .exact)) ∧ H' = H) x19) := by
  intro hs
  have hw : whole l = true := hs.elim sortOn_whole sortOn_whole
  obtain ⟨h1, h2⟩ := treeOf_spec hw
  have hlen : l.length ≤ 200 := by
   unfold whole at hw
   simp only [Bool.and_eq_true, decide_eq_true_eq] at hw
   exact hw.1.2
  have key := hset (treeOf l) p h1 (by rw [← h2]; omega)
  rw [← h2] at key
  have hc : (sortOn l false || sortOn l true) = true := by simpa using hs
  refine key.run ?_
  simp only [lnl_lst, List.length_map, pureK_some, bop_gtr, condK_B, decide_eq_true_eq, decide_eq_false_iff_not]
  refine ⟨fun h3 => ret1_of H (Heap.le_refl _) ⟨.inr ⟨?_, rfl⟩, rfl⟩, fun h3 => ?_⟩
  · simp only [settleRow, if_pos hc]; rw [if_pos (by omega)]
  · have e2 : bsl 3 (.agg [I 0, S emp, I 0]) 0 [] = some (.lst 3 [] .exact) := rfl
    rw [e2]
    simp only [pureK_some]
    left
    unfold appK1
    have hap : ∀ o : List Node, appended 3 (rowA o .no) = some (o.map nd) := by intro o; simp [appended]
    simp only [hap]
    refine ⟨.inl trivial, by simp only [List.length_map, List.length_nil, maxApp]; omega, .inl ?_⟩
    refine ret1_of H (Heap.le_refl _) ⟨.inl ?_, rfl⟩
    simp only [settleRow, if_pos hc]; rw [if_neg (by omega)]; rfl
 refine (sort_On_ok l p false hl hn).run ?_
 simp only [unE_not, pureK_some, condK_B]
 refine ⟨fun h1 => ?_, fun h1 => body (.inl (by simpa using h1))⟩
 refine (sort_On_ok l p true hl hn).run ?_
 simp only [unE_not, pureK_some, condK_B]
 refine ⟨fun h2 => ret1_of H (Heap.le_refl _) ⟨.inr ⟨?_, rfl⟩, rfl⟩, fun h2 => body (.inr (by simpa using h2))⟩
 have e1 : sortOn l false = false := by simpa using h1
 have e2 : sortOn l true = false := by simpa using h2
 simp [settleRow, e1, e2]

noncomputable def settled (l : List Node) : Bool := decide (0 < l.length) && decide (settleRow l = l)

theorem settleRow_len (l : List Node) : (settleRow l).length ≤ 200 := by
 unfold settleRow; split
 · split
   · simp
   · omega
 · simp

theorem settle_Settled_ok (hset : SettleOk) (l : List Node) (p : Perm) (hl : small l.length) (hn : names l) : Pur settle_Settled [rowA l p] (B (settled l)) := by
 intro H
 refine settle_Settled_of ?_
 unfold W_settle_Settled
 simp only [lnl_lst, List.length_map, pureK_some, bop_gtr, condK_B, decide_eq_true_eq, decide_eq_false_iff_not]
 refine ⟨fun h => ?_, fun h => ?_⟩
 · refine (settle_Settle_ok hset l p hl hn).run ?_
   have := settleRow_len l
   refine (row_Same_ok _ _ _ _ (by omega)).run ?_
   simp only [ret1_pure]
   refine ⟨B_eq ?_, Heap.le_refl _⟩
   have h' : 0 < l.length := by omega
   simp [settled, h']
 · simp only [ret1_pure]
   refine ⟨B_eq ?_, Heap.le_refl _⟩
   have h' : ¬ 0 < l.length := by omega
   simp only [settled, decide_eq_false h', Bool.false_and]

noncomputable def rightS (s : St) : Bool :=
 sortOn s.l false && (settled s.l && (decide (s.l.length ≤ 60) && ((decide (0 ≤ s.pl) && decide (s.pl ≤ 255)) && ((decide (0 ≤ s.how) && decide (s.how ≤ 5)) && ((decide (0 ≤ s.n) && decide (s.n ≤ 60)) && (decide (s.a.length ≤ 60) && !(s.a.any fun x => !right ⟨1, x, 0⟩)))))))

theorem enters_R1 : enters PP code_Right_1 = true := by kernel_rfl
theorem enters_R2 : enters PP code_Right_2 = true := by kernel_rfl

theorem code_Right_ok (hset : SettleOk) (s : St) (p q : Perm) (hl : small s.l.length) (hn : names s.l) (ha : small s.a.length) (hna : ∀ x, x ∈ s.a → x.size ≤ 4611686018427387904) : Pur code_Right [stA s p q] (B (rightS s)) := by
 intro H
 refine code_Right_of ?_
 unfold W_code_Right
 refine allocK_st fun o1 ho1 => ?_
 have hle : H ≤ H.upd o1 (.cells (stC s p q)) := by simp [ho1]
 simp only [fa_ptr, pureK_some, ld_upd, cutE_one, Nat.zero_add, get0]
 refine (sort_On_ok _ _ _ hl hn).run ?_
 simp only [condK_B]
 refine ⟨fun h1 => ?_, fun h1 => ret1_of H hle ⟨B_eq (by simp [rightS, h1]), rfl⟩⟩
 simp only [fa_ptr, pureK_some, ld_upd, cutE_one, Nat.zero_add, get0]
 refine (settle_Settled_ok hset _ _ hl hn).run ?_
 simp only [condK_B]
 refine ⟨fun h2 => ?_, fun h2 => ret1_of H hle ⟨B_eq (by simp [rightS, h2]), rfl⟩⟩
 simp only [fa_ptr, pureK_some, ld_upd, cutE_one, Nat.zero_add, get0, get1, lnl_lst, List.length_map, bop_leq, condK_B, decide_eq_true_eq, decide_eq_false_iff_not]
 refine ⟨fun h3 => ?_, fun h3 => ret1_of H hle ⟨B_eq (by simp [rightS, show ¬ s.l.length ≤ 60 by omega]), rfl⟩⟩
 have h3' : s.l.length ≤ 60 := by omega
 refine callK_pur (E := E_code_Right) (args := [I s.pl, I 255]) (cap := []) rfl rfl enters_R2 (code_Right_2_ok s.pl 255) ?_
 simp only [condK_B]
 refine ⟨fun h4 => ?_, fun h4 => ret1_of H hle ⟨B_eq (by simp only [rightS, h4, Bool.false_and, Bool.and_false]), rfl⟩⟩
 simp only [fa_ptr, pureK_some, ld_upd, cutE_one, Nat.zero_add, Nat.reduceAdd, get2]
 refine callK_pur (E := E_code_Right) (args := [I s.how, I 5]) (cap := []) rfl rfl enters_R2 (code_Right_2_ok s.how 5) ?_
 simp only [condK_B]
 refine ⟨fun h5 => ?_, fun h5 => ret1_of H hle ⟨B_eq (by simp only [rightS, h5, Bool.false_and, Bool.and_false]), rfl⟩⟩
 simp only [fa_ptr, pureK_some, ld_upd, cutE_one, Nat.zero_add, get3]
 refine callK_pur (E := E_code_Right) (args := [I s.n, I 60]) (cap := []) rfl rfl enters_R2 (code_Right_2_ok s.n 60) ?_
 simp only [condK_B]
 refine ⟨fun h6 => ?_, fun h6 => ret1_of H hle ⟨B_eq (by simp only [rightS, h6, Bool.false_and, Bool.and_false]), rfl⟩⟩
 simp only [fa_ptr, pureK_some, ld_upd, cutE_one, Nat.zero_add, get4, lnl_lst, List.length_map, bop_leq, condK_B, decide_eq_true_eq, decide_eq_false_iff_not]
 refine ⟨fun h7 => ?_, fun h7 => ret1_of H hle ⟨B_eq (by simp [rightS, show ¬ s.a.length ≤ 60 by omega]), rfl⟩⟩
 have h7' : s.a.length ≤ 60 := by omega
 refine (slices_ContainsFunc_string_ok s.a q code_Right_1 [] (fun x => !right ⟨1, x, 0⟩) ha enters_R1 (fun x hx => code_Right_1_ok x (hna x hx))).run ?_
 simp only [unE_not, pureK_some]
 refine ret1_of H hle ⟨B_eq ?_, rfl⟩
 simp only [rightS, h1, h2, h4, h5, h6, decide_eq_true h3', decide_eq_true h7', Bool.true_and]

end Go.Av
namespace Go.Av
open Go Go.Proofs

def Tr.len (t : Tr) : Nat := t.flat.length
theorem len_l0 (n : Node) : (Tr.l0 n).len = 1 := rfl
theorem len_l1 (n : Node) (a : Tr) : (Tr.l1 n a).len = 1 + a.len := by simp [Tr.len, Tr.flat]; omega
theorem len_l2 (n : Node) (a b : Tr) : (Tr.l2 n a b).len = 1 + a.len + b.len := by simp [Tr.len, Tr.flat]; omega
theorem len_pos (t : Tr) : 1 ≤ t.len := t.flat_pos

theorem sub_of_end {t : Tr} (h : t.ok) (hk : t.root.kind = 14) : t.sub.ok ∧ t.len = 1 + t.sub.len := by
 obtain ⟨h1, h2, h3⟩ := t.end_flat h hk
 refine ⟨h2, ?_⟩
 have := congrArg List.length h1
 simp only [List.length_cons] at this
 unfold Tr.len; omega

theorem overT_ok (s : Int) : (overT s).ok := by show arity 11 = 0; rfl
theorem endT_ok (s : Int) {c : Tr} (h : c.ok) : (endT s c).ok := ⟨rfl, h⟩
theorem stackT_ok {a c : Tr} (ha : a.ok) (hc : c.ok) : (stackT a c).ok ∧ (stackT a c).len ≤ 1 + a.len + c.len := by
 unfold stackT
 split
 · exact ⟨⟨rfl, ha, hc⟩, by rw [len_l2]; omega⟩
 · rename_i h
   have hk : a.root.kind = 14 := by simpa using h
   obtain ⟨h1, h2⟩ := sub_of_end ha hk
   refine ⟨endT_ok _ ⟨rfl, h1, hc⟩, ?_⟩
   unfold endT; rw [len_l1, len_l2]; omega
theorem parT_ok {n : Node} {a b : Tr} (hn : arity n.kind = 2) (ha : a.ok) (hb : b.ok) : (parT n a b).ok ∧ (parT n a b).len ≤ 1 + a.len + b.len := by
 have h1 := len_pos a
 have h2 := len_pos b
 unfold parT
 split
 · exact ⟨overT_ok _, by unfold overT; rw [len_l0]; omega⟩
 · split
   · rename_i h
     obtain ⟨g1, g2⟩ := sub_of_end ha h.1
     obtain ⟨g3, g4⟩ := sub_of_end hb h.2
     exact ⟨endT_ok _ ⟨hn, g1, g3⟩, by unfold endT; rw [len_l1, len_l2]; omega⟩
   · exact ⟨⟨hn, ha, hb⟩, by rw [len_l2]; omega⟩

theorem settleF_ok : ∀ (f : Nat) (t : Tr), t.ok → (settleF f t).ok ∧ (settleF f t).len ≤ t.len := by
 intro f
 induction f with
 | zero => intro t h; exact ⟨h, Nat.le_refl _⟩
 | succ f ih =>
   intro t h
   have beh : ∀ (n : Node) (a b : Tr) (s : Int), arity n.kind = 2 → a.ok → b.ok → (behindT (settleF f) n a b s).ok ∧ (behindT (settleF f) n a b s).len ≤ 1 + a.len + b.len := by
    intro n a b s hn ha hb
    unfold behindT
    split
    · exact ⟨(ih b hb).1, by have := (ih b hb).2; omega⟩
    · split
      · exact ⟨ha, by omega⟩
      · exact ⟨⟨hn, ha, hb⟩, by rw [len_l2]; omega⟩
   cases t with
   | l0 n =>
     unfold settleF
     split
     · exact ⟨overT_ok _, Nat.le_refl _⟩
     · split
       · exact ⟨overT_ok _, Nat.le_refl _⟩
       · exact ⟨h, Nat.le_refl _⟩
   | l1 n a =>
     obtain ⟨h1, h2⟩ := ih a h.2
     unfold settleF
     rw [len_l1]
     split
     · unfold blockT
       split
       · exact ⟨overT_ok _, by unfold overT; rw [len_l0]; omega⟩
       · split
         · rename_i e
           obtain ⟨g1, g2⟩ := sub_of_end h1 (by rw [e])
           obtain ⟨g3, g4⟩ := ih _ g1
           exact ⟨g3, by omega⟩
         · exact ⟨⟨h.1, h1⟩, by rw [len_l1]; omega⟩
     · exact ⟨h, by rw [len_l1]; omega⟩
   | l2 n a b =>
     obtain ⟨hn, ha, hb⟩ := h
     obtain ⟨a1, a2⟩ := ih a ha
     obtain ⟨b1, b2⟩ := ih b hb
     unfold settleF
     rw [len_l2]
     split
     · have := beh n (settleF f a) b 2 hn a1 hb
       exact ⟨this.1, by omega⟩
     · split
       · split
         · have := beh n (settleF f a) b 1 hn a1 hb
           exact ⟨this.1, by omega⟩
         · split
           · exact ⟨a1, by omega⟩
           · rename_i e _
             obtain ⟨g1, g2⟩ := sub_of_end a1 (by simpa using e)
             have := stackT_ok b1 g1
             exact ⟨this.1, by omega⟩
       · split
         · have := stackT_ok a1 hb
           exact ⟨this.1, by omega⟩
         · split
           · split
             · split
               · exact ⟨endT_ok _ (by show arity 2 = 0; rfl), by unfold endT; rw [len_l1, len_l0]; have := len_pos b; have := len_pos a; omega⟩
               · exact ⟨endT_ok _ hb, by unfold endT; rw [len_l1]; have := len_pos a; omega⟩
             · exact ⟨⟨hn, a1, hb⟩, by rw [len_l2]; omega⟩
           · split
             · have := parT_ok hn a1 b1
               exact ⟨this.1, by omega⟩
             · exact ⟨⟨hn, ha, hb⟩, by rw [len_l2]; omega⟩

theorem flat_inj : ∀ (t u : Tr) (r s : List Node), t.ok → u.ok → t.flat ++ r = u.flat ++ s → t = u ∧ r = s := by
 intro t
 induction t with
 | l0 n =>
   intro u r s ht hu h
   cases u with
   | l0 m => simp [Tr.flat] at h; exact ⟨by rw [h.1], h.2⟩
   | l1 m b =>
     have h1 : arity n.kind = 0 := ht
     have h2 : arity m.kind = 1 := hu.1
     simp [Tr.flat] at h; rw [h.1, h2] at h1; cases h1
   | l2 m b c =>
     have h1 : arity n.kind = 0 := ht
     have h2 : arity m.kind = 2 := hu.1
     simp [Tr.flat] at h; rw [h.1, h2] at h1; cases h1
 | l1 n a iha =>
   intro u r s ht hu h
   have h1 : arity n.kind = 1 := ht.1
   cases u with
   | l0 m =>
     have h2 : arity m.kind = 0 := hu
     simp [Tr.flat] at h; rw [h.1, h2] at h1; cases h1
   | l1 m b =>
     simp [Tr.flat] at h
     obtain ⟨e1, e2⟩ := iha b r s ht.2 hu.2 h.2
     exact ⟨by rw [h.1, e1], e2⟩
   | l2 m b c =>
     have h2 : arity m.kind = 2 := hu.1
     simp [Tr.flat] at h; rw [h.1, h2] at h1; cases h1
 | l2 n a b iha ihb =>
   intro u r s ht hu h
   have h1 : arity n.kind = 2 := ht.1
   cases u with
   | l0 m =>
     have h2 : arity m.kind = 0 := hu
     simp [Tr.flat] at h; rw [h.1, h2] at h1; cases h1
   | l1 m c =>
     have h2 : arity m.kind = 1 := hu.1
     simp [Tr.flat] at h; rw [h.1, h2] at h1; cases h1
   | l2 m c d =>
     simp [Tr.flat] at h
     obtain ⟨e1, e2⟩ := iha c _ _ ht.2.1 hu.2.1 h.2
     obtain ⟨e3, e4⟩ := ihb d r s ht.2.2 hu.2.2 e2
     exact ⟨by rw [h.1, e1, e3], e4⟩
end Go.Av
namespace Go.Av
open Go Go.Proofs

abbrev Rd (α : Type) := α × List UInt8 × Bool
def rdNext (bs : List UInt8) (bad : Bool) : Rd Int := (headI bs, bs.tail, bad || bs.isEmpty)
def rdName (bs : List UInt8) (bad : Bool) : Rd ByteArray := (⟨(bs.tail.take (nameN bs)).toArray⟩, bs.tail.drop (nameN bs), bad || bs.isEmpty)
def rdNode (bs : List UInt8) (bad : Bool) : Rd Node :=
 if (rdNext bs bad).1 = 1 then
  (⟨1, (rdName (rdNext bs bad).2.1 (rdNext bs bad).2.2).1, 0⟩, (rdName (rdNext bs bad).2.1 (rdNext bs bad).2.2).2)
 else if (rdNext bs bad).1 = 11 ∨ (rdNext bs bad).1 = 14 then
  (⟨(rdNext bs bad).1, emp, (rdNext (rdNext bs bad).2.1 (rdNext bs bad).2.2).1⟩, (rdNext (rdNext bs bad).2.1 (rdNext bs bad).2.2).2)
 else (⟨(rdNext bs bad).1, emp, 0⟩, (rdNext bs bad).2)
def rdMany {α : Type} (f : List UInt8 → Bool → Rd α) : Nat → List UInt8 → Bool → Rd (List α)
 | 0, bs, bad => ([], bs, bad)
 | _ + 1, bs, true => ([], bs, true)
 | n + 1, bs, false => ((f bs false).1 :: (rdMany f n (f bs false).2.1 (f bs false).2.2).1, (rdMany f n (f bs false).2.1 (f bs false).2.2).2)
def rdState (bs : List UInt8) : Rd St :=
 let a := rdNext bs false
 let l := rdMany rdNode a.1.toNat a.2.1 a.2.2
 let p := rdNext l.2.1 l.2.2
 let h := rdNext p.2.1 p.2.2
 let n := rdNext h.2.1 h.2.2
 let k := rdNext n.2.1 n.2.2
 let t := rdMany rdName k.1.toNat k.2.1 k.2.2
 (⟨l.1, p.1, h.1, n.1, t.1⟩, t.2)

theorem headI_byteOf {k : Int} (h0 : 0 ≤ k) (h : k < 256) (r : List UInt8) : headI (byteOf k :: r) = k := by
 show ((byteOf k).toNat : Int) = k
 unfold byteOf
 rw [UInt8.toNat_ofNat', Int.emod_eq_of_lt h0 h]; omega

theorem rdNext_cons {k : Int} (h0 : 0 ≤ k) (h : k < 256) (r : List UInt8) : rdNext (byteOf k :: r) false = (k, r, false) := by
 simp [rdNext, headI_byteOf h0 h]

theorem rdName_cons {s : ByteArray} (h : s.size < 256) (r : List UInt8) : rdName (nameB s ++ r) false = (s, r, false) := by
 have hl : s.data.toList.length = s.size := by simp
 have hn : nameN (nameB s ++ r) = s.data.toList.length := by
  unfold nameN nameB
  rw [List.cons_append, headI_byteOf (by omega) (by omega)]
  simp
 unfold rdName
 rw [hn]
 unfold nameB
 simp

def nodeFit (n : Node) : Prop := 0 ≤ n.kind ∧ n.kind < 256 ∧ (if n.kind = 1 then n.name.size < 256 ∧ n.sign = 0 else if n.kind = 11 ∨ n.kind = 14 then n.name = emp ∧ 0 ≤ n.sign ∧ n.sign < 256 else n.name = emp ∧ n.sign = 0)

theorem rdNode_cons {n : Node} (h : nodeFit n) (r : List UInt8) : rdNode (nodeB n ++ r) false = (n, r, false) := by
 obtain ⟨h0, h1, h2⟩ := h
 obtain ⟨k, s, g⟩ := n
 simp only at h0 h1 h2
 unfold rdNode nodeB
 simp only [List.cons_append]
 rw [rdNext_cons h0 h1]
 simp only
 by_cases e : k = 1
 · rw [if_pos e] at h2
   rw [if_pos e, if_pos e, rdName_cons h2.1]
   simp [e, h2.2]
 · rw [if_neg e] at h2
   rw [if_neg e, if_neg e]
   by_cases e2 : k = 11 ∨ k = 14
   · rw [if_pos e2] at h2
     rw [if_pos e2, if_pos e2, List.cons_append, rdNext_cons h2.2.1 h2.2.2]
     simp [h2.1]
   · rw [if_neg e2] at h2
     rw [if_neg e2, if_neg e2]
     simp [h2.1, h2.2]

theorem rdMany_flat {α : Type} {f : List UInt8 → Bool → Rd α} {g : α → List UInt8} (l : List α) (h : ∀ x, x ∈ l → ∀ r, f (g x ++ r) false = (x, r, false)) (r : List UInt8) : rdMany f l.length (l.flatMap g ++ r) false = (l, r, false) := by
 induction l with
 | nil => rfl
 | cons x l ih =>
   simp only [List.length_cons, rdMany, List.flatMap_cons, List.append_assoc]
   rw [h x (by simp)]
   simp only
   rw [ih (fun y hy => h y (by simp [hy]))]

def stFit (s : St) : Prop := s.l.length < 256 ∧ (∀ n, n ∈ s.l → nodeFit n) ∧ (0 ≤ s.pl ∧ s.pl < 256) ∧ (0 ≤ s.how ∧ s.how < 256) ∧ (0 ≤ s.n ∧ s.n < 256) ∧ s.a.length < 256 ∧ ∀ x, x ∈ s.a → x.size < 256

theorem rdState_enc {s : St} (h : stFit s) (r : List UInt8) : rdState (enc s ++ r) = (s, r, false) := by
 obtain ⟨h1, h2, h3, h4, h5, h6, h7⟩ := h
 have e : enc s ++ r = byteOf s.l.length :: (s.l.flatMap nodeB ++ (byteOf s.pl :: byteOf s.how :: byteOf s.n :: byteOf s.a.length :: (s.a.flatMap nameB ++ r))) := by simp [enc]
 rw [e]
 unfold rdState
 rw [rdNext_cons (by omega) (by omega)]
 simp only [Int.toNat_natCast]
 rw [rdMany_flat s.l (fun x hx r => rdNode_cons (h2 x hx) r)]
 simp only
 rw [rdNext_cons h3.1 h3.2]
 simp only
 rw [rdNext_cons h4.1 h4.2]
 simp only
 rw [rdNext_cons h5.1 h5.2]
 simp only
 rw [rdNext_cons (by omega) (by omega)]
 simp only [Int.toNat_natCast]
 rw [rdMany_flat s.a (fun x hx r => rdName_cons (h7 x hx) r)]

noncomputable def decode (b : List UInt8) : Option St :=
 if rightS (rdState b).1 = true ∧ (rdState b).2.2 = false ∧ enc (rdState b).1 = b then some (rdState b).1 else none

theorem right_fit {n : Node} (h : right n = true) : nodeFit n := by
 unfold right at h
 unfold nodeFit
 split at h
 · rename_i e
   simp only [Bool.and_eq_true, decide_eq_true_eq] at h
   have hn := h.2
   unfold named at hn
   simp only [Bool.and_eq_true, decide_eq_true_eq] at hn
   rw [if_pos e]
   exact ⟨by omega, by omega, by omega, h.1⟩
 · rename_i e
   split at h
   · rename_i e2
     simp only [Bool.and_eq_true, decide_eq_true_eq] at h
     rw [if_neg e, if_pos e2]
     exact ⟨by omega, by omega, h.1, by omega, by omega⟩
   · rename_i e2
     simp only [Bool.and_eq_true, decide_eq_true_eq] at h
     rw [if_neg e, if_neg e2]
     have ha := h.2
     unfold arity at ha
     exact ⟨by omega, by omega, h.1⟩

theorem rightS_fit {s : St} (h : rightS s = true) : stFit s := by
 unfold rightS at h
 simp only [Bool.and_eq_true, decide_eq_true_eq, Bool.not_eq_true'] at h
 obtain ⟨h1, _, h3, h4, h5, h6, h7, h8⟩ := h
 have hw := sortOn_whole h1
 unfold whole at hw
 simp only [Bool.and_eq_true, decide_eq_true_eq, List.all_eq_true] at hw
 refine ⟨by omega, fun n hn => right_fit (hw.2.1 n hn), by omega, by omega, by omega, by omega, fun x hx => ?_⟩
 have := List.any_eq_false.1 h8 x hx
 have hr : right ⟨1, x, 0⟩ = true := by simpa using this
 have := (right_fit hr).2.2
 simp at this
 exact this

theorem decode_enc {s : St} (h : rightS s = true) : decode (enc s) = some s := by
 have := rdState_enc (rightS_fit h) []
 rw [List.append_nil] at this
 unfold decode
 rw [this, if_pos ⟨h, rfl, rfl⟩]

theorem decode_spec {b : List UInt8} {s : St} (h : decode b = some s) : rightS s = true ∧ enc s = b := by
 unfold decode at h
 split at h
 · rename_i h2
   injection h with h; subst h
   exact ⟨h2.1, h2.2.2⟩
 · cases h

end Go.Av
namespace Go.Av
open Go Go.Proofs

theorem flatMap_le {α : Type} (l : List α) (f : α → List UInt8) (k : Nat) (h : ∀ x, x ∈ l → (f x).length ≤ k) : (l.flatMap f).length ≤ k * l.length := by
 induction l with
 | nil => simp
 | cons x l ih =>
   have h1 := h x (by simp)
   have h2 := ih (fun y hy => h y (by simp [hy]))
   simp only [List.flatMap_cons, List.length_append, List.length_cons, Nat.mul_add, Nat.mul_one]
   omega

theorem right_name {n : Node} (h : right n = true) (hk : n.kind = 1) : n.name.size ≤ 8 := by
 unfold right at h
 rw [if_pos hk] at h
 unfold named at h
 simp only [Bool.and_eq_true, decide_eq_true_eq] at h
 exact h.2.1.1.2

theorem nodeB_le {n : Node} (h : right n = true) : (nodeB n).length ≤ 10 := by
 unfold nodeB
 by_cases e : n.kind = 1
 · have := right_name h e
   rw [if_pos e, List.length_cons, nameB_length]; omega
 · rw [if_neg e]
   split <;> simp

theorem rightS_parts {s : St} (h : rightS s = true) : (∀ n, n ∈ s.l → right n = true) ∧ s.l.length ≤ 60 ∧ s.a.length ≤ 60 ∧ (∀ x, x ∈ s.a → x.size ≤ 8) := by
 unfold rightS at h
 simp only [Bool.and_eq_true, decide_eq_true_eq, Bool.not_eq_true'] at h
 obtain ⟨h1, _, h3, h4, h5, h6, h7, h8⟩ := h
 have hw := sortOn_whole h1
 unfold whole at hw
 simp only [Bool.and_eq_true, decide_eq_true_eq, List.all_eq_true] at hw
 refine ⟨hw.2.1, h3, h7, fun x hx => ?_⟩
 have := List.any_eq_false.1 h8 x hx
 have hr : right ⟨1, x, 0⟩ = true := by simpa using this
 exact right_name hr rfl

theorem enc_len {s : St} (h : rightS s = true) : (enc s).length ≤ 5 + 10 * s.l.length + 9 * s.a.length := by
 obtain ⟨h1, _, _, h2⟩ := rightS_parts h
 have e1 := flatMap_le s.l nodeB 10 (fun x hx => nodeB_le (h1 x hx))
 have e2 := flatMap_le s.a nameB 9 (fun x hx => by have := h2 x hx; rw [nameB_length]; omega)
 simp only [enc, List.length_append, List.length_cons, List.length_nil]
 omega

theorem treeOf_flat {t : Tr} (h : t.ok) : treeOf t.flat = t := by
 have hex : ∃ u : Tr, u.ok ∧ t.flat = u.flat := ⟨t, h, rfl⟩
 unfold treeOf
 rw [dif_pos hex]
 have := hex.choose_spec
 have key := flat_inj t _ [] [] h this.1 (by simpa using this.2)
 exact key.1.symm

def zeroSt : St := ⟨[], 0, 0, 0, []⟩
end Go.Av
namespace Go.Av
open Go Go.Proofs

theorem behindT_congr {r r' : Tr → Tr} {n : Node} {a b : Tr} {s : Int} (h : r b = r' b) : behindT r n a b s = behindT r' n a b s := by
 unfold behindT; rw [h]

theorem settleF_fuel : ∀ (N : Nat) (t : Tr), t.ok → t.len ≤ N → ∀ f g, t.len ≤ f → t.len ≤ g → settleF f t = settleF g t := by
 intro N
 induction N with
 | zero => intro t _ h; have := len_pos t; omega
 | succ N ih =>
   intro t ht hN f g hf hg
   have hp := len_pos t
   obtain ⟨f, rfl⟩ : ∃ k, f = k + 1 := ⟨f - 1, by omega⟩
   obtain ⟨g, rfl⟩ : ∃ k, g = k + 1 := ⟨g - 1, by omega⟩
   cases t with
   | l0 n => rfl
   | l1 n a =>
     rw [len_l1] at hN hf hg
     have e := ih a ht.2 (by omega) f g (by omega) (by omega)
     obtain ⟨h1, h2⟩ := settleF_ok g a ht.2
     unfold settleF
     rw [e]
     split
     · unfold blockT
       split
       · rfl
       · split
         · rename_i e14
           obtain ⟨g1, g2⟩ := sub_of_end h1 (by rw [e14])
           exact ih _ g1 (by omega) f g (by omega) (by omega)
         · rfl
     · rfl
   | l2 n a b =>
     rw [len_l2] at hN hf hg
     obtain ⟨_, ha, hb⟩ := ht
     have ea := ih a ha (by omega) f g (by omega) (by omega)
     have eb := ih b hb (by omega) f g (by omega) (by omega)
     unfold settleF
     rw [ea, eb]
     rw [behindT_congr (r' := settleF g) eb, behindT_congr (r' := settleF g) eb]

def settleT (t : Tr) : Tr := settleF t.len t

theorem settleF_eq {t : Tr} (h : t.ok) {f : Nat} (hf : t.len ≤ f) : settleF f t = settleT t := settleF_fuel f t h hf f t.len hf (Nat.le_refl _)
theorem settleT_ok {t : Tr} (h : t.ok) : (settleT t).ok ∧ (settleT t).len ≤ t.len := settleF_ok _ t h

end Go.Av
namespace Go.Av
open Go Go.Proofs

def KidsV (H H' : Heap) (rows : List AV) (v : AV) : Prop :=
 (rows = [] ∧ v = .lst 0 [] .exact ∧ H' = H) ∨ ∃ o cap zs, H o = none ∧ 0 < rows.length ∧ v = .ms o 0 rows.length cap ∧ rows.length + zs.length = cap ∧ H' = H.upd o (.cells (rows ++ zs))

theorem KidsV.le {H H' : Heap} {rows : List AV} {v : AV} (h : KidsV H H' rows v) : H ≤ H' := by
 rcases h with ⟨_, _, rfl⟩ | ⟨o, cap, zs, h1, _, _, _, rfl⟩
 · exact Heap.le_refl _
 · simp [h1]

theorem kidsV_app {H H' : Heap} {rows : List AV} {v y x : AV} {K : AV → Heap → Prop} (h : KidsV H H' rows v) (hy : appended 1 y = some [x]) (hx : x.cells = [x]) (hl : rows.length + 1 ≤ maxApp)
 (k : ∀ v' H1 H2, H1 ≤ H2 → KidsV H H1 (rows ++ [x]) v' → K v' H2) : appK 1 v y H' K := by
 right
 unfold appM
 rcases h with ⟨rfl, rfl, rfl⟩ | ⟨o, cap, zs, h1, h2, rfl, h3, rfl⟩
 · simp only [hy]
   refine ⟨.inr trivial, by simp, hl, fun o cap zs ho hc hz => ?_⟩
   simp only [List.length_nil, List.length_singleton, Nat.zero_add, Nat.mul_one] at hc hz
   refine k _ _ _ (Heap.le_refl _) (.inr ⟨o, cap, zs, ho, by simp, by simp, by simp; omega, ?_⟩)
   simp [hx]
 · have hget : (H.upd o (.cells (rows ++ zs))) o = some (.cells (rows ++ zs)) := Heap.upd_same _ _ _
   simp only [hy, hget]
   refine ⟨by simp; omega, by omega, by simp, by simpa using hl, fun hc => ?_, fun hc o2 cap2 zs2 ho2 hc2 hz2 => ?_⟩
   · simp only [List.length_singleton] at hc
     have : 0 < zs.length := by omega
     refine k _ _ _ (Heap.le_refl _) (.inr ⟨o, cap, zs.drop 1, h1, by simp, by simp, by simp; omega, ?_⟩)
     simp only [List.flatMap_cons, List.flatMap_nil, List.append_nil, hx, Nat.zero_add, Nat.mul_one, Heap.upd_upd', splice]
     congr 2
     rw [List.take_left, List.length_singleton, List.drop_append]
     simp
   · simp only [List.length_singleton, Nat.mul_one] at hc hc2 hz2
     simp only [upd_none_iff] at ho2
     have e : (((rows ++ zs).drop 0).take (rows.length * 1) ++ ([x] : List AV).flatMap AV.cells ++ zs2) = rows ++ [x] ++ zs2 := by simp [hx]
     rw [e]
     have hle : H.upd o2 (.cells (rows ++ [x] ++ zs2)) ≤ (H.upd o (.cells (rows ++ zs))).upd o2 (.cells (rows ++ [x] ++ zs2)) := Heap.upd_le_upd (by simp [h1])
     exact k (.ms o2 0 (rows.length + 1) cap2) _ _ hle (.inr ⟨o2, cap2, zs2, ho2.2, by simp, by simp, by simp; omega, rfl⟩)

theorem row_Kids_ms (t : Tr) (p : Perm) (ht : t.ok) (hl : t.flat.length ≤ 1000000) (H : Heap) : ACalls PP gΓ row_Kids [rowA t.flat p] H (fun r H' => KidsV H H' ((t.kids.map Tr.flat).map fun l => rowA l .no) r) := by
 refine row_Kids_of ?_
 unfold W_row_Kids
 refine (row_Size_ok t.flat p (by omega)).run ?_
 have hs : size t.flat = t.flat.length := by simpa using size_flat ht []
 have hpos := t.flat_pos
 have hk2 := t.kids_le
 rw [hs]
 simp only [bop_eql, pureK_some, condK_B, decide_eq_true_eq, decide_eq_false_iff_not]
 refine ⟨fun h => by omega, fun _ => ?_⟩
 rw [ias_root]
 simp only [pureK_some, fa_cp, ld_cp, cutE_one, Nat.zero_add, get0]
 refine (row_Arity_ok _).run ?_
 rw [Tr.arity_root ht]
 refine ⟨fun vs H' n => ∃ (k : Nat) (v : AV), k ≤ t.kids.length ∧ vs = [rowA t.flat p, v, I (1 + ((t.kids.take k).flatMap Tr.flat).length), I t.kids.length, I k] ∧ n = t.kids.length - k ∧ KidsV H H' (((t.kids.take k).map Tr.flat).map fun l => rowA l .no) v,
  ⟨_, H, Heap.le_refl _, 0, _, Nat.zero_le _, rfl, rfl, .inl ⟨rfl, rfl, rfl⟩⟩, ?_⟩
 rintro vs H' n ⟨k, v, hk, rfl, rfl, hb⟩
 simp only [nth_zero, nth_succ, bop_lss, pureK_some, condK_B, decide_eq_true_eq, decide_eq_false_iff_not]
 refine ⟨fun h => ?_, fun h => ?_⟩
 · have hk' : k < t.kids.length := by omega
   obtain ⟨post, hpost⟩ := Tr.flat_split hk'
   have hkok := Tr.kids_ok ht _ (List.getElem_mem hk')
   have htk : t.kids.take (k + 1) = t.kids.take k ++ [t.kids[k]] := List.take_succ_eq_append_getElem hk'
   generalize hx : t.kids[k] = x at hpost hkok htk
   generalize hpre : (t.kids.take k).flatMap Tr.flat = pre at hpost ⊢
   have hat : (1 : Int) + pre.length = ((([t.root] ++ pre).length : Nat) : Int) := by simp; omega
   have hxl := x.flat_pos
   have hlen := congrArg List.length hpost
   simp only [List.length_append, List.length_cons, List.length_nil] at hlen
   obtain ⟨q1, e1⟩ := sll_row (l := t.flat) (p := p) (a := ([t.root] ++ pre).length) (by simp; omega)
   rw [hat, e1]
   have hdrop : t.flat.drop ([t.root] ++ pre).length = x.flat ++ post := by rw [hpost, List.append_assoc, List.drop_left]
   rw [hdrop]
   simp only [pureK_some]
   refine (row_Size_ok _ q1 (by simp; omega)).run ?_
   rw [size_flat hkok]
   rw [bop_add (by simp; omega) (by simp; omega)]
   simp only [pureK_some]
   have hsum : ((([t.root] ++ pre).length : Nat) : Int) + x.flat.length = ((([t.root] ++ pre).length + x.flat.length : Nat) : Int) := by simp
   rw [hsum]
   obtain ⟨q2, e2⟩ := sll_row2 (l := t.flat) (p := p) (a := ([t.root] ++ pre).length) (b := ([t.root] ++ pre).length + x.flat.length) (by omega) (by simp; omega)
   rw [e2, hpost, take_drop_kid]
   simp only [pureK_some]
   refine (Clone_ok x.flat q2 (by intro e; rw [e] at hxl; simp at hxl) (by omega)).run ?_
   have e3 : bsl 1 (.lst 0 [] .exact) 1 [(0, rowA x.flat .no)] = some (.lst 1 [rowA x.flat .no] .exact) := rfl
   rw [e3]
   simp only [pureK_some]
   refine kidsV_app (x := rowA x.flat .no) hb rfl rfl (by simp [maxApp, Nat.min_eq_left hk]; omega) ?_
   intro v' H1 H2 h12 hb'
   rw [bop_add (by omega) (by omega)]
   simp only [pureK_some]
   refine ⟨_, H1, ?_, h12, k + 1, v', by omega, ?_, rfl, ?_⟩
   · omega
   · rw [htk]; simp [hpre]; omega
   · rw [htk]; simpa using hb'
 · have hk' : k = t.kids.length := by omega
   subst hk'
   rw [List.take_length] at hb
   exact ret1_of H' (Heap.le_refl _) hb

end Go.Av
namespace Go.Av
open Go Go.Proofs

theorem settleT_l0 (n : Node) : settleT (.l0 n) = if n.kind = 2 then overT 1 else if n.kind = 3 then overT 2 else .l0 n := rfl
theorem blockT_congr {r r' : Tr → Tr} {n : Node} {a : Tr} (h : a.root.kind = 14 → r a.sub = r' a.sub) : blockT r n a = blockT r' n a := by
 unfold blockT
 split
 · rfl
 · split
   · rename_i e; exact h (by rw [e])
   · rfl
theorem settleT_l1 (n : Node) (a : Tr) (ha : a.ok) : settleT (.l1 n a) = if n.kind = 9 then blockT settleT n (settleT a) else .l1 n a := by
 have h1 := settleT_ok ha
 show settleF (Tr.l1 n a).len (.l1 n a) = _
 rw [len_l1, Nat.add_comm]
 simp only [settleF]
 rw [settleF_eq ha (Nat.le_refl _)]
 split
 · refine blockT_congr fun h => ?_
   obtain ⟨g1, g2⟩ := sub_of_end h1.1 h
   exact settleF_eq g1 (by omega)
 · rfl
theorem settleT_l2 (n : Node) (a b : Tr) (ha : a.ok) (hb : b.ok) : settleT (.l2 n a b) =
 if n.kind = 8 then behindT settleT n (settleT a) b 2
 else if n.kind = 5 then
  (if (settleT a).root.kind ≠ 14 then behindT settleT n (settleT a) b 1
   else if (settleT a).root.sign ≠ 1 then settleT a
   else stackT (settleT b) (settleT a).sub)
 else if n.kind = 13 then stackT (settleT a) b
 else if n.kind = 12 then
  (if ended (settleT a) then endT (settleT a).root.sign (if (settleT a).root.sign ≠ 1 then .l0 ⟨2, emp, 0⟩ else b)
   else .l2 n (settleT a) b)
 else if n.kind = 7 then parT n (settleT a) (settleT b)
 else .l2 n a b := by
 show settleF (Tr.l2 n a b).len (.l2 n a b) = _
 rw [len_l2, show 1 + a.len + b.len = (a.len + b.len) + 1 by omega]
 simp only [settleF]
 have ea : settleF (a.len + b.len) a = settleT a := settleF_eq ha (by omega)
 have eb : settleF (a.len + b.len) b = settleT b := settleF_eq hb (by omega)
 rw [ea, eb, behindT_congr (r' := settleT) eb, behindT_congr (r' := settleT) eb]

theorem amakes_pur {f : FuncId} {args : List AV} {v : AV} {H : Heap} {fp : Option Nat} (h : Pur f args v) : AMakes PP gΓ f args H fp (fun rf ob => rf = (fun _ => v) ∧ ob = none) := by
 intro H' _ _
 refine (h H').mono ?_
 rintro r H1 ⟨rfl, rfl⟩
 exact ⟨_, _, ⟨rfl, rfl⟩, rfl, rfl⟩

theorem madeK_none (fp : Option Nat) (H : Heap) (rf : Nat → AV) (K : AV → Heap → Prop) : madeK fp H rf none K = K (rf 0) H := rfl
theorem madeK_new (H : Heap) (rf : Nat → AV) (cs : List AV) (K : AV → Heap → Prop) (hm : mapOf cs = none) (ho : objOf cs = .cells cs) (h : ∀ p, H p = none → K (rf p) (H.upd p (.cells cs))) : madeK none H rf (some cs) K := fun p hp _ => by
 rw [hm, ho]; exact h p hp
theorem mapOf_rows (a b : List Node) (zs : List AV) : mapOf (rowA a .no :: rowA b .no :: zs) = none := by
 unfold mapOf
 split
 · rename_i h
   simp at h
 · rfl
theorem madeK_old (o : Nat) (H : Heap) (rf : Nat → AV) (cs : List AV) (K : AV → Heap → Prop) (ho : objOf cs = .cells cs) : madeK (some o) H rf (some cs) K = K (rf o) (H.upd o (.cells cs)) := by
 show K (rf o) (H.upd o (objOf cs)) = _
 rw [ho]

theorem kids0 (a b : Tr) : ias 1 (rowsA ([a, b].map Tr.flat) .no) (I 0) = some (.cp [rowA a.flat .no] 0) := rfl
theorem kids1 (a b : Tr) : ias 1 (rowsA ([a, b].map Tr.flat) .no) (I 1) = some (.cp [rowA b.flat .no] 0) := rfl
theorem st_nd3 {H : Heap} {o : Nat} {n : Node} {a b c : AV} : st 3 (H.upd o (.cells [a, b, c])) (.ptr o 0) (nd n) = some (H.upd o (.cells [I n.kind, S n.name, I n.sign])) := by simp [nd, splice]

theorem ended_eq {x : Tr} : (if x.flat.tail = [] ∧ x.root.kind = 11 then AV.tup [I x.root.sign, B true] else .tup [I 0, B false]) = if ended x then AV.tup [I x.root.sign, B true] else .tup [I 0, B false] := by
 unfold ended
 by_cases h : x.flat.tail = [] ∧ x.root.kind = 11 <;> simp [h]

theorem settle_step (t : Tr) (ht : t.ok) (hl : t.flat.length ≤ 1000) (ih : ∀ x : Tr, x.ok → x.len < t.len → ∀ q, Pur settle_settle [rowA x.flat q] (rowA (settleT x).flat .no)) (p : Perm) (h12 : t.root.kind ≠ 12) :
 Pur settle_settle [rowA t.flat p] (rowA (settleT t).flat .no) := by
 refine Pur.weaken (φ := fun r => ∃ q, r = rowA (settleT t).flat q) (fun H => ?_) (fun r h => by obtain ⟨q, rfl⟩ := h; exact Weaker.lst)
 refine settle_settle_of ?_
 unfold W_settle_settle
 refine ⟨none, (fun p h => by cases h), ?_⟩
 rw [ias_root]
 simp only [pureK_some, ld_cp, cut_nd]
 refine ⟨_, .dead, amakes_pur (row_Kids_ok t p ht (by omega)), .inl rfl, ?_⟩
 rintro rf ob ⟨rfl, rfl⟩
 rw [madeK_none]
 intro o ho
 rw [st_nd3]
 simp only [heapK_some]
 have hle : H ≤ H.upd o (.cells [I t.root.kind, S t.root.name, I t.root.sign]) := by simp [ho]
 have hn := ld_nd (H := H) (o := o) (n := t.root)
 have hk : ld (some false) 1 (H.upd o (.cells [I t.root.kind, S t.root.name, I t.root.sign])) (.ptr o 0) = some (I t.root.kind) := by simp
 generalize H.upd o (.cells [I t.root.kind, S t.root.name, I t.root.sign]) = HB at hle hn hk ⊢
 simp only [fa_ptr, pureK_some, Nat.zero_add, hk, bop_eql, condK_B, decide_eq_true_eq, decide_eq_false_iff_not]
 cases t with
 | l0 n =>
   have ha : arity n.kind = 0 := ht
   have hk : n.kind = 1 ∨ n.kind = 2 ∨ n.kind = 3 ∨ n.kind = 4 ∨ n.kind = 11 := by unfold arity at ha; omega
   rw [settleT_l0]
   simp only [Tr.root]
   rcases hk with h | h | h | h | h <;> simp only [h] <;> simp
   · exact ret1_of H hle ⟨⟨p, rfl⟩, rfl⟩
   · exact (settle_over_ok 1).run (ret1_of H hle ⟨⟨.no, rfl⟩, rfl⟩)
   · exact (settle_over_ok 2).run (ret1_of H hle ⟨⟨.no, rfl⟩, rfl⟩)
   · exact ret1_of H hle ⟨⟨p, rfl⟩, rfl⟩
   · exact ret1_of H hle ⟨⟨p, rfl⟩, rfl⟩
 | l1 n a =>
   have ha : arity n.kind = 1 := ht.1
   have hk : n.kind = 9 ∨ n.kind = 14 := by unfold arity at ha; omega
   have hlt := len_l1 n a
   have iha := ih a ht.2 (by omega)
   obtain ⟨s1, s2⟩ := settleT_ok ht.2
   have hlen : (Tr.l1 n a).len ≤ 1000 := hl
   rw [settleT_l1 n a ht.2]
   simp only [Tr.root] at hn ⊢
   rcases hk with h | h
   · simp only [h]
     simp
     rw [hn]
     simp only [pureK_some]
     refine ⟨_, (iha .no).reads, ?_⟩
     refine (settle_block_ok settleT n (settleT a) .no s1 (fun q hq => ?_) (by unfold Tr.len at *; omega)).run (ret1_of H hle ⟨⟨.no, rfl⟩, rfl⟩)
     obtain ⟨g1, g2⟩ := sub_of_end s1 hq
     exact ih _ g1 (by omega) q
   · simp only [h]
     simp
     exact ret1_of H hle ⟨⟨p, rfl⟩, rfl⟩
 | l2 n a b =>
   have ha : arity n.kind = 2 := ht.1
   have hk : n.kind = 5 ∨ n.kind = 6 ∨ n.kind = 7 ∨ n.kind = 8 ∨ n.kind = 10 ∨ n.kind = 13 := by
    have : n.kind ≠ 12 := h12
    unfold arity at ha; omega
   obtain ⟨_, oka, okb⟩ := ht
   have hlt := len_l2 n a b
   have pa := len_pos a
   have pb := len_pos b
   have iha := ih a oka (by omega)
   have ihb := ih b okb (by omega)
   obtain ⟨s1, s2⟩ := settleT_ok oka
   obtain ⟨t1, t2⟩ := settleT_ok okb
   have hlen : (Tr.l2 n a b).len ≤ 1000 := hl
   have hl1 : (settleT a).flat.length + b.flat.length ≤ 900000 := by unfold Tr.len at *; omega
   have hl2 : (settleT a).flat.length + (settleT b).flat.length ≤ 900000 := by unfold Tr.len at *; omega
   rw [settleT_l2 n a b oka okb]
   have e0 := kids0 a b
   have e1 := kids1 a b
   simp only [show (Tr.l2 n a b).root = n from rfl] at hn ⊢
   simp only [Tr.kids, e0, e1, hn, pureK_some, ld_cp, cutE_one, get0]
   rcases hk with h | h | h | h | h | h <;> simp only [h] <;> simp
   · refine (iha .no).run ?_
     rw [ias_root]
     simp
     refine ⟨fun h1 => ?_, fun h1 => ⟨fun h2 => ?_, fun h2 => ?_⟩⟩
     · have h1' : (settleT a).root.kind ≠ 14 := by simpa using h1
       rw [hn]
       simp only [pureK_some]
       refine (settle_behind_ok settleT n (settleT a) b 1 .no .no (ihb .no) hl1).run (ret1_of H hle ⟨⟨.no, ?_⟩, rfl⟩)
       simp [h1]
     · exact ret1_of H hle ⟨⟨.no, by simp [h1, h2]⟩, rfl⟩
     · obtain ⟨f1, f2, _⟩ := (settleT a).end_flat s1 h1
       have fl := congrArg List.length f1
       simp only [List.length_cons] at fl
       refine ⟨_, (ihb .no).reads, ?_⟩
       obtain ⟨q1, e3⟩ := sll_tail (x := (settleT a).root) (r := (settleT a).sub.flat) (p := .no)
       rw [f1, e3]
       simp only [pureK_some]
       refine (settle_stack_ok (settleT b) (settleT a).sub .no q1 t1 (by omega)).run (ret1_of H hle ⟨⟨.no, ?_⟩, rfl⟩)
       simp [h1, h2]
   · exact ret1_of H hle ⟨⟨p, rfl⟩, rfl⟩
   · refine ⟨_, (iha .no).reads, _, (ihb .no).reads, ?_⟩
     exact (settle_par_ok n (settleT a) (settleT b) .no .no s1 t1 hl2).run (ret1_of H hle ⟨⟨.no, rfl⟩, rfl⟩)
   · refine ⟨_, (iha .no).reads, ?_⟩
     exact (settle_behind_ok settleT n (settleT a) b 2 .no .no (ihb .no) hl1).run (ret1_of H hle ⟨⟨.no, rfl⟩, rfl⟩)
   · exact ret1_of H hle ⟨⟨p, rfl⟩, rfl⟩
   · refine ⟨_, (iha .no).reads, ?_⟩
     exact (settle_stack_ok (settleT a) b .no .no s1 hl1).run (ret1_of H hle ⟨⟨.no, rfl⟩, rfl⟩)

theorem amakes_kids (n : Node) (a b : Tr) (p : Perm) (ht : (Tr.l2 n a b).ok) (hl : (Tr.l2 n a b).flat.length ≤ 1000000) (H : Heap) :
 AMakes PP gΓ row_Kids [rowA (Tr.l2 n a b).flat p] H none (fun rf ob => ∃ cap zs, ob = some (rowA a.flat .no :: rowA b.flat .no :: zs) ∧ rf = (fun p => .ms p 0 2 cap) ∧ 2 + zs.length = cap) := by
 intro H' _ _
 refine (row_Kids_ms (.l2 n a b) p ht hl H').mono ?_
 rintro r H1 (⟨h, _, _⟩ | ⟨o, cap, zs, h1, _, h2, h3, h4⟩)
 · simp [Tr.kids] at h
 · exact ⟨fun p => .ms p 0 2 cap, some (rowA a.flat .no :: rowA b.flat .no :: zs), ⟨cap, zs, rfl, rfl, by simpa [Tr.kids] using h3⟩, o, h1, by simpa [Tr.kids] using h2, fun q hq => (by rw [mapOf_rows] at hq; cases hq), by rw [mapOf_rows]; exact (show H1 = H'.upd o (.cells (rowA a.flat .no :: rowA b.flat .no :: zs)) by simpa [Tr.kids] using h4)⟩

theorem ms0 (o cap : Nat) : ias 1 (.ms o 0 2 cap) (I 0) = some (.ptr o 0) := rfl
theorem ms1 (o cap : Nat) : ias 1 (.ms o 0 2 cap) (I 1) = some (.ptr o 1) := rfl

theorem settle_step12 (n : Node) (a b : Tr) (ht : (Tr.l2 n a b).ok) (hl : (Tr.l2 n a b).flat.length ≤ 1000) (ih : ∀ x : Tr, x.ok → x.len < (Tr.l2 n a b).len → ∀ q, Pur settle_settle [rowA x.flat q] (rowA (settleT x).flat .no)) (p : Perm) (h12 : n.kind = 12) :
 Pur settle_settle [rowA (Tr.l2 n a b).flat p] (rowA (settleT (.l2 n a b)).flat .no) := by
 intro H
 refine settle_settle_of ?_
 unfold W_settle_settle
 refine ⟨none, (fun p h => by cases h), ?_⟩
 rw [ias_root]
 simp only [pureK_some, ld_cp, cut_nd]
 refine ⟨_, .dead, amakes_kids n a b p ht (by omega) H, .inl rfl, ?_⟩
 rintro rf ob ⟨cap, zs, rfl, rfl, hcap⟩
 refine madeK_new _ _ _ _ (mapOf_rows _ _ _) rfl ?_
 intro k hk0 o ho
 simp only [upd_none_iff] at ho
 rw [st_nd3]
 simp only [heapK_some, show (Tr.l2 n a b).root = n from rfl]
 have hle : H ≤ (H.upd k (.cells (rowA a.flat .no :: rowA b.flat .no :: zs))).upd o (.cells [I n.kind, S n.name, I n.sign]) := by simp [ho.2, hk0]
 have hn := ld_nd (H := H.upd k (.cells (rowA a.flat .no :: rowA b.flat .no :: zs))) (o := o) (n := n)
 have hkk : ((H.upd k (.cells (rowA a.flat .no :: rowA b.flat .no :: zs))).upd o (.cells [I n.kind, S n.name, I n.sign])) k = some (.cells (rowA a.flat .no :: rowA b.flat .no :: zs)) := by
  rw [Heap.upd_ne _ _ (fun e => ho.1 e.symm), Heap.upd_same]
 have hk : ld (some false) 1 ((H.upd k (.cells (rowA a.flat .no :: rowA b.flat .no :: zs))).upd o (.cells [I n.kind, S n.name, I n.sign])) (.ptr o 0) = some (I n.kind) := by simp
 generalize (H.upd k (.cells (rowA a.flat .no :: rowA b.flat .no :: zs))).upd o (.cells [I n.kind, S n.name, I n.sign]) = HB at hle hn hk hkk ⊢
 simp only [fa_ptr, pureK_some, Nat.zero_add, hk, h12, bop_eql, condK_B, decide_eq_true_eq, decide_eq_false_iff_not]
 obtain ⟨hna, oka, okb⟩ := ht
 have hlt := len_l2 n a b
 have pa := len_pos a
 have pb := len_pos b
 have iha := ih a oka (by omega)
 obtain ⟨s1, s2⟩ := settleT_ok oka
 have hlen : (Tr.l2 n a b).len ≤ 1000 := hl
 have hl1 : (settleT a).flat.length + b.flat.length ≤ 900000 := by unfold Tr.len at *; omega
 have hlb : b.flat.length ≤ 1000 := by unfold Tr.len at *; omega
 rw [settleT_l2 n a b oka okb]
 simp only [h12, ms0, ms1, pureK_some, ld_ptr hkk, cutE_one, get0, get1]
 simp
 refine (iha .no).run ?_
 have hend : Pur settle_Ended [rowA (settleT a).flat .no] (if ended (settleT a) then .tup [I (settleT a).root.sign, B true] else .tup [I 0, B false]) := by
  have := settle_Ended_ok (settleT a).root (settleT a).flat.tail .no
  rw [← (settleT a).flat_root] at this
  rw [← ended_eq]; exact this
 refine hend.run ?_
 cases he : ended (settleT a) with
 | false =>
   simp
   rw [hn]
   simp only [pureK_some, ld_ptr hkk, cutE_one, get1]
   rw [bsl2]
   simp only [pureK_some]
   refine (row_Make_ok n [((settleT a).flat, .no), (b.flat, .no)] .exact (by simp) (by simp [sumLen]; omega)).run ⟨?_, hle⟩
   simp [Tr.flat]
 | true =>
   simp
   refine ⟨fun h1 => ?_, fun h1 => ?_⟩
   · rw [bld_0]
     simp only [pureK_some]
     have e2 : bsl 3 (.agg [I 0, S emp, I 0]) 1 [(0, nd ⟨2, emp, 0⟩)] = some (rowA [⟨2, emp, 0⟩] .exact) := rfl
     rw [e2]
     simp only [pureK_some]
     rw [st_get (n := 1) (off := 1) (v := rowA [⟨2, emp, 0⟩] .exact) (r := rowA a.flat .no :: rowA [⟨2, emp, 0⟩] .exact :: zs) hkk rfl (by simp) rfl rfl]
     simp only [heapK_some, ld_upd, cutE_one, get1, pureK_some]
     refine (settle_end_ok _ [⟨2, emp, 0⟩] .exact (by simp)).run ⟨?_, Heap.le_upd hle hk0⟩
     simp [h1, endT, Tr.flat]
   · simp only [ld_ptr hkk, cutE_one, get1, pureK_some]
     refine (settle_end_ok _ b.flat .no (by omega)).run ⟨?_, hle⟩
     simp [h1, endT, Tr.flat]

theorem settle_all : ∀ (N : Nat) (t : Tr), t.len ≤ N → t.ok → t.flat.length ≤ 1000 → ∀ p, Pur settle_settle [rowA t.flat p] (rowA (settleT t).flat .no) := by
 intro N
 induction N with
 | zero => intro t h; have := len_pos t; omega
 | succ N ih =>
   intro t hN ht hl p
   have ih' : ∀ x : Tr, x.ok → x.len < t.len → ∀ q, Pur settle_settle [rowA x.flat q] (rowA (settleT x).flat .no) := fun x hx hlt q =>
    ih x (by omega) hx (by unfold Tr.len at *; omega) q
   by_cases h : t.root.kind = 12
   · cases t with
     | l0 n =>
       have h1 : arity n.kind = 0 := ht
       have h2 : n.kind = 12 := h
       rw [h2] at h1; cases h1
     | l1 n a =>
       have h1 : arity n.kind = 1 := ht.1
       have h2 : n.kind = 12 := h
       rw [h2] at h1; cases h1
     | l2 n a b => exact settle_step12 n a b ht hl ih' p h
   · exact settle_step t ht hl ih' p h

theorem settleOk : SettleOk := fun t p ht hl => settle_all t.len t (Nat.le_refl _) ht hl p

end Go.Av
