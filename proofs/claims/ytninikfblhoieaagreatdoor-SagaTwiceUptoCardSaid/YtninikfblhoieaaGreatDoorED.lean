/- Own text ED of this claim: see the text that holds the theorem. -/
import Derived.Test.YtninikfblhoieaaGreatDoorEC
set_option linter.all false
set_option maxRecDepth 100000
namespace Go.Av
open Go Go.Proofs

def joinT (a : List ByteArray) : ByteArray := a.foldl (fun s x => s ++ (x ++ s__20)) emp
theorem joinT_snoc (a : List ByteArray) (x : ByteArray) : joinT (a ++ [x]) = joinT a ++ (x ++ s__20) := by simp [joinT]
def sizeT (a : List ByteArray) : Nat := (joinT a).size
theorem sizeT_snoc (a : List ByteArray) (x : ByteArray) : sizeT (a ++ [x]) = sizeT a + x.size + 1 := by
 unfold sizeT; rw [joinT_snoc, ByteArray.size_append, ByteArray.size_append]; have : s__20.size = 1 := rfl; omega
theorem sizeT_append (a b : List ByteArray) : sizeT a ≤ sizeT (a ++ b) := by
 induction b generalizing a with
 | nil => simp
 | cons x b ih => have := ih (a ++ [x]); rw [sizeT_snoc] at this; rw [List.append_cons]; omega
theorem sizeT_take (a : List ByteArray) (k : Nat) : sizeT (a.take k) ≤ sizeT a := by
 have := sizeT_append (a.take k) (a.drop k); rwa [List.take_append_drop] at this
theorem bop_cat {bk : BK} {a b : ByteArray} (h : a.size + b.size ≤ 4611686018427387904) : bop bk .add (S a) (S b) = some (S (a ++ b)) := by
 have : bop bk .add (S a) (S b) = strE .add a b := by cases bk <;> rfl
 rw [this]; simp [strE, h]

theorem sign_texts_ok : Pur sign_texts [] (.agg [S emp, S s_ok, S s__21, S s__3f]) := by
 intro H
 refine sign_texts_of ?_
 unfold W_sign_texts
 intro o1 ho1
 have e1 : bld ((List.range 4).map fun i => (i * 1, 1)) [S emp, S emp, S emp, S emp] [(1, S s_ok), (2, S s__21), (3, S s__3f)] = some (.agg [S emp, S s_ok, S s__21, S s__3f]) := rfl
 rw [e1, pureK_some, st_at (n := 4) (v := .agg [S emp, S s_ok, S s__21, S s__3f]) (Heap.upd_same _ _ _) rfl (by simp) rfl]
 simp only [heapK_some, Heap.upd_upd']
 rw [ld_upd]
 have e2 : cutE (splice [S emp, S emp, S emp, S emp] 0 (AV.cells (.agg [S emp, S s_ok, S s__21, S s__3f]))) 0 (some true) 4 = some (.agg [S emp, S s_ok, S s__21, S s__3f]) := rfl
 rw [e2, pureK_some]
 exact ret1_of H (by simp [ho1]) ⟨rfl, rfl⟩
theorem sign_Text_one : Pur sign_Text [I 1] (S s_ok) := by
 intro H
 refine sign_Text_of ?_
 unfold W_sign_Text
 refine (sign_Is_ok 1).run ?_
 have e : sIs 1 = true := by decide
 rw [e]
 simp only [unE_not, pureK_some, condK_B]
 refine ⟨fun h => by simp at h, fun _ => sign_texts_ok.run ?_⟩
 have e2 : ixa 4 (some false) 1 (.agg [S emp, S s_ok, S s__21, S s__3f]) (I 1) = some (S s_ok) := rfl
 rw [e2, pureK_some]
 exact ret1_of H (Heap.le_refl _) ⟨rfl, rfl⟩
theorem trace_Text_one (a : List ByteArray) (p : Perm) (hl : a.length ≤ 1000000) (hs : sizeT a ≤ 1000000000) : Pur trace_Text [.agg [txtA a p, I 1]] (S (joinT a ++ s_ok)) := by
 intro H
 refine trace_Text_of ?_
 unfold W_trace_Text
 simp only [cells_agg, allocK_some]
 refine ⟨rfl, fun o1 ho1 => ?_⟩
 have g1 : (H.upd o1 (.cells [txtA a p, I 1])) o1 = some (.cells [txtA a p, I 1]) := Heap.upd_same _ _ _
 have hle1 : H ≤ H.upd o1 (.cells [txtA a p, I 1]) := by simp [ho1]
 generalize H.upd o1 (.cells [txtA a p, I 1]) = H2 at g1 hle1 ⊢
 simp only [fa_ptr, pureK_some, Nat.zero_add]
 rw [ld_ptr g1]
 simp only [cutE_one, get0, pureK_some, lnl_lst, List.length_map]
 refine ⟨fun vs HX n => ∃ k : Nat, vs = [.ptr o1 0, S (joinT (a.take k)), txtA a p, I a.length, I k] ∧ HX = H2 ∧ n = a.length - k ∧ k ≤ a.length, ⟨_, H2, Heap.le_refl _, 0, rfl, rfl, rfl, Nat.zero_le _⟩, ?_⟩
 rintro vs HX n ⟨k, rfl, rfl, rfl, hk⟩
 simp only [nth_zero, nth_succ, bop_lss, pureK_some, condK_B, decide_eq_true_eq, decide_eq_false_iff_not]
 refine ⟨fun h => ?_, fun h => ?_⟩
 · have hk' : k < a.length := by omega
   have hsz : sizeT (a.take (k + 1)) ≤ sizeT a := sizeT_take a (k + 1)
   rw [List.take_succ_eq_append_getElem hk', sizeT_snoc] at hsz
   have h20 : s__20.size = 1 := rfl
   rw [ias_txt (by omega) (by simpa using hk')]
   simp only [pureK_some, ld_cp, cutE_one, get0, Int.toNat_natCast]
   rw [bop_cat (by omega), pureK_some, bop_cat (by rw [ByteArray.size_append]; unfold sizeT at hsz hs; omega), pureK_some, bop_add (by omega) (by omega)]
   simp only [pureK_some]
   refine ⟨a.length - (k + 1), HX, by omega, Heap.le_refl _, k + 1, ?_, rfl, rfl, by omega⟩
   rw [List.take_succ_eq_append_getElem hk', joinT_snoc]
   rfl
 · have hk' : k = a.length := by omega
   subst hk'
   simp only [fa_ptr, pureK_some]
   rw [ld_ptr g1]
   simp only [cutE_one, get1, pureK_some]
   refine sign_Text_one.run ?_
   rw [List.take_length]
   rw [bop_cat (by unfold sizeT at hs; have : s_ok.size = 2 := rfl; omega), pureK_some]
   exact ret1_of H hle1 ⟨rfl, rfl⟩

theorem Done1_ok (d : Int × ByteArray × Bool) : Pur deal_Dealer_Done_1 [deedA d] (B d.2.2) := by
 intro H
 refine deal_Dealer_Done_1_of ?_
 unfold W_deal_Dealer_Done_1
 simp only [deedA, cells_agg, allocK_some]
 refine ⟨rfl, fun o ho => ?_⟩
 simp only [fa_ptr, pureK_some, Nat.zero_add, ld_upd, cutE_one, get2]
 exact ret1_of H (by simp [ho]) ⟨rfl, rfl⟩
theorem dname_ok (d : Int × ByteArray × Bool) : Pur deal_name [deedA d] (S d.2.1) := by
 intro H
 refine deal_name_of ?_
 unfold W_deal_name
 simp only [deedA, cells_agg, allocK_some]
 refine ⟨rfl, fun o ho => ?_⟩
 simp only [fa_ptr, pureK_some, Nat.zero_add, ld_upd, cutE_one, get1]
 exact ret1_of H (by simp [ho]) ⟨rfl, rfl⟩
def doneD (ds : List (Int × ByteArray × Bool)) : List ByteArray := (ds.filter fun d => d.2.2).map fun d => d.2.1
theorem doneD_snoc (ds : List (Int × ByteArray × Bool)) (d : Int × ByteArray × Bool) : doneD (ds ++ [d]) = if d.2.2 then doneD ds ++ [d.2.1] else doneD ds := by
 unfold doneD; rw [List.filter_append]; cases h : d.2.2 <;> simp [h]
theorem doneD_le (ds : List (Int × ByteArray × Bool)) : (doneD ds).length ≤ ds.length := by unfold doneD; rw [List.length_map]; exact List.length_filter_le _ _
theorem enters_D1 : enters PP deal_Dealer_Done_1 = true := by kernel_rfl
theorem enters_Dn : enters PP deal_name = true := by kernel_rfl

theorem ias_deed {l : List (Int × ByteArray × Bool)} {p : Perm} {k : Nat} (h : k < l.length) : ias 3 (.lst 3 (l.map deedA) p) (I k) = some (.cp [I (l[k]).1, S (l[k]).2.1, B (l[k]).2.2] 0) := by
 rw [ias_lst (by omega) (v := deedA l[k]) (by simp [h])]; rfl
set_option maxRecDepth 100000 in
theorem picked_Done (ds : List (Int × ByteArray × Bool)) (p : Perm) (hl : ds.length ≤ 1000000) : PurR deal_picked_deal_Deed_string [.lst 3 (ds.map deedA) p, .fn (.func deal_Dealer_Done_1) [] [], .fn (.func deal_name) [] []]
 (fun r => ∃ s q, r = .lst s ((doneD ds).map fun x => S x) q ∧ (s = 1 ∨ doneD ds = [])) := by
 intro H
 refine deal_picked_deal_Deed_string_of ?_
 unfold W_deal_picked_deal_Deed_string
 simp only [lnl_lst, pureK_some, List.length_map]
 refine ⟨fun vs H' n => ∃ (k s : Nat) (q : Perm), k ≤ ds.length ∧ vs = [.fn (.func deal_Dealer_Done_1) [] [], .fn (.func deal_name) [] [], .lst s ((doneD (ds.take k)).map fun x => S x) q, .lst 3 (ds.map deedA) p, I ds.length, I k] ∧ n = ds.length - k ∧
  Bld H H' q ((doneD (ds.take k)).map fun x => S x).length ∧ (s = 1 ∨ (((doneD (ds.take k)).map fun x => S x) = [] ∧ q = .exact)),
  ⟨_, H, Heap.le_refl _, 0, 0, .exact, Nat.zero_le _, rfl, rfl, .inl ⟨rfl, rfl⟩, .inr ⟨rfl, rfl⟩⟩, ?_⟩
 rintro vs H' n ⟨k, s, q, hk, rfl, rfl, hb, hs⟩
 simp only [nth_zero, nth_succ, bop_lss, pureK_some, condK_B, decide_eq_true_eq, decide_eq_false_iff_not]
 refine ⟨fun h => ?_, fun h => ?_⟩
 · have hk' : k < ds.length := by omega
   rw [ias_deed hk']
   simp only [pureK_some]
   have e0 : ld (some true) 3 H' (.cp [I (ds[k]).1, S (ds[k]).2.1, B (ds[k]).2.2] 0) = some (deedA ds[k]) := rfl
   rw [e0]
   simp only [pureK_some]
   intro o ho
   rw [st_at (n := 3) (v := deedA ds[k]) (Heap.upd_same _ _ _) rfl (by simp) rfl]
   simp only [heapK_some, Heap.upd_upd']
   have e1 : splice [.sc (.int .i64 0), S emp, B false] 0 (AV.cells (deedA ds[k])) = (deedA ds[k]).cells := rfl
   rw [e1, ld_upd]
   have e2 : cutE (deedA ds[k]).cells 0 (some true) 3 = some (deedA ds[k]) := rfl
   rw [e2]
   simp only [pureK_some]
   have hb2 := hb.alloc (x := .cells (deedA ds[k]).cells) ho
   have ho0 : H o = none := by
    cases e : H o with
    | none => rfl
    | some x => rw [hb.le _ _ e] at ho; cases ho
   refine callK_reads (E := E_deal_picked_deal_Deed_string) (args := [deedA ds[k]]) (cap := []) rfl rfl enters_D1 (Done1_ok ds[k]).reads ?_
   simp only [condK_B]
   have htk : doneD (ds.take (k + 1)) = if ds[k].2.2 then doneD (ds.take k) ++ [ds[k].2.1] else doneD (ds.take k) := by
    rw [List.take_succ_eq_append_getElem hk', doneD_snoc]
   refine ⟨fun hd => ?_, fun hd => ?_⟩
   · rw [if_pos hd] at htk
     rw [ld_upd, e2]
     simp only [pureK_some]
     refine callK_reads (E := E_deal_picked_deal_Deed_string) (args := [deedA ds[k]]) (cap := []) rfl rfl enters_Dn (dname_ok ds[k]).reads ?_
     have e3 : bsl 1 (S emp) 1 [(0, S (ds[k]).2.1)] = some (.lst 1 [S (ds[k]).2.1] .exact) := rfl
     rw [e3]
     simp only [pureK_some]
     have hlen : (doneD (ds.take k)).length ≤ 1000000 := Nat.le_trans (doneD_le _) (by simp; omega)
     refine appK_bld hb2 hs rfl (by simp [maxApp]; omega) fun p' H3 hb3 => ?_
     rw [bop_add (by omega) (by omega)]
     simp only [pureK_some]
     obtain ⟨H4, h4, hb4⟩ := hb3.fall ho0
     refine ⟨ds.length - (k + 1), H4, by omega, h4, k + 1, 1, p', by omega, ?_, rfl, ?_, .inl rfl⟩
     · rw [htk]; simp
     · rw [htk]; simpa using hb4
   · rw [if_neg (by simp [hd])] at htk
     rw [bop_add (by omega) (by omega)]
     simp only [pureK_some]
     obtain ⟨H4, h4, hb4⟩ := hb2.fall ho0
     refine ⟨ds.length - (k + 1), H4, by omega, h4, k + 1, s, q, by omega, ?_, rfl, ?_, ?_⟩
     · rw [htk]; rfl
     · rw [htk]; exact hb4
     · rw [htk]; exact hs
 · have hk' : k = ds.length := by omega
   subst hk'
   rw [List.take_length] at *
   exact ret1_of H hb.le ⟨⟨s, q, rfl, hs.imp id fun h => by simpa using h.1⟩, rfl⟩

theorem Done_ok {H : Heap} {dl kn : Nat} {tk : Option Nat} {refuses : List Int} {deeds : List (Int × ByteArray × Bool)} {known : List (Int × Bool)} {asked : Int} (h : DealAt H dl kn tk refuses deeds known asked) (hl : deeds.length ≤ 1000000) :
 ACalls PP gΓ deal_Dealer_Done [.ptr dl 0] H (fun r H' => (∃ s q, r = .lst s ((doneD deeds).map fun x => S x) q) ∧ H' = H) := by
 obtain ⟨v, hd, hv⟩ := h.hd
 refine deal_Dealer_Done_of ?_
 unfold W_deal_Dealer_Done
 simp only [nilE_ptr, pureK_some, fa_ptr, Nat.zero_add, ld_ptr hd, cutE_one, get1]
 have key : ∃ p s, v = .lst s (deeds.map deedA) p ∧ (s = 3 ∨ deeds = []) := by
  rcases hv with ⟨e, rfl, _⟩ | ⟨t, _, rfl, _⟩
  · exact ⟨.exact, 0, by rw [e]; rfl, .inr e⟩
  · exact ⟨.tok t, 3, rfl, .inl rfl⟩
 obtain ⟨p, s, rfl, hs⟩ := key
 have hw : Weaker (.lst s (deeds.map deedA) p) (.lst 3 (deeds.map deedA) .no) := by
  rcases hs with rfl | rfl
  · exact Weaker.lst
  · exact Weaker.empty
 refine ACalls.args (args' := [.lst 3 (deeds.map deedA) .no, .fn (.func deal_Dealer_Done_1) [] [], .fn (.func deal_name) [] []]) rfl (fun i hi => ?_) ?_
 · match i, hi with
   | 0, _ => exact hw
   | 1, _ => exact Weaker.refl _
   | 2, _ => exact Weaker.refl _
 refine (picked_Done deeds .no hl).run ?_
 rintro r ⟨s', q, rfl, _⟩
 exact ret1_of H (Heap.le_refl _) ⟨⟨s', q, rfl⟩, rfl⟩

end Go.Av
namespace Go.Av
open Go Go.Proofs

theorem Disk_ok' {H : Heap} {i : Ids} {g : SG} (h : SagaAt H i g) {K : AV → Heap → Prop} (k : K (.ptr i.dk 0) H) : ACalls PP gΓ saga_Saga_Disk [.ptr i.s 0] H K := (Disk_ok h).then k
theorem Deal_ok' {H : Heap} {i : Ids} {g : SG} (h : SagaAt H i g) {K : AV → Heap → Prop} (k : K (.ptr i.dl 0) H) : ACalls PP gΓ saga_Saga_Deal [.ptr i.s 0] H K := (Deal_ok h).then k
theorem neq_nil (o off : Nat) : bop .ptr .neq (.ptr o off) (.sc (.pointer none)) = some (B true) := rfl
theorem eql_nil (o off : Nat) : bop .ptr .eql (.ptr o off) (.sc (.pointer none)) = some (B false) := rfl

def MadeQ (l : List Node) (ps rf : List Int) (nb : Int) (H : Heap) (i : Ids) (H' : Heap) : Prop :=
 (∀ o, o ∈ i.all → H o = none) ∧ SagaAt H' i (newG l ps rf nb) ∧ SameBut i.all H H' ∧ OkM l.length 0 (newG l ps rf nb) ∧ Kept (newG l ps rf nb).d 1 (enc (keepS (preG l ps rf nb)))
theorem MadeQ.le {l : List Node} {ps rf : List Int} {nb : Int} {H H' : Heap} {i : Ids} (h : MadeQ l ps rf nb H i H') : H ≤ H' := fun o x hx => by
 rw [h.2.2.1 o (fun e => by rw [h.1 o e] at hx; cases hx)]; exact hx

theorem made_gen (l : List Node) (p : Perm) (ps rf : List Int) (v1 v2 : AV) (nb : Int) (hv1 : v1.single = true) (hv2 : v2.single = true) (hp : ps.length ≤ 1100000) (hr : rf.length ≤ 1100000) (H : Heap)
 (hc1 : ∀ H', H ≤ H' → AReads PP gΓ slices_Clone_int [v1] H' (intA ps 1 .no)) (hc2 : ∀ H', H ≤ H' → AMakes PP gΓ deal_New [v2] H' none (fun rf' ob => ∃ q, rf' = (fun p => .ptr p 0) ∧ ob = some [intA rf 1 .no, .lst 0 [] .exact, .mp q, I 0])) :
 ACalls PP gΓ law21_made [rowA l p, .agg [v1, v2, I nb]] H (fun r H' => (newE l nb ≠ 0 ∧ r = .tup [.sc (.pointer none), B false] ∧ H' = H) ∨
  (newE l nb = 0 ∧ ∃ i : Ids, r = .tup [.ptr i.s 0, B true] ∧ MadeQ l ps rf nb H i H')) := by
 refine law21_made_of ?_
 unfold W_law21_made
 simp only [cells_agg, allocK_some]
 refine ⟨by simp only [List.all_cons, hv1, hv2]; rfl, fun o1 ho1 => ?_⟩
 have g1 : (H.upd o1 (.cells [v1, v2, I nb])) o1 = some (.cells [v1, v2, I nb]) := Heap.upd_same _ _ _
 have hle1 : H ≤ H.upd o1 (.cells [v1, v2, I nb]) := by simp [ho1]
 have n1 : ∀ o, o ≠ o1 → (H.upd o1 (.cells [v1, v2, I nb])) o = H o := fun o ho => Heap.upd_ne _ _ ho
 generalize H.upd o1 (.cells [v1, v2, I nb]) = H2 at g1 hle1 n1 ⊢
 dsimp only
 rw [ld_ptr g1]
 have e3 : cutE [v1, v2, I nb] 0 (some true) 3 = some (.agg [v1, v2, I nb]) := rfl
 rw [e3]
 simp only [pureK_some]
 refine (New_gen l p ps rf v1 v2 nb hv1 hv2 hp hr H2 (fun H' h => hc1 H' (Heap.le_trans hle1 h)) (fun H' h => hc2 H' (Heap.le_trans hle1 h))).mono ?_
 rintro r H' (⟨hne, rfl, rfl⟩ | ⟨h0, i, rfl, hfree, hS, hsb, hok, hK⟩)
 · simp only [extractE_tup, get0, get1, pureK_some, bop_eql, condK_B, decide_eq_true_eq, decide_eq_false_iff_not]
   exact ⟨fun e => absurd e hne, fun _ => ret1_of H hle1 (.inl ⟨hne, rfl, rfl⟩)⟩
 · simp only [extractE_tup, get0, get1, pureK_some, bop_eql, condK_B, decide_eq_true_eq, decide_eq_false_iff_not]
   refine ⟨fun _ => ?_, fun e => by simp at e⟩
   rw [neq_nil]
   simp only [pureK_some, condK_B]
   refine ⟨fun _ => Disk_ok' hS ?_, fun e => by simp at e⟩
   rw [neq_nil]
   simp only [pureK_some, condK_B]
   refine ⟨fun _ => Deal_ok' hS ?_, fun e => by simp at e⟩
   rw [neq_nil]
   simp only [pureK_some]
   obtain ⟨HF, hHF⟩ : ∃ HF : Heap, ∀ o, HF o = if o ∈ i.all then H' o else H o := ⟨fun o => if o ∈ i.all then H' o else H o, fun _ => rfl⟩
   refine ret1_of HF (fun o x hx => ?_) (.inr ⟨h0, i, rfl, fun o ho => ?_, hS.same fun o ho => by rw [hHF, if_pos ho], fun o ho => by rw [hHF, if_neg ho], hok, hK⟩)
   · rw [hHF] at hx
     split at hx
     · exact hx
     · rename_i hno
       rw [hsb o hno]
       exact hle1 _ _ hx
   · cases e : H o with
     | none => rfl
     | some x => have := hfree o ho; rw [hle1 _ _ e] at this; cases this
theorem made_ok (l : List Node) (p : Perm) (ps rf : List Int) (s1 s2 : Nat) (p1 p2 : Perm) (nb : Int) (hs1 : s1 = 1 ∨ ps = []) (hs2 : s2 = 1 ∨ rf = []) (hp : ps.length ≤ 1100000) (hr : rf.length ≤ 1100000) (H : Heap) :
 ACalls PP gΓ law21_made [rowA l p, .agg [intA ps s1 p1, intA rf s2 p2, I nb]] H (fun r H' => (newE l nb ≠ 0 ∧ r = .tup [.sc (.pointer none), B false] ∧ H' = H) ∨
  (newE l nb = 0 ∧ ∃ i : Ids, r = .tup [.ptr i.s 0, B true] ∧ MadeQ l ps rf nb H i H')) :=
 made_gen l p ps rf _ _ nb rfl rfl hp hr H (fun _ _ => (Clone_int_ok ps s1 p1 hs1 hp).reads) (fun H' _ => deal_New_ok rf s2 p2 hs2 hr H' none rfl)

abbrev actsA (l : List (Int × Int)) (s : Nat) (q : Perm) : AV := .lst s (l.map fun x => .agg [I x.1, I x.2]) q
theorem ias_act {l : List (Int × Int)} {s : Nat} {p : Perm} {k : Nat} (h : k < l.length) : ias s (actsA l s p) (I k) = some (.cp [I (l[k]).1, I (l[k]).2] 0) := by
 rw [ias_lst (by omega) (v := .agg [I (l[k]).1, I (l[k]).2]) (by simp [h])]; rfl
def manyA (acts : List (Int × Int)) : Int := acts.foldl (fun n x => if x.1 = 5 then n + min (max x.2 0) 1000 else n) 0
theorem manyA_snoc (acts : List (Int × Int)) (x : Int × Int) : manyA (acts ++ [x]) = if x.1 = 5 then manyA acts + min (max x.2 0) 1000 else manyA acts := by simp [manyA]
theorem manyA_r (acts : List (Int × Int)) : 0 ≤ manyA acts ∧ manyA acts ≤ acts.length * 1000 := by
 have : ∀ (n : Nat) (r : List (Int × Int)), r.length = n → 0 ≤ manyA r ∧ manyA r ≤ n * 1000 := by
  intro n
  induction n with
  | zero => intro r h; have : r = [] := List.length_eq_zero_iff.1 h; subst this; simp [manyA]
  | succ n ih =>
    intro r h
    have e : r = r.take n ++ [r[n]'(by omega)] := by
     rw [← List.take_succ_eq_append_getElem (by omega), ← h, List.take_length]
    rw [e, manyA_snoc]
    have := ih (r.take n) (by simp; omega)
    split <;> omega
 exact this _ acts rfl

theorem few_ok (l : List Node) (p : Perm) (ps rf : List Int) (s1 s2 : Nat) (p1 p2 : Perm) (nb : Int) (acts : List (Int × Int)) (sa : Nat) (pa : Perm) (hsa : sa = 2 ∨ acts = []) (hl : small l.length) (hp : ps.length ≤ 1100000) (hr : rf.length ≤ 1100000) (ha : acts.length ≤ 1100000) :
 PurR law21_few [rowA l p, .agg [intA ps s1 p1, intA rf s2 p2, I nb], actsA acts sa pa] (fun r => ∃ b, r = B b ∧ (b = true → l.length ≤ 100 ∧ ps.length ≤ 100 ∧ rf.length ≤ 100 ∧ acts.length ≤ 60 ∧ manyA acts ≤ 3000)) := by
 intro H
 refine law21_few_of ?_
 unfold W_law21_few
 simp only [cells_agg, allocK_some]
 refine ⟨rfl, fun o1 ho1 => ?_⟩
 have g1 : (H.upd o1 (.cells [intA ps s1 p1, intA rf s2 p2, I nb])) o1 = some (.cells [intA ps s1 p1, intA rf s2 p2, I nb]) := Heap.upd_same _ _ _
 have hle1 : H ≤ H.upd o1 (.cells [intA ps s1 p1, intA rf s2 p2, I nb]) := by simp [ho1]
 generalize H.upd o1 (.cells [intA ps s1 p1, intA rf s2 p2, I nb]) = H2 at g1 hle1 ⊢
 simp only [lnl_lst, pureK_some, List.length_map]
 refine ⟨fun vs HX n => ∃ k : Nat, vs = [rowA l p, actsA acts sa pa, .ptr o1 0, I (manyA (acts.take k)), actsA acts sa pa, I acts.length, I k] ∧ HX = H2 ∧ n = acts.length - k ∧ k ≤ acts.length, ⟨_, H2, Heap.le_refl _, 0, rfl, rfl, rfl, Nat.zero_le _⟩, ?_⟩
 rintro vs HX n ⟨k, rfl, rfl, rfl, hk⟩
 simp only [nth_zero, nth_succ, bop_lss, pureK_some, condK_B, decide_eq_true_eq, decide_eq_false_iff_not]
 refine ⟨fun h => ?_, fun h => ?_⟩
 · have hk' : k < acts.length := by omega
   have hsa' : sa = 2 := hsa.resolve_right fun e => by rw [e] at hk'; simp at hk'
   subst hsa'
   rw [ias_act hk']
   simp only [pureK_some]
   have e0 : ld (some true) 2 HX (.cp [I (acts[k]).1, I (acts[k]).2] 0) = some (.agg [I (acts[k]).1, I (acts[k]).2]) := rfl
   rw [e0]
   simp only [pureK_some]
   intro o ho
   rw [st_at (n := 2) (v := .agg [I (acts[k]).1, I (acts[k]).2]) (Heap.upd_same _ _ _) rfl (by simp) rfl]
   simp only [heapK_some, Heap.upd_upd']
   have e1 : splice [.sc (.int .i64 0), .sc (.int .i64 0)] 0 (AV.cells (.agg [I (acts[k]).1, I (acts[k]).2])) = [I (acts[k]).1, I (acts[k]).2] := rfl
   rw [e1]
   have hle : HX ≤ HX.upd o (.cells [I (acts[k]).1, I (acts[k]).2]) := by simp [ho]
   have hmr := manyA_r (acts.take k)
   have hlt : (acts.take k).length ≤ 1100000 := by simp; omega
   have htk : manyA (acts.take (k + 1)) = if (acts[k]).1 = 5 then manyA (acts.take k) + min (max (acts[k]).2 0) 1000 else manyA (acts.take k) := by
    rw [List.take_succ_eq_append_getElem hk', manyA_snoc]
   simp only [fa_ptr, pureK_some, Nat.zero_add, ld_upd, cutE_one, get0, get1, bop_eql, condK_B, decide_eq_true_eq, decide_eq_false_iff_not]
   refine ⟨fun h5 => ?_, fun h5 => ?_⟩
   · rw [if_pos h5] at htk
     rw [maxE_two]
     simp only [pureK_some]
     rw [minE_two]
     simp only [pureK_some]
     rw [bop_add (by omega) (by omega)]
     simp only [pureK_some]
     rw [bop_add (by omega) (by omega)]
     simp only [pureK_some]
     exact ⟨acts.length - (k + 1), HX, by omega, hle, k + 1, by rw [htk]; rfl, rfl, rfl, by omega⟩
   · rw [if_neg h5] at htk
     rw [bop_add (by omega) (by omega)]
     simp only [pureK_some]
     exact ⟨acts.length - (k + 1), HX, by omega, hle, k + 1, by rw [htk]; rfl, rfl, rfl, by omega⟩
 · have hk' : k = acts.length := by omega
   subst hk'
   rw [List.take_length]
   have no : ret1 HX (fun r H' => (∃ b, r = B b ∧ (b = true → l.length ≤ 100 ∧ ps.length ≤ 100 ∧ rf.length ≤ 100 ∧ acts.length ≤ 60 ∧ manyA acts ≤ 3000)) ∧ H' = H) (B false) :=
    ret1_of H hle1 ⟨⟨false, rfl, fun e => by simp at e⟩, rfl⟩
   simp only [lnl_lst, pureK_some, List.length_map, bop_leq, condK_B, decide_eq_true_eq, decide_eq_false_iff_not]
   refine ⟨fun h1 => ?_, fun _ => no⟩
   refine (ref03_Depth_ok l p hl).run ?_
   rintro v ⟨d, rfl⟩
   simp only [bop_leq, pureK_some, condK_B, decide_eq_true_eq, decide_eq_false_iff_not]
   refine ⟨fun _ => ?_, fun _ => no⟩
   simp only [fa_ptr, pureK_some, Nat.zero_add]
   rw [ld_ptr g1]
   simp only [cutE_one, get0, pureK_some, lnl_lst, List.length_map, bop_leq, condK_B, decide_eq_true_eq, decide_eq_false_iff_not]
   refine ⟨fun h2 => ?_, fun _ => no⟩
   rw [ld_ptr g1]
   simp only [cutE_one, get1, pureK_some, lnl_lst, List.length_map, bop_leq, condK_B, decide_eq_true_eq, decide_eq_false_iff_not]
   refine ⟨fun h3 => ⟨fun h4 => ?_, fun _ => no⟩, fun _ => no⟩
   exact ret1_of H hle1 ⟨⟨_, rfl, fun e => ⟨by omega, by omega, by omega, by omega, by simpa using e⟩⟩, rfl⟩

theorem SagaAt.disk {H H' : Heap} {i : Ids} {g : SG} (h : SagaAt H i g) {d' : DK} (hd : DiskAt H' i.dk i.bl d') (hn : d'.nb = g.d.nb) (hs : SameBut [i.dk, i.bl] H H') : SagaAt H' i { g with d := d' } := by
 obtain ⟨pl, pa, hc⟩ := h.hs
 have n1 := h.n1
 simp only [List.mem_cons, List.not_mem_nil, or_false, not_or] at n1
 refine ⟨⟨pl, pa, ?_⟩, h.store.next hd hn hs, h.deal.same fun o ho => hs o ?_, h.n1, h.n2, h.n3⟩
 · rw [hs i.s (by simp [n1.2.1, n1.2.2])]; exact hc
 · intro e
   exact h.n3 o (by simp at e ⊢; exact .inr e) ho
theorem OkM.disk {L c : Nat} {g : SG} (h : OkM L c g) {d' : DK} (hd : d'.ok) (hn : d'.nb = g.d.nb) : OkM L c { g with d := d' } := by
 have e : d'.half = g.d.half := half_of hn
 refine ⟨⟨h.live, h.len, h.L60, h.al, h.nw, h.nm, hd, ?_, ?_, h.dl, h.rf, h.pk⟩, h.hm⟩
 · show 3 ≤ d'.half; rw [e]; exact h.h3
 · show long L ≤ d'.room; unfold DK.room; rw [e]; exact h.room
theorem Write_nil {H : Heap} {dk bl : Nat} {d : DK} (h : DiskAt H dk bl d) (k : Int) :
 ACalls PP gΓ disk_Disk_Write [.ptr dk 0, I k, .lst 0 [] .exact] H (fun r H' => r = I (writeD d k []).2 ∧ DiskAt H' dk bl (writeD d k []).1 ∧ SameBut [dk, bl] H H') :=
 ACalls.args (args' := [.ptr dk 0, I k, bytA [] .no]) rfl (fun i hi => by
  match i, hi with
  | 0, _ => exact Weaker.refl _
  | 1, _ => exact Weaker.refl _
  | 2, _ => exact Weaker.empty) (disk_Write_ok h k [] .no)

theorem stepG_cut {L c : Nat} {g : SG} (h : OkM L c g) : (stepG g).1.d.cut = g.d.cut ∧ (stepG g).1.d.nb = g.d.nb := by
 unfold stepG
 split
 · exact ⟨rfl, rfl⟩
 · rename_i hs
   have hs' : stopsE g = 0 := by simpa using hs
   obtain ⟨_, k2, k3⟩ := (h.gone (stopsE_zero hs').2).keep
   have e : (goneG g).d = g.d := (askG_same g).2.2.2.2.2.2.2
   split
   · exact ⟨k3.trans (by rw [e]), k2.trans (by rw [e])⟩
   · exact ⟨k3.trans (by rw [e]), k2.trans (by rw [e])⟩
end Go.Av
namespace Go.Av
open Go Go.Proofs

theorem step_kept {L c : Nat} {g : SG} {data : List UInt8} (h : OkM L c g) (hs : stopsE g = 0) (hk : Kept g.d (g.n + 1) data) :
 (stepG g = (keepG (goneG g), 0) ∧ Kept (keepG (goneG g)).d (g.n + 2) (enc (keepS (goneG g)))) ∨ (g.d.cut = true ∧ stepG g = ({ keepG (goneG g) with down := true }, 210) ∧ Kept (keepG (goneG g)).d (g.n + 1) data) := by
 have hg := h.gone (stopsE_zero hs).2
 have ed : (goneG g).d = g.d := (askG_same g).2.2.2.2.2.2.2
 have en : (goneG g).n = g.n + 1 := rfl
 have hn := hg.nw
 have hL := hg.L60
 have hr := hg.encl
 rw [ed] at hr
 have hsv := hk.save (data' := enc (keepS (goneG g))) (by rw [en] at hn; omega) hr
 have e1 : keepE (goneG g) = (saveD g.d (g.n + 1 + 1) (enc (keepS (goneG g)))).2 := by unfold keepE; rw [ed, en]
 have e2 : (keepG (goneG g)).d = (saveD g.d (g.n + 1 + 1) (enc (keepS (goneG g)))).1 := by
  show (saveD (goneG g).d ((goneG g).n + 1) (enc (keepS (goneG g)))).1 = _
  rw [ed, en]
 rcases hsv with ⟨s1, s2, s3⟩ | ⟨s1, s2⟩
 · refine .inr ⟨s2, ?_, by rw [e2]; exact s3⟩
   unfold stepG
   rw [if_neg (by simp [hs]), if_pos (by rw [e1, s1]; decide)]
 · refine .inl ⟨?_, by rw [e2]; exact s2⟩
   unfold stepG
   rw [if_neg (by simp [hs]), if_neg (by rw [e1, s1]; decide)]
theorem Kept.uncut {d : DK} {n : Nat} {data : List UInt8} (h : Kept d n data) : Kept { d with cut := false } n data := ⟨h.ok, h.h3, h.has, h.old, h.room⟩
theorem rec_kept {g : SG} {n : Nat} {s : St} (hk : Kept g.d n (enc s)) (hr : rightS s = true) : recG g = ({ upG g with t := treeOf s.l, m := (s.pl, s.how), n := s.n.toNat, a := s.a, down := false }, 0) := by
 unfold recG
 rw [hk.uncut.last]
 simp only
 rw [decode_enc hr]

def liA : List Node := [⟨5, emp, 0⟩, ⟨1, s_a, 0⟩, ⟨1, s_b, 0⟩]
def TA : Tr := .l2 ⟨5, emp, 0⟩ (.l0 ⟨1, s_a, 0⟩) (.l0 ⟨1, s_b, 0⟩)
def TB : Tr := .l0 ⟨1, s_b, 0⟩
def TE : Tr := overT 1
theorem TA_ok : TA.ok := ⟨rfl, rfl, rfl⟩
theorem TB_ok : TB.ok := rfl
theorem TA_flat : TA.flat = liA := rfl
theorem TA_tree : treeOf liA = TA := by rw [← TA_flat]; exact treeOf_flat TA_ok
theorem TB_tree : treeOf TB.flat = TB := treeOf_flat TB_ok
theorem TA_whole : whole liA = true := by decide +kernel
theorem TA_sort : sortOf liA = 1 := by unfold sortOf; rw [if_pos TA_whole, TA_tree]; decide +kernel
theorem TA_on : sortOn liA false = true := by unfold sortOn; rw [TA_sort]; rfl
theorem TA_srow : settleRow liA = liA := by
 unfold settleRow
 rw [TA_on, TA_tree]; decide +kernel
theorem TA_right : sortRight liA = true := by
 unfold sortRight
 rw [TA_sort, TA_tree]; decide +kernel
theorem TA_begin : beginL liA = liA := by unfold beginL; rw [if_pos TA_right, TA_srow]
theorem TA_settled : settled TA.flat = true := by
 rw [TA_flat]
 unfold settled
 rw [TA_srow]; decide +kernel
theorem TB_whole : whole TB.flat = true := by decide +kernel
theorem TB_on : sortOn TB.flat false = true := by unfold sortOn sortOf; rw [if_pos TB_whole, TB_tree]; rfl
theorem TB_settled : settled TB.flat = true := by
 unfold settled settleRow
 rw [TB_on, TB_tree]; decide +kernel
theorem TA_act : actF TA = [1] := by decide +kernel
theorem TB_act : actF TB = [0] := by decide +kernel
theorem TA_en : enF TA = [(1, 1)] := by
 unfold enF actL
 rw [if_pos TA_settled, TA_act]
 have : (subT TA 1).root.kind = 1 := rfl
 simp [movesAt, this, waysOf, mayT]
theorem TB_en : enF TB = [(0, 1)] := by
 unfold enF actL
 rw [if_pos TB_settled, TB_act]
 have : (subT TB 0).root.kind = 1 := rfl
 simp [movesAt, this, waysOf, mayT]
theorem TA_pick : pickF TA 0 = (1, 1) := by unfold pickF pickI; rw [TA_en]; rfl
theorem TB_pick : pickF TB 0 = (0, 1) := by unfold pickF pickI; rw [TB_en]; rfl
theorem TA_next : nextT TA (1, 1) = TB := by decide +kernel
theorem TB_next : nextT TB (0, 1) = TE := by decide +kernel

theorem new40 : newE liA 40 = 0 := by
 unfold newE
 rw [if_neg (by rw [TA_right]; decide), if_neg (by decide), if_neg (by decide), if_neg (by decide)]
theorem new0 : newE liA 0 = 1 := by
 unfold newE
 rw [if_neg (by rw [TA_right]; decide), if_pos (by decide)]
theorem new6 : newE liA 6 = 181 := by
 unfold newE
 rw [if_neg (by rw [TA_right]; decide), if_neg (by decide), if_neg (by decide), if_pos (by decide)]

end Go.Av
namespace Go.Av
open Go Go.Proofs

theorem DoneQ.next {H0 H H' : Heap} {i : Ids} {g g' : SG} {tk1 : Option Nat} (hS : SagaAt H { i with tk := tk1 } g) (htk : tk1 = i.tk ∨ (i.tk = none ∧ ∃ t, tk1 = some t ∧ H0 t = none)) (hsb : SameBut ({ i with tk := tk1 } : Ids).all H0 H)
 (hq : DoneQ H { i with tk := tk1 } g' H') : DoneQ H0 i g' H' := by
 obtain ⟨tk2, hS2, htk2, hsb2⟩ := hq
 have hin : ∀ o, o ∈ ({ i with tk := tk1 } : Ids).all → tk1 = none → H o ≠ none := fun o ho e' => by
  obtain ⟨pl, pa, h1⟩ := hS.hs
  obtain ⟨v, d1, d2⟩ := hS.deal.hd
  simp only [Ids.all, dealIds, List.mem_append, List.mem_cons, List.not_mem_nil, or_false] at ho
  rcases ho with (rfl | rfl | rfl | rfl) | (rfl | rfl) | ho
  · rw [h1]; simp
  · rw [hS.store.hs]; simp
  · rw [hS.store.disk.hd]; simp
  · rw [hS.store.disk.hb]; simp
  · rw [d1]; simp
  · rw [hS.deal.hk]; simp
  · rw [e'] at ho; simp at ho
 refine ⟨tk2, hS2, ?_, ?_⟩
 · rcases htk2 with e | ⟨e, t2, e2, e3⟩
   · have e' : tk2 = tk1 := e
     rw [e']; exact htk
   · have e' : tk1 = none := e
     rcases htk with e4 | ⟨_, t3, e5, _⟩
     · refine .inr ⟨by rw [← e4]; exact e', t2, e2, ?_⟩
       cases e6 : H0 t2 with
       | none => rfl
       | some x =>
         exfalso
         have hin2 : t2 ∈ ({ i with tk := tk1 } : Ids).all := Classical.byContradiction fun hno => by
          rw [hsb t2 hno, e6] at e3; cases e3
         exact hin t2 hin2 e' e3
     · rw [e'] at e5; cases e5
 · have h1 : SameBut ({ i with tk := tk2 } : Ids).all H0 H := hsb.more fun o ho => by
    simp only [Ids.all, dealIds, List.mem_append] at ho ⊢
    rcases ho with ho | ho | ho
    · exact .inl ho
    · exact .inr (.inl ho)
    · rcases htk2 with e | ⟨e, _⟩
      · have e' : tk2 = tk1 := e
        rw [e']; exact .inr (.inr ho)
      · have e' : tk1 = none := e
        rw [e'] at ho; simp at ho
   exact h1.trans hsb2
theorem DoneQ.le {H H7 H' : Heap} {i : Ids} {g : SG} (hf : ∀ o, o ∈ i.all → H o = none) (hs : SameBut i.all H H7) (hq : DoneQ H7 i g H') : H ≤ H' := fun o x hx => by
 obtain ⟨tk1, _, htk, hsb⟩ := hq
 have hno : o ∉ i.all := fun e => by rw [hf o e] at hx; cases hx
 have h7 : H7 o = some x := (hs o hno).trans hx
 have : o ∉ ({ i with tk := tk1 } : Ids).all := fun e => by
  rcases htk with e1 | ⟨e1, t, e2, e3⟩
  · exact hno (by rw [show i = { i with tk := tk1 } by rw [e1]]; exact e)
  · simp only [Ids.all, dealIds, List.mem_append] at e
    rcases e with e | e | e
    · exact hno (by simp only [Ids.all, List.mem_append]; exact .inl e)
    · exact hno (by simp only [Ids.all, dealIds, List.mem_append]; exact .inr (.inl e))
    · rw [e2] at e
      have : o = t := by simpa using e
      rw [this, e3] at h7; cases h7
 rw [hsb o this]; exact h7
section
variable {H0 H : Heap} {i : Ids} {g : SG} {L c : Nat} {K : AV → Heap → Prop}
theorem DoneQ.alloc (hq : DoneQ H0 i g H) {o : Nat} (ho : H o = none) (x : AObj) : ∃ tk', SagaAt (H.upd o x) { i with tk := tk' } g := by
 obtain ⟨tk1, hS, htk, hsb⟩ := hq
 exact ⟨tk1, hS.le (by simp [ho])⟩
theorem DoneQ.step (hq : DoneQ H0 i g H) (ok : OkM L c g) (hc : c ≤ 900000) (k : ∀ H', DoneQ H0 i (stepG g).1 H' → K (I (stepG g).2) H') : ACalls PP gΓ saga_Saga_Step [.ptr i.s 0] H K := by
 obtain ⟨tk1, hS, htk, hsb⟩ := hq
 refine (Step_ok hS ok hc).mono ?_
 rintro r H' ⟨rfl, h⟩
 exact k H' (DoneQ.next hS htk hsb h)
theorem DoneQ.halt (hq : DoneQ H0 i g H) (ok : OkM L c g) (hc : c ≤ 900000) (k : ∀ H', DoneQ H0 i (haltG g).1 H' → K (I (haltG g).2) H') : ACalls PP gΓ saga_Saga_Halt [.ptr i.s 0] H K := by
 obtain ⟨tk1, hS, htk, hsb⟩ := hq
 refine (Halt_ok hS ok hc).mono ?_
 rintro r H' ⟨rfl, h⟩
 exact k H' (DoneQ.next hS htk hsb h)
theorem DoneQ.recover (hq : DoneQ H0 i g H) (k : ∀ H', DoneQ H0 i (recG g).1 H' → K (I (recG g).2) H') : ACalls PP gΓ saga_Saga_Recover [.ptr i.s 0] H K := by
 obtain ⟨tk1, hS, htk, hsb⟩ := hq
 refine (Recover_ok hS).mono ?_
 rintro r H' ⟨rfl, h⟩
 exact k H' (DoneQ.next hS htk hsb h)
theorem DoneQ.run (hq : DoneQ H0 i g H) (ok : OkM L c g) (most : Int) (hm : most ≤ 1000) (hc : c ≤ 800000)
 (k : ∀ H', DoneQ H0 i (runG g most.toNat).1 H' → OkM L (c + 1000) (runG g most.toNat).1 → K (.tup [I ((runG g most.toNat).2.1 : Nat), I (runG g most.toNat).2.2]) H') : ACalls PP gΓ saga_Saga_Run [.ptr i.s 0, I most] H K := by
 obtain ⟨tk1, hS, htk, hsb⟩ := hq
 refine (Run_ok hS ok most hm hc).mono ?_
 rintro r H' ⟨rfl, h, h2⟩
 exact k H' (DoneQ.next hS htk hsb h) h2
theorem DoneQ.trace (hq : DoneQ H0 i g H) (ht : g.t.ok) (ha : g.a.length ≤ 1000000) (k : K (if g.t.root.kind = 11 then .tup [.agg [txtA g.a .no, I g.t.root.sign], B true] else .tup [.agg [.lst 0 [] .exact, I 0], B false]) H) : ACalls PP gΓ saga_Saga_Trace [.ptr i.s 0] H K := by
 obtain ⟨tk1, hS, htk, hsb⟩ := hq
 exact (Trace_ok hS ht ha).then k
theorem DoneQ.state (hq : DoneQ H0 i g H) (hl : g.t.flat.length ≤ 1000000) (ha : g.a.length ≤ 1000000) (k : K (stA ⟨g.t.flat, g.m.1, g.m.2, g.n, g.a⟩ .no .no) H) : ACalls PP gΓ saga_Saga_State [.ptr i.s 0] H K := by
 obtain ⟨tk1, hS, htk, hsb⟩ := hq
 exact (State_ok hS hl ha).then k
theorem DoneQ.disk (hq : DoneQ H0 i g H) (k : K (.ptr i.dk 0) H) : ACalls PP gΓ saga_Saga_Disk [.ptr i.s 0] H K := by
 obtain ⟨tk1, hS, htk, hsb⟩ := hq
 exact (Disk_ok hS).then k
theorem DoneQ.deal (hq : DoneQ H0 i g H) (k : K (.ptr i.dl 0) H) : ACalls PP gΓ saga_Saga_Deal [.ptr i.s 0] H K := by
 obtain ⟨tk1, hS, htk, hsb⟩ := hq
 exact (Deal_ok hS).then k
theorem DoneQ.down (hq : DoneQ H0 i g H) (k : K (B g.down) H) : ACalls PP gΓ saga_Saga_Down [.ptr i.s 0] H K := by
 obtain ⟨tk1, hS, htk, hsb⟩ := hq
 exact (Down_ok hS).then k
theorem DoneQ.asked (hq : DoneQ H0 i g H) (k : K (I g.asked) H) : ACalls PP gΓ deal_Dealer_Asked [.ptr i.dl 0] H K := by
 obtain ⟨tk1, hS, htk, hsb⟩ := hq
 exact (Asked_ok hS.deal).then k
theorem DoneQ.done (hq : DoneQ H0 i g H) (hl : g.deeds.length ≤ 1000000) (k : ∀ s q, K (.lst s ((doneD g.deeds).map fun x => S x) q) H) : ACalls PP gΓ deal_Dealer_Done [.ptr i.dl 0] H K := by
 obtain ⟨tk1, hS, htk, hsb⟩ := hq
 refine (Done_ok hS.deal hl).mono ?_
 rintro r H' ⟨⟨s, q, rfl⟩, rfl⟩
 exact k s q
theorem DoneQ.write (hq : DoneQ H0 i g H) (j : Int) (k : ∀ H', DoneQ H0 i { g with d := (writeD g.d j []).1 } H' → K (I (writeD g.d j []).2) H') : ACalls PP gΓ disk_Disk_Write [.ptr i.dk 0, I j, .lst 0 [] .exact] H K := by
 obtain ⟨tk1, hS, htk, hsb⟩ := hq
 refine (Write_nil hS.store.disk j).mono ?_
 rintro r H' ⟨rfl, hD, hsb2⟩
 refine k H' ⟨tk1, hS.disk hD (writeD_ok hS.store.disk.ok j []).2.1 hsb2, htk, hsb.trans (hsb2.more fun o ho => ?_)⟩
 simp only [List.mem_cons, List.not_mem_nil, or_false] at ho
 rcases ho with rfl | rfl <;> simp [Ids.all]
end
theorem MadeQ.done {l : List Node} {ps rf : List Int} {nb : Int} {H H' : Heap} {i : Ids} (h : MadeQ l ps rf nb H i H') : DoneQ H' i (newG l ps rf nb) H' := DoneQ.refl h.2.1

end Go.Av
namespace Go.Av
open Go Go.Proofs

def sgA (t : Tr) (m : Int × Int) (n : Nat) (a : List ByteArray) (down : Bool) (d : DK) (deeds : List (Int × ByteArray × Bool)) (known : List (Int × Bool)) (asked : Int) : SG := ⟨[], [], t, m, n, a, down, d, deeds, known, asked⟩
theorem newA : ∃ d0, newG liA [] [] 40 = sgA TA (1, 1) 0 [] false d0 [] [] 0 := by
 have e : treeOf (beginL liA) = TA := by rw [TA_begin, TA_tree]
 have ek : keepM (preG liA [] [] 40) = (1, 1) := by
  show pickF (treeOf (beginL liA)) 0 = _
  rw [e, TA_pick]
 refine ⟨(saveD (emptyD 40) 1 (enc (keepS (preG liA [] [] 40)))).1, ?_⟩
 show (⟨[], [], treeOf (beginL liA), keepM (preG liA [] [] 40), 0, [], false, (saveD (emptyD 40) 1 (enc (keepS (preG liA [] [] 40)))).1, [], [], 0⟩ : SG) = _
 rw [e, ek]; rfl
theorem pre40 : (newG liA [] [] 40).d.cut = false := ((pre_ok (l := liA) (ps := []) (rf := []) (nb := 40) new40 (by decide) (by decide)).1.keep.2.2).trans rfl

theorem gone_sgA {t t' : Tr} {m : Int × Int} {n : Nat} {a : List ByteArray} {d : DK} {deeds deeds' : List (Int × ByteArray × Bool)} {known known' : List (Int × Bool)} {asked asked' : Int} {nm : ByteArray} (hm : m.2 = 1) (hn : (subT t m.1.toNat).root.name = nm)
 (hb : askB [] known (n + 1) = true) (hd : askD [] known deeds (n + 1) nm = deeds') (hk : askK [] known (n + 1) = known') (ha : IntKind.wrap .i64 (asked + 1) = asked') (ht : nextT t m = t') (dn : Bool) :
 askG (sgA t m n a dn d deeds known asked) = sgA t m n a dn d deeds' known' asked' ∧ goneG (sgA t m n a dn d deeds known asked) = sgA t' (0, 0) (n + 1) (a ++ [nm]) dn d deeds' known' asked' := by
 have hs : said (sgA t m n a dn d deeds known asked) = true := by unfold said; exact decide_eq_true hm
 have hr : refd (sgA t m n a dn d deeds known asked) = false := by
  unfold refd; rw [hs]
  show (true && !askB [] known ((n : Nat) + 1)) = false
  rw [hb]; rfl
 have hnm : nameG (sgA t m n a dn d deeds known asked) = nm := hn
 have e1 : askG (sgA t m n a dn d deeds known asked) = sgA t m n a dn d deeds' known' asked' := by
  unfold askG
  rw [if_pos hs, hnm]
  show (⟨[], [], t, m, n, a, dn, d, askD [] known deeds ((n : Nat) + 1) nm, askK [] known ((n : Nat) + 1), IntKind.wrap .i64 (asked + 1)⟩ : SG) = _
  rw [hd, hk, ha]; rfl
 refine ⟨e1, ?_⟩
 unfold goneG doneT doneA
 rw [e1, hr, hs, hnm]
 show (⟨[], [], nextT t m, (0, 0), n + 1, a ++ [nm], dn, d, deeds', known', asked'⟩ : SG) = _
 rw [ht]; rfl
theorem keep_sgA {t : Tr} {m m' : Int × Int} {n : Nat} {a : List ByteArray} {d : DK} {deeds : List (Int × ByteArray × Bool)} {known : List (Int × Bool)} {asked : Int} {dn : Bool} (hp : pickF t 0 = m') :
 ∃ d', keepG (sgA t m n a dn d deeds known asked) = sgA t m' n a dn d' deeds known asked := by
 have hk : keepM (sgA t m n a dn d deeds known asked) = m' := by
  show pickF t (([] : List Int).getD n 0) = m'
  rw [show ([] : List Int).getD n 0 = 0 by simp, hp]
 refine ⟨(saveD d (n + 1) (enc (keepS (sgA t m n a dn d deeds known asked)))).1, ?_⟩
 unfold keepG
 rw [hk]; rfl

theorem overT_act : actF TE = [] := by decide +kernel
theorem TE_en : enF TE = [] := by unfold enF actL; rw [overT_act]; simp
theorem TE_pick : pickF TE 0 = (0, 0) := pickF_none TE_en 0

theorem alive_plain : ∃ (g1 g2 g4 g5 : SG),
 stepG (newG liA [] [] 40) = (g1, 0) ∧ OkM liA.length 1 g1 ∧ haltG g1 = (g2, 0) ∧ OkM liA.length 2 g2 ∧ stepG g2 = (g2, 210) ∧ recG g2 = (g4, 0) ∧ OkM liA.length 2 g4 ∧ runG g4 9 = (g5, 1, 211) ∧
 g5.t = TE ∧ g5.a = [s_a, s_b] ∧ g5.down = false ∧ g5.asked = 3 ∧ (doneD g5.deeds).length = 2 ∧ g5.deeds.length = 2 ∧ g5.n = 2 := by
 obtain ⟨hpre, hbeg⟩ := pre_ok (l := liA) (ps := []) (rf := []) (nb := 40) new40 (by decide) (by decide)
 have ok0 : OkM liA.length 0 (newG liA [] [] 40) := hpre.keep.1
 have hcut := pre40
 obtain ⟨h1, h2, h3, h4, h5⟩ := newE_zero new40
 have hK0 : Kept (newG liA [] [] 40).d 1 (enc (keepS (preG liA [] [] 40))) := (first_save (nb := 40) (by decide) (by decide) hpre.encl).2
 obtain ⟨d0, e0⟩ := newA
 rw [e0] at ok0 hcut hK0 ⊢
 have hcut0 : d0.cut = false := hcut
 -- one step
 have st0 : stopsE (sgA TA (1, 1) 0 [] false d0 [] [] 0) = 0 := rfl
 obtain ⟨_, gone0⟩ := gone_sgA (t := TA) (t' := TB) (m := (1, 1)) (n := 0) (a := []) (d := d0) (deeds := []) (deeds' := [(1, s_a, true)]) (known := []) (known' := [(1, true)]) (asked := 0) (asked' := 1) (nm := s_a) rfl rfl (by decide) (by rfl) (by rfl) (by decide) TA_next false
 obtain ⟨d1, keep0⟩ := keep_sgA (t := TB) (m := (0, 0)) (n := 1) (a := [s_a]) (d := d0) (deeds := [(1, s_a, true)]) (known := [(1, true)]) (asked := 1) (dn := false) TB_pick
 have hk1 := step_kept ok0 st0 hK0
 rw [gone0] at hk1
 have keep0' : keepG (sgA TB (0, 0) (0 + 1) ([] ++ [s_a]) false d0 [(1, s_a, true)] [(1, true)] 1) = sgA TB (0, 1) 1 [s_a] false d1 [(1, s_a, true)] [(1, true)] 1 := keep0
 rw [keep0'] at hk1
 have okg0 := (ok0.gone (show TA.root.kind ≠ 11 by decide)).keep
 rw [gone0, keep0'] at okg0
 have hcut1 : d1.cut = false := okg0.2.2.trans hcut0
 rcases hk1 with ⟨s1, k1⟩ | ⟨e, _⟩
 rotate_left
 · have : d0.cut = true := e
   rw [hcut0] at this; cases this
 have ok1 : OkM liA.length 1 (sgA TB (0, 1) 1 [s_a] false d1 [(1, s_a, true)] [(1, true)] 1) := okg0.1
 -- a halt
 obtain ⟨ask1, _⟩ := gone_sgA (t := TB) (t' := TE) (m := (0, 1)) (n := 1) (a := [s_a]) (d := d1) (deeds := [(1, s_a, true)]) (deeds' := [(1, s_a, true), (2, s_b, true)]) (known := [(1, true)]) (known' := [(1, true), (2, true)]) (asked := 1) (asked' := 2) (nm := s_b) rfl rfl (by decide) (by rfl) (by rfl) (by decide) TB_next false
 have hh : haltG (sgA TB (0, 1) 1 [s_a] false d1 [(1, s_a, true)] [(1, true)] 1) = (sgA TB (0, 1) 1 [s_a] true d1 [(1, s_a, true), (2, s_b, true)] [(1, true), (2, true)] 2, 0) := by
  unfold haltG
  have hz : stopsE (sgA TB (0, 1) 1 [s_a] false d1 [(1, s_a, true)] [(1, true)] 1) = 0 := rfl
  rw [if_neg (by rw [hz]; decide), ask1]; rfl
 have ok2 : OkM liA.length 2 (sgA TB (0, 1) 1 [s_a] true d1 [(1, s_a, true), (2, s_b, true)] [(1, true), (2, true)] 2) := by
  have := ok1.halt; rw [hh] at this; exact this
 -- recovering
 have hS1 : keepS (sgA TB (0, 0) (0 + 1) ([] ++ [s_a]) false d0 [(1, s_a, true)] [(1, true)] 1) = ⟨TB.flat, 0, 1, 1, [s_a]⟩ := by
  unfold keepS
  have : keepM (sgA TB (0, 0) (0 + 1) ([] ++ [s_a]) false d0 [(1, s_a, true)] [(1, true)] 1) = (0, 1) := by
   show pickF TB (([] : List Int).getD 1 0) = (0, 1)
   rw [show ([] : List Int).getD 1 0 = 0 from rfl, TB_pick]
  rw [this]; rfl
 have hr1 : rightS ⟨TB.flat, 0, 1, 1, [s_a]⟩ = true := by
  have := (ok0.gone (show TA.root.kind ≠ 11 by decide)).keepR
  rw [gone0, hS1] at this; exact this
 have hrec : recG (sgA TB (0, 1) 1 [s_a] true d1 [(1, s_a, true), (2, s_b, true)] [(1, true), (2, true)] 2) = (sgA TB (0, 1) 1 [s_a] false { d1 with cut := false } [(1, s_a, true), (2, s_b, true)] [(1, true), (2, true)] 2, 0) := by
  have k2 : Kept (sgA TB (0, 1) 1 [s_a] true d1 [(1, s_a, true), (2, s_b, true)] [(1, true), (2, true)] 2).d 2 (enc ⟨TB.flat, 0, 1, 1, [s_a]⟩) := by
   rw [hS1] at k1; exact k1
  rw [rec_kept k2 hr1]
  show ((⟨[], [], treeOf TB.flat, (0, 1), 1, [s_a], false, { d1 with cut := false }, [(1, s_a, true), (2, s_b, true)], [(1, true), (2, true)], 2⟩ : SG), (0 : Int)) = _
  rw [TB_tree]; rfl
 have ok4 : OkM liA.length 2 (sgA TB (0, 1) 1 [s_a] false { d1 with cut := false } [(1, s_a, true), (2, s_b, true)] [(1, true), (2, true)] 2) :=
  (ok2.disk (d' := { d1 with cut := false }) ok2.dok rfl).setDown false
 -- to the end
 obtain ⟨_, gone4⟩ := gone_sgA (t := TB) (t' := TE) (m := (0, 1)) (n := 1) (a := [s_a]) (d := { d1 with cut := false }) (deeds := [(1, s_a, true), (2, s_b, true)]) (deeds' := [(1, s_a, true), (2, s_b, true)]) (known := [(1, true), (2, true)]) (known' := [(1, true), (2, true)]) (asked := 2) (asked' := 3) (nm := s_b) rfl rfl (by decide) (by rfl) (by rfl) (by decide) TB_next false
 obtain ⟨d5, keep4⟩ := keep_sgA (t := TE) (m := (0, 0)) (n := 2) (a := [s_a, s_b]) (d := { d1 with cut := false }) (deeds := [(1, s_a, true), (2, s_b, true)]) (known := [(1, true), (2, true)]) (asked := 3) (dn := false) TE_pick
 have keep4' : keepG (sgA TE (0, 0) (1 + 1) ([s_a] ++ [s_b]) false { d1 with cut := false } [(1, s_a, true), (2, s_b, true)] [(1, true), (2, true)] 3) = sgA TE (0, 0) 2 [s_a, s_b] false d5 [(1, s_a, true), (2, s_b, true)] [(1, true), (2, true)] 3 := keep4
 have st4 : stopsE (sgA TB (0, 1) 1 [s_a] false { d1 with cut := false } [(1, s_a, true), (2, s_b, true)] [(1, true), (2, true)] 2) = 0 := rfl
 have hk4 := step_kept ok4 st4 (Kept.uncut k1)
 rw [gone4, keep4'] at hk4
 rcases hk4 with ⟨s4, _⟩ | ⟨e, _⟩
 rotate_left
 · cases e
 have hrun : runG (sgA TB (0, 1) 1 [s_a] false { d1 with cut := false } [(1, s_a, true), (2, s_b, true)] [(1, true), (2, true)] 2) 9 = (sgA TE (0, 0) 2 [s_a, s_b] false d5 [(1, s_a, true), (2, s_b, true)] [(1, true), (2, true)] 3, 1, 211) := by
  have e5 : stepG (sgA TE (0, 0) 2 [s_a, s_b] false d5 [(1, s_a, true), (2, s_b, true)] [(1, true), (2, true)] 3) = (sgA TE (0, 0) 2 [s_a, s_b] false d5 [(1, s_a, true), (2, s_b, true)] [(1, true), (2, true)] 3, 211) := by
   have hz : stopsE (sgA TE (0, 0) 2 [s_a, s_b] false d5 [(1, s_a, true), (2, s_b, true)] [(1, true), (2, true)] 3) = 211 := rfl
   unfold stepG
   rw [hz, if_pos (by decide)]
  unfold runG
  rw [s4, if_neg (fun e => e rfl)]
  unfold runG
  rw [e5, if_pos (show (211 : Int) ≠ 0 by decide)]
 refine ⟨_, _, _, _, s1, ok1, hh, ok2, ?_, hrec, ok4, hrun, rfl, rfl, rfl, rfl, rfl, rfl, rfl⟩
 have hz : stopsE (sgA TB (0, 1) 1 [s_a] true d1 [(1, s_a, true), (2, s_b, true)] [(1, true), (2, true)] 2) = 210 := rfl
 unfold stepG
 rw [hz, if_pos (by decide)]

theorem joinAB : joinT [s_a, s_b] ++ s_ok = s_a_20b_20ok := by decide +kernel
set_option maxRecDepth 100000 in
theorem alive21_ok : Pur law21_alive [] (B true) := by
 intro H
 obtain ⟨g1, g2, g4, g5, p1, ok1, p2, ok2, p3, p4, ok4, p5, q1, q2, q3, q4, q5, q6, q7⟩ := alive_plain
 refine law21_alive_of ?_
 unfold W_law21_alive
 have e1 : ∀ k : Int, bld [(0, 1), (1, 1), (2, 1)] [.sc (.int .i64 0), S emp, .sc (.int .i64 0)] [(0, I k)] = some (nd ⟨k, emp, 0⟩) := fun k => rfl
 have e2 : ∀ b : ByteArray, bld [(0, 1), (1, 1), (2, 1)] [.sc (.int .i64 0), S emp, .sc (.int .i64 0)] [(0, I 1), (1, S b)] = some (nd ⟨1, b, 0⟩) := fun b => rfl
 simp only [e1, e2, pureK_some]
 have e4 : bsl 3 (.agg [.sc (.int .i64 0), S emp, .sc (.int .i64 0)]) 3 [(0, nd ⟨5, emp, 0⟩), (1, nd ⟨1, s_a, 0⟩), (2, nd ⟨1, s_b, 0⟩)] = some (rowA liA .exact) := rfl
 rw [e4]
 simp only [pureK_some]
 have e5 : ∀ k : Int, bld [(0, 1), (1, 1), (2, 1)] [.lst 0 [] .exact, .lst 0 [] .exact, .sc (.int .i64 0)] [(2, I k)] = some (.agg [intA [] 0 .exact, intA [] 0 .exact, I k]) := fun k => rfl
 have e6 : bld [(0, 1), (1, 1), (2, 1)] [.lst 0 [] .exact, .lst 0 [] .exact, .sc (.int .i64 0)] [] = some (.agg [intA [] 0 .exact, intA [] 0 .exact, I 0]) := rfl
 simp only [e5, e6, pureK_some]
 refine (New_ok liA .exact [] [] 0 0 .exact .exact 40 (.inr rfl) (.inr rfl) (by decide) (by decide) H).mono ?_
 rintro r H7 (⟨hne, _⟩ | ⟨_, i, rfl, hfree, hS, hsb, hok, _⟩)
 · exact absurd new40 hne
 simp only [extractE_tup, get0, get1, pureK_some]
 refine (New_ok liA .exact [] [] 0 0 .exact .exact 0 (.inr rfl) (.inr rfl) (by decide) (by decide) H7).mono ?_
 rintro r H12 (⟨_, rfl, rfl⟩ | ⟨hz, _⟩)
 rotate_left
 · rw [new0] at hz; cases hz
 simp only [extractE_tup, get0, get1, pureK_some]
 refine (New_ok liA .exact [] [] 0 0 .exact .exact 6 (.inr rfl) (.inr rfl) (by decide) (by decide) H12).mono ?_
 rintro r H17 (⟨_, rfl, rfl⟩ | ⟨hz, _⟩)
 rotate_left
 · rw [new6] at hz; cases hz
 have hq0 : DoneQ H17 i (newG liA [] [] 40) H17 := DoneQ.refl hS
 simp only [extractE_tup, get0, get1, pureK_some, bop_neq, condK_B, eql_nil]
 refine ⟨fun e => by simp at e, fun _ => ⟨fun e => by simp at e, fun _ => hq0.deal ?_⟩⟩
 rw [eql_nil]
 simp only [pureK_some, condK_B]
 refine ⟨fun e => by simp at e, fun _ => hq0.disk ?_⟩
 rw [eql_nil]
 simp only [pureK_some, condK_B]
 refine ⟨fun e => by simp at e, fun _ => ?_⟩
 refine hq0.step hok (by omega) fun H29 hq1 => ?_
 rw [p1] at hq1 ⊢
 refine hq1.halt ok1 (by omega) fun H31 hq2 => ?_
 rw [p2] at hq2 ⊢
 refine hq2.step ok2 (by omega) fun H33 hq3 => ?_
 rw [p3] at hq3 ⊢
 refine hq3.recover fun H35 hq4 => ?_
 rw [p4] at hq4 ⊢
 refine hq4.run ok4 9 (by decide) (by omega) fun H37 hq5 ok5 => ?_
 rw [show ((9 : Int).toNat) = 9 from rfl, p5] at hq5 ok5 ⊢
 simp only [extractE_tup, get0, get1, pureK_some]
 refine hq5.trace ok5.live.good.ok (by show g5.a.length ≤ _; rw [q2]; decide) ?_
 have hk : g5.t.root.kind = 11 := by rw [q1]; rfl
 have hsg : g5.t.root.sign = 1 := by rw [q1]; rfl
 rw [show ((g5, 1, 211) : SG × Nat × Int).1 = g5 from rfl] at hq5 ⊢
 rw [if_pos hk, hsg, q2]
 simp only [extractE_tup, get0, get1, pureK_some]
 intro o ho
 rw [st_at (n := 2) (v := .agg [txtA [s_a, s_b] .no, I 1]) (Heap.upd_same _ _ _) rfl (by simp) rfl]
 simp only [heapK_some, Heap.upd_upd']
 have e9 : splice [.lst 0 [] .exact, .sc (.int .i64 0)] 0 (AV.cells (.agg [txtA [s_a, s_b] .no, I 1])) = [txtA [s_a, s_b] .no, I 1] := rfl
 rw [e9]
 have hH : H ≤ H37 := DoneQ.le hfree hsb hq5
 have hle : H37 ≤ H37.upd o (.cells [txtA [s_a, s_b] .no, I 1]) := by simp [ho]
 have g46 : (H37.upd o (.cells [txtA [s_a, s_b] .no, I 1])) o = some (.cells [txtA [s_a, s_b] .no, I 1]) := Heap.upd_same _ _ _
 obtain ⟨tk', hS46⟩ := hq5.alloc ho (.cells [txtA [s_a, s_b] .no, I 1])
 generalize H37.upd o (.cells [txtA [s_a, s_b] .no, I 1]) = H46 at hle g46 hS46 ⊢
 have hq : DoneQ H46 { i with tk := tk' } g5 H46 := DoneQ.refl hS46
 have no : ∀ (P : Prop), ¬ P → (P → ret1 H46 (fun r H' => r = B true ∧ H' = H) (B false)) := fun P h hp => absurd hp h
 simp only [bop_eql, condK_B, pureK_some, decide_eq_true_eq, decide_eq_false_iff_not]
 refine ⟨fun _ => ⟨fun _ => ⟨fun _ => ⟨fun _ => ⟨fun _ => ⟨fun _ => ⟨fun _ => ⟨fun _ => ?_, fun e => (e (by first | trivial | rfl)).elim⟩, fun e => (e (by first | trivial | rfl)).elim⟩, fun e => (e (by first | trivial | rfl)).elim⟩, fun e => (e (by first | trivial | rfl)).elim⟩, fun e => (e (by first | trivial | rfl)).elim⟩, fun e => (e (by first | trivial | rfl)).elim⟩, ?_⟩, ?_⟩
 rotate_left
 · intro e; exact absurd new6 e
 · intro e; exact absurd new0 e
 rw [ld_ptr g46]
 have e10 : cutE [txtA [s_a, s_b] .no, I 1] 0 (some true) 2 = some (.agg [txtA [s_a, s_b] .no, I 1]) := rfl
 rw [e10]
 simp only [pureK_some]
 refine (trace_Text_one [s_a, s_b] .no (by decide) (by decide +kernel)).run ?_
 rw [joinAB]
 simp only [bop_seql, condK_B, pureK_some]
 refine ⟨fun _ => ⟨fun _ => ?_, fun e => by simp at e⟩, fun e => by simp at e⟩
 refine hq.down ?_
 rw [q3]
 simp only [unE_not, pureK_some, condK_B]
 refine ⟨fun _ => ?_, fun e => by simp at e⟩
 refine hq.deal (hq.asked ?_)
 rw [q4]
 simp only [bop_eql, condK_B, pureK_some]
 refine ⟨fun _ => ?_, fun e => by simp at e⟩
 refine hq.deal (hq.done (by omega) fun s q => ?_)
 simp only [lnl_lst, List.length_map, pureK_some, q5, bop_eql, condK_B]
 refine ⟨fun _ => ?_, fun e => by simp at e⟩
 refine hq.state (by rw [q1]; decide) (by rw [q2]; decide) ?_
 have e11 : ∀ l m1 m2 n a, fld 3 (some false) 1 (stA ⟨l, m1, m2, n, a⟩ .no .no) = some (I n) := fun _ _ _ _ _ => rfl
 rw [e11]
 simp only [pureK_some, q7, bop_eql]
 exact ret1_of H (Heap.le_trans hH hle) ⟨rfl, rfl⟩

end Go.Av
namespace Go.Av
open Go Go.Proofs

end Go.Av
