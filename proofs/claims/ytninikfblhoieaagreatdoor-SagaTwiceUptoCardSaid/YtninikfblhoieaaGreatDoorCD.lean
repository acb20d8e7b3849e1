/- Own text CD of this claim: see the text that holds the theorem. -/
import Derived.Test.YtninikfblhoieaaGreatDoorCC
set_option linter.all false
set_option maxRecDepth 100000
namespace Go.Av
open Go Go.Proofs

theorem Weaker.agg {cs ds : List AV} (hl : cs.length = ds.length) (hs : ∀ i, i < ds.length → (ds.getD i .dead).single = true) (h : ∀ i, i < cs.length → Weaker (cs.getD i .dead) (ds.getD i .dead)) : Weaker (.agg cs) (.agg ds) := by
 intro G w v hv
 cases hv with
 | agg vs cs hl' hs' h' => exact .agg vs ds (hl'.trans hl) hs fun i hi => h i (by omega) _ _ _ (h' i (by omega))
theorem Weaker.tup {cs ds : List AV} (hl : cs.length = ds.length) (h : ∀ i, i < cs.length → Weaker (cs.getD i .dead) (ds.getD i .dead)) : Weaker (.tup cs) (.tup ds) := by
 intro G w v hv
 cases hv with
 | tup vs cs hl' h' => exact .tup vs ds (hl'.trans hl) fun i hi => h i (by omega) _ _ _ (h' i (by omega))
theorem Weaker.tup2 {a b a' b' : AV} (h1 : Weaker a a') (h2 : Weaker b b') : Weaker (.tup [a, b]) (.tup [a', b']) :=
 Weaker.tup rfl fun i hi => by
  match i, hi with
  | 0, _ => exact h1
  | 1, _ => exact h2
theorem ACalls.args {P : Program} {Γ : Nat → Option AV} {f : FuncId} {args args' : List AV} {H : Heap} {R : AV → Heap → Prop} (hl : args.length = args'.length) (h : ∀ i, i < args.length → Weaker (args.getD i .dead) (args'.getD i .dead)) (hc : ACalls P Γ f args' H R) : ACalls P Γ f args H R := by
 intro G w vs hW hl2 hr
 exact hc G w vs hW (hl2.trans hl) fun i hi => h i (by omega) _ _ _ (hr i (by omega))
theorem ACalls.arg1 {P : Program} {Γ : Nat → Option AV} {f : FuncId} {a a' : AV} {H : Heap} {R : AV → Heap → Prop} (h : Weaker a a') (hc : ACalls P Γ f [a'] H R) : ACalls P Γ f [a] H R :=
 ACalls.args (args' := [a']) rfl (fun i hi => by
  match i, hi with
  | 0, _ => exact h) hc

theorem stW {s : St} {lv av : AV} (h1 : Weaker lv (rowA s.l .no)) (h2 : Weaker av (txtA s.a .no)) : Weaker (.agg [lv, I s.pl, I s.how, I s.n, av]) (stA s .no .no) :=
 Weaker.agg rfl (fun i hi => by
  match i, hi with
  | 0, _ => rfl
  | 1, _ => rfl
  | 2, _ => rfl
  | 3, _ => rfl
  | 4, _ => rfl) (fun i hi => by
  match i, hi with
  | 0, _ => exact h1
  | 1, _ => exact Weaker.refl _
  | 2, _ => exact Weaker.refl _
  | 3, _ => exact Weaker.refl _
  | 4, _ => exact h2)

def Acc (H HX : Heap) (s : Nat) (es : List AV) (v : AV) : Prop := (es = [] ∧ v = .lst 0 [] .exact) ∨ ∃ t, v = .lst s es (.tok t) ∧ H t = none ∧ HX t = some (.tok es.length)

theorem Acc.weak {H HX : Heap} {s : Nat} {es : List AV} {v : AV} (h : Acc H HX s es v) : Weaker v (.lst s es .no) := by
 rcases h with ⟨rfl, rfl⟩ | ⟨t, rfl, _⟩
 · exact Weaker.empty
 · exact Weaker.lst
theorem Acc.cells {H HX : Heap} {s : Nat} {es : List AV} {v : AV} (h : Acc H HX s es v) : v.cells = [v] ∧ v.single = true := by
 rcases h with ⟨rfl, rfl⟩ | ⟨t, rfl, _⟩ <;> exact ⟨rfl, rfl⟩
theorem Acc.upd {H HX : Heap} {s : Nat} {es : List AV} {v : AV} (h : Acc H HX s es v) {o : Nat} {x : AObj} (ho : ∀ n, HX o ≠ some (.tok n)) : Acc H (HX.upd o x) s es v := by
 rcases h with h | ⟨t, h1, h2, h3⟩
 · exact .inl h
 · refine .inr ⟨t, h1, h2, ?_⟩
   rw [Heap.upd_ne _ _ (fun e => by subst e; exact ho _ h3)]; exact h3
theorem le_none {H HX : Heap} (hle : H ≤ HX) {t : Nat} (h : HX t = none) : H t = none := by
 cases e : H t with
 | none => rfl
 | some x => rw [hle t x e] at h; cases h

theorem acc_app {H HX : Heap} {s : Nat} {es ys : List AV} {v y : AV} {K : AV → Heap → Prop} (h : Acc H HX s es v) (hle : H ≤ HX) (hy : appended s y = some ys) (hl : es.length + ys.length ≤ maxApp)
 (k : ∀ v' HX', Acc H HX' s (es ++ ys) v' → H ≤ HX' → (∀ o cs, HX o = some (.cells cs) → HX' o = some (.cells cs)) → K v' HX') : appK s v y HX K := by
 left
 unfold appK1
 rcases h with ⟨rfl, rfl⟩ | ⟨t, rfl, ht, hX⟩
 · simp only [hy]
   refine ⟨.inr trivial, hl, .inr (.inl fun t ht => ?_)⟩
   refine k _ _ (.inr ⟨t, rfl, le_none hle ht, by simp [Heap.upd_same]⟩) (Heap.le_upd hle (le_none hle ht)) fun o cs ho => ?_
   rw [Heap.upd_ne _ _ (fun e => by subst e; rw [ht] at ho; cases ho)]; exact ho
 · simp only [hy]
   refine ⟨.inl trivial, hl, trivial, hX, ?_⟩
   refine k _ _ (.inr ⟨t, rfl, ht, by simp [Heap.upd_same]⟩) (Heap.le_upd hle ht) fun o cs ho => ?_
   rw [Heap.upd_ne _ _ (fun e => by subst e; rw [hX] at ho; cases ho)]; exact ho

def RD (HX : Heap) (o : Nat) (bs : List UInt8) (bad : Bool) : Prop := ∃ p, HX o = some (.cells [bytA bs p, B bad])

theorem enters_next : enters PP code_reader_next = true := by kernel_rfl

theorem callK_next {HX : Heap} {o : Nat} {bs : List UInt8} {bad : Bool} {K : AV → Heap → Prop} (h : RD HX o bs bad) (hl : bs.length ≤ 1000000)
 (k : ∀ q, K (I (headI bs)) (HX.upd o (.cells [bytA bs.tail q, B (bad || bs.isEmpty)]))) : callK E_code_Decode (.fn (.func code_reader_next) [.ptr o 0] []) [] HX K := by
 obtain ⟨p, h⟩ := h
 unfold callK
 simp only [List.append_nil]
 show (bif enters PP code_reader_next then _ else _)
 rw [enters_next]
 refine (reader_next_ok bs bad p o HX h hl).mono ?_
 rintro r H' ⟨q, rfl, rfl⟩
 exact k q

theorem headI_le (bs : List UInt8) : headI bs ≤ 255 := by
 cases bs with
 | nil => simp [headI]
 | cons b bs => have := b.toNat_lt; simp only [headI]; omega

theorem rdMany_len {α : Type} (f : List UInt8 → Bool → Rd α) : ∀ (n : Nat) (bs : List UInt8) (bad : Bool), (rdMany f n bs bad).1.length ≤ n := by
 intro n
 induction n with
 | zero => intro bs bad; exact Nat.le_refl _
 | succ n ih =>
   intro bs bad
   cases bad with
   | true => simp [rdMany]
   | false => simp only [rdMany, List.length_cons]; have := ih (f bs false).2.1 (f bs false).2.2; omega
theorem rdMany_all {α : Type} {f : List UInt8 → Bool → Rd α} {P : α → Prop} (h : ∀ bs bad, P (f bs bad).1) : ∀ (n : Nat) (bs : List UInt8) (bad : Bool) x, x ∈ (rdMany f n bs bad).1 → P x := by
 intro n
 induction n with
 | zero => intro bs bad x hx; simp [rdMany] at hx
 | succ n ih =>
   intro bs bad x hx
   cases bad with
   | true => simp [rdMany] at hx
   | false =>
     simp only [rdMany, List.mem_cons] at hx
     rcases hx with rfl | hx
     · exact h _ _
     · exact ih _ _ x hx
theorem rdMany_bs {α : Type} {f : List UInt8 → Bool → Rd α} (h : ∀ bs bad, (f bs bad).2.1.length ≤ bs.length) : ∀ (n : Nat) (bs : List UInt8) (bad : Bool), (rdMany f n bs bad).2.1.length ≤ bs.length := by
 intro n
 induction n with
 | zero => intro bs bad; exact Nat.le_refl _
 | succ n ih =>
   intro bs bad
   cases bad with
   | true => exact Nat.le_refl _
   | false => exact Nat.le_trans (ih _ _) (h _ _)
theorem rdName_size (bs : List UInt8) (bad : Bool) : (rdName bs bad).1.size ≤ 255 := by
 have h1 := headI_le bs
 have h2 : (bs.tail.take (nameN bs)).length ≤ nameN bs := by simp; omega
 have h3 : nameN bs ≤ (headI bs).toNat := Nat.min_le_left _ _
 show (bs.tail.take (nameN bs)).toArray.size ≤ 255
 rw [List.size_toArray]; omega
theorem rdName_bs (bs : List UInt8) (bad : Bool) : (rdName bs bad).2.1.length ≤ bs.length := by
 show (bs.tail.drop _).length ≤ _
 simp only [List.length_drop, List.length_tail]; omega
theorem rdNext_bs (bs : List UInt8) (bad : Bool) : (rdNext bs bad).2.1.length ≤ bs.length := by
 show bs.tail.length ≤ _
 simp
theorem rdNode_size (bs : List UInt8) (bad : Bool) : (rdNode bs bad).1.name.size ≤ 255 := by
 unfold rdNode
 split
 · exact rdName_size (rdNext bs bad).2.1 (rdNext bs bad).2.2
 · split <;> simp [emp, ByteArray.size]
theorem rdNode_bs (bs : List UInt8) (bad : Bool) : (rdNode bs bad).2.1.length ≤ bs.length := by
 unfold rdNode
 split
 · exact Nat.le_trans (rdName_bs (rdNext bs bad).2.1 (rdNext bs bad).2.2) (rdNext_bs _ _)
 · split
   · exact Nat.le_trans (rdNext_bs (rdNext bs bad).2.1 (rdNext bs bad).2.2) (rdNext_bs _ _)
   · exact rdNext_bs _ _

end Go.Av
namespace Go.Av
open Go Go.Proofs

abbrev zeroC : List AV := [.lst 0 [] .exact, I 0, I 0, I 0, .lst 0 [] .exact]
def decV (o : Option St) : AV := match o with | some s => .tup [stA s .no .no, I 0] | none => .tup [stA zeroSt .no .no, I 190]

theorem zeroW : Weaker (.agg zeroC) (stA zeroSt .no .no) := stW (s := zeroSt) Weaker.empty Weaker.empty

theorem rdMany_bad {α : Type} (f : List UInt8 → Bool → Rd α) (n : Nat) (bs : List UInt8) : rdMany f n bs true = ([], bs, true) := by cases n <;> rfl
theorem rdMany_succ {α : Type} (f : List UInt8 → Bool → Rd α) (n : Nat) (bs : List UInt8) : rdMany f (n + 1) bs false = ((f bs false).1 :: (rdMany f n (f bs false).2.1 (f bs false).2.2).1, (rdMany f n (f bs false).2.1 (f bs false).2.2).2) := rfl

theorem decode_tail (b : List UInt8) (p : Perm) (hb : b.length ≤ 1000000) (H HX : Heap) (o1 or os : Nat) (n12 : o1 ≠ or) (n13 : o1 ≠ os) (n23 : or ≠ os) (f1 : H o1 = none) (f2 : H or = none) (f3 : H os = none) (lv av : AV) (hls : lv.single = true) (has : av.single = true)
 (hlv : Weaker lv (rowA (rdState b).1.l .no)) (hav : Weaker av (txtA (rdState b).1.a .no)) (hrd : RD HX or (rdState b).2.1 (rdState b).2.2) (hle : H ≤ HX) (hos : HX os = some (.cells [lv, I (rdState b).1.pl, I (rdState b).1.how, I (rdState b).1.n, av])) (ho1 : HX o1 = some (.cells zeroC))
 (hl : (rdState b).1.l.length ≤ 255) (ha : (rdState b).1.a.length ≤ 255) (hn : ∀ x, x ∈ (rdState b).1.l → x.name.size ≤ 255) (hna : ∀ x, x ∈ (rdState b).1.a → x.size ≤ 255)
 (K : AV → Heap → Prop) (k : ∀ v HY, H ≤ HY → Weaker v (decV (decode b)) → K v HY) : 
 pureK (ld (some true) 5 HX (.ptr os 0)) fun x111 =>
 ACalls PP gΓ code_Encode [x111] HX fun x112 H113 =>
 pureK (extractE x112 0) fun x114 =>
 pureK (extractE x112 1) fun x115 =>
 pureK (unE .not x115) fun x116 =>
 condK x116 (
  pureK (bld [(0, 1), (1, 2), (3, 1), (4, 1)] [.lst 0 [] .exact, .sc (.int .i64 0), .sc (.int .i64 0), .sc (.int .i64 0), .lst 0 [] .exact] []) fun x117 =>
  heapK (st 5 H113 (.ptr o1 0) x117) fun H118 =>
  pureK (ld (some true) 5 H118 (.ptr o1 0)) fun x119 =>
  K (.tup [x119, I 190]) H118
 ) (
  pureK (nilE (.ptr or 0)) fun x120 =>
  pureK (fa 1 x120) fun x121 =>
  pureK (ld (some false) 1 H113 x121) fun x122 =>
  condK x122 (
   pureK (bld [(0, 1), (1, 2), (3, 1), (4, 1)] [.lst 0 [] .exact, .sc (.int .i64 0), .sc (.int .i64 0), .sc (.int .i64 0), .lst 0 [] .exact] []) fun x123 =>
   heapK (st 5 H113 (.ptr o1 0) x123) fun H124 =>
   pureK (ld (some true) 5 H124 (.ptr o1 0)) fun x125 =>
   K (.tup [x125, I 190]) H124
  ) (
   ACalls PP gΓ bytes_Equal [x114, bytA b p] H113 fun x126 H127 =>
   pureK (unE .not x126) fun x128 =>
   condK x128 (
    pureK (bld [(0, 1), (1, 2), (3, 1), (4, 1)] [.lst 0 [] .exact, .sc (.int .i64 0), .sc (.int .i64 0), .sc (.int .i64 0), .lst 0 [] .exact] []) fun x129 =>
    heapK (st 5 H127 (.ptr o1 0) x129) fun H130 =>
    pureK (ld (some true) 5 H130 (.ptr o1 0)) fun x131 =>
    K (.tup [x131, I 190]) H130
   ) (
    pureK (ld (some true) 5 H127 (.ptr os 0)) fun x132 =>
    heapK (st 5 H127 (.ptr o1 0) x132) fun H133 =>
    pureK (ld (some true) 5 H133 (.ptr o1 0)) fun x134 =>
    K (.tup [x134, I 0]) H133
   )
  )
 ) := by
  have ez : bld [(0, 1), (1, 2), (3, 1), (4, 1)] [.lst 0 [] .exact, .sc (.int .i64 0), .sc (.int .i64 0), .sc (.int .i64 0), .lst 0 [] .exact] [] = some (.agg zeroC) := rfl
  rw [ez, ld_ptr hos]
  simp only [cutE_agg, List.length_cons, List.length_nil, List.drop_zero, List.take_succ_cons, List.take_zero, Nat.zero_add, Nat.reduceAdd, Nat.le_refl, if_true, pureK_some]
  have hR := code_Right_ok settleOk (rdState b).1 .no .no (by unfold small; omega) (fun x hx => by have := hn x hx; omega) (by unfold small; omega) (fun x hx => by have := hna x hx; omega)
  refine (ACalls.arg1 (stW hlv hav) (code_Encode_ok (rdState b).1 .no .no _ hR (fun h => by have := enc_len h; omega) (by unfold small; omega) (by unfold small; omega) HX)).mono ?_
  have fail : ∀ HY : Heap, H ≤ HY → HY o1 = some (.cells zeroC) → decode b = none → heapK (st 5 HY (.ptr o1 0) (.agg zeroC)) fun H118 => pureK (ld (some true) 5 H118 (.ptr o1 0)) fun x119 => K (.tup [x119, I 190]) H118 := by
   intro HY hy ho hd
   rw [st_get (n := 5) (off := 0) (v := .agg zeroC) (r := zeroC) ho rfl (by simp) rfl rfl]
   simp only [heapK_some, ld_upd, cutE_agg, List.length_cons, List.length_nil, List.drop_zero, List.take_succ_cons, List.take_zero, Nat.zero_add, Nat.reduceAdd, Nat.le_refl, if_true, pureK_some]
   refine k _ _ (Heap.le_upd hy f1) ?_
   rw [hd]
   exact Weaker.tup2 zeroW (Weaker.refl _)
  rintro r H1 (⟨hr, rfl, rfl⟩ | ⟨hr, v, rfl, hout⟩)
  · simp only [extractE_tup, get0, get1, pureK_some, unE_not, condK_B]
    refine ⟨fun _ => fail H1 hle ho1 ?_, fun h => absurd h (by decide)⟩
    unfold decode; rw [if_neg]; rw [hr]; simp
  · obtain ⟨q, hrd⟩ := hrd
    simp only [extractE_tup, get0, get1, pureK_some, unE_not, condK_B, nilE_ptr, fa_ptr, ld_ptr (hout.get hrd), cutE_one, Nat.zero_add]
    refine ⟨fun h => absurd h (by decide), fun _ => ?_⟩
    have hle1 : H ≤ H1 := fun o x h => hout.le o x (hle o x h)
    refine ⟨fun h => fail H1 hle1 (hout.get ho1) ?_, fun h => ?_⟩
    · unfold decode; rw [if_neg]; rw [h]; simp
    · obtain ⟨q1, rfl, hb1⟩ := hout
      refine (bytes_Equal_ok _ _ q1 p).run ?_
      simp only [unE_not, pureK_some, condK_B]
      refine ⟨fun h2 => fail H1 hle1 (hb1.le _ _ ho1) ?_, fun h2 => ?_⟩
      · unfold decode; rw [if_neg]; intro h3; simp [h3.2.2] at h2
      · rw [ld_ptr (hb1.le _ _ hos)]
        simp only [cutE_agg, List.length_cons, List.length_nil, List.drop_zero, List.take_succ_cons, List.take_zero, Nat.zero_add, Nat.reduceAdd, Nat.le_refl, if_true, pureK_some]
        rw [st_get (n := 5) (off := 0) (r := [lv, I (rdState b).1.pl, I (rdState b).1.how, I (rdState b).1.n, av]) (hb1.le _ _ ho1) rfl (by simp) ?_ rfl]
        · simp only [heapK_some, ld_upd, cutE_agg, List.length_cons, List.length_nil, List.drop_zero, List.take_succ_cons, List.take_zero, Nat.zero_add, Nat.reduceAdd, Nat.le_refl, if_true, pureK_some]
          refine k _ _ (Heap.le_upd hle1 f1) ?_
          have : decode b = some (rdState b).1 := by
           unfold decode; rw [if_pos ⟨hr, h, by simpa using h2⟩]
          rw [this]
          exact Weaker.tup2 (stW hlv hav) (Weaker.refl _)
        · simp [hls, has]

theorem RD.upd {HX : Heap} {o i : Nat} {x : AObj} {bs : List UInt8} {bad : Bool} (h : RD HX o bs bad) (hne : i ≠ o) : RD (HX.upd i x) o bs bad := by
 obtain ⟨p, h⟩ := h
 exact ⟨p, by rw [Heap.upd_ne _ _ (fun e => hne e.symm)]; exact h⟩
theorem RD.new (HX : Heap) (o : Nat) (bs : List UInt8) (bad : Bool) (q : Perm) : RD (HX.upd o (.cells [bytA bs q, B bad])) o bs bad := ⟨q, Heap.upd_same _ _ _⟩
theorem RD.some {HX : Heap} {o : Nat} {bs : List UInt8} {bad : Bool} (h : RD HX o bs bad) : ∀ n, HX o ≠ some (.tok n) := by
 obtain ⟨p, h⟩ := h
 intro n e; rw [h] at e; cases e
theorem RD.keep {HX HY : Heap} {o : Nat} {bs : List UInt8} {bad : Bool} (h : RD HX o bs bad) (hk : ∀ o cs, HX o = .some (.cells cs) → HY o = .some (.cells cs)) : RD HY o bs bad := by
 obtain ⟨p, h⟩ := h
 exact ⟨p, hk _ _ h⟩

structure DI (H HX : Heap) (o1 or os : Nat) (bs : List UInt8) (bad : Bool) (cs : List AV) : Prop where
 le : H ≤ HX
 rd : RD HX or bs bad
 os : HX os = .some (.cells cs)
 o1 : HX o1 = .some (.cells zeroC)

theorem DI.keep {H HX HY : Heap} {o1 or os : Nat} {bs : List UInt8} {bad : Bool} {cs : List AV} (h : DI H HX o1 or os bs bad cs) (hle : H ≤ HY) (hk : ∀ o cs, HX o = .some (.cells cs) → HY o = .some (.cells cs)) : DI H HY o1 or os bs bad cs :=
 ⟨hle, h.rd.keep hk, hk _ _ h.os, hk _ _ h.o1⟩
theorem DI.upd {H HX : Heap} {o1 or os i : Nat} {x : AObj} {bs : List UInt8} {bad : Bool} {cs : List AV} (h : DI H HX o1 or os bs bad cs) (h1 : o1 ≠ i) (h2 : or ≠ i) (h3 : os ≠ i) (hi : H i = none) : DI H (HX.upd i x) o1 or os bs bad cs :=
 ⟨Heap.le_upd h.le hi, h.rd.upd (fun e => h2 e.symm), by rw [Heap.upd_ne _ _ h3]; exact h.os, by rw [Heap.upd_ne _ _ h1]; exact h.o1⟩
theorem DI.ups {H HX : Heap} {o1 or os : Nat} {bs : List UInt8} {bad : Bool} {cs ds : List AV} (h : DI H HX o1 or os bs bad cs) (h1 : o1 ≠ os) (h2 : or ≠ os) (hi : H os = none) : DI H (HX.upd os (.cells ds)) o1 or os bs bad ds :=
 ⟨Heap.le_upd h.le hi, h.rd.upd (fun e => h2 e.symm), Heap.upd_same _ _ _, by rw [Heap.upd_ne _ _ h1]; exact h.o1⟩
theorem cells_tok {HX : Heap} {o : Nat} {cs : List AV} (h : HX o = .some (.cells cs)) : ∀ n, HX o ≠ .some (.tok n) := fun n e => by rw [h] at e; cases e

theorem code_Decode_ok (b : List UInt8) (p : Perm) (hb : b.length ≤ 1000000) : Pur code_Decode [bytA b p] (decV (decode b)) := by
 refine Pur.weaken (φ := fun r => Weaker r (decV (decode b))) (fun H => ?_) (fun r h => h)
 refine code_Decode_of ?_
 unfold W_code_Decode
 intro o1 f1
 have e1 : bld [(0, 1), (1, 1)] [.lst 0 [] .exact, B false] [(0, bytA b p)] = some (.agg [bytA b p, B false]) := rfl
 rw [e1]
 simp only [pureK_some, cells_agg]
 rw [allocK_some]
 refine ⟨rfl, ?_⟩
 intro or f2 os f3
 simp only [upd_none_iff] at f2 f3
 obtain ⟨n21, f2⟩ := f2
 obtain ⟨n32, n31', f3⟩ := f3
 have n31 : o1 ≠ os := fun e => n31' e.symm
 have n23 : or ≠ os := fun e => n32 e.symm
 have hD0 : DI H (((H.upd o1 (.cells zeroC)).upd or (.cells [bytA b p, B false])).upd os (.cells zeroC)) o1 or os b false zeroC := by
  refine ⟨by simp [f1, f2, f3], ⟨p, ?_⟩, Heap.upd_same _ _ _, ?_⟩
  · rw [Heap.upd_ne _ _ (fun e => n32 e.symm), Heap.upd_same]
  · rw [Heap.upd_ne _ _ n31, Heap.upd_ne _ _ (fun e => n21 e.symm), Heap.upd_same]
 generalize ((H.upd o1 (.cells zeroC)).upd or (.cells [bytA b p, B false])).upd os (.cells zeroC) = H7 at hD0
 -- a read
 have next : ∀ {HX : Heap} {bs : List UInt8} {bad : Bool} {cs : List AV} {K : AV → Heap → Prop}, DI H HX o1 or os bs bad cs → bs.length ≤ 1000000 →
  (∀ HY, DI H HY o1 or os (rdNext bs bad).2.1 (rdNext bs bad).2.2 cs → (∀ (s : Nat) (es : List AV) (v : AV), Acc H HX s es v → Acc H HY s es v) → (∀ i, i ≠ or → HY i = HX i) → K (I (rdNext bs bad).1) HY) → callK E_code_Decode (.fn (.func code_reader_next) [.ptr or 0] []) [] HX K := by
  intro HX bs bad cs K h hl k
  refine callK_next h.rd hl fun q => k _ ⟨Heap.le_upd h.le f2, RD.new _ _ _ _ _, ?_, ?_⟩ (fun s es v ha => ha.upd h.rd.some) (fun i hi => Heap.upd_ne _ _ hi)
  · rw [Heap.upd_ne _ _ n32]; exact h.os
  · rw [Heap.upd_ne _ _ (fun e => n21 e.symm)]; exact h.o1
 have rname : ∀ {HX : Heap} {bs : List UInt8} {bad : Bool} {cs : List AV} {K : AV → Heap → Prop}, DI H HX o1 or os bs bad cs → bs.length ≤ 1000000 →
  (∀ HY, DI H HY o1 or os (rdName bs bad).2.1 (rdName bs bad).2.2 cs → (∀ (s : Nat) (es : List AV) (v : AV), Acc H HX s es v → Acc H HY s es v) → (∀ i, i ≠ or → HY i = HX i) → K (S (rdName bs bad).1) HY) → ACalls PP gΓ code_reader_name [.ptr or 0] HX K := by
  intro HX bs bad cs K h hl k
  obtain ⟨p, hrd⟩ := h.rd
  refine (reader_name_ok bs bad p or HX hrd hl).mono ?_
  rintro r H' ⟨q, rfl, rfl⟩
  refine k _ ⟨Heap.le_upd h.le f2, RD.new _ _ _ _ _, ?_, ?_⟩ (fun s es v ha => ha.upd h.rd.some) (fun i hi => Heap.upd_ne _ _ hi)
  · rw [Heap.upd_ne _ _ n32]; exact h.os
  · rw [Heap.upd_ne _ _ (fun e => n21 e.symm)]; exact h.o1
 generalize hR0 : rdNext b false = R0
 generalize hM : rdMany rdNode R0.1.toNat R0.2.1 R0.2.2 = M
 have hR0b : R0.2.1.length ≤ 1000000 := by rw [← hR0]; have := rdNext_bs b false; omega
 have hR0n : 0 ≤ R0.1 ∧ R0.1 ≤ 255 := by rw [← hR0]; exact ⟨headI_nonneg b, headI_le b⟩
 have hMl : M.1.length ≤ 255 := by rw [← hM]; have := rdMany_len rdNode R0.1.toNat R0.2.1 R0.2.2; omega
 have hMb : M.2.1.length ≤ 1000000 := by rw [← hM]; have := rdMany_bs rdNode_bs R0.1.toNat R0.2.1 R0.2.2; omega
 -- behind the first loop
 refine ⟨fun vs HX => ∃ lv, vs = [bytA b p, .ptr o1 0, .ptr or 0, .fn (.func code_reader_next) [.ptr or 0] [], .ptr os 0] ∧ DI H HX o1 or os M.2.1 M.2.2 [lv, I 0, I 0, I 0, .lst 0 [] .exact] ∧ Weaker lv (rowA M.1 .no) ∧ lv.single = true, ?_, ?_⟩
 · refine next hD0 hb fun HY hY hA _ => ?_
   rw [hR0] at hY ⊢
   refine ⟨fun vs HX n => ∃ (l : List Node) (lv : AV) (bs : List UInt8) (bad : Bool) (k : Int), vs = [bytA b p, .ptr o1 0, .ptr or 0, .fn (.func code_reader_next) [.ptr or 0] [], .ptr os 0, I k] ∧ n = k.toNat ∧ 0 ≤ k ∧ k ≤ 255 ∧ bs.length ≤ 1000000 ∧
    l ++ (rdMany rdNode k.toNat bs bad).1 = M.1 ∧ (rdMany rdNode k.toNat bs bad).2 = M.2 ∧ DI H HX o1 or os bs bad [lv, I 0, I 0, I 0, .lst 0 [] .exact] ∧ Acc H HX 3 (l.map nd) lv,
    ⟨_, HY, Heap.le_refl _, [], .lst 0 [] .exact, R0.2.1, R0.2.2, R0.1, rfl, rfl, hR0n.1, hR0n.2, hR0b, by rw [hM]; rfl, by rw [hM], hY, .inl ⟨rfl, rfl⟩⟩, ?_⟩
   rintro vs HX n ⟨l, lv, bs, bad, k, rfl, rfl, hk0, hk1, hbs, hl1, hl2, hD, hacc⟩
   simp only [nth_zero, nth_succ, bop_gtr, pureK_some, condK_B, decide_eq_true_eq, decide_eq_false_iff_not]
   have out : (rdMany rdNode k.toNat bs bad).1 = [] → (rdMany rdNode k.toNat bs bad).2 = (bs, bad) → ∃ H11 : Heap, H11 ≤ HX ∧ ∃ lv, True ∧ DI H H11 o1 or os M.2.1 M.2.2 [lv, I 0, I 0, I 0, .lst 0 [] .exact] ∧ Weaker lv (rowA M.1 .no) ∧ lv.single = true := by
    intro h1 h2
    rw [h1, List.append_nil] at hl1
    rw [h2] at hl2
    rw [← hl1, ← hl2]
    exact ⟨HX, Heap.le_refl _, lv, trivial, hD, hacc.weak, hacc.cells.2⟩
   refine ⟨fun h => ?_, fun h => out (by rw [show k.toNat = 0 by omega]; rfl) (by rw [show k.toNat = 0 by omega]; rfl)⟩
   obtain ⟨q, hrd⟩ := hD.rd
   simp only [nilE_ptr, fa_ptr, pureK_some, ld_ptr hrd, cutE_one, Nat.zero_add, get1, unE_not, condK_B]
   refine ⟨fun hb2 => ?_, fun hb2 => ?_⟩
   · have hbad : bad = false := by simpa using hb2
     subst hbad
     obtain ⟨m, hm⟩ : ∃ m, k.toNat = m + 1 := ⟨k.toNat - 1, by omega⟩
     rw [hm, rdMany_succ] at hl1 hl2
     refine next hD hbs fun HY hY hA hne => ?_
     rw [bld_0]
     simp only [pureK_some]
     intro ox fx
     rw [st_nd3]
     simp only [heapK_some]
     have fxc : ∀ cs, HY ox ≠ some (.cells cs) := fun cs e => by rw [fx] at e; cases e
     have hxos : os ≠ ox := fun e => by subst e; exact fxc _ hY.os
     have hxo1 : o1 ≠ ox := fun e => by subst e; exact fxc _ hY.o1
     have hxor : or ≠ ox := fun e => by subst e; obtain ⟨q, h⟩ := hY.rd; exact fxc _ h
     have hHx : H ox = none := le_none hY.le fx
     have hZ := hY.upd (x := .cells [I (rdNext bs false).1, S emp, I 0]) hxo1 hxor hxos hHx
     have hAZ : Acc H (HY.upd ox (.cells [I (rdNext bs false).1, S emp, I 0])) 3 (l.map nd) lv := (hA _ _ _ hacc).upd (fun m e => by rw [fx] at e; cases e)
     have hnb : (rdNext bs false).2.1.length ≤ 1000000 := by have := rdNext_bs bs false; omega
     have hox : (HY.upd ox (.cells [I (rdNext bs false).1, S emp, I 0])) ox = some (.cells [I (rdNext bs false).1, S emp, I 0]) := Heap.upd_same _ _ _
     generalize HY.upd ox (.cells [I (rdNext bs false).1, S emp, I 0]) = HZ at hZ hAZ hox ⊢
     refine ⟨fun vs HX => ∃ x : Node, vs = [bytA b p, .ptr o1 0, .ptr or 0, .fn (.func code_reader_next) [.ptr or 0] [], .ptr os 0, I k, .ptr ox 0] ∧ x = (rdNode bs false).1 ∧ DI H HX o1 or os (rdNode bs false).2.1 (rdNode bs false).2.2 [lv, I 0, I 0, I 0, .lst 0 [] .exact] ∧
      HX ox = some (.cells [I x.kind, S x.name, I x.sign]) ∧ Acc H HX 3 (l.map nd) lv, ?_, ?_⟩
     · simp only [fa_ptr, pureK_some, Nat.zero_add, ld_ptr hox, cutE_one, get0, bop_eql, condK_B, decide_eq_true_eq, decide_eq_false_iff_not]
       have sign : (rdNext bs false).1 ≠ 1 → (rdNext bs false).1 = 11 ∨ (rdNext bs false).1 = 14 → callK E_code_Decode (.fn (.func code_reader_next) [.ptr or 0] []) [] HZ fun x45 H46 =>
        heapK (st 1 H46 (.ptr ox 2) x45) fun H48 => (∃ H36 : Heap, H36 ≤ H48 ∧ ∃ x : Node, True ∧ x = (rdNode bs false).1 ∧ DI H H36 o1 or os (rdNode bs false).2.1 (rdNode bs false).2.2 [lv, I 0, I 0, I 0, .lst 0 [] .exact] ∧
        H36 ox = some (.cells [I x.kind, S x.name, I x.sign]) ∧ Acc H H36 3 (l.map nd) lv) := by
        intro h1 h2
        have e : rdNode bs false = (⟨(rdNext bs false).1, emp, (rdNext (rdNext bs false).2.1 (rdNext bs false).2.2).1⟩, (rdNext (rdNext bs false).2.1 (rdNext bs false).2.2).2) := by
         unfold rdNode; rw [if_neg h1, if_pos h2]
        rw [e]
        refine next hZ hnb fun HY2 hY2 hA2 hne2 => ?_
        have hox2 : HY2 ox = some (.cells [I (rdNext bs false).1, S emp, I 0]) := by rw [hne2 ox (fun e => hxor e.symm)]; exact hox
        rw [st_get (n := 1) (off := 2) (r := [I (rdNext bs false).1, S emp, I (rdNext (rdNext bs false).2.1 (rdNext bs false).2.2).1]) hox2 rfl (by simp) rfl rfl]
        simp only [heapK_some]
        exact ⟨_, Heap.le_refl _, _, trivial, rfl, hY2.upd hxo1 hxor hxos hHx, Heap.upd_same _ _ _, (hA2 _ _ _ hAZ).upd (cells_tok hox2)⟩
       refine ⟨fun h1 => ?_, fun h1 => ⟨fun h2 => sign h1 (.inl h2), fun h2 => ⟨fun h3 => sign h1 (.inr h3), fun h3 => ?_⟩⟩⟩
       · have e : rdNode bs false = (⟨1, (rdName (rdNext bs false).2.1 (rdNext bs false).2.2).1, 0⟩, (rdName (rdNext bs false).2.1 (rdNext bs false).2.2).2) := by
          unfold rdNode; rw [if_pos h1]
         rw [e]
         refine rname hZ hnb fun HY2 hY2 hA2 hne2 => ?_
         have hox2 : HY2 ox = some (.cells [I (rdNext bs false).1, S emp, I 0]) := by rw [hne2 ox (fun e => hxor e.symm)]; exact hox
         rw [st_get (n := 1) (off := 1) (r := [I (rdNext bs false).1, S (rdName (rdNext bs false).2.1 (rdNext bs false).2.2).1, I 0]) hox2 rfl (by simp) rfl rfl]
         simp only [heapK_some]
         exact ⟨_, Heap.le_refl _, _, trivial, rfl, hY2.upd hxo1 hxor hxos hHx, by rw [Heap.upd_same, h1], (hA2 _ _ _ hAZ).upd (cells_tok hox2)⟩
       · have e : rdNode bs false = (⟨(rdNext bs false).1, emp, 0⟩, (rdNext bs false).2) := by
          unfold rdNode; rw [if_neg h1, if_neg (by omega)]
         rw [e]
         exact ⟨_, Heap.le_refl _, _, trivial, rfl, hZ, hox, hAZ⟩
     · rintro vs HX ⟨x, rfl, hx, hD3, hox3, hA3⟩
       simp only [nth_zero, nth_succ, fa_ptr, pureK_some, Nat.zero_add, ld_ptr hD3.os, cutE_one, get0, ld_ptr hox3]
       rw [cut_nd]
       have e3 : bsl 3 (.agg [I 0, S emp, I 0]) 1 [(0, nd x)] = some (.lst 3 [nd x] .exact) := rfl
       simp only [pureK_some]
       rw [e3]
       simp only [pureK_some]
       have hll := congrArg List.length hl1
       simp only [List.length_append, List.length_cons] at hll
       refine acc_app (ys := [nd x]) hA3 hD3.le rfl (by simp [maxApp]; omega) fun v' HW hA4 hle4 hk4 => ?_
       have hD4 := hD3.keep hle4 hk4
       rw [st_get (n := 1) (off := 0) (r := [v', I 0, I 0, I 0, .lst 0 [] .exact]) hD4.os (by rw [hA4.cells.1]; rfl) (by rw [hA4.cells.1]; simp) (by rw [hA4.cells.1]; simp [hA4.cells.2]) (by rw [hA4.cells.1]; rfl)]
       simp only [heapK_some]
       rw [bop_sub (by omega) (by omega)]
       simp only [pureK_some]
       refine ⟨(k - 1).toNat, _, by omega, Heap.le_refl _, l ++ [x], v', (rdNode bs false).2.1, (rdNode bs false).2.2, k - 1, rfl, rfl, by omega, by omega, ?_, ?_, ?_, hD4.ups n31 n23 f3, ?_⟩
       · have := rdNode_bs bs false; omega
       · rw [show (k - 1).toNat = m by omega, ← hl1, hx]; simp
       · rw [show (k - 1).toNat = m by omega]; exact hl2
       · rw [List.map_append]; exact hA4.upd (cells_tok hD4.os)
   · have hbad : bad = true := by simpa using hb2
     subst hbad
     exact out (by rw [rdMany_bad]) (by rw [rdMany_bad])
 · rintro vs HX ⟨lv, rfl, hD, hlw, hls⟩
   simp only [nth_zero, nth_succ]
   generalize hP : rdNext M.2.1 M.2.2 = P
   generalize hW : rdNext P.2.1 P.2.2 = W
   generalize hN : rdNext W.2.1 W.2.2 = N
   generalize hC : rdNext N.2.1 N.2.2 = C
   generalize hT : rdMany rdName C.1.toNat C.2.1 C.2.2 = T
   have hSt : rdState b = (⟨M.1, P.1, W.1, N.1, T.1⟩, T.2) := by
    unfold rdState
    simp only [hR0, hM, hP, hW, hN, hC, hT]
   have hPb : P.2.1.length ≤ 1000000 := by rw [← hP]; have := rdNext_bs M.2.1 M.2.2; omega
   have hWb : W.2.1.length ≤ 1000000 := by rw [← hW]; have := rdNext_bs P.2.1 P.2.2; omega
   have hNb : N.2.1.length ≤ 1000000 := by rw [← hN]; have := rdNext_bs W.2.1 W.2.2; omega
   have hCb : C.2.1.length ≤ 1000000 := by rw [← hC]; have := rdNext_bs N.2.1 N.2.2; omega
   have hCn : 0 ≤ C.1 ∧ C.1 ≤ 255 := by rw [← hC]; exact ⟨headI_nonneg _, headI_le _⟩
   have hTl : T.1.length ≤ 255 := by rw [← hT]; have := rdMany_len rdName C.1.toNat C.2.1 C.2.2; omega
   refine next hD hMb fun H1 h1 _ _ => ?_
   rw [hP] at h1 ⊢
   simp only [fa_ptr, pureK_some, Nat.zero_add, Nat.add_zero]
   rw [st_get (n := 1) (off := 1) (r := [lv, I P.1, I 0, I 0, .lst 0 [] .exact]) h1.os rfl (by simp) rfl rfl]
   simp only [heapK_some]
   refine next (h1.ups n31 n23 f3) hPb fun H2 h2 _ _ => ?_
   rw [hW] at h2 ⊢
   simp only [fa_ptr, pureK_some, Nat.zero_add, Nat.reduceAdd]
   rw [st_get (n := 1) (off := 2) (r := [lv, I P.1, I W.1, I 0, .lst 0 [] .exact]) h2.os rfl (by simp) rfl rfl]
   simp only [heapK_some]
   refine next (h2.ups n31 n23 f3) hWb fun H3 h3 _ _ => ?_
   rw [hN] at h3 ⊢
   rw [st_get (n := 1) (off := 3) (r := [lv, I P.1, I W.1, I N.1, .lst 0 [] .exact]) h3.os rfl (by simp) rfl rfl]
   simp only [heapK_some]
   have h4 := h3.ups n31 n23 f3 (ds := [lv, I P.1, I W.1, I N.1, .lst 0 [] .exact])
   generalize H3.upd os (.cells [lv, I P.1, I W.1, I N.1, .lst 0 [] .exact]) = H4 at h4 ⊢
   refine ⟨fun vs HX => ∃ av, vs = [bytA b p, .ptr o1 0, .ptr or 0, .ptr os 0] ∧ DI H HX o1 or os T.2.1 T.2.2 [lv, I P.1, I W.1, I N.1, av] ∧ Weaker av (txtA T.1 .no) ∧ av.single = true, ?_, ?_⟩
   · refine next h4 hNb fun HY hY hA _ => ?_
     rw [hC] at hY ⊢
     refine ⟨fun vs HX n => ∃ (l : List ByteArray) (av : AV) (bs : List UInt8) (bad : Bool) (k : Int), vs = [bytA b p, .ptr o1 0, .ptr or 0, .ptr os 0, I k] ∧ n = k.toNat ∧ 0 ≤ k ∧ k ≤ 255 ∧ bs.length ≤ 1000000 ∧
      l ++ (rdMany rdName k.toNat bs bad).1 = T.1 ∧ (rdMany rdName k.toNat bs bad).2 = T.2 ∧ DI H HX o1 or os bs bad [lv, I P.1, I W.1, I N.1, av] ∧ Acc H HX 1 (l.map fun s => S s) av,
      ⟨_, HY, Heap.le_refl _, [], .lst 0 [] .exact, C.2.1, C.2.2, C.1, rfl, rfl, hCn.1, hCn.2, hCb, by rw [hT]; rfl, by rw [hT], hY, .inl ⟨rfl, rfl⟩⟩, ?_⟩
     rintro vs HX n ⟨l, av, bs, bad, k, rfl, rfl, hk0, hk1, hbs, hl1, hl2, hD, hacc⟩
     simp only [nth_zero, nth_succ, bop_gtr, pureK_some, condK_B, decide_eq_true_eq, decide_eq_false_iff_not]
     have out : (rdMany rdName k.toNat bs bad).1 = [] → (rdMany rdName k.toNat bs bad).2 = (bs, bad) → ∃ H11 : Heap, H11 ≤ HX ∧ ∃ av, True ∧ DI H H11 o1 or os T.2.1 T.2.2 [lv, I P.1, I W.1, I N.1, av] ∧ Weaker av (txtA T.1 .no) ∧ av.single = true := by
      intro h1 h2
      rw [h1, List.append_nil] at hl1
      rw [h2] at hl2
      rw [← hl1, ← hl2]
      exact ⟨HX, Heap.le_refl _, av, trivial, hD, hacc.weak, hacc.cells.2⟩
     refine ⟨fun h => ?_, fun h => out (by rw [show k.toNat = 0 by omega]; rfl) (by rw [show k.toNat = 0 by omega]; rfl)⟩
     obtain ⟨q, hrd⟩ := hD.rd
     simp only [nilE_ptr, fa_ptr, pureK_some, ld_ptr hrd, cutE_one, Nat.zero_add, get1, unE_not, condK_B]
     refine ⟨fun hb2 => ?_, fun hb2 => ?_⟩
     · have hbad : bad = false := by simpa using hb2
       subst hbad
       obtain ⟨m, hm⟩ : ∃ m, k.toNat = m + 1 := ⟨k.toNat - 1, by omega⟩
       rw [hm, rdMany_succ] at hl1 hl2
       refine ⟨some or, fun p e => by injection e with e; subst e; rw [hrd]; simp, ?_⟩
       have hos : rem HX (some or) os = some (.cells [lv, I P.1, I W.1, I N.1, av]) := by
        show (if os = or then none else HX os) = _
        rw [if_neg n32]; exact hD.os
       simp only [pureK_some, ld_ptr hos, cutE_one, get4]
       refine ⟨fun rf ob => ∃ q, rf = (fun _ => S (rdName bs false).1) ∧ ob = some [bytA (rdName bs false).2.1 q, B (rdName bs false).2.2], S (rdName bs false).1, ?_, .inr ?_, ?_⟩
       · intro HZ hle hfp
         have hz : HZ or = some (.cells [bytA bs q, B false]) := by rw [hfp or rfl]; exact hrd
         refine (reader_name_ok bs false q or HZ hz hbs).mono ?_
         rintro r H' ⟨q2, rfl, rfl⟩
         exact ⟨_, _, ⟨q2, rfl, rfl⟩, rfl, rfl⟩
       · rintro rf ob p ⟨q, rfl, _⟩; rfl
       have e3 : bsl 1 (S emp) 1 [(0, S (rdName bs false).1)] = some (.lst 1 [S (rdName bs false).1] .exact) := rfl
       rw [e3]
       simp only [pureK_some]
       rintro rf ob ⟨q3, rfl, rfl⟩
       rw [madeK_old _ _ _ _ _ rfl]
       have hY2 : DI H (HX.upd or (.cells [bytA (rdName bs false).2.1 q3, B (rdName bs false).2.2])) o1 or os (rdName bs false).2.1 (rdName bs false).2.2 [lv, I P.1, I W.1, I N.1, av] :=
        ⟨Heap.le_upd hD.le f2, RD.new _ _ _ _ _, by rw [Heap.upd_ne _ _ n32]; exact hD.os, by rw [Heap.upd_ne _ _ (fun e => n21 e.symm)]; exact hD.o1⟩
       have hA2 := hacc.upd (x := .cells [bytA (rdName bs false).2.1 q3, B (rdName bs false).2.2]) hD.rd.some
       generalize HX.upd or (.cells [bytA (rdName bs false).2.1 q3, B (rdName bs false).2.2]) = HZ at hY2 hA2 ⊢
       have hll := congrArg List.length hl1
       simp only [List.length_append, List.length_cons] at hll
       refine acc_app (ys := [S (rdName bs false).1]) hA2 hY2.le rfl (by simp [maxApp]; omega) fun v' HW hA4 hle4 hk4 => ?_
       have hD4 := hY2.keep hle4 hk4
       rw [st_get (n := 1) (off := 4) (r := [lv, I P.1, I W.1, I N.1, v']) hD4.os (by rw [hA4.cells.1]; rfl) (by rw [hA4.cells.1]; simp) (by rw [hA4.cells.1]; simp [hA4.cells.2]) (by rw [hA4.cells.1]; rfl)]
       simp only [heapK_some]
       rw [bop_sub (by omega) (by omega)]
       simp only [pureK_some]
       refine ⟨(k - 1).toNat, _, by omega, Heap.le_refl _, l ++ [(rdName bs false).1], v', (rdName bs false).2.1, (rdName bs false).2.2, k - 1, rfl, rfl, by omega, by omega, ?_, ?_, ?_, hD4.ups n31 n23 f3, ?_⟩
       · have := rdName_bs bs false; omega
       · rw [show (k - 1).toNat = m by omega, ← hl1]; simp
       · rw [show (k - 1).toNat = m by omega]; exact hl2
       · rw [List.map_append]; exact hA4.upd (cells_tok hD4.os)
     · have hbad : bad = true := by simpa using hb2
       subst hbad
       exact out (by rw [rdMany_bad]) (by rw [rdMany_bad])
   · rintro vs HX ⟨av, rfl, hD, haw, has⟩
     simp only [nth_zero, nth_succ]
     have key := decode_tail b p hb H HX o1 or os (fun e => n21 e.symm) n31 n23 f1 f2 f3 lv av hls has
     rw [hSt] at key
     refine key hlw haw hD.rd hD.le hD.os hD.o1 hMl hTl ?_ ?_ (fun v HY => ret1 HY (fun r H' => Weaker r (decV (decode b)) ∧ H' = H) v) ?_
     · exact fun x hx => rdMany_all (P := fun x : Node => x.name.size ≤ 255) rdNode_size _ _ _ x (by rw [hM]; exact hx)
     · exact fun x hx => rdMany_all (P := fun x : ByteArray => x.size ≤ 255) rdName_size _ _ _ x (by rw [hT]; exact hx)
     · exact fun v HY hy hv => ret1_of H hy ⟨hv, rfl⟩

end Go.Av
namespace Go.Av
open Go Go.Proofs

theorem Pur.args {f : FuncId} {args args' : List AV} {v : AV} (hl : args.length = args'.length) (h : ∀ i, i < args.length → Weaker (args.getD i .dead) (args'.getD i .dead)) (hc : Pur f args' v) : Pur f args v := fun H => ACalls.args hl h (hc H)
structure Fits (s : St) : Prop where
 l : small s.l.length
 n : names s.l
 a : small s.a.length
 m : ∀ x, x ∈ s.a → x.size ≤ 4611686018427387904

theorem rightS_fits {s : St} (h : rightS s = true) : Fits s := by
 obtain ⟨h1, h2, h3, h4⟩ := rightS_parts h
 refine ⟨by unfold small; omega, fun n hn => ?_, by unfold small; omega, fun x hx => by have := h4 x hx; omega⟩
 have := (right_fit (h1 n hn)).2.2
 by_cases e : n.kind = 1
 · rw [if_pos e] at this; omega
 · rw [if_neg e] at this
   have hz : n.name = emp := by
    split at this
    · exact this.1
    · exact this.1
   rw [hz]; decide
theorem right_ok {s : St} (h : Fits s) (p q : Perm) : Pur code_Right [stA s p q] (B (rightS s)) := code_Right_ok settleOk s p q h.l h.n h.a h.m
theorem encode_ok {s : St} (h : Fits s) (p q : Perm) (H : Heap) :
 ACalls PP gΓ code_Encode [stA s p q] H (fun r H' => (rightS s = false ∧ r = .tup [.lst 0 [] .exact, B false] ∧ H' = H) ∨ (rightS s = true ∧ ∃ v, r = .tup [v, B true] ∧ Out H H' (enc s) v)) :=
 code_Encode_ok s p q _ (right_ok h p q) (fun h => by have := enc_len h; have := rightS_parts h; omega) h.l h.a H

theorem condK_t (X Y : Prop) : condK (B true) X Y = X := rfl
theorem condK_f (X Y : Prop) : condK (B false) X Y = Y := rfl
end Go.Av
