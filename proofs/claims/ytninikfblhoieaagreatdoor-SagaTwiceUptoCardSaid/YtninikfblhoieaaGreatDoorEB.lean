/- Own text EB of this claim: see the text that holds the theorem. -/
import Derived.Test.YtninikfblhoieaaGreatDoorEA
set_option linter.all false
set_option maxRecDepth 100000
namespace Go.Av
open Go Go.Proofs

@[simp] theorem nilK_nil (s : Nat) (p : Perm) (K : AV → Prop) : nilK (.lst s [] p) K = (K (B true) ∧ K (B false)) := rfl
@[simp] theorem nilK_cons (s : Nat) (x : AV) (l : List AV) (p : Perm) (K : AV → Prop) : nilK (.lst s (x :: l) p) K = K (B false) := rfl
theorem appK_clone {s1 s : Nat} {es : List AV} {p : Perm} {H : Heap} {K : AV → Heap → Prop} (hs : s = s1 ∨ es = []) (hl : es.length ≤ maxApp) (k : K (.lst s1 es .no) H) : appK s1 (.lst s1 [] .exact) (.lst s es p) H K := by
 left
 unfold appK1
 have : appended s1 (.lst s es p) = some es := by show (if s = s1 ∨ es = [] then some es else none) = _; rw [if_pos hs]
 simp only [this]
 exact ⟨.inl trivial, by simpa using hl, .inl (by simpa using k)⟩
theorem appK_empty {s1 s : Nat} {p : Perm} {H : Heap} {K : AV → Heap → Prop} (k : K (.lst s1 [] .exact) H) : appK s1 (.lst s1 [] .exact) (.lst s [] p) H K := by
 left
 unfold appK1
 have : appended s1 (.lst s [] p) = some [] := by show (if s = s1 ∨ ([] : List AV) = [] then some ([] : List AV) else none) = _; rw [if_pos (Or.inr rfl)]
 simp only [this]
 exact ⟨.inl trivial, by simp, .inr (.inr (.inl ⟨trivial, k⟩))⟩
theorem appK_cloneM {s1 s : Nat} {es : List AV} {p : Perm} {H : Heap} {K : AV → Heap → Prop} (hs : s = s1 ∨ es = []) (hne : es ≠ []) (hl : es.length ≤ maxApp)
 (k : ∀ o cap zs, H o = none → es.length ≤ cap → zs.length = (cap - es.length) * s1 → K (.ms o 0 es.length cap) (H.upd o (.cells (es.flatMap AV.cells ++ zs)))) : appK s1 (.lst s1 [] .exact) (.lst s es p) H K := by
 right
 unfold appM
 have : appended s1 (.lst s es p) = some es := by show (if s = s1 ∨ es = [] then some es else none) = _; rw [if_pos hs]
 simp only [this]
 refine ⟨.inl trivial, List.length_pos_iff.2 hne, by simpa using hl, fun o cap zs h1 h2 h3 => ?_⟩
 simpa using k o cap zs h1 (by simpa using h2) (by simpa using h3)

theorem Clone_int_ok (l : List Int) (s : Nat) (p : Perm) (hs : s = 1 ∨ l = []) (hl : l.length ≤ 1100000) : Pur slices_Clone_int [intA l s p] (intA l 1 .no) := by
 refine Pur.weaken (φ := fun r => Weaker r (intA l 1 .no)) (fun H => ?_) (fun r h => h)
 refine slices_Clone_int_of ?_
 unfold W_slices_Clone_int
 have e2 : bsl 1 (.sc (.int .i64 0)) 0 [] = some (.lst 1 [] .exact) := rfl
 have fin : pureK (bsl 1 (.sc (.int .i64 0)) 0 []) (fun x2 => appK 1 x2 (intA l s p) H fun x3 H4 => ret1 H4 (fun r H' => Weaker r (intA l 1 .no) ∧ H' = H) x3) := by
  rw [e2, pureK_some]
  exact appK_clone (hs.imp id (fun e => by rw [e]; rfl)) (by simp [maxApp]; omega) (ret1_of H (Heap.le_refl _) ⟨Weaker.refl _, rfl⟩)
 cases l with
 | nil =>
   simp only [intA, List.map_nil, nilK_nil, condK_B]
   exact ⟨⟨fun _ => ret1_of H (Heap.le_refl _) ⟨Weaker.empty, rfl⟩, fun e => (by cases e)⟩, fun e => (by cases e), fun _ => fin⟩
 | cons x l =>
   simp only [intA, List.map_cons, nilK_cons, condK_B]
   exact ⟨fun e => (by cases e), fun _ => fin⟩
theorem Clone_string_ok (l : List ByteArray) (s : Nat) (p : Perm) (hs : s = 1 ∨ l = []) (hl : l.length ≤ 1000000) : Pur slices_Clone_string [.lst s (l.map fun x => S x) p] (txtA l .no) := by
 refine Pur.weaken (φ := fun r => Weaker r (txtA l .no)) (fun H => ?_) (fun r h => h)
 refine slices_Clone_string_of ?_
 unfold W_slices_Clone_string
 have e2 : bsl 1 (S emp) 0 [] = some (.lst 1 [] .exact) := rfl
 have fin : pureK (bsl 1 (S emp) 0 []) (fun x2 => appK 1 x2 (.lst s (l.map fun x => S x) p) H fun x3 H4 => ret1 H4 (fun r H' => Weaker r (txtA l .no) ∧ H' = H) x3) := by
  rw [e2, pureK_some]
  exact appK_clone (hs.imp id (fun e => by rw [e]; rfl)) (by simp [maxApp]; omega) (ret1_of H (Heap.le_refl _) ⟨Weaker.refl _, rfl⟩)
 cases l with
 | nil =>
   simp only [List.map_nil, nilK_nil, condK_B]
   exact ⟨⟨fun _ => ret1_of H (Heap.le_refl _) ⟨Weaker.empty, rfl⟩, fun e => (by cases e)⟩, fun e => (by cases e), fun _ => fin⟩
 | cons x l =>
   simp only [List.map_cons, nilK_cons, condK_B]
   exact ⟨fun e => (by cases e), fun _ => fin⟩
def deedA (d : Int × ByteArray × Bool) : AV := .agg [I d.1, S d.2.1, B d.2.2]
def DeedsAt (H : Heap) (v : AV) (deeds : List (Int × ByteArray × Bool)) (tk : Option Nat) : Prop :=
 (deeds = [] ∧ v = .lst 0 [] .exact ∧ tk = none) ∨ ∃ t, tk = some t ∧ v = .lst 3 (deeds.map deedA) (.tok t) ∧ H t = some (.tok deeds.length)
structure DealAt (H : Heap) (dl kn : Nat) (tk : Option Nat) (refuses : List Int) (deeds : List (Int × ByteArray × Bool)) (known : List (Int × Bool)) (asked : Int) : Prop where
 hd : ∃ v, H dl = some (.cells [intA refuses 1 .no, v, .mp kn, I asked]) ∧ DeedsAt H v deeds tk
 hk : H kn = some (.map (known.map fun x => (x.1, B x.2)))
 n1 : dl ≠ kn
def findB (id : Int) : List (Int × Bool) → Option Bool
 | [] => none
 | x :: r => if x.1 = id then some x.2 else findB id r
def askB (refuses : List Int) (known : List (Int × Bool)) (id : Int) : Bool := (findB id known).getD (!decide (id ∈ refuses))
def askK (refuses : List Int) (known : List (Int × Bool)) (id : Int) : List (Int × Bool) := if findB id known = none then known ++ [(id, !decide (id ∈ refuses))] else known
def askD (refuses : List Int) (known : List (Int × Bool)) (deeds : List (Int × ByteArray × Bool)) (id : Int) (name : ByteArray) : List (Int × ByteArray × Bool) :=
 if findB id known = none then deeds ++ [(id, name, !decide (id ∈ refuses))] else deeds
theorem mget_known (id : Int) (known : List (Int × Bool)) : mget id (known.map fun x => (x.1, B x.2)) = (findB id known).map fun b => B b := by
 induction known with
 | nil => rfl
 | cons x r ih =>
   simp only [List.map_cons, mget, findB]
   by_cases h : x.1 = id
   · simp [h]
   · simp [h, ih]
theorem mset_known (id : Int) (b : Bool) (known : List (Int × Bool)) (h : findB id known = none) : mset id (B b) (known.map fun x => (x.1, B x.2)) = (known ++ [(id, b)]).map fun x => (x.1, B x.2) := by
 induction known with
 | nil => rfl
 | cons x r ih =>
   simp only [findB] at h
   by_cases hx : x.1 = id
   · simp [hx] at h
   · simp only [if_neg hx] at h
     simp [mset, hx, ih h]
def dealIds (dl kn : Nat) (tk : Option Nat) : List Nat := [dl, kn] ++ tk.toList

theorem Ask_ok {H : Heap} {dl kn : Nat} {tk : Option Nat} {refuses : List Int} {deeds : List (Int × ByteArray × Bool)} {known : List (Int × Bool)} {asked : Int} (h : DealAt H dl kn tk refuses deeds known asked)
 (hr : small refuses.length) (hdl : deeds.length ≤ 1000000) (id : Int) (name : ByteArray) :
 ACalls PP gΓ deal_Dealer_Ask [.ptr dl 0, I id, S name] H (fun r H' => r = B (askB refuses known id) ∧ ∃ tk', DealAt H' dl kn tk' refuses (askD refuses known deeds id name) (askK refuses known id) (IntKind.wrap .i64 (asked + 1)) ∧
  (tk' = tk ∨ (tk = none ∧ ∃ t, tk' = some t ∧ H t = none)) ∧ SameBut (dealIds dl kn tk') H H') := by
 obtain ⟨v, hd, hdeeds⟩ := h.hd
 have hk := h.hk
 have hne := h.n1
 refine deal_Dealer_Ask_of ?_
 unfold W_deal_Dealer_Ask
 simp only [nilE_ptr, pureK_some, fa_ptr, Nat.zero_add, ld_ptr hd, cutE_one, get3]
 rw [bop_addw]
 simp only [pureK_some]
 rw [st_at (n := 1) hd rfl (by simp) rfl]
 simp only [heapK_some]
 have e1 : splice [intA refuses 1 .no, v, .mp kn, I asked] 3 (AV.cells (I (IntKind.wrap .i64 (asked + 1)))) = [intA refuses 1 .no, v, .mp kn, I (IntKind.wrap .i64 (asked + 1))] := rfl
 rw [e1]
 have g7d : (H.upd dl (.cells [intA refuses 1 .no, v, .mp kn, I (IntKind.wrap .i64 (asked + 1))])) dl = some (.cells [intA refuses 1 .no, v, .mp kn, I (IntKind.wrap .i64 (asked + 1))]) := Heap.upd_same _ _ _
 have g7k : (H.upd dl (.cells [intA refuses 1 .no, v, .mp kn, I (IntKind.wrap .i64 (asked + 1))])) kn = some (.map (known.map fun x => (x.1, B x.2))) := by rw [Heap.upd_ne _ _ (Ne.symm hne)]; exact hk
 have s7 : SameBut [dl, kn] H (H.upd dl (.cells [intA refuses 1 .no, v, .mp kn, I (IntKind.wrap .i64 (asked + 1))])) := (SameBut.refl _ _).upd (by simp) _
 have ht7 : ∀ t, tk = some t → (H.upd dl (.cells [intA refuses 1 .no, v, .mp kn, I (IntKind.wrap .i64 (asked + 1))])) t = H t := fun t ht => by
  rcases hdeeds with ⟨_, _, h3⟩ | ⟨t', h1, _, h3⟩
  · rw [h3] at ht; cases ht
  · rw [h1] at ht; injection ht with ht; subst ht
    exact Heap.upd_ne _ _ (fun e => by subst e; rw [hd] at h3; cases h3)
 generalize H.upd dl (.cells [intA refuses 1 .no, v, .mp kn, I (IntKind.wrap .i64 (asked + 1))]) = H7 at g7d g7k s7 ht7 ⊢
 simp only [ld_ptr g7d, cutE_one, get2, pureK_some]
 have elk : lk (B false) true (.mp kn) (I id) H7 = some (.tup [((findB id known).map fun b => B b).getD (B false), B (findB id known).isSome]) := by
  simp only [lk, g7k, mget_known, okR, Option.isSome_map]
 rw [elk]
 simp only [extractE_tup, get0, get1, pureK_some, unE_not, condK_B]
 refine ⟨fun hno => ?_, fun hyes => ?_⟩
 · have hnone : findB id known = none := by
    cases hf : findB id known with
    | none => rfl
    | some b => rw [hf] at hno; cases hno
   refine (slices_Contains_int_ok refuses .no id hr).run ?_
   simp only [unE_not, pureK_some]
   have hask : askB refuses known id = !decide (id ∈ refuses) := by unfold askB; rw [hnone]; rfl
   have haskK : askK refuses known id = known ++ [(id, !decide (id ∈ refuses))] := by unfold askK; rw [if_pos hnone]
   have haskD : askD refuses known deeds id name = deeds ++ [(id, name, !decide (id ∈ refuses))] := by unfold askD; rw [if_pos hnone]
   rw [hask, haskK, haskD]
   generalize (!decide (id ∈ refuses)) = b
   simp only [ld_ptr g7d, cutE_one, get2, pureK_some]
   have emu : mu (.mp kn) (I id) (B b) H7 = some (H7.upd kn (.map ((known ++ [(id, b)]).map fun x => (x.1, B x.2)))) := by
    simp only [mu, g7k, mset_known id b known hnone]
   rw [emu]
   simp only [heapK_some]
   have g24d : (H7.upd kn (.map ((known ++ [(id, b)]).map fun x => (x.1, B x.2)))) dl = some (.cells [intA refuses 1 .no, v, .mp kn, I (IntKind.wrap .i64 (asked + 1))]) := by rw [Heap.upd_ne _ _ hne]; exact g7d
   have g24k : (H7.upd kn (.map ((known ++ [(id, b)]).map fun x => (x.1, B x.2)))) kn = some (.map ((known ++ [(id, b)]).map fun x => (x.1, B x.2))) := Heap.upd_same _ _ _
   have s24 : SameBut [dl, kn] H (H7.upd kn (.map ((known ++ [(id, b)]).map fun x => (x.1, B x.2)))) := s7.upd (by simp) _
   have ht24 : ∀ t, tk = some t → (H7.upd kn (.map ((known ++ [(id, b)]).map fun x => (x.1, B x.2)))) t = H t := fun t ht => by
    rw [← ht7 t ht]
    refine Heap.upd_ne _ _ (fun e => ?_)
    subst e
    have := ht7 t ht
    rw [g7k] at this
    rcases hdeeds with ⟨_, _, h3⟩ | ⟨t', h1, _, h3⟩
    · rw [h3] at ht; cases ht
    · rw [h1] at ht; injection ht with ht; subst ht
      rw [h3] at this; cases this
   generalize H7.upd kn (.map ((known ++ [(id, b)]).map fun x => (x.1, B x.2))) = H24 at g24d g24k s24 ht24 ⊢
   simp only [ld_ptr g24d, cutE_one, get1, pureK_some]
   have e2 : bld [(0, 1), (1, 1), (2, 1)] [.sc (.int .i64 0), S emp, B false] [(0, I id), (1, S name), (2, B b)] = some (deedA (id, name, b)) := rfl
   rw [e2]
   simp only [pureK_some]
   have e3 : ∀ x : AV, x.cells.length = 3 → x.cells.all AV.single = true → bsl 3 (.agg [.sc (.int .i64 0), S emp, B false]) 1 [(0, x)] = some (.lst 3 [x] .exact) := fun x h1 h2 => by
    simp [bsl, h1, setAll]; intro y hy; exact List.all_eq_true.1 h2 y hy
   rw [e3 _ rfl rfl]
   simp only [pureK_some]
   have hfin : ∀ (t : Nat) (H31 : Heap), (tk = some t ∨ (tk = none ∧ H t = none)) → H31 = H24.upd t (.tok (deeds.length + 1)) →
    pureK (some (AV.ptr dl (0 + 1))) fun x33 => heapK (st 1 H31 x33 (.lst 3 ((deeds ++ [(id, name, b)]).map deedA) (.tok t))) fun H34 => ret1 H34 (fun r H' => r = B b ∧ ∃ tk', DealAt H' dl kn tk' refuses (deeds ++ [(id, name, b)]) (known ++ [(id, b)]) (IntKind.wrap .i64 (asked + 1)) ∧
    (tk' = tk ∨ (tk = none ∧ ∃ t, tk' = some t ∧ H t = none)) ∧ SameBut (dealIds dl kn tk') H H') (B b) := fun t H31 ht e => by
    subst e
    have htH : ∀ x, H t = some x → ∃ n, x = .tok n := fun x hx => by
     rcases ht with ht | ⟨_, ht⟩
     · rcases hdeeds with ⟨_, _, h3⟩ | ⟨t', h1, _, h3⟩
       · rw [h3] at ht; cases ht
       · rw [h1] at ht; injection ht with ht; subst ht
         rw [h3] at hx; injection hx with hx; exact ⟨_, hx.symm⟩
     · rw [ht] at hx; cases hx
    have hdt : dl ≠ t := fun e => by subst e; obtain ⟨n, hn⟩ := htH _ hd; cases hn
    have hkt : kn ≠ t := fun e => by subst e; obtain ⟨n, hn⟩ := htH _ hk; cases hn
    simp only [pureK_some, Nat.zero_add]
    rw [st_at (n := 1) (by rw [Heap.upd_ne _ _ hdt]; exact g24d) rfl (by simp) rfl]
    simp only [heapK_some]
    have e4 : splice [intA refuses 1 .no, v, .mp kn, I (IntKind.wrap .i64 (asked + 1))] 1 (AV.cells (.lst 3 ((deeds ++ [(id, name, b)]).map deedA) (.tok t))) = [intA refuses 1 .no, .lst 3 ((deeds ++ [(id, name, b)]).map deedA) (.tok t), .mp kn, I (IntKind.wrap .i64 (asked + 1))] := rfl
    rw [e4]
    refine ret1_of _ (Heap.le_refl _) ⟨rfl, some t, ⟨⟨_, Heap.upd_same _ _ _, .inr ⟨t, rfl, rfl, ?_⟩⟩, ?_, hne⟩, ?_, ?_⟩
    · rw [Heap.upd_ne _ _ (Ne.symm hdt), Heap.upd_same]; simp
    · rw [Heap.upd_ne _ _ (Ne.symm hne), Heap.upd_ne _ _ hkt]; exact g24k
    · rcases ht with ht | ⟨h1, h2⟩
      · exact .inl ht.symm
      · exact .inr ⟨h1, t, rfl, h2⟩
    · have : SameBut (dealIds dl kn (some t)) H H24 := s24.more (fun o ho => by simp [dealIds] at ho ⊢; rcases ho with h | h <;> simp [h])
      exact (this.upd (by simp [dealIds]) _).upd (by simp [dealIds]) _
   rcases hdeeds with ⟨hde, rfl, htk⟩ | ⟨t, htk, rfl, h3⟩
   · left
     unfold appK1
     have : appended 3 (.lst 3 [deedA (id, name, b)] .exact) = some [deedA (id, name, b)] := rfl
     simp only [this]
     refine ⟨.inr trivial, by simp [maxApp], .inr (.inl fun t ht => ?_)⟩
     have hHt : H t = none := by
      rw [← s24 t (fun e => ?_)]
      · exact ht
      · simp only [List.mem_cons, List.not_mem_nil, or_false] at e
        rcases e with rfl | rfl
        · rw [g24d] at ht; cases ht
        · rw [g24k] at ht; cases ht
     have := hfin t _ (.inr ⟨htk, hHt⟩) rfl
     rw [hde] at this ⊢
     simpa using this
   · left
     unfold appK1
     have : appended 3 (.lst 3 [deedA (id, name, b)] .exact) = some [deedA (id, name, b)] := rfl
     simp only [this]
     refine ⟨.inl trivial, by simp [maxApp]; omega, trivial, ?_, ?_⟩
     · rw [ht24 t htk, h3]; simp
     · have := hfin t _ (.inl htk) rfl
       simpa using this
 · have hsome : ∃ b, findB id known = some b := by
    cases hf : findB id known with
    | none => rw [hf] at hyes; cases hyes
    | some b => exact ⟨b, rfl⟩
   obtain ⟨b, hb⟩ := hsome
   have hask : askB refuses known id = b := by unfold askB; rw [hb]; rfl
   have haskK : askK refuses known id = known := by unfold askK; rw [hb]; simp
   have haskD : askD refuses known deeds id name = deeds := by unfold askD; rw [hb]; simp
   rw [hask, haskK, haskD, hb]
   refine ret1_of H7 (Heap.le_refl _) ⟨rfl, tk, ⟨⟨v, g7d, ?_⟩, g7k, hne⟩, .inl rfl, s7.more (fun o ho => by simp [dealIds] at ho ⊢; rcases ho with h | h <;> simp [h])⟩
   rcases hdeeds with h1 | ⟨t, h1, h2, h3⟩
   · exact .inl h1
   · exact .inr ⟨t, h1, h2, by rw [ht7 t h1]; exact h3⟩

theorem deal_New_ok (l : List Int) (s : Nat) (p : Perm) (hs : s = 1 ∨ l = []) (hl : l.length ≤ 1100000) (H : Heap) (fp : Option Nat) (hfp : fp = none) :
 AMakes PP gΓ deal_New [intA l s p] H fp (fun rf ob => ∃ q, rf = (fun p => .ptr p 0) ∧ ob = some [intA l 1 .no, .lst 0 [] .exact, .mp q, I 0]) := by
 subst hfp
 intro H' hle _
 refine deal_New_of ?_
 unfold W_deal_New
 refine (Clone_int_ok l s p hs hl).run ?_
 intro q hq
 have e1 : bld [(0, 1), (1, 1), (2, 1), (3, 1)] [.lst 0 [] .exact, .lst 0 [] .exact, .sc (.map none), .sc (.int .i64 0)] [(0, intA l 1 .no), (2, .mp q)] = some (.agg [intA l 1 .no, .lst 0 [] .exact, .mp q, I 0]) := rfl
 rw [e1]
 simp only [pureK_some, cells_agg, allocK_some]
 refine ⟨rfl, fun o ho => ?_⟩
 simp only [upd_none_iff] at ho
 refine ret1_of _ (Heap.le_refl _) ⟨_, _, ⟨q, rfl, rfl⟩, o, ho.2, rfl, ?_, rfl⟩
 intro q' hq'
 injection hq' with hq'
 subst hq'
 exact ⟨hq, ho.1⟩

theorem Asked_ok {H : Heap} {dl kn : Nat} {tk : Option Nat} {refuses : List Int} {deeds : List (Int × ByteArray × Bool)} {known : List (Int × Bool)} {asked : Int} (h : DealAt H dl kn tk refuses deeds known asked) : ACalls PP gΓ deal_Dealer_Asked [.ptr dl 0] H (fun r H' => r = I asked ∧ H' = H) := by
 obtain ⟨v, hd, _⟩ := h.hd
 refine deal_Dealer_Asked_of ?_
 unfold W_deal_Dealer_Asked
 simp only [nilE_ptr, pureK_some, fa_ptr, Nat.zero_add, ld_ptr hd, cutE_one, get3]
 exact ret1_of H (Heap.le_refl _) ⟨rfl, rfl⟩

end Go.Av
/- A settled tree that has not ended can move: no block waits for a query that nobody answers. -/
namespace Go.Av
open Go Go.Proofs

def eQ : Tr → Bool
 | .l0 n => decide (n.kind = 11) && decide (n.sign = 3)
 | .l1 n _ => decide (n.kind = 14) && decide (n.sign = 3)
 | .l2 n a b => if n.kind = 5 ∨ n.kind = 8 ∨ n.kind = 12 ∨ n.kind = 13 then eQ a else if n.kind = 7 then (eQ a || eQ b) && (!dooF a && !dooF b) else false
def HQ : Tr → Prop
 | .l0 _ => True
 | .l1 n a => n.kind = 9 → HQ a ∧ eQ a = false
 | .l2 n a b => (n.kind = 5 ∨ n.kind = 8 ∨ n.kind = 12 ∨ n.kind = 13 → HQ a) ∧ (n.kind = 7 → HQ a ∧ HQ b)

theorem over_shape {t : Tr} (h : t.ok) (hk : t.root.kind = 11) : t = .l0 t.root := by
 cases t with
 | l0 n => rfl
 | l1 n a => have h1 : arity n.kind = 1 := h.1; have h2 : n.kind = 11 := hk; rw [h2] at h1; cases h1
 | l2 n a b => have h1 : arity n.kind = 2 := h.1; have h2 : n.kind = 11 := hk; rw [h2] at h1; cases h1
theorem over_q {t : Tr} (h : t.ok) (hk : t.root.kind = 11) : eQ t = decide (t.root.sign = 3) ∧ dooF t = decide (t.root.sign = 2) := by
 have e := over_shape h hk
 generalize t.root = n at e hk ⊢
 subst e
 simp [eQ, dooF, hk]
theorem end_q {t : Tr} (h : t.ok) (hk : t.root.kind = 14) : eQ t = decide (t.root.sign = 3) ∧ dooF t = decide (t.root.sign = 2) := by
 obtain ⟨_, _, e⟩ := t.end_flat h hk
 generalize t.root = n at e hk ⊢
 generalize t.sub = c at e
 subst e
 simp [eQ, dooF, hk]
theorem overT_q (s : Int) : eQ (overT s) = decide (s = 3) ∧ dooF (overT s) = decide (s = 2) ∧ HQ (overT s) := ⟨by simp [overT, eQ], by simp [overT, dooF], trivial⟩
theorem endT_q (s : Int) (c : Tr) : eQ (endT s c) = decide (s = 3) ∧ dooF (endT s c) = decide (s = 2) ∧ HQ (endT s c) :=
 ⟨by simp [endT, eQ], by simp [endT, dooF], fun h => (by cases h)⟩

theorem src_q : ∀ t : Tr, sortT t = 1 ∨ sortT t = 2 → eQ t = false ∧ HQ t := by
 intro t
 induction t with
 | l0 n =>
   intro h
   refine ⟨?_, trivial⟩
   have : n.kind ≠ 11 := fun e => by simp [sortT, sort0, e] at h
   simp [eQ, this]
 | l1 n a ih =>
   intro h
   have hr := sortT_range a
   simp only [sortT, sort1] at h
   by_cases h0 : sortT a = 0
   · rw [if_pos h0] at h; omega
   · rw [if_neg h0] at h
     by_cases h9 : n.kind = 9
     · rw [if_pos h9] at h
       have h2 : sortT a = 2 := by
        rcases sOn_four hr h0 with ⟨e, _⟩ | ⟨e, e2⟩
        · rw [if_neg (by omega)] at h; omega
        · rw [if_pos e] at h; omega
       obtain ⟨i1, i2⟩ := ih (.inr h2)
       exact ⟨by simp [eQ, h9], fun _ => ⟨i2, i1⟩⟩
     · rw [if_neg h9] at h
       exfalso
       split at h <;> omega
 | l2 n a b iha ihb =>
   intro h
   have ha := sortT_range a
   have hb := sortT_range b
   simp only [sortT] at h
   have hz : sort2 n.kind (sortT a) (sortT b) ≠ 0 := by omega
   by_cases h5 : n.kind = 5
   · rw [h5] at h hz
     have hs : sortT a = 1 ∨ sortT a = 2 := by rcases sort2_5 ha hb hz with ⟨_, _, e⟩ | ⟨_, _, e⟩ <;> omega
     obtain ⟨i1, i2⟩ := iha hs
     exact ⟨by simp [eQ, h5, i1], fun _ => i2, fun h7 => by omega⟩
   · by_cases h8 : n.kind = 8
     · rw [h8] at h hz
       have hs : sortT a = 1 ∨ sortT a = 2 := by obtain ⟨_, _, e⟩ := sort2_8 ha hb hz; omega
       obtain ⟨i1, i2⟩ := iha hs
       exact ⟨by simp [eQ, h8, i1], fun _ => i2, fun h7 => by omega⟩
     · by_cases h12 : n.kind = 12
       · rw [h12] at h hz
         obtain ⟨_, _, e⟩ := sort2_12 ha hb hz; omega
       · by_cases h13 : n.kind = 13
         · rw [h13] at h hz
           obtain ⟨_, _, e⟩ := sort2_13 ha hb hz; omega
         · by_cases h7 : n.kind = 7
           · rw [h7] at h hz
             obtain ⟨e1, _, n1, n2⟩ := sort2_7 ha hb hz
             have hv : sort2 7 (sortT a) (sortT b) = max (sortT a) (sortT b) := by
              unfold sort2
              rw [if_neg (by omega), if_neg (by decide), if_pos rfl]
              unfold sBoth; rw [if_pos e1]
             rw [hv] at h
             obtain ⟨i1, i2⟩ := iha (by omega)
             obtain ⟨j1, j2⟩ := ihb (by omega)
             exact ⟨by simp [eQ, h7, i1, j1], fun h => by omega, fun _ => ⟨i2, j2⟩⟩
           · exact ⟨by simp [eQ, h5, h8, h12, h13, h7], fun h => by omega, fun h => absurd h h7⟩

theorem stack_q {a c : Tr} (ha : a.ok) (hq : HQ a) : HQ (stackT a c) ∧ eQ (stackT a c) = eQ a ∧ dooF (stackT a c) = dooF a := by
 unfold stackT
 split
 · exact ⟨⟨fun _ => hq, fun h => by cases h⟩, by simp [eQ], by simp [dooF]⟩
 · rename_i h
   have hk : a.root.kind = 14 := by simpa using h
   obtain ⟨e1, e2⟩ := end_q ha hk
   obtain ⟨f1, f2, f3⟩ := endT_q a.root.sign (.l2 ⟨5, emp, 0⟩ a.sub c)
   exact ⟨f3, by rw [f1, e1], by rw [f2, e2]⟩

theorem settle_q : ∀ (N : Nat) (t : Tr), t.len ≤ N → Good t → HQ t → HQ (settleT t) ∧ (eQ (settleT t) = true → eQ t = true) ∧ (dooF t = true → dooF (settleT t) = true) := by
 intro N
 induction N with
 | zero => intro t h; have := len_pos t; omega
 | succ N ih =>
   intro t hN g hq
   have srcs : ∀ b : Tr, Good b → b.len ≤ N → (sortT b = 1 ∨ sortT b = 2) → HQ (settleT b) ∧ eQ (settleT b) = false := fun b gb hb hs => by
    obtain ⟨e1, e2⟩ := src_q b hs
    obtain ⟨i1, i2, _⟩ := ih b hb gb e2
    refine ⟨i1, ?_⟩
    cases h : eQ (settleT b) with
    | false => rfl
    | true => have := i2 h; rw [e1] at this; cases this
   cases t with
   | l0 n =>
     rw [settleT_l0]
     split
     · rename_i h
       refine ⟨trivial, fun e => by simp [overT, eQ] at e, fun e => by simp [dooF, h] at e⟩
     · split
       · rename_i h1 h
         refine ⟨trivial, fun e => by simp [overT, eQ] at e, fun e => by simp [dooF, h] at e⟩
       · exact ⟨hq, id, id⟩
   | l1 n a =>
     have hl := len_l1 n a
     have ga := g.kid1
     have hr := sortT_range a
     rw [settleT_l1 n a ga.ok]
     split
     · rename_i h9
       obtain ⟨q1, q2⟩ := hq h9
       obtain ⟨i1, i2, i3⟩ := ih a (by omega) ga q1
       obtain ⟨s1, s2⟩ := settle_good _ a (Nat.le_refl _) ga
       have hdo : dooF (.l1 n a) = false := by simp [dooF, h9]
       have i4 : eQ (settleT a) = false := by
        cases h : eQ (settleT a) with
        | false => rfl
        | true => have := i2 h; rw [q2] at this; cases this
       unfold blockT
       split
       · exact ⟨trivial, fun e => by simp [overT, eQ] at e, fun e => (by rw [hdo] at e; cases e)⟩
       · split
         · rename_i h1 h2
           have hk : (settleT a).root.kind = 14 := by rw [h2]
           obtain ⟨_, gs, hs, _⟩ := s1.endd hk
           have hle := (settleT_ok ga.ok).2
           have hse := (sub_of_end s1.ok hk).2
           obtain ⟨j1, j2⟩ := srcs _ gs (by omega) (.inl hs)
           exact ⟨j1, fun e => (by rw [j2] at e; cases e), fun e => (by rw [hdo] at e; cases e)⟩
         · exact ⟨fun _ => ⟨i1, i4⟩, fun e => by simp [eQ, h9] at e, fun e => (by rw [hdo] at e; cases e)⟩
     · exact ⟨hq, id, id⟩
   | l2 n a b =>
     have hl := len_l2 n a b
     have pa := len_pos a
     have pb := len_pos b
     have ga := g.kidA
     have gb := g.kidB
     have hra := sortT_range a
     have hrb := sortT_range b
     have hso : sort2 n.kind (sortT a) (sortT b) ≠ 0 := g.so
     obtain ⟨sa1, sa2⟩ := settle_good _ a (Nat.le_refl _) ga
     have hla := (settleT_ok ga.ok).2
     rw [settleT_l2 n a b ga.ok gb.ok]
     have beh : ∀ begins : Int, (n.kind = 8 ∧ begins = 2 ∨ n.kind = 5 ∧ begins = 1) → HQ (behindT settleT n (settleT a) b begins) ∧ (eQ (behindT settleT n (settleT a) b begins) = true → eQ (.l2 n a b) = true) ∧ (dooF (.l2 n a b) = true → dooF (behindT settleT n (settleT a) b begins) = true) := by
      intro begins hb
      have hin : n.kind = 5 ∨ n.kind = 8 ∨ n.kind = 12 ∨ n.kind = 13 := by omega
      obtain ⟨i1, i2, i3⟩ := ih a (by omega) ga (hq.1 hin)
      have eqt : eQ (.l2 n a b) = eQ a := by simp only [eQ]; rw [if_pos hin]
      have hsb : sortT b = 1 ∨ sortT b = 2 := by
       rcases hb with ⟨h, _⟩ | ⟨h, _⟩
       · rw [h] at hso; obtain ⟨e, _⟩ := sort2_8 hra hrb hso; exact .inl e
       · rw [h] at hso; rcases sort2_5 hra hrb hso with ⟨e, _⟩ | ⟨e, _⟩
         · exact .inl e
         · exact .inr e
      have hdoo : dooF (.l2 n a b) = true → n.kind = 5 ∧ dooF (settleT a) = true := fun e => by
       rcases hb with ⟨h, _⟩ | ⟨h, _⟩
       · simp [dooF, h] at e
       · simp [dooF, h] at e; exact ⟨h, i3 e⟩
      unfold behindT
      split
      · rename_i h1
        obtain ⟨j1, j2⟩ := srcs b gb (by omega) hsb
        refine ⟨j1, fun e => (by rw [j2] at e; cases e), fun e => ?_⟩
        obtain ⟨h5, e2⟩ := hdoo e
        have hk : (settleT a).root.kind = 11 := by rw [h1]
        rw [(over_q sa1.ok hk).2, h1] at e2
        simp at e2; omega
      · split
        · exact ⟨i1, fun e => by rw [eqt]; exact i2 e, fun e => (hdoo e).2⟩
        · refine ⟨⟨fun _ => i1, fun h7 => by omega⟩, fun e => ?_, fun e => ?_⟩
          · rw [eqt]
            simp only [eQ] at e
            rw [if_pos hin] at e; exact i2 e
          · obtain ⟨h5, e2⟩ := hdoo e
            simp [dooF, h5, e2]
     split
     · rename_i h8; exact beh 2 (.inl ⟨h8, rfl⟩)
     · rename_i h8
       split
       · rename_i h5
         have hin : n.kind = 5 ∨ n.kind = 8 ∨ n.kind = 12 ∨ n.kind = 13 := .inl h5
         obtain ⟨i1, i2, i3⟩ := ih a (by omega) ga (hq.1 hin)
         have eqt : eQ (.l2 n a b) = eQ a := by simp only [eQ]; rw [if_pos hin]
         have dot : dooF (.l2 n a b) = dooF a := by simp [dooF, h5]
         split
         · exact beh 1 (.inr ⟨h5, rfl⟩)
         · rename_i h14
           have hk : (settleT a).root.kind = 14 := by simpa using h14
           split
           · exact ⟨i1, fun e => by rw [eqt]; exact i2 e, fun e => i3 (by rw [dot] at e; exact e)⟩
           · rename_i h1
             have hs1 : (settleT a).root.sign = 1 := by simpa using h1
             have hsb : sortT b = 1 ∨ sortT b = 2 := by
              rw [h5] at hso; rcases sort2_5 hra hrb hso with ⟨e, _⟩ | ⟨e, _⟩
              · exact .inl e
              · exact .inr e
             obtain ⟨j1, j2⟩ := srcs b gb (by omega) hsb
             obtain ⟨k1, k2, k3⟩ := stack_q (c := (settleT a).sub) (settleT_ok gb.ok).1 j1
             refine ⟨k1, fun e => (by rw [k2, j2] at e; cases e), fun e => ?_⟩
             have := i3 (by rw [dot] at e; exact e)
             rw [(end_q sa1.ok hk).2, hs1] at this
             simp at this
       · rename_i h5
         split
         · rename_i h13
           have hin : n.kind = 5 ∨ n.kind = 8 ∨ n.kind = 12 ∨ n.kind = 13 := by omega
           obtain ⟨i1, i2, i3⟩ := ih a (by omega) ga (hq.1 hin)
           obtain ⟨k1, k2, k3⟩ := stack_q (c := b) sa1.ok i1
           refine ⟨k1, fun e => ?_, fun e => ?_⟩
           · simp only [eQ]; rw [if_pos hin]; exact i2 (by rw [k2] at e; exact e)
           · rw [k3]; exact i3 (by simpa [dooF, h13] using e)
         · rename_i h13
           split
           · rename_i h12
             have hin : n.kind = 5 ∨ n.kind = 8 ∨ n.kind = 12 ∨ n.kind = 13 := by omega
             obtain ⟨i1, i2, i3⟩ := ih a (by omega) ga (hq.1 hin)
             have eqt : eQ (.l2 n a b) = eQ a := by simp only [eQ]; rw [if_pos hin]
             have dot : dooF (.l2 n a b) = dooF a := by simp [dooF, h12]
             split
             · rename_i he
               have hk : (settleT a).root.kind = 11 := by unfold ended at he; simp at he; exact he.2
               obtain ⟨o1, o2⟩ := over_q sa1.ok hk
               obtain ⟨f1, f2, f3⟩ := endT_q (settleT a).root.sign (if (settleT a).root.sign ≠ 1 then .l0 ⟨2, emp, 0⟩ else b)
               refine ⟨f3, fun e => ?_, fun e => ?_⟩
               · rw [eqt]; exact i2 (by rw [o1]; rw [f1] at e; exact e)
               · have := i3 (by rw [dot] at e; exact e)
                 rw [f2]; rw [o2] at this; exact this
             · refine ⟨⟨fun _ => i1, fun h => by omega⟩, fun e => ?_, fun e => ?_⟩
               · rw [eqt]; simp only [eQ] at e; rw [if_pos hin] at e; exact i2 e
               · have := i3 (by rw [dot] at e; exact e)
                 simp [dooF, h12, this]
           · rename_i h12
             split
             · rename_i h7
               obtain ⟨qa, qb⟩ := hq.2 h7
               obtain ⟨i1, i2, i3⟩ := ih a (by omega) ga qa
               obtain ⟨j1, j2, j3⟩ := ih b (by omega) gb qb
               obtain ⟨sb1, sb2⟩ := settle_good _ b (Nat.le_refl _) gb
               have eqt : eQ (.l2 n a b) = ((eQ a || eQ b) && (!dooF a && !dooF b)) := by simp [eQ, h7]
               have dot : dooF (.l2 n a b) = (dooF a || dooF b) := by simp [dooF, h7]
               have up : ((eQ (settleT a) || eQ (settleT b)) && (!dooF (settleT a) && !dooF (settleT b))) = true → eQ (.l2 n a b) = true := fun e => by
                rw [eqt]
                simp only [Bool.and_eq_true, Bool.or_eq_true, Bool.not_eq_true'] at e ⊢
                obtain ⟨e1, e2, e3⟩ := e
                refine ⟨e1.imp i2 j2, ?_, ?_⟩
                · cases h : dooF a with
                  | false => rfl
                  | true => rw [i3 h] at e2; cases e2
                · cases h : dooF b with
                  | false => rfl
                  | true => rw [j3 h] at e3; cases e3
               have dn : dooF (.l2 n a b) = true → dooF (settleT a) = true ∨ dooF (settleT b) = true := fun e => by
                rw [dot] at e
                simp only [Bool.or_eq_true] at e
                exact e.imp i3 j3
               have signs : ∀ x y : Int, 1 ≤ x → x ≤ 3 → 1 ≤ y → y ≤ 3 → (sBothSign x y = 3 → (x = 3 ∨ y = 3) ∧ x ≠ 2 ∧ y ≠ 2) ∧ ((x = 2 ∨ y = 2) → sBothSign x y = 2) := by
                intro x y a1 a2 b1 b2
                have hi1 : sIs x = true := by simp [sIs]; omega
                have hi2 : sIs y = true := by simp [sIs]; omega
                unfold sBothSign
                rw [hi1, hi2]
                simp only [Bool.not_true, Bool.or_false, Bool.false_eq_true, if_false]
                constructor
                · intro h
                  split at h
                  · omega
                  · omega
                · intro h; rw [if_pos h]
               unfold parT
               split
               · rename_i hk
                 obtain ⟨o1, o2⟩ := over_q sa1.ok hk.1
                 obtain ⟨p1, p2⟩ := over_q sb1.ok hk.2
                 obtain ⟨_, a1, a2, _⟩ := sa1.over hk.1
                 obtain ⟨_, b1, b2, _⟩ := sb1.over hk.2
                 obtain ⟨z1, z2⟩ := signs _ _ a1 a2 b1 b2
                 obtain ⟨f1, f2, f3⟩ := overT_q (sBothSign (settleT a).root.sign (settleT b).root.sign)
                 refine ⟨f3, fun e => up ?_, fun e => ?_⟩
                 · rw [f1, decide_eq_true_eq] at e
                   obtain ⟨y1, y2, y3⟩ := z1 e
                   rw [o1, o2, p1, p2]
                   simp [y1, y2, y3]
                 · have := dn e
                   rw [o2, p2, decide_eq_true_eq, decide_eq_true_eq] at this
                   rw [f2, z2 this]; rfl
               · split
                 · rename_i _ hk
                   obtain ⟨o1, o2⟩ := end_q sa1.ok hk.1
                   obtain ⟨p1, p2⟩ := end_q sb1.ok hk.2
                   obtain ⟨_, _, _, a1, a2, _⟩ := sa1.endd hk.1
                   obtain ⟨_, _, _, b1, b2, _⟩ := sb1.endd hk.2
                   obtain ⟨z1, z2⟩ := signs _ _ a1 a2 b1 b2
                   obtain ⟨f1, f2, f3⟩ := endT_q (sBothSign (settleT a).root.sign (settleT b).root.sign) (.l2 n (settleT a).sub (settleT b).sub)
                   refine ⟨f3, fun e => up ?_, fun e => ?_⟩
                   · rw [f1, decide_eq_true_eq] at e
                     obtain ⟨y1, y2, y3⟩ := z1 e
                     rw [o1, o2, p1, p2]
                     simp [y1, y2, y3]
                   · have := dn e
                     rw [o2, p2, decide_eq_true_eq, decide_eq_true_eq] at this
                     rw [f2, z2 this]; rfl
                 · refine ⟨⟨fun h => by omega, fun _ => ⟨i1, j1⟩⟩, fun e => up ?_, fun e => ?_⟩
                   · simpa [eQ, h7] using e
                   · have := dn e
                     simpa [dooF, h7] using this
             · exact ⟨hq, id, id⟩

end Go.Av
namespace Go.Av
open Go Go.Proofs

theorem goes_pos {k : Int} (h : 0 < goes k) : k = 5 ∨ k = 8 ∨ k = 12 ∨ k = 13 ∨ k = 9 ∨ k = 7 := (goes_cases k).1.1 h
theorem goes_one {k : Int} (h : 1 < goes k) : k = 7 := (goes_cases k).2.1 h

theorem doo_mono : ∀ (t : Tr) (i : Nat) (u : Tr), actP t i → dooF (subT t i) = false → dooF t = true → dooF (replT t i u) = true := by
 intro t
 induction t with
 | l0 n => intro i u _ h1 h2; simp only [subT] at h1; rw [h1] at h2; cases h2
 | l1 n a ih =>
   intro i u h h1 h2
   by_cases h0 : i = 0
   · subst h0; rw [subT_zero] at h1; rw [h1] at h2; cases h2
   · rcases h with h | ⟨h, _⟩
     · exact absurd h h0
     · have hk := goes_pos h
       simp only [replT, if_neg h0]
       simpa [dooF] using h2
 | l2 n a b iha ihb =>
   intro i u h h1 h2
   by_cases h0 : i = 0
   · subst h0; rw [subT_zero] at h1; rw [h1] at h2; cases h2
   · rcases h with h | ⟨hj, hg, ha⟩ | ⟨hj, hg, hb⟩
     · exact absurd h h0
     · simp only [replT, if_neg h0, if_pos hj]
       simp only [subT, if_neg h0, if_pos hj] at h1
       have hi := iha (i - 1) u ha h1
       simp only [dooF] at h2 ⊢
       split at h2
       · rename_i hk; rw [if_pos hk]; exact hi h2
       · rename_i hk
         rw [if_neg hk]
         split at h2
         · rename_i h7
           rw [if_pos h7]
           simp only [Bool.or_eq_true] at h2 ⊢
           exact h2.imp hi id
         · cases h2
     · have h7 := goes_one hg
       simp only [replT, if_neg h0, if_neg hj]
       simp only [subT, if_neg h0, if_neg hj] at h1
       have hi := ihb (i - 1 - a.len) u hb h1
       simp only [dooF] at h2 ⊢
       rw [if_neg (by omega), if_pos h7] at h2 ⊢
       simp only [Bool.or_eq_true] at h2 ⊢
       exact h2.imp id hi

theorem eq_mono : ∀ (t : Tr) (i : Nat) (u : Tr), actP t i → dooF (subT t i) = false → eQ u = false → eQ (replT t i u) = true → eQ t = true := by
 intro t
 induction t with
 | l0 n => intro i u _ _ h2 h; simp only [replT] at h; rw [h2] at h; cases h
 | l1 n a ih =>
   intro i u h h1 h2 h3
   by_cases h0 : i = 0
   · subst h0; simp only [replT, if_true] at h3; rw [h2] at h3; cases h3
   · simp only [replT, if_neg h0] at h3
     simpa [eQ] using h3
 | l2 n a b iha ihb =>
   intro i u h h1 h2 h3
   by_cases h0 : i = 0
   · subst h0; simp only [replT, if_true] at h3; rw [h2] at h3; cases h3
   · rcases h with h | ⟨hj, hg, ha⟩ | ⟨hj, hg, hb⟩
     · exact absurd h h0
     · simp only [replT, if_neg h0, if_pos hj] at h3
       simp only [subT, if_neg h0, if_pos hj] at h1
       have hi := iha (i - 1) u ha h1 h2
       have hd := doo_mono a (i - 1) u ha h1
       simp only [eQ] at h3 ⊢
       split at h3
       · rename_i hk; rw [if_pos hk]; exact hi h3
       · rename_i hk
         rw [if_neg hk]
         split at h3
         · rename_i h7
           rw [if_pos h7]
           simp only [Bool.and_eq_true, Bool.or_eq_true, Bool.not_eq_true'] at h3 ⊢
           obtain ⟨e1, e2, e3⟩ := h3
           refine ⟨e1.imp hi id, ?_, e3⟩
           cases hda : dooF a with
           | false => rfl
           | true => rw [hd hda] at e2; cases e2
         · cases h3
     · have h7 := goes_one hg
       simp only [replT, if_neg h0, if_neg hj] at h3
       simp only [subT, if_neg h0, if_neg hj] at h1
       have hi := ihb (i - 1 - a.len) u hb h1 h2
       have hd := doo_mono b (i - 1 - a.len) u hb h1
       simp only [eQ] at h3 ⊢
       rw [if_neg (by omega), if_pos h7] at h3 ⊢
       simp only [Bool.and_eq_true, Bool.or_eq_true, Bool.not_eq_true'] at h3 ⊢
       obtain ⟨e1, e2, e3⟩ := h3
       refine ⟨e1.imp id hi, e2, ?_⟩
       cases hda : dooF b with
       | false => rfl
       | true => rw [hd hda] at e3; cases e3

theorem hq_mono : ∀ (t : Tr) (i : Nat) (u : Tr), actP t i → dooF (subT t i) = false → eQ u = false → HQ t → HQ u → HQ (replT t i u) := by
 intro t
 induction t with
 | l0 n => intro i u _ _ _ _ hu; exact hu
 | l1 n a ih =>
   intro i u h h1 h2 ht hu
   by_cases h0 : i = 0
   · subst h0; simp only [replT, if_true]; exact hu
   · rcases h with h | ⟨_, ha⟩
     · exact absurd h h0
     · simp only [replT, if_neg h0]
       have h1' : dooF (subT a (i - 1)) = false := by simpa only [subT, if_neg h0] using h1
       intro h9
       obtain ⟨q1, q2⟩ := ht h9
       refine ⟨ih (i - 1) u ha h1' h2 q1 hu, ?_⟩
       cases e : eQ (replT a (i - 1) u) with
       | false => rfl
       | true => have := eq_mono a (i - 1) u ha h1' h2 e; rw [q2] at this; cases this
 | l2 n a b iha ihb =>
   intro i u h h1 h2 ht hu
   by_cases h0 : i = 0
   · subst h0; simp only [replT, if_true]; exact hu
   · rcases h with h | ⟨hj, hg, ha⟩ | ⟨hj, hg, hb⟩
     · exact absurd h h0
     · simp only [replT, if_neg h0, if_pos hj]
       have h1' : dooF (subT a (i - 1)) = false := by simpa only [subT, if_neg h0, if_pos hj] using h1
       exact ⟨fun hk => iha (i - 1) u ha h1' h2 (ht.1 hk) hu, fun h7 => ⟨iha (i - 1) u ha h1' h2 (ht.2 h7).1 hu, (ht.2 h7).2⟩⟩
     · have h7 := goes_one hg
       simp only [replT, if_neg h0, if_neg hj]
       have h1' : dooF (subT b (i - 1 - a.len)) = false := by simpa only [subT, if_neg h0, if_neg hj] using h1
       exact ⟨fun hk => by omega, fun _ => ⟨(ht.2 h7).1, ihb (i - 1 - a.len) u hb h1' h2 (ht.2 h7).2 hu⟩⟩

def noB : Tr → Nat → Prop
 | .l0 _, _ => True
 | .l1 n a, i => i = 0 ∨ (n.kind ≠ 9 ∧ noB a (i - 1))
 | .l2 _ a b, i => i = 0 ∨ (i - 1 < a.len ∧ noB a (i - 1)) ∨ (¬ i - 1 < a.len ∧ noB b (i - 1 - a.len))
def dB : Tr → Nat → Prop
 | .l0 _, _ => False
 | .l1 _ a, i => i ≠ 0 ∧ dB a (i - 1)
 | .l2 n a b, i => i ≠ 0 ∧ ((i - 1 < a.len ∧ (dB a (i - 1) ∨ (noB a (i - 1) ∧ n.kind = 7 ∧ dooF b = true))) ∨ (¬ i - 1 < a.len ∧ (dB b (i - 1 - a.len) ∨ (noB b (i - 1 - a.len) ∧ n.kind = 7 ∧ dooF a = true))))

theorem hq_give : ∀ (t : Tr) (i : Nat) (u : Tr), actP t i → dooF (subT t i) = false → HQ t → HQ u → (noB t i ∨ dB t i) →
 HQ (replT t i u) ∧ (dB t i → noB t i → eQ (replT t i u) = true → eQ t = true) ∧ (¬ noB t i → eQ (replT t i u) = true → eQ t = true) := by
 intro t
 induction t with
 | l0 n => intro i u _ _ _ hu _; exact ⟨hu, fun h => h.elim, fun h => absurd trivial h⟩
 | l1 n a ih =>
   intro i u h h1 ht hu hf
   by_cases h0 : i = 0
   · subst h0; simp only [replT, if_true]
     exact ⟨hu, fun h => absurd rfl h.1, fun h => absurd (.inl rfl) h⟩
   · rcases h with h | ⟨hg, ha⟩
     · exact absurd h h0
     · have hk := goes_pos hg
       simp only [replT, if_neg h0]
       have h1' : dooF (subT a (i - 1)) = false := by simpa only [subT, if_neg h0] using h1
       have he : eQ (.l1 n (replT a (i - 1) u)) = true → eQ (.l1 n a) = true := fun h => by simpa [eQ] using h
       refine ⟨fun h9 => ?_, fun _ _ => he, fun _ => he⟩
       obtain ⟨q1, q2⟩ := ht h9
       have hd : dB a (i - 1) := by
        rcases hf with hf | hf
        · rcases hf with hf | hf
          · exact absurd hf h0
          · exact absurd h9 hf.1
        · exact hf.2
       obtain ⟨i1, i2, i3⟩ := ih (i - 1) u ha h1' q1 hu (.inr hd)
       refine ⟨i1, ?_⟩
       cases e : eQ (replT a (i - 1) u) with
       | false => rfl
       | true =>
         have : eQ a = true := by
          by_cases hn : noB a (i - 1)
          · exact i2 hd hn e
          · exact i3 hn e
         rw [q2] at this; cases this
 | l2 n a b iha ihb =>
   intro i u h h1 ht hu hf
   by_cases h0 : i = 0
   · subst h0; simp only [replT, if_true]
     exact ⟨hu, fun h => absurd rfl h.1, fun h => absurd (.inl rfl) h⟩
   · rcases h with h | ⟨hj, hg, ha⟩ | ⟨hj, hg, hb⟩
     · exact absurd h h0
     · simp only [replT, if_neg h0, if_pos hj]
       have h1' : dooF (subT a (i - 1)) = false := by simpa only [subT, if_neg h0, if_pos hj] using h1
       have hd := doo_mono a (i - 1) u ha h1'
       have hn : noB (.l2 n a b) i ↔ noB a (i - 1) := ⟨fun h => by
        rcases h with h | h | h
        · exact absurd h h0
        · exact h.2
        · exact absurd hj h.1, fun h => .inr (.inl ⟨hj, h⟩)⟩
       have hdb : dB (.l2 n a b) i → dB a (i - 1) ∨ (noB a (i - 1) ∧ n.kind = 7 ∧ dooF b = true) := fun h => by
        rcases h.2 with h | h
        · exact h.2
        · exact absurd hj h.1
       have hf' : noB a (i - 1) ∨ dB a (i - 1) := by
        rcases hf with hf | hf
        · exact .inl (hn.1 hf)
        · rcases hdb hf with h | h
          · exact .inr h
          · exact .inl h.1
       have ia := fun (hq : HQ a) => iha (i - 1) u ha h1' hq hu hf'
       have core : ∀ (hq : n.kind = 5 ∨ n.kind = 8 ∨ n.kind = 12 ∨ n.kind = 13 ∨ n.kind = 7 → eQ (replT a (i - 1) u) = true → eQ a = true), eQ (.l2 n (replT a (i - 1) u) b) = true → eQ (.l2 n a b) = true := fun hq h3 => by
        simp only [eQ] at h3 ⊢
        split at h3
        · rename_i hk; rw [if_pos hk]; exact hq (by omega) h3
        · rename_i hk
          rw [if_neg hk]
          split at h3
          · rename_i h7
            rw [if_pos h7]
            simp only [Bool.and_eq_true, Bool.or_eq_true, Bool.not_eq_true'] at h3 ⊢
            obtain ⟨e1, e2, e3⟩ := h3
            refine ⟨e1.imp (hq (by omega)) id, ?_, e3⟩
            cases hda : dooF a with
            | false => rfl
            | true => rw [hd hda] at e2; cases e2
          · cases h3
       have hqa : n.kind = 5 ∨ n.kind = 8 ∨ n.kind = 12 ∨ n.kind = 13 ∨ n.kind = 7 → HQ a := fun hk => by
        by_cases h7 : n.kind = 7
        · exact (ht.2 h7).1
        · exact ht.1 (by omega)
       refine ⟨⟨fun hk => (ia (hqa (by omega))).1, fun h7 => ⟨(ia (hqa (by omega))).1, (ht.2 h7).2⟩⟩, fun h2 h3 h4 => ?_, fun h3 h4 => ?_⟩
       · rcases hdb h2 with h5 | ⟨_, h7, hdo⟩
         · exact core (fun hk => (ia (hqa hk)).2.1 h5 (hn.1 h3)) h4
         · simp only [eQ] at h4
           rw [if_neg (by omega), if_pos h7, hdo] at h4
           simp at h4
       · exact core (fun hk => (ia (hqa hk)).2.2 (fun h => h3 (hn.2 h))) h4
     · have h7 := goes_one hg
       simp only [replT, if_neg h0, if_neg hj]
       have h1' : dooF (subT b (i - 1 - a.len)) = false := by simpa only [subT, if_neg h0, if_neg hj] using h1
       have hd := doo_mono b (i - 1 - a.len) u hb h1'
       have hn : noB (.l2 n a b) i ↔ noB b (i - 1 - a.len) := ⟨fun h => by
        rcases h with h | h | h
        · exact absurd h h0
        · exact absurd h.1 hj
        · exact h.2, fun h => .inr (.inr ⟨hj, h⟩)⟩
       have hdb : dB (.l2 n a b) i → dB b (i - 1 - a.len) ∨ (noB b (i - 1 - a.len) ∧ n.kind = 7 ∧ dooF a = true) := fun h => by
        rcases h.2 with h | h
        · exact absurd h.1 hj
        · exact h.2
       have hf' : noB b (i - 1 - a.len) ∨ dB b (i - 1 - a.len) := by
        rcases hf with hf | hf
        · exact .inl (hn.1 hf)
        · rcases hdb hf with h | h
          · exact .inr h
          · exact .inl h.1
       obtain ⟨ib1, ib2, ib3⟩ := ihb (i - 1 - a.len) u hb h1' (ht.2 h7).2 hu hf'
       have core : (eQ (replT b (i - 1 - a.len) u) = true → eQ b = true) → eQ (.l2 n a (replT b (i - 1 - a.len) u)) = true → eQ (.l2 n a b) = true := fun hq h3 => by
        simp only [eQ] at h3 ⊢
        rw [if_neg (by omega), if_pos h7] at h3 ⊢
        simp only [Bool.and_eq_true, Bool.or_eq_true, Bool.not_eq_true'] at h3 ⊢
        obtain ⟨e1, e2, e3⟩ := h3
        refine ⟨e1.imp id hq, e2, ?_⟩
        cases hda : dooF b with
        | false => rfl
        | true => rw [hd hda] at e3; cases e3
       refine ⟨⟨fun hk => by omega, fun _ => ⟨(ht.2 h7).1, ib1⟩⟩, fun h2 h3 h4 => ?_, fun h3 h4 => ?_⟩
       · rcases hdb h2 with h5 | ⟨_, _, hdo⟩
         · exact core (ib2 h5 (hn.1 h3)) h4
         · simp only [eQ] at h4
           rw [if_neg (by omega), if_pos h7, hdo] at h4
           simp at h4
       · exact core (ib3 (fun h => h3 (hn.2 h))) h4

theorem besG_app (T : Tr) (I : Nat) : ∀ (r1 r2 : List Nat) (out : List Tr), besG T I (r1 ++ r2) out = if (besG T I r1 out).2 then besG T I r1 out else besG T I r2 (besG T I r1 out).1 := by
 intro r1
 induction r1 with
 | nil => intro r2 out; simp [besG]
 | cons o r1 ih =>
   intro r2 out
   simp only [List.cons_append, besG]
   split
   · simp
   · split
     · exact ih _ _
     · exact ih _ _
theorem besG_spec (T : Tr) (I : Nat) : ∀ (t : Tr) (b i : Nat) (out : List Tr), i < t.len → I = b + i → (∀ j, j < t.len → subT T (b + j) = subT t j) →
 ((besG T I ((ancT t b i).map Prod.fst).reverse out).2 = false → noB t i) ∧
 (∀ x, x ∈ (besG T I ((ancT t b i).map Prod.fst).reverse out).1 → x ∈ out ∨ (dooF x = true → dB t i)) := by
 intro t
 induction t with
 | l0 n => intro b i out _ _ _; simp [ancT, besG, noB]; exact fun x hx => .inl hx
 | l1 n a ih =>
   intro b i out hi hI hs
   rw [len_l1] at hi
   by_cases h0 : i = 0
   · subst h0; simp [ancT, besG, noB]; exact fun x hx => .inl hx
   · have h00 := hs 0 (by rw [len_l1]; omega)
     rw [Nat.add_zero, subT_zero] at h00
     have e : ((ancT (.l1 n a) b i).map Prod.fst).reverse = ((ancT a (b + 1) (i - 1)).map Prod.fst).reverse ++ [b] := by simp [ancT, h0]
     rw [e, besG_app]
     obtain ⟨i1, i2⟩ := ih (b + 1) (i - 1) out (by omega) (by omega) (fun j hj => by
      have := hs (j + 1) (by rw [len_l1]; omega)
      rw [show b + 1 + j = b + (j + 1) by omega, this]; simp [subT])
     generalize besG T I ((ancT a (b + 1) (i - 1)).map Prod.fst).reverse out = X at i1 i2
     have i2' : ∀ x, x ∈ X.1 → x ∈ out ∨ (dooF x = true → dB (.l1 n a) i) := fun x hx => (i2 x hx).imp id (fun h hd => ⟨h0, h hd⟩)
     cases hX : X.2 with
     | true => simp only [if_true, hX]; exact ⟨fun h => (by cases h), i2'⟩
     | false =>
       simp only [Bool.false_eq_true, if_false, besG, h00]
       split
       · exact ⟨fun h => (by cases h), i2'⟩
       · rename_i h9
         have h9' : n.kind ≠ 9 := h9
         split
         · rename_i h7
           have h7' : n.kind = 7 := h7
           refine ⟨fun _ => .inr ⟨h9', i1 hX⟩, fun x hx => ?_⟩
           rcases List.mem_append.1 hx with hx | hx
           · exact i2' x hx
           · right
             intro hd
             rw [List.mem_singleton.1 hx] at hd
             have hkf : kidF (.l1 n a) ((I : Int) - ((b : Int) + 1)) = 0 := by
              simp only [kidF, Tr.kids, List.map_cons, List.map_nil, kidGo]; split <;> rfl
             rw [hkf] at hd
             exact absurd hd (by show ¬ dooF (.l0 default) = true; decide)
         · exact ⟨fun _ => .inr ⟨h9', i1 hX⟩, i2'⟩
 | l2 n a c iha ihc =>
   intro b i out hi hI hs
   rw [len_l2] at hi
   by_cases h0 : i = 0
   · subst h0; simp [ancT, besG, noB]; exact fun x hx => .inl hx
   · have h00 := hs 0 (by rw [len_l2]; omega)
     rw [Nat.add_zero, subT_zero] at h00
     by_cases hj : i - 1 < a.len
     · have e : ((ancT (.l2 n a c) b i).map Prod.fst).reverse = ((ancT a (b + 1) (i - 1)).map Prod.fst).reverse ++ [b] := by simp [ancT, h0, hj]
       rw [e, besG_app]
       obtain ⟨i1, i2⟩ := iha (b + 1) (i - 1) out hj (by omega) (fun j hj' => by
        have := hs (j + 1) (by rw [len_l2]; omega)
        rw [show b + 1 + j = b + (j + 1) by omega, this]; simp [subT, hj'])
       generalize besG T I ((ancT a (b + 1) (i - 1)).map Prod.fst).reverse out = X at i1 i2
       have i2' : ∀ x, x ∈ X.1 → x ∈ out ∨ (dooF x = true → dB (.l2 n a c) i) := fun x hx => (i2 x hx).imp id (fun h hd => ⟨h0, .inl ⟨hj, .inl (h hd)⟩⟩)
       cases hX : X.2 with
       | true => simp only [if_true, hX]; exact ⟨fun h => (by cases h), i2'⟩
       | false =>
         have hn : noB (.l2 n a c) i := .inr (.inl ⟨hj, i1 hX⟩)
         simp only [Bool.false_eq_true, if_false, besG, h00]
         split
         · exact ⟨fun h => (by cases h), i2'⟩
         · split
           · rename_i h7
             have h7' : n.kind = 7 := h7
             refine ⟨fun _ => hn, fun x hx => ?_⟩
             rcases List.mem_append.1 hx with hx | hx
             · exact i2' x hx
             · right
               intro hd
               have hkf : kidF (.l2 n a c) ((I : Int) - ((b : Int) + 1)) = 0 := by
                simp only [kidF, Tr.kids, List.map_cons, List.map_nil, kidGo]; rw [if_pos (by omega)]
               rw [hkf] at hx
               have hx' : x = c := by simpa [kidAt, Tr.kids] using hx
               rw [hx'] at hd
               exact ⟨h0, .inl ⟨hj, .inr ⟨i1 hX, h7', hd⟩⟩⟩
           · exact ⟨fun _ => hn, i2'⟩
     · have e : ((ancT (.l2 n a c) b i).map Prod.fst).reverse = ((ancT c (b + 1 + a.len) (i - 1 - a.len)).map Prod.fst).reverse ++ [b] := by simp [ancT, h0, hj]
       rw [e, besG_app]
       obtain ⟨i1, i2⟩ := ihc (b + 1 + a.len) (i - 1 - a.len) out (by omega) (by omega) (fun j hj' => by
        have := hs (j + a.len + 1) (by rw [len_l2]; omega)
        have hnl : ¬ j + a.len < a.len := by omega
        rw [show b + 1 + a.len + j = b + (j + a.len + 1) by omega, this]; simp [subT, hnl])
       generalize besG T I ((ancT c (b + 1 + a.len) (i - 1 - a.len)).map Prod.fst).reverse out = X at i1 i2
       have i2' : ∀ x, x ∈ X.1 → x ∈ out ∨ (dooF x = true → dB (.l2 n a c) i) := fun x hx => (i2 x hx).imp id (fun h hd => ⟨h0, .inr ⟨hj, .inl (h hd)⟩⟩)
       cases hX : X.2 with
       | true => simp only [if_true, hX]; exact ⟨fun h => (by cases h), i2'⟩
       | false =>
         have hn : noB (.l2 n a c) i := .inr (.inr ⟨hj, i1 hX⟩)
         simp only [Bool.false_eq_true, if_false, besG, h00]
         split
         · exact ⟨fun h => (by cases h), i2'⟩
         · split
           · rename_i h7
             have h7' : n.kind = 7 := h7
             refine ⟨fun _ => hn, fun x hx => ?_⟩
             rcases List.mem_append.1 hx with hx | hx
             · exact i2' x hx
             · right
               intro hd
               have hkf : kidF (.l2 n a c) ((I : Int) - ((b : Int) + 1)) = 1 := by
                simp only [kidF, Tr.kids, List.map_cons, List.map_nil, kidGo]; rw [if_neg (by omega), if_pos (by omega)]; rfl
               rw [hkf] at hx
               have hx' : x = a := by simpa [kidAt, Tr.kids] using hx
               rw [hx'] at hd
               exact ⟨h0, .inr ⟨hj, .inr ⟨i1 hX, h7', hd⟩⟩⟩
           · exact ⟨fun _ => hn, i2'⟩

theorem free_q {t : Tr} {i : Nat} (ht : t.ok) (hi : i < t.flat.length) (ha : i ∈ actL t) (h : freeT t i = true) : noB t i ∨ dB t i := by
 unfold freeT besT at h
 rw [if_pos ha] at h
 have hlt := anc_lt (t := t) i hi
 obtain ⟨s1, s2⟩ := besG_spec t i t 0 i [] hi (by omega) (fun j _ => by rw [Nat.zero_add])
 have hm := besG_mem ht i (anc t i).reverse [] (fun o ho => by have := hlt.1 o (by simpa using ho); omega)
 have e : besG t i (anc t i).reverse [] = besG t i ((ancT t 0 i).map Prod.fst).reverse [] := rfl
 rw [← e] at s1 s2
 simp only [Bool.or_eq_true, Bool.not_eq_true'] at h
 rcases h with h | h
 · exact .inl (s1 h)
 · right
   rw [List.any_eq_true] at h
   obtain ⟨l, hl, hd⟩ := h
   obtain ⟨x, hx, rfl⟩ := List.mem_map.1 hl
   have hok : x.ok := by
    rcases hm x hx with h | h
    · simp at h
    · exact h.1
   rw [doomR_flat hok] at hd
   unfold doomedT at hd
   simp only [Bool.and_eq_true] at hd
   rcases s2 x hx with h | h
   · simp at h
   · exact h hd.2

end Go.Av
namespace Go.Av
open Go Go.Proofs

theorem act_anc : ∀ (t : Tr) (b i : Nat), i < t.len → actP t i → ∀ x, x ∈ (ancT t b i).map Prod.fst → kidF (subT t (x - b)) ((i : Int) - ((x - b : Nat) + 1)) < goes (subT t (x - b)).root.kind := by
 intro t
 induction t with
 | l0 n => intro b i _ _ x hx; simp [ancT] at hx
 | l1 n a ih =>
   intro b i hi h x hx
   rw [len_l1] at hi
   by_cases h0 : i = 0
   · subst h0; simp [ancT] at hx
   · rcases h with h | ⟨hg, ha⟩
     · exact absurd h h0
     · simp only [ancT, if_neg h0, List.map_cons, List.mem_cons] at hx
       rcases hx with rfl | hx
       · rw [Nat.sub_self, subT_zero]
         have : kidF (.l1 n a) ((i : Int) - ((0 : Nat) + 1)) = 0 := by
          simp only [kidF, Tr.kids, List.map_cons, List.map_nil, kidGo]; split <;> rfl
         rw [this]; exact hg
       · have hb := ancT_ge _ _ _ _ hx
         have := ih (b + 1) (i - 1) (by omega) ha x hx
         have e : x - b = x - (b + 1) + 1 := by omega
         have es : subT (.l1 n a) (x - b) = subT a (x - (b + 1)) := by rw [e]; simp [subT]
         have ei : (i : Int) - ((x - b : Nat) + 1) = ((i - 1 : Nat) : Int) - ((x - (b + 1) : Nat) + 1) := by omega
         rw [es, ei]; exact this
 | l2 n a c iha ihc =>
   intro b i hi h x hx
   rw [len_l2] at hi
   by_cases h0 : i = 0
   · subst h0; simp [ancT] at hx
   · rcases h with h | ⟨hj, hg, ha⟩ | ⟨hj, hg, hc⟩
     · exact absurd h h0
     · simp only [ancT, if_neg h0, if_pos hj, List.map_cons, List.mem_cons] at hx
       rcases hx with rfl | hx
       · rw [Nat.sub_self, subT_zero]
         have : kidF (.l2 n a c) ((i : Int) - ((0 : Nat) + 1)) = 0 := by
          simp only [kidF, Tr.kids, List.map_cons, List.map_nil, kidGo]; rw [if_pos (by omega)]
         rw [this]; exact hg
       · have hb := ancT_ge _ _ _ _ hx
         have := iha (b + 1) (i - 1) hj ha x hx
         have hlt : x - (b + 1) < a.len := by omega
         have e : x - b = x - (b + 1) + 1 := by omega
         have es : subT (.l2 n a c) (x - b) = subT a (x - (b + 1)) := by rw [e]; simp [subT, hlt]
         have ei : (i : Int) - ((x - b : Nat) + 1) = ((i - 1 : Nat) : Int) - ((x - (b + 1) : Nat) + 1) := by omega
         rw [es, ei]; exact this
     · simp only [ancT, if_neg h0, if_neg hj, List.map_cons, List.mem_cons] at hx
       rcases hx with rfl | hx
       · rw [Nat.sub_self, subT_zero]
         have : kidF (.l2 n a c) ((i : Int) - ((0 : Nat) + 1)) = 1 := by
          simp only [kidF, Tr.kids, List.map_cons, List.map_nil, kidGo]; rw [if_neg (by omega), if_pos (by omega)]; rfl
         rw [this]; exact hg
       · have hb := ancT_ge _ _ _ _ hx
         have := ihc (b + 1 + a.len) (i - 1 - a.len) (by omega) hc x hx
         have e : x - b = x - (b + 1 + a.len) + a.len + 1 := by omega
         have hnl : ¬ x - (b + 1 + a.len) + a.len < a.len := by omega
         have es : subT (.l2 n a c) (x - b) = subT c (x - (b + 1 + a.len)) := by rw [e]; simp [subT, hnl]
         have ei : (i : Int) - ((x - b : Nat) + 1) = ((i - 1 - a.len : Nat) : Int) - ((x - (b + 1 + a.len) : Nat) + 1) := by omega
         rw [es, ei]; exact this

theorem idle_act {t : Tr} {i : Nat} (hi : i < t.flat.length) (h : actP t i) : idleT t i = false := by
 unfold idleT
 rw [List.any_eq_false]
 intro x hx
 have := act_anc t 0 i hi h x hx
 rw [Nat.sub_zero] at this
 unfold idl
 simpa using this

def t_here (t : Tr) : Prop := ∃ i, i < t.len ∧ waits (subT t i).root.kind = true ∧ actP t i
theorem prog : ∀ t : Tr, Good t → settleT t = t → HQ t → t.root.kind = 11 ∨ t.root.kind = 14 ∨ ∃ i, i < t.len ∧ waits (subT t i).root.kind = true ∧ actP t i := by
 intro t
 induction t with
 | l0 n =>
   intro g hf hq
   have hk : arity n.kind = 0 := g.ok
   by_cases h11 : n.kind = 11
   · exact .inl h11
   · rw [settleT_l0] at hf
     have h2 : n.kind ≠ 2 := fun e => by rw [if_pos e] at hf; injection hf with hf; rw [← hf] at e; simp at e
     have h3 : n.kind ≠ 3 := fun e => by rw [if_neg (by omega), if_pos e] at hf; injection hf with hf; rw [← hf] at e; simp at e
     have : n.kind = 1 ∨ n.kind = 4 := by unfold arity at hk; omega
     refine .inr (.inr ⟨0, by rw [len_l0]; omega, ?_, trivial⟩)
     show waits n.kind = true
     rcases this with e | e <;> rw [e] <;> rfl
 | l1 n a ih =>
   intro g hf hq
   have hk : arity n.kind = 1 := g.ok.1
   have hl := len_l1 n a
   by_cases h14 : n.kind = 14
   · exact .inr (.inl h14)
   · have h9 : n.kind = 9 := by unfold arity at hk; omega
     obtain ⟨q1, q2⟩ := hq h9
     rw [settleT_l1 n a g.kid1.ok, if_pos h9] at hf
     obtain ⟨s1, s2⟩ := settle_good _ a (Nat.le_refl _) g.kid1
     have hla := (settleT_ok g.kid1.ok).2
     unfold blockT at hf
     split at hf
     · cases hf
     · split at hf
       · rename_i h1 h2
         exfalso
         have hk14 : (settleT a).root.kind = 14 := by rw [h2]
         obtain ⟨e1, e2⟩ := sub_of_end s1.ok hk14
         have := (settleT_ok e1).2
         rw [hf] at this; omega
       · rename_i h1 h2
         injection hf with _ hf
         rw [hf] at h1 h2
         rcases ih g.kid1 hf q1 with h | h | ⟨i, hi, hw, ha⟩
         · have hso : sort1 9 (sortT a) ≠ 0 := by have := g.so; simpa [sortT, h9] using this
           rw [(g.kid1.over h).1] at hso
           exact absurd (by decide) hso
         · have hs := (g.kid1.endd h).2.2.2
           obtain ⟨b1, b2, e⟩ := hs
           have hq3 := (end_q g.kid1.ok h).1
           rw [q2] at hq3
           have h3 : a.root.sign ≠ 3 := fun e => by rw [e] at hq3; simp at hq3
           have : a.root.sign = 1 ∨ a.root.sign = 2 := by omega
           rcases this with e2 | e2
           · rw [e2] at e; exact absurd e h1
           · rw [e2] at e; exact absurd e h2
         · refine .inr (.inr ⟨i + 1, by omega, by simpa [subT] using hw, .inr ⟨by rw [h9]; decide, by simpa using ha⟩⟩)
 | l2 n a b iha ihb =>
   intro g hf hq
   have hk : arity n.kind = 2 := g.ok.1
   have hl := len_l2 n a b
   have pa := len_pos a
   have pb := len_pos b
   have hra := sortT_range a
   have hrb := sortT_range b
   have hso : sort2 n.kind (sortT a) (sortT b) ≠ 0 := g.so
   have ga := g.kidA
   have gb := g.kidB
   obtain ⟨sa1, sa2⟩ := settle_good _ a (Nat.le_refl _) ga
   have hla := (settleT_ok ga.ok).2
   have hlb := (settleT_ok gb.ok).2
   have fin : n.kind = 5 ∨ n.kind = 8 ∨ n.kind = 12 ∨ n.kind = 13 → (∃ i, i < a.len ∧ waits (subT a i).root.kind = true ∧ actP a i) → ∃ i, i < (Tr.l2 n a b).len ∧ waits (subT (.l2 n a b) i).root.kind = true ∧ actP (.l2 n a b) i := by
    rintro hkk ⟨i, hi, hw, ha⟩
    refine ⟨i + 1, by omega, by simpa [subT, hi] using hw, .inr (.inl ⟨by simpa using hi, ?_, by simpa using ha⟩)⟩
    exact (goes_cases n.kind).1.2 (by omega)
   have here : waits n.kind = true → t_here (.l2 n a b) := fun h => ⟨0, by omega, by rw [subT_zero]; exact h, .inl rfl⟩
   rw [settleT_l2 n a b ga.ok gb.ok] at hf
   have beh : ∀ begins : Int, (n.kind = 8 ∧ begins = 2 ∨ n.kind = 5 ∧ begins = 1) → behindT settleT n (settleT a) b begins = .l2 n a b → settleT a = a ∧ a.root.kind ≠ 11 := by
    intro begins _ hf
    unfold behindT at hf
    split at hf
    · exfalso; rw [hf] at hlb; omega
    · split at hf
      · exfalso; rw [hf] at hla; omega
      · rename_i h1 h2
        injection hf with _ hf _
        rw [hf] at h2
        exact ⟨hf, h2⟩
   by_cases h8 : n.kind = 8
   · rw [if_pos h8] at hf
     obtain ⟨fa, n11⟩ := beh 2 (.inl ⟨h8, rfl⟩) hf
     rcases iha ga fa (hq.1 (by omega)) with h | h | h
     · exact absurd h n11
     · rw [h8, (ga.endd h).1] at hso
       have := (sort2_8 (x := 4) (by omega) hrb hso).2.1; omega
     · exact .inr (.inr (fin (by omega) h))
   · rw [if_neg h8] at hf
     by_cases h5 : n.kind = 5
     · rw [if_pos h5] at hf
       split at hf
       · rename_i h14
         obtain ⟨fa, n11⟩ := beh 1 (.inr ⟨h5, rfl⟩) hf
         rw [fa] at h14
         rcases iha ga fa (hq.1 (by omega)) with h | h | h
         · exact absurd h n11
         · exact absurd h h14
         · exact .inr (.inr (fin (by omega) h))
       · split at hf
         · exfalso; rw [hf] at hla; omega
         · exfalso
           unfold stackT at hf
           split at hf
           · injection hf with hf _ _
             have := congrArg Node.kind hf
             simp at this; omega
           · unfold endT at hf; cases hf
     · rw [if_neg h5] at hf
       by_cases h13 : n.kind = 13
       · rw [if_pos h13] at hf
         unfold stackT at hf
         split at hf
         · rename_i h14
           injection hf with _ fa _
           rw [fa] at h14
           rcases iha ga fa (hq.1 (by omega)) with h | h | h
           · rw [h13, (ga.over h).1] at hso
             have := (sort2_13 (x := 3) (by omega) hrb hso).2.1; omega
           · exact absurd h h14
           · exact .inr (.inr (fin (by omega) h))
         · unfold endT at hf; cases hf
       · rw [if_neg h13] at hf
         by_cases h12 : n.kind = 12
         · rw [if_pos h12] at hf
           split at hf
           · unfold endT at hf; cases hf
           · rename_i he
             injection hf with _ fa _
             rw [fa] at he
             rcases iha ga fa (hq.1 (by omega)) with h | h | h
             · exfalso; apply he
               unfold ended
               have := over_shape ga.ok h
               simp only [decide_eq_true_eq]
               refine ⟨?_, h⟩
               rw [this]; rfl
             · rw [h12, (ga.endd h).1] at hso
               have := (sort2_12 (x := 4) (by omega) hrb hso).2.1; omega
             · exact .inr (.inr (fin (by omega) h))
         · rw [if_neg h12] at hf
           by_cases h7 : n.kind = 7
           · rw [if_pos h7] at hf
             unfold parT at hf
             split at hf
             · unfold overT at hf; cases hf
             · rename_i p1
               split at hf
               · unfold endT at hf; cases hf
               · rename_i p2
                 injection hf with _ fa fb
                 rw [fa, fb] at p1 p2
                 have left : (∃ i, i < a.len ∧ waits (subT a i).root.kind = true ∧ actP a i) → t_here (.l2 n a b) := by
                  rintro ⟨i, hi, hw, ha⟩
                  refine ⟨i + 1, by omega, by simpa [subT, hi] using hw, .inr (.inl ⟨by simpa using hi, ?_, by simpa using ha⟩)⟩
                  exact (goes_cases n.kind).1.2 (by omega)
                 have right : (∃ i, i < b.len ∧ waits (subT b i).root.kind = true ∧ actP b i) → t_here (.l2 n a b) := by
                  rintro ⟨i, hi, hw, hb⟩
                  have hnl : ¬ a.len + i < a.len := by omega
                  refine ⟨a.len + i + 1, by omega, by simpa [subT, hnl] using hw, .inr (.inr ⟨by simp, ?_, ?_⟩)⟩
                  · exact (goes_cases n.kind).2.2 h7
                  · have : a.len + i + 1 - 1 - a.len = i := by omega
                    rw [this]; exact hb
                 rw [h7] at hso
                 have e7 := (sort2_7 hra hrb hso).1
                 rcases iha ga fa (hq.2 h7).1 with h | h | h
                 · rcases ihb gb fb (hq.2 h7).2 with k | k | k
                   · exact absurd ⟨h, k⟩ p1
                   · rw [(ga.over h).1, (gb.endd k).1] at e7; exact absurd e7 (by decide)
                   · exact .inr (.inr (right k))
                 · rcases ihb gb fb (hq.2 h7).2 with k | k | k
                   · rw [(ga.endd h).1, (gb.over k).1] at e7; exact absurd e7 (by decide)
                   · exact absurd ⟨h, k⟩ p2
                   · exact .inr (.inr (right k))
                 · exact .inr (.inr (left h))
           · have : n.kind = 6 ∨ n.kind = 10 := by unfold arity at hk; omega
             refine .inr (.inr (here ?_))
             rcases this with e | e <;> rw [e] <;> rfl

structure Live (t : Tr) : Prop extends Inv t where
 hq : HQ t

theorem live_moves {t : Tr} (h : Live t) : t.root.kind = 11 ∨ enF t ≠ [] := by
 rcases prog t h.good h.fix h.hq with h1 | h1 | ⟨i, hi, hw, ha⟩
 · exact .inl h1
 · have := h.on
   rw [(h.good.endd h1).1] at this
   exact absurd this (by decide)
 · right
   have hact : i ∈ actL t := by
    unfold actL
    rw [if_pos h.toInv.settled]
    unfold actF
    rw [List.mem_filter]
    exact ⟨List.mem_range.2 hi, by rw [hw, idle_act hi ha]; rfl⟩
   intro he
   unfold enF at he
   rw [List.flatMap_eq_nil_iff] at he
   have := he i hact
   unfold movesAt at this
   rw [List.map_eq_nil_iff] at this
   have hmem : ∃ w, w ∈ (waysOf (subT t i).root.kind) ∧ w.2 = false := by
    unfold waits at hw
    simp only [Bool.or_eq_true, beq_iff_eq] at hw
    unfold waysOf
    rcases hw with ((e | e) | e) | e
    · rw [if_pos e]; exact ⟨(1, false), by simp, rfl⟩
    · rw [if_neg (by omega), if_pos e]; exact ⟨(2, false), by simp, rfl⟩
    · rw [if_neg (by omega), if_neg (by omega), if_pos (.inl e)]; exact ⟨(4, false), by simp, rfl⟩
    · rw [if_neg (by omega), if_neg (by omega), if_pos (.inr e)]; exact ⟨(4, false), by simp, rfl⟩
   obtain ⟨w, hw1, hw2⟩ := hmem
   have hin : w ∈ (waysOf (subT t i).root.kind).filter (mayT t i) := List.mem_filter.2 ⟨hw1, by unfold mayT; rw [if_neg (by simp [hw2])]⟩
   rw [this] at hin
   simp at hin

theorem waits_quiet {t : Tr} (h : waits t.root.kind = true) : dooF t = false := by
 have hk : t.root.kind = 1 ∨ t.root.kind = 6 ∨ t.root.kind = 4 ∨ t.root.kind = 10 := by
  unfold waits at h
  simp only [Bool.or_eq_true, beq_iff_eq] at h
  omega
 cases t with
 | l0 n => have : n.kind ≠ 11 := by have := hk; simp only [Tr.root] at this; omega
           simp [dooF, this]
 | l1 n a => have : n.kind ≠ 14 := by have := hk; simp only [Tr.root] at this; omega
             simp [dooF, this]
 | l2 n a b =>
   have h2 := hk
   simp only [Tr.root] at h2
   unfold dooF
   rw [if_neg (by omega), if_neg (by omega)]

theorem actL_spec {t : Tr} {i : Nat} (h : i ∈ actL t) : i < t.flat.length ∧ waits (subT t i).root.kind = true ∧ actP t i := by
 have hlt := actL_lt.1 i h
 unfold actL at h
 split at h
 · have h2 := (List.mem_filter.1 h).2
   simp only [Bool.and_eq_true, Bool.not_eq_true'] at h2
   exact ⟨hlt, h2.1, actP_idle hlt h2.2⟩
 · simp at h

theorem enF_spec {t : Tr} {m : Int × Int} (h : m ∈ enF t) : ∃ i : Nat, m.1 = i ∧ i < t.flat.length ∧ i ∈ actL t ∧ ∃ w, w ∈ waysOf (subT t i).root.kind ∧ m.2 = w.1 ∧ mayT t i w = true := by
 unfold enF at h
 obtain ⟨i, hi, hm⟩ := List.mem_flatMap.1 h
 unfold movesAt at hm
 obtain ⟨w, hw, rfl⟩ := List.mem_map.1 hm
 obtain ⟨h1, h2⟩ := List.mem_filter.1 hw
 exact ⟨i, rfl, actL_lt.1 i hi, hi, w, h1, rfl, h2⟩

theorem live_next {t : Tr} {m : Int × Int} (h : Live t) (hm : m ∈ enF t) : Live (nextT t m) ∧ (nextT t m).flat.length ≤ t.flat.length ∧ wN (nextT t m).flat + 1 ≤ wN t.flat := by
 obtain ⟨n1, n2, n3⟩ := next_inv h.toInv hm
 refine ⟨⟨n1, ?_⟩, n2, n3⟩
 obtain ⟨i, hi, hlt, hact, w, hw, hhow, hmay⟩ := enF_spec hm
 have ei : m.1.toNat = i := by omega
 obtain ⟨_, hwt, hap⟩ := actL_spec hact
 have hgs := good_sub t i h.good hlt
 obtain ⟨g1, g2, g3, g4⟩ := made_good (how := m.2) (w := w.2) hgs (by rw [hhow]; exact hw)
 obtain ⟨r1, r2⟩ := repl_good h.good g1 hlt hap g2
 have hdo := waits_quiet hwt
 unfold nextT
 rw [ei]
 have key : HQ (replT t i (madeT (subT t i) m.2)) := by
  have hks : (subT t i).root.kind = 1 ∧ m.2 = 1 ∨ (subT t i).root.kind = 6 ∧ (m.2 = 2 ∨ m.2 = 3) ∨ ((subT t i).root.kind = 4 ∨ (subT t i).root.kind = 10) ∧ (m.2 = 4 ∨ (m.2 = 5 ∧ w.2 = true)) := by
   rw [hhow]
   unfold waysOf at hw
   split at hw
   · rename_i e; simp at hw; rw [hw]; exact .inl ⟨e, rfl⟩
   · split at hw
     · rename_i e; simp at hw; rcases hw with rfl | rfl
       · exact .inr (.inl ⟨e, .inl rfl⟩)
       · exact .inr (.inl ⟨e, .inr rfl⟩)
     · split at hw
       · rename_i e; simp at hw; rcases hw with rfl | rfl
         · exact .inr (.inr ⟨e, .inl rfl⟩)
         · exact .inr (.inr ⟨e, .inr ⟨rfl, rfl⟩⟩)
       · simp at hw
  generalize hs : subT t i = s at *
  rcases hks with ⟨k1, e⟩ | ⟨k6, e⟩ | ⟨k4, e⟩
  · have : madeT s m.2 = overT 1 := by unfold madeT; rw [if_neg (by omega), if_neg (by omega), if_neg (by omega), if_neg (by omega)]
    rw [this]
    obtain ⟨o1, _, o3⟩ := overT_q 1
    exact hq_mono t i _ hap (by rw [hs]; exact hdo) (by rw [o1]; rfl) h.hq o3
  · have src2 : ∀ k : Nat, k < 2 → eQ (kidAt s k) = false ∧ HQ (kidAt s k) := fun k hk => by
     cases s with
     | l0 n => have h1 : arity n.kind = 0 := hgs.ok; have h2 : n.kind = 6 := k6; rw [h2] at h1; cases h1
     | l1 n a => have h1 : arity n.kind = 1 := hgs.ok.1; have h2 : n.kind = 6 := k6; rw [h2] at h1; cases h1
     | l2 n a b =>
       have h2 : n.kind = 6 := k6
       have hra := sortT_range a
       have hrb := sortT_range b
       have hso := hgs.so
       simp only [sortT, h2] at hso
       unfold sort2 at hso
       split at hso
       · exact absurd rfl hso
       · rename_i hz
         rw [if_pos rfl] at hso
         split at hso
         · exact absurd rfl hso
         · rename_i hle
           have : k = 0 ∨ k = 1 := by omega
           rcases this with rfl | rfl
           · exact src_q a (by omega)
           · exact src_q b (by omega)
    have : madeT s m.2 = kidAt s 0 ∨ madeT s m.2 = kidAt s 1 := by
     unfold madeT
     rcases e with e | e
     · rw [if_pos e]; exact .inl rfl
     · rw [if_neg (by omega), if_pos e]; exact .inr rfl
    rcases this with e | e <;> rw [e]
    · obtain ⟨o1, o3⟩ := src2 0 (by omega)
      exact hq_mono t i _ hap (by rw [hs]; exact hdo) o1 h.hq o3
    · obtain ⟨o1, o3⟩ := src2 1 (by omega)
      exact hq_mono t i _ hap (by rw [hs]; exact hdo) o1 h.hq o3
  · rcases e with e | ⟨e, ew⟩
    · have : madeT s m.2 = overT 1 ∨ (s.root.kind = 10 ∧ madeT s m.2 = .l2 ⟨12, emp, 0⟩ (kidAt s 0) (kidAt s 1)) := by
       unfold madeT
       rw [if_neg (by omega), if_neg (by omega), if_neg (by omega)]
       by_cases h10 : s.root.kind = 10
       · rw [if_pos h10]; exact .inr ⟨h10, rfl⟩
       · rw [if_neg h10]; exact .inl rfl
      rcases this with e | ⟨h10, e⟩ <;> rw [e]
      · obtain ⟨o1, _, o3⟩ := overT_q 1
        exact hq_mono t i _ hap (by rw [hs]; exact hdo) (by rw [o1]; rfl) h.hq o3
      · have hk : eQ (kidAt s 0) = false ∧ HQ (kidAt s 0) := by
         cases s with
         | l0 n => have h1 : arity n.kind = 0 := hgs.ok; have h2 : n.kind = 10 := h10; rw [h2] at h1; cases h1
         | l1 n a => have h1 : arity n.kind = 1 := hgs.ok.1; have h2 : n.kind = 10 := h10; rw [h2] at h1; cases h1
         | l2 n a b =>
           have h2 : n.kind = 10 := h10
           have hso := hgs.so
           simp only [sortT, h2] at hso
           unfold sort2 at hso
           split at hso
           · exact absurd rfl hso
           · rw [if_neg (by decide), if_neg (by decide), if_neg (by decide), if_neg (by decide), if_pos rfl] at hso
             split at hso
             · rename_i hz; exact src_q a (.inl hz.1)
             · exact absurd rfl hso
        exact hq_mono t i _ hap (by rw [hs]; exact hdo) (by simp [eQ, hk.1]) h.hq ⟨fun _ => hk.2, fun h => by cases h⟩
    · have hfree : freeT t i = true := by unfold mayT at hmay; rw [if_pos ew] at hmay; exact hmay
      have hu : HQ (madeT s m.2) := by
       unfold madeT
       rw [if_neg (by omega), if_neg (by omega), if_pos e]
       split
       · exact (endT_q 3 _).2.2
       · exact (overT_q 3).2.2
      exact (hq_give t i _ hap (by rw [hs]; exact hdo) h.hq hu (free_q h.good.ok hlt hact hfree)).1
 exact (settle_q _ _ (Nat.le_refl _) r1 key).1

def refT (t : Tr) (m : Int × Int) : Tr := settleT (replT t m.1.toNat (.l0 ⟨3, emp, 0⟩))
theorem good_throw : Good (.l0 ⟨3, emp, 0⟩) ∧ sortT (.l0 ⟨3, emp, 0⟩) = 1 :=
 ⟨⟨rfl, fun m hm => by
   simp [Tr.flat] at hm
   rw [hm]; exact right_mk0 (by decide) (by decide) (by decide) (by decide), by show sort0 3 ≠ 0; decide⟩, rfl⟩
theorem live_refuse {t : Tr} {m : Int × Int} (h : Live t) (hm : m ∈ enF t) (h1 : m.2 = 1) : Live (refT t m) ∧ (refT t m).flat.length ≤ t.flat.length ∧ wN (refT t m).flat + 1 ≤ wN t.flat := by
 obtain ⟨i, hi, hlt, hact, w, hw, hhow, hmay⟩ := enF_spec hm
 have ei : m.1.toNat = i := by omega
 obtain ⟨_, hwt, hap⟩ := actL_spec hact
 have hk1 : (subT t i).root.kind = 1 := waysOf_do hw (by rw [← hhow]; exact h1)
 have hgs := good_sub t i h.good hlt
 have hdo := waits_quiet hwt
 have hleaf : ∃ n : Node, subT t i = .l0 n ∧ n.kind = 1 := by
  generalize subT t i = s at hk1 hgs
  cases s with
  | l0 n => exact ⟨n, rfl, hk1⟩
  | l1 n a => have h1 : arity n.kind = 1 := hgs.ok.1; have h2 : n.kind = 1 := hk1; rw [h2] at h1; cases h1
  | l2 n a b => have h1 : arity n.kind = 2 := hgs.ok.1; have h2 : n.kind = 1 := hk1; rw [h2] at h1; cases h1
 obtain ⟨n, hn, hnk⟩ := hleaf
 obtain ⟨gt, st⟩ := good_throw
 have hst : Same2 (sortT (subT t i)) (sortT (.l0 ⟨3, emp, 0⟩)) := by
  left
  rw [st, hn]
  show 1 = sort0 n.kind
  rw [hnk]; rfl
 obtain ⟨r1, r2⟩ := repl_good h.good gt hlt hap hst
 obtain ⟨s1, s2⟩ := settle_good _ _ (Nat.le_refl _) r1
 have hfl := replT_flat t i (.l0 ⟨3, emp, 0⟩) hlt
 have hsp := sub_split h.good.ok hlt
 have hl1 := congrArg List.length hfl
 have hl2 := congrArg List.length hsp
 simp only [List.length_append] at hl1 hl2
 have hw1 := congrArg wN hfl
 have hw2 := congrArg wN hsp
 simp only [wN_app] at hw1 hw2
 have hle := (settleT_ok r1.ok).2
 have hwl := settle_wN _ _ (Nat.le_refl _) r1.ok
 have hsl : (subT t i).flat.length = 1 := by rw [hn]; rfl
 have hsw : wN (subT t i).flat = 1 := by rw [hn]; simp [Tr.flat, wN, waits, hnk]
 have hul : (Tr.l0 ⟨3, emp, 0⟩).flat.length = 1 := rfl
 have huw : wN (Tr.l0 ⟨3, emp, 0⟩).flat = 0 := by simp [Tr.flat, wN, waits]
 unfold Tr.len at *
 unfold refT
 rw [ei]
 have hq := hq_mono t i (.l0 ⟨3, emp, 0⟩) hap hdo rfl h.hq trivial
 refine ⟨⟨⟨s1, by rw [s2, r2]; exact h.on, settle_idem _ _ (Nat.le_refl _) r1.ok, ?_⟩, (settle_q _ _ (Nat.le_refl _) r1 hq).1⟩, ?_, ?_⟩
 · have := h.len; omega
 · omega
 · omega

theorem begin_live {l : List Node} (h : sortRight l = true) : ∃ t, beginL l = t.flat ∧ Live t ∧ t.flat.length ≤ l.length ∧ l.length ≤ 60 := by
 have h' := h
 unfold sortRight at h'
 simp only [Bool.and_eq_true, decide_eq_true_eq] at h'
 obtain ⟨h1, h2, _⟩ := h'
 obtain ⟨w1, w2, w3, w4⟩ := good_of' (l := l) (by omega)
 obtain ⟨t, b1, b2, b3, b4⟩ := begin_inv h
 have hso : sortT (treeOf l) = 1 := by
  have := h1
  unfold sortOf at this
  rw [if_pos w1] at this; exact this
 have hb : beginL l = (settleT (treeOf l)).flat := by
  unfold beginL
  rw [if_pos h]
  have := settleRow_good w2 (by rw [← w3]; omega)
  rw [← w3] at this; exact this
 have e : t = settleT (treeOf l) := by
  have ht : t.flat = (settleT (treeOf l)).flat := b1.symm.trans hb
  exact (flat_inj t _ [] [] b2.good.ok (settleT_ok w2.ok).1 (by simpa using ht)).1
 refine ⟨t, b1, ⟨b2, ?_⟩, b3, b4⟩
 rw [e]
 exact (settle_q _ _ (Nat.le_refl _) w2 (src_q _ (.inl hso)).2).1

end Go.Av
namespace Go.Av
open Go Go.Proofs

noncomputable def pickI (t : Tr) (k : Int) : Nat := (if k.tmod (enF t).length < 0 then k.tmod (enF t).length + (enF t).length else k.tmod (enF t).length).toNat
noncomputable def pickF (t : Tr) (k : Int) : Int × Int := (enF t).getD (pickI t k) (0, 0)
theorem pickI_lt {t : Tr} (h : enF t ≠ []) (k : Int) : pickI t k < (enF t).length := by
 have hpos := List.length_pos_iff.2 h
 unfold pickI
 generalize (enF t).length = n at hpos ⊢
 have h1 : -(n : Int) < k.tmod n ∧ k.tmod n < n := by
  have e := Int.natAbs_tmod k n
  have e2 := Nat.mod_lt k.natAbs (show 0 < ((n : Int)).natAbs by omega)
  rw [← e] at e2
  omega
 split <;> omega
theorem pickF_mem {t : Tr} (h : enF t ≠ []) (k : Int) : pickF t k ∈ enF t := by
 have := pickI_lt h k
 unfold pickF
 rw [List.getD_eq_getElem?_getD, List.getElem?_eq_getElem this]
 exact List.getElem_mem this
theorem pickF_none {t : Tr} (h : enF t = []) (k : Int) : pickF t k = (0, 0) := by unfold pickF; rw [h]; rfl

theorem Pick_ok (t : Tr) (ht : t.ok) (hl : t.flat.length ≤ 1000) (hn : names t.flat) (p : Perm) (k : Int) : PurR move_Pick [rowA t.flat p, I k] (fun r => ∃ e, r = .tup [mv (pickF t k), I e] ∧ (e = 0 ↔ enF t ≠ [])) := by
 intro H
 refine move_Pick_of ?_
 unfold W_move_Pick
 intro o ho
 refine (move_Enabled_ok t ht hl hn p).run ?_
 have hlen := enF_len t
 have hget := fun h => pickI_lt (t := t) h k
 have hnone := fun h => pickF_none (t := t) h k
 have hpf : pickF t k = (enF t).getD (pickI t k) (0, 0) := rfl
 have hpi : pickI t k = (if k.tmod (enF t).length < 0 then k.tmod (enF t).length + (enF t).length else k.tmod (enF t).length).toNat := rfl
 generalize pickF t k = pf at hnone hpf ⊢
 generalize pickI t k = pi at hget hpf hpi
 generalize enF t = ms at hlen hget hnone hpf hpi ⊢
 simp only [lnl_lst, pureK_some, List.length_map, bop_eql, condK_B, decide_eq_true_eq, decide_eq_false_iff_not]
 have est : ∀ m : Int × Int, st 2 (H.upd o (.cells [.sc (.int .i64 0), .sc (.int .i64 0)])) (.ptr o 0) (mv m) = some (H.upd o (.cells [I m.1, I m.2])) := fun m => by simp [splice, mv]
 have hle2 : ∀ m : Int × Int, H ≤ H.upd o (.cells [I m.1, I m.2]) := fun m => by simp [ho]
 refine ⟨fun h0 => ?_, fun h0 => ?_⟩
 · have hms : ms = [] := List.eq_nil_of_length_eq_zero (by omega)
   have e : bld [(0, 1), (1, 1)] [I 0, I 0] [] = some (mv (0, 0)) := rfl
   rw [e]
   simp only [pureK_some]
   rw [est]
   have ec : cutE [I 0, I 0] 0 (some true) 2 = some (mv (0, 0)) := rfl
   simp only [heapK_some, ld_upd, ec, pureK_some]
   refine ret1_of H (hle2 (0, 0)) ⟨⟨120, by rw [hnone hms], by simp [hms]⟩, rfl⟩
 · have hne : ms ≠ [] := fun e => by subst e; simp at h0
   have hpos : 0 < ms.length := List.length_pos_iff.2 hne
   have hlt := hget hne
   rw [bop_rem (by omega)]
   have h1 : -(ms.length : Int) < k.tmod ms.length ∧ k.tmod ms.length < ms.length := by
    have e := Int.natAbs_tmod k ms.length
    have e2 := Nat.mod_lt k.natAbs (show 0 < ((ms.length : Int)).natAbs by omega)
    rw [← e] at e2
    omega
   generalize k.tmod ms.length = j at h1 hpi ⊢
   have hpm : pf = ms[pi] := by rw [hpf, List.getD_eq_getElem?_getD, List.getElem?_eq_getElem hlt]; rfl
   have get : ∀ i : Int, i = (pi : Int) → ias 2 (mvsA ms .no) (I i) = some (.cp [I pf.1, I pf.2] 0) := fun i hi => by
    subst hi
    have := ias_mv (p := .no) hlt
    rw [hpm]; exact this
   simp only [pureK_some, bop_lss, condK_B, decide_eq_true_eq, decide_eq_false_iff_not]
   refine ⟨fun hneg => ?_, fun hneg => ?_⟩
   · rw [bop_add (by omega) (by omega)]
     simp only [pureK_some]
     rw [if_pos hneg] at hpi
     rw [get (j + ms.length) (by omega)]
     simp only [pureK_some, ld_cp, cut_mv]
     rw [est]
     simp only [heapK_some, ld_upd, cut_mv, pureK_some]
     exact ret1_of H (hle2 pf) ⟨⟨0, rfl, by simp [hne]⟩, rfl⟩
   · rw [if_neg hneg] at hpi
     rw [get j (by omega)]
     simp only [pureK_some, ld_cp, cut_mv]
     rw [est]
     simp only [heapK_some, ld_upd, cut_mv, pureK_some]
     exact ret1_of H (hle2 pf) ⟨⟨0, rfl, by simp [hne]⟩, rfl⟩

theorem step_Refuse_ok (t : Tr) (h : Inv t) (p : Perm) {m : Int × Int} (hm : m ∈ enF t) (h1 : m.2 = 1) : Pur step_Refuse [rowA t.flat p, mv m] (.tup [rowA (refT t m).flat .no, I 0]) := by
 intro H
 refine step_Refuse_of ?_
 unfold W_step_Refuse
 have hl := h.len
 have hn := good_names h.good
 obtain ⟨i, hi, hlt, hact, w, hw, hhow, _⟩ := enF_spec hm
 have ei : m.1.toNat = i := by omega
 simp only [cells_mv, allocK_some]
 refine ⟨rfl, fun o ho => ?_⟩
 have hle : H ≤ H.upd o (.cells [I m.1, I m.2]) := by simp [ho]
 have g : (H.upd o (.cells [I m.1, I m.2])) o = some (.cells [I m.1, I m.2]) := Heap.upd_same _ _ _
 generalize H.upd o (.cells [I m.1, I m.2]) = H2 at hle g ⊢
 simp only [ld_ptr g, cut_mv, pureK_some]
 refine (move_Is_ok t h.good.ok (by omega) hn p m).run ?_
 have hd : decide (m ∈ enF t) = true := by simpa using hm
 rw [hd]
 simp only [unE_not, Bool.not_true, pureK_some, condK_B]
 refine ⟨fun h => (by cases h), fun _ => ?_⟩
 simp only [fa_ptr, pureK_some, Nat.zero_add, ld_ptr g, cutE_one, get0, get1, bop_neq, condK_B]
 refine ⟨fun h => by rw [h1] at h; simp at h, fun _ => ?_⟩
 refine ⟨_, (step_leaf_ok 3 0).reads, ?_⟩
 have e3 : rowA [(⟨3, emp, 0⟩ : Node)] .exact = rowA (Tr.l0 ⟨3, emp, 0⟩).flat .exact := rfl
 rw [hi, e3]
 refine (step_Put_ok t (.l0 ⟨3, emp, 0⟩) p .exact i h.good.ok hlt (by omega) (by show 1 ≤ 1000; omega)).run ?_
 obtain ⟨_, hwt, hap⟩ := actL_spec hact
 have hk1 : (subT t i).root.kind = 1 := waysOf_do hw (by rw [← hhow]; exact h1)
 have hgs := good_sub t i h.good hlt
 obtain ⟨gt, st⟩ := good_throw
 have hst : Same2 (sortT (subT t i)) (sortT (.l0 ⟨3, emp, 0⟩)) := by
  left
  rw [st]
  generalize subT t i = s at hk1 hgs
  cases s with
  | l0 n => show 1 = sort0 n.kind; rw [show n.kind = 1 from hk1]; rfl
  | l1 n a => have h1 : arity n.kind = 1 := hgs.ok.1; have h2 : n.kind = 1 := hk1; rw [h2] at h1; cases h1
  | l2 n a b => have h1 : arity n.kind = 2 := hgs.ok.1; have h2 : n.kind = 1 := hk1; rw [h2] at h1; cases h1
 obtain ⟨r1, r2⟩ := repl_good h.good gt hlt hap hst
 have hfl := congrArg List.length (replT_flat t i (.l0 ⟨3, emp, 0⟩) hlt)
 have hfit := sub_fits t i hlt
 have hsp := len_pos (subT t i)
 simp only [List.length_append, List.length_take, List.length_drop] at hfl
 have hul : (Tr.l0 ⟨3, emp, 0⟩).flat.length = 1 := rfl
 have htl : t.flat.length = t.len := rfl
 have hrl : (replT t i (.l0 ⟨3, emp, 0⟩)).flat.length ≤ 60 := by
  rw [hul] at hfl; omega
 refine (settle_Settle_ok settleOk _ .no (by omega) (good_names r1)).run ?_
 refine ret1_of H hle ⟨?_, rfl⟩
 rw [settleRow_good r1 (by omega)]
 unfold refT
 rw [ei]

theorem Ended_ok (t : Tr) (ht : t.ok) (p : Perm) : Pur settle_Ended [rowA t.flat p] (if t.root.kind = 11 then .tup [I t.root.sign, B true] else .tup [I 0, B false]) := by
 have h := settle_Ended_ok t.root t.flat.tail p
 rw [← t.flat_root] at h
 have e : (t.flat.tail = [] ∧ t.root.kind = 11) ↔ t.root.kind = 11 := ⟨fun h => h.2, fun h => ⟨by rw [over_shape ht h]; rfl, h⟩⟩
 by_cases hk : t.root.kind = 11
 · rw [if_pos (e.2 hk)] at h; rw [if_pos hk]; exact h
 · rw [if_neg (fun h => hk h.2)] at h; rw [if_neg hk]; exact h

end Go.Av
