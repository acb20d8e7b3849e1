/- Own text DG of this claim: see the text that holds the theorem. -/
import Derived.Test.YtninikfblhoieaaGreatDoorDE
import Derived.Test.YtninikfblhoieaaGreatDoorDF
set_option linter.all false
set_option maxRecDepth 100000
namespace Go.Av
open Go Go.Proofs

theorem behindT_idem {n : Node} {a b : Tr} {s : Int} (hk : n.kind = 8 ∧ s = 2 ∨ n.kind = 5 ∧ s = 1 ∧ a.root.kind ≠ 14) (ha : a.ok) (hb : b.ok) (ia : settleT a = a) (ib : settleT (settleT b) = settleT b) :
 settleT (behindT settleT n a b s) = behindT settleT n a b s := by
 unfold behindT
 split
 · exact ib
 · rename_i h1
   split
   · exact ia
   · rename_i h2
     rw [settleT_l2 n a b ha hb, ia]
     rcases hk with ⟨hk, rfl⟩ | ⟨hk, rfl, h3⟩
     · rw [if_pos hk]; unfold behindT; rw [if_neg h1, if_neg h2]
     · rw [if_neg (by omega), if_pos hk, if_pos h3]; unfold behindT; rw [if_neg h1, if_neg h2]

theorem endT_fix (s : Int) {c : Tr} (hc : c.ok) : settleT (endT s c) = endT s c := by
 unfold endT
 rw [settleT_l1 _ _ hc]
 exact if_neg (show ¬ (14 : Int) = 9 by decide)
theorem overT_fix (s : Int) : settleT (overT s) = overT s := by
 unfold overT
 rw [settleT_l0]
 rfl
theorem stackT_idem {a c : Tr} (ha : a.ok) (hc : c.ok) (ia : settleT a = a) : settleT (stackT a c) = stackT a c := by
 unfold stackT
 split
 · rename_i h
   rw [settleT_l2 _ _ _ ha hc, ia]
   rw [if_neg (by decide), if_neg (by decide), if_pos rfl]
   unfold stackT; rw [if_pos h]
 · rename_i h
   have hk : a.root.kind = 14 := by simpa using h
   exact endT_fix _ ⟨rfl, (sub_of_end ha hk).1, hc⟩

theorem settle_idem : ∀ (N : Nat) (t : Tr), t.len ≤ N → t.ok → settleT (settleT t) = settleT t := by
 intro N
 induction N with
 | zero => intro t h; have := len_pos t; omega
 | succ N ih =>
   intro t hN h
   cases t with
   | l0 n =>
     rw [settleT_l0]
     split
     · exact overT_fix 1
     · split
       · exact overT_fix 2
       · rename_i h1 h2; rw [settleT_l0, if_neg h1, if_neg h2]
   | l1 n a =>
     have hl := len_l1 n a
     have ia := ih a (by omega) h.2
     obtain ⟨oka, lena⟩ := settleT_ok h.2
     rw [settleT_l1 n a h.2]
     split
     · rename_i hk
       unfold blockT
       split
       · exact overT_fix 1
       · rename_i h1
         split
         · rename_i h2
           obtain ⟨l1, l2⟩ := sub_of_end oka (by rw [h2])
           exact ih _ (by omega) l1
         · rename_i h2
           rw [settleT_l1 n _ oka, if_pos hk, ia]
           unfold blockT
           rw [if_neg h1, if_neg h2]
     · rename_i hk
       rw [settleT_l1 n a h.2, if_neg hk]
   | l2 n a b =>
     have hl := len_l2 n a b
     have pa := len_pos a
     have pb := len_pos b
     have ia := ih a (by omega) h.2.1
     have ib := ih b (by omega) h.2.2
     obtain ⟨oka, lena⟩ := settleT_ok h.2.1
     obtain ⟨okb, lenb⟩ := settleT_ok h.2.2
     rw [settleT_l2 n a b h.2.1 h.2.2]
     split
     · rename_i hk
       exact behindT_idem (.inl ⟨hk, rfl⟩) oka h.2.2 ia ib
     · rename_i h8
       split
       · rename_i hk
         split
         · rename_i h14
           exact behindT_idem (.inr ⟨hk, rfl, h14⟩) oka h.2.2 ia ib
         · rename_i h14
           have hk14 : (settleT a).root.kind = 14 := by simpa using h14
           split
           · exact ia
           · exact stackT_idem okb (sub_of_end oka hk14).1 ib
       · rename_i h5
         split
         · exact stackT_idem oka h.2.2 ia
         · rename_i h13
           split
           · rename_i h12
             split
             · split
               · exact endT_fix _ (by show arity 2 = 0; rfl)
               · exact endT_fix _ h.2.2
             · rename_i he
               rw [settleT_l2 n _ b oka h.2.2, if_neg h8, if_neg h5, if_neg h13, if_pos h12, ia, if_neg he]
           · rename_i h12
             split
             · rename_i h7
               unfold parT
               split
               · exact overT_fix _
               · rename_i p1
                 split
                 · rename_i p2
                   exact endT_fix _ ⟨by rw [h7]; rfl, (sub_of_end oka p2.1).1, (sub_of_end okb p2.2).1⟩
                 · rename_i p2
                   rw [settleT_l2 n _ _ oka okb, if_neg h8, if_neg h5, if_neg h13, if_neg h12, if_pos h7, ia, ib]
                   unfold parT; rw [if_neg p1, if_neg p2]
             · rename_i h7
               rw [settleT_l2 n a b h.2.1 h.2.2, if_neg h8, if_neg h5, if_neg h13, if_neg h12, if_neg h7]

def wN (l : List Node) : Nat := l.countP fun n => waits n.kind
theorem wN_app (a b : List Node) : wN (a ++ b) = wN a + wN b := List.countP_append
theorem wN_cons (n : Node) (l : List Node) : wN (n :: l) = (if waits n.kind then 1 else 0) + wN l := by
 unfold wN; rw [List.countP_cons]; omega
theorem wN_le (l : List Node) : wN l ≤ l.length := List.countP_le_length

theorem wN_sub {t : Tr} (h : t.ok) (hk : t.root.kind = 14) : wN t.sub.flat ≤ wN t.flat := by
 rw [(Tr.end_flat h hk).1, wN_cons]; omega
theorem wN_end (s : Int) (c : Tr) : wN (endT s c).flat = wN c.flat := by
 unfold endT; simp only [Tr.flat]; rw [wN_cons]; simp [waits]
theorem wN_over (s : Int) : wN (overT s).flat = 0 := rfl
theorem wN_l2 (n : Node) (a b : Tr) : wN (Tr.l2 n a b).flat = (if waits n.kind then 1 else 0) + wN a.flat + wN b.flat := by
 simp only [Tr.flat]; rw [wN_cons, wN_app]; omega
theorem wN_l1 (n : Node) (a : Tr) : wN (Tr.l1 n a).flat = (if waits n.kind then 1 else 0) + wN a.flat := by
 simp only [Tr.flat]; rw [wN_cons]
theorem wN_stack {a c : Tr} (ha : a.ok) : wN (stackT a c).flat ≤ wN a.flat + wN c.flat := by
 unfold stackT
 split
 · rw [wN_l2]; simp [waits]
 · rename_i h
   have := wN_sub ha (by simpa using h)
   rw [wN_end, wN_l2]; simp [waits]; omega

theorem settle_wN : ∀ (N : Nat) (t : Tr), t.len ≤ N → t.ok → wN (settleT t).flat ≤ wN t.flat := by
 intro N
 induction N with
 | zero => intro t h; have := len_pos t; omega
 | succ N ih =>
   intro t hN h
   have beh : ∀ (n : Node) (a b : Tr) (s : Int), wN (settleT b).flat ≤ wN b.flat → wN (behindT settleT n a b s).flat ≤ (if waits n.kind then 1 else 0) + wN a.flat + wN b.flat := by
    intro n a b s hb
    unfold behindT
    split
    · omega
    · split
      · omega
      · rw [wN_l2]; omega
   cases t with
   | l0 n =>
     rw [settleT_l0]
     split
     · rw [wN_over]; omega
     · split
       · rw [wN_over]; omega
       · omega
   | l1 n a =>
     have hl := len_l1 n a
     have ia := ih a (by omega) h.2
     obtain ⟨oka, lena⟩ := settleT_ok h.2
     rw [settleT_l1 n a h.2, wN_l1]
     split
     · unfold blockT
       split
       · rw [wN_over]; omega
       · split
         · rename_i h2
           obtain ⟨l1, l2⟩ := sub_of_end oka (by rw [h2])
           have h3 := ih _ (by omega) l1
           have h4 := wN_sub oka (by rw [h2])
           omega
         · rw [wN_l1]; omega
     · rw [wN_l1]; omega
   | l2 n a b =>
     have hl := len_l2 n a b
     have pa := len_pos a
     have pb := len_pos b
     have ia := ih a (by omega) h.2.1
     have ib := ih b (by omega) h.2.2
     obtain ⟨oka, lena⟩ := settleT_ok h.2.1
     obtain ⟨okb, lenb⟩ := settleT_ok h.2.2
     rw [settleT_l2 n a b h.2.1 h.2.2, wN_l2]
     split
     · have := beh n (settleT a) b 2 ib; omega
     · split
       · split
         · have := beh n (settleT a) b 1 ib; omega
         · rename_i h14
           have hk14 : (settleT a).root.kind = 14 := by simpa using h14
           split
           · omega
           · have h1 := wN_stack (c := (settleT a).sub) okb
             have h2 := wN_sub oka hk14
             omega
       · split
         · have := wN_stack (c := b) oka; omega
         · split
           · split
             · rw [wN_end]
               split
               · simp [Tr.flat, wN, waits]
               · omega
             · rw [wN_l2]; omega
           · split
             · unfold parT
               split
               · rw [wN_over]; omega
               · split
                 · rename_i p
                   have h1 := wN_sub oka p.1
                   have h2 := wN_sub okb p.2
                   rw [wN_end, wN_l2]; omega
                 · rw [wN_l2]; omega
             · rw [wN_l2]; omega

def replT : Tr → Nat → Tr → Tr
 | .l0 _, _, u => u
 | .l1 n a, i, u => if i = 0 then u else .l1 n (replT a (i - 1) u)
 | .l2 n a b, i, u => if i = 0 then u else if i - 1 < a.len then .l2 n (replT a (i - 1) u) b else .l2 n a (replT b (i - 1 - a.len) u)

theorem sub_fits : ∀ (t : Tr) (i : Nat), i < t.len → i + (subT t i).len ≤ t.len := by
 intro t
 induction t with
 | l0 n => intro i hi; rw [len_l0] at hi ⊢; simp only [subT, len_l0]; omega
 | l1 n a ih =>
   intro i hi
   rw [len_l1] at hi
   by_cases h : i = 0
   · simp [subT, h]
   · simp only [subT, if_neg h]
     have := ih (i - 1) (by omega)
     rw [len_l1]; omega
 | l2 n a b iha ihb =>
   intro i hi
   rw [len_l2] at hi
   by_cases h : i = 0
   · simp [subT, h]
   · simp only [subT, if_neg h]
     rw [len_l2]
     split
     · have := iha (i - 1) (by omega); omega
     · have := ihb (i - 1 - a.len) (by omega); omega

theorem replT_flat : ∀ (t : Tr) (i : Nat) (u : Tr), i < t.len → (replT t i u).flat = t.flat.take i ++ u.flat ++ t.flat.drop (i + (subT t i).len) := by
 intro t
 induction t with
 | l0 n => intro i u hi; rw [len_l0] at hi; have : i = 0 := by omega
           subst this; simp [replT, subT, Tr.flat, len_l0]
 | l1 n a ih =>
   intro i u hi
   rw [len_l1] at hi
   by_cases h : i = 0
   · subst h; simp [replT, subT, Tr.len]
   · obtain ⟨j, rfl⟩ : ∃ j, i = j + 1 := ⟨i - 1, by omega⟩
     simp only [replT, subT, if_neg h, Nat.add_sub_cancel, Tr.flat]
     rw [ih j u (by omega), show j + 1 + (subT a j).len = (j + (subT a j).len) + 1 by omega]
     simp
 | l2 n a b iha ihb =>
   intro i u hi
   rw [len_l2] at hi
   by_cases h : i = 0
   · subst h; simp [replT, subT, Tr.len]
   · obtain ⟨j, rfl⟩ : ∃ j, i = j + 1 := ⟨i - 1, by omega⟩
     simp only [replT, subT, if_neg h, Nat.add_sub_cancel]
     by_cases hj : j < a.len
     · simp only [if_pos hj, Tr.flat]
       have hle : j + (subT a j).len ≤ a.flat.length := sub_fits a j hj
       rw [iha j u hj, show j + 1 + (subT a j).len = (j + (subT a j).len) + 1 by omega]
       simp only [List.take_succ_cons, List.drop_succ_cons, List.cons_append]
       rw [List.take_append_of_le_length (by unfold Tr.len at hj; omega), List.drop_append_of_le_length hle]
       simp
     · simp only [if_neg hj, Tr.flat]
       have e : a.flat.length = a.len := rfl
       have e1 : (a.flat ++ b.flat).take j = a.flat ++ b.flat.take (j - a.len) := by rw [List.take_append, List.take_of_length_le (by omega), e]
       have e2 : (a.flat ++ b.flat).drop (j + (subT b (j - a.len)).len) = b.flat.drop (j - a.len + (subT b (j - a.len)).len) := by
        rw [List.drop_append, List.drop_eq_nil_of_le (by omega), e, List.nil_append]
        congr 1; omega
       rw [ihb _ u (by omega), show j + 1 + (subT b (j - a.len)).len = (j + (subT b (j - a.len)).len) + 1 by omega]
       simp only [List.take_succ_cons, List.drop_succ_cons, List.cons_append]
       rw [e1, e2]
       simp

end Go.Av
namespace Go.Av
open Go Go.Proofs

def actP : Tr → Nat → Prop
 | .l0 _, _ => True
 | .l1 n a, i => i = 0 ∨ (0 < goes n.kind ∧ actP a (i - 1))
 | .l2 n a b, i => i = 0 ∨ (i - 1 < a.len ∧ 0 < goes n.kind ∧ actP a (i - 1)) ∨ (¬ i - 1 < a.len ∧ 1 < goes n.kind ∧ actP b (i - 1 - a.len))

theorem ancT_ge : ∀ (t : Tr) (b i x : Nat), x ∈ (ancT t b i).map Prod.fst → b ≤ x ∧ x < b + i := by
 intro t
 induction t with
 | l0 n => intro b i x h; simp [ancT] at h
 | l1 n a ih =>
   intro b i x h
   simp only [ancT] at h
   split at h
   · simp at h
   · simp only [List.map_cons, List.mem_cons] at h
     rcases h with rfl | h
     · omega
     · have := ih _ _ _ h; omega
 | l2 n a c iha ihc =>
   intro b i x h
   simp only [ancT] at h
   split at h
   · simp at h
   · split at h
     · simp only [List.map_cons, List.mem_cons] at h
       rcases h with rfl | h
       · omega
       · have := iha _ _ _ h; omega
     · simp only [List.map_cons, List.mem_cons] at h
       rcases h with rfl | h
       · omega
       · have := ihc _ _ _ h; omega

theorem actP_of : ∀ (t : Tr) (b i : Nat), i < t.len → (∀ x, x ∈ (ancT t b i).map Prod.fst → kidF (subT t (x - b)) ((i : Int) - ((x - b : Nat) + 1)) < goes (subT t (x - b)).root.kind) → actP t i := by
 intro t
 induction t with
 | l0 n => intro b i _ _; trivial
 | l1 n a ih =>
   intro b i hi h
   rw [len_l1] at hi
   by_cases h0 : i = 0
   · exact .inl h0
   · right
     simp only [ancT, if_neg h0, List.map_cons, List.mem_cons, forall_eq_or_imp] at h
     obtain ⟨h1, h2⟩ := h
     refine ⟨?_, ih (b + 1) (i - 1) (by omega) fun x hx => ?_⟩
     · rw [Nat.sub_self, subT_zero] at h1
       have : kidF (.l1 n a) ((i : Int) - ((0 : Nat) + 1)) = 0 := by
        simp only [kidF, Tr.kids, List.map_cons, List.map_nil, kidGo]; split <;> rfl
       rw [this] at h1; exact h1
     · have hb := ancT_ge _ _ _ _ hx
       have := h2 x hx
       have e : x - b = x - (b + 1) + 1 := by omega
       have es : subT (.l1 n a) (x - b) = subT a (x - (b + 1)) := by
        rw [e]; simp [subT]
       rw [es] at this
       have ei : (i : Int) - ((x - b : Nat) + 1) = ((i - 1 : Nat) : Int) - ((x - (b + 1) : Nat) + 1) := by omega
       rw [ei] at this; exact this
 | l2 n a c iha ihc =>
   intro b i hi h
   rw [len_l2] at hi
   by_cases h0 : i = 0
   · exact .inl h0
   · right
     by_cases hj : i - 1 < a.len
     · left
       simp only [ancT, if_neg h0, if_pos hj, List.map_cons, List.mem_cons, forall_eq_or_imp] at h
       obtain ⟨h1, h2⟩ := h
       refine ⟨hj, ?_, iha (b + 1) (i - 1) hj fun x hx => ?_⟩
       · rw [Nat.sub_self, subT_zero] at h1
         have : kidF (.l2 n a c) ((i : Int) - ((0 : Nat) + 1)) = 0 := by
          simp only [kidF, Tr.kids, List.map_cons, List.map_nil, kidGo]; rw [if_pos (by omega)]
         rw [this] at h1; exact h1
       · have hb := ancT_ge _ _ _ _ hx
         have hx2 := h2 x hx
         have hlt : x - (b + 1) < a.len := by omega
         have e : x - b = x - (b + 1) + 1 := by omega
         have es : subT (.l2 n a c) (x - b) = subT a (x - (b + 1)) := by
          rw [e]; simp [subT, hlt]
         rw [es] at hx2
         have ei : (i : Int) - ((x - b : Nat) + 1) = ((i - 1 : Nat) : Int) - ((x - (b + 1) : Nat) + 1) := by omega
         rw [ei] at hx2; exact hx2
     · right
       simp only [ancT, if_neg h0, if_neg hj, List.map_cons, List.mem_cons, forall_eq_or_imp] at h
       obtain ⟨h1, h2⟩ := h
       refine ⟨hj, ?_, ihc (b + 1 + a.len) (i - 1 - a.len) (by omega) fun x hx => ?_⟩
       · rw [Nat.sub_self, subT_zero] at h1
         have : kidF (.l2 n a c) ((i : Int) - ((0 : Nat) + 1)) = 1 := by
          simp only [kidF, Tr.kids, List.map_cons, List.map_nil, kidGo]; rw [if_neg (by omega), if_pos (by omega)]; rfl
         rw [this] at h1; exact h1
       · have hb := ancT_ge _ _ _ _ hx
         have hx2 := h2 x hx
         have e : x - b = x - (b + 1 + a.len) + a.len + 1 := by omega
         have hnl : ¬ x - (b + 1 + a.len) + a.len < a.len := by omega
         have es : subT (.l2 n a c) (x - b) = subT c (x - (b + 1 + a.len)) := by
          rw [e]; simp [subT, hnl]
         rw [es] at hx2
         have ei : (i : Int) - ((x - b : Nat) + 1) = ((i - 1 - a.len : Nat) : Int) - ((x - (b + 1 + a.len) : Nat) + 1) := by omega
         rw [ei] at hx2; exact hx2

theorem actP_idle {t : Tr} {i : Nat} (hi : i < t.flat.length) (h : idleT t i = false) : actP t i := by
 refine actP_of t 0 i hi fun x hx => ?_
 have h2 : (anc t i).any (idl t i) = false := h
 rw [List.any_eq_false] at h2
 have := h2 x hx
 unfold idl at this
 simpa using this

theorem goes_cases (k : Int) : (0 < goes k ↔ k = 5 ∨ k = 8 ∨ k = 12 ∨ k = 13 ∨ k = 9 ∨ k = 7) ∧ (1 < goes k ↔ k = 7) := by
 unfold goes
 by_cases h1 : k = 5 ∨ k = 8 ∨ k = 12 ∨ k = 13 ∨ k = 9
 · rw [if_pos h1]; omega
 · rw [if_neg h1]
   by_cases h7 : k = 7
   · rw [if_pos h7]; omega
   · rw [if_neg h7]; omega

def Same2 (s s' : Int) : Prop := s' = s ∨ s' = sOn s

theorem sort_up1 {k s s' : Int} (hk : 0 < goes k) (ha : arity k = 1) (hs : 0 ≤ s ∧ s ≤ 4) (h : sort1 k s ≠ 0) (hu : Same2 s s') : Same2 (sort1 k s) (sort1 k s') := by
 have hk' := (goes_cases k).1.1 hk
 have : k = 9 := by unfold arity at ha; omega
 subst this
 unfold Same2 at hu ⊢
 rcases five hs with e | e | e | e | e <;> subst e <;> rcases hu with rfl | rfl <;> revert h <;> decide
theorem sort_up2a {k s s' y : Int} (hk : 0 < goes k) (ha : arity k = 2) (hs : 0 ≤ s ∧ s ≤ 4) (hy : 0 ≤ y ∧ y ≤ 4) (h : sort2 k s y ≠ 0) (hu : Same2 s s') : Same2 (sort2 k s y) (sort2 k s' y) := by
 have hk' := (goes_cases k).1.1 hk
 have hc : k = 5 ∨ k = 8 ∨ k = 12 ∨ k = 13 ∨ k = 7 := by unfold arity at ha; omega
 unfold Same2 at hu ⊢
 rcases hc with e | e | e | e | e <;> subst e <;> rcases five hs with e | e | e | e | e <;> subst e <;> rcases five hy with e | e | e | e | e <;> subst e <;> rcases hu with rfl | rfl <;> revert h <;> decide
theorem sort_up2b {k s s' y : Int} (hk : 1 < goes k) (hs : 0 ≤ s ∧ s ≤ 4) (hy : 0 ≤ y ∧ y ≤ 4) (h : sort2 k y s ≠ 0) (hu : Same2 s s') : Same2 (sort2 k y s) (sort2 k y s') := by
 have hk' := (goes_cases k).2.1 hk
 subst hk'
 unfold Same2 at hu ⊢
 rcases five hs with e | e | e | e | e <;> subst e <;> rcases five hy with e | e | e | e | e <;> subst e <;> rcases hu with rfl | rfl <;> revert h <;> decide

theorem repl_sort : ∀ (t : Tr) (i : Nat) (u : Tr), t.ok → i < t.len → actP t i → sortT t ≠ 0 → Same2 (sortT (subT t i)) (sortT u) → Same2 (sortT t) (sortT (replT t i u)) := by
 intro t
 induction t with
 | l0 n => intro i u _ hi _ _ h; simpa [replT, subT] using h
 | l1 n a ih =>
   intro i u ht hi hact hs h
   rw [len_l1] at hi
   by_cases h0 : i = 0
   · simpa [replT, subT, h0] using h
   · simp only [replT, subT, if_neg h0] at h ⊢
     obtain ⟨g, hact⟩ := hact.resolve_left h0
     have hs' : sort1 n.kind (sortT a) ≠ 0 := hs
     have ha0 : sortT a ≠ 0 := fun e => hs (sortT_zero (t := .l1 n a) (x := a) (by simp [Tr.kids]) e)
     exact sort_up1 g ht.1 (sortT_range a) hs' (ih (i - 1) u ht.2 (by omega) hact ha0 h)
 | l2 n a b iha ihb =>
   intro i u ht hi hact hs h
   rw [len_l2] at hi
   have hs' : sort2 n.kind (sortT a) (sortT b) ≠ 0 := hs
   have ha0 : sortT a ≠ 0 := fun e => hs (sortT_zero (t := .l2 n a b) (x := a) (by simp [Tr.kids]) e)
   have hb0 : sortT b ≠ 0 := fun e => hs (sortT_zero (t := .l2 n a b) (x := b) (by simp [Tr.kids]) e)
   by_cases h0 : i = 0
   · simpa [replT, subT, h0] using h
   · simp only [replT, subT, if_neg h0] at h ⊢
     rcases hact.resolve_left h0 with ⟨hj, g, hact⟩ | ⟨hj, g, hact⟩
     · rw [if_pos hj] at h ⊢
       exact sort_up2a g ht.1 (sortT_range a) (sortT_range b) hs' (iha (i - 1) u ht.2.1 hj hact ha0 h)
     · rw [if_neg hj] at h ⊢
       exact sort_up2b g (sortT_range b) (sortT_range a) hs' (ihb (i - 1 - a.len) u ht.2.2 (by omega) hact hb0 h)

theorem replT_ok : ∀ (t : Tr) (i : Nat) (u : Tr), t.ok → u.ok → i < t.len → (replT t i u).ok := by
 intro t
 induction t with
 | l0 n => intro i u _ hu _; exact hu
 | l1 n a ih =>
   intro i u ht hu hi
   rw [len_l1] at hi
   simp only [replT]
   split
   · exact hu
   · exact ⟨ht.1, ih _ u ht.2 hu (by omega)⟩
 | l2 n a b iha ihb =>
   intro i u ht hu hi
   rw [len_l2] at hi
   simp only [replT]
   split
   · exact hu
   · split
     · rename_i h; exact ⟨ht.1, iha _ u ht.2.1 hu h, ht.2.2⟩
     · exact ⟨ht.1, ht.2.1, ihb _ u ht.2.2 hu (by omega)⟩

theorem sub_split {t : Tr} {i : Nat} (ht : t.ok) (hi : i < t.len) : t.flat = t.flat.take i ++ (subT t i).flat ++ t.flat.drop (i + (subT t i).len) := by
 obtain ⟨_, r, h⟩ := subT_drop t i ht hi
 have e : t.flat.drop (i + (subT t i).len) = r := by
  rw [← List.drop_drop, h]
  show ((subT t i).flat ++ r).drop (subT t i).flat.length = r
  rw [List.drop_left]
 rw [e, List.append_assoc, ← h, List.take_append_drop]

theorem good_sub : ∀ (t : Tr) (i : Nat), Good t → i < t.len → Good (subT t i) := by
 intro t
 induction t with
 | l0 n => intro i h hi; simpa [subT] using h
 | l1 n a ih =>
   intro i h hi
   rw [len_l1] at hi
   simp only [subT]
   split
   · exact h
   · exact ih _ h.kid1 (by omega)
 | l2 n a b iha ihb =>
   intro i h hi
   rw [len_l2] at hi
   simp only [subT]
   split
   · exact h
   · split
     · rename_i hj; exact iha _ h.kidA hj
     · exact ihb _ h.kidB (by omega)

theorem repl_good {t u : Tr} {i : Nat} (h : Good t) (hu : Good u) (hi : i < t.len) (hact : actP t i) (hs : Same2 (sortT (subT t i)) (sortT u)) : Good (replT t i u) ∧ sOn (sortT (replT t i u)) = sOn (sortT t) := by
 have hss := repl_sort t i u h.ok hi hact h.so hs
 have hr := sortT_range t
 refine ⟨⟨replT_ok t i u h.ok hu.ok hi, fun n hn => ?_, ?_⟩, ?_⟩
 · rw [replT_flat t i u hi] at hn
   simp only [List.mem_append] at hn
   rcases hn with (hn | hn) | hn
   · exact h.rt n (List.mem_of_mem_take hn)
   · exact hu.rt n hn
   · exact h.rt n (List.mem_of_mem_drop hn)
 · have hso := h.so
   rcases hss with e | e <;> rw [e]
   · exact hso
   · unfold sOn; split <;> omega
 · have hso := h.so
   rcases hss with e | e <;> rw [e]
   unfold sOn; split <;> (try split) <;> omega

def madeT (t : Tr) (how : Int) : Tr :=
 if how = 2 then kidAt t 0 else if how = 3 then kidAt t 1
 else if how = 5 then (if t.root.kind = 10 then endT 3 (.l0 ⟨2, emp, 0⟩) else overT 3)
 else (if t.root.kind = 10 then .l2 ⟨12, emp, 0⟩ (kidAt t 0) (kidAt t 1) else overT 1)

theorem made_good {t : Tr} {how : Int} {w : Bool} (h : Good t) (hw : (how, w) ∈ waysOf t.root.kind) : Good (madeT t how) ∧ Same2 (sortT t) (sortT (madeT t how)) ∧ wN (madeT t how).flat + 1 ≤ wN t.flat ∧ (madeT t how).len ≤ t.len := by
 have o1 := good_over (s := 1) (by omega)
 have o3 := good_over (s := 3) (by omega)
 have hk : t.root.kind = 1 ∧ how = 1 ∨ t.root.kind = 6 ∧ (how = 2 ∨ how = 3) ∨ t.root.kind = 4 ∧ (how = 4 ∨ how = 5) ∨ t.root.kind = 10 ∧ (how = 4 ∨ how = 5) := by
  unfold waysOf at hw
  split at hw
  · simp at hw; omega
  · split at hw
    · simp at hw; omega
    · split at hw
      · simp at hw; omega
      · simp at hw
 cases t with
 | l0 n =>
   have ha : arity n.kind = 0 := h.ok
   have hk' : n.kind = 1 ∧ how = 1 ∨ n.kind = 4 ∧ (how = 4 ∨ how = 5) := by
    simp only [Tr.root] at hk; unfold arity at ha; omega
   have hs : sortT (.l0 n) = 1 := by simp only [sortT, sort0]; rw [if_neg (by omega)]
   have hwn : wN (Tr.l0 n).flat = 1 := by
    simp only [Tr.flat]; rw [wN_cons]
    have : waits n.kind = true := by rcases hk' with ⟨e, _⟩ | ⟨e, _⟩ <;> rw [e] <;> rfl
    rw [this]; rfl
   rw [hs, hwn, len_l0]
   unfold madeT
   simp only [Tr.root]
   rcases hk' with ⟨e, rfl⟩ | ⟨e, rfl | rfl⟩ <;> simp [e]
   · exact ⟨o1.1, .inr (by rw [o1.2]; rfl), wN_over 1, Nat.le_refl _⟩
   · exact ⟨o1.1, .inr (by rw [o1.2]; rfl), wN_over 1, Nat.le_refl _⟩
   · exact ⟨o3.1, .inr (by rw [o3.2]; rfl), wN_over 3, Nat.le_refl _⟩
 | l1 n a =>
   have ha : arity n.kind = 1 := h.ok.1
   simp only [Tr.root] at hk
   unfold arity at ha
   omega
 | l2 n a b =>
   have ha : arity n.kind = 2 := h.ok.1
   have hk' : n.kind = 6 ∧ (how = 2 ∨ how = 3) ∨ n.kind = 10 ∧ (how = 4 ∨ how = 5) := by
    simp only [Tr.root] at hk; unfold arity at ha; omega
   have hwn : wN (Tr.l2 n a b).flat = 1 + wN a.flat + wN b.flat := by
    rw [wN_l2]
    have : waits n.kind = true := by rcases hk' with ⟨e, _⟩ | ⟨e, _⟩ <;> rw [e] <;> rfl
    rw [this]; rfl
   have hso : sort2 n.kind (sortT a) (sortT b) ≠ 0 := h.so
   have ra := sortT_range a
   have rb := sortT_range b
   rw [hwn, len_l2]
   have pa := len_pos a
   have pb := len_pos b
   rcases hk' with ⟨e, hh⟩ | ⟨e, hh⟩
   · rw [e] at hso
     have hab : sortT a = sortT b ∧ sortT (.l2 n a b) = sortT a := by
      simp only [sortT, e]
      rcases five ra with q | q | q | q | q <;> rw [q] at hso ⊢ <;> rcases five rb with g | g | g | g | g <;> rw [g] at hso ⊢ <;> revert hso <;> decide
     rcases hh with rfl | rfl
     · have em : madeT (.l2 n a b) 2 = a := rfl
       rw [em]
       exact ⟨h.kidA, .inl hab.2.symm, by omega, by omega⟩
     · have em : madeT (.l2 n a b) 3 = b := rfl
       rw [em]
       exact ⟨h.kidB, .inl (by rw [hab.2, hab.1]), by omega, by omega⟩
   · rw [e] at hso
     have h11 : sortT a = 1 ∧ sortT b = 1 := by
      rcases five ra with q | q | q | q | q <;> rw [q] at hso ⊢ <;> rcases five rb with g | g | g | g | g <;> rw [g] at hso ⊢ <;> revert hso <;> decide
     have e2 : sortT (.l2 n a b) = 2 := by simp only [sortT, e, h11.1, h11.2]; decide
     rw [e2]
     rcases hh with rfl | rfl
     · have em : madeT (.l2 n a b) 4 = .l2 ⟨12, emp, 0⟩ a b := by
        unfold madeT
        rw [if_neg (by decide), if_neg (by decide), if_neg (by decide)]
        exact if_pos e
       have e4 : sortT (.l2 ⟨12, emp, 0⟩ a b) = 4 := by
        show sort2 12 (sortT a) (sortT b) = 4
        rw [h11.1, h11.2]; decide
       rw [em, e4]
       refine ⟨good_l2 (right_mk0 (by decide) (by decide) (by decide) (by decide)) rfl h.kidA h.kidB (by rw [e4]; decide), .inr (by decide), ?_, ?_⟩
       · rw [wN_l2]; simp [waits]; omega
       · rw [len_l2]; omega
     · have em : madeT (.l2 n a b) 5 = endT 3 (.l0 ⟨2, emp, 0⟩) := by
        unfold madeT
        rw [if_neg (by decide), if_neg (by decide), if_pos rfl]
        exact if_pos e
       have ge := good_end (s := 3) (by omega) good_skip.1 good_skip.2
       rw [em, ge.2]
       refine ⟨ge.1, .inr (by decide), ?_, ?_⟩
       · rw [wN_end, show wN (Tr.l0 ⟨2, emp, 0⟩).flat = 0 from rfl]; omega
       · unfold endT; rw [len_l1, len_l0]; omega

structure Inv (t : Tr) : Prop where
 good : Good t
 on : sOn (sortT t) = 3
 fix : settleT t = t
 len : t.flat.length ≤ 60

def nextT (t : Tr) (m : Int × Int) : Tr := settleT (replT t m.1.toNat (madeT (subT t m.1.toNat) m.2))

theorem next_inv {t : Tr} {m : Int × Int} (h : Inv t) (hm : m ∈ enF t) : Inv (nextT t m) ∧ (nextT t m).flat.length ≤ t.flat.length ∧ wN (nextT t m).flat + 1 ≤ wN t.flat := by
 obtain ⟨i, hi, hlt, hact, w, hw, hhow⟩ := enF_mem hm
 have ei : m.1.toNat = i := by omega
 unfold nextT
 rw [ei]
 have hidle : idleT t i = false := by
  unfold actL at hact
  split at hact
  · have := (List.mem_filter.1 hact).2
    simp at this; exact this.2
  · simp at hact
 have hgs := good_sub t i h.good hlt
 obtain ⟨g1, g2, g3, g4⟩ := made_good (how := m.2) (w := w.2) hgs (by rw [hhow]; exact hw)
 obtain ⟨r1, r2⟩ := repl_good h.good g1 hlt (actP_idle hlt hidle) g2
 obtain ⟨s1, s2⟩ := settle_good _ _ (Nat.le_refl _) r1
 have hfl := replT_flat t i (madeT (subT t i) m.2) hlt
 have hsp := sub_split h.good.ok hlt
 have hl1 := congrArg List.length hfl
 have hl2 := congrArg List.length hsp
 simp only [List.length_append] at hl1 hl2
 have hw1 := congrArg wN hfl
 have hw2 := congrArg wN hsp
 simp only [wN_app] at hw1 hw2
 have hle := (settleT_ok r1.ok).2
 have hwl := settle_wN _ _ (Nat.le_refl _) r1.ok
 unfold Tr.len at *
 refine ⟨⟨s1, by rw [s2, r2]; exact h.on, settle_idem _ _ (Nat.le_refl _) r1.ok, ?_⟩, ?_, ?_⟩
 · have := h.len; omega
 · omega
 · omega

end Go.Av
namespace Go.Av
open Go Go.Proofs

theorem good_of' {l : List Node} (h : sortOf l ≠ 0) : whole l = true ∧ Good (treeOf l) ∧ l = (treeOf l).flat ∧ l.length ≤ 200 := by
 unfold sortOf at h
 cases hw : whole l with
 | false => rw [hw] at h; simp at h
 | true =>
   rw [hw] at h
   simp only [if_true] at h
   obtain ⟨h1, h2⟩ := treeOf_spec hw
   unfold whole at hw
   simp only [Bool.and_eq_true, decide_eq_true_eq, List.all_eq_true] at hw
   exact ⟨rfl, ⟨h1, fun n hn => hw.2.1 n (by rw [h2]; exact hn), h⟩, h2, hw.1.2⟩

theorem right_small {n : Node} (h : right n = true) : n.name.size ≤ 8 := by
 by_cases h1 : n.kind = 1
 · exact right_name h h1
 · by_cases h2 : n.kind = 11 ∨ n.kind = 14
   · rw [(right_sign h h2).1]; decide
   · have := right_plain h h1 (by omega) (by omega)
     rw [this]; exact (by decide : emp.size ≤ 8)
theorem good_names {t : Tr} (h : Good t) : names t.flat := fun n hn => Nat.le_trans (right_small (h.rt n hn)) (by decide)
theorem good_whole {t : Tr} (h : Good t) (hl : t.flat.length ≤ 200) : whole t.flat = true := by
 have hp := t.flat_pos
 have hs : size t.flat = t.flat.length := by simpa using size_flat h.ok []
 have hr : t.flat.all right = true := List.all_eq_true.2 h.rt
 unfold whole
 rw [hr, hs]; simp; omega
theorem good_sortOf {t : Tr} (h : Good t) (hl : t.flat.length ≤ 200) : sortOf t.flat = sortT t := by
 unfold sortOf
 rw [if_pos (good_whole h hl), treeOf_flat h.ok]
theorem settleRow_good {t : Tr} (h : Good t) (hl : t.flat.length ≤ 200) : settleRow t.flat = (settleT t).flat := by
 have hso := sortT_range t
 have hz := h.so
 have hle := (settleT_ok h.ok).2
 unfold settleRow
 have e : settleF t.flat.length (treeOf t.flat) = settleT t := by rw [treeOf_flat h.ok]; rfl
 rw [e]
 have hon : (sortOn t.flat false || sortOn t.flat true) = true := by
  unfold sortOn
  rw [good_sortOf h hl]
  rcases sOn_four hso hz with ⟨e, _⟩ | ⟨e, _⟩ <;> simp [e]
 rw [if_pos hon, if_neg (by unfold Tr.len at hle; omega)]
theorem Inv.settled {t : Tr} (h : Inv t) : settled t.flat = true := by
 have hp := t.flat_pos
 have hl := h.len
 unfold Go.Av.settled
 rw [settleRow_good h.good (by omega), h.fix]
 simp [hp]

theorem made_1_ok (t : Tr) (r : List Node) (p : Perm) {o : Nat} {H : Heap} (x y : AV) (h : H o = some (.cells [rowA (t.flat ++ r) p])) :
 AReads PP gΓ step_made_1 [x, y, .ptr o 0] H (if t.root.kind = 10 then y else x) := by
 intro H' hle
 refine step_made_1_of ?_
 unfold W_step_made_1
 simp only [ld_ptr (hle _ _ h), cutE_one, get0, pureK_some]
 have eroot : ias 3 (rowA (t.flat ++ r) p) (I 0) = some (.cp [I t.root.kind, S t.root.name, I t.root.sign] 0) := by unfold rowA; rw [t.flat_root]; rfl
 rw [eroot]
 simp only [pureK_some, fa_cp, ld_cp, cutE_one, Nat.zero_add, get0, bop_eql, condK_B, decide_eq_true_eq, decide_eq_false_iff_not]
 exact ⟨fun e => ret1_of H' (Heap.le_refl _) ⟨by rw [if_pos e], rfl⟩, fun e => ret1_of H' (Heap.le_refl _) ⟨by rw [if_neg e], rfl⟩⟩
theorem enters_made1 : enters PP step_made_1 = true := by kernel_rfl

theorem step_made_ok (t : Tr) (r : List Node) (p : Perm) (ht : t.ok) (hl : (t.flat ++ r).length ≤ 1000) (how : Int) (hh : how = 2 ∨ how = 3 → t.kids.length = 2) :
 Pur step_made [rowA (t.flat ++ r) p, I how] (rowA (madeT t how).flat .no) := by
 refine Pur.weaken (φ := fun v => Weaker v (rowA (madeT t how).flat .no)) (fun H => ?_) (fun v h => h)
 refine step_made_of ?_
 unfold W_step_made
 simp only [cells_lst, allocK_some]
 refine ⟨rfl, fun o ho => ?_⟩
 have g : (H.upd o (.cells [rowA (t.flat ++ r) p])) o = some (.cells [rowA (t.flat ++ r) p]) := Heap.upd_same _ _ _
 have hle : H ≤ H.upd o (.cells [rowA (t.flat ++ r) p]) := by simp [ho]
 generalize H.upd o (.cells [rowA (t.flat ++ r) p]) = H2 at g hle ⊢
 simp only [ld_ptr g, cutE_one, get0, pureK_some]
 refine (row_Kids_ok2 t r p ht (by omega)).run ?_
 simp only [bop_eql, pureK_some, condK_B, decide_eq_true_eq, decide_eq_false_iff_not]
 have kid : ∀ k, k < t.kids.length → ias 1 (rowsA (t.kids.map Tr.flat) .no) (I (k : Nat)) = some (.cp [rowA (kidAt t k).flat .no] 0) := fun k hk => by
  rw [ias_rows (by simpa using hk)]
  simp [kidAt, List.getD_eq_getElem?_getD, hk]
 refine ⟨fun h2 => ?_, fun h2 => ⟨fun h3 => ?_, fun h3 => ⟨fun h5 => ?_, fun h5 => ?_⟩⟩⟩
 · have hk := hh (.inl h2)
   have := kid 0 (by omega)
   rw [show ((0 : Nat) : Int) = 0 from rfl] at this
   rw [this]
   simp only [pureK_some, ld_cp, cutE_one, get0]
   refine ret1_of H hle ⟨?_, rfl⟩
   unfold madeT; rw [if_pos h2]; exact Weaker.refl _
 · have hk := hh (.inr h3)
   have := kid 1 (by omega)
   rw [show ((1 : Nat) : Int) = 1 from rfl] at this
   rw [this]
   simp only [pureK_some, ld_cp, cutE_one, get0]
   refine ret1_of H hle ⟨?_, rfl⟩
   unfold madeT; rw [if_neg h2, if_pos h3]; exact Weaker.refl _
 · refine (step_leaf_ok 11 3).run ?_
   have e1 : bld [(0, 1), (1, 1), (2, 1)] [I 0, S emp, I 0] [(0, I 14), (2, I 3)] = some (nd ⟨14, emp, 3⟩) := rfl
   rw [e1]
   simp only [pureK_some]
   refine (step_leaf_ok 2 0).run ?_
   have e2 : bsl 1 (.lst 0 [] .exact) 1 [(0, rowA [⟨2, emp, 0⟩] .exact)] = some (rowsP [([⟨2, emp, 0⟩], .exact)] .exact) := rfl
   rw [e2]
   simp only [pureK_some]
   refine (row_Make_ok ⟨14, emp, 3⟩ [([⟨2, emp, 0⟩], .exact)] .exact (by simp) (by simp [sumLen])).run ?_
   refine callK_reads (E := E_step_made) rfl rfl enters_made1 (made_1_ok t r p _ _ g) ?_
   refine ret1_of H hle ⟨?_, rfl⟩
   unfold madeT
   rw [if_neg h2, if_neg h3, if_pos h5]
   split
   · exact Weaker.refl _
   · exact Weaker.lst
 · refine (step_leaf_ok 11 1).run ?_
   have e1 : bld [(0, 1), (1, 1), (2, 1)] [I 0, S emp, I 0] [(0, I 12)] = some (nd ⟨12, emp, 0⟩) := rfl
   rw [e1]
   simp only [pureK_some]
   have erp : rowsA (t.kids.map Tr.flat) .no = rowsP (t.kids.map fun x => (x.flat, Perm.no)) .no := by simp [rowsA, rowsP, List.map_map, Function.comp_def]
   rw [erp]
   have hk2 := t.kids_le
   have hsum : sumLen (t.kids.map fun x => (x.flat, Perm.no)) ≤ 1000 := by
    have : sumLen (t.kids.map fun x => (x.flat, Perm.no)) + 1 = t.flat.length := by
     cases t with
     | l0 n => rfl
     | l1 n a => simp [sumLen, Tr.kids, Tr.flat]
     | l2 n a b => simp [sumLen, Tr.kids, Tr.flat]
    simp at hl; omega
   refine (row_Make_ok ⟨12, emp, 0⟩ _ .no (by simp; omega) (by omega)).run ?_
   refine callK_reads (E := E_step_made) rfl rfl enters_made1 (made_1_ok t r p _ _ g) ?_
   refine ret1_of H hle ⟨?_, rfl⟩
   unfold madeT
   rw [if_neg h2, if_neg h3, if_neg h5]
   split
   · rename_i h10
     have : t.kids.length = 2 := by
      have := Tr.arity_root ht
      rw [h10] at this
      have e : arity 10 = 2 := rfl
      rw [e] at this; omega
     cases t with
     | l0 n => simp [Tr.kids] at this
     | l1 n a => simp [Tr.kids] at this
     | l2 n a b =>
       have : (Tr.l2 ⟨12, emp, 0⟩ (kidAt (.l2 n a b) 0) (kidAt (.l2 n a b) 1)).flat = ⟨12, emp, 0⟩ :: (((Tr.l2 n a b).kids.map fun x => (x.flat, Perm.no)).flatMap Prod.fst) := by
        simp [kidAt, Tr.kids, Tr.flat]
       rw [this]; exact Weaker.refl _
   · exact Weaker.lst

theorem splice_app (A z B : List AV) : splice (A ++ z) A.length B = A ++ B ++ z.drop B.length := by
 unfold splice
 rw [List.take_left, ← List.drop_drop, List.drop_left]

def ndC (l : List Node) : List AV := (l.map nd).flatMap AV.cells
theorem ndC_len (l : List Node) : (ndC l).length = l.length * 3 := by
 induction l with
 | nil => rfl
 | cons n l ih => simp only [ndC, List.map_cons, List.flatMap_cons, List.length_append, cells_nd, List.length_cons] at ih ⊢; rw [ih]; simp; omega
theorem ndC_app (a b : List Node) : ndC (a ++ b) = ndC a ++ ndC b := by simp [ndC]

theorem step_Put_ok (t u : Tr) (p q : Perm) (i : Nat) (ht : t.ok) (hi : i < t.flat.length) (hl : t.flat.length ≤ 1000) (hu : u.flat.length ≤ 1000) :
 Pur step_Put [rowA t.flat p, I i, rowA u.flat q] (rowA (replT t i u).flat .no) := by
 intro H
 refine ACalls.freeze (s := 3) (fun e he => by obtain ⟨n, _, rfl⟩ := List.mem_map.1 he; rfl) ?_
 refine step_Put_of ?_
 unfold W_step_Put
 have hup := u.flat_pos
 simp only [bop_geq, pureK_some, condK_B, decide_eq_true_eq, decide_eq_false_iff_not, lnl_lst, List.length_map, bop_lss]
 refine ⟨fun _ => ⟨fun _ => ?_, fun h => absurd (by omega) h⟩, fun h => absurd (by omega) h⟩
 obtain ⟨q1, e1⟩ := sll_row (l := t.flat) (p := p) (a := i) (by omega)
 rw [e1]
 simp only [pureK_some]
 obtain ⟨hsok, rr, hrr⟩ := subT_drop t i ht hi
 have hfit := sub_fits t i hi
 have hsp := subT t i |>.flat_pos
 rw [hrr]
 refine (row_Size_ok _ q1 (by have := congrArg List.length hrr; simp only [List.length_drop] at this; omega)).run ?_
 rw [size_flat hsok]
 simp only [bop_eql, pureK_some, condK_B, decide_eq_true_eq, decide_eq_false_iff_not]
 refine ⟨fun h => absurd h (by omega), fun _ => ?_⟩
 rw [replT_flat t i u hi]
 have hsl : (subT t i).flat.length = (subT t i).len := rfl
 rw [hsl]
 have htl : t.flat.length = t.len := rfl
 generalize hm : (subT t i).len = m at *
 rw [bop_sub (by omega) (by omega)]
 simp only [pureK_some]
 rw [bop_add (by omega) (by omega)]
 simp only [pureK_some]
 obtain ⟨N, hN⟩ : ∃ N : Nat, N = t.flat.length - m + u.flat.length := ⟨_, rfl⟩
 have eN : (t.flat.length : Int) - m + u.flat.length = (N : Int) := by omega
 rw [eN]
 refine ⟨rfl, by omega, by simp [maxApp]; omega, fun o zs hz _ ho => ?_⟩
 rw [Int.toNat_natCast] at hz ⊢
 have e2 : sll 3 (rowA t.flat p) none (some (I i)) none = some (rowA (t.flat.take i) (if p = .exact ∧ i = t.flat.length then .exact else .no)) := by
  simp only [sll, bound]
  simp
  omega
 rw [e2]
 have hlen1 : (t.flat.take i).length = i := by simp; omega
 have hlen3 : (t.flat.drop (i + m)).length = t.flat.length - (i + m) := by simp
 obtain ⟨q2, e4⟩ := sll_row (l := t.flat) (p := p) (a := i + m) (by omega)
 generalize t.flat.take i = A at hlen1 ⊢
 generalize (if p = Perm.exact ∧ i = t.flat.length then Perm.exact else Perm.no) = q3
 simp only [pureK_some]
 refine cpy_lst (Heap.upd_same _ _ _) (.inl rfl) (by simp; omega) (by rw [hz]; simp; omega) ?_
 simp only [List.length_map, Heap.upd_upd']
 have s1 : splice zs 0 ((A.map nd).flatMap AV.cells) = ndC A ++ zs.drop (ndC A).length := by
  have := splice_app [] zs (ndC A)
  show splice zs 0 (ndC A) = _
  simpa using this
 have e3 : ∀ (k : Nat), k < N → sll 3 (.ms o 0 N N) (some (I k)) none none = some (.ms o (k * 3) (N - k) (N - k)) := fun k hk => by
  simp only [sll, bound]
  simp
  omega
 rw [e3 i (by omega)]
 simp only [pureK_some, s1]
 have hcl : (ndC A ++ zs.drop (ndC A).length).length = N * 3 := by simp [ndC_len, hlen1, hz]; omega
 refine cpy_lst (Heap.upd_same _ _ _) (.inl rfl) (by simp; omega) (by rw [hcl]; simp; omega) ?_
 simp only [List.length_map, Heap.upd_upd']
 have s2 : splice (ndC A ++ zs.drop (ndC A).length) (i * 3) ((u.flat.map nd).flatMap AV.cells) = ndC A ++ ndC u.flat ++ (zs.drop (ndC A).length).drop (ndC u.flat).length := by
  have e : i * 3 = (ndC A).length := by rw [ndC_len, hlen1]
  rw [e]; exact splice_app _ _ _
 rw [s2]
 rw [bop_add (by omega) (by omega)]
 simp only [pureK_some]
 have e5 : ((i : Int) + (u.flat.length : Int)) = ((i + u.flat.length : Nat) : Int) := by omega
 rw [e5]
 have e6 : ∃ off, sll 3 (.ms o 0 N N) (some (I ((i + u.flat.length : Nat) : Int))) none none = some (.ms o off (N - (i + u.flat.length)) (N - (i + u.flat.length))) ∧ (off = (i + u.flat.length) * 3 ∨ (t.flat.drop (i + m) = [] ∧ off = 0)) := by
  by_cases hlt : i + u.flat.length < N
  · exact ⟨_, e3 _ hlt, .inl rfl⟩
  · have heq : N = i + u.flat.length := by omega
    refine ⟨0, ?_, .inr ⟨List.eq_nil_of_length_eq_zero (by omega), rfl⟩⟩
    rw [← heq]
    simp [sll, bound]
 obtain ⟨off, e7, hoff⟩ := e6
 rw [e7]
 simp only [pureK_some]
 have e8 : ((i : Int) + (m : Int)) = ((i + m : Nat) : Int) := by omega
 rw [bop_add (by omega) (by omega)]
 simp only [pureK_some]
 rw [e8, e4]
 simp only [pureK_some]
 have hcl2 : (ndC A ++ ndC u.flat ++ (zs.drop (ndC A).length).drop (ndC u.flat).length).length = N * 3 := by simp [ndC_len, hlen1, hz]; omega
 refine cpy_lst (Heap.upd_same _ _ _) (.inl rfl) (by simp; omega) ?_ ?_
 · rw [hcl2]; simp only [List.length_map]
   rcases hoff with rfl | ⟨h, rfl⟩
   · omega
   · rw [h]; simp
 · simp only [List.length_map, Heap.upd_upd']
   have s3 : splice (ndC A ++ ndC u.flat ++ (zs.drop (ndC A).length).drop (ndC u.flat).length) off (((t.flat.drop (i + m)).map nd).flatMap AV.cells) = ndC (A ++ u.flat ++ t.flat.drop (i + m)) ++ ((zs.drop (ndC A).length).drop (ndC u.flat).length).drop (ndC (t.flat.drop (i + m))).length := by
    rcases hoff with rfl | ⟨h, rfl⟩
    · have e : (i + u.flat.length) * 3 = (ndC A ++ ndC u.flat).length := by simp [ndC_len, hlen1]; omega
      rw [e, ndC_app, ndC_app]
      exact splice_app _ _ _
    · rw [h, ndC_app, ndC_app]
      simp [splice, ndC]
   rw [s3]
   refine ret1_of _ (Heap.le_refl _) (.inr ⟨o, N, N, _, rfl, ho, by rw [Heap.upd_same]; rfl, ?_, Nat.le_refl _, ?_, by simp [ho]⟩)
   · simp only [List.length_map, List.length_append, hlen1, hlen3]; omega
   · show (ndC (A ++ u.flat ++ t.flat.drop (i + m)) ++ _).length = N * 3
     rw [List.length_append, ndC_len]
     simp only [List.length_append, List.length_drop, ndC_len, hlen1, hz]; omega

end Go.Av
namespace Go.Av
open Go Go.Proofs

theorem step_Next_ok (t : Tr) (h : Inv t) (p : Perm) {m : Int × Int} (hm : m ∈ enF t) :
 Pur step_Next [rowA t.flat p, mv m] (.tup [rowA (nextT t m).flat .no, S (subT t m.1.toNat).root.name, I 0]) := by
 intro H
 refine step_Next_of ?_
 unfold W_step_Next
 have hl := h.len
 have hn := good_names h.good
 obtain ⟨i, hi, hlt, hact, w, hw, hhow⟩ := enF_mem hm
 have ei : m.1.toNat = i := by omega
 rw [ei]
 simp only [cells_mv, allocK_some]
 refine ⟨rfl, fun o ho => ?_⟩
 have hle : H ≤ H.upd o (.cells [I m.1, I m.2]) := by simp [ho]
 have g : (H.upd o (.cells [I m.1, I m.2])) o = some (.cells [I m.1, I m.2]) := Heap.upd_same _ _ _
 generalize H.upd o (.cells [I m.1, I m.2]) = H2 at hle g ⊢
 simp only [ld_ptr g, cut_mv, pureK_some]
 refine (move_Is_ok t h.good.ok (by omega) hn p m).run ?_
 have hd : decide (m ∈ enF t) = true := by simpa using hm
 rw [hd]
 simp only [unE_not, Bool.not_true, pureK_some, condK_B]
 refine ⟨fun h => (by cases h), fun _ => ?_⟩
 simp only [fa_ptr, pureK_some, Nat.zero_add, ld_ptr g, cutE_one, get0, get1]
 obtain ⟨q, e1⟩ := sll_row (l := t.flat) (p := p) (a := i) (by omega)
 rw [hi, e1]
 simp only [pureK_some]
 obtain ⟨hsok, r, hr⟩ := subT_drop t i h.good.ok hlt
 have hrl := congrArg List.length hr
 simp only [List.length_drop, List.length_append] at hrl
 rw [hr]
 have hgs := good_sub t i h.good hlt
 obtain ⟨g1, g2, g3, g4⟩ := made_good (how := m.2) (w := w.2) hgs (by rw [hhow]; exact hw)
 have hkids : m.2 = 2 ∨ m.2 = 3 → (subT t i).kids.length = 2 := by
  intro h23
  have hk : (subT t i).root.kind = 6 := by
   unfold waysOf at hw
   split at hw
   · simp at hw; rw [hw] at hhow; simp at hhow; omega
   · split at hw
     · assumption
     · split at hw
       · simp at hw; rcases hw with hw | hw <;> rw [hw] at hhow <;> simp at hhow <;> omega
       · simp at hw
  have := Tr.arity_root hsok
  rw [hk] at this
  have e : arity 6 = 2 := rfl
  rw [e] at this; omega
 refine ⟨_, (step_made_ok (subT t i) r q hsok (by simp; omega) m.2 hkids).reads, ?_⟩
 have hfit := sub_fits t i hlt
 have htl : t.flat.length = t.len := rfl
 have hml : (madeT (subT t i) m.2).flat.length = (madeT (subT t i) m.2).len := rfl
 refine ⟨_, (step_Put_ok t (madeT (subT t i) m.2) p .no i h.good.ok hlt (by omega) (by omega)).reads, ?_⟩
 have hidle : idleT t i = false := by
  unfold actL at hact
  split at hact
  · have := (List.mem_filter.1 hact).2
    simp at this; exact this.2
  · simp at hact
 obtain ⟨r1, r2⟩ := repl_good h.good g1 hlt (actP_idle hlt hidle) g2
 have hfl := congrArg List.length (replT_flat t i (madeT (subT t i) m.2) hlt)
 simp only [List.length_append, List.length_take, List.length_drop] at hfl
 have hYl : (replT t i (madeT (subT t i) m.2)).flat.length ≤ 60 := by omega
 refine ⟨_, (settle_Settle_ok settleOk _ .no (by omega) (good_names r1)).reads, ?_⟩
 have eroot : ias 3 (rowA ((subT t i).flat ++ r) q) (I 0) = some (.cp [I (subT t i).root.kind, S (subT t i).root.name, I (subT t i).root.sign] 0) := by unfold rowA; rw [(subT t i).flat_root]; rfl
 rw [eroot]
 simp only [pureK_some, fa_cp, ld_cp, cutE_one, Nat.zero_add, get1]
 refine ret1_of H hle ⟨?_, rfl⟩
 rw [settleRow_good r1 (by omega)]
 unfold nextT
 rw [ei]

def depthT : Tr → Int
 | .l0 _ => 1
 | .l1 _ a => max 0 (depthT a) + 1
 | .l2 _ a b => max (max 0 (depthT a)) (depthT b) + 1
theorem depthT_kids (t : Tr) : depthT t = (t.kids.map depthT).foldl max 0 + 1 := by cases t <;> rfl
theorem depthT_range : ∀ t : Tr, 1 ≤ depthT t ∧ depthT t ≤ t.len := by
 intro t
 induction t with
 | l0 n => rw [len_l0]; simp [depthT]
 | l1 n a ih => rw [len_l1]; simp only [depthT]; omega
 | l2 n a b iha ihb => rw [len_l2]; simp only [depthT]; omega

theorem row_Depth_ok : ∀ (N : Nat) (t : Tr), t.len ≤ N → t.ok → t.flat.length ≤ 1000 → ∀ p, Pur row_Depth [rowA t.flat p] (I (depthT t)) := by
 intro N
 induction N with
 | zero => intro t h; have := len_pos t; omega
 | succ N ih =>
   intro t hN ht hl p H
   refine row_Depth_of ?_
   unfold W_row_Depth
   refine (row_Size_ok t.flat p (by omega)).run ?_
   have hs : size t.flat = t.flat.length := by simpa using size_flat ht []
   have hp := t.flat_pos
   rw [hs]
   simp only [bop_eql, pureK_some, condK_B, decide_eq_true_eq, decide_eq_false_iff_not]
   refine ⟨fun h => by omega, fun _ => ?_⟩
   refine (row_Kids_ok t p ht (by omega)).run ?_
   simp only [lnl_lst, pureK_some, List.length_map]
   have hk2 := t.kids_le
   have hkid : ∀ x, x ∈ t.kids → x.len ≤ N ∧ x.flat.length ≤ 1000 := by
    intro x hx
    cases t with
    | l0 n => simp [Tr.kids] at hx
    | l1 n a => simp [Tr.kids] at hx; subst hx; rw [len_l1] at hN; have e : (Tr.l1 n x).len = (Tr.l1 n x).flat.length := rfl
                rw [len_l1] at e; have e2 : x.flat.length = x.len := rfl
                omega
    | l2 n a b => simp [Tr.kids] at hx; rw [len_l2] at hN; have e : (Tr.l2 n a b).len = (Tr.l2 n a b).flat.length := rfl
                  rw [len_l2] at e; have e2 : a.flat.length = a.len := rfl
                  have e3 : b.flat.length = b.len := rfl
                  have pa := len_pos a; have pb := len_pos b
                  rcases hx with rfl | rfl <;> omega
   refine ⟨fun vs H' n => H' = H ∧ ∃ k : Nat, k ≤ t.kids.length ∧ vs = [I (((t.kids.take k).map depthT).foldl max 0), rowsA (t.kids.map Tr.flat) .no, I t.kids.length, I k] ∧ n = t.kids.length - k, ⟨_, H, Heap.le_refl _, rfl, 0, Nat.zero_le _, rfl, rfl⟩, ?_⟩
   rintro vs H' n ⟨rfl, k, hk, rfl, rfl⟩
   simp only [nth_zero, nth_succ, bop_lss, pureK_some, condK_B, decide_eq_true_eq, decide_eq_false_iff_not]
   have hfold : ∀ (l : List Tr), (∀ x, x ∈ l → x.flat.length ≤ 1000) → 0 ≤ (l.map depthT).foldl max 0 ∧ (l.map depthT).foldl max 0 ≤ 1000 := by
    have : ∀ (l : List Tr) (a : Int), 0 ≤ a → a ≤ 1000 → (∀ x, x ∈ l → x.flat.length ≤ 1000) → 0 ≤ (l.map depthT).foldl max a ∧ (l.map depthT).foldl max a ≤ 1000 := by
     intro l
     induction l with
     | nil => intro a h1 h2 _; exact ⟨h1, h2⟩
     | cons x l ih =>
       intro a h1 h2 hx
       have h3 := depthT_range x
       have h4 := hx x (by simp)
       have e2 : x.flat.length = x.len := rfl
       exact ih _ (by omega) (by omega) (fun y hy => hx y (by simp [hy]))
    exact fun l hx => this l 0 (by omega) (by omega) hx
   refine ⟨fun hlt => ?_, fun hge => ?_⟩
   · have hk' : k < t.kids.length := by omega
     rw [ias_rows (by simpa using hk')]
     simp only [pureK_some, ld_cp, cutE_one, get0, List.getElem_map]
     obtain ⟨c1, c2⟩ := hkid _ (List.getElem_mem hk')
     refine (ih _ c1 (Tr.kids_ok ht _ (List.getElem_mem hk')) c2 .no).run ?_
     rw [maxE_two]
     simp only [pureK_some]
     rw [bop_add (by omega) (by omega)]
     simp only [pureK_some]
     refine ⟨t.kids.length - (k + 1), H', by omega, Heap.le_refl _, rfl, k + 1, by omega, ?_, rfl⟩
     rw [List.take_succ_eq_append_getElem hk', List.map_append, List.foldl_append]
     simp
   · have hk' : k = t.kids.length := by omega
     subst hk'
     have hf := hfold (t.kids.take t.kids.length) (fun x hx => (hkid x (List.mem_of_mem_take hx)).2)
     rw [List.take_length] at hf ⊢
     rw [bop_add (by omega) (by omega)]
     simp only [pureK_some]
     exact ret1_of H' (Heap.le_refl _) ⟨by rw [depthT_kids], rfl⟩

noncomputable def sortRight (l : List Node) : Bool := decide (sortOf l = 1) && (decide (l.length ≤ 60) && decide (depthT (treeOf l) ≤ 16))
noncomputable def beginL (l : List Node) : List Node := if sortRight l then settleRow l else []
theorem begin_inv {l : List Node} (h : sortRight l = true) : ∃ t, beginL l = t.flat ∧ Inv t ∧ t.flat.length ≤ l.length ∧ l.length ≤ 60 := by
 have h' := h
 unfold sortRight at h'
 simp only [Bool.and_eq_true, decide_eq_true_eq] at h'
 obtain ⟨h1, h2, _⟩ := h'
 obtain ⟨w1, w2, w3, w4⟩ := good_of' (l := l) (by omega)
 obtain ⟨s1, s2⟩ := settle_good _ _ (Nat.le_refl _) w2
 obtain ⟨o1, o2⟩ := settleT_ok w2.ok
 have e : (treeOf l).len = l.length := by rw [w3]; rw [← w3]; exact congrArg List.length w3.symm
 have e2 : (settleT (treeOf l)).flat.length = (settleT (treeOf l)).len := rfl
 have hso : sortT (treeOf l) = 1 := by
  have := h1
  unfold sortOf at this
  rw [if_pos w1] at this; exact this
 refine ⟨settleT (treeOf l), ?_, ⟨s1, by rw [s2, hso]; decide, settle_idem _ _ (Nat.le_refl _) w2.ok, by omega⟩, by omega, h2⟩
 unfold beginL
 rw [if_pos h]
 have := settleRow_good w2 (by rw [← w3]; omega)
 rw [← w3] at this; exact this

end Go.Av
namespace Go.Av
open Go Go.Proofs

theorem waysOf_do {k : Int} {w : Int × Bool} (h : w ∈ waysOf k) (h1 : w.1 = 1) : k = 1 := by
 unfold waysOf at h
 split at h
 · assumption
 · split at h
   · simp at h; rcases h with rfl | rfl <;> simp at h1
   · split at h
     · simp at h; rcases h with rfl | rfl <;> simp at h1
     · simp at h

theorem right_act {n : Node} (h : right n = true) (hk : n.kind = 1) : right ⟨1, n.name, 0⟩ = true := by
 have : n = ⟨1, n.name, 0⟩ := by
  have h2 := h
  unfold right at h2
  rw [if_pos hk] at h2
  cases n with
  | mk k s g => simp at h2 hk ⊢; exact ⟨hk, h2.1⟩
 rw [← this]; exact h

end Go.Av
namespace Go.Av
open Go Go.Proofs

theorem long_r {n : Nat} (h : n ≤ 60) : long n = 5 + 19 * n := by
 unfold long; rw [if_neg (by omega)]
end Go.Av
namespace Go.Av
open Go Go.Proofs
/- The same without a condition on lengths: rows of more than 200 nodes are turned away first. -/

theorem row_named_all (s : ByteArray) : Pur row_named [S s] (B (named s)) := by
 intro H
 refine row_named_of ?_
 unfold W_row_named
 simp only [bop_sneq, lns_S, pureK_some, condK_B, bop_leq, decide_eq_true_eq, decide_eq_false_iff_not]
 refine ⟨fun h => ⟨fun h2 => ?_, fun h2 => ?_⟩, fun h => ?_⟩
 · have h1 : s ≠ emp := by simpa using h
   have h3 : s.size ≤ 8 := by omega
   refine (Trim_letters_ok s (by unfold small'; omega)).run ?_
   rintro v ⟨u, rfl, hu⟩
   simp only [bop_seql, pureK_some, condK_B, decide_eq_true_eq, decide_eq_false_iff_not]
   refine ⟨fun h4 => ?_, fun h4 => ?_⟩
   · have e : sla 6 1 g0 none none none = some (txtA words .no) := rfl
     rw [e]
     simp only [pureK_some]
     refine (slices_Contains_string_ok words s .no (by decide)).run ?_
     simp only [unE_not, pureK_some, ret1_pure]
     refine ⟨B_eq ?_, Heap.le_refl _⟩
     simp [named, h1, h3, hu.1 h4]
   · simp only [ret1_pure]
     refine ⟨B_eq ?_, Heap.le_refl _⟩
     have : allLetters s = false := by
      cases h5 : allLetters s with
      | false => rfl
      | true => exact absurd (hu.2 h5) h4
     simp [named, this]
 · simp only [ret1_pure]
   refine ⟨B_eq ?_, Heap.le_refl _⟩
   have h3 : ¬ s.size ≤ 8 := by omega
   simp [named, h3]
 · simp only [ret1_pure]
   refine ⟨B_eq ?_, Heap.le_refl _⟩
   have h1 : s = emp := by simpa using h
   simp [named, h1]
theorem row_Right_all (n : Node) : Pur row_Right [nd n] (B (right n)) := by
 intro H
 refine row_Right_of ?_
 unfold W_row_Right
 refine allocK_nd fun o1 ho1 => ?_
 simp only [fa_ptr, ld_upd, cutE_one, Nat.zero_add, get0, pureK_some]
 rw [bld_0]
 simp only [pureK_some]
 intro o2 ho2
 simp at ho2
 obtain ⟨hne, ho2'⟩ := ho2
 have hne' : o1 ≠ o2 := fun e => hne e.symm
 have hst : ∀ (m : Node) (cs : List AV), cs.length = 3 → st 3 ((H.upd o1 (.cells [I n.kind, S n.name, I n.sign])).upd o2 (.cells cs)) (.ptr o2 0) (nd m) = some ((H.upd o1 (.cells [I n.kind, S n.name, I n.sign])).upd o2 (.cells [I m.kind, S m.name, I m.sign])) := by
  intro m cs hc
  match cs, hc with
  | [a, b, c], _ => simp [nd, splice]
 rw [hst _ _ rfl]
 simp only [heapK_some, fa_ptr, ld_upd_ne hne', ld_upd, cutE_one, Nat.zero_add, get0, pureK_some, bop_eql, condK_B, decide_eq_true_eq, decide_eq_false_iff_not]
 refine ⟨fun h1 => ?_, fun h1 => ⟨fun h2 => ?_, fun h2 => ⟨fun h3 => ?_, fun h3 => ?_⟩⟩⟩
 · simp [splice, ld_upd_ne hne', h1]
   refine ⟨fun h4 => ?_, fun h4 => ?_⟩
   · refine (row_named_all n.name).run ?_
     simp [right, h1, h4, ho1, ho2']
   · simp [right, h1, h4, ho1, ho2']
 · simp [splice, ld_upd_ne hne', h2, ho1, ho2']
   by_cases h4 : n.name = emp <;> by_cases h5 : 1 ≤ n.sign <;> simp [right, h1, h2, h4, h5] <;> try (intro h6; omega)
 · simp [splice, ld_upd_ne hne', h3, ho1, ho2']
   by_cases h4 : n.name = emp <;> by_cases h5 : 1 ≤ n.sign <;> simp [right, h1, h3, h4, h5] <;> try (intro h6; omega)
 · simp [splice, ld_upd_ne hne', ho1, ho2']
   refine ⟨fun h4 h5 => ?_, fun h4 => ?_⟩
   · refine (row_Arity_ok _).run ?_
     simp [right, h1, h2, h3, h4, h5, ho1, ho2']
   · by_cases h5 : n.name = emp
     · simp [right, h1, h2, h3, h5, h4 h5]
     · simp [right, h1, h2, h3, h5]

theorem row_Whole_1_all (n : Node) : Pur row_Whole_1 [nd n] (B (!right n)) := by
 intro H
 refine row_Whole_1_of ?_
 unfold W_row_Whole_1
 refine allocK_nd fun o1 ho1 => ?_
 rw [ld_nd]
 simp only [pureK_some]
 refine (row_Right_all n).run ?_
 simp [ho1]

theorem row_Whole_all (l : List Node) (p : Perm) : Pur row_Whole [rowA l p] (B (whole l)) := by
 intro H
 refine row_Whole_of ?_
 unfold W_row_Whole
 simp only [lnl_lst, List.length_map, pureK_some, bop_gtr, bop_leq, condK_B, decide_eq_true_eq, decide_eq_false_iff_not, ret1_pure]
 refine ⟨fun h1 => ⟨fun h2 => ?_, fun h2 => ⟨B_eq ?_, Heap.le_refl _⟩⟩, fun h1 => ⟨B_eq ?_, Heap.le_refl _⟩⟩
 · have hl : small l.length := by omega
   refine (slices_ContainsFunc_Node_ok l p row_Whole_1 [] (fun n => !right n) hl enters_W1 (fun x _ => row_Whole_1_all x)).run ?_
   have e : (!(l.any fun n => !right n)) = l.all right := by rw [List.not_any_eq_all_not]; simp
   simp only [unE_not, pureK_some, e, condK_B]
   have h3 : 0 < l.length ∧ l.length ≤ 200 := by omega
   refine ⟨fun h4 => ?_, fun h4 => ?_⟩
   · refine (row_Size_ok l p hl).run ?_
     simp only [bop_eql, pureK_some, ret1_pure]
     exact ⟨B_eq (by simp [whole, h3, h4]), Heap.le_refl _⟩
   · exact ⟨B_eq (by simp [whole, h4]), Heap.le_refl _⟩
 · have : ¬ (0 < l.length ∧ l.length ≤ 200) := by omega
   simp only [whole, decide_eq_false this, Bool.false_and]
 · have : ¬ (0 < l.length ∧ l.length ≤ 200) := by omega
   simp only [whole, decide_eq_false this, Bool.false_and]


theorem sort_Of_all (l : List Node) (p : Perm) : Pur sort_Of [rowA l p] (I (sortOf l)) := by
 intro H
 refine sort_Of_of ?_
 unfold W_sort_Of
 refine (row_Whole_all l p).run ?_
 simp only [unE_not, pureK_some, condK_B, ret1_pure]
 refine ⟨fun h => ⟨?_, Heap.le_refl _⟩, fun h => ?_⟩
 · have : whole l = false := by simpa using h
   simp [sortOf, this]
 · have hw : whole l = true := by simpa using h
   obtain ⟨h1, h2⟩ := treeOf_spec hw
   have hlen : l.length ≤ 200 := by
    unfold whole at hw
    simp only [Bool.and_eq_true, decide_eq_true_eq] at hw
    exact hw.1.2
   have key := sort_sort_ok (treeOf l) h1 (by rw [← h2]; omega) p
   rw [← h2] at key
   refine key.run ⟨?_, Heap.le_refl _⟩
   simp [sortOf, hw]

theorem sort_Term_all (l : List Node) (p : Perm) : Pur sort_Term [rowA l p] (B (decide (sortOf l = 1))) := by
 intro H
 refine sort_Term_of ?_
 unfold W_sort_Term
 refine (sort_Of_all l p).run ?_
 simp only [bop_eql, pureK_some]
 exact ret1_of H (Heap.le_refl _) ⟨rfl, rfl⟩

theorem sort_Right_all (l : List Node) (p : Perm) : Pur sort_Right [rowA l p] (B (sortRight l)) := by
 intro H
 refine sort_Right_of ?_
 unfold W_sort_Right
 refine (sort_Term_all l p).run ?_
 unfold sortRight
 simp only [condK_B, decide_eq_true_eq, decide_eq_false_iff_not, lnl_lst, pureK_some, List.length_map, bop_leq]
 refine ⟨fun h => ⟨fun h2 => ?_, fun h2 => ?_⟩, fun h => ?_⟩
 · obtain ⟨w1, w2, w3, w4⟩ := good_of' (l := l) (by omega)
   have hd := row_Depth_ok _ (treeOf l) (Nat.le_refl _) w2.ok (by rw [← w3]; omega) p
   rw [← w3] at hd
   refine hd.run ?_
   have h2' : l.length ≤ 60 := by omega
   simp only [bop_leq, pureK_some]
   exact ret1_of H (Heap.le_refl _) ⟨by simp [h, h2'], rfl⟩
 · have h2' : ¬ l.length ≤ 60 := by omega
   exact ret1_of H (Heap.le_refl _) ⟨by simp [h2'], rfl⟩
 · exact ret1_of H (Heap.le_refl _) ⟨by simp [h], rfl⟩

theorem settle_Begin_all (l : List Node) (p : Perm) : Pur settle_Begin [rowA l p] (rowA (beginL l) .no) := by
 refine Pur.weaken (φ := fun v => Weaker v (rowA (beginL l) .no)) (fun H => ?_) (fun v h => h)
 refine settle_Begin_of ?_
 unfold W_settle_Begin
 refine (sort_Right_all l p).run ?_
 simp only [unE_not, pureK_some, condK_B]
 refine ⟨fun h => ?_, fun h => ?_⟩
 · have h' : sortRight l = false := by simpa using h
   refine ret1_of H (Heap.le_refl _) ⟨?_, rfl⟩
   unfold beginL; rw [if_neg (by simp [h'])]; exact Weaker.empty
 · have h' : sortRight l = true := by simpa using h
   have hs1 : sortOf l = 1 := by
    have := h'
    unfold sortRight at this
    simp only [Bool.and_eq_true, decide_eq_true_eq] at this
    exact this.1
   obtain ⟨w1, w2, w3, w4⟩ := good_of' (l := l) (by omega)
   have hn : names l := by
    have := good_names w2
    rw [← w3] at this; exact this
   refine (settle_Settle_ok settleOk l p (by omega) hn).run ?_
   refine ret1_of H (Heap.le_refl _) ⟨?_, rfl⟩
   unfold beginL; rw [if_pos h']; exact Weaker.refl _

end Go.Av
