/- Own text CA of this claim: see the text that holds the theorem. -/
import Derived.Test.YtninikfblhoieaaGreatDoorAv15
import Derived.Test.YtninikfblhoieaaGreatDoorW0
set_option linter.all false
set_option maxRecDepth 100000
namespace Go.Av
open Go Go.Proofs

theorem I_eq {a b : Int} (h : a = b) : I a = I b := by rw [h]
theorem B_eq {a b : Bool} (h : a = b) : B a = B b := by rw [h]

structure Node where
 kind : Int
 name : ByteArray
 sign : Int
 deriving DecidableEq

def nd (n : Node) : AV := .agg [I n.kind, S n.name, I n.sign]
abbrev rowA (l : List Node) (p : Perm) : AV := .lst 3 (l.map nd) p

@[simp] theorem cells_nd (n : Node) : AV.cells (nd n) = [I n.kind, S n.name, I n.sign] := rfl

def Pur (f : FuncId) (args : List AV) (v : AV) : Prop := ∀ H, ACalls PP gΓ f args H (fun r H' => r = v ∧ H' = H)
theorem Pur.run {f : FuncId} {args : List AV} {v : AV} {H : Heap} {K : AV → Heap → Prop} (h : Pur f args v) (k : K v H) : ACalls PP gΓ f args H K := (h H).then k

theorem ias_row {l : List Node} {p : Perm} {i : Int} (h0 : 0 ≤ i) (h : i.toNat < l.length) : ias 3 (rowA l p) (I i) = some (.cp [I (l[i.toNat]).kind, S (l[i.toNat]).name, I (l[i.toNat]).sign] 0) := by
 rw [ias_lst h0 (v := nd l[i.toNat]) (by simp [h])]; rfl

def arity (k : Int) : Int :=
 if k = 1 ∨ k = 2 ∨ k = 3 ∨ k = 4 ∨ k = 11 then 0 else if k = 9 ∨ k = 14 then 1 else if k = 5 ∨ k = 6 ∨ k = 7 ∨ k = 8 ∨ k = 10 ∨ k = 12 ∨ k = 13 then 2 else -1

theorem arity_range (k : Int) : -1 ≤ arity k ∧ arity k ≤ 2 := by unfold arity; omega

theorem row_Arity_ok (k : Int) : Pur row_Arity [I k] (I (arity k)) := by
 intro H
 refine row_Arity_of ?_
 unfold W_row_Arity
 simp only [bop_eql, pureK_some, condK_B, decide_eq_true_eq, decide_eq_false_iff_not, ret1_pure]
 repeat' (first | exact Heap.le_refl _ | apply And.intro | intro)
 all_goals (refine I_eq ?_; unfold arity; omega)

theorem ref03_Arity_ok (k : Int) : Pur ref03_Arity [I k] (I (arity k)) := by
 intro H
 refine ref03_Arity_of ?_
 unfold W_ref03_Arity
 simp only [bop_eql, pureK_some, condK_B, decide_eq_true_eq, decide_eq_false_iff_not, ret1_pure]
 repeat' (first | exact Heap.le_refl _ | apply And.intro | intro)
 all_goals (refine I_eq ?_; unfold arity; omega)

def sizeGo : List Node → Int → Int → Int
 | [], _, _ => 0
 | n :: l, o, k => if arity n.kind < 0 then 0 else if o + (arity n.kind - 1) = 0 then k + 1 else sizeGo l (o + (arity n.kind - 1)) (k + 1)
def size (l : List Node) : Int := sizeGo l 1 0

abbrev small (n : Nat) : Prop := n ≤ 1000000000000

theorem row_Size_ok (l : List Node) (p : Perm) (hl : small l.length) : Pur row_Size [rowA l p] (I (size l)) := by
 intro H
 refine row_Size_of ?_
 unfold W_row_Size
 simp only [lnl_lst, pureK_some, List.length_map]
 refine ⟨fun vs H' n => ∃ (o : Int) (k : Nat), vs = [I o, rowA l p, I l.length, I k] ∧ H' = H ∧ n = l.length - k ∧ k ≤ l.length ∧ 1 ≤ o ∧ o ≤ k + 1 ∧ sizeGo (l.drop k) o k = size l, ⟨_, H, Heap.le_refl _, 1, 0, rfl, rfl, rfl, Nat.zero_le _, by omega, by omega, rfl⟩, ?_⟩
 rintro vs H' n ⟨o, k, rfl, rfl, rfl, hk, ho1, ho2, hs⟩
 simp only [nth_zero, nth_succ, bop_lss, pureK_some, condK_B, decide_eq_true_eq, decide_eq_false_iff_not]
 refine ⟨fun h => ?_, fun h => ?_⟩
 · have hk' : k < l.length := by omega
   rw [ias_row (by omega) (by omega)]
   simp only [pureK_some, ld_cp, cutE_agg, List.length_cons, List.length_nil, Nat.zero_add, Nat.le_refl, if_true, List.drop_zero, List.take_succ_cons, List.take_zero, Int.toNat_natCast]
   intro o1 ho1
   simp [splice]
   refine (row_Arity_ok _).run ?_
   have hr := arity_range l[k].kind
   rw [List.drop_eq_getElem_cons hk', sizeGo] at hs
   generalize arity l[k].kind = m at *
   simp (disch := omega) [bop_sub, bop_add, ho1]
   refine ⟨fun h1 => ?_, fun h1 => ⟨fun h2 => ?_, fun h2 => ?_⟩⟩
   · rw [if_pos h1] at hs; exact hs
   · rw [if_neg (by omega), if_pos h2] at hs; rw [← hs]
   · rw [if_neg (by omega), if_neg h2] at hs
     exact ⟨_, by omega, H', by simp [ho1], _, k + 1, ⟨rfl, rfl⟩, rfl, rfl, by omega, by omega, by omega, hs⟩
 · rw [List.drop_eq_nil_of_le (by omega)] at hs
   simp [← hs, sizeGo]
end Go.Av
namespace Go.Av
open Go Go.Proofs

def sOn (s : Int) : Int := if s = 1 ∨ s = 2 then s + 2 else s
def sBoth (a b : Int) : Int := if sOn a = sOn b then max a b else 0
def sBehind (a b t : Int) : Int := if b ≠ t ∨ sOn a ≠ sOn t then 0 else a

theorem maxE_two (a b : Int) : maxE [I a, I b] = some (I (max a b)) := by
 simp only [maxE, foldE, max2E, Option.bind_some]
 by_cases h : b > a
 · rw [if_pos h, Int.max_def, if_pos (by omega)]
 · rw [if_neg h, Int.max_def]; split
   · have : a = b := by omega
     rw [this]
   · rfl

theorem sort_on_ok (k : Int) (hk : -1000 ≤ k ∧ k ≤ 1000) : Pur sort_on [I k] (I (sOn k)) := by
 intro H
 refine sort_on_of ?_
 unfold W_sort_on
 simp (disch := omega) [bop_add, bop_sub]
 refine ⟨fun h => by subst h; rfl, fun h => ⟨fun h2 => by subst h2; rfl, fun h2 => by simp [sOn, h, h2]⟩⟩

theorem sort_both_ok (a b : Int) (ha : -1000 ≤ a ∧ a ≤ 1000) (hb : -1000 ≤ b ∧ b ≤ 1000) : Pur sort_both [I a, I b] (I (sBoth a b)) := by
 intro H
 refine sort_both_of ?_
 unfold W_sort_both
 refine (sort_on_ok a ha).run ((sort_on_ok b hb).run ?_)
 simp [maxE_two]
 refine ⟨fun h => by simp [sBoth, h], fun h => by simp [sBoth, h]⟩

theorem sort_behind_ok (a b t : Int) (ha : -1000 ≤ a ∧ a ≤ 1000) (ht : -1000 ≤ t ∧ t ≤ 1000) : Pur sort_behind [I a, I b, I t] (I (sBehind a b t)) := by
 intro H
 refine sort_behind_of ?_
 unfold W_sort_behind
 simp
 refine ⟨fun h => by simp [sBehind, h], fun h => ?_⟩
 refine (sort_on_ok a ha).run ((sort_on_ok t ht).run ?_)
 simp
 refine ⟨fun h2 => by simp [sBehind, h2], fun h2 => by simp [sBehind, h, h2]⟩

def sIs (s : Int) : Bool := decide (1 ≤ s ∧ s ≤ 3)
def sBothSign (a b : Int) : Int := if !sIs a || !sIs b then 0 else if a = 2 ∨ b = 2 then 2 else max a b

theorem sign_Is_ok (s : Int) : Pur sign_Is [I s] (B (sIs s)) := by
 intro H
 refine sign_Is_of ?_
 unfold W_sign_Is
 simp [sIs]
 refine ⟨fun h => ?_, fun h h2 => by omega⟩
 by_cases h3 : s ≤ 3 <;> simp [h, h3]

theorem sign_Both_ok (a b : Int) : Pur sign_Both [I a, I b] (I (sBothSign a b)) := by
 intro H
 refine sign_Both_of ?_
 unfold W_sign_Both
 refine (sign_Is_ok a).run ?_
 simp
 refine ⟨fun h => by simp [sBothSign, h], fun h => (sign_Is_ok b).run ?_⟩
 simp [maxE_two]
 refine ⟨fun h2 => by simp [sBothSign, h2], fun h2 => ⟨fun h3 => by simp only [sBothSign, h, h2]; simp [h3], fun h3 => ⟨fun h4 => by simp only [sBothSign, h, h2]; simp [h4], fun h4 => by simp [sBothSign, h, h2, h3, h4]⟩⟩⟩

def long (n : Int) : Int := if n < 0 ∨ 60 < n then 0 else 5 + 19 * n

theorem code_Long_ok (n : Int) : Pur code_Long [I n] (I (long n)) := by
 intro H
 refine code_Long_of ?_
 unfold W_code_Long
 simp
 refine ⟨fun h => by simp [long, h], fun h => ⟨fun h2 => by simp [long, h2], fun h2 => ?_⟩⟩
 simp (disch := omega) [bop_mul, bop_add]
 simp [long]; omega

abbrev txtA (l : List ByteArray) (p : Perm) : AV := .lst 1 (l.map fun s => S s) p
abbrev bytA (l : List UInt8) (p : Perm) : AV := .lst 1 (l.map byteAV) p

theorem ias_txt {l : List ByteArray} {p : Perm} {i : Int} (h0 : 0 ≤ i) (h : i.toNat < l.length) : ias 1 (txtA l p) (I i) = some (.cp [S (l[i.toNat])] 0) := by
 rw [ias_lst h0 (v := S l[i.toNat]) (by simp [h])]; rfl
theorem ias_byt {l : List UInt8} {p : Perm} {i : Int} (h0 : 0 ≤ i) (h : i.toNat < l.length) : ias 1 (bytA l p) (I i) = some (.cp [byteAV (l[i.toNat])] 0) := by
 rw [ias_lst h0 (v := byteAV l[i.toNat]) (by simp [h])]; rfl

@[simp] theorem cellsEq_node (a c a' c' : Int) (b b' : ByteArray) : cellsEq [.int, .str, .int] [I a, S b, I c] [I a', S b', I c'] = some (decide (a = a') && (decide (b = b') && (decide (c = c') && true))) :=
  cellsEq_cons (cellEq_int _ _ _) (cellsEq_cons (cellEq_str _ _) (cellsEq_cons (cellEq_int _ _ _) rfl))

theorem node_ext_iff (x y : Node) : x = y ↔ x.kind = y.kind ∧ x.name = y.name ∧ x.sign = y.sign := by
 cases x; cases y; simp

theorem take_step {α : Type} {l m : List α} {k : Nat} (hl : k < l.length) (hm : k < m.length) (h : l.take k = m.take k) (e : l[k] = m[k]) : l.take (k + 1) = m.take (k + 1) := by
 rw [List.take_succ_eq_append_getElem hl, List.take_succ_eq_append_getElem hm, h, e]
theorem ne_of_get {α : Type} {l m : List α} {k : Nat} (hl : k < l.length) (hm : k < m.length) (e : l[k] ≠ m[k]) : l ≠ m := by
 intro h; subst h; exact e rfl
theorem slices_Equal_Node_ok (l m : List Node) (p q : Perm) (hl : small l.length) : Pur slices_Equal_Node [rowA l p, rowA m q] (B (decide (l = m))) := by
 intro H
 refine slices_Equal_Node_of ?_
 unfold W_slices_Equal_Node
 simp only [lnl_lst, pureK_some, List.length_map, bop_neq, condK_B, ret1_pure]
 refine ⟨fun h => ⟨B_eq ?_, Heap.le_refl _⟩, fun h => ?_⟩
 · have h' : ¬ (l.length : Int) = m.length := by simpa using h
   have : ¬ l = m := fun e => h' (by rw [e])
   simp [this]
 have hlen : l.length = m.length := by simp at h; omega
 refine ⟨fun vs H' n => ∃ k : Nat, vs = [rowA l p, rowA m q, I l.length, I k] ∧ H' = H ∧ n = l.length - k ∧ k ≤ l.length ∧ l.take k = m.take k, ⟨_, H, Heap.le_refl _, 0, rfl, rfl, rfl, Nat.zero_le _, rfl⟩, ?_⟩
 rintro vs H' n ⟨k, rfl, rfl, rfl, hk, he⟩
 simp only [nth_zero, nth_succ, lnl_lst, List.length_map, bop_lss, pureK_some, condK_B, decide_eq_true_eq, decide_eq_false_iff_not, ret1_pure]
 refine ⟨fun h => ?_, fun h => ⟨B_eq ?_, Heap.le_refl _⟩⟩
 · have h1 : k < l.length := by omega
   have h2 : k < m.length := by omega
   rw [ias_row (by omega) (by omega), ias_row (by omega) (by omega)]
   simp (disch := omega) [bop_add, Int.toNat_natCast]
   refine ⟨fun h3 => ?_, fun h3 h4 h5 => ⟨_, by omega, _, Heap.le_refl _, k + 1, by simp, rfl, rfl, by omega, take_step h1 h2 he ?_⟩⟩
   · have : l ≠ m := ne_of_get h1 h2 (fun e => by rw [node_ext_iff] at e; obtain ⟨e1, e2, e3⟩ := e; simp [e1, e2, e3] at h3)
     exact this
   · rw [node_ext_iff]; exact ⟨h3, h4, h5⟩
 · have hk' : k = l.length := by omega
   subst hk'
   rw [List.take_length, hlen, List.take_length] at he
   simp [he]

theorem slices_Equal_string_ok (l m : List ByteArray) (p q : Perm) (hl : small l.length) : Pur slices_Equal_string [txtA l p, txtA m q] (B (decide (l = m))) := by
 intro H
 refine slices_Equal_string_of ?_
 unfold W_slices_Equal_string
 simp only [lnl_lst, pureK_some, List.length_map, bop_neq, condK_B, ret1_pure]
 refine ⟨fun h => ⟨B_eq ?_, Heap.le_refl _⟩, fun h => ?_⟩
 · have h' : ¬ (l.length : Int) = m.length := by simpa using h
   have : ¬ l = m := fun e => h' (by rw [e])
   simp [this]
 have hlen : l.length = m.length := by simp at h; omega
 refine ⟨fun vs H' n => ∃ k : Nat, vs = [txtA l p, txtA m q, I l.length, I k] ∧ H' = H ∧ n = l.length - k ∧ k ≤ l.length ∧ l.take k = m.take k, ⟨_, H, Heap.le_refl _, 0, rfl, rfl, rfl, Nat.zero_le _, rfl⟩, ?_⟩
 rintro vs H' n ⟨k, rfl, rfl, rfl, hk, he⟩
 simp only [nth_zero, nth_succ, lnl_lst, List.length_map, bop_lss, pureK_some, condK_B, decide_eq_true_eq, decide_eq_false_iff_not, ret1_pure]
 refine ⟨fun h => ?_, fun h => ⟨B_eq ?_, Heap.le_refl _⟩⟩
 · have h1 : k < l.length := by omega
   have h2 : k < m.length := by omega
   rw [ias_txt (by omega) (by omega), ias_txt (by omega) (by omega)]
   simp (disch := omega) [bop_add, Int.toNat_natCast]
   refine ⟨fun h3 => ?_, fun h3 => ⟨_, by omega, _, Heap.le_refl _, k + 1, by simp, rfl, rfl, by omega, take_step h1 h2 he ?_⟩⟩
   · have : l ≠ m := ne_of_get h1 h2 (fun e => by exact h3 e)
     simp [this]
   · exact h3
 · have hk' : k = l.length := by omega
   subst hk'
   rw [List.take_length, hlen, List.take_length] at he
   simp [he]

theorem row_Same_ok (l m : List Node) (p q : Perm) (hl : small l.length) : Pur row_Same [rowA l p, rowA m q] (B (decide (l = m))) := by
 intro H
 refine row_Same_of ?_
 unfold W_row_Same
 refine (slices_Equal_Node_ok l m p q hl).run ?_
 simp

end Go.Av
namespace Go.Av
open Go Go.Proofs

inductive Tr where
 | l0 (n : Node)
 | l1 (n : Node) (a : Tr)
 | l2 (n : Node) (a b : Tr)
 deriving DecidableEq

def Tr.flat : Tr → List Node
 | .l0 n => [n]
 | .l1 n a => n :: a.flat
 | .l2 n a b => n :: (a.flat ++ b.flat)
def Tr.ok : Tr → Prop
 | .l0 n => arity n.kind = 0
 | .l1 n a => arity n.kind = 1 ∧ a.ok
 | .l2 n a b => arity n.kind = 2 ∧ a.ok ∧ b.ok
def Tr.root : Tr → Node
 | .l0 n => n
 | .l1 n _ => n
 | .l2 n _ _ => n
def Tr.kids : Tr → List Tr
 | .l0 _ => []
 | .l1 _ a => [a]
 | .l2 _ a b => [a, b]

theorem Tr.flat_pos : ∀ t : Tr, 0 < t.flat.length
 | .l0 _ => by simp [Tr.flat]
 | .l1 _ _ => by simp [Tr.flat]
 | .l2 _ _ _ => by simp [Tr.flat]

theorem Tr.flat_root : ∀ t : Tr, t.flat = t.root :: t.flat.tail
 | .l0 _ => rfl
 | .l1 _ _ => rfl
 | .l2 _ _ _ => rfl

theorem Tr.arity_root {t : Tr} (h : t.ok) : arity t.root.kind = t.kids.length := by
 cases t with
 | l0 n => exact h
 | l1 n a => exact h.1
 | l2 n a b => exact h.1

theorem sizeGo_flat (t : Tr) : t.ok → ∀ (r : List Node) (o k : Int), 1 ≤ o → sizeGo (t.flat ++ r) o k = if o = 1 then k + t.flat.length else sizeGo r (o - 1) (k + t.flat.length) := by
 induction t with
 | l0 n =>
   intro h r o k ho
   have h : arity n.kind = 0 := h
   simp only [Tr.flat, List.cons_append, List.nil_append, sizeGo, h, List.length_cons, List.length_nil]
   by_cases e : o = 1
   · subst e; simp
   · rw [if_neg (by omega), if_neg (by omega), if_neg e]; congr 1
 | l1 n a iha =>
   intro h r o k ho
   obtain ⟨h, ha⟩ := h
   simp only [Tr.flat, List.cons_append, sizeGo, h, List.length_cons]
   rw [if_neg (by omega), if_neg (by omega), iha ha r _ _ (by omega)]
   by_cases e : o = 1
   · subst e; simp; omega
   · rw [if_neg (by omega), if_neg e]; congr 1 <;> omega
 | l2 n a b iha ihb =>
   intro h r o k ho
   obtain ⟨h, ha, hb⟩ := h
   simp only [Tr.flat, List.cons_append, List.append_assoc, sizeGo, h, List.length_cons, List.length_append]
   rw [if_neg (by omega), if_neg (by omega), iha ha _ _ _ (by omega), if_neg (by omega), ihb hb r _ _ (by omega)]
   by_cases e : o = 1
   · subst e; simp; omega
   · rw [if_neg (by omega), if_neg e]; congr 1 <;> omega

theorem size_flat {t : Tr} (h : t.ok) (r : List Node) : size (t.flat ++ r) = t.flat.length := by
 unfold size
 rw [sizeGo_flat t h r 1 0 (by omega), if_pos rfl]; omega

theorem parse_forest : ∀ (l : List Node) (o : Nat) (k : Int), 1 ≤ o → 0 ≤ k → (l ≠ [] ∨ 1 ≤ k) → sizeGo l o k = k + l.length → ∃ ts : List Tr, ts.length = o ∧ (∀ t, t ∈ ts → t.ok) ∧ l = ts.flatMap Tr.flat
 | [], o, k, ho, hk, h0, h => by
   simp only [sizeGo, List.length_nil] at h
   rcases h0 with h0 | h0
   · exact absurd rfl h0
   · omega
 | n :: l, o, k, ho, hk, h0, h => by
   simp only [sizeGo, List.length_cons] at h
   have hr := arity_range n.kind
   split at h
   · omega
   · rename_i h1
     split at h
     · rename_i h2
       have hl : l.length = 0 := by omega
       have hl' : l = [] := List.eq_nil_of_length_eq_zero hl
       subst hl'
       refine ⟨[.l0 n], by simp; omega, ?_, by simp [Tr.flat]⟩
       intro t ht
       simp at ht; subst ht
       show arity n.kind = 0
       omega
     · rename_i h2
       have e : ((o : Int) + (arity n.kind - 1)) = (((o : Int) + (arity n.kind - 1)).toNat : Int) := by omega
       rw [e] at h
       obtain ⟨ts, g1, g2, g3⟩ := parse_forest l ((o : Int) + (arity n.kind - 1)).toNat (k + 1) (by omega) (by omega) (.inr (by omega)) (by rw [h]; omega)
       have hm : arity n.kind = 0 ∨ arity n.kind = 1 ∨ arity n.kind = 2 := by omega
       rcases hm with hm | hm | hm
       · refine ⟨.l0 n :: ts, by simp; omega, ?_, by simp [Tr.flat, g3]⟩
         intro t ht
         rcases List.mem_cons.1 ht with rfl | ht
         · exact hm
         · exact g2 t ht
       · match ts, g1, g2, g3 with
         | [], g1, _, _ => simp at g1; omega
         | a :: ts, g1, g2, g3 =>
           refine ⟨.l1 n a :: ts, by simp at g1 ⊢; omega, ?_, by simp [Tr.flat, g3]⟩
           intro t ht
           rcases List.mem_cons.1 ht with rfl | ht
           · exact ⟨hm, g2 a (by simp)⟩
           · exact g2 t (by simp [ht])
       · match ts, g1, g2, g3 with
         | [], g1, _, _ => simp at g1; omega
         | [_], g1, _, _ => simp at g1; omega
         | a :: b :: ts, g1, g2, g3 =>
           refine ⟨.l2 n a b :: ts, by simp at g1 ⊢; omega, ?_, by simp [Tr.flat, g3]⟩
           intro t ht
           rcases List.mem_cons.1 ht with rfl | ht
           · exact ⟨hm, g2 a (by simp), g2 b (by simp)⟩
           · exact g2 t (by simp [ht])

theorem parse {l : List Node} (h0 : l ≠ []) (h : size l = l.length) : ∃ t : Tr, t.ok ∧ l = t.flat := by
 obtain ⟨ts, h1, h2, h3⟩ := parse_forest l 1 0 (by omega) (by omega) (.inl h0) (by unfold size at h; simpa using h)
 match ts, h1, h2, h3 with
 | [t], _, h2, h3 => exact ⟨t, h2 t (by simp), by simpa using h3⟩

theorem Clone_ok (t : List Node) (p : Perm) (ht : t ≠ []) (hl : t.length ≤ 1000000) : Pur slices_Clone_Node [rowA t p] (rowA t .no) := by
 intro H
 refine slices_Clone_Node_of ?_
 unfold W_slices_Clone_Node
 cases t with
 | nil => exact absurd rfl ht
 | cons x t =>
   have e : ∀ K : AV → Prop, nilK (rowA (x :: t) p) K = K (B false) := fun _ => rfl
   rw [e]
   simp
   have e2 : bsl 3 (.agg [I 0, S emp, I 0]) 0 [] = some (.lst 3 [] .exact) := rfl
   rw [e2]
   simp
   left
   unfold appK1
   simp [appended, ret1_pure, maxApp]
   simp at hl
   omega
end Go.Av
namespace Go.Av
open Go Go.Proofs

def PurR (f : FuncId) (args : List AV) (φ : AV → Prop) : Prop := ∀ H, ACalls PP gΓ f args H (fun r H' => φ r ∧ H' = H)
theorem PurR.run {f : FuncId} {args : List AV} {φ : AV → Prop} {H : Heap} {K : AV → Heap → Prop} (h : PurR f args φ) (k : ∀ v, φ v → K v H) : ACalls PP gΓ f args H K :=
 (h H).mono fun r H' hr => by obtain ⟨h1, rfl⟩ := hr; exact k r h1
theorem ret1_rel (H H' : Heap) (φ : AV → Prop) (r : AV) : ret1 H' (fun r H1 => φ r ∧ H1 = H) r ↔ φ r ∧ H ≤ H' := by
 constructor
 · rintro ⟨H1, h, h2, rfl⟩; exact ⟨h2, h⟩
 · rintro ⟨h2, h⟩; exact ⟨H, h, h2, rfl⟩

def walkR (l : List Node) (at' : Int) (r : AV) : Prop := ∃ n d : Int, r = .tup [I n, I d] ∧ ((n = -1 ∧ d = 0) ∨ (at' < n ∧ n ≤ l.length ∧ 0 ≤ d ∧ d ≤ n - at'))

theorem ref03_Walk_ok (l : List Node) (p : Perm) (hl : small l.length) : ∀ (fuel : Nat) (at' : Int), 0 ≤ at' → at' ≤ l.length → l.length - at' < fuel → PurR ref03_Walk [rowA l p, I at'] (walkR l at') := by
 intro fuel
 induction fuel with
 | zero => intro a h0 h1 h2; omega
 | succ fuel ih =>
   intro a h0 h1 h2 H
   refine ref03_Walk_of ?_
   unfold W_ref03_Walk
   simp only [lnl_lst, pureK_some, List.length_map, bop_geq, condK_B, ret1_rel, decide_eq_true_eq, decide_eq_false_iff_not]
   refine ⟨fun h => ⟨⟨-1, 0, rfl, .inl ⟨rfl, rfl⟩⟩, Heap.le_refl _⟩, fun h => ?_⟩
   have ha : a.toNat < l.length := by omega
   rw [ias_row h0 ha]
   simp only [pureK_some, fa_cp, ld_cp, cutE_one, Nat.zero_add, get0]
   refine (ref03_Arity_ok _).run ?_
   have hr := arity_range l[a.toNat].kind
   generalize hm : arity l[a.toNat].kind = m at hr
   simp (disch := omega) only [bop_lss, pureK_some, condK_B, decide_eq_true_eq, decide_eq_false_iff_not, bop_add]
   refine ⟨fun h => ⟨⟨-1, 0, rfl, .inl ⟨rfl, rfl⟩⟩, Heap.le_refl _⟩, fun h => ?_⟩
   refine ⟨fun vs H' n => ∃ next deep k : Int, vs = [rowA l p, I a, I next, I deep, I k] ∧ H' = H ∧ n = (m - k).toNat ∧ a < next ∧ next ≤ l.length ∧ 0 ≤ deep ∧ deep ≤ next - a - 1 ∧ 0 ≤ k ∧ k ≤ m,
    ⟨_, H, Heap.le_refl _, _, _, _, rfl, rfl, rfl, by omega, by omega, by omega, by omega, by omega, by omega⟩, ?_⟩
   rintro vs H' n ⟨next, deep, k, rfl, rfl, rfl, g1, g2, g3, g4, g5, g6⟩
   simp only [nth_zero, nth_succ]
   rw [ias_row h0 ha]
   simp only [pureK_some, fa_cp, ld_cp, cutE_one, Nat.zero_add, get0]
   refine (ref03_Arity_ok _).run ?_
   rw [hm]
   simp only [bop_lss, pureK_some, condK_B, decide_eq_true_eq, decide_eq_false_iff_not]
   refine ⟨fun h => ?_, fun h => ?_⟩
   · refine (ih next (by omega) (by omega) (by omega)).run ?_
     rintro v ⟨n1, d1, rfl, hnd⟩
     simp (disch := omega) only [extractE_tup, get0, get1, bop_lss, bop_gtr, pureK_some, condK_B, decide_eq_true_eq, decide_eq_false_iff_not, bop_add]
     refine ⟨fun h3 => ⟨⟨-1, 0, rfl, .inl ⟨rfl, rfl⟩⟩, Heap.le_refl _⟩, fun h3 => ?_⟩
     have hnd' : next < n1 ∧ n1 ≤ l.length ∧ 0 ≤ d1 ∧ d1 ≤ n1 - next := by omega
     refine ⟨fun h4 => ⟨_, _, ?_, Heap.le_refl _, n1, d1, k + 1, rfl, rfl, rfl, ?_⟩, fun h4 => ⟨_, _, ?_, Heap.le_refl _, n1, deep, k + 1, rfl, rfl, rfl, ?_⟩⟩ <;> omega
   · simp (disch := omega) only [bop_add, pureK_some]
     exact ⟨⟨next, deep + 1, rfl, .inr ⟨by omega, by omega, by omega, by omega⟩⟩, Heap.le_refl _⟩

theorem ref03_Depth_ok (l : List Node) (p : Perm) (hl : small l.length) : PurR ref03_Depth [rowA l p] (fun r => ∃ d : Int, r = I d) := by
 intro H
 refine ref03_Depth_of ?_
 unfold W_ref03_Depth
 refine (ref03_Walk_ok l p hl (l.length + 1) 0 (by omega) (by omega) (by omega)).run ?_
 rintro v ⟨n, d, rfl, _⟩
 simp only [extractE_tup, get0, get1, pureK_some, ret1_rel]
 exact ⟨⟨d, rfl⟩, Heap.le_refl _⟩

abbrev rowsA (ls : List (List Node)) (p : Perm) : AV := .lst 1 (ls.map fun l => rowA l .no) p

theorem sll_row {l : List Node} {p : Perm} {a : Nat} (h : a ≤ l.length) : ∃ q, sll 3 (rowA l p) (some (I a)) none none = some (rowA (l.drop a) q) := by
 refine ⟨if p = .exact then .exact else .no, ?_⟩
 simp [sll, bound, h, List.take_of_length_le]
theorem sll_row2 {l : List Node} {p : Perm} {a b : Nat} (h : a ≤ b) (h2 : b ≤ l.length) : ∃ q, sll 3 (rowA l p) (some (I a)) (some (I b)) none = some (rowA ((l.take b).drop a) q) := by
 refine ⟨if p = .exact ∧ b = l.length then .exact else .no, ?_⟩
 simp [sll, bound, h, h2]
theorem Pur.weaken {f : FuncId} {args : List AV} {φ : AV → Prop} {v : AV} (h : PurR f args φ) (hw : ∀ r, φ r → Weaker r v) : Pur f args v := fun H =>
 (h H).weaken fun r H' hr => ⟨v, hw r hr.1, rfl, hr.2⟩
theorem Pur.reads {f : FuncId} {args : List AV} {v : AV} {H : Heap} (h : Pur f args v) : AReads PP gΓ f args H v := fun H' _ => h H'

theorem take_drop_kid (pre a post : List Node) : ((pre ++ a ++ post).take (pre.length + a.length)).drop pre.length = a := by
 rw [show pre.length + a.length = (pre ++ a).length by simp, List.take_left, List.drop_left]

theorem Tr.flat_split {t : Tr} {k : Nat} (h : k < t.kids.length) : ∃ post, t.flat = ([t.root] ++ (t.kids.take k).flatMap Tr.flat) ++ (t.kids[k]).flat ++ post := by
 cases t with
 | l0 n => simp [Tr.kids] at h
 | l1 n a =>
   have : k = 0 := by simp [Tr.kids] at h; omega
   subst this
   exact ⟨[], by simp [Tr.flat, Tr.root, Tr.kids]⟩
 | l2 n a b =>
   have : k = 0 ∨ k = 1 := by simp [Tr.kids] at h; omega
   rcases this with rfl | rfl
   · exact ⟨b.flat, by simp [Tr.flat, Tr.root, Tr.kids]⟩
   · exact ⟨[], by simp [Tr.flat, Tr.root, Tr.kids]⟩

theorem Tr.kids_ok {t : Tr} (h : t.ok) : ∀ x, x ∈ t.kids → x.ok := by
 cases t with
 | l0 n => intro x hx; simp [Tr.kids] at hx
 | l1 n a => intro x hx; simp [Tr.kids] at hx; subst hx; exact h.2
 | l2 n a b =>
   intro x hx
   simp [Tr.kids] at hx
   rcases hx with rfl | rfl
   · exact h.2.1
   · exact h.2.2

theorem Tr.kids_le (t : Tr) : t.kids.length ≤ 2 := by cases t <;> simp [Tr.kids]

theorem ias_root (t : Tr) (p : Perm) : ias 3 (rowA t.flat p) (I 0) = some (.cp [I t.root.kind, S t.root.name, I t.root.sign] 0) := by
 unfold rowA
 rw [t.flat_root]
 rfl

theorem row_Kids_ok (t : Tr) (p : Perm) (ht : t.ok) (hl : t.flat.length ≤ 1000000) : Pur row_Kids [rowA t.flat p] (rowsA (t.kids.map Tr.flat) .no) := by
 refine Pur.weaken (φ := fun r => (r = .lst 0 [] .exact ∧ t.kids = []) ∨ ∃ q, r = rowsA (t.kids.map Tr.flat) q) (fun H => ?_) ?_
 rotate_left
 · rintro r (⟨rfl, hk⟩ | ⟨q, rfl⟩)
   · rw [hk]; exact Weaker.empty
   · exact Weaker.lst
 refine row_Kids_of ?_
 unfold W_row_Kids
 refine (row_Size_ok t.flat p (by omega)).run ?_
 have hs : size t.flat = t.flat.length := by simpa using size_flat ht []
 have hpos := t.flat_pos
 have hk2 := t.kids_le
 rw [hs]
 simp only [bop_eql, pureK_some, condK_B, decide_eq_true_eq, decide_eq_false_iff_not]
 refine ⟨fun h => by omega, fun _ => ?_⟩
 rw [ias_root]
 simp only [pureK_some, fa_cp, ld_cp, cutE_one, Nat.zero_add, get0]
 refine (row_Arity_ok _).run ?_
 rw [Tr.arity_root ht]
 refine ⟨fun vs H' n => ∃ (k : Nat) (s : Nat) (q : Perm), k ≤ t.kids.length ∧ vs = [rowA t.flat p, .lst s (((t.kids.take k).map Tr.flat).map fun l => rowA l .no) q, I (1 + ((t.kids.take k).flatMap Tr.flat).length), I t.kids.length, I k] ∧ n = t.kids.length - k ∧ Bld H H' q k ∧ (s = 1 ∨ (k = 0 ∧ q = .exact ∧ s = 0)),
  ⟨_, H, Heap.le_refl _, 0, 0, .exact, Nat.zero_le _, rfl, rfl, .inl ⟨rfl, rfl⟩, .inr ⟨rfl, rfl, rfl⟩⟩, ?_⟩
 rintro vs H' n ⟨k, s, q, hk, rfl, rfl, hb, hsq⟩
 simp only [nth_zero, nth_succ, bop_lss, pureK_some, condK_B, decide_eq_true_eq, decide_eq_false_iff_not]
 refine ⟨fun h => ?_, fun h => ?_⟩
 · have hk' : k < t.kids.length := by omega
   obtain ⟨post, hpost⟩ := Tr.flat_split hk'
   have hkok := Tr.kids_ok ht _ (List.getElem_mem hk')
   generalize hx : t.kids[k] = x at hpost hkok
   generalize hpre : (t.kids.take k).flatMap Tr.flat = pre at hpost hb ⊢
   have hat : (1 : Int) + pre.length = ((([t.root] ++ pre).length : Nat) : Int) := by simp; omega
   have hxl := x.flat_pos
   have hlen := congrArg List.length hpost
   simp only [List.length_append, List.length_cons, List.length_nil] at hlen
   obtain ⟨q1, e1⟩ := sll_row (l := t.flat) (p := p) (a := ([t.root] ++ pre).length) (by simp; omega)
   rw [hat, e1]
   have hdrop : t.flat.drop ([t.root] ++ pre).length = x.flat ++ post := by rw [hpost, List.append_assoc, List.drop_left]
   rw [hdrop]
   simp only [pureK_some]
   refine (row_Size_ok _ q1 (by simp; omega)).run ?_
   rw [size_flat hkok]
   rw [bop_add (by simp; omega) (by simp; omega)]
   simp only [pureK_some]
   have hsum : ((([t.root] ++ pre).length : Nat) : Int) + x.flat.length = ((([t.root] ++ pre).length + x.flat.length : Nat) : Int) := by simp
   rw [hsum]
   obtain ⟨q2, e2⟩ := sll_row2 (l := t.flat) (p := p) (a := ([t.root] ++ pre).length) (b := ([t.root] ++ pre).length + x.flat.length) (by omega) (by simp; omega)
   rw [e2, hpost, take_drop_kid]
   simp only [pureK_some]
   refine (Clone_ok x.flat q2 (by intro e; rw [e] at hxl; simp at hxl) (by omega)).run ?_
   have e3 : bsl 1 (.lst 0 [] .exact) 1 [(0, rowA x.flat .no)] = some (.lst 1 [rowA x.flat .no] .exact) := rfl
   rw [e3]
   simp only [pureK_some]
   have htk : t.kids.take (k + 1) = t.kids.take k ++ [x] := by rw [List.take_succ_eq_append_getElem hk', hx]
   refine appK_bld (H0 := H) (s := 1) (ys := [rowA x.flat .no]) (by simpa [Nat.min_eq_left hk] using hb) (hsq.imp id fun h => ⟨by obtain ⟨rfl, _⟩ := h; simp, h.2.1⟩) rfl (by simp [maxApp, Nat.min_eq_left hk]; omega) ?_
   intro q' H2 hb'
   rw [bop_add (by omega) (by omega)]
   simp only [pureK_some]
   refine ⟨_, _, ?_, Heap.le_refl _, k + 1, 1, q', by omega, ?_, rfl, ?_, .inl rfl⟩
   · omega
   · rw [htk]; simp [hpre]; omega
   · simpa [Nat.min_eq_left hk] using hb'
 · have hk' : k = t.kids.length := by omega
   subst hk'
   refine ret1_of H hb.le ⟨?_, rfl⟩
   rw [List.take_length]
   rcases hsq with rfl | ⟨h0, rfl, rfl⟩
   · exact .inr ⟨q, rfl⟩
   · have : t.kids = [] := List.eq_nil_of_length_eq_zero h0
     rw [this]
     exact .inl ⟨rfl, rfl⟩

end Go.Av
namespace Go.Av
open Go Go.Proofs

theorem bop_sub0 {bk : BK} {a : Int} (h1 : -9223372036854775808 ≤ a) (h2 : a < 9223372036854775808) : bop bk .sub (I a) (I 0) = some (I a) := by
 rw [bop_sub (by omega) (by omega)]; simp

theorem Grow_ok (n : Nat) (hn : n ≤ 1000000) (H : Heap) : ACalls PP gΓ slices_Grow_Node [.lst 0 [] .exact, I n] H (fun r H' => ∃ s q, r = .lst s [] q ∧ Bld H H' q 0 ∧ (s = 3 ∨ q = .exact)) := by
 refine slices_Grow_Node_of ?_
 unfold W_slices_Grow_Node
 simp only [bop_lss, pureK_some, condK_B, decide_eq_true_eq, decide_eq_false_iff_not]
 refine ⟨fun h => by omega, fun _ => ?_⟩
 have e1 : cpl (.lst 0 [] .exact) = some (I 0) := rfl
 have e2 : lnl (.lst 0 [] .exact) = some (I 0) := rfl
 rw [e1, e2]
 simp only [pureK_some]
 rw [bop_sub0 (by omega) (by omega)]
 simp only [pureK_some]
 rw [bop_sub0 (by omega) (by omega)]
 simp only [pureK_some, bop_gtr, condK_B, decide_eq_true_eq, decide_eq_false_iff_not]
 refine ⟨fun h => ?_, fun h => ret1_of H (Heap.le_refl _) ⟨0, .exact, rfl, .inl ⟨rfl, rfl⟩, .inr rfl⟩⟩
 have e3 : sll 3 (.lst 0 [] .exact) none (some (I 0)) none = some (.lst 3 [] .exact) := rfl
 rw [e3]
 simp only [pureK_some]
 refine ⟨h, by simp [maxApp]; omega, fun t ht => ?_⟩
 have e4 : sll 3 (.room 3 t (n : Int).toNat) none (some (I 0)) none = some (.lst 3 [] (.tok t)) := rfl
 dsimp only
 rw [e4]
 simp only [pureK_some]
 exact ret1_of _ (Heap.le_refl _) ⟨3, .tok t, rfl, .inr ⟨t, rfl, ht, rfl⟩, .inl rfl⟩

theorem ias_rows {ls : List (List Node)} {p : Perm} {k : Nat} (h : k < ls.length) : ias 1 (rowsA ls p) (I k) = some (.cp [rowA (ls[k]) .no] 0) := by
 rw [ias_lst (by omega) (v := rowA (ls[k]) .no) (by simp [h])]; rfl

abbrev rowsP (ls : List (List Node × Perm)) (p : Perm) : AV := .lst 1 (ls.map fun l => rowA l.1 l.2) p
theorem ias_rowsP {ls : List (List Node × Perm)} {p : Perm} {k : Nat} (h : k < ls.length) : ias 1 (rowsP ls p) (I k) = some (.cp [rowA (ls[k]).1 (ls[k]).2] 0) := by
 rw [ias_lst (by omega) (v := rowA (ls[k]).1 (ls[k]).2) (by simp [h])]; rfl

def sumLen (ls : List (List Node × Perm)) : Nat := (ls.flatMap Prod.fst).length

theorem sumLen_take {ls : List (List Node × Perm)} {k : Nat} (h : k < ls.length) : sumLen (ls.take (k + 1)) = sumLen (ls.take k) + (ls[k]).1.length := by
 unfold sumLen
 rw [List.take_succ_eq_append_getElem h]
 simp only [List.flatMap_append, List.length_append, List.flatMap_cons, List.flatMap_nil, List.append_nil]
theorem sumLen_le (ls : List (List Node × Perm)) (k : Nat) : sumLen (ls.take k) ≤ sumLen ls := by
 unfold sumLen
 have : ls.flatMap Prod.fst = (ls.take k).flatMap Prod.fst ++ (ls.drop k).flatMap Prod.fst := by rw [← List.flatMap_append, List.take_append_drop]
 rw [this]; simp

theorem Concat_ok (ls : List (List Node × Perm)) (p : Perm) (hl : ls.length ≤ 1000) (hs : sumLen ls ≤ 1000000) : Pur slices_Concat_Node [rowsP ls p] (rowA (ls.flatMap Prod.fst) .no) := by
 refine Pur.weaken (φ := fun r => ∃ s q, r = .lst s ((ls.flatMap Prod.fst).map nd) q ∧ (s = 3 ∨ ls.flatMap Prod.fst = [])) (fun H => ?_) ?_
 rotate_left
 · rintro r ⟨s, q, rfl, h | h⟩
   · subst h; exact Weaker.lst
   · rw [h]; exact Weaker.empty
 refine slices_Concat_Node_of ?_
 unfold W_slices_Concat_Node
 simp only [lnl_lst, pureK_some, List.length_map]
 refine ⟨fun vs H' n => ∃ k : Nat, vs = [rowsP ls p, I (sumLen (ls.take k)), rowsP ls p, I ls.length, I k] ∧ H' = H ∧ n = ls.length - k ∧ k ≤ ls.length, ⟨_, H, Heap.le_refl _, 0, rfl, rfl, rfl, Nat.zero_le _⟩, ?_⟩
 rintro vs H' n ⟨k, rfl, rfl, rfl, hk⟩
 simp only [nth_zero, nth_succ, bop_lss, pureK_some, condK_B, decide_eq_true_eq, decide_eq_false_iff_not]
 refine ⟨fun h => ?_, fun h => ?_⟩
 · have hk' : k < ls.length := by omega
   have h1 := sumLen_take hk'
   have h2 := sumLen_le ls (k + 1)
   rw [ias_rowsP hk']
   simp only [pureK_some, ld_cp, cutE_one, get0, lnl_lst, List.length_map]
   rw [bop_add (by omega) (by omega)]
   simp only [pureK_some, bop_lss, condK_B, decide_eq_true_eq, decide_eq_false_iff_not]
   refine ⟨fun h => by omega, fun _ => ?_⟩
   rw [bop_add (by omega) (by omega)]
   simp only [pureK_some]
   refine ⟨_, _, ?_, Heap.le_refl _, k + 1, ?_, rfl, rfl, by omega⟩
   · omega
   · rw [h1]; simp
 · have hk' : k = ls.length := by omega
   subst hk'
   rw [List.take_length]
   refine (Grow_ok _ hs _).mono ?_
   rintro r H1 ⟨s, q, rfl, hb, hsq⟩
   simp only [lnl_lst, pureK_some, List.length_map]
   refine ⟨fun vs H2 n => ∃ (k : Nat) (s : Nat) (q : Perm), vs = [.lst s (((ls.take k).flatMap Prod.fst).map nd) q, rowsP ls p, I ls.length, I k] ∧ n = ls.length - k ∧ k ≤ ls.length ∧ Bld H' H2 q (((ls.take k).flatMap Prod.fst).map nd).length ∧ (s = 3 ∨ (((ls.take k).flatMap Prod.fst).map nd = [] ∧ q = .exact)),
    ⟨_, H1, Heap.le_refl _, 0, s, q, rfl, rfl, Nat.zero_le _, hb, hsq.imp id fun h => ⟨rfl, h⟩⟩, ?_⟩
   rintro vs H2 n ⟨k, s, q, rfl, rfl, hk, hb, hsq⟩
   simp only [nth_zero, nth_succ, bop_lss, pureK_some, condK_B, decide_eq_true_eq, decide_eq_false_iff_not]
   refine ⟨fun h => ?_, fun h => ?_⟩
   · have hk' : k < ls.length := by omega
     have h1 := sumLen_take hk'
     have h2 := sumLen_le ls (k + 1)
     rw [ias_rowsP hk']
     simp only [pureK_some, ld_cp, cutE_one, get0]
     refine appK_bld (H0 := H') (ys := (ls[k]).1.map nd) hb hsq (by simp [appended]) (by unfold sumLen at h1 h2 hs; simp only [List.length_map, maxApp]; omega) ?_
     intro q' H3 hb'
     rw [bop_add (by omega) (by omega)]
     simp only [pureK_some]
     have htk : (ls.take (k + 1)).flatMap Prod.fst = (ls.take k).flatMap Prod.fst ++ (ls[k]).1 := by
      rw [List.take_succ_eq_append_getElem hk']
      simp only [List.flatMap_append, List.flatMap_cons, List.flatMap_nil, List.append_nil]
     refine ⟨_, _, ?_, Heap.le_refl _, k + 1, 3, q', ?_, rfl, by omega, ?_, .inl rfl⟩
     · omega
     · rw [htk]; simp
     · rw [htk]; simpa using hb'
   · have hk' : k = ls.length := by omega
     subst hk'
     rw [List.take_length] at hsq hb ⊢
     exact ret1_of H' hb.le ⟨⟨s, q, rfl, hsq.imp id fun h => by simpa using h.1⟩, rfl⟩

end Go.Av
namespace Go.Av
open Go Go.Proofs

theorem row_Make_ok (n : Node) (ls : List (List Node × Perm)) (p : Perm) (hl : ls.length ≤ 1000) (hs : sumLen ls ≤ 1000000) : Pur row_Make [nd n, rowsP ls p] (rowA (n :: ls.flatMap Prod.fst) .no) := by
 intro H
 refine row_Make_of ?_
 unfold W_row_Make
 simp [nd]
 intro o1 ho1
 simp
 have e2 : bsl 3 (.agg [I 0, S emp, I 0]) 1 [(0, .agg [I n.kind, S n.name, I n.sign])] = some (.lst 3 [nd n] .exact) := rfl
 rw [e2]
 simp only [pureK_some]
 refine ⟨_, (Concat_ok ls p hl hs).reads, ?_⟩
 left
 unfold appK1
 have hap : appended 3 (rowA (ls.flatMap Prod.fst) .no) = some ((ls.flatMap Prod.fst).map nd) := by simp [appended]
 simp only [hap]
 refine ⟨.inl trivial, by unfold sumLen at hs; simp only [List.length_map, maxApp, List.length_cons, List.length_nil]; omega, .inl ?_⟩
 simp [nd, ho1]

theorem settle_over_ok (s : Int) : Pur settle_over [I s] (rowA [⟨11, emp, s⟩] .no) := by
 refine Pur.weaken (φ := fun r => r = rowA [⟨11, emp, s⟩] .exact) (fun H => ?_) (fun r h => by subst h; exact Weaker.lst)
 refine settle_over_of ?_
 show ret1 H (fun r H' => r = rowA [⟨11, emp, s⟩] .exact ∧ H' = H) _
 exact ret1_of H (Heap.le_refl _) ⟨rfl, rfl⟩

theorem settle_end_ok (s : Int) (c : List Node) (p : Perm) (hc : c.length ≤ 1000000) : Pur settle_end [I s, rowA c p] (rowA (⟨14, emp, s⟩ :: c) .no) := by
 intro H
 refine settle_end_of ?_
 unfold W_settle_end
 have e1 : bld [(0, 1), (1, 1), (2, 1)] [I 0, S emp, I 0] [(0, I 14), (2, I s)] = some (nd ⟨14, emp, s⟩) := rfl
 have e2 : bsl 1 (.lst 0 [] .exact) 1 [(0, rowA c p)] = some (rowsP [(c, p)] .exact) := rfl
 rw [e1]
 simp only [pureK_some]
 rw [e2]
 simp only [pureK_some]
 refine (row_Make_ok ⟨14, emp, s⟩ [(c, p)] .exact (by simp) (by simpa [sumLen] using hc)).run ?_
 simp

theorem ias_at {l : List Node} {x : Node} {r : List Node} {p : Perm} (h : l = x :: r) : ias 3 (rowA l p) (I 0) = some (.cp [I x.kind, S x.name, I x.sign] 0) := by
 subst h; rfl

theorem settle_Ended_ok (x : Node) (r : List Node) (p : Perm) : Pur settle_Ended [rowA (x :: r) p] (if r = [] ∧ x.kind = 11 then .tup [I x.sign, B true] else .tup [I 0, B false]) := by
 intro H
 refine settle_Ended_of ?_
 unfold W_settle_Ended
 simp only [lnl_lst, pureK_some, List.length_map, bop_neq, condK_B, ret1_pure]
 have hr : r = [] ↔ r.length = 0 := by simp
 refine ⟨fun h => ⟨?_, Heap.le_refl _⟩, fun h => ?_⟩
 · rw [if_neg]; intro h2; rw [h2.1] at h; simp at h
 · have h1 : r = [] := by rw [hr]; simp at h; omega
   rw [ias_at rfl]
   simp only [pureK_some, fa_cp, ld_cp, cutE_one, Nat.zero_add, get0, get2, bop_neq, condK_B, ret1_pure]
   refine ⟨fun h2 => ⟨?_, Heap.le_refl _⟩, fun h2 => ⟨?_, Heap.le_refl _⟩⟩
   · rw [if_neg]; intro h3; rw [h3.2] at h2; simp at h2
   · rw [if_pos]; exact ⟨h1, by simpa using h2⟩

def overT (s : Int) : Tr := .l0 ⟨11, emp, s⟩
def endT (s : Int) (c : Tr) : Tr := .l1 ⟨14, emp, s⟩ c
def Tr.sub : Tr → Tr
 | .l1 _ a => a
 | t => t
def stackT (a c : Tr) : Tr := if a.root.kind ≠ 14 then .l2 ⟨13, emp, 0⟩ a c else endT a.root.sign (.l2 ⟨5, emp, 0⟩ a.sub c)
def parT (n : Node) (a b : Tr) : Tr :=
 if a.root.kind = 11 ∧ b.root.kind = 11 then overT (sBothSign a.root.sign b.root.sign)
 else if a.root.kind = 14 ∧ b.root.kind = 14 then endT (sBothSign a.root.sign b.root.sign) (.l2 n a.sub b.sub)
 else .l2 n a b

theorem Tr.end_flat {t : Tr} (h : t.ok) (hk : t.root.kind = 14) : t.flat = t.root :: t.sub.flat ∧ t.sub.ok ∧ t = .l1 t.root t.sub := by
 cases t with
 | l0 n =>
   have h1 : arity n.kind = 0 := h
   have : n.kind = 14 := hk
   rw [this] at h1; cases h1
 | l1 n a => exact ⟨rfl, h.2, rfl⟩
 | l2 n a b =>
   have h1 : arity n.kind = 2 := h.1
   have : n.kind = 14 := hk
   rw [this] at h1; cases h1

theorem sll_tail {x : Node} {r : List Node} {p : Perm} : ∃ q, sll 3 (rowA (x :: r) p) (some (I 1)) none none = some (rowA r q) := by
 have := sll_row (l := x :: r) (p := p) (a := 1) (by simp)
 simpa using this

theorem settle_stack_ok (a c : Tr) (p q : Perm) (ha : a.ok) (hl : a.flat.length + c.flat.length ≤ 900000) : Pur settle_stack [rowA a.flat p, rowA c.flat q] (rowA (stackT a c).flat .no) := by
 intro H
 refine settle_stack_of ?_
 unfold W_settle_stack
 rw [ias_root]
 simp only [pureK_some, fa_cp, ld_cp, cutE_one, Nat.zero_add, get0, get2, bop_neq, condK_B]
 refine ⟨fun h => ?_, fun h => ?_⟩
 · have h' : a.root.kind ≠ 14 := by simpa using h
   have e1 : bld [(0, 1), (1, 1), (2, 1)] [I 0, S emp, I 0] [(0, I 13)] = some (nd ⟨13, emp, 0⟩) := rfl
   have e2 : bsl 1 (.lst 0 [] .exact) 2 [(0, rowA a.flat p), (1, rowA c.flat q)] = some (rowsP [(a.flat, p), (c.flat, q)] .exact) := rfl
   rw [e1]; simp only [pureK_some]
   rw [e2]; simp only [pureK_some]
   refine (row_Make_ok ⟨13, emp, 0⟩ [(a.flat, p), (c.flat, q)] .exact (by simp) (by simp [sumLen]; omega)).run ?_
   simp [stackT, h', Tr.flat]
 · have h' : a.root.kind = 14 := by simpa using h
   obtain ⟨hf, hs, _⟩ := a.end_flat ha h'
   have hlen := congrArg List.length hf
   simp only [List.length_cons] at hlen
   have e1 : bld [(0, 1), (1, 1), (2, 1)] [I 0, S emp, I 0] [(0, I 5)] = some (nd ⟨5, emp, 0⟩) := rfl
   rw [e1]; simp only [pureK_some]
   obtain ⟨q1, e3⟩ := sll_tail (x := a.root) (r := a.sub.flat) (p := p)
   rw [hf, e3]; simp only [pureK_some]
   have e2 : bsl 1 (.lst 0 [] .exact) 2 [(0, rowA a.sub.flat q1), (1, rowA c.flat q)] = some (rowsP [(a.sub.flat, q1), (c.flat, q)] .exact) := rfl
   rw [e2]; simp only [pureK_some]
   refine ⟨_, (row_Make_ok ⟨5, emp, 0⟩ [(a.sub.flat, q1), (c.flat, q)] .exact (by simp) (by simp [sumLen]; omega)).reads, ?_⟩
   refine (settle_end_ok a.root.sign _ .no (by simp; omega)).run ?_
   simp [stackT, h', Tr.flat, endT]
end Go.Av
namespace Go.Av
open Go Go.Proofs

theorem make2 (n : Node) (a b : List Node) (p q : Perm) (h : a.length + b.length ≤ 900000) {H H0 : Heap} (hH : H0 ≤ H) {v : AV} (hv : rowA (n :: (a ++ b)) .no = v) :
 ACalls PP gΓ row_Make [nd n, rowsP [(a, p), (b, q)] .exact] H fun x H2 => ret1 H2 (fun r H' => r = v ∧ H' = H0) x := by
 refine (row_Make_ok n [(a, p), (b, q)] .exact (by simp) (by simp [sumLen]; omega)).run ?_
 refine ret1_of H0 hH ⟨?_, rfl⟩
 rw [← hv]; simp

theorem bsl2 (a b : List Node) (p q : Perm) : bsl 1 (.lst 0 [] .exact) 2 [(0, rowA a p), (1, rowA b q)] = some (rowsP [(a, p), (b, q)] .exact) := rfl
theorem bsl1 (a : List Node) (p : Perm) : bsl 1 (.lst 0 [] .exact) 1 [(0, rowA a p)] = some (rowsP [(a, p)] .exact) := rfl

theorem allocK_nd {n : Node} {H : Heap} {K : AV → Heap → Prop} (h : ∀ o, H o = none → K (.ptr o 0) (H.upd o (.cells [I n.kind, S n.name, I n.sign]))) : allocK (some (AV.cells (nd n))) H K := by
 simp [nd]; exact h

theorem ld_nd {H : Heap} {o : Nat} {n : Node} : ld (some true) 3 (H.upd o (.cells [I n.kind, S n.name, I n.sign])) (.ptr o 0) = some (nd n) := by
 simp [nd]

theorem settle_par_ok (n : Node) (a b : Tr) (p q : Perm) (ha : a.ok) (hb : b.ok) (hl : a.flat.length + b.flat.length ≤ 900000) : Pur settle_par [nd n, rowA a.flat p, rowA b.flat q] (rowA (parT n a b).flat .no) := by
 intro H
 refine settle_par_of ?_
 unfold W_settle_par
 refine allocK_nd fun o ho => ?_
 rw [ias_root, ias_root]
 simp only [pureK_some, fa_cp, ld_cp, cutE_one, Nat.zero_add, get0, get2]
 refine (sign_Both_ok _ _).run ?_
 simp only [bop_eql, pureK_some, condK_B, decide_eq_true_eq, decide_eq_false_iff_not]
 have hle : H ≤ H.upd o (.cells [I n.kind, S n.name, I n.sign]) := by simp [ho]
 have two : ∀ (h1 : ¬ (a.root.kind = 11 ∧ b.root.kind = 11)) (h2 : ¬ (a.root.kind = 14 ∧ b.root.kind = 14)), pureK (ld (some true) 3 (H.upd o (.cells [I n.kind, S n.name, I n.sign])) (.ptr o 0)) fun x => pureK (bsl 1 (.lst 0 [] .exact) 2 [(0, rowA a.flat p), (1, rowA b.flat q)]) fun y =>
  ACalls PP gΓ row_Make [x, y] (H.upd o (.cells [I n.kind, S n.name, I n.sign])) fun z H2 => ret1 H2 (fun r H' => r = rowA (parT n a b).flat .no ∧ H' = H) z := by
  intro h1 h2
  rw [ld_nd, bsl2]
  exact make2 n a.flat b.flat p q hl hle (by simp only [parT, if_neg h1, if_neg h2, Tr.flat])
 have both : ∀ (h1 : a.root.kind = 14) (h2 : b.root.kind = 14), pureK (ld (some true) 3 (H.upd o (.cells [I n.kind, S n.name, I n.sign])) (.ptr o 0)) fun x => pureK (sll 3 (rowA a.flat p) (some (I 1)) none none) fun y => pureK (sll 3 (rowA b.flat q) (some (I 1)) none none) fun z =>
  pureK (bsl 1 (.lst 0 [] .exact) 2 [(0, y), (1, z)]) fun u => ∃ v, AReads PP gΓ row_Make [x, u] (H.upd o (.cells [I n.kind, S n.name, I n.sign])) v ∧
  ACalls PP gΓ settle_end [I (sBothSign a.root.sign b.root.sign), v] (H.upd o (.cells [I n.kind, S n.name, I n.sign])) fun z H2 => ret1 H2 (fun r H' => r = rowA (parT n a b).flat .no ∧ H' = H) z := by
  intro h1 h2
  obtain ⟨fa1, _, _⟩ := a.end_flat ha h1
  obtain ⟨fb1, _, _⟩ := b.end_flat hb h2
  have la := congrArg List.length fa1
  have lb := congrArg List.length fb1
  simp only [List.length_cons] at la lb
  obtain ⟨q1, e1⟩ := sll_tail (x := a.root) (r := a.sub.flat) (p := p)
  obtain ⟨q2, e2⟩ := sll_tail (x := b.root) (r := b.sub.flat) (p := q)
  rw [ld_nd, fa1, fb1, e1, e2]
  simp only [pureK_some]
  rw [bsl2]
  simp only [pureK_some]
  refine ⟨_, (row_Make_ok n [(a.sub.flat, q1), (b.sub.flat, q2)] .exact (by simp) (by simp [sumLen]; omega)).reads, ?_⟩
  refine (settle_end_ok _ _ .no (by simp; omega)).run (ret1_of H hle ⟨?_, rfl⟩)
  have h3 : ¬ (a.root.kind = 11 ∧ b.root.kind = 11) := by omega
  simp only [parT, if_neg h3, if_pos (And.intro h1 h2), endT, Tr.flat]
  simp
 refine ⟨fun h1 => ⟨fun h2 => ?_, fun h2 => ⟨fun h3 => ⟨fun h4 => both h3 h4, fun h4 => two (by omega) (by omega)⟩, fun h3 => two (by omega) (by omega)⟩⟩, fun h1 => ⟨fun h3 => ⟨fun h4 => both h3 h4, fun h4 => two (by omega) (by omega)⟩, fun h3 => two (by omega) (by omega)⟩⟩
 refine (settle_over_ok _).run (ret1_of H hle ⟨?_, rfl⟩)
 simp [parT, h1, h2, overT, Tr.flat]

def blockT (rec : Tr → Tr) (n : Node) (a : Tr) : Tr :=
 if a.root = ⟨14, emp, 1⟩ then overT 1 else if a.root = ⟨14, emp, 2⟩ then rec a.sub else .l1 n a
def behindT (rec : Tr → Tr) (n : Node) (a b : Tr) (begins : Int) : Tr :=
 if a.root = ⟨11, emp, begins⟩ then rec b else if a.root.kind = 11 then a else .l2 n a b

theorem bop_nd (x y : Node) : bop (.flat [.int, .str, .int]) .eql (nd x) (nd y) = some (B (decide (x = y))) := by
 unfold nd
 rw [bop_flat_eql, cellsEq_node, cmpE_eql]
 congr 2
 have := node_ext_iff x y
 by_cases h1 : x.kind = y.kind <;> by_cases h2 : x.name = y.name <;> by_cases h3 : x.sign = y.sign <;> simp [this, h1, h2, h3]

theorem bld_02 (k s : Int) : bld [(0, 1), (1, 1), (2, 1)] [I 0, S emp, I 0] [(0, I k), (2, I s)] = some (nd ⟨k, emp, s⟩) := rfl
theorem bld_0 (k : Int) : bld [(0, 1), (1, 1), (2, 1)] [I 0, S emp, I 0] [(0, I k)] = some (nd ⟨k, emp, 0⟩) := rfl
theorem bld_01 (k : Int) (s : ByteArray) : bld [(0, 1), (1, 1), (2, 1)] [I 0, S emp, I 0] [(0, I k), (1, S s)] = some (nd ⟨k, s, 0⟩) := rfl
theorem cut_nd (n : Node) : cutE [I n.kind, S n.name, I n.sign] 0 (some true) 3 = some (nd n) := rfl

theorem settle_behind_ok (rec : Tr → Tr) (n : Node) (a b : Tr) (s : Int) (p q : Perm) (hrec : Pur settle_settle [rowA b.flat q] (rowA (rec b).flat .no)) (hl : a.flat.length + b.flat.length ≤ 900000) :
 Pur settle_behind [nd n, rowA a.flat p, rowA b.flat q, I s] (rowA (behindT rec n a b s).flat .no) := by
 refine Pur.weaken (φ := fun r => ∃ p, r = rowA (behindT rec n a b s).flat p) (fun H => ?_) (fun r h => by obtain ⟨p, rfl⟩ := h; exact Weaker.lst)
 refine settle_behind_of ?_
 unfold W_settle_behind
 refine allocK_nd fun o ho => ?_
 have hle : H ≤ H.upd o (.cells [I n.kind, S n.name, I n.sign]) := by simp [ho]
 rw [ias_root]
 simp only [pureK_some, fa_cp, ld_cp, cut_nd, cutE_one, Nat.zero_add, get0, bld_02, bop_nd, condK_B, decide_eq_true_eq, decide_eq_false_iff_not, bop_eql]
 refine ⟨fun h => ?_, fun h => ⟨fun h2 => ?_, fun h2 => ?_⟩⟩
 · exact hrec.run (ret1_of H hle ⟨⟨.no, by simp only [behindT, if_pos h]⟩, rfl⟩)
 · exact ret1_of H hle ⟨⟨p, by simp only [behindT, if_neg h, if_pos h2]⟩, rfl⟩
 · rw [ld_nd, bsl2]
   simp only [pureK_some]
   refine (row_Make_ok n [(a.flat, p), (b.flat, q)] .exact (by simp) (by simp [sumLen]; omega)).run (ret1_of H hle ⟨⟨.no, ?_⟩, rfl⟩)
   simp only [behindT, if_neg h, if_neg h2, Tr.flat]; simp

theorem settle_block_ok (rec : Tr → Tr) (n : Node) (a : Tr) (p : Perm) (ha : a.ok) (hrec : ∀ q, a.root.kind = 14 → Pur settle_settle [rowA a.sub.flat q] (rowA (rec a.sub).flat .no)) (hl : a.flat.length ≤ 900000) :
 Pur settle_block [nd n, rowA a.flat p] (rowA (blockT rec n a).flat .no) := by
 intro H
 refine settle_block_of ?_
 unfold W_settle_block
 refine allocK_nd fun o ho => ?_
 have hle : H ≤ H.upd o (.cells [I n.kind, S n.name, I n.sign]) := by simp [ho]
 rw [ias_root]
 simp only [pureK_some, fa_cp, ld_cp, cut_nd, cutE_one, Nat.zero_add, get0, bld_02, bop_nd, condK_B, decide_eq_true_eq, decide_eq_false_iff_not, bop_eql]
 refine ⟨fun h => ?_, fun h => ⟨fun h2 => ?_, fun h2 => ?_⟩⟩
 · exact (settle_over_ok 1).run (ret1_of H hle ⟨by simp only [blockT, if_pos h]; rfl, rfl⟩)
 · have hk : a.root.kind = 14 := by rw [h2]
   obtain ⟨fa1, _, _⟩ := a.end_flat ha hk
   obtain ⟨q1, e1⟩ := sll_tail (x := a.root) (r := a.sub.flat) (p := p)
   rw [fa1, e1]
   simp only [pureK_some]
   exact (hrec q1 hk).run (ret1_of H hle ⟨by simp only [blockT, if_neg h, if_pos h2], rfl⟩)
 · rw [ld_nd, bsl1]
   simp only [pureK_some]
   refine (row_Make_ok n [(a.flat, p)] .exact (by simp) (by simp [sumLen]; omega)).run (ret1_of H hle ⟨?_, rfl⟩)
   simp only [blockT, if_neg h, if_neg h2, Tr.flat]; simp

end Go.Av
