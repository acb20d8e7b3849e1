/- Own text C17 of this claim: see the text that holds the theorem. -/
import Derived.Test.YtddolbhaekekaaaGreatDoorC16
set_option linter.all false
set_option maxRecDepth 100000
namespace Go.Av
open Go Go.Proofs

theorem bytes_Equal_ok (l m : List UInt8) (p q : Perm) : Pur bytes_Equal [bytA l p, bytA m q] (B (decide (l = m))) := by
  intro H
  refine bytes_Equal_of ?_
  unfold W_bytes_Equal
  rw [cv_toStr, cv_toStr]
  simp only [pureK_some, bop_seql, ret1_pure]
  refine ⟨B_eq ?_, Heap.le_refl _⟩
  have : ((⟨l.toArray⟩ : ByteArray) = ⟨m.toArray⟩) ↔ l = m := by
    constructor
    · intro h; injection h with h; simpa using h
    · intro h; rw [h]
  simp only [this]

/-- Is it an Over alone? -/
def ended (t : Tr) : Bool := decide (t.flat.tail = [] ∧ t.root.kind = 11)

def settleF : Nat → Tr → Tr
  | 0, t => t
  | f + 1, .l0 n => if n.kind = 2 then overT 1 else if n.kind = 3 then overT 2 else .l0 n
  | f + 1, .l1 n a => if n.kind = 9 then blockT (settleF f) n (settleF f a) else .l1 n a
  | f + 1, .l2 n a b =>
    if n.kind = 8 then behindT (settleF f) n (settleF f a) b 2
    else if n.kind = 5 then
      (if (settleF f a).root.kind ≠ 14 then behindT (settleF f) n (settleF f a) b 1
       else if (settleF f a).root.sign ≠ 1 then settleF f a
       else stackT (settleF f b) (settleF f a).sub)
    else if n.kind = 13 then stackT (settleF f a) b
    else if n.kind = 12 then
      (if ended (settleF f a) then endT (settleF f a).root.sign (if (settleF f a).root.sign ≠ 1 then .l0 ⟨2, emp, 0⟩ else b)
       else .l2 n (settleF f a) b)
    else if n.kind = 7 then parT n (settleF f a) (settleF f b)
    else .l2 n a b

/-- What has been shown of settle. -/
def SettleOk : Prop := ∀ (t : Tr) (p : Perm), t.ok → t.flat.length ≤ 1000 → Pur settle_settle [rowA t.flat p] (rowA (settleF t.flat.length t).flat .no)

noncomputable def settleRow (l : List Node) : List Node :=
  if sortOn l false || sortOn l true then
    (if (settleF l.length (treeOf l)).flat.length > 200 then [] else (settleF l.length (treeOf l)).flat)
  else []

theorem sortOn_whole {l : List Node} {b : Bool} (h : sortOn l b = true) : whole l = true := by
  unfold sortOn sortOf at h
  cases hw : whole l with
  | true => rfl
  | false => rw [hw] at h; simp [sOn] at h; cases b <;> simp at h

theorem settle_Settle_ok (hset : SettleOk) (l : List Node) (p : Perm) (hl : small l.length) (hn : names l) : Pur settle_Settle [rowA l p] (rowA (settleRow l) .no) := by
  refine Pur.weaken (φ := fun r => r = rowA (settleRow l) .no ∨ (settleRow l = [] ∧ r = .lst 0 [] .exact)) (fun H => ?_) ?_
  rotate_left
  · rintro r (rfl | ⟨h, rfl⟩)
    · exact Weaker.refl _
    · rw [h]; exact Weaker.empty
  refine settle_Settle_of ?_
  unfold W_settle_Settle
  have body : ∀ (hs : sortOn l false = true ∨ sortOn l true = true), ACalls PP gΓ settle_settle [rowA l p] H fun x14 H15 =>
      pureK (lnl x14) fun x16 => pureK (bop .plain .gtr x16 (I 200)) fun x17 =>
      condK x17 (ret1 H15 (fun r H' => (r = rowA (settleRow l) .no ∨ (settleRow l = [] ∧ r = .lst 0 [] .exact)) ∧ H' = H) (.lst 0 [] .exact))
       (pureK (bsl 3 (.agg [.sc (.int .i64 0), S emp, .sc (.int .i64 0)]) 0 []) fun x18 => appK 3 x18 x14 H15 fun x19 H20 => ret1 H20 (fun r H' => (r = rowA (settleRow l) .no ∨ (settleRow l = [] ∧ r = .lst 0 [] .exact)) ∧ H' = H) x19) := by
    intro hs
    have hw : whole l = true := hs.elim sortOn_whole sortOn_whole
    obtain ⟨h1, h2⟩ := treeOf_spec hw
    have hlen : l.length ≤ 200 := by
      unfold whole at hw
      simp only [Bool.and_eq_true, decide_eq_true_eq] at hw
      exact hw.1.2
    have key := hset (treeOf l) p h1 (by rw [← h2]; omega)
    rw [← h2] at key
    have hc : (sortOn l false || sortOn l true) = true := by simpa using hs
    refine key.run ?_
    simp only [lnl_lst, List.length_map, pureK_some, bop_gtr, condK_B, decide_eq_true_eq, decide_eq_false_iff_not]
    refine ⟨fun h3 => ret1_of H (Heap.le_refl _) ⟨.inr ⟨?_, rfl⟩, rfl⟩, fun h3 => ?_⟩
    · simp only [settleRow, if_pos hc]; rw [if_pos (by omega)]
    · have e2 : bsl 3 (.agg [I 0, S emp, I 0]) 0 [] = some (.lst 3 [] .exact) := rfl
      rw [e2]
      simp only [pureK_some]
      left
      unfold appK1
      have hap : ∀ o : List Node, appended 3 (rowA o .no) = some (o.map nd) := by intro o; simp [appended]
      simp only [hap]
      refine ⟨.inl trivial, by simp only [List.length_map, List.length_nil, maxApp]; omega, .inl ?_⟩
      refine ret1_of H (Heap.le_refl _) ⟨.inl ?_, rfl⟩
      simp only [settleRow, if_pos hc]; rw [if_neg (by omega)]; rfl
  refine (sort_On_ok l p false hl hn).run ?_
  simp only [unE_not, pureK_some, condK_B]
  refine ⟨fun h1 => ?_, fun h1 => body (.inl (by simpa using h1))⟩
  refine (sort_On_ok l p true hl hn).run ?_
  simp only [unE_not, pureK_some, condK_B]
  refine ⟨fun h2 => ret1_of H (Heap.le_refl _) ⟨.inr ⟨?_, rfl⟩, rfl⟩, fun h2 => body (.inr (by simpa using h2))⟩
  have e1 : sortOn l false = false := by simpa using h1
  have e2 : sortOn l true = false := by simpa using h2
  simp [settleRow, e1, e2]

noncomputable def settled (l : List Node) : Bool := decide (0 < l.length) && decide (settleRow l = l)

theorem settleRow_len (l : List Node) : (settleRow l).length ≤ 200 := by
  unfold settleRow; split
  · split
    · simp
    · omega
  · simp

theorem settle_Settled_ok (hset : SettleOk) (l : List Node) (p : Perm) (hl : small l.length) (hn : names l) : Pur settle_Settled [rowA l p] (B (settled l)) := by
  intro H
  refine settle_Settled_of ?_
  unfold W_settle_Settled
  simp only [lnl_lst, List.length_map, pureK_some, bop_gtr, condK_B, decide_eq_true_eq, decide_eq_false_iff_not]
  refine ⟨fun h => ?_, fun h => ?_⟩
  · refine (settle_Settle_ok hset l p hl hn).run ?_
    have := settleRow_len l
    refine (row_Same_ok _ _ _ _ (by omega)).run ?_
    simp only [ret1_pure]
    refine ⟨B_eq ?_, Heap.le_refl _⟩
    have h' : 0 < l.length := by omega
    simp [settled, h']
  · simp only [ret1_pure]
    refine ⟨B_eq ?_, Heap.le_refl _⟩
    have h' : ¬ 0 < l.length := by omega
    simp only [settled, decide_eq_false h', Bool.false_and]

noncomputable def rightS (s : St) : Bool :=
  sortOn s.l false && (settled s.l && (decide (s.l.length ≤ 60) && ((decide (0 ≤ s.pl) && decide (s.pl ≤ 255)) && ((decide (0 ≤ s.how) && decide (s.how ≤ 5)) && ((decide (0 ≤ s.n) && decide (s.n ≤ 60)) && (decide (s.a.length ≤ 60) && !(s.a.any fun x => !right ⟨1, x, 0⟩)))))))

theorem enters_R1 : enters PP code_Right_1 = true := by kernel_rfl
theorem enters_R2 : enters PP code_Right_2 = true := by kernel_rfl

theorem code_Right_ok (hset : SettleOk) (s : St) (p q : Perm) (hl : small s.l.length) (hn : names s.l) (ha : small s.a.length) (hna : ∀ x, x ∈ s.a → x.size ≤ 4611686018427387904) : Pur code_Right [stA s p q] (B (rightS s)) := by
  intro H
  refine code_Right_of ?_
  unfold W_code_Right
  refine allocK_st fun o1 ho1 => ?_
  have hle : H ≤ H.upd o1 (.cells (stC s p q)) := by simp [ho1]
  simp only [fa_ptr, pureK_some, ld_upd, cutE_one, Nat.zero_add, get0]
  refine (sort_On_ok _ _ _ hl hn).run ?_
  simp only [condK_B]
  refine ⟨fun h1 => ?_, fun h1 => ret1_of H hle ⟨B_eq (by simp [rightS, h1]), rfl⟩⟩
  simp only [fa_ptr, pureK_some, ld_upd, cutE_one, Nat.zero_add, get0]
  refine (settle_Settled_ok hset _ _ hl hn).run ?_
  simp only [condK_B]
  refine ⟨fun h2 => ?_, fun h2 => ret1_of H hle ⟨B_eq (by simp [rightS, h2]), rfl⟩⟩
  simp only [fa_ptr, pureK_some, ld_upd, cutE_one, Nat.zero_add, get0, get1, lnl_lst, List.length_map, bop_leq, condK_B, decide_eq_true_eq, decide_eq_false_iff_not]
  refine ⟨fun h3 => ?_, fun h3 => ret1_of H hle ⟨B_eq (by simp [rightS, show ¬ s.l.length ≤ 60 by omega]), rfl⟩⟩
  have h3' : s.l.length ≤ 60 := by omega
  refine callK_pur (E := E_code_Right) (args := [I s.pl, I 255]) (cap := []) rfl rfl enters_R2 (code_Right_2_ok s.pl 255) ?_
  simp only [condK_B]
  refine ⟨fun h4 => ?_, fun h4 => ret1_of H hle ⟨B_eq (by simp only [rightS, h4, Bool.false_and, Bool.and_false]), rfl⟩⟩
  simp only [fa_ptr, pureK_some, ld_upd, cutE_one, Nat.zero_add, Nat.reduceAdd, get2]
  refine callK_pur (E := E_code_Right) (args := [I s.how, I 5]) (cap := []) rfl rfl enters_R2 (code_Right_2_ok s.how 5) ?_
  simp only [condK_B]
  refine ⟨fun h5 => ?_, fun h5 => ret1_of H hle ⟨B_eq (by simp only [rightS, h5, Bool.false_and, Bool.and_false]), rfl⟩⟩
  simp only [fa_ptr, pureK_some, ld_upd, cutE_one, Nat.zero_add, get3]
  refine callK_pur (E := E_code_Right) (args := [I s.n, I 60]) (cap := []) rfl rfl enters_R2 (code_Right_2_ok s.n 60) ?_
  simp only [condK_B]
  refine ⟨fun h6 => ?_, fun h6 => ret1_of H hle ⟨B_eq (by simp only [rightS, h6, Bool.false_and, Bool.and_false]), rfl⟩⟩
  simp only [fa_ptr, pureK_some, ld_upd, cutE_one, Nat.zero_add, get4, lnl_lst, List.length_map, bop_leq, condK_B, decide_eq_true_eq, decide_eq_false_iff_not]
  refine ⟨fun h7 => ?_, fun h7 => ret1_of H hle ⟨B_eq (by simp [rightS, show ¬ s.a.length ≤ 60 by omega]), rfl⟩⟩
  have h7' : s.a.length ≤ 60 := by omega
  refine (slices_ContainsFunc_string_ok s.a q code_Right_1 [] (fun x => !right ⟨1, x, 0⟩) ha enters_R1 (fun x hx => code_Right_1_ok x (hna x hx))).run ?_
  simp only [unE_not, pureK_some]
  refine ret1_of H hle ⟨B_eq ?_, rfl⟩
  simp only [rightS, h1, h2, h4, h5, h6, decide_eq_true h3', decide_eq_true h7', Bool.true_and]

end Go.Av
