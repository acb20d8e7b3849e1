/- Own text C2 of this claim: see the text that holds the theorem. -/
import Derived.Test.YtddolbhaekekaaaGreatDoorC1
set_option linter.all false
set_option maxRecDepth 100000
namespace Go.Av
open Go Go.Proofs

/-! ### numbers -/
def sOn (s : Int) : Int := if s = 1 ∨ s = 2 then s + 2 else s
def sBoth (a b : Int) : Int := if sOn a = sOn b then max a b else 0
def sBehind (a b t : Int) : Int := if b ≠ t ∨ sOn a ≠ sOn t then 0 else a

theorem maxE_two (a b : Int) : maxE [I a, I b] = some (I (max a b)) := by
  simp only [maxE, foldE, max2E, Option.bind_some]
  by_cases h : b > a
  · rw [if_pos h, Int.max_def, if_pos (by omega)]
  · rw [if_neg h, Int.max_def]; split
    · have : a = b := by omega
      rw [this]
    · rfl

theorem sort_on_ok (k : Int) (hk : -1000 ≤ k ∧ k ≤ 1000) : Pur sort_on [I k] (I (sOn k)) := by
  intro H
  refine sort_on_of ?_
  unfold W_sort_on
  simp (disch := omega) [bop_add, bop_sub]
  refine ⟨fun h => by subst h; rfl, fun h => ⟨fun h2 => by subst h2; rfl, fun h2 => by simp [sOn, h, h2]⟩⟩

theorem sort_both_ok (a b : Int) (ha : -1000 ≤ a ∧ a ≤ 1000) (hb : -1000 ≤ b ∧ b ≤ 1000) : Pur sort_both [I a, I b] (I (sBoth a b)) := by
  intro H
  refine sort_both_of ?_
  unfold W_sort_both
  refine (sort_on_ok a ha).run ((sort_on_ok b hb).run ?_)
  simp [maxE_two]
  refine ⟨fun h => by simp [sBoth, h], fun h => by simp [sBoth, h]⟩

theorem sort_behind_ok (a b t : Int) (ha : -1000 ≤ a ∧ a ≤ 1000) (ht : -1000 ≤ t ∧ t ≤ 1000) : Pur sort_behind [I a, I b, I t] (I (sBehind a b t)) := by
  intro H
  refine sort_behind_of ?_
  unfold W_sort_behind
  simp
  refine ⟨fun h => by simp [sBehind, h], fun h => ?_⟩
  refine (sort_on_ok a ha).run ((sort_on_ok t ht).run ?_)
  simp
  refine ⟨fun h2 => by simp [sBehind, h2], fun h2 => by simp [sBehind, h, h2]⟩

def sIs (s : Int) : Bool := decide (1 ≤ s ∧ s ≤ 3)
def sBothSign (a b : Int) : Int := if !sIs a || !sIs b then 0 else if a = 2 ∨ b = 2 then 2 else max a b

theorem sign_Is_ok (s : Int) : Pur sign_Is [I s] (B (sIs s)) := by
  intro H
  refine sign_Is_of ?_
  unfold W_sign_Is
  simp [sIs]
  refine ⟨fun h => ?_, fun h h2 => by omega⟩
  by_cases h3 : s ≤ 3 <;> simp [h, h3]

theorem sign_Both_ok (a b : Int) : Pur sign_Both [I a, I b] (I (sBothSign a b)) := by
  intro H
  refine sign_Both_of ?_
  unfold W_sign_Both
  refine (sign_Is_ok a).run ?_
  simp
  refine ⟨fun h => by simp [sBothSign, h], fun h => (sign_Is_ok b).run ?_⟩
  simp [maxE_two]
  refine ⟨fun h2 => by simp [sBothSign, h2], fun h2 => ⟨fun h3 => by simp only [sBothSign, h, h2]; simp [h3], fun h3 => ⟨fun h4 => by simp only [sBothSign, h, h2]; simp [h4], fun h4 => by simp [sBothSign, h, h2, h3, h4]⟩⟩⟩

def long (n : Int) : Int := if n < 0 ∨ 60 < n then 0 else 5 + 19 * n

theorem code_Long_ok (n : Int) : Pur code_Long [I n] (I (long n)) := by
  intro H
  refine code_Long_of ?_
  unfold W_code_Long
  simp
  refine ⟨fun h => by simp [long, h], fun h => ⟨fun h2 => by simp [long, h2], fun h2 => ?_⟩⟩
  simp (disch := omega) [bop_mul, bop_add]
  simp [long]; omega

/-! ### rows that are equal -/
abbrev txtA (l : List ByteArray) (p : Perm) : AV := .lst 1 (l.map fun s => S s) p
abbrev bytA (l : List UInt8) (p : Perm) : AV := .lst 1 (l.map byteAV) p

theorem ias_txt {l : List ByteArray} {p : Perm} {i : Int} (h0 : 0 ≤ i) (h : i.toNat < l.length) : ias 1 (txtA l p) (I i) = some (.cp [S (l[i.toNat])] 0) := by
  rw [ias_lst h0 (v := S l[i.toNat]) (by simp [h])]; rfl
theorem ias_byt {l : List UInt8} {p : Perm} {i : Int} (h0 : 0 ≤ i) (h : i.toNat < l.length) : ias 1 (bytA l p) (I i) = some (.cp [byteAV (l[i.toNat])] 0) := by
  rw [ias_lst h0 (v := byteAV l[i.toNat]) (by simp [h])]; rfl

@[simp] theorem cellsEq_node (a c a' c' : Int) (b b' : ByteArray) : cellsEq [.int, .str, .int] [I a, S b, I c] [I a', S b', I c'] = some (decide (a = a') && (decide (b = b') && (decide (c = c') && true))) :=
  cellsEq_cons (cellEq_int _ _ _) (cellsEq_cons (cellEq_str _ _) (cellsEq_cons (cellEq_int _ _ _) rfl))

theorem node_ext_iff (x y : Node) : x = y ↔ x.kind = y.kind ∧ x.name = y.name ∧ x.sign = y.sign := by
  cases x; cases y; simp

theorem take_step {α : Type} {l m : List α} {k : Nat} (hl : k < l.length) (hm : k < m.length) (h : l.take k = m.take k) (e : l[k] = m[k]) : l.take (k + 1) = m.take (k + 1) := by
  rw [List.take_succ_eq_append_getElem hl, List.take_succ_eq_append_getElem hm, h, e]
theorem ne_of_get {α : Type} {l m : List α} {k : Nat} (hl : k < l.length) (hm : k < m.length) (e : l[k] ≠ m[k]) : l ≠ m := by
  intro h; subst h; exact e rfl
theorem byteAV_inj {a b : UInt8} : ((a.toNat : Int) = b.toNat) ↔ a = b := by
  constructor
  · intro h; exact UInt8.toNat_inj.1 (by omega)
  · intro h; rw [h]

theorem slices_Equal_Node_ok (l m : List Node) (p q : Perm) (hl : small l.length) : Pur slices_Equal_Node [rowA l p, rowA m q] (B (decide (l = m))) := by
  intro H
  refine slices_Equal_Node_of ?_
  unfold W_slices_Equal_Node
  simp only [lnl_lst, pureK_some, List.length_map, bop_neq, condK_B, ret1_pure]
  refine ⟨fun h => ⟨B_eq ?_, Heap.le_refl _⟩, fun h => ?_⟩
  · have h' : ¬ (l.length : Int) = m.length := by simpa using h
    have : ¬ l = m := fun e => h' (by rw [e])
    simp [this]
  have hlen : l.length = m.length := by simp at h; omega
  refine ⟨fun vs H' n => ∃ k : Nat, vs = [rowA l p, rowA m q, I l.length, I k] ∧ H' = H ∧ n = l.length - k ∧ k ≤ l.length ∧ l.take k = m.take k, ⟨_, H, Heap.le_refl _, 0, rfl, rfl, rfl, Nat.zero_le _, rfl⟩, ?_⟩
  rintro vs H' n ⟨k, rfl, rfl, rfl, hk, he⟩
  simp only [nth_zero, nth_succ, lnl_lst, List.length_map, bop_lss, pureK_some, condK_B, decide_eq_true_eq, decide_eq_false_iff_not, ret1_pure]
  refine ⟨fun h => ?_, fun h => ⟨B_eq ?_, Heap.le_refl _⟩⟩
  · have h1 : k < l.length := by omega
    have h2 : k < m.length := by omega
    rw [ias_row (by omega) (by omega), ias_row (by omega) (by omega)]
    simp (disch := omega) [bop_add, Int.toNat_natCast]
    refine ⟨fun h3 => ?_, fun h3 h4 h5 => ⟨_, by omega, _, Heap.le_refl _, k + 1, by simp, rfl, rfl, by omega, take_step h1 h2 he ?_⟩⟩
    · have : l ≠ m := ne_of_get h1 h2 (fun e => by rw [node_ext_iff] at e; obtain ⟨e1, e2, e3⟩ := e; simp [e1, e2, e3] at h3)
      exact this
    · rw [node_ext_iff]; exact ⟨h3, h4, h5⟩
  · have hk' : k = l.length := by omega
    subst hk'
    rw [List.take_length, hlen, List.take_length] at he
    simp [he]

theorem slices_Equal_string_ok (l m : List ByteArray) (p q : Perm) (hl : small l.length) : Pur slices_Equal_string [txtA l p, txtA m q] (B (decide (l = m))) := by
  intro H
  refine slices_Equal_string_of ?_
  unfold W_slices_Equal_string
  simp only [lnl_lst, pureK_some, List.length_map, bop_neq, condK_B, ret1_pure]
  refine ⟨fun h => ⟨B_eq ?_, Heap.le_refl _⟩, fun h => ?_⟩
  · have h' : ¬ (l.length : Int) = m.length := by simpa using h
    have : ¬ l = m := fun e => h' (by rw [e])
    simp [this]
  have hlen : l.length = m.length := by simp at h; omega
  refine ⟨fun vs H' n => ∃ k : Nat, vs = [txtA l p, txtA m q, I l.length, I k] ∧ H' = H ∧ n = l.length - k ∧ k ≤ l.length ∧ l.take k = m.take k, ⟨_, H, Heap.le_refl _, 0, rfl, rfl, rfl, Nat.zero_le _, rfl⟩, ?_⟩
  rintro vs H' n ⟨k, rfl, rfl, rfl, hk, he⟩
  simp only [nth_zero, nth_succ, lnl_lst, List.length_map, bop_lss, pureK_some, condK_B, decide_eq_true_eq, decide_eq_false_iff_not, ret1_pure]
  refine ⟨fun h => ?_, fun h => ⟨B_eq ?_, Heap.le_refl _⟩⟩
  · have h1 : k < l.length := by omega
    have h2 : k < m.length := by omega
    rw [ias_txt (by omega) (by omega), ias_txt (by omega) (by omega)]
    simp (disch := omega) [bop_add, Int.toNat_natCast]
    refine ⟨fun h3 => ?_, fun h3 => ⟨_, by omega, _, Heap.le_refl _, k + 1, by simp, rfl, rfl, by omega, take_step h1 h2 he ?_⟩⟩
    · have : l ≠ m := ne_of_get h1 h2 (fun e => by exact h3 e)
      simp [this]
    · exact h3
  · have hk' : k = l.length := by omega
    subst hk'
    rw [List.take_length, hlen, List.take_length] at he
    simp [he]

theorem ref03_Same_ok (l m : List Node) (p q : Perm) (hl : small l.length) : Pur ref03_Same [rowA l p, rowA m q] (B (decide (l = m))) := by
  intro H
  refine ref03_Same_of ?_
  unfold W_ref03_Same
  simp only [lnl_lst, pureK_some, List.length_map, bop_neq, condK_B, ret1_pure]
  refine ⟨fun h => ⟨B_eq ?_, Heap.le_refl _⟩, fun h => ?_⟩
  · have h' : ¬ (l.length : Int) = m.length := by simpa using h
    have : ¬ l = m := fun e => h' (by rw [e])
    simp [this]
  have hlen : l.length = m.length := by simp at h; omega
  refine ⟨fun vs H' n => ∃ k : Nat, vs = [rowA l p, rowA m q, I k] ∧ H' = H ∧ n = l.length - k ∧ k ≤ l.length ∧ l.take k = m.take k, ⟨_, H, Heap.le_refl _, 0, rfl, rfl, rfl, Nat.zero_le _, rfl⟩, ?_⟩
  rintro vs H' n ⟨k, rfl, rfl, rfl, hk, he⟩
  simp only [nth_zero, nth_succ, lnl_lst, List.length_map, bop_lss, pureK_some, condK_B, decide_eq_true_eq, decide_eq_false_iff_not, ret1_pure]
  refine ⟨fun h => ?_, fun h => ⟨B_eq ?_, Heap.le_refl _⟩⟩
  · have h1 : k < l.length := by omega
    have h2 : k < m.length := by omega
    rw [ias_row (by omega) (by omega), ias_row (by omega) (by omega)]
    simp (disch := omega) [bop_add, Int.toNat_natCast]
    refine ⟨fun h3 => ?_, fun h3 h4 h5 => ⟨_, by omega, _, Heap.le_refl _, k + 1, by simp, rfl, rfl, by omega, take_step h1 h2 he ?_⟩⟩
    · have : l ≠ m := ne_of_get h1 h2 (fun e => by rw [node_ext_iff] at e; obtain ⟨e1, e2, e3⟩ := e; simp [e1, e2, e3] at h3)
      exact this
    · rw [node_ext_iff]; exact ⟨h3, h4, h5⟩
  · have hk' : k = l.length := by omega
    subst hk'
    rw [List.take_length, hlen, List.take_length] at he
    simp [he]

theorem ref04_Texts_ok (l m : List ByteArray) (p q : Perm) (hl : small l.length) : Pur ref04_Texts [txtA l p, txtA m q] (B (decide (l = m))) := by
  intro H
  refine ref04_Texts_of ?_
  unfold W_ref04_Texts
  simp only [lnl_lst, pureK_some, List.length_map, bop_neq, condK_B, ret1_pure]
  refine ⟨fun h => ⟨B_eq ?_, Heap.le_refl _⟩, fun h => ?_⟩
  · have h' : ¬ (l.length : Int) = m.length := by simpa using h
    have : ¬ l = m := fun e => h' (by rw [e])
    simp [this]
  have hlen : l.length = m.length := by simp at h; omega
  refine ⟨fun vs H' n => ∃ k : Nat, vs = [txtA l p, txtA m q, I k] ∧ H' = H ∧ n = l.length - k ∧ k ≤ l.length ∧ l.take k = m.take k, ⟨_, H, Heap.le_refl _, 0, rfl, rfl, rfl, Nat.zero_le _, rfl⟩, ?_⟩
  rintro vs H' n ⟨k, rfl, rfl, rfl, hk, he⟩
  simp only [nth_zero, nth_succ, lnl_lst, List.length_map, bop_lss, pureK_some, condK_B, decide_eq_true_eq, decide_eq_false_iff_not, ret1_pure]
  refine ⟨fun h => ?_, fun h => ⟨B_eq ?_, Heap.le_refl _⟩⟩
  · have h1 : k < l.length := by omega
    have h2 : k < m.length := by omega
    rw [ias_txt (by omega) (by omega), ias_txt (by omega) (by omega)]
    simp (disch := omega) [bop_add, Int.toNat_natCast]
    refine ⟨fun h3 => ?_, fun h3 => ⟨_, by omega, _, Heap.le_refl _, k + 1, by simp, rfl, rfl, by omega, take_step h1 h2 he ?_⟩⟩
    · have : l ≠ m := ne_of_get h1 h2 (fun e => by exact h3 e)
      simp [this]
    · exact h3
  · have hk' : k = l.length := by omega
    subst hk'
    rw [List.take_length, hlen, List.take_length] at he
    simp [he]

theorem ref16_Same_ok (l m : List UInt8) (p q : Perm) (hl : small l.length) : Pur ref16_Same [bytA l p, bytA m q] (B (decide (l = m))) := by
  intro H
  refine ref16_Same_of ?_
  unfold W_ref16_Same
  simp only [lnl_lst, pureK_some, List.length_map, bop_neq, condK_B, ret1_pure]
  refine ⟨fun h => ⟨B_eq ?_, Heap.le_refl _⟩, fun h => ?_⟩
  · have h' : ¬ (l.length : Int) = m.length := by simpa using h
    have : ¬ l = m := fun e => h' (by rw [e])
    simp [this]
  have hlen : l.length = m.length := by simp at h; omega
  refine ⟨fun vs H' n => ∃ k : Nat, vs = [bytA l p, bytA m q, I k] ∧ H' = H ∧ n = l.length - k ∧ k ≤ l.length ∧ l.take k = m.take k, ⟨_, H, Heap.le_refl _, 0, rfl, rfl, rfl, Nat.zero_le _, rfl⟩, ?_⟩
  rintro vs H' n ⟨k, rfl, rfl, rfl, hk, he⟩
  simp only [nth_zero, nth_succ, lnl_lst, List.length_map, bop_lss, pureK_some, condK_B, decide_eq_true_eq, decide_eq_false_iff_not, ret1_pure]
  refine ⟨fun h => ?_, fun h => ⟨B_eq ?_, Heap.le_refl _⟩⟩
  · have h1 : k < l.length := by omega
    have h2 : k < m.length := by omega
    rw [ias_byt (by omega) (by omega), ias_byt (by omega) (by omega)]
    simp (disch := omega) [bop_add, Int.toNat_natCast, byteAV]
    refine ⟨fun h3 => ?_, fun h3 => ⟨_, by omega, _, Heap.le_refl _, k + 1, by simp, rfl, rfl, by omega, take_step h1 h2 he ?_⟩⟩
    · have : l ≠ m := ne_of_get h1 h2 (fun e => by exact h3 (by rw [e]))
      simp [this]
    · exact byteAV_inj.1 h3
  · have hk' : k = l.length := by omega
    subst hk'
    rw [List.take_length, hlen, List.take_length] at he
    simp [he]

theorem row_Same_ok (l m : List Node) (p q : Perm) (hl : small l.length) : Pur row_Same [rowA l p, rowA m q] (B (decide (l = m))) := by
  intro H
  refine row_Same_of ?_
  unfold W_row_Same
  refine (slices_Equal_Node_ok l m p q hl).run ?_
  simp

end Go.Av
