/- Own text C11 of this claim: see the text that holds the theorem. -/
import Derived.Test.YtddolbhaekekaaaGreatDoorC10
set_option linter.all false
set_option maxRecDepth 100000
namespace Go.Av
open Go Go.Proofs

def right (n : Node) : Bool :=
  if n.kind = 1 then decide (n.sign = 0) && named n.name
  else if n.kind = 11 ∨ n.kind = 14 then decide (n.name = emp) && (decide (1 ≤ n.sign) && decide (n.sign ≤ 3))
  else (decide (n.name = emp) && decide (n.sign = 0)) && decide (0 ≤ arity n.kind)

theorem row_Right_ok (n : Node) (hn : n.name.size ≤ 4611686018427387904) : Pur row_Right [nd n] (B (right n)) := by
  intro H
  refine row_Right_of ?_
  unfold W_row_Right
  refine allocK_nd fun o1 ho1 => ?_
  simp only [fa_ptr, ld_upd, cutE_one, Nat.zero_add, get0, pureK_some]
  rw [bld_0]
  simp only [pureK_some]
  intro o2 ho2
  simp at ho2
  obtain ⟨hne, ho2'⟩ := ho2
  have hne' : o1 ≠ o2 := fun e => hne e.symm
  have hst : ∀ (m : Node) (cs : List AV), cs.length = 3 → st 3 ((H.upd o1 (.cells [I n.kind, S n.name, I n.sign])).upd o2 (.cells cs)) (.ptr o2 0) (nd m) = some ((H.upd o1 (.cells [I n.kind, S n.name, I n.sign])).upd o2 (.cells [I m.kind, S m.name, I m.sign])) := by
    intro m cs hc
    match cs, hc with
    | [a, b, c], _ => simp [nd, splice]
  rw [hst _ _ rfl]
  simp only [heapK_some, fa_ptr, ld_upd_ne hne', ld_upd, cutE_one, Nat.zero_add, get0, pureK_some, bop_eql, condK_B, decide_eq_true_eq, decide_eq_false_iff_not]
  refine ⟨fun h1 => ?_, fun h1 => ⟨fun h2 => ?_, fun h2 => ⟨fun h3 => ?_, fun h3 => ?_⟩⟩⟩
  · simp [splice, ld_upd_ne hne', h1]
    refine ⟨fun h4 => ?_, fun h4 => ?_⟩
    · refine (row_named_ok n.name hn).run ?_
      simp [right, h1, h4, ho1, ho2']
    · simp [right, h1, h4, ho1, ho2']
  · simp [splice, ld_upd_ne hne', h2, ho1, ho2']
    by_cases h4 : n.name = emp <;> by_cases h5 : 1 ≤ n.sign <;> simp [right, h1, h2, h4, h5] <;> try (intro h6; omega)
  · simp [splice, ld_upd_ne hne', h3, ho1, ho2']
    by_cases h4 : n.name = emp <;> by_cases h5 : 1 ≤ n.sign <;> simp [right, h1, h3, h4, h5] <;> try (intro h6; omega)
  · simp [splice, ld_upd_ne hne', ho1, ho2']
    refine ⟨fun h4 h5 => ?_, fun h4 => ?_⟩
    · refine (row_Arity_ok _).run ?_
      simp [right, h1, h2, h3, h4, h5, ho1, ho2']
    · by_cases h5 : n.name = emp
      · simp [right, h1, h2, h3, h5, h4 h5]
      · simp [right, h1, h2, h3, h5]

theorem row_Whole_1_ok (n : Node) (hn : n.name.size ≤ 4611686018427387904) : Pur row_Whole_1 [nd n] (B (!right n)) := by
  intro H
  refine row_Whole_1_of ?_
  unfold W_row_Whole_1
  refine allocK_nd fun o1 ho1 => ?_
  rw [ld_nd]
  simp only [pureK_some]
  refine (row_Right_ok n hn).run ?_
  simp [ho1]

theorem callK_pur {E : Env} (hP : E.P = PP) (hG : E.Γ = gΓ) {f : FuncId} {args cap : List AV} {v : AV} {H : Heap} {K : AV → Heap → Prop} (he : enters PP f = true) (h : Pur f (args ++ cap) v) (k : K v H) : callK E (.fn (.func f) [] cap) args H K := by
  unfold callK
  simp only [List.nil_append]
  rw [hP, hG, he]
  exact h.run k
set_option maxRecDepth 100000 in
theorem slices_IndexFunc_Node_ok (l : List Node) (p : Perm) (f : FuncId) (cap : List AV) (g : Node → Bool) (hl : small l.length) (he : enters PP f = true) (hf : ∀ x, x ∈ l → Pur f (nd x :: cap) (B (g x))) :
    PurR slices_IndexFunc_Node [rowA l p, .fn (.func f) [] cap] (fun r => ∃ k : Int, r = I k ∧ (0 ≤ k ↔ l.any g = true)) := by
  intro H
  refine slices_IndexFunc_Node_of ?_
  unfold W_slices_IndexFunc_Node
  simp only [lnl_lst, pureK_some, List.length_map]
  refine ⟨fun vs H' n => ∃ k : Nat, vs = [rowA l p, .fn (.func f) [] cap, I l.length, I k] ∧ H' = H ∧ n = l.length - k ∧ k ≤ l.length ∧ (l.take k).any g = false, ⟨_, H, Heap.le_refl _, 0, rfl, rfl, rfl, Nat.zero_le _, rfl⟩, ?_⟩
  rintro vs H' n ⟨k, rfl, rfl, rfl, hk, hn⟩
  simp only [nth_zero, nth_succ, bop_lss, pureK_some, condK_B, decide_eq_true_eq, decide_eq_false_iff_not]
  refine ⟨fun h => ?_, fun h => ?_⟩
  · have hk' : k < l.length := by omega
    rw [ias_row (by omega) (by omega)]
    simp only [pureK_some, ld_cp, cut_nd, get0, Int.toNat_natCast]
    refine callK_pur (E := E_slices_IndexFunc_Node) rfl rfl he (hf _ (List.getElem_mem hk')) ?_
    simp only [condK_B]
    refine ⟨fun h1 => ret1_of H' (Heap.le_refl _) ⟨⟨k, rfl, fun _ => List.any_eq_true.2 ⟨_, List.getElem_mem hk', h1⟩, fun _ => by omega⟩, rfl⟩, fun h1 => ?_⟩
    rw [bop_add (by omega) (by omega)]
    simp only [pureK_some]
    refine ⟨l.length - (k + 1), _, by omega, Heap.le_refl _, k + 1, rfl, rfl, rfl, by omega, ?_⟩
    rw [List.take_succ_eq_append_getElem hk', List.any_append, hn]
    simp only [List.any_cons, List.any_nil, h1, Bool.or_self]
  · have hk' : k = l.length := by omega
    subst hk'
    rw [List.take_length] at hn
    exact ret1_of H' (Heap.le_refl _) ⟨⟨-1, rfl, by rw [hn]; constructor <;> (intro h; first | omega | cases h)⟩, rfl⟩

theorem slices_ContainsFunc_Node_ok (l : List Node) (p : Perm) (f : FuncId) (cap : List AV) (g : Node → Bool) (hl : small l.length) (he : enters PP f = true) (hf : ∀ x, x ∈ l → Pur f (nd x :: cap) (B (g x))) :
    Pur slices_ContainsFunc_Node [rowA l p, .fn (.func f) [] cap] (B (l.any g)) := by
  intro H
  refine slices_ContainsFunc_Node_of ?_
  unfold W_slices_ContainsFunc_Node
  refine (slices_IndexFunc_Node_ok l p f cap g hl he hf).run ?_
  rintro v ⟨k, rfl, hk⟩
  simp only [bop_geq, pureK_some, ret1_pure]
  exact ⟨B_eq (by rw [Bool.eq_iff_iff, decide_eq_true_eq]; exact hk), Heap.le_refl _⟩

set_option maxRecDepth 100000 in
theorem slices_IndexFunc_string_ok (l : List ByteArray) (p : Perm) (f : FuncId) (cap : List AV) (g : ByteArray → Bool) (hl : small l.length) (he : enters PP f = true) (hf : ∀ x, x ∈ l → Pur f ((S x) :: cap) (B (g x))) :
    PurR slices_IndexFunc_string [txtA l p, .fn (.func f) [] cap] (fun r => ∃ k : Int, r = I k ∧ (0 ≤ k ↔ l.any g = true)) := by
  intro H
  refine slices_IndexFunc_string_of ?_
  unfold W_slices_IndexFunc_string
  simp only [lnl_lst, pureK_some, List.length_map]
  refine ⟨fun vs H' n => ∃ k : Nat, vs = [txtA l p, .fn (.func f) [] cap, I l.length, I k] ∧ H' = H ∧ n = l.length - k ∧ k ≤ l.length ∧ (l.take k).any g = false, ⟨_, H, Heap.le_refl _, 0, rfl, rfl, rfl, Nat.zero_le _, rfl⟩, ?_⟩
  rintro vs H' n ⟨k, rfl, rfl, rfl, hk, hn⟩
  simp only [nth_zero, nth_succ, bop_lss, pureK_some, condK_B, decide_eq_true_eq, decide_eq_false_iff_not]
  refine ⟨fun h => ?_, fun h => ?_⟩
  · have hk' : k < l.length := by omega
    rw [ias_txt (by omega) (by omega)]
    simp only [pureK_some, ld_cp, cutE_one, get0, Int.toNat_natCast]
    refine callK_pur (E := E_slices_IndexFunc_string) rfl rfl he (hf _ (List.getElem_mem hk')) ?_
    simp only [condK_B]
    refine ⟨fun h1 => ret1_of H' (Heap.le_refl _) ⟨⟨k, rfl, fun _ => List.any_eq_true.2 ⟨_, List.getElem_mem hk', h1⟩, fun _ => by omega⟩, rfl⟩, fun h1 => ?_⟩
    rw [bop_add (by omega) (by omega)]
    simp only [pureK_some]
    refine ⟨l.length - (k + 1), _, by omega, Heap.le_refl _, k + 1, rfl, rfl, rfl, by omega, ?_⟩
    rw [List.take_succ_eq_append_getElem hk', List.any_append, hn]
    simp only [List.any_cons, List.any_nil, h1, Bool.or_self]
  · have hk' : k = l.length := by omega
    subst hk'
    rw [List.take_length] at hn
    exact ret1_of H' (Heap.le_refl _) ⟨⟨-1, rfl, by rw [hn]; constructor <;> (intro h; first | omega | cases h)⟩, rfl⟩

theorem slices_ContainsFunc_string_ok (l : List ByteArray) (p : Perm) (f : FuncId) (cap : List AV) (g : ByteArray → Bool) (hl : small l.length) (he : enters PP f = true) (hf : ∀ x, x ∈ l → Pur f ((S x) :: cap) (B (g x))) :
    Pur slices_ContainsFunc_string [txtA l p, .fn (.func f) [] cap] (B (l.any g)) := by
  intro H
  refine slices_ContainsFunc_string_of ?_
  unfold W_slices_ContainsFunc_string
  refine (slices_IndexFunc_string_ok l p f cap g hl he hf).run ?_
  rintro v ⟨k, rfl, hk⟩
  simp only [bop_geq, pureK_some, ret1_pure]
  exact ⟨B_eq (by rw [Bool.eq_iff_iff, decide_eq_true_eq]; exact hk), Heap.le_refl _⟩

def rightAll (l : List Node) : Bool := l.all right
def whole (l : List Node) : Bool := decide (0 < l.length ∧ l.length ≤ 200) && (l.all right && decide (size l = l.length))

/-- Rows whose names are no longer than any machine's. -/
def names (l : List Node) : Prop := ∀ n, n ∈ l → n.name.size ≤ 4611686018427387904

theorem enters_W1 : enters PP row_Whole_1 = true := by kernel_rfl

theorem row_Whole_ok (l : List Node) (p : Perm) (hl : small l.length) (hn : names l) : Pur row_Whole [rowA l p] (B (whole l)) := by
  intro H
  refine row_Whole_of ?_
  unfold W_row_Whole
  simp only [lnl_lst, List.length_map, pureK_some, bop_gtr, bop_leq, condK_B, decide_eq_true_eq, decide_eq_false_iff_not, ret1_pure]
  refine ⟨fun h1 => ⟨fun h2 => ?_, fun h2 => ⟨B_eq ?_, Heap.le_refl _⟩⟩, fun h1 => ⟨B_eq ?_, Heap.le_refl _⟩⟩
  · refine (slices_ContainsFunc_Node_ok l p row_Whole_1 [] (fun n => !right n) hl enters_W1 (fun x hx => row_Whole_1_ok x (hn x hx))).run ?_
    have e : (!(l.any fun n => !right n)) = l.all right := by rw [List.not_any_eq_all_not]; simp
    simp only [unE_not, pureK_some, e, condK_B]
    have h3 : 0 < l.length ∧ l.length ≤ 200 := by omega
    refine ⟨fun h4 => ?_, fun h4 => ?_⟩
    · refine (row_Size_ok l p hl).run ?_
      simp only [bop_eql, pureK_some, ret1_pure]
      exact ⟨B_eq (by simp [whole, h3, h4]), Heap.le_refl _⟩
    · exact ⟨B_eq (by simp [whole, h4]), Heap.le_refl _⟩
  · have : ¬ (0 < l.length ∧ l.length ≤ 200) := by omega
    simp only [whole, decide_eq_false this, Bool.false_and]
  · have : ¬ (0 < l.length ∧ l.length ≤ 200) := by omega
    simp only [whole, decide_eq_false this, Bool.false_and]

end Go.Av
