/- Own text C1 of this claim: see the text that holds the theorem. -/
import Derived.Test.YtddolbhaekekaaaGreatDoorAv15
import Derived.Test.YtddolbhaekekaaaGreatDoorW0
set_option linter.all false
set_option maxRecDepth 100000
namespace Go.Av
open Go Go.Proofs

theorem I_eq {a b : Int} (h : a = b) : I a = I b := by rw [h]
theorem B_eq {a b : Bool} (h : a = b) : B a = B b := by rw [h]

structure Node where
  kind : Int
  name : ByteArray
  sign : Int
  deriving DecidableEq

def nd (n : Node) : AV := .agg [I n.kind, S n.name, I n.sign]
abbrev rowA (l : List Node) (p : Perm) : AV := .lst 3 (l.map nd) p

@[simp] theorem cells_nd (n : Node) : AV.cells (nd n) = [I n.kind, S n.name, I n.sign] := rfl

/-- Of a call that turns nothing and tells v. -/
def Pur (f : FuncId) (args : List AV) (v : AV) : Prop := ∀ H, ACalls PP gΓ f args H (fun r H' => r = v ∧ H' = H)
theorem Pur.run {f : FuncId} {args : List AV} {v : AV} {H : Heap} {K : AV → Heap → Prop} (h : Pur f args v) (k : K v H) : ACalls PP gΓ f args H K := (h H).then k

theorem ias_row {l : List Node} {p : Perm} {i : Int} (h0 : 0 ≤ i) (h : i.toNat < l.length) : ias 3 (rowA l p) (I i) = some (.cp [I (l[i.toNat]).kind, S (l[i.toNat]).name, I (l[i.toNat]).sign] 0) := by
  rw [ias_lst h0 (v := nd l[i.toNat]) (by simp [h])]; rfl

def arity (k : Int) : Int :=
  if k = 1 ∨ k = 2 ∨ k = 3 ∨ k = 4 ∨ k = 11 then 0 else if k = 9 ∨ k = 14 then 1 else if k = 5 ∨ k = 6 ∨ k = 7 ∨ k = 8 ∨ k = 10 ∨ k = 12 ∨ k = 13 then 2 else -1

theorem arity_range (k : Int) : -1 ≤ arity k ∧ arity k ≤ 2 := by unfold arity; omega

theorem row_Arity_ok (k : Int) : Pur row_Arity [I k] (I (arity k)) := by
  intro H
  refine row_Arity_of ?_
  unfold W_row_Arity
  simp only [bop_eql, pureK_some, condK_B, decide_eq_true_eq, decide_eq_false_iff_not, ret1_pure]
  repeat' (first | exact Heap.le_refl _ | apply And.intro | intro)
  all_goals (refine I_eq ?_; unfold arity; omega)

theorem ref03_Arity_ok (k : Int) : Pur ref03_Arity [I k] (I (arity k)) := by
  intro H
  refine ref03_Arity_of ?_
  unfold W_ref03_Arity
  simp only [bop_eql, pureK_some, condK_B, decide_eq_true_eq, decide_eq_false_iff_not, ret1_pure]
  repeat' (first | exact Heap.le_refl _ | apply And.intro | intro)
  all_goals (refine I_eq ?_; unfold arity; omega)

def sizeGo : List Node → Int → Int → Int
  | [], _, _ => 0
  | n :: l, o, k => if arity n.kind < 0 then 0 else if o + (arity n.kind - 1) = 0 then k + 1 else sizeGo l (o + (arity n.kind - 1)) (k + 1)
def size (l : List Node) : Int := sizeGo l 1 0

abbrev small (n : Nat) : Prop := n ≤ 1000000000000

theorem row_Size_ok (l : List Node) (p : Perm) (hl : small l.length) : Pur row_Size [rowA l p] (I (size l)) := by
  intro H
  refine row_Size_of ?_
  unfold W_row_Size
  simp only [lnl_lst, pureK_some, List.length_map]
  refine ⟨fun vs H' n => ∃ (o : Int) (k : Nat), vs = [I o, rowA l p, I l.length, I k] ∧ H' = H ∧ n = l.length - k ∧ k ≤ l.length ∧ 1 ≤ o ∧ o ≤ k + 1 ∧ sizeGo (l.drop k) o k = size l, ⟨_, H, Heap.le_refl _, 1, 0, rfl, rfl, rfl, Nat.zero_le _, by omega, by omega, rfl⟩, ?_⟩
  rintro vs H' n ⟨o, k, rfl, rfl, rfl, hk, ho1, ho2, hs⟩
  simp only [nth_zero, nth_succ, bop_lss, pureK_some, condK_B, decide_eq_true_eq, decide_eq_false_iff_not]
  refine ⟨fun h => ?_, fun h => ?_⟩
  · have hk' : k < l.length := by omega
    rw [ias_row (by omega) (by omega)]
    simp only [pureK_some, ld_cp, cutE_agg, List.length_cons, List.length_nil, Nat.zero_add, Nat.le_refl, if_true, List.drop_zero, List.take_succ_cons, List.take_zero, Int.toNat_natCast]
    intro o1 ho1
    simp [splice]
    refine (row_Arity_ok _).run ?_
    have hr := arity_range l[k].kind
    rw [List.drop_eq_getElem_cons hk', sizeGo] at hs
    generalize arity l[k].kind = m at *
    simp (disch := omega) [bop_sub, bop_add, ho1]
    refine ⟨fun h1 => ?_, fun h1 => ⟨fun h2 => ?_, fun h2 => ?_⟩⟩
    · rw [if_pos h1] at hs; exact hs
    · rw [if_neg (by omega), if_pos h2] at hs; rw [← hs]
    · rw [if_neg (by omega), if_neg h2] at hs
      exact ⟨_, by omega, H', by simp [ho1], _, k + 1, ⟨rfl, rfl⟩, rfl, rfl, by omega, by omega, by omega, hs⟩
  · rw [List.drop_eq_nil_of_le (by omega)] at hs
    simp [← hs, sizeGo]
end Go.Av
