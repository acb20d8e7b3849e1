/- Own text C7 of this claim: see the text that holds the theorem. -/
import Derived.Test.YtddolbhaekekaaaGreatDoorC6
set_option linter.all false
set_option maxRecDepth 100000
namespace Go.Av
open Go Go.Proofs

theorem make2 (n : Node) (a b : List Node) (p q : Perm) (h : a.length + b.length ≤ 900000) {H H0 : Heap} (hH : H0 ≤ H) {v : AV} (hv : rowA (n :: (a ++ b)) .no = v) :
    ACalls PP gΓ row_Make [nd n, rowsP [(a, p), (b, q)] .exact] H fun x H2 => ret1 H2 (fun r H' => r = v ∧ H' = H0) x := by
  refine (row_Make_ok n [(a, p), (b, q)] .exact (by simp) (by simp [sumLen]; omega)).run ?_
  refine ret1_of H0 hH ⟨?_, rfl⟩
  rw [← hv]; simp

theorem bsl2 (a b : List Node) (p q : Perm) : bsl 1 (.lst 0 [] .exact) 2 [(0, rowA a p), (1, rowA b q)] = some (rowsP [(a, p), (b, q)] .exact) := rfl
theorem bsl1 (a : List Node) (p : Perm) : bsl 1 (.lst 0 [] .exact) 1 [(0, rowA a p)] = some (rowsP [(a, p)] .exact) := rfl

theorem allocK_nd {n : Node} {H : Heap} {K : AV → Heap → Prop} (h : ∀ o, H o = none → K (.ptr o 0) (H.upd o (.cells [I n.kind, S n.name, I n.sign]))) : allocK (some (AV.cells (nd n))) H K := by
  simp [nd]; exact h

theorem ld_nd {H : Heap} {o : Nat} {n : Node} : ld (some true) 3 (H.upd o (.cells [I n.kind, S n.name, I n.sign])) (.ptr o 0) = some (nd n) := by
  simp [nd]

theorem settle_par_ok (n : Node) (a b : Tr) (p q : Perm) (ha : a.ok) (hb : b.ok) (hl : a.flat.length + b.flat.length ≤ 900000) : Pur settle_par [nd n, rowA a.flat p, rowA b.flat q] (rowA (parT n a b).flat .no) := by
  intro H
  refine settle_par_of ?_
  unfold W_settle_par
  refine allocK_nd fun o ho => ?_
  rw [ias_root, ias_root]
  simp only [pureK_some, fa_cp, ld_cp, cutE_one, Nat.zero_add, get0, get2]
  refine (sign_Both_ok _ _).run ?_
  simp only [bop_eql, pureK_some, condK_B, decide_eq_true_eq, decide_eq_false_iff_not]
  have hle : H ≤ H.upd o (.cells [I n.kind, S n.name, I n.sign]) := by simp [ho]
  have two : ∀ (h1 : ¬ (a.root.kind = 11 ∧ b.root.kind = 11)) (h2 : ¬ (a.root.kind = 14 ∧ b.root.kind = 14)), pureK (ld (some true) 3 (H.upd o (.cells [I n.kind, S n.name, I n.sign])) (.ptr o 0)) fun x => pureK (bsl 1 (.lst 0 [] .exact) 2 [(0, rowA a.flat p), (1, rowA b.flat q)]) fun y =>
      ACalls PP gΓ row_Make [x, y] (H.upd o (.cells [I n.kind, S n.name, I n.sign])) fun z H2 => ret1 H2 (fun r H' => r = rowA (parT n a b).flat .no ∧ H' = H) z := by
    intro h1 h2
    rw [ld_nd, bsl2]
    exact make2 n a.flat b.flat p q hl hle (by simp only [parT, if_neg h1, if_neg h2, Tr.flat])
  have both : ∀ (h1 : a.root.kind = 14) (h2 : b.root.kind = 14), pureK (ld (some true) 3 (H.upd o (.cells [I n.kind, S n.name, I n.sign])) (.ptr o 0)) fun x => pureK (sll 3 (rowA a.flat p) (some (I 1)) none none) fun y => pureK (sll 3 (rowA b.flat q) (some (I 1)) none none) fun z =>
      pureK (bsl 1 (.lst 0 [] .exact) 2 [(0, y), (1, z)]) fun u => ∃ v, AReads PP gΓ row_Make [x, u] (H.upd o (.cells [I n.kind, S n.name, I n.sign])) v ∧
      ACalls PP gΓ settle_end [I (sBothSign a.root.sign b.root.sign), v] (H.upd o (.cells [I n.kind, S n.name, I n.sign])) fun z H2 => ret1 H2 (fun r H' => r = rowA (parT n a b).flat .no ∧ H' = H) z := by
    intro h1 h2
    obtain ⟨fa1, _, _⟩ := a.end_flat ha h1
    obtain ⟨fb1, _, _⟩ := b.end_flat hb h2
    have la := congrArg List.length fa1
    have lb := congrArg List.length fb1
    simp only [List.length_cons] at la lb
    obtain ⟨q1, e1⟩ := sll_tail (x := a.root) (r := a.sub.flat) (p := p)
    obtain ⟨q2, e2⟩ := sll_tail (x := b.root) (r := b.sub.flat) (p := q)
    rw [ld_nd, fa1, fb1, e1, e2]
    simp only [pureK_some]
    rw [bsl2]
    simp only [pureK_some]
    refine ⟨_, (row_Make_ok n [(a.sub.flat, q1), (b.sub.flat, q2)] .exact (by simp) (by simp [sumLen]; omega)).reads, ?_⟩
    refine (settle_end_ok _ _ .no (by simp; omega)).run (ret1_of H hle ⟨?_, rfl⟩)
    have h3 : ¬ (a.root.kind = 11 ∧ b.root.kind = 11) := by omega
    simp only [parT, if_neg h3, if_pos (And.intro h1 h2), endT, Tr.flat]
    simp
  refine ⟨fun h1 => ⟨fun h2 => ?_, fun h2 => ⟨fun h3 => ⟨fun h4 => both h3 h4, fun h4 => two (by omega) (by omega)⟩, fun h3 => two (by omega) (by omega)⟩⟩, fun h1 => ⟨fun h3 => ⟨fun h4 => both h3 h4, fun h4 => two (by omega) (by omega)⟩, fun h3 => two (by omega) (by omega)⟩⟩
  refine (settle_over_ok _).run (ret1_of H hle ⟨?_, rfl⟩)
  simp [parT, h1, h2, overT, Tr.flat]

def blockT (rec : Tr → Tr) (n : Node) (a : Tr) : Tr :=
  if a.root = ⟨14, emp, 1⟩ then overT 1 else if a.root = ⟨14, emp, 2⟩ then rec a.sub else .l1 n a
def behindT (rec : Tr → Tr) (n : Node) (a b : Tr) (begins : Int) : Tr :=
  if a.root = ⟨11, emp, begins⟩ then rec b else if a.root.kind = 11 then a else .l2 n a b

theorem bop_nd (x y : Node) : bop (.flat [.int, .str, .int]) .eql (nd x) (nd y) = some (B (decide (x = y))) := by
  unfold nd
  rw [bop_flat_eql, cellsEq_node, cmpE_eql]
  congr 2
  have := node_ext_iff x y
  by_cases h1 : x.kind = y.kind <;> by_cases h2 : x.name = y.name <;> by_cases h3 : x.sign = y.sign <;> simp [this, h1, h2, h3]

theorem bld_02 (k s : Int) : bld [(0, 1), (1, 1), (2, 1)] [I 0, S emp, I 0] [(0, I k), (2, I s)] = some (nd ⟨k, emp, s⟩) := rfl
theorem bld_0 (k : Int) : bld [(0, 1), (1, 1), (2, 1)] [I 0, S emp, I 0] [(0, I k)] = some (nd ⟨k, emp, 0⟩) := rfl
theorem bld_01 (k : Int) (s : ByteArray) : bld [(0, 1), (1, 1), (2, 1)] [I 0, S emp, I 0] [(0, I k), (1, S s)] = some (nd ⟨k, s, 0⟩) := rfl
theorem cut_nd (n : Node) : cutE [I n.kind, S n.name, I n.sign] 0 (some true) 3 = some (nd n) := rfl

theorem settle_behind_ok (rec : Tr → Tr) (n : Node) (a b : Tr) (s : Int) (p q : Perm) (hrec : Pur settle_settle [rowA b.flat q] (rowA (rec b).flat .no)) (hl : a.flat.length + b.flat.length ≤ 900000) :
    Pur settle_behind [nd n, rowA a.flat p, rowA b.flat q, I s] (rowA (behindT rec n a b s).flat .no) := by
  refine Pur.weaken (φ := fun r => ∃ p, r = rowA (behindT rec n a b s).flat p) (fun H => ?_) (fun r h => by obtain ⟨p, rfl⟩ := h; exact Weaker.lst)
  refine settle_behind_of ?_
  unfold W_settle_behind
  refine allocK_nd fun o ho => ?_
  have hle : H ≤ H.upd o (.cells [I n.kind, S n.name, I n.sign]) := by simp [ho]
  rw [ias_root]
  simp only [pureK_some, fa_cp, ld_cp, cut_nd, cutE_one, Nat.zero_add, get0, bld_02, bop_nd, condK_B, decide_eq_true_eq, decide_eq_false_iff_not, bop_eql]
  refine ⟨fun h => ?_, fun h => ⟨fun h2 => ?_, fun h2 => ?_⟩⟩
  · exact hrec.run (ret1_of H hle ⟨⟨.no, by simp only [behindT, if_pos h]⟩, rfl⟩)
  · exact ret1_of H hle ⟨⟨p, by simp only [behindT, if_neg h, if_pos h2]⟩, rfl⟩
  · rw [ld_nd, bsl2]
    simp only [pureK_some]
    refine (row_Make_ok n [(a.flat, p), (b.flat, q)] .exact (by simp) (by simp [sumLen]; omega)).run (ret1_of H hle ⟨⟨.no, ?_⟩, rfl⟩)
    simp only [behindT, if_neg h, if_neg h2, Tr.flat]; simp

theorem settle_block_ok (rec : Tr → Tr) (n : Node) (a : Tr) (p : Perm) (ha : a.ok) (hrec : ∀ q, a.root.kind = 14 → Pur settle_settle [rowA a.sub.flat q] (rowA (rec a.sub).flat .no)) (hl : a.flat.length ≤ 900000) :
    Pur settle_block [nd n, rowA a.flat p] (rowA (blockT rec n a).flat .no) := by
  intro H
  refine settle_block_of ?_
  unfold W_settle_block
  refine allocK_nd fun o ho => ?_
  have hle : H ≤ H.upd o (.cells [I n.kind, S n.name, I n.sign]) := by simp [ho]
  rw [ias_root]
  simp only [pureK_some, fa_cp, ld_cp, cut_nd, cutE_one, Nat.zero_add, get0, bld_02, bop_nd, condK_B, decide_eq_true_eq, decide_eq_false_iff_not, bop_eql]
  refine ⟨fun h => ?_, fun h => ⟨fun h2 => ?_, fun h2 => ?_⟩⟩
  · exact (settle_over_ok 1).run (ret1_of H hle ⟨by simp only [blockT, if_pos h]; rfl, rfl⟩)
  · have hk : a.root.kind = 14 := by rw [h2]
    obtain ⟨fa1, _, _⟩ := a.end_flat ha hk
    obtain ⟨q1, e1⟩ := sll_tail (x := a.root) (r := a.sub.flat) (p := p)
    rw [fa1, e1]
    simp only [pureK_some]
    exact (hrec q1 hk).run (ret1_of H hle ⟨by simp only [blockT, if_neg h, if_pos h2], rfl⟩)
  · rw [ld_nd, bsl1]
    simp only [pureK_some]
    refine (row_Make_ok n [(a.flat, p)] .exact (by simp) (by simp [sumLen]; omega)).run (ret1_of H hle ⟨?_, rfl⟩)
    simp only [blockT, if_neg h, if_neg h2, Tr.flat]; simp

end Go.Av
