/- Own text C23 of this claim: see the text that holds the theorem. -/
import Derived.Test.YtddolbhaekekaaaGreatDoorC22
set_option linter.all false
set_option maxRecDepth 100000
namespace Go.Av
open Go Go.Proofs

theorem settleT_l0 (n : Node) : settleT (.l0 n) = if n.kind = 2 then overT 1 else if n.kind = 3 then overT 2 else .l0 n := rfl
theorem blockT_congr {r r' : Tr → Tr} {n : Node} {a : Tr} (h : a.root.kind = 14 → r a.sub = r' a.sub) : blockT r n a = blockT r' n a := by
  unfold blockT
  split
  · rfl
  · split
    · rename_i e; exact h (by rw [e])
    · rfl
theorem settleT_l1 (n : Node) (a : Tr) (ha : a.ok) : settleT (.l1 n a) = if n.kind = 9 then blockT settleT n (settleT a) else .l1 n a := by
  have h1 := settleT_ok ha
  show settleF (Tr.l1 n a).len (.l1 n a) = _
  rw [len_l1, Nat.add_comm]
  simp only [settleF]
  rw [settleF_eq ha (Nat.le_refl _)]
  split
  · refine blockT_congr fun h => ?_
    obtain ⟨g1, g2⟩ := sub_of_end h1.1 h
    exact settleF_eq g1 (by omega)
  · rfl
theorem settleT_l2 (n : Node) (a b : Tr) (ha : a.ok) (hb : b.ok) : settleT (.l2 n a b) =
    if n.kind = 8 then behindT settleT n (settleT a) b 2
    else if n.kind = 5 then
      (if (settleT a).root.kind ≠ 14 then behindT settleT n (settleT a) b 1
       else if (settleT a).root.sign ≠ 1 then settleT a
       else stackT (settleT b) (settleT a).sub)
    else if n.kind = 13 then stackT (settleT a) b
    else if n.kind = 12 then
      (if ended (settleT a) then endT (settleT a).root.sign (if (settleT a).root.sign ≠ 1 then .l0 ⟨2, emp, 0⟩ else b)
       else .l2 n (settleT a) b)
    else if n.kind = 7 then parT n (settleT a) (settleT b)
    else .l2 n a b := by
  show settleF (Tr.l2 n a b).len (.l2 n a b) = _
  rw [len_l2, show 1 + a.len + b.len = (a.len + b.len) + 1 by omega]
  simp only [settleF]
  have ea : settleF (a.len + b.len) a = settleT a := settleF_eq ha (by omega)
  have eb : settleF (a.len + b.len) b = settleT b := settleF_eq hb (by omega)
  rw [ea, eb, behindT_congr (r' := settleT) eb, behindT_congr (r' := settleT) eb]

theorem amakes_pur {f : FuncId} {args : List AV} {v : AV} {H : Heap} {fp : Option Nat} (h : Pur f args v) : AMakes PP gΓ f args H fp (fun rf ob => rf = (fun _ => v) ∧ ob = none) := by
  intro H' _ _
  refine (h H').mono ?_
  rintro r H1 ⟨rfl, rfl⟩
  exact ⟨_, _, ⟨rfl, rfl⟩, rfl, rfl⟩

theorem madeK_none (fp : Option Nat) (H : Heap) (rf : Nat → AV) (K : AV → Heap → Prop) : madeK fp H rf none K = K (rf 0) H := rfl
theorem madeK_new (H : Heap) (rf : Nat → AV) (cs : List AV) (K : AV → Heap → Prop) : madeK none H rf (some cs) K = ∀ p, H p = none → K (rf p) (H.upd p (.cells cs)) := rfl
theorem madeK_old (o : Nat) (H : Heap) (rf : Nat → AV) (cs : List AV) (K : AV → Heap → Prop) : madeK (some o) H rf (some cs) K = K (rf o) (H.upd o (.cells cs)) := rfl

theorem kids0 (a b : Tr) : ias 1 (rowsA ([a, b].map Tr.flat) .no) (I 0) = some (.cp [rowA a.flat .no] 0) := rfl
theorem kids1 (a b : Tr) : ias 1 (rowsA ([a, b].map Tr.flat) .no) (I 1) = some (.cp [rowA b.flat .no] 0) := rfl
theorem kid0 (a : Tr) : ias 1 (rowsA ([a].map Tr.flat) .no) (I 0) = some (.cp [rowA a.flat .no] 0) := rfl

theorem st_nd3 {H : Heap} {o : Nat} {n : Node} {a b c : AV} : st 3 (H.upd o (.cells [a, b, c])) (.ptr o 0) (nd n) = some (H.upd o (.cells [I n.kind, S n.name, I n.sign])) := by simp [nd, splice]

theorem ended_eq {x : Tr} : (if x.flat.tail = [] ∧ x.root.kind = 11 then AV.tup [I x.root.sign, B true] else .tup [I 0, B false]) = if ended x then AV.tup [I x.root.sign, B true] else .tup [I 0, B false] := by
  unfold ended
  by_cases h : x.flat.tail = [] ∧ x.root.kind = 11 <;> simp [h]

theorem settle_step (t : Tr) (ht : t.ok) (hl : t.flat.length ≤ 1000) (ih : ∀ x : Tr, x.ok → x.len < t.len → ∀ q, Pur settle_settle [rowA x.flat q] (rowA (settleT x).flat .no)) (p : Perm) (h12 : t.root.kind ≠ 12) :
    Pur settle_settle [rowA t.flat p] (rowA (settleT t).flat .no) := by
  refine Pur.weaken (φ := fun r => ∃ q, r = rowA (settleT t).flat q) (fun H => ?_) (fun r h => by obtain ⟨q, rfl⟩ := h; exact Weaker.lst)
  refine settle_settle_of ?_
  unfold W_settle_settle
  refine ⟨none, (fun p h => by cases h), ?_⟩
  rw [ias_root]
  simp only [pureK_some, ld_cp, cut_nd]
  refine ⟨_, .dead, amakes_pur (row_Kids_ok t p ht (by omega)), .inl rfl, ?_⟩
  rintro rf ob ⟨rfl, rfl⟩
  rw [madeK_none]
  intro o ho
  rw [st_nd3]
  simp only [heapK_some]
  have hle : H ≤ H.upd o (.cells [I t.root.kind, S t.root.name, I t.root.sign]) := by simp [ho]
  have hn := ld_nd (H := H) (o := o) (n := t.root)
  have hk : ld (some false) 1 (H.upd o (.cells [I t.root.kind, S t.root.name, I t.root.sign])) (.ptr o 0) = some (I t.root.kind) := by simp
  generalize H.upd o (.cells [I t.root.kind, S t.root.name, I t.root.sign]) = HB at hle hn hk ⊢
  simp only [fa_ptr, pureK_some, Nat.zero_add, hk, bop_eql, condK_B, decide_eq_true_eq, decide_eq_false_iff_not]
  cases t with
  | l0 n =>
    have ha : arity n.kind = 0 := ht
    have hk : n.kind = 1 ∨ n.kind = 2 ∨ n.kind = 3 ∨ n.kind = 4 ∨ n.kind = 11 := by unfold arity at ha; omega
    rw [settleT_l0]
    simp only [Tr.root]
    rcases hk with h | h | h | h | h <;> simp only [h] <;> simp
    · exact ret1_of H hle ⟨⟨p, rfl⟩, rfl⟩
    · exact (settle_over_ok 1).run (ret1_of H hle ⟨⟨.no, rfl⟩, rfl⟩)
    · exact (settle_over_ok 2).run (ret1_of H hle ⟨⟨.no, rfl⟩, rfl⟩)
    · exact ret1_of H hle ⟨⟨p, rfl⟩, rfl⟩
    · exact ret1_of H hle ⟨⟨p, rfl⟩, rfl⟩
  | l1 n a =>
    have ha : arity n.kind = 1 := ht.1
    have hk : n.kind = 9 ∨ n.kind = 14 := by unfold arity at ha; omega
    have hlt := len_l1 n a
    have iha := ih a ht.2 (by omega)
    obtain ⟨s1, s2⟩ := settleT_ok ht.2
    have hlen : (Tr.l1 n a).len ≤ 1000 := hl
    rw [settleT_l1 n a ht.2]
    simp only [Tr.root] at hn ⊢
    rcases hk with h | h
    · simp only [h]
      simp
      rw [hn]
      simp only [pureK_some]
      refine ⟨_, (iha .no).reads, ?_⟩
      refine (settle_block_ok settleT n (settleT a) .no s1 (fun q hq => ?_) (by unfold Tr.len at *; omega)).run (ret1_of H hle ⟨⟨.no, rfl⟩, rfl⟩)
      obtain ⟨g1, g2⟩ := sub_of_end s1 hq
      exact ih _ g1 (by omega) q
    · simp only [h]
      simp
      exact ret1_of H hle ⟨⟨p, rfl⟩, rfl⟩
  | l2 n a b =>
    have ha : arity n.kind = 2 := ht.1
    have hk : n.kind = 5 ∨ n.kind = 6 ∨ n.kind = 7 ∨ n.kind = 8 ∨ n.kind = 10 ∨ n.kind = 13 := by
      have : n.kind ≠ 12 := h12
      unfold arity at ha; omega
    obtain ⟨_, oka, okb⟩ := ht
    have hlt := len_l2 n a b
    have pa := len_pos a
    have pb := len_pos b
    have iha := ih a oka (by omega)
    have ihb := ih b okb (by omega)
    obtain ⟨s1, s2⟩ := settleT_ok oka
    obtain ⟨t1, t2⟩ := settleT_ok okb
    have hlen : (Tr.l2 n a b).len ≤ 1000 := hl
    have hl1 : (settleT a).flat.length + b.flat.length ≤ 900000 := by unfold Tr.len at *; omega
    have hl2 : (settleT a).flat.length + (settleT b).flat.length ≤ 900000 := by unfold Tr.len at *; omega
    rw [settleT_l2 n a b oka okb]
    have e0 := kids0 a b
    have e1 := kids1 a b
    simp only [show (Tr.l2 n a b).root = n from rfl] at hn ⊢
    simp only [Tr.kids, e0, e1, hn, pureK_some, ld_cp, cutE_one, get0]
    rcases hk with h | h | h | h | h | h <;> simp only [h] <;> simp
    · refine (iha .no).run ?_
      rw [ias_root]
      simp
      refine ⟨fun h1 => ?_, fun h1 => ⟨fun h2 => ?_, fun h2 => ?_⟩⟩
      · have h1' : (settleT a).root.kind ≠ 14 := by simpa using h1
        rw [hn]
        simp only [pureK_some]
        refine (settle_behind_ok settleT n (settleT a) b 1 .no .no (ihb .no) hl1).run (ret1_of H hle ⟨⟨.no, ?_⟩, rfl⟩)
        simp [h1]
      · exact ret1_of H hle ⟨⟨.no, by simp [h1, h2]⟩, rfl⟩
      · obtain ⟨f1, f2, _⟩ := (settleT a).end_flat s1 h1
        have fl := congrArg List.length f1
        simp only [List.length_cons] at fl
        refine ⟨_, (ihb .no).reads, ?_⟩
        obtain ⟨q1, e3⟩ := sll_tail (x := (settleT a).root) (r := (settleT a).sub.flat) (p := .no)
        rw [f1, e3]
        simp only [pureK_some]
        refine (settle_stack_ok (settleT b) (settleT a).sub .no q1 t1 (by omega)).run (ret1_of H hle ⟨⟨.no, ?_⟩, rfl⟩)
        simp [h1, h2]
    · exact ret1_of H hle ⟨⟨p, rfl⟩, rfl⟩
    · refine ⟨_, (iha .no).reads, _, (ihb .no).reads, ?_⟩
      exact (settle_par_ok n (settleT a) (settleT b) .no .no s1 t1 hl2).run (ret1_of H hle ⟨⟨.no, rfl⟩, rfl⟩)
    · refine ⟨_, (iha .no).reads, ?_⟩
      exact (settle_behind_ok settleT n (settleT a) b 2 .no .no (ihb .no) hl1).run (ret1_of H hle ⟨⟨.no, rfl⟩, rfl⟩)
    · exact ret1_of H hle ⟨⟨p, rfl⟩, rfl⟩
    · refine ⟨_, (iha .no).reads, ?_⟩
      exact (settle_stack_ok (settleT a) b .no .no s1 hl1).run (ret1_of H hle ⟨⟨.no, rfl⟩, rfl⟩)

theorem amakes_kids (n : Node) (a b : Tr) (p : Perm) (ht : (Tr.l2 n a b).ok) (hl : (Tr.l2 n a b).flat.length ≤ 1000000) (H : Heap) :
    AMakes PP gΓ row_Kids [rowA (Tr.l2 n a b).flat p] H none (fun rf ob => ∃ cap zs, ob = some (rowA a.flat .no :: rowA b.flat .no :: zs) ∧ rf = (fun p => .ms p 0 2 cap) ∧ 2 + zs.length = cap) := by
  intro H' _ _
  refine (row_Kids_ms (.l2 n a b) p ht hl H').mono ?_
  rintro r H1 (⟨h, _, _⟩ | ⟨o, cap, zs, h1, _, h2, h3, h4⟩)
  · simp [Tr.kids] at h
  · exact ⟨fun p => .ms p 0 2 cap, some (rowA a.flat .no :: rowA b.flat .no :: zs), ⟨cap, zs, rfl, rfl, by simpa [Tr.kids] using h3⟩, o, h1, by simpa [Tr.kids] using h2, by simpa [Tr.kids] using h4⟩

theorem ms0 (o cap : Nat) : ias 1 (.ms o 0 2 cap) (I 0) = some (.ptr o 0) := rfl
theorem ms1 (o cap : Nat) : ias 1 (.ms o 0 2 cap) (I 1) = some (.ptr o 1) := rfl

theorem settle_step12 (n : Node) (a b : Tr) (ht : (Tr.l2 n a b).ok) (hl : (Tr.l2 n a b).flat.length ≤ 1000) (ih : ∀ x : Tr, x.ok → x.len < (Tr.l2 n a b).len → ∀ q, Pur settle_settle [rowA x.flat q] (rowA (settleT x).flat .no)) (p : Perm) (h12 : n.kind = 12) :
    Pur settle_settle [rowA (Tr.l2 n a b).flat p] (rowA (settleT (.l2 n a b)).flat .no) := by
  intro H
  refine settle_settle_of ?_
  unfold W_settle_settle
  refine ⟨none, (fun p h => by cases h), ?_⟩
  rw [ias_root]
  simp only [pureK_some, ld_cp, cut_nd]
  refine ⟨_, .dead, amakes_kids n a b p ht (by omega) H, .inl rfl, ?_⟩
  rintro rf ob ⟨cap, zs, rfl, rfl, hcap⟩
  rw [madeK_new]
  intro k hk0 o ho
  simp only [upd_none_iff] at ho
  rw [st_nd3]
  simp only [heapK_some, show (Tr.l2 n a b).root = n from rfl]
  have hle : H ≤ (H.upd k (.cells (rowA a.flat .no :: rowA b.flat .no :: zs))).upd o (.cells [I n.kind, S n.name, I n.sign]) := by simp [ho.2, hk0]
  have hn := ld_nd (H := H.upd k (.cells (rowA a.flat .no :: rowA b.flat .no :: zs))) (o := o) (n := n)
  have hkk : ((H.upd k (.cells (rowA a.flat .no :: rowA b.flat .no :: zs))).upd o (.cells [I n.kind, S n.name, I n.sign])) k = some (.cells (rowA a.flat .no :: rowA b.flat .no :: zs)) := by
    rw [Heap.upd_ne _ _ (fun e => ho.1 e.symm), Heap.upd_same]
  have hk : ld (some false) 1 ((H.upd k (.cells (rowA a.flat .no :: rowA b.flat .no :: zs))).upd o (.cells [I n.kind, S n.name, I n.sign])) (.ptr o 0) = some (I n.kind) := by simp
  generalize (H.upd k (.cells (rowA a.flat .no :: rowA b.flat .no :: zs))).upd o (.cells [I n.kind, S n.name, I n.sign]) = HB at hle hn hk hkk ⊢
  simp only [fa_ptr, pureK_some, Nat.zero_add, hk, h12, bop_eql, condK_B, decide_eq_true_eq, decide_eq_false_iff_not]
  obtain ⟨hna, oka, okb⟩ := ht
  have hlt := len_l2 n a b
  have pa := len_pos a
  have pb := len_pos b
  have iha := ih a oka (by omega)
  obtain ⟨s1, s2⟩ := settleT_ok oka
  have hlen : (Tr.l2 n a b).len ≤ 1000 := hl
  have hl1 : (settleT a).flat.length + b.flat.length ≤ 900000 := by unfold Tr.len at *; omega
  have hlb : b.flat.length ≤ 1000 := by unfold Tr.len at *; omega
  rw [settleT_l2 n a b oka okb]
  simp only [h12, ms0, ms1, pureK_some, ld_ptr hkk, cutE_one, get0, get1]
  simp
  refine (iha .no).run ?_
  have hend : Pur settle_Ended [rowA (settleT a).flat .no] (if ended (settleT a) then .tup [I (settleT a).root.sign, B true] else .tup [I 0, B false]) := by
    have := settle_Ended_ok (settleT a).root (settleT a).flat.tail .no
    rw [← (settleT a).flat_root] at this
    rw [← ended_eq]; exact this
  refine hend.run ?_
  cases he : ended (settleT a) with
  | false =>
    simp
    rw [hn]
    simp only [pureK_some, ld_ptr hkk, cutE_one, get1]
    rw [bsl2]
    simp only [pureK_some]
    refine (row_Make_ok n [((settleT a).flat, .no), (b.flat, .no)] .exact (by simp) (by simp [sumLen]; omega)).run ⟨?_, hle⟩
    simp [Tr.flat]
  | true =>
    simp
    refine ⟨fun h1 => ?_, fun h1 => ?_⟩
    · rw [bld_0]
      simp only [pureK_some]
      have e2 : bsl 3 (.agg [I 0, S emp, I 0]) 1 [(0, nd ⟨2, emp, 0⟩)] = some (rowA [⟨2, emp, 0⟩] .exact) := rfl
      rw [e2]
      simp only [pureK_some]
      rw [st_get (n := 1) (off := 1) (v := rowA [⟨2, emp, 0⟩] .exact) (r := rowA a.flat .no :: rowA [⟨2, emp, 0⟩] .exact :: zs) hkk rfl (by simp) rfl rfl]
      simp only [heapK_some, ld_upd, cutE_one, get1, pureK_some]
      refine (settle_end_ok _ [⟨2, emp, 0⟩] .exact (by simp)).run ⟨?_, Heap.le_upd hle hk0⟩
      simp [h1, endT, Tr.flat]
    · simp only [ld_ptr hkk, cutE_one, get1, pureK_some]
      refine (settle_end_ok _ b.flat .no (by omega)).run ⟨?_, hle⟩
      simp [h1, endT, Tr.flat]

theorem settle_all : ∀ (N : Nat) (t : Tr), t.len ≤ N → t.ok → t.flat.length ≤ 1000 → ∀ p, Pur settle_settle [rowA t.flat p] (rowA (settleT t).flat .no) := by
  intro N
  induction N with
  | zero => intro t h; have := len_pos t; omega
  | succ N ih =>
    intro t hN ht hl p
    have ih' : ∀ x : Tr, x.ok → x.len < t.len → ∀ q, Pur settle_settle [rowA x.flat q] (rowA (settleT x).flat .no) := fun x hx hlt q =>
      ih x (by omega) hx (by unfold Tr.len at *; omega) q
    by_cases h : t.root.kind = 12
    · cases t with
      | l0 n =>
        have h1 : arity n.kind = 0 := ht
        have h2 : n.kind = 12 := h
        rw [h2] at h1; cases h1
      | l1 n a =>
        have h1 : arity n.kind = 1 := ht.1
        have h2 : n.kind = 12 := h
        rw [h2] at h1; cases h1
      | l2 n a b => exact settle_step12 n a b ht hl ih' p h
    · exact settle_step t ht hl ih' p h

/-- What settle.settle tells. -/
theorem settleOk : SettleOk := fun t p ht hl => settle_all t.len t (Nat.le_refl _) ht hl p

end Go.Av
