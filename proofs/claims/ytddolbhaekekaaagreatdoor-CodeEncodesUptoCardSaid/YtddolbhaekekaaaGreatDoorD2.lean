/- Own text D2 of this claim: see the text that holds the theorem. -/
import Derived.Test.YtddolbhaekekaaaGreatDoorD1
set_option linter.all false
set_option maxRecDepth 100000
namespace Go.Av
open Go Go.Proofs

theorem forest_prefix : ∀ (ts us : List Tr) (r s : List Node), (∀ t, t ∈ ts → t.ok) → (∀ t, t ∈ us → t.ok) → ts.length ≤ us.length → ts.flatMap Tr.flat ++ r = us.flatMap Tr.flat ++ s → ∃ vs, us = ts ++ vs ∧ r = vs.flatMap Tr.flat ++ s := by
  intro ts
  induction ts with
  | nil => intro us r s _ _ _ h; exact ⟨us, rfl, by simpa using h⟩
  | cons t ts ih =>
    intro us r s h1 h2 hl h
    cases us with
    | nil => simp at hl
    | cons u us =>
      simp only [List.flatMap_cons, List.append_assoc] at h
      obtain ⟨e1, e2⟩ := flat_inj t u _ _ (h1 t (by simp)) (h2 u (by simp)) h
      obtain ⟨vs, e3, e4⟩ := ih us r s (fun x hx => h1 x (by simp [hx])) (fun x hx => h2 x (by simp [hx])) (by simpa using hl) e2
      exact ⟨vs, by rw [e1, e3]; rfl, e4⟩

theorem Tr.flat_kids (t : Tr) : t.flat = t.root :: t.kids.flatMap Tr.flat := by
  cases t <;> simp [Tr.flat, Tr.root, Tr.kids]

/-- Does a tree begin there? -/
def Begins (l : List Node) (a n : Nat) : Prop := ∃ (t : Tr) (r : List Node), t.ok ∧ l.drop a = t.flat ++ r ∧ n = a + t.flat.length

def walkX (l : List Node) (a : Nat) (r : AV) : Prop := ∃ n d : Int, r = .tup [I n, I d] ∧ ((n = -1 ∧ d = 0 ∧ ∀ m, ¬ Begins l a m) ∨ ∃ m : Nat, n = m ∧ Begins l a m ∧ 0 ≤ d ∧ d ≤ n - a)

theorem Begins.le {l : List Node} {a n : Nat} (h : Begins l a n) : a < n ∧ n ≤ l.length := by
  obtain ⟨t, r, _, h2, rfl⟩ := h
  have := congrArg List.length h2
  simp only [List.length_drop, List.length_append] at this
  have := t.flat_pos
  omega

theorem of_kids {n : Node} {ts : List Tr} (h : ∀ t, t ∈ ts → t.ok) (ha : arity n.kind = ts.length) : ∃ t : Tr, t.ok ∧ t.flat = n :: ts.flatMap Tr.flat := by
  have hr := arity_range n.kind
  match ts, h, ha with
  | [], _, ha => exact ⟨.l0 n, ha, by simp [Tr.flat]⟩
  | [a], h, ha => exact ⟨.l1 n a, ⟨ha, h a (by simp)⟩, by simp [Tr.flat]⟩
  | [a, b], h, ha => exact ⟨.l2 n a b, ⟨ha, h a (by simp), h b (by simp)⟩, by simp [Tr.flat]⟩
  | a :: b :: c :: ts, _, ha => simp at ha; omega

theorem ref03_WalkX_ok (l : List Node) (p : Perm) (hl : small l.length) : ∀ (fuel : Nat) (a : Nat), l.length - a < fuel → PurR ref03_Walk [rowA l p, I a] (walkX l a) := by
  intro fuel
  induction fuel with
  | zero => intro a h; omega
  | succ fuel ih =>
    intro a hf H
    refine ref03_Walk_of ?_
    unfold W_ref03_Walk
    simp only [lnl_lst, pureK_some, List.length_map, bop_geq, condK_B, ret1_rel, decide_eq_true_eq, decide_eq_false_iff_not]
    refine ⟨fun h => ⟨⟨-1, 0, rfl, .inl ⟨rfl, rfl, fun m hb => ?_⟩⟩, Heap.le_refl _⟩, fun h => ?_⟩
    · have := hb.le; omega
    have ha : a < l.length := by omega
    rw [ias_row (by omega) (by omega)]
    simp only [pureK_some, fa_cp, ld_cp, cutE_one, Nat.zero_add, get0, Int.toNat_natCast]
    refine (ref03_Arity_ok _).run ?_
    have hr := arity_range l[a].kind
    have hd : l.drop a = l[a] :: l.drop (a + 1) := List.drop_eq_getElem_cons ha
    simp only [bop_lss, pureK_some, condK_B, decide_eq_true_eq, decide_eq_false_iff_not]
    refine ⟨fun h => ⟨⟨-1, 0, rfl, .inl ⟨rfl, rfl, fun m hb => ?_⟩⟩, Heap.le_refl _⟩, fun h => ?_⟩
    · obtain ⟨t, r, h1, h2, _⟩ := hb
      rw [hd, t.flat_root] at h2
      injection h2 with h2 _
      have := Tr.arity_root h1
      rw [← h2] at this
      omega
    generalize hm : arity l[a].kind = m at hr h
    rw [bop_add (by omega) (by omega)]
    simp only [pureK_some]
    refine ⟨fun vs H' n => ∃ (ts : List Tr) (next : Nat) (deep : Int), vs = [rowA l p, I a, I next, I deep, I ts.length] ∧ H' = H ∧ n = (m - ts.length).toNat ∧ (∀ t, t ∈ ts → t.ok) ∧ l.drop (a + 1) = ts.flatMap Tr.flat ++ l.drop next ∧ next = a + 1 + (ts.flatMap Tr.flat).length ∧ next ≤ l.length ∧ 0 ≤ deep ∧ deep ≤ next - a - 1 ∧ ts.length ≤ m,
      ⟨_, H, Heap.le_refl _, [], a + 1, 0, rfl, rfl, rfl, (fun t ht => by simp at ht), by simp, by simp, by omega, by omega, by omega, by simp; omega⟩, ?_⟩
    rintro vs H' n ⟨ts, next, deep, rfl, rfl, rfl, g1, g2, g3, g4, g5, g6, g7⟩
    simp only [nth_zero, nth_succ]
    rw [ias_row (by omega) (by omega)]
    simp only [pureK_some, fa_cp, ld_cp, cutE_one, Nat.zero_add, get0, Int.toNat_natCast]
    refine (ref03_Arity_ok _).run ?_
    rw [hm]
    simp only [bop_lss, pureK_some, condK_B, decide_eq_true_eq, decide_eq_false_iff_not]
    refine ⟨fun h => ?_, fun h => ?_⟩
    · refine (ih next (by omega)).run ?_
      rintro v ⟨n1, d1, rfl, hnd⟩
      simp only [extractE_tup, get0, get1, bop_lss, bop_gtr, pureK_some, condK_B, decide_eq_true_eq, decide_eq_false_iff_not]
      refine ⟨fun h3 => ⟨⟨-1, 0, rfl, .inl ⟨rfl, rfl, fun M hb => ?_⟩⟩, Heap.le_refl _⟩, fun h3 => ?_⟩
      · rcases hnd with ⟨_, _, hno⟩ | ⟨m1, e1, _⟩
        · obtain ⟨t, r, k1, k2, _⟩ := hb
          rw [hd, t.flat_kids] at k2
          injection k2 with k2 k3
          have ar := Tr.arity_root k1
          rw [← k2, hm] at ar
          rw [g2] at k3
          obtain ⟨us, k4, k5⟩ := forest_prefix ts t.kids _ _ g1 (Tr.kids_ok k1) (by omega) k3
          have hul : 0 < us.length := by
            have := congrArg List.length k4
            simp at this; omega
          match us, hul, k4, k5 with
          | u :: us, _, k4, k5 =>
            refine hno _ ⟨u, us.flatMap Tr.flat ++ r, Tr.kids_ok k1 u (by rw [k4]; simp), ?_, rfl⟩
            rw [k5]; simp
        · omega
      · rcases hnd with ⟨e1, _⟩ | ⟨m1, rfl, hb, d0, d2⟩
        · omega
        · have hb' := hb
          obtain ⟨t, r, k1, k2, k3⟩ := hb'
          have hle := hb.le
          have hr2 : r = l.drop m1 := by
            have : l.drop m1 = (l.drop next).drop t.flat.length := by rw [List.drop_drop, k3]
            rw [this, k2, List.drop_left]
          have inv : (∀ x, x ∈ ts ++ [t] → x.ok) ∧ l.drop (a + 1) = (ts ++ [t]).flatMap Tr.flat ++ l.drop m1 ∧ m1 = a + 1 + ((ts ++ [t]).flatMap Tr.flat).length := by
            refine ⟨fun x hx => ?_, ?_, ?_⟩
            · rcases List.mem_append.1 hx with hx | hx
              · exact g1 x hx
              · rw [List.mem_singleton.1 hx]; exact k1
            · rw [g2, k2, hr2]; simp
            · rw [List.flatMap_append, List.length_append]; simp only [List.flatMap_cons, List.flatMap_nil, List.append_nil]; omega
          rw [bop_add (by omega) (by omega)]
          simp only [pureK_some]
          refine ⟨fun h4 => ⟨_, _, ?_, Heap.le_refl _, ts ++ [t], m1, d1, by simp, rfl, rfl, inv.1, inv.2.1, inv.2.2, by omega, by omega, by omega, by simp; omega⟩, fun h4 => ⟨_, _, ?_, Heap.le_refl _, ts ++ [t], m1, deep, by simp, rfl, rfl, inv.1, inv.2.1, inv.2.2, by omega, by omega, by omega, by simp; omega⟩⟩ <;> (simp; omega)
    · rw [bop_add (by omega) (by omega)]
      simp only [pureK_some]
      refine ⟨⟨next, deep + 1, rfl, .inr ⟨next, rfl, ?_, by omega, by omega⟩⟩, Heap.le_refl _⟩
      obtain ⟨t, k1, k2⟩ := of_kids (n := l[a]) g1 (by omega)
      refine ⟨t, l.drop next, k1, ?_, ?_⟩
      · rw [hd, k2, g2]; rfl
      · rw [k2]; simp only [List.length_cons]; omega

theorem Begins.unique {l : List Node} {a n m : Nat} (h1 : Begins l a n) (h2 : Begins l a m) : n = m := by
  obtain ⟨t, r, k1, k2, rfl⟩ := h1
  obtain ⟨u, s, j1, j2, rfl⟩ := h2
  obtain ⟨e, _⟩ := flat_inj t u r s k1 j1 (by rw [← k2, j2])
  rw [e]

theorem ref03_Size_ok (l : List Node) (p : Perm) (hl : small l.length) : PurR ref03_Size [rowA l p] (fun r => ∃ z : Nat, r = I z ∧ ((z = 0 ∧ ∀ m, ¬ Begins l 0 m) ∨ Begins l 0 z)) := by
  intro H
  refine ref03_Size_of ?_
  unfold W_ref03_Size
  refine (ref03_WalkX_ok l p hl (l.length + 1) 0 (by omega)).run ?_
  rintro v ⟨n, d, rfl, h⟩
  simp only [extractE_tup, get0, get1, pureK_some, bop_lss, condK_B, ret1_rel, decide_eq_true_eq, decide_eq_false_iff_not]
  refine ⟨fun h1 => ⟨⟨0, rfl, .inl ⟨rfl, ?_⟩⟩, Heap.le_refl _⟩, fun h1 => ?_⟩
  · rcases h with ⟨_, _, h⟩ | ⟨m, e, _⟩
    · exact h
    · omega
  · rcases h with ⟨e, _⟩ | ⟨m, rfl, hb, _⟩
    · omega
    · exact ⟨⟨m, rfl, .inr hb⟩, Heap.le_refl _⟩

theorem size_iff {l : List Node} {z : Nat} (h0 : 0 < l.length) (h : (z = 0 ∧ ∀ m, ¬ Begins l 0 m) ∨ Begins l 0 z) : (z : Int) = l.length ↔ size l = l.length := by
  constructor
  · intro e
    rcases h with ⟨h1, _⟩ | ⟨t, r, k1, k2, k3⟩
    · omega
    · have := congrArg List.length k2
      simp only [List.length_drop, List.length_append] at this
      have hr : r = [] := List.eq_nil_of_length_eq_zero (by omega)
      rw [hr, List.append_nil] at k2
      have e2 := size_flat k1 []
      rw [List.append_nil] at e2
      have : l = t.flat := by simpa using k2
      rw [this, e2]
  · intro e
    obtain ⟨t, k1, k2⟩ := parse (by intro e; rw [e] at h0; simp at h0) e
    have hb : Begins l 0 l.length := ⟨t, [], k1, by simp [k2], by simp [k2]⟩
    rcases h with ⟨_, h⟩ | h
    · exact absurd hb (h _)
    · rw [h.unique hb]

theorem ref03_Whole_ok (l : List Node) (p : Perm) (hl : small l.length) (hn : names l) : Pur ref03_Whole [rowA l p] (B (whole l)) := by
  intro H
  refine ref03_Whole_of ?_
  unfold W_ref03_Whole
  refine ⟨fun vs H' n => ∃ k : Nat, vs = [rowA l p, I k] ∧ H' = H ∧ n = l.length - k ∧ k ≤ l.length ∧ (l.take k).all right = true, ⟨_, H, Heap.le_refl _, 0, rfl, rfl, rfl, Nat.zero_le _, rfl⟩, ?_⟩
  rintro vs H' n ⟨k, rfl, rfl, rfl, hk, hall⟩
  simp only [nth_zero, nth_succ, lnl_lst, List.length_map, bop_lss, pureK_some, condK_B, decide_eq_true_eq, decide_eq_false_iff_not]
  refine ⟨fun h => ?_, fun h => ?_⟩
  · have hk' : k < l.length := by omega
    rw [ias_row (by omega) (by omega)]
    simp only [pureK_some, ld_cp, cut_nd, Int.toNat_natCast]
    refine (ref03_Right_ok _ (hn _ (List.getElem_mem hk'))).run ?_
    simp only [unE_not, pureK_some]
    cases hr : right l[k] with
    | false =>
      rw [Bool.not_false, condK_t]
      refine ret1_of H' (Heap.le_refl _) ⟨B_eq ?_, rfl⟩
      have : l.all right = false := by
        rw [List.all_eq_false]; exact ⟨l[k], List.getElem_mem hk', by simp [hr]⟩
      simp [whole, this]
    | true =>
      rw [Bool.not_true, condK_f, bop_add (by omega) (by omega)]
      refine ⟨l.length - (k + 1), H', by omega, Heap.le_refl _, k + 1, rfl, rfl, rfl, by omega, ?_⟩
      rw [List.take_succ_eq_append_getElem hk', List.all_append, hall]
      simp [hr]
  · have hk' : k = l.length := by omega
    subst hk'
    rw [List.take_length] at hall
    simp only [bop_geq, bop_leq, pureK_some, condK_B, decide_eq_true_eq, decide_eq_false_iff_not]
    refine ⟨fun h1 => ⟨fun h2 => ?_, fun h2 => ret1_of H' (Heap.le_refl _) ⟨B_eq ?_, rfl⟩⟩, fun h1 => ret1_of H' (Heap.le_refl _) ⟨B_eq ?_, rfl⟩⟩
    · refine (ref03_Size_ok l p hl).run ?_
      rintro v ⟨z, rfl, hz⟩
      simp only [bop_eql, pureK_some]
      refine ret1_of H' (Heap.le_refl _) ⟨B_eq ?_, rfl⟩
      have := size_iff (by omega) hz
      have h3 : 0 < l.length ∧ l.length ≤ 200 := by omega
      simp [whole, hall, h3, this]
    · have : ¬ (0 < l.length ∧ l.length ≤ 200) := by omega
      simp only [whole, decide_eq_false this, Bool.false_and]
    · have : ¬ (0 < l.length ∧ l.length ≤ 200) := by omega
      simp only [whole, decide_eq_false this, Bool.false_and]

theorem sll_no {l : List Node} {a b : Nat} (h : a ≤ b) (h2 : b ≤ l.length) : sll 3 (rowA l .no) (some (I a)) (some (I b)) none = some (rowA ((l.take b).drop a) .no) := by
  simp [sll, bound, h, h2]
theorem sll_no1 {x : Node} {r : List Node} : sll 3 (rowA (x :: r) .no) (some (I 1)) none none = some (rowA r .no) := by
  simp [sll, bound, List.take_of_length_le]

theorem ref03_Kids_ok (t : Tr) (ht : t.ok) (hl : t.flat.length ≤ 1000000) : Pur ref03_Kids [rowA t.flat .no] (rowsA (t.kids.map Tr.flat) .no) := by
  refine Pur.weaken (φ := fun r => (r = .lst 0 [] .exact ∧ t.kids = []) ∨ ∃ q, r = rowsA (t.kids.map Tr.flat) q) (fun H => ?_) ?_
  rotate_left
  · rintro r (⟨rfl, hk⟩ | ⟨q, rfl⟩)
    · rw [hk]; exact Weaker.empty
    · exact Weaker.lst
  refine ref03_Kids_of ?_
  unfold W_ref03_Kids
  have hpos := t.flat_pos
  have hsm : small t.flat.length := by unfold small; omega
  have hbt : Begins t.flat 0 t.flat.length := ⟨t, [], ht, by simp, by simp⟩
  refine (ref03_Size_ok t.flat .no hsm).run ?_
  rintro v ⟨z, rfl, hz⟩
  have hz' : z = t.flat.length := by
    rcases hz with ⟨_, h⟩ | h
    · exact absurd hbt (h _)
    · exact h.unique hbt
  subst hz'
  have hk2 := t.kids_le
  simp only [bop_eql, pureK_some, condK_B, decide_eq_true_eq, decide_eq_false_iff_not]
  refine ⟨fun h => by omega, fun _ => ?_⟩
  refine ⟨fun vs H' n => ∃ (k : Nat) (s : Nat) (q : Perm), k ≤ t.kids.length ∧ vs = [rowA t.flat .no, .lst s (((t.kids.take k).map Tr.flat).map fun l => rowA l .no) q, I (1 + ((t.kids.take k).flatMap Tr.flat).length), I k] ∧ n = t.kids.length - k ∧ Bld H H' q k ∧ (s = 1 ∨ (k = 0 ∧ q = .exact ∧ s = 0)),
    ⟨_, H, Heap.le_refl _, 0, 0, .exact, Nat.zero_le _, rfl, rfl, .inl ⟨rfl, rfl⟩, .inr ⟨rfl, rfl, rfl⟩⟩, ?_⟩
  rintro vs H' n ⟨k, s, q, hk, rfl, rfl, hb, hsq⟩
  simp only [nth_zero, nth_succ]
  rw [ias_root]
  simp only [pureK_some, fa_cp, ld_cp, cutE_one, Nat.zero_add, get0]
  refine (ref03_Arity_ok _).run ?_
  rw [Tr.arity_root ht]
  simp only [bop_lss, pureK_some, condK_B, decide_eq_true_eq, decide_eq_false_iff_not]
  refine ⟨fun h => ?_, fun h => ?_⟩
  · have hk' : k < t.kids.length := by omega
    obtain ⟨post, hpost⟩ := Tr.flat_split hk'
    have hkok := Tr.kids_ok ht _ (List.getElem_mem hk')
    have htk : t.kids.take (k + 1) = t.kids.take k ++ [t.kids[k]] := List.take_succ_eq_append_getElem hk'
    generalize hx : t.kids[k] = x at hpost hkok htk
    generalize hpre : (t.kids.take k).flatMap Tr.flat = pre at hpost hb ⊢
    have hat : (1 : Int) + pre.length = ((([t.root] ++ pre).length : Nat) : Int) := by simp; omega
    have hxl := x.flat_pos
    have hlen := congrArg List.length hpost
    simp only [List.length_append, List.length_cons, List.length_nil] at hlen
    rw [hat]
    refine (ref03_WalkX_ok t.flat .no hsm (t.flat.length + 1) ([t.root] ++ pre).length (by omega)).run ?_
    rintro v ⟨n1, d1, rfl, hnd⟩
    have hbx : Begins t.flat ([t.root] ++ pre).length (([t.root] ++ pre).length + x.flat.length) := ⟨x, post, hkok, by rw [hpost, List.append_assoc, List.drop_left], rfl⟩
    rcases hnd with ⟨_, _, hno⟩ | ⟨m1, rfl, hb1, _⟩
    · exact absurd hbx (hno _)
    have em := hb1.unique hbx
    subst em
    simp only [extractE_tup, get0, get1, pureK_some]
    rw [sll_no (by omega) (by simp; omega), hpost, take_drop_kid]
    simp only [pureK_some]
    have e3 : bsl 1 (.lst 0 [] .exact) 1 [(0, rowA x.flat .no)] = some (.lst 1 [rowA x.flat .no] .exact) := rfl
    rw [e3]
    simp only [pureK_some]
    refine appK_bld (H0 := H) (s := 1) (ys := [rowA x.flat .no]) (by simpa [Nat.min_eq_left hk] using hb) (hsq.imp id fun h => ⟨by obtain ⟨rfl, _⟩ := h; simp, h.2.1⟩) rfl (by simp [maxApp, Nat.min_eq_left hk]; omega) ?_
    intro q' H2 hb'
    rw [bop_add (by omega) (by omega)]
    simp only [pureK_some]
    refine ⟨t.kids.length - (k + 1), _, by omega, Heap.le_refl _, k + 1, 1, q', by omega, ?_, rfl, ?_, .inl rfl⟩
    · rw [htk]; simp [hpre]; omega
    · simpa [Nat.min_eq_left hk] using hb'
  · have hk' : k = t.kids.length := by omega
    subst hk'
    refine ret1_of H hb.le ⟨?_, rfl⟩
    rw [List.take_length]
    rcases hsq with rfl | ⟨h0, rfl, rfl⟩
    · exact .inr ⟨q, rfl⟩
    · have : t.kids = [] := List.eq_nil_of_length_eq_zero h0
      rw [this]
      exact .inl ⟨rfl, rfl⟩

end Go.Av
