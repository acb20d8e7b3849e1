/- Own text C4 of this claim: see the text that holds the theorem. -/
import Derived.Test.YtddolbhaekekaaaGreatDoorC3
set_option linter.all false
set_option maxRecDepth 100000
namespace Go.Av
open Go Go.Proofs

/-- Of a call that turns nothing and tells something of a kind. -/
def PurR (f : FuncId) (args : List AV) (φ : AV → Prop) : Prop := ∀ H, ACalls PP gΓ f args H (fun r H' => φ r ∧ H' = H)
theorem PurR.run {f : FuncId} {args : List AV} {φ : AV → Prop} {H : Heap} {K : AV → Heap → Prop} (h : PurR f args φ) (k : ∀ v, φ v → K v H) : ACalls PP gΓ f args H K :=
  (h H).mono fun r H' hr => by obtain ⟨h1, rfl⟩ := hr; exact k r h1
theorem Pur.rel {f : FuncId} {args : List AV} {v : AV} {φ : AV → Prop} (h : Pur f args v) (hv : φ v) : PurR f args φ := fun H => (h H).mono fun r H' hr => by obtain ⟨rfl, rfl⟩ := hr; exact ⟨hv, rfl⟩
theorem ret1_rel (H H' : Heap) (φ : AV → Prop) (r : AV) : ret1 H' (fun r H1 => φ r ∧ H1 = H) r ↔ φ r ∧ H ≤ H' := by
  constructor
  · rintro ⟨H1, h, h2, rfl⟩; exact ⟨h2, h⟩
  · rintro ⟨h2, h⟩; exact ⟨H, h, h2, rfl⟩

def walkR (l : List Node) (at' : Int) (r : AV) : Prop := ∃ n d : Int, r = .tup [I n, I d] ∧ ((n = -1 ∧ d = 0) ∨ (at' < n ∧ n ≤ l.length ∧ 0 ≤ d ∧ d ≤ n - at'))

theorem ref03_Walk_ok (l : List Node) (p : Perm) (hl : small l.length) : ∀ (fuel : Nat) (at' : Int), 0 ≤ at' → at' ≤ l.length → l.length - at' < fuel → PurR ref03_Walk [rowA l p, I at'] (walkR l at') := by
  intro fuel
  induction fuel with
  | zero => intro a h0 h1 h2; omega
  | succ fuel ih =>
    intro a h0 h1 h2 H
    refine ref03_Walk_of ?_
    unfold W_ref03_Walk
    simp only [lnl_lst, pureK_some, List.length_map, bop_geq, condK_B, ret1_rel, decide_eq_true_eq, decide_eq_false_iff_not]
    refine ⟨fun h => ⟨⟨-1, 0, rfl, .inl ⟨rfl, rfl⟩⟩, Heap.le_refl _⟩, fun h => ?_⟩
    have ha : a.toNat < l.length := by omega
    rw [ias_row h0 ha]
    simp only [pureK_some, fa_cp, ld_cp, cutE_one, Nat.zero_add, get0]
    refine (ref03_Arity_ok _).run ?_
    have hr := arity_range l[a.toNat].kind
    generalize hm : arity l[a.toNat].kind = m at hr
    simp (disch := omega) only [bop_lss, pureK_some, condK_B, decide_eq_true_eq, decide_eq_false_iff_not, bop_add]
    refine ⟨fun h => ⟨⟨-1, 0, rfl, .inl ⟨rfl, rfl⟩⟩, Heap.le_refl _⟩, fun h => ?_⟩
    refine ⟨fun vs H' n => ∃ next deep k : Int, vs = [rowA l p, I a, I next, I deep, I k] ∧ H' = H ∧ n = (m - k).toNat ∧ a < next ∧ next ≤ l.length ∧ 0 ≤ deep ∧ deep ≤ next - a - 1 ∧ 0 ≤ k ∧ k ≤ m,
      ⟨_, H, Heap.le_refl _, _, _, _, rfl, rfl, rfl, by omega, by omega, by omega, by omega, by omega, by omega⟩, ?_⟩
    rintro vs H' n ⟨next, deep, k, rfl, rfl, rfl, g1, g2, g3, g4, g5, g6⟩
    simp only [nth_zero, nth_succ]
    rw [ias_row h0 ha]
    simp only [pureK_some, fa_cp, ld_cp, cutE_one, Nat.zero_add, get0]
    refine (ref03_Arity_ok _).run ?_
    rw [hm]
    simp only [bop_lss, pureK_some, condK_B, decide_eq_true_eq, decide_eq_false_iff_not]
    refine ⟨fun h => ?_, fun h => ?_⟩
    · refine (ih next (by omega) (by omega) (by omega)).run ?_
      rintro v ⟨n1, d1, rfl, hnd⟩
      simp (disch := omega) only [extractE_tup, get0, get1, bop_lss, bop_gtr, pureK_some, condK_B, decide_eq_true_eq, decide_eq_false_iff_not, bop_add]
      refine ⟨fun h3 => ⟨⟨-1, 0, rfl, .inl ⟨rfl, rfl⟩⟩, Heap.le_refl _⟩, fun h3 => ?_⟩
      have hnd' : next < n1 ∧ n1 ≤ l.length ∧ 0 ≤ d1 ∧ d1 ≤ n1 - next := by omega
      refine ⟨fun h4 => ⟨_, _, ?_, Heap.le_refl _, n1, d1, k + 1, rfl, rfl, rfl, ?_⟩, fun h4 => ⟨_, _, ?_, Heap.le_refl _, n1, deep, k + 1, rfl, rfl, rfl, ?_⟩⟩ <;> omega
    · simp (disch := omega) only [bop_add, pureK_some]
      exact ⟨⟨next, deep + 1, rfl, .inr ⟨by omega, by omega, by omega, by omega⟩⟩, Heap.le_refl _⟩

theorem ref03_Depth_ok (l : List Node) (p : Perm) (hl : small l.length) : PurR ref03_Depth [rowA l p] (fun r => ∃ d : Int, r = I d) := by
  intro H
  refine ref03_Depth_of ?_
  unfold W_ref03_Depth
  refine (ref03_Walk_ok l p hl (l.length + 1) 0 (by omega) (by omega) (by omega)).run ?_
  rintro v ⟨n, d, rfl, _⟩
  simp only [extractE_tup, get0, get1, pureK_some, ret1_rel]
  exact ⟨⟨d, rfl⟩, Heap.le_refl _⟩

/-! ### the trees behind a node -/
abbrev rowsA (ls : List (List Node)) (p : Perm) : AV := .lst 1 (ls.map fun l => rowA l .no) p

theorem sll_row {l : List Node} {p : Perm} {a : Nat} (h : a ≤ l.length) : ∃ q, sll 3 (rowA l p) (some (I a)) none none = some (rowA (l.drop a) q) := by
  refine ⟨if p = .exact then .exact else .no, ?_⟩
  simp [sll, bound, h, List.take_of_length_le]
theorem sll_row2 {l : List Node} {p : Perm} {a b : Nat} (h : a ≤ b) (h2 : b ≤ l.length) : ∃ q, sll 3 (rowA l p) (some (I a)) (some (I b)) none = some (rowA ((l.take b).drop a) q) := by
  refine ⟨if p = .exact ∧ b = l.length then .exact else .no, ?_⟩
  simp [sll, bound, h, h2]
theorem Pur.weaken {f : FuncId} {args : List AV} {φ : AV → Prop} {v : AV} (h : PurR f args φ) (hw : ∀ r, φ r → Weaker r v) : Pur f args v := fun H =>
  (h H).weaken fun r H' hr => ⟨v, hw r hr.1, rfl, hr.2⟩
theorem Pur.reads {f : FuncId} {args : List AV} {v : AV} {H : Heap} (h : Pur f args v) : AReads PP gΓ f args H v := fun H' _ => h H'

theorem take_drop_kid (pre a post : List Node) : ((pre ++ a ++ post).take (pre.length + a.length)).drop pre.length = a := by
  rw [show pre.length + a.length = (pre ++ a).length by simp, List.take_left, List.drop_left]

/-- How the trees lie behind the node. -/
theorem Tr.flat_split {t : Tr} {k : Nat} (h : k < t.kids.length) : ∃ post, t.flat = ([t.root] ++ (t.kids.take k).flatMap Tr.flat) ++ (t.kids[k]).flat ++ post := by
  cases t with
  | l0 n => simp [Tr.kids] at h
  | l1 n a =>
    have : k = 0 := by simp [Tr.kids] at h; omega
    subst this
    exact ⟨[], by simp [Tr.flat, Tr.root, Tr.kids]⟩
  | l2 n a b =>
    have : k = 0 ∨ k = 1 := by simp [Tr.kids] at h; omega
    rcases this with rfl | rfl
    · exact ⟨b.flat, by simp [Tr.flat, Tr.root, Tr.kids]⟩
    · exact ⟨[], by simp [Tr.flat, Tr.root, Tr.kids]⟩

theorem Tr.kids_ok {t : Tr} (h : t.ok) : ∀ x, x ∈ t.kids → x.ok := by
  cases t with
  | l0 n => intro x hx; simp [Tr.kids] at hx
  | l1 n a => intro x hx; simp [Tr.kids] at hx; subst hx; exact h.2
  | l2 n a b =>
    intro x hx
    simp [Tr.kids] at hx
    rcases hx with rfl | rfl
    · exact h.2.1
    · exact h.2.2

theorem Tr.kids_le (t : Tr) : t.kids.length ≤ 2 := by cases t <;> simp [Tr.kids]

theorem ias_root (t : Tr) (p : Perm) : ias 3 (rowA t.flat p) (I 0) = some (.cp [I t.root.kind, S t.root.name, I t.root.sign] 0) := by
  unfold rowA
  rw [t.flat_root]
  rfl

theorem row_Kids_ok (t : Tr) (p : Perm) (ht : t.ok) (hl : t.flat.length ≤ 1000000) : Pur row_Kids [rowA t.flat p] (rowsA (t.kids.map Tr.flat) .no) := by
  refine Pur.weaken (φ := fun r => (r = .lst 0 [] .exact ∧ t.kids = []) ∨ ∃ q, r = rowsA (t.kids.map Tr.flat) q) (fun H => ?_) ?_
  rotate_left
  · rintro r (⟨rfl, hk⟩ | ⟨q, rfl⟩)
    · rw [hk]; exact Weaker.empty
    · exact Weaker.lst
  refine row_Kids_of ?_
  unfold W_row_Kids
  refine (row_Size_ok t.flat p (by omega)).run ?_
  have hs : size t.flat = t.flat.length := by simpa using size_flat ht []
  have hpos := t.flat_pos
  have hk2 := t.kids_le
  rw [hs]
  simp only [bop_eql, pureK_some, condK_B, decide_eq_true_eq, decide_eq_false_iff_not]
  refine ⟨fun h => by omega, fun _ => ?_⟩
  rw [ias_root]
  simp only [pureK_some, fa_cp, ld_cp, cutE_one, Nat.zero_add, get0]
  refine (row_Arity_ok _).run ?_
  rw [Tr.arity_root ht]
  refine ⟨fun vs H' n => ∃ (k : Nat) (s : Nat) (q : Perm), k ≤ t.kids.length ∧ vs = [rowA t.flat p, .lst s (((t.kids.take k).map Tr.flat).map fun l => rowA l .no) q, I (1 + ((t.kids.take k).flatMap Tr.flat).length), I t.kids.length, I k] ∧ n = t.kids.length - k ∧ Bld H H' q k ∧ (s = 1 ∨ (k = 0 ∧ q = .exact ∧ s = 0)),
    ⟨_, H, Heap.le_refl _, 0, 0, .exact, Nat.zero_le _, rfl, rfl, .inl ⟨rfl, rfl⟩, .inr ⟨rfl, rfl, rfl⟩⟩, ?_⟩
  rintro vs H' n ⟨k, s, q, hk, rfl, rfl, hb, hsq⟩
  simp only [nth_zero, nth_succ, bop_lss, pureK_some, condK_B, decide_eq_true_eq, decide_eq_false_iff_not]
  refine ⟨fun h => ?_, fun h => ?_⟩
  · have hk' : k < t.kids.length := by omega
    obtain ⟨post, hpost⟩ := Tr.flat_split hk'
    have hkok := Tr.kids_ok ht _ (List.getElem_mem hk')
    generalize hx : t.kids[k] = x at hpost hkok
    generalize hpre : (t.kids.take k).flatMap Tr.flat = pre at hpost hb ⊢
    have hat : (1 : Int) + pre.length = ((([t.root] ++ pre).length : Nat) : Int) := by simp; omega
    have hxl := x.flat_pos
    have hlen := congrArg List.length hpost
    simp only [List.length_append, List.length_cons, List.length_nil] at hlen
    obtain ⟨q1, e1⟩ := sll_row (l := t.flat) (p := p) (a := ([t.root] ++ pre).length) (by simp; omega)
    rw [hat, e1]
    have hdrop : t.flat.drop ([t.root] ++ pre).length = x.flat ++ post := by rw [hpost, List.append_assoc, List.drop_left]
    rw [hdrop]
    simp only [pureK_some]
    refine (row_Size_ok _ q1 (by simp; omega)).run ?_
    rw [size_flat hkok]
    rw [bop_add (by simp; omega) (by simp; omega)]
    simp only [pureK_some]
    have hsum : ((([t.root] ++ pre).length : Nat) : Int) + x.flat.length = ((([t.root] ++ pre).length + x.flat.length : Nat) : Int) := by simp
    rw [hsum]
    obtain ⟨q2, e2⟩ := sll_row2 (l := t.flat) (p := p) (a := ([t.root] ++ pre).length) (b := ([t.root] ++ pre).length + x.flat.length) (by omega) (by simp; omega)
    rw [e2, hpost, take_drop_kid]
    simp only [pureK_some]
    refine (Clone_ok x.flat q2 (by intro e; rw [e] at hxl; simp at hxl) (by omega)).run ?_
    have e3 : bsl 1 (.lst 0 [] .exact) 1 [(0, rowA x.flat .no)] = some (.lst 1 [rowA x.flat .no] .exact) := rfl
    rw [e3]
    simp only [pureK_some]
    have htk : t.kids.take (k + 1) = t.kids.take k ++ [x] := by rw [List.take_succ_eq_append_getElem hk', hx]
    refine appK_bld (H0 := H) (s := 1) (ys := [rowA x.flat .no]) (by simpa [Nat.min_eq_left hk] using hb) (hsq.imp id fun h => ⟨by obtain ⟨rfl, _⟩ := h; simp, h.2.1⟩) rfl (by simp [maxApp, Nat.min_eq_left hk]; omega) ?_
    intro q' H2 hb'
    rw [bop_add (by omega) (by omega)]
    simp only [pureK_some]
    refine ⟨_, _, ?_, Heap.le_refl _, k + 1, 1, q', by omega, ?_, rfl, ?_, .inl rfl⟩
    · omega
    · rw [htk]; simp [hpre]; omega
    · simpa [Nat.min_eq_left hk] using hb'
  · have hk' : k = t.kids.length := by omega
    subst hk'
    refine ret1_of H hb.le ⟨?_, rfl⟩
    rw [List.take_length]
    rcases hsq with rfl | ⟨h0, rfl, rfl⟩
    · exact .inr ⟨q, rfl⟩
    · have : t.kids = [] := List.eq_nil_of_length_eq_zero h0
      rw [this]
      exact .inl ⟨rfl, rfl⟩

end Go.Av
