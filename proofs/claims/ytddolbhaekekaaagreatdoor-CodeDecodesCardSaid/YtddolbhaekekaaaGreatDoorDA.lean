/- Own text DA of this claim: see the text that holds the theorem. -/
import Derived.Test.YtddolbhaekekaaaGreatDoorCD
set_option linter.all false
set_option maxRecDepth 100000
namespace Go.Av
open Go Go.Proofs

theorem ACalls.less {P : Program} {Γ : Nat → Option AV} {f : FuncId} {args : List AV} {H : Heap} {R R' : AV → Heap → Prop} (h : ACalls P Γ f args H R) (hw : ∀ r H', R r H' → ∃ r' H1, Weaker r r' ∧ H1 ≤ H' ∧ R' r' H1) : ACalls P Γ f args H R' := by
  intro G w vs hW hl hr
  refine (h G w vs hW hl hr).mono ?_
  rintro e w' ⟨v, G', r, H', he, x, hW', hv, hR⟩
  obtain ⟨r', H1, h1, h2, h3⟩ := hw r H' hR
  exact ⟨v, G', r', H1, he, x, hW'.forget h2, h1 _ _ _ hv, h3⟩

theorem ref01_Is_ok (s : Int) : Pur ref01_Is [I s] (B (sIs s)) := by
  intro H
  refine ref01_Is_of ?_
  unfold W_ref01_Is
  simp only [bop_eql, pureK_some, condK_B, decide_eq_true_eq, decide_eq_false_iff_not, ret1_pure]
  refine ⟨fun h => ⟨B_eq (by simp [sIs, h]), Heap.le_refl _⟩, fun h => ⟨fun h2 => ⟨B_eq (by simp [sIs, h2]), Heap.le_refl _⟩, fun h2 => ⟨B_eq (by rw [Bool.eq_iff_iff]; simp [sIs]; omega), Heap.le_refl _⟩⟩⟩

theorem ref01_Both_ok (a b : Int) : Pur ref01_Both [I a, I b] (I (sBothSign a b)) := by
  intro H
  refine ref01_Both_of ?_
  unfold W_ref01_Both
  refine (ref01_Is_ok a).run ?_
  simp only [unE_not, pureK_some]
  cases ha : sIs a with
  | false =>
    rw [Bool.not_false, condK_t]
    exact ret1_of H (Heap.le_refl _) ⟨I_eq (by simp [sBothSign, ha]), rfl⟩
  | true =>
  simp only [Bool.not_true, condK_f]
  refine (ref01_Is_ok b).run ?_
  simp only [unE_not, pureK_some]
  cases hb : sIs b with
  | false =>
    rw [Bool.not_false, condK_t]
    exact ret1_of H (Heap.le_refl _) ⟨I_eq (by simp [sBothSign, hb]), rfl⟩
  | true =>
  simp only [Bool.not_true, condK_f]
  simp only [condK_B, bop_eql, pureK_some, decide_eq_true_eq, decide_eq_false_iff_not, ret1_pure]
  have e : sBothSign a b = if a = 2 ∨ b = 2 then 2 else max a b := by simp [sBothSign, ha, hb]
  have h1 : a = 1 ∨ a = 2 ∨ a = 3 := by simp [sIs] at ha; omega
  have h2 : b = 1 ∨ b = 2 ∨ b = 3 := by simp [sIs] at hb; omega
  rw [e]
  refine ⟨fun h => ⟨I_eq (by simp [h]), Heap.le_refl _⟩, fun h => ⟨fun h3 => ⟨I_eq (by simp [h3]), Heap.le_refl _⟩, fun h3 => ⟨fun h4 => ⟨I_eq ?_, Heap.le_refl _⟩, fun h4 => ⟨fun h5 => ⟨I_eq ?_, Heap.le_refl _⟩, fun h5 => ⟨I_eq ?_, Heap.le_refl _⟩⟩⟩⟩⟩ <;> (rw [if_neg (by omega)]; omega)

theorem words_eq : words = [s_skip, s_throw, s_yield, s_skipp, s_throww, s_yieldd] := rfl
theorem ref03_word_ok (s : ByteArray) : Pur ref03_word [S s] (B (memB s words)) := by
  intro H
  refine ref03_word_of ?_
  unfold W_ref03_word
  have e : memB s words = (decide (s = s_skip) || (decide (s = s_throw) || (decide (s = s_yield) || (decide (s = s_skipp) || (decide (s = s_throww) || decide (s = s_yieldd)))))) := by
    rw [words_eq, Bool.eq_iff_iff, memB_iff]
    simp
  rw [e]
  simp only [bop_seql, pureK_some]
  cases decide (s = s_skip) with
  | true =>
    rw [condK_t]
    exact ret1_of H (Heap.le_refl _) ⟨rfl, rfl⟩
  | false =>
  simp only [condK_f, Bool.false_or]
  cases decide (s = s_throw) with
  | true =>
    rw [condK_t]
    exact ret1_of H (Heap.le_refl _) ⟨rfl, rfl⟩
  | false =>
  simp only [condK_f, Bool.false_or]
  cases decide (s = s_yield) with
  | true =>
    rw [condK_t]
    exact ret1_of H (Heap.le_refl _) ⟨rfl, rfl⟩
  | false =>
  simp only [condK_f, Bool.false_or]
  cases decide (s = s_skipp) with
  | true =>
    rw [condK_t]
    exact ret1_of H (Heap.le_refl _) ⟨rfl, rfl⟩
  | false =>
  simp only [condK_f, Bool.false_or]
  cases decide (s = s_throww) with
  | true =>
    rw [condK_t]
    exact ret1_of H (Heap.le_refl _) ⟨rfl, rfl⟩
  | false =>
  simp only [condK_f, Bool.false_or]
  exact ret1_of H (Heap.le_refl _) ⟨rfl, rfl⟩

theorem ref10_node_ok (k s : Int) : Pur ref10_node [I k, I s] (nd ⟨k, emp, s⟩) := by
  intro H
  refine ref10_node_of ?_
  unfold W_ref10_node
  intro o ho
  rw [bld_02]
  simp only [pureK_some]
  rw [st_nd3]
  simp only [heapK_some]
  rw [ld_nd (n := ⟨k, emp, s⟩)]
  simp only [pureK_some]
  exact ret1_of H (by simp [ho]) ⟨rfl, rfl⟩

theorem appended_row (l : List Node) (p : Perm) : appended 3 (rowA l p) = some (l.map nd) := by simp [appended]

theorem One_bld (n : Node) (a : List Node) (p : Perm) (hl : a.length ≤ 1000000) (H : Heap) : ACalls PP gΓ ref03_One [nd n, rowA a p] H (fun r H' => ∃ q, r = rowA (n :: a) q ∧ Bld H H' q (n :: a).length) := by
  refine ref03_One_of ?_
  unfold W_ref03_One
  refine allocK_nd fun o ho => ?_
  rw [ld_nd]
  simp only [pureK_some]
  have e1 : bsl 3 (.agg [I 0, S emp, I 0]) 1 [(0, nd n)] = some (rowA [n] .exact) := rfl
  rw [e1]
  simp only [pureK_some]
  refine appK_bld (H0 := H.upd o (.cells [I n.kind, S n.name, I n.sign])) (s := 3) (ys := [nd n]) (.inl ⟨rfl, rfl⟩) (.inr ⟨rfl, rfl⟩) rfl (by simp [maxApp]) ?_
  intro q H1 h1
  refine appK_bld (s := 3) h1 (.inl rfl) (appended_row a p) (by simp [maxApp]; omega) ?_
  intro q2 H2 h2
  obtain ⟨H3, h3, h4⟩ := h2.fall ho
  exact ret1_of H3 h3 ⟨q2, by simp, by simpa using h4⟩

theorem ref03_One_ok (n : Node) (a : List Node) (p : Perm) (hl : a.length ≤ 1000000) : Pur ref03_One [nd n, rowA a p] (rowA (n :: a) .no) := by
  intro H
  refine (One_bld n a p hl H).less ?_
  rintro r H' ⟨q, rfl, hb⟩
  exact ⟨_, H, Weaker.lst, hb.le, rfl, rfl⟩

theorem ref03_Two_ok (n : Node) (a b : List Node) (p q : Perm) (hl : a.length + b.length ≤ 1000000) : Pur ref03_Two [nd n, rowA a p, rowA b q] (rowA (n :: (a ++ b)) .no) := by
  intro H
  refine ACalls.less (R := fun r H' => ∃ q, r = rowA (n :: (a ++ b)) q ∧ Bld H H' q (n :: (a ++ b)).length) ?_ ?_
  · refine ref03_Two_of ?_
    unfold W_ref03_Two
    refine allocK_nd fun o ho => ?_
    rw [ld_nd]
    simp only [pureK_some]
    refine (One_bld n a p (by omega) _).mono ?_
    rintro r H1 ⟨q1, rfl, h1⟩
    refine appK_bld (s := 3) (es := (n :: a).map nd) (by simpa using h1) (.inl rfl) (appended_row b q) (by simp [maxApp]; omega) ?_
    intro q2 H2 h2
    obtain ⟨H3, h3, h4⟩ := h2.fall ho
    exact ret1_of H3 h3 ⟨q2, by simp, by simpa [Nat.add_assoc, Nat.add_comm, Nat.add_left_comm] using h4⟩
  · rintro r H' ⟨q, rfl, hb⟩
    exact ⟨_, H, Weaker.lst, hb.le, rfl, rfl⟩

theorem ref10_over_ok (s : Int) : Pur ref10_over [I s] (rowA [⟨11, emp, s⟩] .no) := by
  refine Pur.weaken (φ := fun r => r = rowA [⟨11, emp, s⟩] .exact) (fun H => ?_) (fun r h => by subst h; exact Weaker.lst)
  refine ref10_over_of ?_
  unfold W_ref10_over
  refine (ref10_node_ok 11 s).run ?_
  have e1 : bsl 3 (.agg [I 0, S emp, I 0]) 1 [(0, nd ⟨11, emp, s⟩)] = some (rowA [⟨11, emp, s⟩] .exact) := rfl
  rw [e1, pureK_some]
  exact ret1_of H (Heap.le_refl _) ⟨rfl, rfl⟩

theorem ref10_end_ok (s : Int) (c : List Node) (p : Perm) (hc : c.length ≤ 1000000) : Pur ref10_end [I s, rowA c p] (rowA (⟨14, emp, s⟩ :: c) .no) := by
  intro H
  refine ref10_end_of ?_
  unfold W_ref10_end
  refine (ref10_node_ok 14 s).run ?_
  refine (ref03_One_ok ⟨14, emp, s⟩ c p hc).run ?_
  exact ret1_of H (Heap.le_refl _) ⟨rfl, rfl⟩

theorem ixs_get {s : ByteArray} {k : Nat} (h : k < s.size) : ixs (S s) (I k) = some (.sc (.int .u8 s[k].toNat)) := by
  simp [ixs, h]

theorem ref03_Right_ok (n : Node) (hn : n.name.size ≤ 4611686018427387904) : Pur ref03_Right [nd n] (B (right n)) := by
  intro H
  refine ref03_Right_of ?_
  unfold W_ref03_Right
  refine allocK_nd fun o ho => ?_
  have hle : H ≤ H.upd o (.cells [I n.kind, S n.name, I n.sign]) := by simp [ho]
  have hg : (H.upd o (.cells [I n.kind, S n.name, I n.sign])) o = some (.cells [I n.kind, S n.name, I n.sign]) := Heap.upd_same _ _ _
  generalize H.upd o (.cells [I n.kind, S n.name, I n.sign]) = HB at hle hg ⊢
  simp only [fa_ptr, pureK_some, Nat.zero_add, ld_ptr hg, cutE_one, get0, get1, get2]
  refine (ref03_Arity_ok _).run ?_
  simp only [fa_ptr, Nat.zero_add, ld_ptr hg, cutE_one, get0, get1, get2, bop_lss, bop_eql, bop_seql, bop_geq, bop_leq, pureK_some, condK_B, decide_eq_true_eq, decide_eq_false_iff_not]
  refine ⟨fun h => ret1_of H hle ⟨B_eq ?_, rfl⟩, fun h => ⟨fun h1 => ?_, fun h1 => ?_⟩⟩
  · unfold right
    rw [if_neg (by intro e; rw [e] at h; exact absurd h (by decide)), if_neg (by rintro (e | e) <;> rw [e] at h <;> exact absurd h (by decide))]
    simp; intros; omega
  · refine ⟨fun vs H' m => ∃ k : Nat, vs = [.ptr o 0, I k] ∧ H' = HB ∧ m = n.name.size - k ∧ k ≤ n.name.size ∧ ∀ i (hi : i < n.name.size), i < k → lettersF n.name[i].toNat = true, ⟨_, HB, Heap.le_refl _, 0, rfl, rfl, rfl, Nat.zero_le _, fun i _ h => by omega⟩, ?_⟩
    rintro vs H' m ⟨k, rfl, rfl, rfl, hk, hall⟩
    simp only [nth_zero, nth_succ, fa_ptr, pureK_some, Nat.zero_add, ld_ptr hg, cutE_one, get0, get1, get2, lns_S, bop_lss, condK_B, decide_eq_true_eq, decide_eq_false_iff_not]
    refine ⟨fun h2 => ?_, fun h2 => ?_⟩
    · have hk' : k < n.name.size := by omega
      rw [ixs_get hk']
      simp only [pureK_some, bop_lss, bop_gtr, condK_B, decide_eq_true_eq, decide_eq_false_iff_not]
      have no : lettersF n.name[k].toNat = false → ret1 H' (fun r H' => r = B (right n) ∧ H' = H) (B false) := fun hb => by
        refine ret1_of H hle ⟨B_eq ?_, rfl⟩
        have : allLetters n.name = false := by
          cases e : allLetters n.name with
          | false => rfl
          | true => rw [(allLetters_iff _).1 e k hk'] at hb; cases hb
        simp [right, h1, named, this]
      refine ⟨fun h3 => no (by simp [lettersF]; omega), fun h3 => ⟨fun h4 => no (by simp [lettersF]; omega), fun h4 => ?_⟩⟩
      rw [bop_add (by omega) (by omega)]
      refine ⟨n.name.size - (k + 1), H', by omega, Heap.le_refl _, k + 1, rfl, rfl, rfl, by omega, fun i hi hik => ?_⟩
      by_cases e : i < k
      · exact hall i hi e
      · have : i = k := by omega
        subst this
        simp [lettersF]; omega
    · have hk' : k = n.name.size := by omega
      subst hk'
      have hal : allLetters n.name = true := (allLetters_iff _).2 fun i hi => hall i hi hi
      simp only [bop_geq, bop_leq, bop_eql, pureK_some, condK_B, decide_eq_true_eq, decide_eq_false_iff_not]
      have hemp : n.name = emp ↔ n.name.size = 0 := by
        constructor
        · intro e; rw [e]; rfl
        · intro e; exact ByteArray.size_eq_zero_iff.1 e
      refine ⟨fun h3 => ⟨fun h4 => ⟨fun h5 => ?_, fun h5 => ret1_of H hle ⟨B_eq ?_, rfl⟩⟩, fun h4 => ret1_of H hle ⟨B_eq ?_, rfl⟩⟩, fun h3 => ret1_of H hle ⟨B_eq ?_, rfl⟩⟩
      · refine (ref03_word_ok _).run ?_
        simp only [unE_not, pureK_some]
        refine ret1_of H hle ⟨B_eq ?_, rfl⟩
        have h6 : n.name ≠ emp := fun e => by have := hemp.1 e; omega
        have h7 : n.name.size ≤ 8 := by omega
        simp [right, h1, h5, named, hal, h6, h7]
      · simp [right, h1, h5]
      · have : ¬ n.name.size ≤ 8 := by omega
        simp [right, h1, named, this]
      · have : n.name = emp := hemp.2 (by omega)
        simp [right, h1, named, this]
  · have ar : arity n.kind = -1 ∨ 0 ≤ arity n.kind := by have := arity_range n.kind; omega
    refine ⟨fun h2 => ⟨fun h3 => ⟨fun h4 => ret1_of H hle ⟨B_eq ?_, rfl⟩, fun h4 => ret1_of H hle ⟨B_eq ?_, rfl⟩⟩, fun h3 => ret1_of H hle ⟨B_eq ?_, rfl⟩⟩,
      fun h2 => ⟨fun h3 => ⟨fun h4 => ⟨fun h5 => ret1_of H hle ⟨B_eq ?_, rfl⟩, fun h5 => ret1_of H hle ⟨B_eq ?_, rfl⟩⟩, fun h4 => ret1_of H hle ⟨B_eq ?_, rfl⟩⟩, fun h3 => ⟨fun h4 => ret1_of H hle ⟨B_eq ?_, rfl⟩, fun h4 => ret1_of H hle ⟨B_eq ?_, rfl⟩⟩⟩⟩
    · simp [right, h2, h3, show (1 : Int) ≤ n.sign by omega]
    · have : ¬ (1 : Int) ≤ n.sign := by omega
      simp [right, h2, this]
    · simp [right, h2, h3]
    · simp [right, h3, h4, show (1 : Int) ≤ n.sign by omega]
    · have : ¬ (1 : Int) ≤ n.sign := by omega
      simp [right, h3, this]
    · simp [right, h3, h4]
    · have ha : 0 ≤ arity n.kind := by omega
      simp [right, h1, h2, h3, h4, ha]
    · simp [right, h1, h2, h3, h4]

end Go.Av
namespace Go.Av
open Go Go.Proofs

theorem forest_prefix : ∀ (ts us : List Tr) (r s : List Node), (∀ t, t ∈ ts → t.ok) → (∀ t, t ∈ us → t.ok) → ts.length ≤ us.length → ts.flatMap Tr.flat ++ r = us.flatMap Tr.flat ++ s → ∃ vs, us = ts ++ vs ∧ r = vs.flatMap Tr.flat ++ s := by
  intro ts
  induction ts with
  | nil => intro us r s _ _ _ h; exact ⟨us, rfl, by simpa using h⟩
  | cons t ts ih =>
    intro us r s h1 h2 hl h
    cases us with
    | nil => simp at hl
    | cons u us =>
      simp only [List.flatMap_cons, List.append_assoc] at h
      obtain ⟨e1, e2⟩ := flat_inj t u _ _ (h1 t (by simp)) (h2 u (by simp)) h
      obtain ⟨vs, e3, e4⟩ := ih us r s (fun x hx => h1 x (by simp [hx])) (fun x hx => h2 x (by simp [hx])) (by simpa using hl) e2
      exact ⟨vs, by rw [e1, e3]; rfl, e4⟩

theorem Tr.flat_kids (t : Tr) : t.flat = t.root :: t.kids.flatMap Tr.flat := by
  cases t <;> simp [Tr.flat, Tr.root, Tr.kids]

/-- Does a tree begin there? -/
def Begins (l : List Node) (a n : Nat) : Prop := ∃ (t : Tr) (r : List Node), t.ok ∧ l.drop a = t.flat ++ r ∧ n = a + t.flat.length

def walkX (l : List Node) (a : Nat) (r : AV) : Prop := ∃ n d : Int, r = .tup [I n, I d] ∧ ((n = -1 ∧ d = 0 ∧ ∀ m, ¬ Begins l a m) ∨ ∃ m : Nat, n = m ∧ Begins l a m ∧ 0 ≤ d ∧ d ≤ n - a)

theorem Begins.le {l : List Node} {a n : Nat} (h : Begins l a n) : a < n ∧ n ≤ l.length := by
  obtain ⟨t, r, _, h2, rfl⟩ := h
  have := congrArg List.length h2
  simp only [List.length_drop, List.length_append] at this
  have := t.flat_pos
  omega

theorem of_kids {n : Node} {ts : List Tr} (h : ∀ t, t ∈ ts → t.ok) (ha : arity n.kind = ts.length) : ∃ t : Tr, t.ok ∧ t.flat = n :: ts.flatMap Tr.flat := by
  have hr := arity_range n.kind
  match ts, h, ha with
  | [], _, ha => exact ⟨.l0 n, ha, by simp [Tr.flat]⟩
  | [a], h, ha => exact ⟨.l1 n a, ⟨ha, h a (by simp)⟩, by simp [Tr.flat]⟩
  | [a, b], h, ha => exact ⟨.l2 n a b, ⟨ha, h a (by simp), h b (by simp)⟩, by simp [Tr.flat]⟩
  | a :: b :: c :: ts, _, ha => simp at ha; omega

theorem ref03_WalkX_ok (l : List Node) (p : Perm) (hl : small l.length) : ∀ (fuel : Nat) (a : Nat), l.length - a < fuel → PurR ref03_Walk [rowA l p, I a] (walkX l a) := by
  intro fuel
  induction fuel with
  | zero => intro a h; omega
  | succ fuel ih =>
    intro a hf H
    refine ref03_Walk_of ?_
    unfold W_ref03_Walk
    simp only [lnl_lst, pureK_some, List.length_map, bop_geq, condK_B, ret1_rel, decide_eq_true_eq, decide_eq_false_iff_not]
    refine ⟨fun h => ⟨⟨-1, 0, rfl, .inl ⟨rfl, rfl, fun m hb => ?_⟩⟩, Heap.le_refl _⟩, fun h => ?_⟩
    · have := hb.le; omega
    have ha : a < l.length := by omega
    rw [ias_row (by omega) (by omega)]
    simp only [pureK_some, fa_cp, ld_cp, cutE_one, Nat.zero_add, get0, Int.toNat_natCast]
    refine (ref03_Arity_ok _).run ?_
    have hr := arity_range l[a].kind
    have hd : l.drop a = l[a] :: l.drop (a + 1) := List.drop_eq_getElem_cons ha
    simp only [bop_lss, pureK_some, condK_B, decide_eq_true_eq, decide_eq_false_iff_not]
    refine ⟨fun h => ⟨⟨-1, 0, rfl, .inl ⟨rfl, rfl, fun m hb => ?_⟩⟩, Heap.le_refl _⟩, fun h => ?_⟩
    · obtain ⟨t, r, h1, h2, _⟩ := hb
      rw [hd, t.flat_root] at h2
      injection h2 with h2 _
      have := Tr.arity_root h1
      rw [← h2] at this
      omega
    generalize hm : arity l[a].kind = m at hr h
    rw [bop_add (by omega) (by omega)]
    simp only [pureK_some]
    refine ⟨fun vs H' n => ∃ (ts : List Tr) (next : Nat) (deep : Int), vs = [rowA l p, I a, I next, I deep, I ts.length] ∧ H' = H ∧ n = (m - ts.length).toNat ∧ (∀ t, t ∈ ts → t.ok) ∧ l.drop (a + 1) = ts.flatMap Tr.flat ++ l.drop next ∧ next = a + 1 + (ts.flatMap Tr.flat).length ∧ next ≤ l.length ∧ 0 ≤ deep ∧ deep ≤ next - a - 1 ∧ ts.length ≤ m,
      ⟨_, H, Heap.le_refl _, [], a + 1, 0, rfl, rfl, rfl, (fun t ht => by simp at ht), by simp, by simp, by omega, by omega, by omega, by simp; omega⟩, ?_⟩
    rintro vs H' n ⟨ts, next, deep, rfl, rfl, rfl, g1, g2, g3, g4, g5, g6, g7⟩
    simp only [nth_zero, nth_succ]
    rw [ias_row (by omega) (by omega)]
    simp only [pureK_some, fa_cp, ld_cp, cutE_one, Nat.zero_add, get0, Int.toNat_natCast]
    refine (ref03_Arity_ok _).run ?_
    rw [hm]
    simp only [bop_lss, pureK_some, condK_B, decide_eq_true_eq, decide_eq_false_iff_not]
    refine ⟨fun h => ?_, fun h => ?_⟩
    · refine (ih next (by omega)).run ?_
      rintro v ⟨n1, d1, rfl, hnd⟩
      simp only [extractE_tup, get0, get1, bop_lss, bop_gtr, pureK_some, condK_B, decide_eq_true_eq, decide_eq_false_iff_not]
      refine ⟨fun h3 => ⟨⟨-1, 0, rfl, .inl ⟨rfl, rfl, fun M hb => ?_⟩⟩, Heap.le_refl _⟩, fun h3 => ?_⟩
      · rcases hnd with ⟨_, _, hno⟩ | ⟨m1, e1, _⟩
        · obtain ⟨t, r, k1, k2, _⟩ := hb
          rw [hd, t.flat_kids] at k2
          injection k2 with k2 k3
          have ar := Tr.arity_root k1
          rw [← k2, hm] at ar
          rw [g2] at k3
          obtain ⟨us, k4, k5⟩ := forest_prefix ts t.kids _ _ g1 (Tr.kids_ok k1) (by omega) k3
          have hul : 0 < us.length := by
            have := congrArg List.length k4
            simp at this; omega
          match us, hul, k4, k5 with
          | u :: us, _, k4, k5 =>
            refine hno _ ⟨u, us.flatMap Tr.flat ++ r, Tr.kids_ok k1 u (by rw [k4]; simp), ?_, rfl⟩
            rw [k5]; simp
        · omega
      · rcases hnd with ⟨e1, _⟩ | ⟨m1, rfl, hb, d0, d2⟩
        · omega
        · have hb' := hb
          obtain ⟨t, r, k1, k2, k3⟩ := hb'
          have hle := hb.le
          have hr2 : r = l.drop m1 := by
            have : l.drop m1 = (l.drop next).drop t.flat.length := by rw [List.drop_drop, k3]
            rw [this, k2, List.drop_left]
          have inv : (∀ x, x ∈ ts ++ [t] → x.ok) ∧ l.drop (a + 1) = (ts ++ [t]).flatMap Tr.flat ++ l.drop m1 ∧ m1 = a + 1 + ((ts ++ [t]).flatMap Tr.flat).length := by
            refine ⟨fun x hx => ?_, ?_, ?_⟩
            · rcases List.mem_append.1 hx with hx | hx
              · exact g1 x hx
              · rw [List.mem_singleton.1 hx]; exact k1
            · rw [g2, k2, hr2]; simp
            · rw [List.flatMap_append, List.length_append]; simp only [List.flatMap_cons, List.flatMap_nil, List.append_nil]; omega
          rw [bop_add (by omega) (by omega)]
          simp only [pureK_some]
          refine ⟨fun h4 => ⟨_, _, ?_, Heap.le_refl _, ts ++ [t], m1, d1, by simp, rfl, rfl, inv.1, inv.2.1, inv.2.2, by omega, by omega, by omega, by simp; omega⟩, fun h4 => ⟨_, _, ?_, Heap.le_refl _, ts ++ [t], m1, deep, by simp, rfl, rfl, inv.1, inv.2.1, inv.2.2, by omega, by omega, by omega, by simp; omega⟩⟩ <;> (simp; omega)
    · rw [bop_add (by omega) (by omega)]
      simp only [pureK_some]
      refine ⟨⟨next, deep + 1, rfl, .inr ⟨next, rfl, ?_, by omega, by omega⟩⟩, Heap.le_refl _⟩
      obtain ⟨t, k1, k2⟩ := of_kids (n := l[a]) g1 (by omega)
      refine ⟨t, l.drop next, k1, ?_, ?_⟩
      · rw [hd, k2, g2]; rfl
      · rw [k2]; simp only [List.length_cons]; omega

theorem Begins.unique {l : List Node} {a n m : Nat} (h1 : Begins l a n) (h2 : Begins l a m) : n = m := by
  obtain ⟨t, r, k1, k2, rfl⟩ := h1
  obtain ⟨u, s, j1, j2, rfl⟩ := h2
  obtain ⟨e, _⟩ := flat_inj t u r s k1 j1 (by rw [← k2, j2])
  rw [e]

theorem ref03_Size_ok (l : List Node) (p : Perm) (hl : small l.length) : PurR ref03_Size [rowA l p] (fun r => ∃ z : Nat, r = I z ∧ ((z = 0 ∧ ∀ m, ¬ Begins l 0 m) ∨ Begins l 0 z)) := by
  intro H
  refine ref03_Size_of ?_
  unfold W_ref03_Size
  refine (ref03_WalkX_ok l p hl (l.length + 1) 0 (by omega)).run ?_
  rintro v ⟨n, d, rfl, h⟩
  simp only [extractE_tup, get0, get1, pureK_some, bop_lss, condK_B, ret1_rel, decide_eq_true_eq, decide_eq_false_iff_not]
  refine ⟨fun h1 => ⟨⟨0, rfl, .inl ⟨rfl, ?_⟩⟩, Heap.le_refl _⟩, fun h1 => ?_⟩
  · rcases h with ⟨_, _, h⟩ | ⟨m, e, _⟩
    · exact h
    · omega
  · rcases h with ⟨e, _⟩ | ⟨m, rfl, hb, _⟩
    · omega
    · exact ⟨⟨m, rfl, .inr hb⟩, Heap.le_refl _⟩

theorem size_iff {l : List Node} {z : Nat} (h0 : 0 < l.length) (h : (z = 0 ∧ ∀ m, ¬ Begins l 0 m) ∨ Begins l 0 z) : (z : Int) = l.length ↔ size l = l.length := by
  constructor
  · intro e
    rcases h with ⟨h1, _⟩ | ⟨t, r, k1, k2, k3⟩
    · omega
    · have := congrArg List.length k2
      simp only [List.length_drop, List.length_append] at this
      have hr : r = [] := List.eq_nil_of_length_eq_zero (by omega)
      rw [hr, List.append_nil] at k2
      have e2 := size_flat k1 []
      rw [List.append_nil] at e2
      have : l = t.flat := by simpa using k2
      rw [this, e2]
  · intro e
    obtain ⟨t, k1, k2⟩ := parse (by intro e; rw [e] at h0; simp at h0) e
    have hb : Begins l 0 l.length := ⟨t, [], k1, by simp [k2], by simp [k2]⟩
    rcases h with ⟨_, h⟩ | h
    · exact absurd hb (h _)
    · rw [h.unique hb]

theorem ref03_Whole_ok (l : List Node) (p : Perm) (hl : small l.length) (hn : names l) : Pur ref03_Whole [rowA l p] (B (whole l)) := by
  intro H
  refine ref03_Whole_of ?_
  unfold W_ref03_Whole
  refine ⟨fun vs H' n => ∃ k : Nat, vs = [rowA l p, I k] ∧ H' = H ∧ n = l.length - k ∧ k ≤ l.length ∧ (l.take k).all right = true, ⟨_, H, Heap.le_refl _, 0, rfl, rfl, rfl, Nat.zero_le _, rfl⟩, ?_⟩
  rintro vs H' n ⟨k, rfl, rfl, rfl, hk, hall⟩
  simp only [nth_zero, nth_succ, lnl_lst, List.length_map, bop_lss, pureK_some, condK_B, decide_eq_true_eq, decide_eq_false_iff_not]
  refine ⟨fun h => ?_, fun h => ?_⟩
  · have hk' : k < l.length := by omega
    rw [ias_row (by omega) (by omega)]
    simp only [pureK_some, ld_cp, cut_nd, Int.toNat_natCast]
    refine (ref03_Right_ok _ (hn _ (List.getElem_mem hk'))).run ?_
    simp only [unE_not, pureK_some]
    cases hr : right l[k] with
    | false =>
      rw [Bool.not_false, condK_t]
      refine ret1_of H' (Heap.le_refl _) ⟨B_eq ?_, rfl⟩
      have : l.all right = false := by
        rw [List.all_eq_false]; exact ⟨l[k], List.getElem_mem hk', by simp [hr]⟩
      simp [whole, this]
    | true =>
      rw [Bool.not_true, condK_f, bop_add (by omega) (by omega)]
      refine ⟨l.length - (k + 1), H', by omega, Heap.le_refl _, k + 1, rfl, rfl, rfl, by omega, ?_⟩
      rw [List.take_succ_eq_append_getElem hk', List.all_append, hall]
      simp [hr]
  · have hk' : k = l.length := by omega
    subst hk'
    rw [List.take_length] at hall
    simp only [bop_geq, bop_leq, pureK_some, condK_B, decide_eq_true_eq, decide_eq_false_iff_not]
    refine ⟨fun h1 => ⟨fun h2 => ?_, fun h2 => ret1_of H' (Heap.le_refl _) ⟨B_eq ?_, rfl⟩⟩, fun h1 => ret1_of H' (Heap.le_refl _) ⟨B_eq ?_, rfl⟩⟩
    · refine (ref03_Size_ok l p hl).run ?_
      rintro v ⟨z, rfl, hz⟩
      simp only [bop_eql, pureK_some]
      refine ret1_of H' (Heap.le_refl _) ⟨B_eq ?_, rfl⟩
      have := size_iff (by omega) hz
      have h3 : 0 < l.length ∧ l.length ≤ 200 := by omega
      simp [whole, hall, h3, this]
    · have : ¬ (0 < l.length ∧ l.length ≤ 200) := by omega
      simp only [whole, decide_eq_false this, Bool.false_and]
    · have : ¬ (0 < l.length ∧ l.length ≤ 200) := by omega
      simp only [whole, decide_eq_false this, Bool.false_and]

theorem sll_no {l : List Node} {a b : Nat} (h : a ≤ b) (h2 : b ≤ l.length) : sll 3 (rowA l .no) (some (I a)) (some (I b)) none = some (rowA ((l.take b).drop a) .no) := by
  simp [sll, bound, h, h2]
theorem sll_no1 {x : Node} {r : List Node} : sll 3 (rowA (x :: r) .no) (some (I 1)) none none = some (rowA r .no) := by
  simp [sll, bound, List.take_of_length_le]

theorem ref03_Kids_ok (t : Tr) (ht : t.ok) (hl : t.flat.length ≤ 1000000) : Pur ref03_Kids [rowA t.flat .no] (rowsA (t.kids.map Tr.flat) .no) := by
  refine Pur.weaken (φ := fun r => (r = .lst 0 [] .exact ∧ t.kids = []) ∨ ∃ q, r = rowsA (t.kids.map Tr.flat) q) (fun H => ?_) ?_
  rotate_left
  · rintro r (⟨rfl, hk⟩ | ⟨q, rfl⟩)
    · rw [hk]; exact Weaker.empty
    · exact Weaker.lst
  refine ref03_Kids_of ?_
  unfold W_ref03_Kids
  have hpos := t.flat_pos
  have hsm : small t.flat.length := by unfold small; omega
  have hbt : Begins t.flat 0 t.flat.length := ⟨t, [], ht, by simp, by simp⟩
  refine (ref03_Size_ok t.flat .no hsm).run ?_
  rintro v ⟨z, rfl, hz⟩
  have hz' : z = t.flat.length := by
    rcases hz with ⟨_, h⟩ | h
    · exact absurd hbt (h _)
    · exact h.unique hbt
  subst hz'
  have hk2 := t.kids_le
  simp only [bop_eql, pureK_some, condK_B, decide_eq_true_eq, decide_eq_false_iff_not]
  refine ⟨fun h => by omega, fun _ => ?_⟩
  refine ⟨fun vs H' n => ∃ (k : Nat) (s : Nat) (q : Perm), k ≤ t.kids.length ∧ vs = [rowA t.flat .no, .lst s (((t.kids.take k).map Tr.flat).map fun l => rowA l .no) q, I (1 + ((t.kids.take k).flatMap Tr.flat).length), I k] ∧ n = t.kids.length - k ∧ Bld H H' q k ∧ (s = 1 ∨ (k = 0 ∧ q = .exact ∧ s = 0)),
    ⟨_, H, Heap.le_refl _, 0, 0, .exact, Nat.zero_le _, rfl, rfl, .inl ⟨rfl, rfl⟩, .inr ⟨rfl, rfl, rfl⟩⟩, ?_⟩
  rintro vs H' n ⟨k, s, q, hk, rfl, rfl, hb, hsq⟩
  simp only [nth_zero, nth_succ]
  rw [ias_root]
  simp only [pureK_some, fa_cp, ld_cp, cutE_one, Nat.zero_add, get0]
  refine (ref03_Arity_ok _).run ?_
  rw [Tr.arity_root ht]
  simp only [bop_lss, pureK_some, condK_B, decide_eq_true_eq, decide_eq_false_iff_not]
  refine ⟨fun h => ?_, fun h => ?_⟩
  · have hk' : k < t.kids.length := by omega
    obtain ⟨post, hpost⟩ := Tr.flat_split hk'
    have hkok := Tr.kids_ok ht _ (List.getElem_mem hk')
    have htk : t.kids.take (k + 1) = t.kids.take k ++ [t.kids[k]] := List.take_succ_eq_append_getElem hk'
    generalize hx : t.kids[k] = x at hpost hkok htk
    generalize hpre : (t.kids.take k).flatMap Tr.flat = pre at hpost hb ⊢
    have hat : (1 : Int) + pre.length = ((([t.root] ++ pre).length : Nat) : Int) := by simp; omega
    have hxl := x.flat_pos
    have hlen := congrArg List.length hpost
    simp only [List.length_append, List.length_cons, List.length_nil] at hlen
    rw [hat]
    refine (ref03_WalkX_ok t.flat .no hsm (t.flat.length + 1) ([t.root] ++ pre).length (by omega)).run ?_
    rintro v ⟨n1, d1, rfl, hnd⟩
    have hbx : Begins t.flat ([t.root] ++ pre).length (([t.root] ++ pre).length + x.flat.length) := ⟨x, post, hkok, by rw [hpost, List.append_assoc, List.drop_left], rfl⟩
    rcases hnd with ⟨_, _, hno⟩ | ⟨m1, rfl, hb1, _⟩
    · exact absurd hbx (hno _)
    have em := hb1.unique hbx
    subst em
    simp only [extractE_tup, get0, get1, pureK_some]
    rw [sll_no (by omega) (by simp; omega), hpost, take_drop_kid]
    simp only [pureK_some]
    have e3 : bsl 1 (.lst 0 [] .exact) 1 [(0, rowA x.flat .no)] = some (.lst 1 [rowA x.flat .no] .exact) := rfl
    rw [e3]
    simp only [pureK_some]
    refine appK_bld (H0 := H) (s := 1) (ys := [rowA x.flat .no]) (by simpa [Nat.min_eq_left hk] using hb) (hsq.imp id fun h => ⟨by obtain ⟨rfl, _⟩ := h; simp, h.2.1⟩) rfl (by simp [maxApp, Nat.min_eq_left hk]; omega) ?_
    intro q' H2 hb'
    rw [bop_add (by omega) (by omega)]
    simp only [pureK_some]
    refine ⟨t.kids.length - (k + 1), _, by omega, Heap.le_refl _, k + 1, 1, q', by omega, ?_, rfl, ?_, .inl rfl⟩
    · rw [htk]; simp [hpre]; omega
    · simpa [Nat.min_eq_left hk] using hb'
  · have hk' : k = t.kids.length := by omega
    subst hk'
    refine ret1_of H hb.le ⟨?_, rfl⟩
    rw [List.take_length]
    rcases hsq with rfl | ⟨h0, rfl, rfl⟩
    · exact .inr ⟨q, rfl⟩
    · have : t.kids = [] := List.eq_nil_of_length_eq_zero h0
      rw [this]
      exact .inl ⟨rfl, rfl⟩

end Go.Av
namespace Go.Av
open Go Go.Proofs

def isSort (s x : Int) : Bool := if s = 1 then decide (x = 1) else if s = 2 then decide (x = 2) else if s = 3 then decide (x = 1) || decide (x = 3) else decide (x = 2) || decide (x = 4)
def plainF : Tr → Bool
  | .l0 n => decide (n.kind = 1 ∨ n.kind = 2 ∨ n.kind = 3 ∨ n.kind = 4)
  | .l1 n a => decide (n.kind = 9) && isSort 2 (sortT a)
  | .l2 n a b => decide (n.kind = 5 ∨ n.kind = 6 ∨ n.kind = 7 ∨ n.kind = 8) && (isSort 1 (sortT a) && isSort 1 (sortT b))
def pairedF : Tr → Bool
  | .l0 _ => false
  | .l1 _ _ => false
  | .l2 n a b => if n.kind = 10 then isSort 1 (sortT a) && isSort 1 (sortT b) else if n.kind = 5 ∨ n.kind = 6 ∨ n.kind = 7 then isSort 2 (sortT a) && isSort 2 (sortT b) else false
def plainOnF : Tr → Bool
  | .l0 n => decide (n.kind = 11)
  | .l1 n a => decide (n.kind = 9) && isSort 4 (sortT a)
  | .l2 n a b => if n.kind = 5 ∨ n.kind = 8 then isSort 3 (sortT a) && isSort 1 (sortT b) else if n.kind = 7 then isSort 3 (sortT a) && isSort 3 (sortT b) else false
def pairedOnF : Tr → Bool
  | .l0 _ => false
  | .l1 n a => decide (n.kind = 14) && isSort 1 (sortT a)
  | .l2 n a b => if n.kind = 12 then isSort 3 (sortT a) && isSort 1 (sortT b) else if n.kind = 5 then isSort 4 (sortT a) && isSort 2 (sortT b) else if n.kind = 7 then isSort 4 (sortT a) && isSort 4 (sortT b) else if n.kind = 13 then isSort 4 (sortT a) && isSort 1 (sortT b) else false

/-- What has been shown of ref04.Is. -/
def IsOk (x : Tr) : Prop := ∀ s, Pur ref04_Is [rowA x.flat .no, I s] (B (isSort s (sortT x)))

theorem is_and {a b : Tr} {s1 s2 : Int} {H : Heap} {v : Bool} (ha : IsOk a) (hb : IsOk b) (hv : (isSort s1 (sortT a) && isSort s2 (sortT b)) = v) :
    ACalls PP gΓ ref04_Is [rowA a.flat .no, I s1] H fun x11 H12 => condK x11 (pureK (ias 1 (rowsA ([a, b].map Tr.flat) .no) (I 1)) fun x13 => pureK (ld (some false) 1 H12 x13) fun x14 =>
      ACalls PP gΓ ref04_Is [x14, I s2] H12 fun x15 H16 => ret1 H16 (fun r H' => r = B v ∧ H' = H) x15) (ret1 H12 (fun r H' => r = B v ∧ H' = H) (B false)) := by
  refine (ha s1).run ?_
  cases h : isSort s1 (sortT a) with
  | false =>
    rw [condK_f]
    rw [h, Bool.false_and] at hv
    exact ret1_of H (Heap.le_refl _) ⟨by rw [hv], rfl⟩
  | true =>
    rw [condK_t, kids1]
    simp only [pureK_some, ld_cp, cutE_one, get0]
    rw [h, Bool.true_and] at hv
    refine (hb s2).run ?_
    exact ret1_of H (Heap.le_refl _) ⟨by rw [hv], rfl⟩

theorem is_one {a : Tr} {s1 : Int} {H : Heap} {v : Bool} (ha : IsOk a) (hv : isSort s1 (sortT a) = v) :
    ACalls PP gΓ ref04_Is [rowA a.flat .no, I s1] H fun x15 H16 => ret1 H16 (fun r H' => r = B v ∧ H' = H) x15 := by
  refine (ha s1).run ?_
  exact ret1_of H (Heap.le_refl _) ⟨by rw [hv], rfl⟩

theorem kind0 {n : Node} (h : arity n.kind = 0) : n.kind = 1 ∨ n.kind = 2 ∨ n.kind = 3 ∨ n.kind = 4 ∨ n.kind = 11 := by unfold arity at h; omega
theorem kind1 {n : Node} (h : arity n.kind = 1) : n.kind = 9 ∨ n.kind = 14 := by unfold arity at h; omega
theorem kind2 {n : Node} (h : arity n.kind = 2) : n.kind = 5 ∨ n.kind = 6 ∨ n.kind = 7 ∨ n.kind = 8 ∨ n.kind = 10 ∨ n.kind = 12 ∨ n.kind = 13 := by unfold arity at h; omega

theorem ref04_plain_ok (t : Tr) (ht : t.ok) (ih : ∀ x, x ∈ t.kids → IsOk x) : Pur ref04_plain [rowA t.flat .no, rowsA (t.kids.map Tr.flat) .no] (B (plainF t)) := by
  intro H
  refine ref04_plain_of ?_
  unfold W_ref04_plain
  rw [ias_root]
  cases t with
  | l0 n =>
    simp only [pureK_some, fa_cp, ld_cp, cutE_one, Nat.zero_add, get0, Tr.root]
    rcases kind0 ht with h | h | h | h | h <;> simp only [h, bop_eql, pureK_some, Int.reduceEq, decide_false, decide_true, condK_t, condK_f] <;> exact ret1_of H (Heap.le_refl _) ⟨by simp [plainF, h], rfl⟩
  | l1 n a =>
    have ha := ih a (by simp [Tr.kids])
    simp only [pureK_some, fa_cp, ld_cp, cutE_one, Nat.zero_add, get0, Tr.root, Tr.kids, kid0]
    rcases kind1 ht.1 with h | h <;> simp only [h, bop_eql, pureK_some, Int.reduceEq, decide_false, decide_true, condK_t, condK_f]
    · exact is_one ha (by simp [plainF, h])
    · exact ret1_of H (Heap.le_refl _) ⟨by simp [plainF, h], rfl⟩
  | l2 n a b =>
    have ha := ih a (by simp [Tr.kids])
    have hb := ih b (by simp [Tr.kids])
    simp only [pureK_some, fa_cp, ld_cp, cutE_one, Nat.zero_add, get0, Tr.root, Tr.kids, kids0]
    rcases kind2 ht.1 with h | h | h | h | h | h | h <;> simp only [h, bop_eql, pureK_some, Int.reduceEq, decide_false, decide_true, condK_t, condK_f]
    all_goals first | exact is_and ha hb (by simp [plainF, h]) | exact ret1_of H (Heap.le_refl _) ⟨by simp [plainF, h], rfl⟩

theorem ref04_paired_ok (t : Tr) (ht : t.ok) (ih : ∀ x, x ∈ t.kids → IsOk x) : Pur ref04_paired [rowA t.flat .no, rowsA (t.kids.map Tr.flat) .no] (B (pairedF t)) := by
  intro H
  refine ref04_paired_of ?_
  unfold W_ref04_paired
  rw [ias_root]
  cases t with
  | l0 n =>
    simp only [pureK_some, fa_cp, ld_cp, cutE_one, Nat.zero_add, get0, Tr.root]
    rcases kind0 ht with h | h | h | h | h <;> simp only [h, bop_eql, pureK_some, Int.reduceEq, decide_false, decide_true, condK_t, condK_f] <;> exact ret1_of H (Heap.le_refl _) ⟨by simp [pairedF], rfl⟩
  | l1 n a =>
    simp only [pureK_some, fa_cp, ld_cp, cutE_one, Nat.zero_add, get0, Tr.root, Tr.kids, kid0]
    rcases kind1 ht.1 with h | h <;> simp only [h, bop_eql, pureK_some, Int.reduceEq, decide_false, decide_true, condK_t, condK_f] <;> exact ret1_of H (Heap.le_refl _) ⟨by simp [pairedF], rfl⟩
  | l2 n a b =>
    have ha := ih a (by simp [Tr.kids])
    have hb := ih b (by simp [Tr.kids])
    simp only [pureK_some, fa_cp, ld_cp, cutE_one, Nat.zero_add, get0, Tr.root, Tr.kids, kids0]
    rcases kind2 ht.1 with h | h | h | h | h | h | h <;> simp only [h, bop_eql, pureK_some, Int.reduceEq, decide_false, decide_true, condK_t, condK_f]
    all_goals first | exact is_and ha hb (by simp [pairedF, h]) | exact ret1_of H (Heap.le_refl _) ⟨by simp [pairedF, h], rfl⟩

theorem ref04_plainOn_ok (t : Tr) (ht : t.ok) (ih : ∀ x, x ∈ t.kids → IsOk x) : Pur ref04_plainOn [rowA t.flat .no, rowsA (t.kids.map Tr.flat) .no] (B (plainOnF t)) := by
  intro H
  refine ref04_plainOn_of ?_
  unfold W_ref04_plainOn
  rw [ias_root]
  cases t with
  | l0 n =>
    simp only [pureK_some, fa_cp, ld_cp, cutE_one, Nat.zero_add, get0, Tr.root]
    rcases kind0 ht with h | h | h | h | h <;> simp only [h, bop_eql, pureK_some, Int.reduceEq, decide_false, decide_true, condK_t, condK_f] <;> exact ret1_of H (Heap.le_refl _) ⟨by simp [plainOnF, h], rfl⟩
  | l1 n a =>
    have ha := ih a (by simp [Tr.kids])
    simp only [pureK_some, fa_cp, ld_cp, cutE_one, Nat.zero_add, get0, Tr.root, Tr.kids, kid0]
    rcases kind1 ht.1 with h | h <;> simp only [h, bop_eql, pureK_some, Int.reduceEq, decide_false, decide_true, condK_t, condK_f]
    · exact is_one ha (by simp [plainOnF, h])
    · exact ret1_of H (Heap.le_refl _) ⟨by simp [plainOnF, h], rfl⟩
  | l2 n a b =>
    have ha := ih a (by simp [Tr.kids])
    have hb := ih b (by simp [Tr.kids])
    simp only [pureK_some, fa_cp, ld_cp, cutE_one, Nat.zero_add, get0, Tr.root, Tr.kids, kids0]
    rcases kind2 ht.1 with h | h | h | h | h | h | h <;> simp only [h, bop_eql, pureK_some, Int.reduceEq, decide_false, decide_true, condK_t, condK_f]
    all_goals first | exact is_and ha hb (by simp [plainOnF, h]) | exact ret1_of H (Heap.le_refl _) ⟨by simp [plainOnF, h], rfl⟩

theorem ref04_pairedOn_ok (t : Tr) (ht : t.ok) (ih : ∀ x, x ∈ t.kids → IsOk x) : Pur ref04_pairedOn [rowA t.flat .no, rowsA (t.kids.map Tr.flat) .no] (B (pairedOnF t)) := by
  intro H
  refine ref04_pairedOn_of ?_
  unfold W_ref04_pairedOn
  rw [ias_root]
  cases t with
  | l0 n =>
    simp only [pureK_some, fa_cp, ld_cp, cutE_one, Nat.zero_add, get0, Tr.root]
    rcases kind0 ht with h | h | h | h | h <;> simp only [h, bop_eql, pureK_some, Int.reduceEq, decide_false, decide_true, condK_t, condK_f] <;> exact ret1_of H (Heap.le_refl _) ⟨by simp [pairedOnF], rfl⟩
  | l1 n a =>
    have ha := ih a (by simp [Tr.kids])
    simp only [pureK_some, fa_cp, ld_cp, cutE_one, Nat.zero_add, get0, Tr.root, Tr.kids, kid0]
    rcases kind1 ht.1 with h | h <;> simp only [h, bop_eql, pureK_some, Int.reduceEq, decide_false, decide_true, condK_t, condK_f]
    · exact ret1_of H (Heap.le_refl _) ⟨by simp [pairedOnF, h], rfl⟩
    · exact is_one ha (by simp [pairedOnF, h])
  | l2 n a b =>
    have ha := ih a (by simp [Tr.kids])
    have hb := ih b (by simp [Tr.kids])
    simp only [pureK_some, fa_cp, ld_cp, cutE_one, Nat.zero_add, get0, Tr.root, Tr.kids, kids0]
    rcases kind2 ht.1 with h | h | h | h | h | h | h <;> simp only [h, bop_eql, pureK_some, Int.reduceEq, decide_false, decide_true, condK_t, condK_f]
    all_goals first | exact is_and ha hb (by simp [pairedOnF, h]) | exact ret1_of H (Heap.le_refl _) ⟨by simp [pairedOnF, h], rfl⟩

/-! ### the law: what Is tells is what the sort is -/
theorem five {s : Int} (h : 0 ≤ s ∧ s ≤ 4) : s = 0 ∨ s = 1 ∨ s = 2 ∨ s = 3 ∨ s = 4 := by omega

theorem sort_law (t : Tr) (ht : t.ok) : plainF t = isSort 1 (sortT t) ∧ pairedF t = isSort 2 (sortT t) ∧ (plainF t || plainOnF t) = isSort 3 (sortT t) ∧ (pairedF t || pairedOnF t) = isSort 4 (sortT t) := by
  cases t with
  | l0 n => rcases kind0 ht with h | h | h | h | h <;> simp [plainF, pairedF, plainOnF, pairedOnF, sortT, sort0, isSort, h]
  | l1 n a =>
    have hr := five (sortT_range a)
    rcases kind1 ht.1 with h | h <;> simp only [plainF, pairedF, plainOnF, pairedOnF, sortT, h] <;> rcases hr with e | e | e | e | e <;> rw [e] <;> decide
  | l2 n a b =>
    have hr := five (sortT_range a)
    have hs := five (sortT_range b)
    rcases kind2 ht.1 with h | h | h | h | h | h | h <;> simp only [plainF, pairedF, plainOnF, pairedOnF, sortT, h] <;> rcases hr with e | e | e | e | e <;> rw [e] <;> rcases hs with g | g | g | g | g <;> rw [g] <;> decide

theorem ref04_Is_ok : ∀ (N : Nat) (t : Tr), t.len ≤ N → t.ok → t.flat.length ≤ 1000000 → IsOk t := by
  intro N
  induction N with
  | zero => intro t h; have := len_pos t; omega
  | succ N ih =>
    intro t hN ht hl s H
    have hk : ∀ x, x ∈ t.kids → IsOk x := fun x hx => by
      have : x.len < t.len := by
        cases t with
        | l0 n => simp [Tr.kids] at hx
        | l1 n a => simp [Tr.kids] at hx; subst hx; rw [len_l1]; omega
        | l2 n a b => simp [Tr.kids] at hx; rw [len_l2]; have := len_pos a; have := len_pos b; rcases hx with rfl | rfl <;> omega
      exact ih x (by omega) (Tr.kids_ok ht x hx) (by unfold Tr.len at *; omega)
    obtain ⟨l1, l2, l3, l4⟩ := sort_law t ht
    refine ref04_Is_of ?_
    unfold W_ref04_Is
    refine (ref03_Kids_ok t ht hl).run ?_
    simp only [bop_eql, pureK_some, condK_B, decide_eq_true_eq, decide_eq_false_iff_not]
    refine ⟨fun h => ?_, fun h => ⟨fun h2 => ?_, fun h2 => ⟨fun h3 => ?_, fun h3 => ?_⟩⟩⟩
    · refine (ref04_plain_ok t ht hk).run (ret1_of H (Heap.le_refl _) ⟨?_, rfl⟩)
      rw [l1, h]
    · refine (ref04_paired_ok t ht hk).run (ret1_of H (Heap.le_refl _) ⟨?_, rfl⟩)
      rw [l2, h2]
    · rw [h3, ← l3]
      refine (ref04_plain_ok t ht hk).run ?_
      cases plainF t with
      | true =>
        rw [condK_t]
        exact ret1_of H (Heap.le_refl _) ⟨rfl, rfl⟩
      | false =>
        rw [condK_f]
        exact (ref04_plainOn_ok t ht hk).run (ret1_of H (Heap.le_refl _) ⟨by rw [Bool.false_or], rfl⟩)
    · have e : isSort s (sortT t) = isSort 4 (sortT t) := by simp [isSort, h, h2, h3]
      rw [e, ← l4]
      refine (ref04_paired_ok t ht hk).run ?_
      cases pairedF t with
      | true =>
        rw [condK_t]
        exact ret1_of H (Heap.le_refl _) ⟨rfl, rfl⟩
      | false =>
        rw [condK_f]
        exact (ref04_pairedOn_ok t ht hk).run (ret1_of H (Heap.le_refl _) ⟨by rw [Bool.false_or], rfl⟩)

theorem rowW {l : List Node} {p : Perm} : Weaker (rowA l p) (rowA l .no) := Weaker.lst

theorem ref04_Of_ok (l : List Node) (hl : small l.length) (hn : names l) : Pur ref04_Of [rowA l .no] (I (sortOf l)) := by
  intro H
  refine ref04_Of_of ?_
  unfold W_ref04_Of
  refine (ref03_Whole_ok l .no hl hn).run ?_
  simp only [unE_not, pureK_some]
  cases hw : whole l with
  | false =>
    rw [Bool.not_false, condK_t]
    exact ret1_of H (Heap.le_refl _) ⟨by simp [sortOf, hw], rfl⟩
  | true =>
    rw [Bool.not_true, condK_f]
    obtain ⟨h1, h2⟩ := treeOf_spec hw
    have hlen : l.length ≤ 200 := by
      unfold whole at hw
      simp only [Bool.and_eq_true, decide_eq_true_eq] at hw
      exact hw.1.2
    have hs : sortOf l = sortT (treeOf l) := by simp [sortOf, hw]
    have hr := five (sortT_range (treeOf l))
    have key := ref04_Is_ok (treeOf l).len (treeOf l) (Nat.le_refl _) h1 (by rw [← h2]; omega)
    unfold IsOk at key
    rw [← h2] at key
    rw [hs]
    generalize sortT (treeOf l) = x at hr key
    refine ⟨fun vs H' n => ∃ k : Int, vs = [rowA l .no, I k] ∧ H' = H ∧ n = (5 - k).toNat ∧ 1 ≤ k ∧ k ≤ 5 ∧ ∀ j, 1 ≤ j → j < k → isSort j x = false, ⟨_, H, Heap.le_refl _, 1, rfl, rfl, rfl, by omega, by omega, fun j h1 h2 => by omega⟩, ?_⟩
    rintro vs H' n ⟨k, rfl, rfl, rfl, k1, k5, hno⟩
    simp only [nth_zero, nth_succ, bop_leq, pureK_some, condK_B, decide_eq_true_eq, decide_eq_false_iff_not]
    refine ⟨fun h => ?_, fun h => ?_⟩
    · refine (key k).run ?_
      cases hk : isSort k x with
      | true =>
        rw [condK_t]
        refine ret1_of H' (Heap.le_refl _) ⟨I_eq ?_, rfl⟩
        have hkk : k = 1 ∨ k = 2 ∨ k = 3 ∨ k = 4 := by omega
        have n1 : 1 < k → isSort 1 x = false := fun h => hno 1 (by omega) h
        have n2 : 2 < k → isSort 2 x = false := fun h => hno 2 (by omega) h
        have n3 : 3 < k → isSort 3 x = false := fun h => hno 3 (by omega) h
        rcases hkk with rfl | rfl | rfl | rfl <;> simp [isSort] at hk n1 n2 n3 <;> omega
      | false =>
        rw [condK_f, bop_add (by omega) (by omega)]
        refine ⟨(5 - (k + 1)).toNat, H', by omega, Heap.le_refl _, k + 1, rfl, rfl, rfl, by omega, by omega, fun j h1 h2 => ?_⟩
        by_cases e : j < k
        · exact hno j h1 e
        · have : j = k := by omega
          rw [this]; exact hk
    · have : k = 5 := by omega
      subst this
      refine ret1_of H' (Heap.le_refl _) ⟨I_eq ?_, rfl⟩
      have n1 := hno 1 (by omega) (by omega)
      have n2 := hno 2 (by omega) (by omega)
      have n3 := hno 3 (by omega) (by omega)
      have n4 := hno 4 (by omega) (by omega)
      simp [isSort] at n1 n2 n3 n4
      omega

theorem ref04_On_ok (l : List Node) (p : Perm) (b : Bool) (hl : small l.length) (hn : names l) : Pur ref04_On [rowA l p, B b] (B (sortOn l b)) := by
  refine Pur.args2 (a' := rowA l .no) (b' := B b) rowW (Weaker.refl _) ?_
  intro H
  refine ref04_On_of ?_
  unfold W_ref04_On
  have hr := five (sortOf_range l)
  cases b with
  | true =>
    rw [condK_t]
    refine (ref04_Of_ok l hl hn).run ?_
    simp only [bop_eql, pureK_some, condK_B, decide_eq_true_eq, decide_eq_false_iff_not]
    refine ⟨fun h => ret1_of H (Heap.le_refl _) ⟨B_eq (by simp [sortOn, h, sOn]), rfl⟩, fun h => ?_⟩
    refine (ref04_Of_ok l hl hn).run ?_
    simp only [bop_eql, pureK_some]
    refine ret1_of H (Heap.le_refl _) ⟨B_eq ?_, rfl⟩
    rcases hr with e | e | e | e | e <;> rw [e] at h <;> simp [sortOn, sOn, e] <;> simp at h
  | false =>
    rw [condK_f]
    refine (ref04_Of_ok l hl hn).run ?_
    simp only [bop_eql, pureK_some, condK_B, decide_eq_true_eq, decide_eq_false_iff_not]
    refine ⟨fun h => ret1_of H (Heap.le_refl _) ⟨B_eq (by simp [sortOn, h, sOn]), rfl⟩, fun h => ?_⟩
    refine (ref04_Of_ok l hl hn).run ?_
    simp only [bop_eql, pureK_some]
    refine ret1_of H (Heap.le_refl _) ⟨B_eq ?_, rfl⟩
    rcases hr with e | e | e | e | e <;> rw [e] at h <;> simp [sortOn, sOn, e] <;> simp at h

end Go.Av
