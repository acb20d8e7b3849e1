/- Own text D1 of this claim: see the text that holds the theorem. -/
import Derived.Test.YtddolbhaekekaaaGreatDoorC26
set_option linter.all false
set_option maxRecDepth 100000
namespace Go.Av
open Go Go.Proofs

theorem ACalls.less {P : Program} {Γ : Nat → Option AV} {f : FuncId} {args : List AV} {H : Heap} {R R' : AV → Heap → Prop} (h : ACalls P Γ f args H R) (hw : ∀ r H', R r H' → ∃ r' H1, Weaker r r' ∧ H1 ≤ H' ∧ R' r' H1) : ACalls P Γ f args H R' := by
  intro G w vs hW hl hr
  refine (h G w vs hW hl hr).mono ?_
  rintro e w' ⟨v, G', r, H', he, x, hW', hv, hR⟩
  obtain ⟨r', H1, h1, h2, h3⟩ := hw r H' hR
  exact ⟨v, G', r', H1, he, x, hW'.forget h2, h1 _ _ _ hv, h3⟩

theorem ref01_Is_ok (s : Int) : Pur ref01_Is [I s] (B (sIs s)) := by
  intro H
  refine ref01_Is_of ?_
  unfold W_ref01_Is
  simp only [bop_eql, pureK_some, condK_B, decide_eq_true_eq, decide_eq_false_iff_not, ret1_pure]
  refine ⟨fun h => ⟨B_eq (by simp [sIs, h]), Heap.le_refl _⟩, fun h => ⟨fun h2 => ⟨B_eq (by simp [sIs, h2]), Heap.le_refl _⟩, fun h2 => ⟨B_eq (by rw [Bool.eq_iff_iff]; simp [sIs]; omega), Heap.le_refl _⟩⟩⟩

theorem ref01_Both_ok (a b : Int) : Pur ref01_Both [I a, I b] (I (sBothSign a b)) := by
  intro H
  refine ref01_Both_of ?_
  unfold W_ref01_Both
  refine (ref01_Is_ok a).run ?_
  simp only [unE_not, pureK_some]
  cases ha : sIs a with
  | false =>
    rw [Bool.not_false, condK_t]
    exact ret1_of H (Heap.le_refl _) ⟨I_eq (by simp [sBothSign, ha]), rfl⟩
  | true =>
  simp only [Bool.not_true, condK_f]
  refine (ref01_Is_ok b).run ?_
  simp only [unE_not, pureK_some]
  cases hb : sIs b with
  | false =>
    rw [Bool.not_false, condK_t]
    exact ret1_of H (Heap.le_refl _) ⟨I_eq (by simp [sBothSign, hb]), rfl⟩
  | true =>
  simp only [Bool.not_true, condK_f]
  simp only [condK_B, bop_eql, pureK_some, decide_eq_true_eq, decide_eq_false_iff_not, ret1_pure]
  have e : sBothSign a b = if a = 2 ∨ b = 2 then 2 else max a b := by simp [sBothSign, ha, hb]
  have h1 : a = 1 ∨ a = 2 ∨ a = 3 := by simp [sIs] at ha; omega
  have h2 : b = 1 ∨ b = 2 ∨ b = 3 := by simp [sIs] at hb; omega
  rw [e]
  refine ⟨fun h => ⟨I_eq (by simp [h]), Heap.le_refl _⟩, fun h => ⟨fun h3 => ⟨I_eq (by simp [h3]), Heap.le_refl _⟩, fun h3 => ⟨fun h4 => ⟨I_eq ?_, Heap.le_refl _⟩, fun h4 => ⟨fun h5 => ⟨I_eq ?_, Heap.le_refl _⟩, fun h5 => ⟨I_eq ?_, Heap.le_refl _⟩⟩⟩⟩⟩ <;> (rw [if_neg (by omega)]; omega)

theorem words_eq : words = [s_skip, s_throw, s_yield, s_skipp, s_throww, s_yieldd] := rfl
theorem ref03_word_ok (s : ByteArray) : Pur ref03_word [S s] (B (memB s words)) := by
  intro H
  refine ref03_word_of ?_
  unfold W_ref03_word
  have e : memB s words = (decide (s = s_skip) || (decide (s = s_throw) || (decide (s = s_yield) || (decide (s = s_skipp) || (decide (s = s_throww) || decide (s = s_yieldd)))))) := by
    rw [words_eq, Bool.eq_iff_iff, memB_iff]
    simp
  rw [e]
  simp only [bop_seql, pureK_some]
  cases decide (s = s_skip) with
  | true =>
    rw [condK_t]
    exact ret1_of H (Heap.le_refl _) ⟨rfl, rfl⟩
  | false =>
  simp only [condK_f, Bool.false_or]
  cases decide (s = s_throw) with
  | true =>
    rw [condK_t]
    exact ret1_of H (Heap.le_refl _) ⟨rfl, rfl⟩
  | false =>
  simp only [condK_f, Bool.false_or]
  cases decide (s = s_yield) with
  | true =>
    rw [condK_t]
    exact ret1_of H (Heap.le_refl _) ⟨rfl, rfl⟩
  | false =>
  simp only [condK_f, Bool.false_or]
  cases decide (s = s_skipp) with
  | true =>
    rw [condK_t]
    exact ret1_of H (Heap.le_refl _) ⟨rfl, rfl⟩
  | false =>
  simp only [condK_f, Bool.false_or]
  cases decide (s = s_throww) with
  | true =>
    rw [condK_t]
    exact ret1_of H (Heap.le_refl _) ⟨rfl, rfl⟩
  | false =>
  simp only [condK_f, Bool.false_or]
  exact ret1_of H (Heap.le_refl _) ⟨rfl, rfl⟩

theorem ref10_node_ok (k s : Int) : Pur ref10_node [I k, I s] (nd ⟨k, emp, s⟩) := by
  intro H
  refine ref10_node_of ?_
  unfold W_ref10_node
  intro o ho
  rw [bld_02]
  simp only [pureK_some]
  rw [st_nd3]
  simp only [heapK_some]
  rw [ld_nd (n := ⟨k, emp, s⟩)]
  simp only [pureK_some]
  exact ret1_of H (by simp [ho]) ⟨rfl, rfl⟩

theorem appended_row (l : List Node) (p : Perm) : appended 3 (rowA l p) = some (l.map nd) := by simp [appended]

theorem One_bld (n : Node) (a : List Node) (p : Perm) (hl : a.length ≤ 1000000) (H : Heap) : ACalls PP gΓ ref03_One [nd n, rowA a p] H (fun r H' => ∃ q, r = rowA (n :: a) q ∧ Bld H H' q (n :: a).length) := by
  refine ref03_One_of ?_
  unfold W_ref03_One
  refine allocK_nd fun o ho => ?_
  rw [ld_nd]
  simp only [pureK_some]
  have e1 : bsl 3 (.agg [I 0, S emp, I 0]) 1 [(0, nd n)] = some (rowA [n] .exact) := rfl
  rw [e1]
  simp only [pureK_some]
  refine appK_bld (H0 := H.upd o (.cells [I n.kind, S n.name, I n.sign])) (s := 3) (ys := [nd n]) (.inl ⟨rfl, rfl⟩) (.inr ⟨rfl, rfl⟩) rfl (by simp [maxApp]) ?_
  intro q H1 h1
  refine appK_bld (s := 3) h1 (.inl rfl) (appended_row a p) (by simp [maxApp]; omega) ?_
  intro q2 H2 h2
  obtain ⟨H3, h3, h4⟩ := h2.fall ho
  exact ret1_of H3 h3 ⟨q2, by simp, by simpa using h4⟩

theorem ref03_One_ok (n : Node) (a : List Node) (p : Perm) (hl : a.length ≤ 1000000) : Pur ref03_One [nd n, rowA a p] (rowA (n :: a) .no) := by
  intro H
  refine (One_bld n a p hl H).less ?_
  rintro r H' ⟨q, rfl, hb⟩
  exact ⟨_, H, Weaker.lst, hb.le, rfl, rfl⟩

theorem ref03_Two_ok (n : Node) (a b : List Node) (p q : Perm) (hl : a.length + b.length ≤ 1000000) : Pur ref03_Two [nd n, rowA a p, rowA b q] (rowA (n :: (a ++ b)) .no) := by
  intro H
  refine ACalls.less (R := fun r H' => ∃ q, r = rowA (n :: (a ++ b)) q ∧ Bld H H' q (n :: (a ++ b)).length) ?_ ?_
  · refine ref03_Two_of ?_
    unfold W_ref03_Two
    refine allocK_nd fun o ho => ?_
    rw [ld_nd]
    simp only [pureK_some]
    refine (One_bld n a p (by omega) _).mono ?_
    rintro r H1 ⟨q1, rfl, h1⟩
    refine appK_bld (s := 3) (es := (n :: a).map nd) (by simpa using h1) (.inl rfl) (appended_row b q) (by simp [maxApp]; omega) ?_
    intro q2 H2 h2
    obtain ⟨H3, h3, h4⟩ := h2.fall ho
    exact ret1_of H3 h3 ⟨q2, by simp, by simpa [Nat.add_assoc, Nat.add_comm, Nat.add_left_comm] using h4⟩
  · rintro r H' ⟨q, rfl, hb⟩
    exact ⟨_, H, Weaker.lst, hb.le, rfl, rfl⟩

theorem ref10_over_ok (s : Int) : Pur ref10_over [I s] (rowA [⟨11, emp, s⟩] .no) := by
  refine Pur.weaken (φ := fun r => r = rowA [⟨11, emp, s⟩] .exact) (fun H => ?_) (fun r h => by subst h; exact Weaker.lst)
  refine ref10_over_of ?_
  unfold W_ref10_over
  refine (ref10_node_ok 11 s).run ?_
  have e1 : bsl 3 (.agg [I 0, S emp, I 0]) 1 [(0, nd ⟨11, emp, s⟩)] = some (rowA [⟨11, emp, s⟩] .exact) := rfl
  rw [e1, pureK_some]
  exact ret1_of H (Heap.le_refl _) ⟨rfl, rfl⟩

theorem ref10_end_ok (s : Int) (c : List Node) (p : Perm) (hc : c.length ≤ 1000000) : Pur ref10_end [I s, rowA c p] (rowA (⟨14, emp, s⟩ :: c) .no) := by
  intro H
  refine ref10_end_of ?_
  unfold W_ref10_end
  refine (ref10_node_ok 14 s).run ?_
  refine (ref03_One_ok ⟨14, emp, s⟩ c p hc).run ?_
  exact ret1_of H (Heap.le_refl _) ⟨rfl, rfl⟩

theorem ixs_get {s : ByteArray} {k : Nat} (h : k < s.size) : ixs (S s) (I k) = some (.sc (.int .u8 s[k].toNat)) := by
  simp [ixs, h]

theorem ref03_Right_ok (n : Node) (hn : n.name.size ≤ 4611686018427387904) : Pur ref03_Right [nd n] (B (right n)) := by
  intro H
  refine ref03_Right_of ?_
  unfold W_ref03_Right
  refine allocK_nd fun o ho => ?_
  have hle : H ≤ H.upd o (.cells [I n.kind, S n.name, I n.sign]) := by simp [ho]
  have hg : (H.upd o (.cells [I n.kind, S n.name, I n.sign])) o = some (.cells [I n.kind, S n.name, I n.sign]) := Heap.upd_same _ _ _
  generalize H.upd o (.cells [I n.kind, S n.name, I n.sign]) = HB at hle hg ⊢
  simp only [fa_ptr, pureK_some, Nat.zero_add, ld_ptr hg, cutE_one, get0, get1, get2]
  refine (ref03_Arity_ok _).run ?_
  simp only [fa_ptr, Nat.zero_add, ld_ptr hg, cutE_one, get0, get1, get2, bop_lss, bop_eql, bop_seql, bop_geq, bop_leq, pureK_some, condK_B, decide_eq_true_eq, decide_eq_false_iff_not]
  refine ⟨fun h => ret1_of H hle ⟨B_eq ?_, rfl⟩, fun h => ⟨fun h1 => ?_, fun h1 => ?_⟩⟩
  · unfold right
    rw [if_neg (by intro e; rw [e] at h; exact absurd h (by decide)), if_neg (by rintro (e | e) <;> rw [e] at h <;> exact absurd h (by decide))]
    simp; intros; omega
  · refine ⟨fun vs H' m => ∃ k : Nat, vs = [.ptr o 0, I k] ∧ H' = HB ∧ m = n.name.size - k ∧ k ≤ n.name.size ∧ ∀ i (hi : i < n.name.size), i < k → lettersF n.name[i].toNat = true, ⟨_, HB, Heap.le_refl _, 0, rfl, rfl, rfl, Nat.zero_le _, fun i _ h => by omega⟩, ?_⟩
    rintro vs H' m ⟨k, rfl, rfl, rfl, hk, hall⟩
    simp only [nth_zero, nth_succ, fa_ptr, pureK_some, Nat.zero_add, ld_ptr hg, cutE_one, get0, get1, get2, lns_S, bop_lss, condK_B, decide_eq_true_eq, decide_eq_false_iff_not]
    refine ⟨fun h2 => ?_, fun h2 => ?_⟩
    · have hk' : k < n.name.size := by omega
      rw [ixs_get hk']
      simp only [pureK_some, bop_lss, bop_gtr, condK_B, decide_eq_true_eq, decide_eq_false_iff_not]
      have no : lettersF n.name[k].toNat = false → ret1 H' (fun r H' => r = B (right n) ∧ H' = H) (B false) := fun hb => by
        refine ret1_of H hle ⟨B_eq ?_, rfl⟩
        have : allLetters n.name = false := by
          cases e : allLetters n.name with
          | false => rfl
          | true => rw [(allLetters_iff _).1 e k hk'] at hb; cases hb
        simp [right, h1, named, this]
      refine ⟨fun h3 => no (by simp [lettersF]; omega), fun h3 => ⟨fun h4 => no (by simp [lettersF]; omega), fun h4 => ?_⟩⟩
      rw [bop_add (by omega) (by omega)]
      refine ⟨n.name.size - (k + 1), H', by omega, Heap.le_refl _, k + 1, rfl, rfl, rfl, by omega, fun i hi hik => ?_⟩
      by_cases e : i < k
      · exact hall i hi e
      · have : i = k := by omega
        subst this
        simp [lettersF]; omega
    · have hk' : k = n.name.size := by omega
      subst hk'
      have hal : allLetters n.name = true := (allLetters_iff _).2 fun i hi => hall i hi hi
      simp only [bop_geq, bop_leq, bop_eql, pureK_some, condK_B, decide_eq_true_eq, decide_eq_false_iff_not]
      have hemp : n.name = emp ↔ n.name.size = 0 := by
        constructor
        · intro e; rw [e]; rfl
        · intro e; exact ByteArray.size_eq_zero_iff.1 e
      refine ⟨fun h3 => ⟨fun h4 => ⟨fun h5 => ?_, fun h5 => ret1_of H hle ⟨B_eq ?_, rfl⟩⟩, fun h4 => ret1_of H hle ⟨B_eq ?_, rfl⟩⟩, fun h3 => ret1_of H hle ⟨B_eq ?_, rfl⟩⟩
      · refine (ref03_word_ok _).run ?_
        simp only [unE_not, pureK_some]
        refine ret1_of H hle ⟨B_eq ?_, rfl⟩
        have h6 : n.name ≠ emp := fun e => by have := hemp.1 e; omega
        have h7 : n.name.size ≤ 8 := by omega
        simp [right, h1, h5, named, hal, h6, h7]
      · simp [right, h1, h5]
      · have : ¬ n.name.size ≤ 8 := by omega
        simp [right, h1, named, this]
      · have : n.name = emp := hemp.2 (by omega)
        simp [right, h1, named, this]
  · have ar : arity n.kind = -1 ∨ 0 ≤ arity n.kind := by have := arity_range n.kind; omega
    refine ⟨fun h2 => ⟨fun h3 => ⟨fun h4 => ret1_of H hle ⟨B_eq ?_, rfl⟩, fun h4 => ret1_of H hle ⟨B_eq ?_, rfl⟩⟩, fun h3 => ret1_of H hle ⟨B_eq ?_, rfl⟩⟩,
      fun h2 => ⟨fun h3 => ⟨fun h4 => ⟨fun h5 => ret1_of H hle ⟨B_eq ?_, rfl⟩, fun h5 => ret1_of H hle ⟨B_eq ?_, rfl⟩⟩, fun h4 => ret1_of H hle ⟨B_eq ?_, rfl⟩⟩, fun h3 => ⟨fun h4 => ret1_of H hle ⟨B_eq ?_, rfl⟩, fun h4 => ret1_of H hle ⟨B_eq ?_, rfl⟩⟩⟩⟩
    · simp [right, h2, h3, show (1 : Int) ≤ n.sign by omega]
    · have : ¬ (1 : Int) ≤ n.sign := by omega
      simp [right, h2, this]
    · simp [right, h2, h3]
    · simp [right, h3, h4, show (1 : Int) ≤ n.sign by omega]
    · have : ¬ (1 : Int) ≤ n.sign := by omega
      simp [right, h3, this]
    · simp [right, h3, h4]
    · have ha : 0 ≤ arity n.kind := by omega
      simp [right, h1, h2, h3, h4, ha]
    · simp [right, h1, h2, h3, h4]

end Go.Av
