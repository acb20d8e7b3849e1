/- Own text C22 of this claim: see the text that holds the theorem. -/
import Derived.Test.YtddolbhaekekaaaGreatDoorC21
set_option linter.all false
set_option maxRecDepth 100000
namespace Go.Av
open Go Go.Proofs

/-- Rows in a variable of the call's own. -/
def KidsV (H H' : Heap) (rows : List AV) (v : AV) : Prop :=
  (rows = [] ∧ v = .lst 0 [] .exact ∧ H' = H) ∨ ∃ o cap zs, H o = none ∧ 0 < rows.length ∧ v = .ms o 0 rows.length cap ∧ rows.length + zs.length = cap ∧ H' = H.upd o (.cells (rows ++ zs))

theorem KidsV.le {H H' : Heap} {rows : List AV} {v : AV} (h : KidsV H H' rows v) : H ≤ H' := by
  rcases h with ⟨_, _, rfl⟩ | ⟨o, cap, zs, h1, _, _, _, rfl⟩
  · exact Heap.le_refl _
  · simp [h1]

theorem kidsV_app {H H' : Heap} {rows : List AV} {v y x : AV} {K : AV → Heap → Prop} (h : KidsV H H' rows v) (hy : appended 1 y = some [x]) (hx : x.cells = [x]) (hl : rows.length + 1 ≤ maxApp)
    (k : ∀ v' H1 H2, H1 ≤ H2 → KidsV H H1 (rows ++ [x]) v' → K v' H2) : appK 1 v y H' K := by
  right
  unfold appM
  rcases h with ⟨rfl, rfl, rfl⟩ | ⟨o, cap, zs, h1, h2, rfl, h3, rfl⟩
  · simp only [hy]
    refine ⟨.inr trivial, by simp, hl, fun o cap zs ho hc hz => ?_⟩
    simp only [List.length_nil, List.length_singleton, Nat.zero_add, Nat.mul_one] at hc hz
    refine k _ _ _ (Heap.le_refl _) (.inr ⟨o, cap, zs, ho, by simp, by simp, by simp; omega, ?_⟩)
    simp [hx]
  · have hget : (H.upd o (.cells (rows ++ zs))) o = some (.cells (rows ++ zs)) := Heap.upd_same _ _ _
    simp only [hy, hget]
    refine ⟨by simp; omega, by omega, by simp, by simpa using hl, fun hc => ?_, fun hc o2 cap2 zs2 ho2 hc2 hz2 => ?_⟩
    · simp only [List.length_singleton] at hc
      have : 0 < zs.length := by omega
      refine k _ _ _ (Heap.le_refl _) (.inr ⟨o, cap, zs.drop 1, h1, by simp, by simp, by simp; omega, ?_⟩)
      simp only [List.flatMap_cons, List.flatMap_nil, List.append_nil, hx, Nat.zero_add, Nat.mul_one, Heap.upd_upd', splice]
      congr 2
      rw [List.take_left, List.length_singleton, List.drop_append]
      simp
    · simp only [List.length_singleton, Nat.mul_one] at hc hc2 hz2
      simp only [upd_none_iff] at ho2
      have e : (((rows ++ zs).drop 0).take (rows.length * 1) ++ ([x] : List AV).flatMap AV.cells ++ zs2) = rows ++ [x] ++ zs2 := by simp [hx]
      rw [e]
      have hle : H.upd o2 (.cells (rows ++ [x] ++ zs2)) ≤ (H.upd o (.cells (rows ++ zs))).upd o2 (.cells (rows ++ [x] ++ zs2)) := Heap.upd_le_upd (by simp [h1])
      exact k (.ms o2 0 (rows.length + 1) cap2) _ _ hle (.inr ⟨o2, cap2, zs2, ho2.2, by simp, by simp, by simp; omega, rfl⟩)

theorem row_Kids_ms (t : Tr) (p : Perm) (ht : t.ok) (hl : t.flat.length ≤ 1000000) (H : Heap) : ACalls PP gΓ row_Kids [rowA t.flat p] H (fun r H' => KidsV H H' ((t.kids.map Tr.flat).map fun l => rowA l .no) r) := by
  refine row_Kids_of ?_
  unfold W_row_Kids
  refine (row_Size_ok t.flat p (by omega)).run ?_
  have hs : size t.flat = t.flat.length := by simpa using size_flat ht []
  have hpos := t.flat_pos
  have hk2 := t.kids_le
  rw [hs]
  simp only [bop_eql, pureK_some, condK_B, decide_eq_true_eq, decide_eq_false_iff_not]
  refine ⟨fun h => by omega, fun _ => ?_⟩
  rw [ias_root]
  simp only [pureK_some, fa_cp, ld_cp, cutE_one, Nat.zero_add, get0]
  refine (row_Arity_ok _).run ?_
  rw [Tr.arity_root ht]
  refine ⟨fun vs H' n => ∃ (k : Nat) (v : AV), k ≤ t.kids.length ∧ vs = [rowA t.flat p, v, I (1 + ((t.kids.take k).flatMap Tr.flat).length), I t.kids.length, I k] ∧ n = t.kids.length - k ∧ KidsV H H' (((t.kids.take k).map Tr.flat).map fun l => rowA l .no) v,
    ⟨_, H, Heap.le_refl _, 0, _, Nat.zero_le _, rfl, rfl, .inl ⟨rfl, rfl, rfl⟩⟩, ?_⟩
  rintro vs H' n ⟨k, v, hk, rfl, rfl, hb⟩
  simp only [nth_zero, nth_succ, bop_lss, pureK_some, condK_B, decide_eq_true_eq, decide_eq_false_iff_not]
  refine ⟨fun h => ?_, fun h => ?_⟩
  · have hk' : k < t.kids.length := by omega
    obtain ⟨post, hpost⟩ := Tr.flat_split hk'
    have hkok := Tr.kids_ok ht _ (List.getElem_mem hk')
    have htk : t.kids.take (k + 1) = t.kids.take k ++ [t.kids[k]] := List.take_succ_eq_append_getElem hk'
    generalize hx : t.kids[k] = x at hpost hkok htk
    generalize hpre : (t.kids.take k).flatMap Tr.flat = pre at hpost ⊢
    have hat : (1 : Int) + pre.length = ((([t.root] ++ pre).length : Nat) : Int) := by simp; omega
    have hxl := x.flat_pos
    have hlen := congrArg List.length hpost
    simp only [List.length_append, List.length_cons, List.length_nil] at hlen
    obtain ⟨q1, e1⟩ := sll_row (l := t.flat) (p := p) (a := ([t.root] ++ pre).length) (by simp; omega)
    rw [hat, e1]
    have hdrop : t.flat.drop ([t.root] ++ pre).length = x.flat ++ post := by rw [hpost, List.append_assoc, List.drop_left]
    rw [hdrop]
    simp only [pureK_some]
    refine (row_Size_ok _ q1 (by simp; omega)).run ?_
    rw [size_flat hkok]
    rw [bop_add (by simp; omega) (by simp; omega)]
    simp only [pureK_some]
    have hsum : ((([t.root] ++ pre).length : Nat) : Int) + x.flat.length = ((([t.root] ++ pre).length + x.flat.length : Nat) : Int) := by simp
    rw [hsum]
    obtain ⟨q2, e2⟩ := sll_row2 (l := t.flat) (p := p) (a := ([t.root] ++ pre).length) (b := ([t.root] ++ pre).length + x.flat.length) (by omega) (by simp; omega)
    rw [e2, hpost, take_drop_kid]
    simp only [pureK_some]
    refine (Clone_ok x.flat q2 (by intro e; rw [e] at hxl; simp at hxl) (by omega)).run ?_
    have e3 : bsl 1 (.lst 0 [] .exact) 1 [(0, rowA x.flat .no)] = some (.lst 1 [rowA x.flat .no] .exact) := rfl
    rw [e3]
    simp only [pureK_some]
    refine kidsV_app (x := rowA x.flat .no) hb rfl rfl (by simp [maxApp, Nat.min_eq_left hk]; omega) ?_
    intro v' H1 H2 h12 hb'
    rw [bop_add (by omega) (by omega)]
    simp only [pureK_some]
    refine ⟨_, H1, ?_, h12, k + 1, v', by omega, ?_, rfl, ?_⟩
    · omega
    · rw [htk]; simp [hpre]; omega
    · rw [htk]; simpa using hb'
  · have hk' : k = t.kids.length := by omega
    subst hk'
    rw [List.take_length] at hb
    exact ret1_of H' (Heap.le_refl _) hb

end Go.Av
