/- Own text D7 of this claim: see the text that holds the theorem. -/
import Derived.Test.YtddolbhaekekaaaGreatDoorD6
set_option linter.all false
set_option maxRecDepth 100000
namespace Go.Av
open Go Go.Proofs

theorem encode_ok2 {s : St} (h : Fits s) (p q : Perm) (H : Heap) :
    ACalls PP gΓ code_Encode [stA s p q] H (fun r H' => ∃ v, r = .tup [v, B (rightS s)] ∧ H ≤ H' ∧ (rightS s = true → ∃ pv, v = bytA (enc s) pv) ∧ (rightS s = false → v = .lst 0 [] .exact)) := by
  refine (encode_ok h p q H).mono ?_
  rintro r H' (⟨h1, rfl, rfl⟩ | ⟨h1, v, rfl, pv, h2, hb⟩)
  · exact ⟨_, by rw [h1], Heap.le_refl _, fun h => by rw [h1] at h; (cases h), fun _ => rfl⟩
  · exact ⟨v, by rw [h1], hb.le, fun _ => ⟨pv, h2⟩, fun h => by rw [h1] at h; (cases h)⟩

structure Fits2 (s : St) : Prop extends Fits s where
  z : sizes s.a ≤ 1000000000000

theorem cut_st {H : Heap} {o : Nat} {s : St} {p q : Perm} (h : H o = some (.cells (stC s p q))) : ld (some true) 5 H (.ptr o 0) = some (stA s p q) := by rw [ld_ptr h]; rfl

theorem law19_CodeEncodes_ok (s : St) (p q : Perm) (hs : Fits2 s) : Pur law19_CodeEncodes [stA s p q] (B true) := by
  intro H
  refine law19_CodeEncodes_of ?_
  unfold W_law19_CodeEncodes
  refine allocK_st fun o1 h1 => ?_
  have hle : H ≤ H.upd o1 (.cells (stC s p q)) := by simp [h1]
  have g1 : (H.upd o1 (.cells (stC s p q))) o1 = some (.cells (stC s p q)) := Heap.upd_same _ _ _
  generalize H.upd o1 (.cells (stC s p q)) = HB at hle g1 ⊢
  rw [cut_st g1]
  simp only [pureK_some]
  refine (law19_few_ok s p q hs.l hs.a hs.z).run ?_
  rintro v ⟨b1, rfl, _⟩
  simp only [unE_not, pureK_some]
  cases b1 with
  | false => exact law19_alive_ok.run (ret1_of H hle ⟨rfl, rfl⟩)
  | true =>
  simp only [Bool.not_true, condK_f, cut_st g1, pureK_some]
  refine (law19_New_ok s p q).run ?_
  refine (encode_ok2 hs.toFits p q HB).mono ?_
  rintro r H1 ⟨v1, rfl, hl1, ht1, hf1⟩
  have k1 := hl1 _ _ g1
  simp only [extractE_tup, get0, get1, pureK_some, cut_st k1]
  refine (ref19_Encode_ok hs.toFits p q H1).mono ?_
  rintro r H2 ⟨v2, rfl, hl2, ht2, hf2⟩
  have m1 := hl2 _ _ k1
  have hle2 : H ≤ H2 := fun o x h => hl2 _ _ (hl1 _ _ (hle _ _ h))
  rw [show extractE (.tup [v2, B (rightS s)]) 0 = some v2 from rfl, show extractE (.tup [v2, B (rightS s)]) 1 = some (B (rightS s)) from rfl]
  simp only [pureK_some]
  refine ⟨_, law19_alive_ok.reads, ?_⟩
  rw [condK_t]
  have hsame : Pur ref16_Same [v1, v2] (B true) := by
    cases hr : rightS s with
    | true =>
      obtain ⟨q1, rfl⟩ := ht1 hr
      obtain ⟨q2, rfl⟩ := ht2 hr
      have len1 := enc_len hr
      have parts := rightS_parts hr
      have := ref16_Same_ok (enc s) (enc s) q1 q2 (by unfold small; omega)
      simpa using this
    | false =>
      rw [hf1 hr, hf2 hr]
      have := ref16_Same_ok [] [] .no .no (by unfold small; decide)
      exact Pur.args2 (a' := bytA [] .no) (b' := bytA [] .no) Weaker.empty Weaker.empty (by simpa using this)
  refine ⟨_, hsame.reads, ?_⟩
  rw [condK_t]
  simp only [bop_beql, beq_self_eq_true, pureK_some, condK_t, cut_st m1]
  refine ⟨_, (law19_New_ok s p q).reads, _, (right_ok hs.toFits p q).reads, ?_⟩
  refine (ref19_Right_ok hs.toFits p q).run ?_
  simp only [bop_beql, beq_self_eq_true, pureK_some]
  exact ret1_of H hle2 ⟨rfl, rfl⟩

end Go.Av
