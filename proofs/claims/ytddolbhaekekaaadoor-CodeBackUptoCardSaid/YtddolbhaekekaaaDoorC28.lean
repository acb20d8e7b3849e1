/- Own text C28 of this claim: see the text that holds the theorem. -/
import Derived.Test.YtddolbhaekekaaaDoorC27
set_option linter.all false
namespace Go.Av
open Go Go.Proofs

theorem sllB_all {l : List UInt8} {p : Perm} : sll 1 (bytA l p) none (some (I l.length)) (some (I l.length)) = some (bytA l .exact) := by
  simp [sll, bound, List.take_of_length_le]

theorem law19_CodeOnce_ok (b : List UInt8) (x : UInt8) (p : Perm) : Pur law19_CodeOnce [bytA b p, byteAV x] (B true) := by
  intro H
  refine law19_CodeOnce_of ?_
  unfold W_law19_CodeOnce
  simp only [lnl_lst, List.length_map, pureK_some, bop_gtr, condK_B, decide_eq_true_eq, decide_eq_false_iff_not]
  refine ⟨fun _ => law19_alive_ok.run (ret1_of H (Heap.le_refl _) ⟨rfl, rfl⟩), fun hlen => ?_⟩
  have hb : b.length ≤ 3000 := by omega
  refine (code_Decode_ok b p (by omega)).run ?_
  cases hd : decode b with
  | none =>
    simp only [decV, extractE_tup, get0, get1, pureK_some]
    intro o h
    rw [st_st rfl]
    simp only [heapK_some, bop_neq, pureK_some]
    simp only [show (!decide ((190 : Int) = 0)) = true from rfl, condK_t]
    refine law19_alive_ok.run ?_
    rw [condK_t, ld_st, bld_zero]
    simp only [pureK_some]
    refine (Pur.args2 (Weaker.refl _) zeroW (code_Same_ok zeroSt zeroSt .no .no .no .no zero_fits.l zero_fits.a)).run ?_
    exact ret1_of H (by simp [h]) ⟨by simp, rfl⟩
  | some s =>
    obtain ⟨hr, he⟩ := decode_spec hd
    have hfit := rightS_fits hr
    have hne : b ≠ [] := by rw [← he]; exact enc_pos s
    have hpos : 0 < b.length := by cases b with | nil => exact absurd rfl hne | cons => simp
    simp only [decV, extractE_tup, get0, get1, pureK_some]
    intro o h
    rw [st_st rfl]
    simp only [heapK_some, bop_neq, pureK_some, eq_self, decide_true, Bool.not_true, condK_f]
    have hle0 : H ≤ H.upd o (.cells (stC s .no .no)) := by simp [h]
    rw [ld_st]
    generalize H.upd o (.cells (stC s .no .no)) = HB at hle0 ⊢
    simp only [pureK_some]
    have hen : ACalls PP gΓ code_Encode [stA s .no .no] HB (fun r H' => ∃ pv, r = .tup [bytA b pv, B true] ∧ HB ≤ H') := by
      refine (encode_ok2 hfit .no .no HB).mono ?_
      rintro r H1 ⟨v, h1, h2, h3, _⟩
      obtain ⟨pv, h4⟩ := h3 hr
      refine ⟨pv, ?_, h2⟩
      rw [h1, h4, hr, he]
    refine hen.mono ?_
    rintro r H1 ⟨pv, rfl, hl1⟩
    have hle1 : H ≤ H1 := fun o x h => hl1 _ _ (hle0 _ _ h)
    rw [show extractE (.tup [bytA b pv, B true]) 0 = some (bytA b pv) from rfl, show extractE (.tup [bytA b pv, B true]) 1 = some (B true) from rfl, pureK_some, pureK_some]
    rw [bop_sub (by omega) (by omega)]
    simp only [pureK_some]
    rw [maxE_two]
    have hm : max 0 ((b.length : Int) - 1) = ((b.length - 1 : Nat) : Int) := by omega
    rw [hm]
    simp only [pureK_some]
    obtain ⟨q1, e1⟩ := sllB_take (l := b) (p := p) (a := b.length - 1) (by omega)
    rw [e1]
    simp only [pureK_some]
    refine (code_Decode_ok (b.take (b.length - 1)) q1 (by rw [List.length_take]; omega)).run ?_
    have hless : decode (b.take (b.length - 1)) = none := by
      have := decode_less hd hne
      rwa [List.dropLast_eq_take] at this
    rw [hless]
    simp only [decV, extractE_tup, get0, get1, pureK_some]
    intro o2 h2
    rw [st_st rfl]
    simp only [heapK_some]
    have hle2 : H ≤ H1.upd o2 (.cells (stC zeroSt .no .no)) := Heap.le_upd hle1 (le_none hle1 h2)
    generalize H1.upd o2 (.cells (stC zeroSt .no .no)) = H2 at hle2 ⊢
    rw [sllB_all]
    simp only [pureK_some]
    rw [bsl_b]
    simp only [pureK_some]
    left
    unfold appK1
    have hap : appended 1 (bytA [x] .exact) = some [byteAV x] := rfl
    simp only [hap]
    refine ⟨.inl trivial, by simp [maxApp]; omega, .inl ?_⟩
    have eap : AV.lst 1 (b.map byteAV ++ [byteAV x]) .no = bytA (b ++ [x]) .no := by simp
    rw [eap]
    refine (code_Decode_ok (b ++ [x]) .no (by simp; omega)).run ?_
    rw [decode_more hd (by simp)]
    simp only [decV, extractE_tup, get0, get1, pureK_some]
    intro o3 h3
    rw [st_st rfl]
    simp only [heapK_some]
    have hle3 : H ≤ H2.upd o3 (.cells (stC zeroSt .no .no)) := Heap.le_upd hle2 (le_none hle2 h3)
    generalize H2.upd o3 (.cells (stC zeroSt .no .no)) = H3 at hle3 ⊢
    refine law19_alive_ok.run ?_
    simp only [condK_t]
    refine (ref16_Same_ok b b pv p (by unfold small; omega)).run ?_
    simp only [decide_true, eq_self, condK_t, bop_eql, pureK_some]
    exact ret1_of H hle3 ⟨rfl, rfl⟩

end Go.Av
