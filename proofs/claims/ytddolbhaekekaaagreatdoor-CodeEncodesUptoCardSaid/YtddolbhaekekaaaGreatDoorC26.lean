/- Own text C26 of this claim: see the text that holds the theorem. -/
import Derived.Test.YtddolbhaekekaaaGreatDoorC25
set_option linter.all false
set_option maxRecDepth 100000
namespace Go.Av
open Go Go.Proofs

theorem Pur.args {f : FuncId} {args args' : List AV} {v : AV} (hl : args.length = args'.length) (h : ∀ i, i < args.length → Weaker (args.getD i .dead) (args'.getD i .dead)) (hc : Pur f args' v) : Pur f args v := fun H => ACalls.args hl h (hc H)
theorem Pur.args2 {f : FuncId} {a a' b b' : AV} {v : AV} (h1 : Weaker a a') (h2 : Weaker b b') (hc : Pur f [a', b'] v) : Pur f [a, b] v :=
  Pur.args (args' := [a', b']) rfl (fun i hi => by
    match i, hi with
    | 0, _ => exact h1
    | 1, _ => exact h2) hc

structure Fits (s : St) : Prop where
  l : small s.l.length
  n : names s.l
  a : small s.a.length
  m : ∀ x, x ∈ s.a → x.size ≤ 4611686018427387904

theorem rightS_fits {s : St} (h : rightS s = true) : Fits s := by
  obtain ⟨h1, h2, h3, h4⟩ := rightS_parts h
  refine ⟨by unfold small; omega, fun n hn => ?_, by unfold small; omega, fun x hx => by have := h4 x hx; omega⟩
  have := (right_fit (h1 n hn)).2.2
  by_cases e : n.kind = 1
  · rw [if_pos e] at this; omega
  · rw [if_neg e] at this
    have hz : n.name = emp := by
      split at this
      · exact this.1
      · exact this.1
    rw [hz]; decide
theorem zero_fits : Fits zeroSt := ⟨by unfold small; decide, fun n hn => by simp [zeroSt] at hn, by unfold small; decide, fun x hx => by simp [zeroSt] at hx⟩

theorem right_ok {s : St} (h : Fits s) (p q : Perm) : Pur code_Right [stA s p q] (B (rightS s)) := code_Right_ok settleOk s p q h.l h.n h.a h.m
theorem encode_ok {s : St} (h : Fits s) (p q : Perm) (H : Heap) :
    ACalls PP gΓ code_Encode [stA s p q] H (fun r H' => (rightS s = false ∧ r = .tup [.lst 0 [] .exact, B false] ∧ H' = H) ∨ (rightS s = true ∧ ∃ v, r = .tup [v, B true] ∧ Out H H' (enc s) v)) :=
  code_Encode_ok s p q _ (right_ok h p q) (fun h => by have := enc_len h; have := rightS_parts h; omega) h.l h.a H

theorem condK_t (X Y : Prop) : condK (B true) X Y = X := rfl
theorem condK_f (X Y : Prop) : condK (B false) X Y = Y := rfl
theorem bld_zero : bld [(0, 1), (1, 2), (3, 1), (4, 1)] [.lst 0 [] .exact, .sc (.int .i64 0), .sc (.int .i64 0), .sc (.int .i64 0), .lst 0 [] .exact] [] = some (.agg zeroC) := rfl

theorem law19_alive_ok : Pur law19_alive [] (B true) := by
  intro H
  refine law19_alive_of ?_
  unfold W_law19_alive
  have e1 : bld [(0, 1), (1, 1), (2, 1)] [.sc (.int .i64 0), S emp, .sc (.int .i64 0)] [(0, I 1), (1, S s_ab)] = some (nd aliveNode) := rfl
  have e2 : bsl 3 (.agg [.sc (.int .i64 0), S emp, .sc (.int .i64 0)]) 1 [(0, nd aliveNode)] = some (rowA [aliveNode] .exact) := rfl
  have e3 : bld [(0, 1), (1, 1)] [.sc (.int .i64 0), .sc (.int .i64 0)] [(1, I 1)] = some (.agg [I 0, I 1]) := rfl
  have e4 : bsl 1 (S emp) 1 [(0, S s_c)] = some (txtA [s_c] .exact) := rfl
  have e5 : bld [(0, 1), (1, 2), (3, 1), (4, 1)] [.lst 0 [] .exact, .sc (.int .i64 0), .sc (.int .i64 0), .sc (.int .i64 0), .lst 0 [] .exact] [(0, rowA [aliveNode] .exact), (1, .agg [I 0, I 1]), (2, I 1), (3, txtA [s_c] .exact)] = some (stA aliveSt .exact .exact) := rfl
  rw [e1]; simp only [pureK_some]
  rw [e2]; simp only [pureK_some]
  rw [e3]; simp only [pureK_some]
  rw [e4]; simp only [pureK_some]
  rw [e5]; simp only [pureK_some]
  intro o6 h6
  rw [st_st rfl]
  simp only [heapK_some]
  rw [ld_st]
  simp only [pureK_some]
  have hle : H ≤ H.upd o6 (.cells (stC aliveSt .exact .exact)) := by simp [h6]
  have ho6 : (H.upd o6 (.cells (stC aliveSt .exact .exact))) o6 = some (.cells (stC aliveSt .exact .exact)) := Heap.upd_same _ _ _
  generalize H.upd o6 (.cells (stC aliveSt .exact .exact)) = H8 at hle ho6 ⊢
  have hfit := rightS_fits alive_right
  refine (encode_ok hfit .exact .exact H8).mono ?_
  rintro r H11 (⟨hr, _, _⟩ | ⟨_, v, rfl, hout⟩)
  · rw [alive_right] at hr; cases hr
  simp only [extractE_tup, get0, get1, pureK_some]
  have hv : ∃ pv, v = bytA (enc aliveSt) pv := by obtain ⟨pv, h, _⟩ := hout; exact ⟨pv, h⟩
  obtain ⟨pv, rfl⟩ := hv
  refine (code_Decode_ok _ pv (by rw [alive_enc]; decide)).run ?_
  rw [decode_enc alive_right]
  simp only [decV, extractE_tup, get0, get1, pureK_some]
  intro o18 h18
  rw [st_st rfl]
  simp only [heapK_some]
  have hout2 := hout.alloc (x := .cells (stC aliveSt .no .no)) h18
  rw [bld_zero]
  simp only [pureK_some]
  refine (ACalls.arg1 zeroW (encode_ok zero_fits .no .no _)).mono ?_
  rintro r H23 (⟨_, rfl, rfl⟩ | ⟨hr, _⟩)
  rotate_left
  · rw [zero_right] at hr; cases hr
  simp only [extractE_tup, get0, get1, pureK_some]
  have e6 : bsl 1 (.sc (.int .u8 0)) 1 [(0, .sc (.int .u8 0))] = some (bytA [0] .exact) := rfl
  rw [e6]
  simp only [pureK_some]
  refine app_out hout2 (appended_byt _ _) (by rw [alive_enc]; decide) fun v2 H28 h2 => ?_
  obtain ⟨pv2, rfl, hb2⟩ := h2
  refine (code_Decode_ok _ pv2 (by rw [alive_enc]; decide)).run ?_
  rw [decode_more (decode_enc alive_right) (by simp)]
  simp only [decV, extractE_tup, get0, get1, pureK_some]
  intro o33 h33
  rw [st_st rfl]
  simp only [heapK_some]
  have e7 : bsl 1 (.sc (.int .u8 0)) 11 [(0, .sc (.int .u8 1)), (1, .sc (.int .u8 1)), (2, .sc (.int .u8 2)), (3, .sc (.int .u8 97)), (4, .sc (.int .u8 98)), (5, .sc (.int .u8 0)), (6, .sc (.int .u8 1)), (7, .sc (.int .u8 1)), (8, .sc (.int .u8 1)), (9, .sc (.int .u8 1)), (10, .sc (.int .u8 99))] = some (bytA (enc aliveSt) .exact) := by
    rw [alive_enc]; rfl
  rw [e7]
  simp only [pureK_some]
  refine (ref16_Same_ok _ _ pv .exact (by rw [alive_enc]; unfold small; decide)).run ?_
  -- what the heap holds
  have hle8 : H8 ≤ H11 := hout.le
  have hle28 : (H8.upd o18 (.cells (stC aliveSt .no .no))) ≤ H28 := hb2.le
  have hn18 : H8 o18 = none := hout.none h18
  have g6 : (H28.upd o33 (.cells (stC zeroSt .no .no))) o6 = some (.cells (stC aliveSt .exact .exact)) := by
    have : (H8.upd o18 (.cells (stC aliveSt .no .no))) o6 = some (.cells (stC aliveSt .exact .exact)) := by
      rw [Heap.upd_ne _ _ (fun e => by subst e; rw [hn18] at ho6; cases ho6)]; exact ho6
    have h28 := hle28 _ _ this
    rw [Heap.upd_ne _ _ (fun e => by subst e; rw [h33] at h28; cases h28)]; exact h28
  have g18 : (H28.upd o33 (.cells (stC zeroSt .no .no))) o18 = some (.cells (stC aliveSt .no .no)) := by
    have h28 := hle28 o18 _ (Heap.upd_same _ _ _)
    rw [Heap.upd_ne _ _ (fun e => by subst e; rw [h33] at h28; cases h28)]; exact h28
  have gle : H ≤ H28.upd o33 (.cells (stC zeroSt .no .no)) := by
    refine Heap.le_upd (fun o x h => ?_) ?_
    · refine hle28 _ _ ?_
      have := hle o x h
      rw [Heap.upd_ne _ _ (fun e => by subst e; rw [hn18] at this; cases this)]; exact this
    · exact le_none (fun o x h => hle28 o x (by
        have := hle o x h
        rw [Heap.upd_ne _ _ (fun e => by subst e; rw [hn18] at this; cases this)]; exact this)) h33
  generalize H28.upd o33 (.cells (stC zeroSt .no .no)) = HB at g6 g18 gle ⊢
  have l6 : ld (some true) 5 HB (.ptr o6 0) = some (stA aliveSt .exact .exact) := by rw [ld_ptr g6]; rfl
  have l18 : ld (some true) 5 HB (.ptr o18 0) = some (stA aliveSt .no .no) := by rw [ld_ptr g18]; rfl
  simp only [decide_true, condK_t, l6, l18, pureK_some]
  refine (code_Same_ok aliveSt aliveSt .exact .exact .no .no hfit.l hfit.a).run ?_
  simp only [decide_true, condK_t, pureK_some, bop_eql, unE_not, Bool.not_false, l6]
  refine (right_ok hfit .exact .exact).run ?_
  rw [alive_right]
  simp only [condK_t]
  refine (code_Long_ok 2).run ?_
  have e8 : long 2 = 43 := rfl
  rw [e8]
  simp only [decide_true, condK_t, pureK_some, bop_eql, l6]
  refine (Pur.args2 (Weaker.refl _) zeroW (code_Same_ok aliveSt zeroSt .exact .exact .no .no hfit.l hfit.a)).run ?_
  rw [decide_eq_false alive_ne]
  simp only [unE_not, pureK_some, Bool.not_false]
  exact ret1_of H gle ⟨rfl, rfl⟩

end Go.Av
