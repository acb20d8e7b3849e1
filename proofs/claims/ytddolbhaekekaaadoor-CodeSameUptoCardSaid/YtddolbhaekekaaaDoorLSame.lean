/- CodeSame: which states are the same, and how many bytes there are at most, is what the document says; states that may be have the same bytes just if they are the same. Condition: what the arguments hold together is of bulk at most 1048576 (the second form). -/
import Derived.Test.YtddolbhaekekaaaDoorLCom
set_option linter.all false
namespace Go.Proofs.YtddolbhaekekaaaDoor.same
open Go Go.Av Go.ChangeShapes Go.WideShapes Go.ChangeAt Go.RowKit Go.Proofs.YtddolbhaekekaaaDoor.com

theorem types : ∀ t, t ∈ Tryd.f5.params.toList → Tryd.prog.readableRec t = true ∧ t < Tryd.prog.types.size := by
  intro t ht
  rw [Tryd.params5] at ht
  simp only [List.mem_cons, List.not_mem_nil, or_false] at ht
  rcases ht with rfl | rfl | rfl
  · exact ⟨by kernel_rfl, of_decide_eq_true (by kernel_rfl)⟩
  · exact ⟨by kernel_rfl, of_decide_eq_true (by kernel_rfl)⟩
  · exact ⟨by kernel_rfl, of_decide_eq_true (by kernel_rfl)⟩
theorem resT : Tryd.f5.resultTypes = #[4] := by kernel_rfl

set_option maxRecDepth 100000 in
theorem contract (H : Type) (enc : TypeId × Value → H) (W : World) (base : Nat) (args : Array Value) (ds gs : List (DataW H)) (before : List MemPlace)
    (hval : ∀ (j : Nat) t v, Tryd.f5.params[j]? = some t → args[j]? = some v → Value.okWide Tryd.prog W .any base t v)
    (hW : DataW.Whole enc Tryd.prog Tryd.f5.params.toList Rows.codeSameSpec.vars false W args.toList ds gs before) (hk : Rows.uptoSmall H (ds ++ gs) = true) (hL : laidMetH Tryd.prog Rows.codeSameUptoRow.laid W) :
    Calls Tryd.prog 5 args W fun e W' => ∃ v, e = .returned v ∧ Rows.codeSameSpec.post enc Tryd.prog Tryd.f5 false true false false W args v W' := by
  have hW' := hW
  obtain ⟨p, q, hA0, hV, rfl, hfz, hnd⟩ := hW
  obtain ⟨rfl, rfl⟩ := trodVars_none hV
  have hA : DataW.TrodAll enc Tryd.prog W 0 (fun _ => true) true Tryd.f5.params.toList args.toList ds p := hA0
  rw [Tryd.params5] at hA hval
  obtain ⟨v0, vs0, d0, ds0, p0, q0, hargs, rfl, rfl, h0, r0⟩ := trodAll_cons hA
  obtain ⟨v1, vs1, d1, ds1, p1, q1, rfl, rfl, rfl, h1, r1⟩ := trodAll_cons r0
  obtain ⟨v2, vs2, d2, ds2, p2, q2, rfl, rfl, rfl, h2, r2⟩ := trodAll_cons r1
  obtain ⟨rfl, rfl, rfl⟩ := trodAll_nil r2
  obtain rfl : args = #[v0, v1, v2] := by cases args; simp_all
  have hbulk : Rows.uptoBulkAll ([d0, d1, d2] : List (DataW H)) ≤ 1048576 := by
    have := of_decide_eq_true hk
    simpa using this
  simp only [Rows.uptoBulkAll] at hbulk
  have k0 := hval 0 27 v0 (by simp) (by simp)
  have k1 := hval 1 27 v1 (by simp) (by simp)
  have k2 := hval 2 3 v2 (by simp) (by simp)
  obtain ⟨s0, rs0, a0, b0, c0, e0, hd0, hn0, ht0⟩ := read_state stTypes k0 h0
  subst hd0
  have fit0 : Fits2 s0 := fits_of (d1 := b0) (d2 := c0) hn0 ht0 (by omega)
  obtain ⟨s1, rs1, a1, b1, c1, e1, hd1, hn1, ht1⟩ := read_state stTypes k1 h1
  subst hd1
  have fit1 : Fits2 s1 := fits_of (d1 := b1) (d2 := c1) hn1 ht1 (by omega)
  obtain ⟨m2, h2⟩ := h2
  rw [cells_int Tryd.underlying3 k2] at h2
  obtain ⟨z2, w2, _, _⟩ := DataW.trod_int Tryd.underlying3 h2
  have ri2 : Rep (startG W) W v2 (I z2) := by
    injection w2 with w2
    rw [w2]; exact .sc _ rfl
  have key := call_start (vs := [v0, v1, v2]) (law19_CodeSame_ok s0 s1 .no .no .no .no z2 fit0 fit1 (fun _ => none)) (glob hL) rfl (fun i hi => by
    match i, hi with
    | 0, _ => exact rs0
    | 1, _ => exact rs1
    | 2, _ => exact ri2)
  refine key.mono ?_
  rintro e W' ⟨v, G', rfl, hB, hv⟩
  have hv' := rep_bool_inv hv
  subst hv'
  refine ⟨_, rfl, ?_⟩
  rw [List.append_nil] at hW'
  exact post_true laidOut u4 resT types hW' hA0 rfl rfl rfl rfl hB

noncomputable abbrev wargs : Array Value := #[.agg #[.slice none 0 0, .int .i64 0, .int .i64 0, .int .i64 0, .slice none 0 0], .agg #[.slice none 0 0, .int .i64 0, .int .i64 0, .int .i64 0, .slice none 0 0], .int .i64 0]
theorem laid_met (os : Os) : laidMet Tryd.prog Rows.codeSameUptoRow.laid ((laidWorld os).forCall (fun _ _ => 0) ⟨#[], wargs, []⟩).memory :=
  laidMet_of_run' 8 (by kernel_rfl) (by kernel_rfl)
theorem reads (os : Os) {H : Type} (enc : TypeId × Value → H) : ∃ places, DataW.whole enc Tryd.prog ((laidWorld os).forCall (fun _ _ => 0) ⟨#[], wargs, []⟩).memory Tryd.f5.params.toList Rows.codeSameSpec.vars false wargs.toList 8 = some ([.agg [.nil, .agg [.lit (.int .i64 0), .lit (.int .i64 0)], .lit (.int .i64 0), .nil], .agg [.nil, .agg [.lit (.int .i64 0), .lit (.int .i64 0)], .lit (.int .i64 0), .nil], .lit (.int .i64 0)], [], places) :=
  ⟨[], by kernel_rfl⟩

set_option maxRecDepth 100000 in
theorem liftedUpto (os : Os) (started : os.Started) (H : Type) (enc : TypeId × Value → H) (F : Stop.Interp) :
    ReturnsInHanded {} Tryd.checked os 5 .any ((Rows.OpenSpec.upto Rows.codeSameSpec).preRow enc Tryd.prog Tryd.f5 Rows.codeSameUptoRow.domain false Rows.codeSameUptoRow.laid) (((Rows.OpenSpec.upto Rows.codeSameSpec).at F).post enc Tryd.prog Tryd.f5 false true false false) := by
  obtain ⟨places, hx⟩ := reads os enc
  refine returnsInHanded_of_row (C := Tryd.checked) (s := Rows.OpenSpec.upto Rows.codeSameSpec) own started (by kernel_rfl) Tryd.func5
    (witness_row_at (enc := enc) (C := Tryd.checked) false (laidWorld os) wargs rfl (by kernel_rfl) (by kernel_rfl) (by kernel_rfl)
      (OpenSpec.preRow_of_cond 8 hx (by kernel_rfl) (fun k hk => by cases hk; kernel_rfl) (by kernel_rfl) (laid_met os))) ?_
  intro W base args ds gs before hval hW _ hcond _ hL _ _
  exact contract H enc W base args ds gs before hval hW (hcond _ rfl) hL

theorem saidUpto : Rows.CodeSameUptoSaid :=
  OpenClaim.holds_of_cond 5 Tryd.f5 rfl rfl rfl rfl rfl rfl rfl ⟨rfl, rfl, rfl, rfl, rfl⟩ rfl rfl rfl rfl rfl (by kernel_rfl) Tryd.func5 (by kernel_rfl)
    (of_decide_eq_true (by kernel_rfl)) (by unfold Func.isWrapper; first | (rw [if_pos (by decide +kernel)]; kernel_rfl) | (rw [if_neg (by decide +kernel)]; exact ⟨rfl, rfl⟩))
    (fun os started H enc _ F => by rw [OpenClaim.pre_eq_preRow]; exact liftedUpto os started H enc F)

theorem plain (f : FuncId) (fn : Func) (hf : Tryd.pinned.checked.prog.funcNamed "redress/redresslaw19.CodeSame" = some f) (hfn : Tryd.pinned.checked.prog.funcs[f]? = some fn) :
    false = Tryd.pinned.checked.prog.looks [] ∧ ∀ (j : Nat) t, fn.params[j]? = some t → Tryd.pinned.checked.prog.wantsStandIn t = false := by
  obtain rfl : f = 5 := Option.some.inj ((show Tryd.prog.funcNamed "redress/redresslaw19.CodeSame" = some 5 by kernel_rfl).symm.trans hf) |>.symm
  obtain rfl : fn = Tryd.f5 := (Option.some.inj (Tryd.func5.symm.trans hfn)).symm
  refine ⟨by kernel_rfl, fun j t ht => ?_⟩
  rw [Tryd.params5] at ht
  have hm : t ∈ [27, 27, 3] := by simpa using Array.mem_of_getElem? ht
  simp only [List.mem_cons, List.not_mem_nil, or_false] at hm
  rcases hm with rfl | rfl | rfl
  · exact (show Tryd.prog.wantsStandIn 27 = false by kernel_rfl)
  · exact (show Tryd.prog.wantsStandIn 27 = false by kernel_rfl)
  · exact (show Tryd.prog.wantsStandIn 3 = false by kernel_rfl)

theorem card : Rows.CodeSameUptoCardSaid :=
  Claim7.holds_tied_plain_at .later [] _ _ _ _ saidUpto (fun _ h => by cases h) (by kernel_rfl) (fun _ h => by cases h) codeSameUpto_row_tie rfl ⟨rfl, rfl⟩ (by kernel_rfl) rfl plain (by kernel_rfl)
end Go.Proofs.YtddolbhaekekaaaDoor.same
