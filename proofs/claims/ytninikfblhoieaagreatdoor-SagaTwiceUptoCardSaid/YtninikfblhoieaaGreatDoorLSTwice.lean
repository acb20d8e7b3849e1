/- SagaTwice: two sagas of the same term and script are the same, whatever is done with both; what is written into the script behind that changes nothing. Condition: what the arguments hold together is of bulk at most 1048576 (the second form). -/
import Derived.Test.YtninikfblhoieaaGreatDoorLComS
import Derived.Test.YtninikfblhoieaaGreatDoorE31
set_option linter.all false

namespace Go.Proofs.YtninikfblhoieaaGreatDoor.stwice
open Go Go.Av Go.ChangeShapes Go.WideShapes Go.ChangeAt Go.RowKit Go.Proofs.YtninikfblhoieaaGreatDoor.com

theorem types : ∀ t, t ∈ Tryz.f5.params.toList → Tryz.prog.readableRec t = true ∧ t < Tryz.prog.types.size := by
 intro t ht
 rw [Tryz.params5] at ht
 simp only [List.mem_cons, List.not_mem_nil, or_false] at ht
 rcases ht with rfl | rfl | rfl
 · exact ⟨by kernel_rfl, of_decide_eq_true (by kernel_rfl)⟩
 · exact ⟨by kernel_rfl, of_decide_eq_true (by kernel_rfl)⟩
 · exact ⟨by kernel_rfl, of_decide_eq_true (by kernel_rfl)⟩
theorem resT : Tryz.f5.resultTypes = #[4] := by kernel_rfl

set_option maxRecDepth 100000 in
theorem contract (H : Type) (enc : TypeId × Value → H) (W : World) (base : Nat) (args : Array Value) (ds gs : List (DataW H)) (before : List MemPlace)
 (hval : ∀ (j : Nat) t v, Tryz.f5.params[j]? = some t → args[j]? = some v → Value.okWide Tryz.prog W .any base t v)
 (hW : DataW.Whole enc Tryz.prog Tryz.f5.params.toList Rows.sagaTwiceSpec.vars false W args.toList ds gs before) (hk : Rows.uptoSmall H (ds ++ gs) = true) (hL : laidMetH Tryz.prog Rows.sagaTwiceUptoRow.laid W) :
 Calls Tryz.prog 5 args W fun e W' => ∃ v, e = .returned v ∧ Rows.sagaTwiceSpec.post enc Tryz.prog Tryz.f5 false true false false W args v W' := by
 have hW' := hW
 obtain ⟨p, q, hA0, hV, rfl, hfz, hnd⟩ := hW
 obtain ⟨rfl, rfl⟩ := trodVars_none hV
 have hA : DataW.TrodAll enc Tryz.prog W 0 (fun _ => true) true Tryz.f5.params.toList args.toList ds p := hA0
 rw [Tryz.params5] at hA hval
 obtain ⟨v0, vs0, d0, ds0, p0, q0, hargs, rfl, rfl, h0, r0⟩ := trodAll_cons hA
 obtain ⟨v1, vs1, d1, ds1, p1, q1, rfl, rfl, rfl, h1, r1⟩ := trodAll_cons r0
 obtain ⟨v2, vs2, d2, ds2, p2, q2, rfl, rfl, rfl, h2, r2⟩ := trodAll_cons r1
 obtain ⟨rfl, rfl, rfl⟩ := trodAll_nil r2
 obtain rfl : args = #[v0, v1, v2] := by cases args; simp_all
 have hbulk : Rows.uptoBulkAll ([d0, d1, d2] : List (DataW H)) ≤ 1048576 := by
  have := of_decide_eq_true hk
  simpa using this
 simp only [Rows.uptoBulkAll] at hbulk
 have k0 := hval 0 22 v0 (by simp) (by simp)
 have k1 := hval 1 25 v1 (by simp) (by simp)
 have k2 := hval 2 49 v2 (by simp) (by simp)
 obtain ⟨l, rl, hn⟩ := read_nodes k0 h0
 obtain ⟨pk, rf, nb, rs, a0, a1, a2, hd1, hpk, hrf⟩ := read_script scTypes k1 h1
 obtain ⟨acts, rn, b3⟩ := read_acts k2 h2
 subst hd1
 simp only [Rows.uptoBulk, Rows.uptoBulkAll] at hbulk
 have b0 := (nodes_bulk hn).1
 have b1 := ints_bulk hpk
 have b2 := ints_bulk hrf
 have key := call_start (vs := [v0, v1, v2]) (law21_SagaTwice_ok l .no pk rf 1 1 .no .no nb acts 2 .no (.inl rfl) (.inl rfl) (.inl rfl) (by unfold small; omega) (by omega) (by omega) (by omega) (fun _ => none)) (glob hL) rfl (fun i hi => by
  match i, hi with
  | 0, _ => exact rl
  | 1, _ => exact rs
  | 2, _ => exact rn)
 refine key.mono ?_
 rintro e W' ⟨v, G', rfl, hB, hv⟩
 have hv' := rep_bool_inv hv
 subst hv'
 refine ⟨_, rfl, ?_⟩
 rw [List.append_nil] at hW'
 exact post_true laidOut u4 resT types hW' hA0 rfl rfl rfl rfl hB

noncomputable abbrev wargs : Array Value := #[.slice none 0 0, .agg #[.slice none 0 0, .slice none 0 0, .int .i64 0], .slice none 0 0]
theorem laid_met (os : Os) : laidMet Tryz.prog Rows.sagaTwiceUptoRow.laid ((laidWorld os).forCall (fun _ _ => 0) ⟨#[], wargs, []⟩).memory :=
 laidMet_of_run' 8 (by kernel_rfl) (by kernel_rfl)
theorem reads (os : Os) {H : Type} (enc : TypeId × Value → H) : ∃ places, DataW.whole enc Tryz.prog ((laidWorld os).forCall (fun _ _ => 0) ⟨#[], wargs, []⟩).memory Tryz.f5.params.toList Rows.sagaTwiceSpec.vars false wargs.toList 8 = some ([.nil, .agg [.nil, .nil, .lit (.int .i64 0)], .nil], [], places) :=
 ⟨[], by kernel_rfl⟩

set_option maxRecDepth 100000 in
theorem liftedUpto (os : Os) (started : os.Started) (H : Type) (enc : TypeId × Value → H) (F : Stop.Interp) :
 ReturnsInHanded {} Tryz.checked os 5 .any ((Rows.OpenSpec.upto Rows.sagaTwiceSpec).preRow enc Tryz.prog Tryz.f5 Rows.sagaTwiceUptoRow.domain false Rows.sagaTwiceUptoRow.laid) (((Rows.OpenSpec.upto Rows.sagaTwiceSpec).at F).post enc Tryz.prog Tryz.f5 false true false false) := by
 obtain ⟨places, hx⟩ := reads os enc
 refine returnsInHanded_of_row (C := Tryz.checked) (s := Rows.OpenSpec.upto Rows.sagaTwiceSpec) own started (by kernel_rfl) Tryz.func5
  (witness_row_at (enc := enc) (C := Tryz.checked) false (laidWorld os) wargs rfl (by kernel_rfl) (by kernel_rfl) (by kernel_rfl)
    (OpenSpec.preRow_of_cond 8 hx (by kernel_rfl) (fun k hk => by cases hk; kernel_rfl) (by kernel_rfl) (laid_met os))) ?_
 intro W base args ds gs before hval hW _ hcond _ hL _ _
 exact contract H enc W base args ds gs before hval hW (hcond _ rfl) hL

theorem saidUpto : Rows.SagaTwiceUptoSaid :=
 OpenClaim.holds_of_cond 5 Tryz.f5 rfl rfl rfl rfl rfl rfl rfl ⟨rfl, rfl, rfl, rfl, rfl⟩ rfl rfl rfl rfl rfl (by kernel_rfl) Tryz.func5 (by kernel_rfl)
  (of_decide_eq_true (by kernel_rfl)) (by unfold Func.isWrapper; first | (rw [if_pos (by decide +kernel)]; kernel_rfl) | (rw [if_neg (by decide +kernel)]; exact ⟨rfl, rfl⟩))
  (fun os started H enc _ F => by rw [OpenClaim.pre_eq_preRow]; exact liftedUpto os started H enc F)

theorem plain (f : FuncId) (fn : Func) (hf : Tryz.pinned.checked.prog.funcNamed "redress/redresslaw21.SagaTwice" = some f) (hfn : Tryz.pinned.checked.prog.funcs[f]? = some fn) :
 false = Tryz.pinned.checked.prog.looks [] ∧ ∀ (j : Nat) t, fn.params[j]? = some t → Tryz.pinned.checked.prog.wantsStandIn t = false := by
 obtain rfl : f = 5 := Option.some.inj ((show Tryz.prog.funcNamed "redress/redresslaw21.SagaTwice" = some 5 by kernel_rfl).symm.trans hf) |>.symm
 obtain rfl : fn = Tryz.f5 := (Option.some.inj (Tryz.func5.symm.trans hfn)).symm
 refine ⟨by kernel_rfl, fun j t ht => ?_⟩
 rw [Tryz.params5] at ht
 have hm : t ∈ [22, 25, 49] := by simpa using Array.mem_of_getElem? ht
 simp only [List.mem_cons, List.not_mem_nil, or_false] at hm
 rcases hm with rfl | rfl | rfl
 · exact (show Tryz.prog.wantsStandIn 22 = false by kernel_rfl)
 · exact (show Tryz.prog.wantsStandIn 25 = false by kernel_rfl)
 · exact (show Tryz.prog.wantsStandIn 49 = false by kernel_rfl)

theorem card : Rows.SagaTwiceUptoCardSaid :=
 Claim7.holds_tied_plain_at .later [] _ _ _ _ saidUpto (fun _ h => by cases h) (by kernel_rfl) (fun _ h => by cases h) sagaTwiceUpto_row_tie rfl ⟨rfl, rfl⟩ (by kernel_rfl) rfl plain (by kernel_rfl)
end Go.Proofs.YtninikfblhoieaaGreatDoor.stwice
