/- CodeRuns: the state of any term, wherever it has gone on to, may be, and has as many bytes at most as are told for the term's nodes. No condition beside the row own. -/
import Derived.Test.YtddolbhaekekaaaGreatDoorLComR
import Derived.Test.YtddolbhaekekaaaGreatDoorDG
set_option linter.all false

namespace Go.Proofs.YtddolbhaekekaaaGreatDoor.runs
open Go Go.Av Go.ChangeShapes Go.WideShapes Go.ChangeAt Go.RowKit Go.Proofs.YtddolbhaekekaaaGreatDoor.com

theorem types : ∀ t, t ∈ Tryz.f5.params.toList → Tryz.prog.readableRec t = true ∧ t < Tryz.prog.types.size := by
  intro t ht
  rw [Tryz.params5] at ht
  simp only [List.mem_cons, List.not_mem_nil, or_false] at ht
  rcases ht with rfl | rfl
  · exact ⟨by kernel_rfl, of_decide_eq_true (by kernel_rfl)⟩
  · exact ⟨by kernel_rfl, of_decide_eq_true (by kernel_rfl)⟩
theorem resT : Tryz.f5.resultTypes = #[4] := by kernel_rfl

theorem elem_int {H : Type} {enc : TypeId × Value → H} {W : World} {spare : Nat → Bool} {held : Bool} {P : Program} {e : TypeId} (he : P.underlying e = some (.int .i64)) : ∀ n cs' y, cs'.length = 1 → DataW.trod enc P W 0 spare held n e cs' = some y →
    ∃ el : Int, (I el).cells.length = 1 ∧ (∀ j, j < 1 → ((I el).cells.getD j .dead).single = true ∧ Rep (startG W) W (cs'.getD j undef) ((I el).cells.getD j .dead)) ∧ y.1 = .lit (.int .i64 el) := by
  intro n cs' y hl h
  obtain ⟨k, rfl, rfl, _⟩ := DataW.trod_int he h
  refine ⟨k, rfl, fun j hj => ?_, rfl⟩
  match j, hj with
  | 0, _ => exact ⟨rfl, .sc _ rfl⟩

set_option maxRecDepth 100000 in
theorem contract (H : Type) (enc : TypeId × Value → H) (W : World) (base : Nat) (args : Array Value) (ds gs : List (DataW H)) (before : List MemPlace)
    (hval : ∀ (j : Nat) t v, Tryz.f5.params[j]? = some t → args[j]? = some v → Value.okWide Tryz.prog W .any base t v)
    (hW : DataW.Whole enc Tryz.prog Tryz.f5.params.toList Rows.codeRunsSpec.vars false W args.toList ds gs before) (hL : laidMetH Tryz.prog Rows.codeRunsRow.laid W) :
    Calls Tryz.prog 5 args W fun e W' => ∃ v, e = .returned v ∧ Rows.codeRunsSpec.post enc Tryz.prog Tryz.f5 false true false false W args v W' := by
  have hW' := hW
  obtain ⟨p, q, hA0, hV, rfl, hfz, hnd⟩ := hW
  obtain ⟨rfl, rfl⟩ := trodVars_none hV
  have hA : DataW.TrodAll enc Tryz.prog W 0 (fun _ => true) true Tryz.f5.params.toList args.toList ds p := hA0
  rw [Tryz.params5] at hA hval
  obtain ⟨v0, vs0, d0, ds0, p0, q0, hargs, rfl, rfl, h0, r0⟩ := trodAll_cons hA
  obtain ⟨v1, vs1, d1, ds1, p1, q1, rfl, rfl, rfl, h1, r1⟩ := trodAll_cons r0
  obtain ⟨rfl, rfl, rfl⟩ := trodAll_nil r1
  obtain rfl : args = #[v0, v1] := by cases args; simp_all
  have k0 := hval 0 22 v0 (by simp) (by simp)
  have k1 := hval 1 46 v1 (by simp) (by simp)
  obtain ⟨m0, h0⟩ := h0
  obtain ⟨ok0, cc0⟩ := cells_slice Tryz.underlying22 k0
  rw [cc0] at h0
  obtain ⟨l0, rl0, _⟩ := read_slice (W := W) (toAV := nd) (s := 3) (Q := fun el d => ∃ a b c, d = .agg [.lit (.int .i64 a), .lit (.string b), .lit (.int .i64 c)] ∧ b = el.name.data.toList) (by omega) Tryz.underlying22 stTypes.cN
    (elem_node stTypes.undN stTypes.k0 stTypes.k1 stTypes.k2 stTypes.ks stTypes.p0 stTypes.p1 stTypes.p2 stTypes.q0 stTypes.q1 stTypes.q2 stTypes.t0 stTypes.t1 stTypes.t2) ok0 h0
  obtain ⟨m1, h1⟩ := h1
  obtain ⟨ok1, cc1⟩ := cells_slice Tryz.underlying46 k1
  rw [cc1] at h1
  obtain ⟨n1, rn1, _⟩ := read_slice (W := W) (toAV := fun z : Int => I z) (s := 1) (Q := fun el d => d = .lit (.int .i64 el)) (by omega) Tryz.underlying46 (by kernel_rfl) (elem_int Tryz.underlying3) ok1 h1
  have key := call_start (vs := [v0, v1]) (law19_CodeRuns_all l0 n1 .no .no (fun _ => none)) (glob hL) rfl (fun i hi => by
    match i, hi with
    | 0, _ => exact rl0
    | 1, _ => exact rn1)
  refine key.mono ?_
  rintro e W' ⟨v, G', rfl, hB, hv⟩
  have hv' := rep_bool_inv hv
  subst hv'
  refine ⟨_, rfl, ?_⟩
  rw [List.append_nil] at hW'
  exact post_true laidOut u4 resT types hW' hA0 rfl rfl rfl rfl hB

noncomputable abbrev wargs : Array Value := #[.slice none 0 0, .slice none 0 0]
theorem laid_met (os : Os) : laidMet Tryz.prog Rows.codeRunsRow.laid ((laidWorld os).forCall (fun _ _ => 0) ⟨#[], wargs, []⟩).memory :=
  laidMet_of_run' 8 (by kernel_rfl) (by kernel_rfl)
theorem reads (os : Os) {H : Type} (enc : TypeId × Value → H) : ∃ places, DataW.whole enc Tryz.prog ((laidWorld os).forCall (fun _ _ => 0) ⟨#[], wargs, []⟩).memory Tryz.f5.params.toList Rows.codeRunsSpec.vars false wargs.toList 8 = some ([.nil, .nil], [], places) :=
  ⟨[], by kernel_rfl⟩

set_option maxRecDepth 100000 in
theorem liftedUpto (os : Os) (started : os.Started) (H : Type) (enc : TypeId × Value → H) (F : Stop.Interp) :
    ReturnsInHanded {} Tryz.checked os 5 .any ((OpenSpec.ofChange Rows.codeRunsSpec).preRow enc Tryz.prog Tryz.f5 Rows.codeRunsRow.domain false Rows.codeRunsRow.laid) (((OpenSpec.ofChange Rows.codeRunsSpec).at F).post enc Tryz.prog Tryz.f5 false true false false) := by
  obtain ⟨places, hx⟩ := reads os enc
  refine returnsInHanded_of_row (C := Tryz.checked) (s := OpenSpec.ofChange Rows.codeRunsSpec) own started (by kernel_rfl) Tryz.func5
    (witness_row_at (enc := enc) (C := Tryz.checked) false (laidWorld os) wargs rfl (by kernel_rfl) (by kernel_rfl) (by kernel_rfl)
      (OpenSpec.preRow_of_cond 8 hx (by kernel_rfl) (fun k hk => by cases hk) (by kernel_rfl) (laid_met os))) ?_
  intro W base args ds gs before hval hW _ hcond _ hL _ _
  exact contract H enc W base args ds gs before hval hW hL

theorem saidUpto : Rows.CodeRunsSaid :=
  OpenClaim.holds_of_cond 5 Tryz.f5 rfl rfl rfl rfl rfl rfl rfl ⟨rfl, rfl, rfl, rfl, rfl⟩ rfl rfl rfl rfl rfl (by kernel_rfl) Tryz.func5 (by kernel_rfl)
    (of_decide_eq_true (by kernel_rfl)) (by unfold Func.isWrapper; first | (rw [if_pos (by decide +kernel)]; kernel_rfl) | (rw [if_neg (by decide +kernel)]; exact ⟨rfl, rfl⟩))
    (fun os started H enc _ F => by rw [OpenClaim.pre_eq_preRow]; exact liftedUpto os started H enc F)

theorem plain (f : FuncId) (fn : Func) (hf : Tryz.pinned.checked.prog.funcNamed "redress/redresslaw19.CodeRuns" = some f) (hfn : Tryz.pinned.checked.prog.funcs[f]? = some fn) :
    false = Tryz.pinned.checked.prog.looks [] ∧ ∀ (j : Nat) t, fn.params[j]? = some t → Tryz.pinned.checked.prog.wantsStandIn t = false := by
  obtain rfl : f = 5 := Option.some.inj ((show Tryz.prog.funcNamed "redress/redresslaw19.CodeRuns" = some 5 by kernel_rfl).symm.trans hf) |>.symm
  obtain rfl : fn = Tryz.f5 := (Option.some.inj (Tryz.func5.symm.trans hfn)).symm
  refine ⟨by kernel_rfl, fun j t ht => ?_⟩
  rw [Tryz.params5] at ht
  have hm : t ∈ [22, 46] := by simpa using Array.mem_of_getElem? ht
  simp only [List.mem_cons, List.not_mem_nil, or_false] at hm
  rcases hm with rfl | rfl
  · exact (show Tryz.prog.wantsStandIn 22 = false by kernel_rfl)
  · exact (show Tryz.prog.wantsStandIn 46 = false by kernel_rfl)

theorem card : Rows.CodeRunsCardSaid :=
  Claim7.holds_tied_plain_at .later [] _ _ _ _ saidUpto (fun _ h => by cases h) (by kernel_rfl) (fun _ h => by cases h) codeRuns_row_tie rfl ⟨rfl, rfl⟩ (by kernel_rfl) rfl plain (by kernel_rfl)
end Go.Proofs.YtddolbhaekekaaaGreatDoor.runs
