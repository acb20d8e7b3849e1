/- CodeOnce, the first form's card: for every input, what is decoded is encoded as the same bytes; without the last one, or with one more, they are not decoded as it. No condition beside the row's own. -/
import Derived.Test.YtddolbhaekekaaaDoorCards
import Derived.Test.YtddolbhaekekaaaDoorTie
import Derived.Test.YtddolbhaekekaaaDoorC30
set_option linter.all false
namespace Go.Proofs.YtddolbhaekekaaaDoor.once
open Go Go.Av Go.ChangeShapes Go.WideShapes Go.ChangeAt Go.RowKit

theorem own : ownKnob Tryd.prog.godebug = none := by kernel_rfl
theorem gW : Tryd.prog.globalNamed "redress/row.words" = some 0 := by kernel_rfl
theorem gWt : (Tryd.prog.globals[0]?).map (·.type) = some 69 := by kernel_rfl
theorem u69 : Tryd.prog.underlying 69 = some (.array 6 9) := by kernel_rfl
theorem u9 : Tryd.prog.underlying 9 = some .string := by kernel_rfl
theorem c9 : Tryd.prog.cellsOf 9 = 1 := by kernel_rfl
theorem c69 : Tryd.prog.cellsOf 69 = 6 := by kernel_rfl
theorem laidOut : laidOutB Tryd.prog = true := by kernel_rfl

def wordRows : List (List UInt8) := [[115, 107, 105, 112], [116, 104, 114, 111, 119], [121, 105, 101, 108, 100], [115, 107, 105, 112, 112], [116, 104, 114, 111, 119, 119], [121, 105, 101, 108, 100, 100]]

theorem words_cell {W : World} (h : laidMet Tryd.prog Rows.codeOnceRow.laid W) : ∀ i (hi : i < wordRows.length), W.cell? ⟨0, i, none⟩ = some (.string ⟨(wordRows[i]).toArray⟩) := by
  obtain ⟨ps, ⟨_, _, _, _, _, _, _, _, _, _, ⟨g', t', cs, fuel, p, q, hg', ht', hvar, hd, _, _⟩, _⟩, _⟩ := h
  obtain rfl := Option.some.inj (gW.symm.trans hg')
  obtain rfl := Option.some.inj (gWt.symm.trans ht')
  intro i hi
  have h1 := strs_of_trod (ss := wordRows) u69 u9 c9 c69 hd i hi
  have h2 := World.var?_cell gW hvar i
  rw [h2]
  simpa using h1

theorem glob {W : World} (h : laidMet Tryd.prog Rows.codeOnceRow.laid W) : ∀ g a, gΓ g = some a → Rep (startG W) W (.pointer (some ⟨g, 0, none⟩)) a := by
  intro g a hga
  match g, hga with
  | 0, hga =>
    have e : g0 = a := Option.some.inj hga
    subst e
    refine Rep.cp 0 0 0 _ (fun k => .string ⟨((wordRows.getD k [])).toArray⟩) (fun k hk => ?_) (fun k hk => ?_) (fun k hk => ?_) (.inr trivial)
    · match k, hk with
      | 0, _ => rfl
      | 1, _ => rfl
      | 2, _ => rfl
      | 3, _ => rfl
      | 4, _ => rfl
      | 5, _ => rfl
    · have hk' : k < wordRows.length := hk
      rw [Nat.zero_add, words_cell h k hk']
      simp [List.getD, hk']
    · match k, hk with
      | 0, _ => exact .sc _ rfl
      | 1, _ => exact .sc _ rfl
      | 2, _ => exact .sc _ rfl
      | 3, _ => exact .sc _ rfl
      | 4, _ => exact .sc _ rfl
      | 5, _ => exact .sc _ rfl

theorem types4 : ∀ t, t ∈ Tryd.f4.params.toList → Tryd.prog.readableRec t = true ∧ t < Tryd.prog.types.size := by
  intro t ht
  rw [Tryd.params4] at ht
  simp only [List.mem_cons, List.not_mem_nil, or_false] at ht
  rcases ht with rfl | rfl
  · exact ⟨by kernel_rfl, of_decide_eq_true (by kernel_rfl)⟩
  · exact ⟨by kernel_rfl, of_decide_eq_true (by kernel_rfl)⟩
theorem u30 : Tryd.prog.underlying 30 = some (.slice 5) := by kernel_rfl
theorem u5 : Tryd.prog.underlying 5 = some (.int .u8) := by kernel_rfl
theorem c5 : Tryd.prog.cellsOf 5 = 1 := by kernel_rfl
theorem u4 : Tryd.prog.underlying 4 = some .bool := by kernel_rfl
theorem res4 : Tryd.f4.resultTypes = #[4] := by kernel_rfl

set_option maxRecDepth 100000 in
theorem contract (H : Type) (enc : TypeId × Value → H) (W : World) (base : Nat) (args : Array Value) (ds gs : List (DataW H)) (before : List MemPlace)
    (hval : ∀ (j : Nat) t v, Tryd.f4.params[j]? = some t → args[j]? = some v → Value.okWide Tryd.prog W .any base t v)
    (hW : DataW.Whole enc Tryd.prog Tryd.f4.params.toList Rows.codeOnceSpec.vars false W args.toList ds gs before) (hL : laidMetH Tryd.prog Rows.codeOnceRow.laid W) :
    Calls Tryd.prog 4 args W fun e W' => ∃ v, e = .returned v ∧ Rows.codeOnceSpec.post enc Tryd.prog Tryd.f4 false true false false W args v W' := by
  have hW' := hW
  obtain ⟨p, q, hA0, hV, rfl, hfz, hnd⟩ := hW
  obtain ⟨rfl, rfl⟩ := trodVars_none hV
  have hA : DataW.TrodAll enc Tryd.prog W 0 (fun _ => true) true Tryd.f4.params.toList args.toList ds p := hA0
  rw [Tryd.params4] at hA hval
  obtain ⟨v0, vs0, d0, ds0, p0, q0, hargs, rfl, rfl, h0, r0⟩ := trodAll_cons hA
  obtain ⟨v1, vs1, d1, ds1, p1, q1, rfl, rfl, rfl, h1, r1⟩ := trodAll_cons r0
  obtain ⟨rfl, rfl, rfl⟩ := trodAll_nil r1
  obtain rfl : args = #[v0, v1] := by cases args; simp_all
  obtain ⟨n0, h0⟩ := h0
  obtain ⟨n1, h1⟩ := h1
  have k0 := hval 0 30 v0 (by simp) (by simp)
  have k1 := hval 1 5 v1 (by simp) (by simp)
  obtain ⟨ok0, c0⟩ := cells_slice u30 k0
  have c1 := cells_int u5 k1
  rw [c0] at h0
  rw [c1] at h1
  obtain ⟨b, rb, _⟩ := read_slice (W := W) (toAV := byteAV) (s := 1) (Q := fun el d => d = .lit (.int .u8 el.toNat)) (by omega) u30 c5 (elem_byte u5) ok0 h0
  obtain ⟨x, e1, e2, _⟩ := elem_byte (W := W) u5 n1 [v1] _ rfl h1
  have rx : Rep (startG W) W v1 (byteAV x) := (e2 0 (by omega)).2
  have key := call_start (vs := [v0, v1]) (law19_CodeOnce_ok b x .no (fun _ => none)) (glob hL) rfl (fun i hi => by
    match i, hi with
    | 0, _ => exact rb
    | 1, _ => exact rx)
  refine key.mono ?_
  rintro e W' ⟨v, G', rfl, hB, hv⟩
  have hv' := rep_bool_inv hv
  subst hv'
  refine ⟨_, rfl, ?_⟩
  rw [List.append_nil] at hW'
  exact post_true laidOut u4 res4 types4 hW' hA0 rfl rfl rfl rfl hB

/-- A world for the witness: it holds the three tables. -/
noncomputable def laidHeap (os : Os) : Array Obj :=
  let h0 := (World.holding Tryd.prog os ⟨#[], #[], []⟩).heap
  let h1 := h0.modify 0 (setCells (wordRows.map fun s => Value.string ⟨s.toArray⟩))
  let h2 := h1.modify 1 (setCells (Go.Pinned.utf8FirstZ.map fun z : Nat => Value.int .u8 (z : Int)))
  h2.modify 2 (setCells (([128, 191, 160, 191, 128, 159, 144, 191, 128, 143] ++ List.replicate 22 0).map fun z : Nat => Value.int .u8 (z : Int)))
noncomputable def laidWorld (os : Os) : World := { World.holding Tryd.prog os ⟨#[], #[], []⟩ with heap := laidHeap os }
noncomputable abbrev wargs : Array Value := #[.slice none 0 0, .int .u8 0]
theorem laid_met (os : Os) : laidMet Tryd.prog Rows.codeOnceRow.laid ((laidWorld os).forCall (fun _ _ => 0) ⟨#[], wargs, []⟩).memory :=
  laidMet_of_run' 8 (by kernel_rfl) (by kernel_rfl)
theorem reads (os : Os) {H : Type} (enc : TypeId × Value → H) : ∃ places, DataW.whole enc Tryd.prog ((laidWorld os).forCall (fun _ _ => 0) ⟨#[], wargs, []⟩).memory Tryd.f4.params.toList Rows.codeOnceSpec.vars false wargs.toList 8 = some ([.nil, .lit (.int .u8 0)], [], places) :=
  ⟨[], by kernel_rfl⟩

set_option maxRecDepth 100000 in
theorem lifted (os : Os) (started : os.Started) (H : Type) (enc : TypeId × Value → H) (F : Stop.Interp) :
    ReturnsInHanded {} Tryd.checked os 4 .any ((OpenSpec.ofChange Rows.codeOnceSpec).preRow enc Tryd.prog Tryd.f4 Rows.codeOnceRow.domain false Rows.codeOnceRow.laid) (((OpenSpec.ofChange Rows.codeOnceSpec).at F).post enc Tryd.prog Tryd.f4 false true false false) := by
  obtain ⟨places, hx⟩ := reads os enc
  refine returnsInHanded_of_row (C := Tryd.checked) (s := OpenSpec.ofChange Rows.codeOnceSpec) own started (by kernel_rfl) Tryd.func4
    (witness_row_at (enc := enc) (C := Tryd.checked) false (laidWorld os) wargs rfl (by kernel_rfl) (by kernel_rfl) (by kernel_rfl)
      (OpenSpec.preRow_of_cond 8 hx (by kernel_rfl) (fun k hk => by cases hk) (by kernel_rfl) (laid_met os))) ?_
  intro W base args ds gs before hval hW _ _ _ hL _ _
  exact contract H enc W base args ds gs before hval hW hL

theorem said : Rows.CodeOnceSaid :=
  OpenClaim.holds_of_cond 4 Tryd.f4 rfl rfl rfl rfl rfl rfl rfl ⟨rfl, rfl, rfl, rfl, rfl⟩ rfl rfl rfl rfl rfl (by kernel_rfl) Tryd.func4 (by kernel_rfl)
    (of_decide_eq_true (by kernel_rfl)) (by unfold Func.isWrapper; first | (rw [if_pos (by decide +kernel)]; kernel_rfl) | (rw [if_neg (by decide +kernel)]; exact ⟨rfl, rfl⟩))
    (fun os started H enc _ F => by rw [OpenClaim.pre_eq_preRow]; exact lifted os started H enc F)

theorem plain (f : FuncId) (fn : Func) (hf : Tryd.pinned.checked.prog.funcNamed "redress/redresslaw19.CodeOnce" = some f) (hfn : Tryd.pinned.checked.prog.funcs[f]? = some fn) :
    false = Tryd.pinned.checked.prog.looks [] ∧ ∀ (j : Nat) t, fn.params[j]? = some t → Tryd.pinned.checked.prog.wantsStandIn t = false := by
  obtain rfl : f = 4 := Option.some.inj ((show Tryd.prog.funcNamed "redress/redresslaw19.CodeOnce" = some 4 by kernel_rfl).symm.trans hf) |>.symm
  obtain rfl : fn = Tryd.f4 := (Option.some.inj (Tryd.func4.symm.trans hfn)).symm
  refine ⟨by kernel_rfl, fun j t ht => ?_⟩
  rw [Tryd.params4] at ht
  have hm : t ∈ [30, 5] := by simpa using Array.mem_of_getElem? ht
  simp only [List.mem_cons, List.not_mem_nil, or_false] at hm
  rcases hm with rfl | rfl
  · exact (show Tryd.prog.wantsStandIn 30 = false by kernel_rfl)
  · exact (show Tryd.prog.wantsStandIn 5 = false by kernel_rfl)

theorem card : Rows.CodeOnceCardSaid :=
  Claim7.holds_tied_plain_at .later [] _ _ _ _ said (fun _ h => by cases h) (by kernel_rfl) (fun _ h => by cases h) codeOnce_row_tie rfl ⟨rfl, rfl⟩ (by kernel_rfl) rfl plain (by kernel_rfl)
end Go.Proofs.YtddolbhaekekaaaDoor.once
#print axioms Go.Proofs.YtddolbhaekekaaaDoor.once.card
