/- Structs, slices, addresses, conversions. -/
import Derived.Test.YtninikfblhoieaaGreatDoorAv5
set_option linter.all false

namespace Go.Av
open Go Go.RowKit

variable {E : Env} {Γ : Nat → Option AV} {G : Ghost} {H H' : Heap} {w : World} {a : Act} {T : Tm} {P : Program}

def Row (G : Ghost) (w : World) (vs : Array Value) (cs : List AV) : Prop :=
 vs.size = cs.length ∧ ∀ i, i < cs.length → Rep G w (vs.getD i undef) (cs.getD i .dead) ∧ (cs.getD i .dead).single = true

theorem getD_map_ofConst (vs : List Value) (i : Nat) : (vs.map ofConst).getD i .dead = if i < vs.length then ofConst (vs.getD i undef) else .dead := by
 simp only [List.getD_eq_getElem?_getD, List.getElem?_map]
 by_cases h : i < vs.length
 · simp [h, List.getElem?_eq_getElem h]
 · simp [h, List.getElem?_eq_none (Nat.le_of_not_lt h)]

theorem all_single {cs : List AV} (h : cs.all AV.single = true) (i : Nat) (hi : i < cs.length) : (cs.getD i .dead).single = true := by
 rw [List.all_eq_true] at h
 have : cs.getD i .dead = cs[i] := by simp [List.getD_eq_getElem?_getD, List.getElem?_eq_getElem hi]
 rw [this]; exact h _ (List.getElem_mem hi)

theorem zero_row {t : TypeId} {z : List AV} (h : zeroCells P t = some z) (hs : z.all AV.single = true) (G : Ghost) (w : World) :
 ∃ zv, (∀ w', (zeroValue t).run P w' = .ok zv w') ∧ Row G w zv.cells z ∧ (∃ i, P.info? t = some i ∧ i.zero = some zv) := by
 unfold zeroCells at h
 cases hz : (P.info? t).bind (·.zero) with
 | none => simp [hz] at h
 | some zv =>
   simp only [hz, Option.some.injEq] at h
   subst h
   cases hi : P.info? t with
   | none => simp [hi] at hz
   | some i =>
     have hz' : i.zero = some zv := by simpa [hi] using hz
     refine ⟨zv, fun w' => by simp [zeroValue, typeInfo, hi, hz'], ⟨by simp, fun k hk => ⟨?_, all_single hs k hk⟩⟩, i, rfl, hz'⟩
     rw [getD_map_ofConst]
     simp only [List.length_map, Array.length_toList] at hk
     simp only [Array.length_toList, hk, if_true]
     have : zv.cells.getD k undef = zv.cells.toList.getD k undef := by simp [List.getD_eq_getElem?_getD]
     rw [this]
     exact rep_ofConst G w _

theorem splice_length (cs xs : List AV) (off : Nat) (h : off + xs.length ≤ cs.length) : (splice cs off xs).length = cs.length := by
 simp [splice]; omega

theorem splice_getD (cs xs : List AV) (off i : Nat) (h : off + xs.length ≤ cs.length) :
 (splice cs off xs).getD i .dead = if off ≤ i ∧ i < off + xs.length then xs.getD (i - off) .dead else cs.getD i .dead := by
 simp only [splice, List.getD_eq_getElem?_getD]
 by_cases h1 : i < off
 · rw [if_neg (by omega), List.getElem?_append_left (by simp; omega), List.getElem?_append_left (by simp; omega)]
   simp [List.getElem?_take, h1]
 · by_cases h2 : i < off + xs.length
   · rw [if_pos ⟨by omega, h2⟩, List.getElem?_append_left (by simp; omega), List.getElem?_append_right (by simp; omega)]
     simp [Nat.min_eq_left (show off ≤ cs.length by omega)]
   · rw [if_neg (by omega), List.getElem?_append_right (by simp; omega)]
     simp only [List.length_append, List.length_take, Nat.min_eq_left (show off ≤ cs.length by omega), List.getElem?_drop]
     rw [show off + xs.length + (i - (off + xs.length)) = i by omega]

theorem foldl_set_getD (vs : List Value) : ∀ (n off : Nat) (cs : Array Value), off + n + vs.length ≤ cs.size →
 ((vs.zipIdx n).foldl (fun cs (c, j) => cs.setIfInBounds (off + j) c) cs).size = cs.size ∧
 ∀ i, ((vs.zipIdx n).foldl (fun cs (c, j) => cs.setIfInBounds (off + j) c) cs).getD i undef =
   if off + n ≤ i ∧ i < off + n + vs.length then vs.getD (i - (off + n)) undef else cs.getD i undef := by
 induction vs with
 | nil => intro n off cs _; simp; intro i h1 h2; omega
 | cons v vs ih =>
   intro n off cs h
   simp only [List.length_cons] at h
   obtain ⟨h1, h2⟩ := ih (n + 1) off (cs.setIfInBounds (off + n) v) (by simp; omega)
   simp only [List.zipIdx_cons, List.foldl_cons]
   refine ⟨by rw [h1]; simp, fun i => ?_⟩
   rw [h2 i]
   by_cases e : i = off + n
   · subst e
     rw [if_neg (by omega), if_pos ⟨by omega, by simp⟩]
     simp [Array.getD_eq_getD_getElem?, show off + n < cs.size by omega]
   · by_cases c : off + (n + 1) ≤ i ∧ i < off + (n + 1) + vs.length
     · rw [if_pos c, if_pos ⟨by omega, by simp; omega⟩]
       rw [show i - (off + n) = (i - (off + (n + 1))) + 1 by omega]
       simp
     · rw [if_neg c, if_neg (by simp; omega)]
       simp [Array.getD_eq_getD_getElem?, Array.getElem?_setIfInBounds_ne (show off + n ≠ i by omega)]

theorem Row.splice {vs : Array Value} {cs : List AV} {v : Value} {x : AV} {off : Nat} (h : Row G w vs cs) (hx : Rep G w v x) (hs : x.cells.all AV.single = true) (hle : off + x.cells.length ≤ cs.length) :
 Row G w (v.cells.zipIdx.foldl (fun cs (c, j) => cs.setIfInBounds (off + j) c) vs) (splice cs off x.cells) := by
 obtain ⟨h1, h2⟩ := h
 obtain ⟨c1, c2⟩ := hx.cells hs
 have e : v.cells.zipIdx.foldl (fun cs (c, j) => cs.setIfInBounds (off + j) c) vs = (v.cells.toList.zipIdx 0).foldl (fun cs (c, j) => cs.setIfInBounds (off + j) c) vs := by
  rw [← Array.foldl_toList, Array.toList_zipIdx]
 rw [e]
 obtain ⟨f1, f2⟩ := foldl_set_getD v.cells.toList 0 off vs (by simp; omega)
 refine ⟨by rw [f1, splice_length _ _ _ hle, h1], fun i hi => ?_⟩
 rw [splice_length _ _ _ hle] at hi
 rw [f2 i, splice_getD _ _ _ _ hle]
 simp only [Nat.add_zero, Array.length_toList, c1]
 by_cases hc : off ≤ i ∧ i < off + x.cells.length
 · rw [if_pos hc, if_pos hc]
   exact c2 (i - off) (by omega)
 · rw [if_neg hc, if_neg hc]
   exact h2 i hi

theorem fill_sound {place place' : Nat → Option (Nat × Nat)} (hpl : ∀ i x, place i = some x → place' i = some x) : ∀ (ps : List (Nat × Operand)) (vs : Array Value) (cs out : List AV) (f : Operand → Value) (g : Operand → AV), (∀ x, Rep G w (f x) (g x)) →
 Row G w vs cs → fillE place cs (ps.map fun p => (p.1, g p.2)) = some out →
 ∃ vs', Instr.fill place' vs (ps.map fun p => (p.1, f p.2)) = some vs' ∧ Row G w vs' out := by
 intro ps
 induction ps with
 | nil =>
   intro vs cs out f g _ hr h
   simp only [List.map_nil, fillE, Option.some.injEq] at h
   subst h
   exact ⟨vs, rfl, hr⟩
 | cons p ps ih =>
   intro vs cs out f g hfg hr h
   simp only [List.map_cons, fillE] at h
   split at h
   · cases h
   · rename_i off size hp
     split at h
     · rename_i hc
       simp only [Bool.and_eq_true, decide_eq_true_eq] at hc
       obtain ⟨⟨hsz, hle⟩, hs⟩ := hc
       have hrep := hfg p.2
       obtain ⟨vs', h1, h2⟩ := ih _ _ _ f g hfg (hr.splice hrep hs (by omega)) h
       refine ⟨vs', ?_, h2⟩
       have hcs := (hrep.cells hs).1
       simp only [List.map_cons, Instr.fill, hpl _ _ hp]
       rw [if_neg]
       · exact h1
       · simp only [Bool.or_eq_true, decide_eq_true_eq, not_or, ne_eq, Decidable.not_not]
         have := hr.1
         exact ⟨by omega, by omega⟩
     · cases h

theorem Row.agg {vs : Array Value} {cs : List AV} (h : Row G w vs cs) : Rep G w (.agg vs) (.agg cs) := by
 have := Rep.agg (G := G) (w := w) vs.toList cs (by simpa using h.1) (fun i hi => (h.2 i hi).2) (fun i hi => by
  have e : vs.toList.getD i undef = vs.getD i undef := by simp [List.getD_eq_getElem?_getD]
  rw [e]; exact (h.2 i hi).1)
 simpa using this

theorem run_sizeOf_has {t : TypeId} (h : hasT P t = true) (w : World) : (sizeOf t).run P w = .ok (P.cellsOf t) w := by
 unfold hasT at h
 obtain ⟨i, hi⟩ := Option.isSome_iff_exists.1 h
 exact run_sizeOf hi w

theorem run_places_all : ∀ (fs : List Field), fs.all (fun f => hasT P f.type) = true → ∀ w : World,
 (fs.mapM (m := Sem) fun f => do pure (f.offset, ← sizeOf f.type)).run P w = .ok (fs.map fun f => (f.offset, P.cellsOf f.type)) w
 | [], _, w => rfl
 | f :: fs, h, w => by
   simp only [List.all_cons, Bool.and_eq_true] at h
   simp only [List.mapM_cons, Sem.run_bind, run_sizeOf_has h.1, Result.andThen_ok, Sem.run_pure, run_places_all fs h.2 w, List.map_cons]

theorem build_sound {t : TypeId} {ps : Array (Nat × Operand)} {r : AV} {f : Operand → Value} {g : Operand → AV} (hfg : ∀ x, Rep G w (f x) (g x))
 (h : buildE P t (ps.toList.map fun p => (p.1, g p.2)) = some r) : ∃ v, (Instr.build t (ps.map fun (i, x) => (i, f x))).run P w = .ok v w ∧ Rep G w v r := by
 unfold buildE at h
 have key : ∀ (place place' : Nat → Option (Nat × Nat)) (_ : ∀ i x, place i = some x → place' i = some x) (z : List AV), zeroCells P t = some z → z.all AV.single = true →
  (fillE place z (ps.toList.map fun p => (p.1, g p.2))).map AV.agg = some r →
  ∃ vs, (∀ w', ∃ zv, (zeroValue t).run P w' = .ok zv w' ∧ Instr.fill place' zv.cells (ps.map fun (i, x) => (i, f x)).toList = some vs) ∧ Rep G w (.agg vs) r := by
  intro place place' hpl z hz hs hf
  obtain ⟨zv, h1, h2, _⟩ := zero_row hz hs G w
  obtain ⟨out, ho, rfl⟩ := Option.map_eq_some_iff.1 hf
  obtain ⟨vs, h3, h4⟩ := fill_sound hpl ps.toList zv.cells z out f g hfg h2 ho
  refine ⟨vs, fun w' => ⟨zv, h1 w', ?_⟩, h4.agg⟩
  rw [← h3]; simp
 split at h
 · rename_i z fs hz hu
   cases hs : (z.all AV.single && fs.toList.all (fun f => hasT P f.type)) with
   | false => rw [hs] at h; cases h
   | true =>
     rw [hs] at h
     simp only [Bool.and_eq_true] at hs
     obtain ⟨vs, h1, h2⟩ := key _ _ (fun _ _ h => h) z hz hs.1 h
     obtain ⟨zv, hz1, hz2⟩ := h1 w
     refine ⟨_, ?_, h2⟩
     have hm := run_places_all fs.toList hs.2 w
     simp only [Instr.build, Sem.run_bind, hz1, Result.andThen_ok, run_underlying hu, Array.mapM_eq_mapM_toList, hm, Sem.run_map]
     have e : (fun i : Nat => ((fs.toList.map fun (f : Field) => (f.offset, P.cellsOf f.type)).toArray)[i]?) = fun i => (fs.toList.map fun (f : Field) => (f.offset, P.cellsOf f.type))[i]? := by
      funext i; simp
     rw [e, hz2]; rfl
 · rename_i z n e hz hu
   cases hs : (z.all AV.single && hasT P e) with
   | false => rw [hs] at h; cases h
   | true =>
     rw [hs] at h
     simp only [Bool.and_eq_true] at hs
     obtain ⟨vs, h1, h2⟩ := key _ (fun i => some (i * P.cellsOf e, P.cellsOf e)) (fun i x h => by
      simp only [List.getElem?_map, Option.map_eq_some_iff, List.getElem?_range'] at h
      obtain ⟨j, hj, rfl⟩ := h
      have := List.getElem?_eq_some_iff.1 hj
      obtain ⟨_, rfl⟩ := this
      simp) z hz hs.1 h
     obtain ⟨zv, hz1, hz2⟩ := h1 w
     refine ⟨_, ?_, h2⟩
     simp only [Instr.build, Sem.run_bind, hz1, Result.andThen_ok, run_underlying hu, run_sizeOf_has hs.2, hz2]
     rfl
 · cases h

end Go.Av
