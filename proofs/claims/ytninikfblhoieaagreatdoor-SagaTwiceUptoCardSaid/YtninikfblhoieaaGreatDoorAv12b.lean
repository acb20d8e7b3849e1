/- Maps with int keys, new slices, calls of yield; regions in the order of the text, in the fenced form. -/
import Derived.Test.YtninikfblhoieaaGreatDoorAv12
import Derived.RangeFuncCalls
import Derived.MapKept
import Derived.Laws.MakeOwn
set_option linter.all false

namespace Go.Av
open Go Go.RowKit

variable {E : Env} {Γ : Nat → Option AV} {G : Ghost} {H H' : Heap} {w : World} {a : Act} {T : Tm} {P : Program}

def wideR (r : Option Nat) : Fence := { Fence.wide with round := r }

theorem upon_in {r : Option Nat} {n : Nat} {o : Oper} {next : Act → World → Prop} {Q : Exit → Act → World → Prop} {res : Result Next} (h : o.upon P a next Q res) : o.uponIn (wideR r) n P a next Q res := by
 unfold Oper.upon at h
 unfold Oper.uponIn
 split at h
 · exact h
 · exact h
 · exact h
 · exact ⟨fun e => (by cases e), callsIn_wide.2 h⟩
 · refine ⟨fun e => (by cases e), fun c cs _ => ?_⟩
   obtain ⟨v, w', h1, h2⟩ := h c cs
   exact ⟨v, w', h1, stepsIn_wide.2 h2⟩
 · exact h
 · exact h.elim

theorem wp_in {r : Option Nat} {n : Nat} {o : Oper} {next : Act → World → Prop} {Q : Exit → Act → World → Prop} (hd : ∀ c, o.op ≠ .defer c) (h : o.wp P a w next Q) : o.wpIn (wideR r) n P a w next Q := by
 refine ⟨fun _ _ => trivial, ?_⟩
 rw [show (wideR r).round = r from rfl, Oper.semAt_eq r _ o hd]
 exact upon_in h

theorem mget_spec {k : Int} : ∀ (es : List (Int × AV)) (arr : List MapEntry) (i0 : Nat), arr.length = es.length → (∀ i, i < es.length → (arr.getD i default).key = .int .i64 (es.getD i (0, .dead)).1 ∧ Rep G w (arr.getD i default).val (es.getD i (0, .dead)).2) →
 (mget k es = none ∧ Instr.findNow (.int .i64) (.int .i64 k) arr i0 = some none) ∨ ∃ j v x, mget k es = some x ∧ Instr.findNow (.int .i64) (.int .i64 k) arr i0 = some (some (i0 + j, v)) ∧ Rep G w v x ∧ j < es.length ∧ (es.getD j (0, .dead)).1 = k := by
 intro es
 induction es with
 | nil =>
   intro arr i0 hl _
   have : arr = [] := List.eq_nil_of_length_eq_zero (by simpa using hl)
   subst this
   exact .inl ⟨rfl, rfl⟩
 | cons p es ih =>
   intro arr i0 hl h
   obtain ⟨n, x⟩ := p
   cases arr with
   | nil => simp at hl
   | cons e arr =>
     have h0 := h 0 (by simp)
     simp only [List.getD_cons_zero] at h0
     have hs : Instr.sameNow (.int .i64) (.int .i64 k) e.key = some (k == n) := by rw [h0.1]; simp [Instr.sameNow]
     have hs2 : Instr.findNow (.int .i64) (.int .i64 k) (e :: arr) i0 = if k = n then some (some (i0, e.val)) else Instr.findNow (.int .i64) (.int .i64 k) arr (i0 + 1) := by
      simp only [Instr.findNow, hs]
      by_cases hk : k = n
      · subst hk; simp
      · have : (k == n) = false := by simpa using hk
        simp only [this, if_neg hk]
     rw [hs2]
     by_cases hk : k = n
     · subst hk
       refine .inr ⟨0, e.val, x, by simp [mget], by simp, h0.2, by simp, by simp⟩
     · rw [if_neg hk]
       rcases ih arr (i0 + 1) (by simpa using hl) (fun i hi => by simpa using h (i + 1) (by simpa using hi)) with ⟨h1, h2⟩ | ⟨j, v, y, h1, h2, h3, h4, h5⟩
       · exact .inl ⟨by simp [mget, Ne.symm hk, h1], h2⟩
       · exact .inr ⟨j + 1, v, y, by simp [mget, Ne.symm hk, h1], by rw [h2]; congr 3; omega, h3, by simpa using h4, by simpa using h5⟩

theorem intKeys_spec {t et : TypeId} (h : intKeys P t = some et) : ∃ kt, P.underlying t = some (.map kt et) ∧ P.underlying kt = some (.int .i64) := by
 unfold intKeys at h
 split at h <;> try (cases h; done)
 rename_i kt et' h1
 split at h <;> try (cases h; done)
 rename_i h2
 injection h with h; subst h
 exact ⟨kt, h1, h2⟩

theorem run_checkKeyI {kt : TypeId} {k : Int} (hk : P.underlying kt = some (.int .i64)) (e : Bool) : (Instr.checkKey e 10000 kt (.int .i64 k)).run P w = .ok () w := by
 have : ∀ n, (Instr.checkKey e (n + 1) kt (.int .i64 k)).run P w = .ok () w := fun n => by
  unfold Instr.checkKey
  simp [run_underlying hk]
 exact this 9999

theorem zeroA_spec {t : TypeId} {z : AV} (h : zeroA P t = some z) : ∃ v, (zeroValue t).run P w = .ok v w ∧ Rep G w v z := by
 unfold zeroA at h
 cases hi : P.info? t with
 | none => simp [hi] at h
 | some i =>
   cases hz : i.zero with
   | none => simp [hi, hz] at h
   | some v =>
     simp only [hi, hz, Option.bind_some, Option.map_some, Option.some.injEq] at h
     subst h
     exact ⟨v, by simp [zeroValue, typeInfo, hi, hz], rep_ofConst G w v⟩

theorem look_sound {t : TypeId} {ok : Bool} {x i : Value} {ax ai r : AV} (hW : WRel Γ G H w) (hx : Rep G w x ax) (hi : Rep G w i ai) (h : lookE P t ok ax ai H = some r) :
 ∃ v, (Instr.lookup t x i ok).run P w = .ok v w ∧ Rep G w v r := by
 unfold lookE at h
 split at h <;> try (cases h; done)
 rename_i et het
 split at h <;> try (cases h; done)
 rename_i z hz
 obtain ⟨kt, ht, hk⟩ := intKeys_spec het
 obtain ⟨zv, hzv, hzr⟩ := zeroA_spec (G := G) (w := w) hz
 unfold lk at h
 split at h <;> try (cases h; done)
 rename_i o k
 split at h <;> try (cases h; done)
 rename_i es hes
 obtain ⟨rfl, hu⟩ := hx.inv_mp
 obtain ⟨rfl, _⟩ := hi.inv_sc
 obtain ⟨_, h1, h2, arr, clock, h3, h4, h5⟩ := hW.obj o _ hes
 have hrun : ∀ (f : Option (Nat × Value)), Instr.findNow (.int .i64) (.int .i64 k) arr.toList 0 = some f →
  (Instr.lookup t (.map (some (G.loc o))) (.int .i64 k) ok).run P w = .ok (if ok then .tuple #[match f with | some (_, v) => v | none => zv, .bool f.isSome] else match f with | some (_, v) => v | none => zv) w := fun f hf => by
  cases f with
  | none => simp [Instr.lookup, run_underlying ht, MapKept.run_getObj_map h3, run_checkKeyI hk, MapKept.run_findKey hk hf, hzv]
  | some p => simp [Instr.lookup, run_underlying ht, MapKept.run_getObj_map h3, run_checkKeyI hk, MapKept.run_findKey hk hf]
 have fin : ∀ (v : Value) (y : AV) (b : Bool), Rep G w v y → Rep G w (if ok then .tuple #[v, .bool b] else v) (okR ok y b) := fun v y b hr => by
  cases ok with
  | false => exact hr
  | true => exact .tup [v, .bool b] [y, B b] rfl (fun i hi => by
     match i, hi with
     | 0, _ => exact hr
     | 1, _ => exact .sc _ rfl)
 have h5' : ∀ i, i < es.length → (arr.toList.getD i default).key = .int .i64 (es.getD i (0, .dead)).1 ∧ Rep G w (arr.toList.getD i default).val (es.getD i (0, .dead)).2 := fun i hi => by
  have := h5 i hi
  simpa [Array.getD_eq_getD_getElem?, List.getD_eq_getElem?_getD] using this
 injection h with hr
 rw [← hr]
 clear hr
 rcases mget_spec (G := G) (w := w) (k := k) es arr.toList 0 (by simpa using h4) h5' with ⟨g1, g2⟩ | ⟨j, v, y, g1, g2, g3, _, _⟩
 · rw [g1]; exact ⟨_, hrun _ g2, fin _ _ false hzr⟩
 · rw [g1]; exact ⟨_, hrun _ g2, fin _ _ true g3⟩

theorem mset_spec {k : Int} {x : AV} : ∀ (es : List (Int × AV)), (mget k es = none → mset k x es = es ++ [(k, x)]) ∧
 (∀ j, j < es.length → (es.getD j (0, .dead)).1 = k → (∀ i, i < j → (es.getD i (0, .dead)).1 ≠ k) → mset k x es = es.set j (k, x)) := by
 intro es
 induction es with
 | nil => exact ⟨fun _ => rfl, fun j hj => by simp at hj⟩
 | cons p es ih =>
   obtain ⟨n, v⟩ := p
   refine ⟨fun h => ?_, fun j hj hk hf => ?_⟩
   · by_cases hn : n = k
     · simp [mget, hn] at h
     · simp only [mget, if_neg hn] at h
       simp [mset, hn, ih.1 h]
   · cases j with
     | zero => simp at hk; simp [mset, hk]
     | succ j =>
       have h0 := hf 0 (by omega)
       simp at h0
       simp only [mset, if_neg h0, List.set_cons_succ]
       rw [ih.2 j (by simpa using hj) (by simpa using hk) (fun i hi => by simpa using hf (i + 1) (by omega))]

theorem findNow_first {k : Int} : ∀ (arr : List MapEntry) (es : List (Int × AV)) (i0 j : Nat) (v : Value), arr.length = es.length → (∀ i, i < es.length → (arr.getD i default).key = .int .i64 (es.getD i (0, .dead)).1) →
 Instr.findNow (.int .i64) (.int .i64 k) arr i0 = some (some (i0 + j, v)) → ∀ i, i < j → (es.getD i (0, .dead)).1 ≠ k := by
 intro arr
 induction arr with
 | nil => intro es i0 j v hl h hf i hi; simp [Instr.findNow] at hf
 | cons e arr ih =>
   intro es i0 j v hl h hf i hi
   cases es with
   | nil => simp at hl
   | cons p es =>
     have h0 := h 0 (by simp)
     simp only [List.getD_cons_zero] at h0
     have hs : Instr.sameNow (.int .i64) (.int .i64 k) e.key = some (k == p.1) := by rw [h0]; simp [Instr.sameNow]
     simp only [Instr.findNow, hs] at hf
     by_cases hk : k = p.1
     · have : (k == p.1) = true := by simpa using hk
       simp only [this, Option.some.injEq, Prod.mk.injEq] at hf
       omega
     · have : (k == p.1) = false := by simpa using hk
       simp only [this] at hf
       cases i with
       | zero => simpa using Ne.symm hk
       | succ i =>
         have hj : 0 < j := by omega
         have := ih es (i0 + 1) (j - 1) v (by simpa using hl) (fun i hi => by simpa using h (i + 1) (by simpa using hi)) (by rw [hf]; congr 3; omega) i (by omega)
         simpa using this

theorem mu_sound {t : TypeId} {x k v : Value} {ax ak av : AV} {H1 : Heap} (hW : WRel Γ G H w) (hx : Rep G w x ax) (hk : Rep G w k ak) (hv : Rep G w v av) (h : muE P t ax ak av H = some H1) :
 ∃ w', (Instr.mapUpdate t x k v).run P w = .ok () w' ∧ Ext G w G w' ∧ WRel Γ G H1 w' := by
 unfold muE at h
 split at h <;> try (cases h; done)
 rename_i et het
 obtain ⟨kt, ht, hkt⟩ := intKeys_spec het
 unfold mu at h
 split at h <;> try (cases h; done)
 rename_i o n
 split at h <;> try (cases h; done)
 rename_i es hes
 injection h with h; subst h
 obtain ⟨rfl, hu⟩ := hx.inv_mp
 obtain ⟨rfl, _⟩ := hk.inv_sc
 obtain ⟨_, h1, h2, arr, clock, h3, h4, h5⟩ := hW.obj o _ hes
 have h5' : ∀ i, i < es.length → (arr.toList.getD i default).key = .int .i64 (es.getD i (0, .dead)).1 ∧ Rep G w (arr.toList.getD i default).val (es.getD i (0, .dead)).2 := fun i hi => by
  have := h5 i hi
  simpa [Array.getD_eq_getD_getElem?, List.getD_eq_getElem?_getD] using this
 have fin : ∀ (arr' : Array MapEntry) (clock' : Nat), arr'.size = (mset n av es).length → (∀ i, i < (mset n av es).length → (arr'.getD i default).key = .int .i64 ((mset n av es).getD i (0, .dead)).1 ∧ Rep G w (arr'.getD i default).val ((mset n av es).getD i (0, .dead)).2) →
  Ext G w G (setBlock w (G.loc o) (.map arr' clock')) ∧ WRel Γ G (H.upd o (.map (mset n av es))) (setBlock w (G.loc o) (.map arr' clock')) := fun arr' clock' g1 g2 =>
  hW.setObj hes rfl (x' := .map (mset n av es)) rfl (.map arr' clock') (fun w' hw' xt => by
   subst hw'
   exact ⟨h1, h2, arr', clock', setBlock_heap_same w _ _ (Array.getElem?_eq_some_iff.1 h3).1, g1, fun i hi => ⟨(g2 i hi).1, (g2 i hi).2.ext xt⟩⟩)
 rcases mget_spec (G := G) (w := w) (k := n) es arr.toList 0 (by simpa using h4) h5' with ⟨g1, g2⟩ | ⟨j, v0, y, g1, g2, g3, g4, g5⟩
 · have hm := (mset_spec (k := n) (x := av) es).1 g1
   have key := fin (arr.push { key := .int .i64 n, val := v, born := clock }) (clock + 1) (by rw [hm]; simp [h4]) (fun i hi => by
    rw [hm] at hi ⊢
    simp only [List.length_append, List.length_singleton] at hi
    by_cases hi' : i < es.length
    · have := h5 i hi'
      simp only [Array.getD_eq_getD_getElem?, List.getD_eq_getElem?_getD] at this ⊢
      rw [Array.getElem?_push, if_neg (by omega), List.getElem?_append_left hi']
      exact this
    · have : i = es.length := by omega
      subst this
      simp only [Array.getD_eq_getD_getElem?, List.getD_eq_getElem?_getD]
      rw [Array.getElem?_push, if_pos h4.symm, List.getElem?_append_right (Nat.le_refl _)]
      simpa using hv)
   refine ⟨_, ?_, key⟩
   simp [Instr.mapUpdate, run_underlying ht, MapKept.run_getObj_map h3, run_checkKeyI hkt, MapKept.run_findKey hkt g2, MapKept.run_setObj_map _ h3, setBlock]
 · have hff := findNow_first (k := n) arr.toList es 0 j v0 (by simpa using h4) (fun i hi => (h5' i hi).1) g2
   have hm := (mset_spec (k := n) (x := av) es).2 j g4 g5 hff
   have hj : j < arr.size := by omega
   have hkey : (arr[j]'hj).key = .int .i64 n := by
    have := (h5 j g4).1
    rw [g5] at this
    simpa [Array.getD_eq_getD_getElem?, hj] using this
   have key := fin (arr.modify j fun e => { e with key := .int .i64 n, val := v }) clock (by rw [hm]; simp [h4]) (fun i hi => by
    rw [hm] at hi ⊢
    simp only [List.length_set] at hi
    have hia : i < arr.size := by omega
    by_cases hij : i = j
    · subst hij
      have e1 : (arr.modify i fun e => { e with key := .int .i64 n, val := v }).getD i default = { arr[i] with key := .int .i64 n, val := v } := by
       simp only [Array.getD_eq_getD_getElem?]
       rw [Array.getElem?_modify, if_pos rfl, Array.getElem?_eq_getElem hia]; rfl
      have e2 : (es.set i (n, av)).getD i (0, .dead) = (n, av) := by simp [List.getD_eq_getElem?_getD, g4]
      rw [e1, e2]; exact ⟨rfl, hv⟩
    · have e1 : (arr.modify j fun e => { e with key := .int .i64 n, val := v }).getD i default = arr.getD i default := by
       simp only [Array.getD_eq_getD_getElem?]
       rw [Array.getElem?_modify, if_neg (Ne.symm hij)]
      have e2 : (es.set j (n, av)).getD i (0, .dead) = es.getD i (0, .dead) := by
       simp only [List.getD_eq_getElem?_getD]
       rw [List.getElem?_set_ne (Ne.symm hij)]
      rw [e1, e2]; exact h5 i hi)
   refine ⟨_, ?_, key⟩
   have hstay : (Instr.keyThatStays (((arr[j]?).map (·.key)).getD (.int .i64 n)) (.int .i64 n)).run P w = .ok (.int .i64 n) w := by
    have : ((arr[j]?).map (·.key)).getD (.int .i64 n) = .int .i64 n := by simp [hj, hkey]
    rw [this]
    unfold Instr.keyThatStays
    rw [if_pos (by simp [Instr.sameBits])]; rfl
   simp only [Nat.zero_add] at g2
   simp [Instr.mapUpdate, run_underlying ht, MapKept.run_getObj_map h3, run_checkKeyI hkt, MapKept.run_findKey hkt g2, hstay, MapKept.run_setObj_map _ h3, setBlock]

theorem newMap_sound {t : TypeId} {K : AV → Heap → Prop} (hW : WRel Γ G H w) (h : newMapK H K) : Comes1 Γ P G w (Instr.makeMap t none) K := by
 obtain ⟨o, ho, hHo⟩ := hW.fresh
 have x := Ext.addObj hW (.map #[] 0) ho
 refine ⟨_, _, _, _, _, (rfl : (Instr.makeMap t none).run P w = .ok (.map (some w.heap.size)) (w.alloc (.map #[] 0))), x, hW.addObj (.map #[] 0) ho (.map []) rfl ?_, ?_, h o hHo⟩
 · refine ⟨?_, by simp [Ghost.addObj], #[], 0, ?_, rfl, fun i hi => by simp at hi⟩
   · have := hW.base; simp only [Ghost.addObj, if_true]; exact this
   · simp only [Ghost.addObj, if_true]; exact World.heap_alloc_new w _
 · have := Rep.mp (G := G.addObj w.heap.size o) (w := w.alloc (.map #[] 0)) o (by simp [Ghost.addObj])
   simpa [Ghost.addObj] using this

theorem madeCells_row (G : Ghost) (w : World) {z : Array Value} (hz : ∀ v, v ∈ z.toList → (ofConst v).single = true) (hpos : 0 < z.size) (n : Nat) : ∃ zs, zs.length = n ∧ Row G w (madeCells z n) zs ∧ ∀ i, i < n → zs.getD i .dead = (z.toList.map ofConst).getD (i % z.size) .dead := by
 refine ⟨(madeCells z n).toList.map ofConst, by simp [madeCells], ⟨by simp [madeCells], fun i hi => ?_⟩, fun i hi => ?_⟩
 rotate_left
 · have hl : i % z.size < z.size := Nat.mod_lt _ hpos
   rw [getD_map_ofConst, getD_map_ofConst, if_pos (by simpa [madeCells] using hi), if_pos (by simpa using hl)]
   congr 1
   simp [madeCells, List.getD_eq_getElem?_getD, hi, hl, getElem!_pos]
 rw [getD_map_ofConst]
 simp only [List.length_map, Array.length_toList] at hi
 have hi' : i < n := by simpa [madeCells] using hi
 have hl : i % z.size < z.size := Nat.mod_lt _ hpos
 have e : (madeCells z n).getD i undef = z[i % z.size] := by
  simp [madeCells, Array.getD_eq_getD_getElem?, hi', getElem!_pos, hl]
 have e2 : (madeCells z n).toList.getD i undef = z[i % z.size] := by rw [← e]; simp [List.getD_eq_getElem?_getD]
 rw [if_pos (by simpa using hi), e, e2]
 exact ⟨rep_ofConst G w _, hz _ (by simp)⟩

theorem mks_sound {t : TypeId} {x y : Value} {ax ay : AV} {K : AV → Heap → Prop} (hW : WRel Γ G H w) (hx : Rep G w x ax) (hy : Rep G w y ay) (h : mksK P t ax ay H K) : Comes1 Γ P G w (Instr.makeSlice t x y) K := by
 unfold mksK at h
 split at h <;> try (exact h.elim)
 rename_i e ht
 cases hok : appOk P e with
 | false => rw [hok] at h; exact h.elim
 | true =>
 rw [hok] at h
 obtain ⟨i, z, hi, hz, hsz, hzs, hpos, hby, hb0, hzz⟩ := appOk_spec hok
 unfold mks at h
 simp only [cond_true] at h
 split at h <;> try (exact h.elim)
 rename_i zc hzc
 have hzc' : zc = z.cells.toList.map ofConst := by
  simp only [zeroCells, hi, hz, Option.bind_some, Option.some.injEq] at hzc
  exact hzc.symm
 split at h <;> try (exact h.elim)
 rename_i kn n km m
 obtain ⟨rfl, h0, hmax, hk⟩ := h
 obtain ⟨rfl, _⟩ := hx.inv_sc
 obtain ⟨rfl, _⟩ := hy.inv_sc
 have hmax' : n ≤ 1073741824 := hmax
 have hnb : (i.bytes : Int) * n ≤ 1024 * 1073741824 := Int.mul_le_mul (by omega) (by omega) (by omega) (by omega)
 have hrun := run_make (P := P) w t e i z ht hi hz kn km n n h0 (Int.le_refl _) (by omega) (by omega)
 obtain ⟨zs, hzl, hrow, hzv⟩ := madeCells_row G w hzz (by omega) (n.toNat * i.size)
 obtain ⟨o, ho, hHo⟩ := hW.fresh
 have xt := Ext.addObj hW (.cells (madeCells z.cells (n.toNat * i.size)) e) ho
 refine ⟨_, _, _, _, _, hrun, xt, hW.addObj _ ho (.cells zs) rfl ?_, ?_, hk o zs (by rw [hzl, hsz]) (fun j hj => by rw [hzc', hsz, hzv j (by rw [← hsz]; exact hj), hzs]) hHo⟩
 · refine ⟨?_, by simp [Ghost.addObj], _, e, ?_, hrow.1, fun i hi => ⟨(hrow.2 i hi).2, (hrow.2 i hi).1.ext xt⟩⟩
   · have := hW.base; simp only [Ghost.addObj, if_true]; exact this
   · simp only [Ghost.addObj, if_true]; exact World.heap_alloc_new w _
 · have := Rep.ms (G := G.addObj w.heap.size o) (w := w.alloc (.cells (madeCells z.cells (n.toNat * i.size)) e)) o 0 n.toNat n.toNat (by simp [Ghost.addObj])
   have e : (G.addObj w.heap.size o).loc o = w.heap.size := by simp [Ghost.addObj]
   rw [e] at this
   exact this

end Go.Av
