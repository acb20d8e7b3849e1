/- append into a variable of the call's own. -/
import Derived.Test.YtninikfblhoieaaGreatDoorAv11
set_option linter.all false

namespace Go.Av
open Go Go.RowKit

variable {E : Env} {Γ : Nat → Option AV} {G : Ghost} {H H' : Heap} {w : World} {a : Act} {T : Tm} {P : Program}

theorem zeros_row (G : Ghost) (w : World) {z : Array Value} (hz : ∀ v, v ∈ z.toList → (ofConst v).single = true) (n : Nat) : Row G w (Builtin.zeroCells z n) ((Builtin.zeroCells z n).toList.map ofConst) := by
 refine ⟨by simp, fun i hi => ?_⟩
 rw [getD_map_ofConst]
 simp only [List.length_map, Array.length_toList] at hi
 have hm : (Builtin.zeroCells z n).toList.getD i undef ∈ z.toList := by
  have hpos : 0 < z.size := by
   rcases Nat.eq_zero_or_pos z.size with h | h
   · rw [size_zeroCells', h] at hi; omega
   · exact h
  have hl : i % z.size < z.size := Nat.mod_lt _ hpos
  have : (Builtin.zeroCells z n).toList.getD i undef = z[i % z.size] := by
   rw [size_zeroCells'] at hi
   simp [Builtin.zeroCells, List.getD_eq_getElem?_getD, hi, getElem!_pos, hl]
  rw [this]; simp
 have e : (Builtin.zeroCells z n).getD i undef = (Builtin.zeroCells z n).toList.getD i undef := by simp [List.getD_eq_getElem?_getD]
 rw [if_pos (by simpa using hi), e]
 exact ⟨rep_ofConst G w _, hz _ hm⟩

theorem newObj_sound (hW : WRel Γ G H w) {vs : Array Value} {cs : List AV} {e : TypeId} (hr : Row G w vs cs) (len cap : Nat) {K : AV → Heap → Prop} (h : ∀ o, H o = none → K (.ms o 0 len cap) (H.upd o (.cells cs))) :
 ∃ G' r H1, Ext G w G' (w.drew.alloc (.cells vs e)) ∧ WRel Γ G' H1 (w.drew.alloc (.cells vs e)) ∧ Rep G' (w.drew.alloc (.cells vs e)) (.slice (some ⟨w.heap.size, 0, none⟩) len cap) r ∧ K r H1 := by
 obtain ⟨o, ho, hHo⟩ := hW.fresh
 have hWd := hW.drew
 have x := Ext.addObj hWd (.cells vs e) ho
 refine ⟨_, _, _, (Ext.drew G w).trans x, hWd.addObj (.cells vs e) ho (.cells cs) rfl ?_, ?_, h o hHo⟩
 · refine ⟨?_, by simp [Ghost.addObj], vs, e, ?_, hr.1, fun i hi => ⟨(hr.2 i hi).2, ((hr.2 i hi).1.ext (Ext.drew G w)).ext x⟩⟩
   · have := hW.base; simp only [Ghost.addObj, if_true]; exact this
   · simp only [Ghost.addObj, if_true]; exact World.heap_alloc_new w.drew _
 · have := Rep.ms (G := G.addObj w.heap.size o) (w := w.drew.alloc (.cells vs e)) o 0 len cap (by simp [Ghost.addObj])
   have e : (G.addObj w.heap.size o).loc o = w.heap.size := by simp [Ghost.addObj]
   rw [e] at this
   exact this

theorem Row.sub {vs : Nat → Value} {cs : List AV} {off n : Nat} (h : ∀ k, k < n → Rep G w (vs k) (cs.getD (off + k) .dead) ∧ (cs.getD (off + k) .dead).single = true) (hn : off + n ≤ cs.length) : Row G w ((List.range n).map vs).toArray ((cs.drop off).take n) := by
 refine ⟨by simp; omega, fun i hi => ?_⟩
 have hi' : i < n := by simp at hi; omega
 have e1 : (((List.range n).map vs).toArray).getD i undef = vs i := by simp [Array.getD_eq_getD_getElem?, hi']
 have e2 : ((cs.drop off).take n).getD i .dead = cs.getD (off + i) .dead := by
  simp only [List.getD_eq_getElem?_getD, List.getElem?_take_of_lt hi', List.getElem?_drop]
 rw [e1, e2]; exact h i hi'

theorem appM_sound {ts : Array TypeId} {t u ty e : TypeId} {d : TypeDesc} {x y : Value} {ax ay : AV} {K : AV → Heap → Prop} (hW : WRel Γ G H w) (h0 : ts[0]? = some t) (h1 : ts[1]? = some u)
 (ht : P.underlying t = some (.slice e)) (hu : P.underlying u = some d) (hd : ∀ k, d ≠ .int k) (hok : appOk P e = true)
 (hx : Rep G w x ax) (hy : Rep G w y ay) (h : appM (P.cellsOf e) ax ay H K) :
 ∃ v w' G' r H1, (Builtin.append_ ts ty #[x, y]).run P w = .ok v w' ∧ Ext G w G' w' ∧ WRel Γ G' H1 w' ∧ Rep G' w' v r ∧ K r H1 := by
 obtain ⟨i, z, hi, hz, hsz, hzs, hpos, hby, hb0, hzz⟩ := appOk_spec hok
 have hbytes : P.bytesOf e = i.bytes := by simp [Program.bytesOf, hi]
 have fits : ∀ n m cap, n + m ≤ maxApp → cap < n + m → Builtin.nextslicecap (n + m) cap * i.bytes ≤ 281474976710656 := fun n m cap hmax hlt => by
  have hmax' : n + m ≤ 1073741824 := hmax
  have h2 := nextslicecap_le (need := n + m) (old := cap) hlt
  have : Builtin.nextslicecap (n + m) cap * i.bytes ≤ (2 * 1073741824) * 1024 := Nat.mul_le_mul (by omega) hby
  omega
 unfold appM at h
 rw [hsz] at h
 split at h <;> try (exact h.elim)
 · rename_i s1 es
   split at h <;> try (exact h.elim)
   rename_i ys hys
   obtain ⟨hs1, hyp, hmax, hk⟩ := h
   obtain ⟨news, hnews⟩ := news_sound (P := P) hpos hy hys
   obtain ⟨base, cap, olds, rfl, hcap, hold, holdRow, hes⟩ : ∃ (base : Option Addr) (cap : Nat) (olds : Array Value), x = .slice base es.length cap ∧ cap = es.length ∧
    (Builtin.firstCells i.size es.length (.slice base es.length cap)).run P w.drew = .ok olds w.drew ∧ Row G w olds (es.flatMap AV.cells) ∧ (∀ e', e' ∈ es → e'.cells.length = i.size) := by
    rcases hx.inv_lst with ⟨rfl, rfl⟩ | ⟨b, off, cap, vs, rfl, g1, g2, g3, g4, g5, g6, g7⟩
    · exact ⟨none, 0, #[], rfl, rfl, rfl, ⟨rfl, by intro i hi; simp at hi⟩, (by intro e' he; cases he)⟩
    · by_cases hne : es = []
      · subst hne
        refine ⟨_, cap, #[], rfl, g7, ?_, ⟨rfl, by intro i hi; simp at hi⟩, (by intro e' he; cases he)⟩
        simpa using run_firstCells_row (P := P) (w := w.drew) (b := b) (off := off) (n := 0) (s := i.size) (cap := cap) (vs := vs) (fun k hk => by simp at hk)
      · have := hs1.resolve_right hne
        subst this
        exact ⟨_, cap, _, rfl, g7, run_firstCells_row (P := P) (w := w.drew) (fun k hk => g4 k hk), lst_row rfl g2 g3 g5, g2⟩
   have hrun := run_append_gen (P := P) (w := w) (ty := ty) h0 h1 ht hu hd hi hz (base := base) hnews.len hold (hnews.cells w.drew (fun b off v hc => hc)) (hnews.cells w (fun b off v hc => hc)) (fun hlt => fits _ _ _ hmax hlt) (by omega)
   rw [if_neg (by omega)] at hrun
   have hgc := grownCap_ge w (es.length + ys.length) cap e
   have hrow : Row G w (olds ++ news ++ Builtin.zeroCells z.cells (grownCap w (es.length + ys.length) cap e - (es.length + ys.length))) ((es ++ ys).flatMap AV.cells ++ (Builtin.zeroCells z.cells (grownCap w (es.length + ys.length) cap e - (es.length + ys.length))).toList.map ofConst) := by
    rw [flatMap_append']; exact (holdRow.append hnews.row).append (zeros_row G w hzz _)
   obtain ⟨G', r, H1, x1, x2, x3, x4⟩ := newObj_sound (e := e) hW hrow (es.length + ys.length) (grownCap w (es.length + ys.length) cap e) (K := K) (fun o ho => hk o _ _ ho hgc (by simp [size_zeroCells', hzs]))
   exact ⟨_, _, G', r, H1, hrun, x1, x2, x3, x4⟩
 · rename_i o off len cap
   split at h <;> try (exact h.elim)
   rename_i ys cs hys hcs
   obtain ⟨hlen, hcap, hyp, hmax, hin, hout⟩ := h
   obtain ⟨news, hnews⟩ := news_sound (P := P) hpos hy hys
   obtain ⟨rfl, hu2⟩ := hx.inv_ms
   obtain ⟨g1, g2, c, el, g3, g4, g5⟩ := (hW.obj o _ hcs).2
   have hle : len * i.size ≤ cap * i.size := Nat.mul_le_mul_right _ hcap
   have hcell : ∀ k, k < len * i.size → w.cell? ⟨G.loc o, off + k, none⟩ = some (c.getD (off + k) undef) := fun k hk => by
    simp only [World.cell?, g3, Option.isSome_none, Bool.false_eq_true, if_false]
    rw [Array.getElem?_eq_getElem (by omega)]
    simp [Array.getD_eq_getD_getElem?, show off + k < c.size by omega]
   have hold := run_firstCells_row (P := P) (w := w.drew) (cap := cap) (fun k hk => hcell k hk)
   have holdRow : Row G w ((List.range (len * i.size)).map fun k => c.getD (off + k) undef).toArray ((cs.drop off).take (len * i.size)) := Row.sub (fun k hk => ⟨(g5 _ (by omega)).2, (g5 _ (by omega)).1⟩) (by omega)
   have hrun := run_append_gen (P := P) (w := w) (ty := ty) h0 h1 ht hu hd hi hz (base := some ⟨G.loc o, off, none⟩) hnews.len hold (hnews.cells w.drew (fun b off v hc => hc)) (hnews.cells w (fun b off v hc => hc)) (fun hlt => fits _ _ _ hmax hlt) (by omega)
   have hnl := flatMap_length ys i.size hnews.size
   by_cases hroom : len + ys.length ≤ cap
   · rw [if_pos hroom] at hrun
     have hmul : len * i.size + ys.length * i.size ≤ cap * i.size := by rw [← Nat.add_mul]; exact Nat.mul_le_mul_right _ hroom
     have hnsz : news.size = ys.length * i.size := by rw [hnews.row.1, hnl]
     have hst := run_storeCells_at P (G.loc o) (off + len * i.size) el news.toList 0 c w g3 (by simp; omega) (oneCells hnews.row)
     simp only [Nat.add_zero] at hst
     have hadd : (⟨G.loc o, off, none⟩ : Addr).add (len * i.size) = ⟨G.loc o, off + len * i.size, none⟩ := addr_add _ _ _
     simp only [hadd, hst, Result.andThen_ok] at hrun
     rw [setRow_setBlock g3] at hrun
     have hsp : off + len * i.size + (ys.flatMap AV.cells).length ≤ cs.length := by rw [hnl]; omega
     have key := hW.setObj hcs rfl (x' := .cells (splice cs (off + len * i.size) (ys.flatMap AV.cells))) rfl (.cells (c.toList.take (off + len * i.size) ++ news.toList ++ c.toList.drop (off + len * i.size + news.toList.length)).toArray el) (fun w' hw' xt => by
      subst hw'
      refine ⟨g1, g2, _, el, setBlock_heap_same w _ _ (Array.getElem?_eq_some_iff.1 g3).1, ?_, fun j hj => ?_⟩
      · rw [splice_length _ _ _ hsp]; simp; omega
      · rw [splice_length _ _ _ hsp] at hj
        rw [splice_getD _ _ _ _ hsp]
        have hget : ((c.toList.take (off + len * i.size) ++ news.toList ++ c.toList.drop (off + len * i.size + news.toList.length)).toArray).getD j undef = if off + len * i.size ≤ j ∧ j < off + len * i.size + (ys.flatMap AV.cells).length then news.getD (j - (off + len * i.size)) undef else c.getD j undef := by
         simp only [Array.getD_eq_getD_getElem?, List.getElem?_toArray, Array.length_toList]
         by_cases hc1 : j < off + len * i.size
         · rw [if_neg (by omega), List.append_assoc, List.getElem?_append_left (by simp; omega), List.getElem?_take_of_lt hc1]; simp
         · by_cases hc2 : j < off + len * i.size + (ys.flatMap AV.cells).length
           · rw [if_pos ⟨by omega, hc2⟩, List.getElem?_append_left (by simp; omega), List.getElem?_append_right (by simp; omega)]
             simp [Nat.min_eq_left (show off + len * i.size ≤ c.size by omega)]
           · rw [if_neg (by omega), List.getElem?_append_right (by simp; omega), List.getElem?_drop]
             rw [show off + len * i.size + news.size + (j - (List.take (off + len * i.size) c.toList ++ news.toList).length) = j by simp; omega]
             simp
        rw [hget]
        by_cases hc : off + len * i.size ≤ j ∧ j < off + len * i.size + (ys.flatMap AV.cells).length
        · rw [if_pos hc, if_pos hc]
          exact ⟨(hnews.row.2 _ (by omega)).2, (hnews.row.2 _ (by omega)).1.ext xt⟩
        · rw [if_neg hc, if_neg hc]
          exact ⟨(g5 j hj).1, (g5 j hj).2.ext xt⟩)
     exact ⟨_, _, G, _, _, hrun, key.1, key.2, .ms o off _ _ hu2, hin hroom⟩
   · rw [if_neg hroom] at hrun
     have hgc := grownCap_ge w (len + ys.length) cap e
     obtain ⟨G', r, H1, x1, x2, x3, x4⟩ := newObj_sound (e := e) hW ((holdRow.append hnews.row).append (zeros_row G w hzz _)) (len + ys.length) (grownCap w (len + ys.length) cap e) (K := K) (fun o2 ho => hout hroom o2 _ _ ho hgc (by rw [List.length_map, Array.length_toList, size_zeroCells', hzs]))
     exact ⟨_, _, G', r, H1, hrun, x1, x2, x3, x4⟩

theorem app_all {ts : Array TypeId} {t u ty e : TypeId} {d : TypeDesc} {x y : Value} {ax ay : AV} {K : AV → Heap → Prop} (hW : WRel Γ G H w) (h0 : ts[0]? = some t) (h1 : ts[1]? = some u)
 (ht : P.underlying t = some (.slice e)) (hu : P.underlying u = some d) (hd : ∀ k, d ≠ .int k) (hok : appOk P e = true)
 (hx : Rep G w x ax) (hy : Rep G w y ay) (h : appK (P.cellsOf e) ax ay H K) :
 ∃ v w' G' r H1, (Builtin.append_ ts ty #[x, y]).run P w = .ok v w' ∧ Ext G w G' w' ∧ WRel Γ G' H1 w' ∧ Rep G' w' v r ∧ K r H1 :=
 h.elim (app_sound hW h0 h1 ht hu hd hok hx hy) (appM_sound hW h0 h1 ht hu hd hok hx hy)

end Go.Av
