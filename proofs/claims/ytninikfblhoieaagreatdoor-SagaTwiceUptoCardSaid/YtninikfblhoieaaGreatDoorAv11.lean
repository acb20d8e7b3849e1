/- append, new variables, stores: the operations that turn the abstract heap. -/
import Derived.Test.YtninikfblhoieaaGreatDoorAv10
set_option linter.all false

namespace Go.Av
open Go Go.RowKit

variable {E : Env} {Γ : Nat → Option AV} {G : Ghost} {H H' : Heap} {w : World} {a : Act} {T : Tm} {P : Program}

structure News (P : Program) (G : Ghost) (w : World) (s : Nat) (y : Value) (ys : List AV) (news : Array Value) : Prop where
 len : ∀ w', (Builtin.lenOf y).run P w' = .ok ys.length w'
 cells : ∀ w', (∀ b off v, w.cell? ⟨b, off, none⟩ = some v → w'.cell? ⟨b, off, none⟩ = some v) → (Builtin.firstCells s ys.length y).run P w' = .ok news w'
 row : Row G w news (ys.flatMap AV.cells)
 size : ∀ e, e ∈ ys → e.cells.length = s

theorem run_firstCells_row {b off n s cap : Nat} {vs : Nat → Value} (h : ∀ k, k < n * s → w.cell? ⟨b, off + k, none⟩ = some (vs k)) :
 (Builtin.firstCells s n (.slice (some ⟨b, off, none⟩) n cap)).run P w = .ok ((List.range (n * s)).map vs).toArray w := by
 have := run_loadCells (P := P) w ⟨b, off, none⟩ (n * s) vs (fun j hj => by rw [addr_add]; exact h j hj)
 simpa [Builtin.firstCells] using this

theorem lst_row {n s : Nat} {es : List AV} {vs : Nat → Value} (hn : n = es.length) (hs : ∀ e, e ∈ es → e.cells.length = s)
 (h3 : ∀ k, k < es.length * s → ((es.flatMap AV.cells).getD k .dead).single = true) (h5 : ∀ k, k < es.length * s → Rep G w (vs k) ((es.flatMap AV.cells).getD k .dead)) :
 Row G w ((List.range (n * s)).map vs).toArray (es.flatMap AV.cells) := by
 subst hn
 have hl := flatMap_length es s hs
 refine ⟨by simp [hl], fun i hi => ?_⟩
 rw [hl] at hi
 have e : (((List.range (es.length * s)).map vs).toArray).getD i undef = vs i := by
  simp [Array.getD_eq_getD_getElem?, hi]
 rw [e]; exact ⟨h5 i hi, h3 i hi⟩

theorem byteAV_flat (bs : List UInt8) : (bs.map byteAV).flatMap AV.cells = bs.map byteAV := by
 induction bs with
 | nil => rfl
 | cons b bs ih => rw [List.map_cons, List.flatMap_cons, ih]; rfl

theorem news_sound {s : Nat} {y : Value} {ay : AV} {ys : List AV} (hs : 0 < s) (hy : Rep G w y ay) (h : appended s ay = some ys) : ∃ news, News P G w s y ys news := by
 unfold appended at h
 split at h
 · rename_i s' es p
   split at h <;> try (cases h; done)
   rename_i hc
   injection h with h; subst h
   rcases hy.inv_lst with ⟨rfl, rfl⟩ | ⟨b, off, cap, vs, rfl, h1, h2, h3, h4, h5, h6, _⟩
   · exact ⟨#[], fun w' => rfl, fun w' _ => rfl, ⟨rfl, by intro i hi; simp at hi⟩, by intro e he; cases he⟩
   · by_cases hne : es = []
     · subst hne
       exact ⟨#[], fun w' => rfl, fun w' _ => by simpa using run_firstCells_row (P := P) (w := w') (b := b) (off := off) (n := 0) (s := s) (cap := cap) (vs := vs) (fun k hk => by simp at hk), ⟨rfl, by intro i hi; simp at hi⟩, by intro e he; cases he⟩
     · have hs' := hc.resolve_right hne
       subst hs'
       exact ⟨_, fun w' => rfl, fun w' hw => run_firstCells_row fun k hk => hw _ _ _ (h4 k hk), lst_row rfl h2 h3 h5, h2⟩
 · rename_i b
   split at h <;> try (cases h; done)
   rename_i hs1
   subst hs1
   injection h with h; subst h
   obtain ⟨rfl, _⟩ := hy.inv_sc
   have hsz : (b.data.toList.map byteAV).length = b.size := by rw [List.length_map]; rfl
   refine ⟨b.data.map fun x => .int .u8 x.toNat, fun w' => by rw [hsz]; rfl, fun w' _ => ?_, ⟨by rw [byteAV_flat]; simp, fun i hi => ?_⟩, fun e he => ?_⟩
   · rw [hsz]
     have : b.extract 0 b.size = b := ByteArray.extract_zero_size
     simp only [Builtin.firstCells, this]; rfl
   · rw [byteAV_flat] at hi ⊢
     simp only [List.length_map, Array.length_toList] at hi
     have e1 : (b.data.map fun x => Value.int .u8 x.toNat).getD i undef = .int .u8 (b.data[i]).toNat := by
      rw [Array.getD_eq_getD_getElem?, Array.getElem?_map, Array.getElem?_eq_getElem hi]; rfl
     have e2 : (b.data.toList.map byteAV).getD i .dead = byteAV b.data[i] := by
      rw [List.getD_eq_getElem?_getD, List.getElem?_map, List.getElem?_eq_getElem (by simpa using hi)]; simp
     rw [e1, e2]; exact ⟨rep_int _ _, rfl⟩
   · obtain ⟨x, _, rfl⟩ := List.mem_map.1 he; rfl
 · cases h

theorem run_append_gen {ts : Array TypeId} {t u ty e : TypeId} {i : TypeInfo} {z : Value} {d : TypeDesc} (h0 : ts[0]? = some t) (h1 : ts[1]? = some u) (ht : P.underlying t = some (.slice e)) (hu : P.underlying u = some d) (hd : ∀ k, d ≠ .int k) (hi : P.info? e = some i) (hz : i.zero = some z)
 {base : Option Addr} {sLen sCap n : Nat} {y : Value} {olds news : Array Value} (hl : ∀ w', (Builtin.lenOf y).run P w' = .ok n w')
 (ho : (Builtin.firstCells i.size sLen (.slice base sLen sCap)).run P w.drew = .ok olds w.drew) (hn : (Builtin.firstCells i.size n y).run P w.drew = .ok news w.drew) (hn0 : (Builtin.firstCells i.size n y).run P w = .ok news w)
 (hfit : sCap < sLen + n → Builtin.nextslicecap (sLen + n) sCap * i.bytes ≤ 281474976710656) (hb0 : i.bytes ≠ 0) :
 (Builtin.append_ ts ty #[.slice base sLen sCap, y]).run P w =
   if sLen + n ≤ sCap then
    (match base with | some a => (storeCells (a.add (sLen * i.size)) news.toList).run P w | none => .ok () w).andThen fun _ w' => .ok (.slice base (sLen + n) sCap) w'
   else .ok (.slice (some ⟨w.heap.size, 0, none⟩) (sLen + n) (grownCap w (sLen + n) sCap e)) (w.drew.alloc (.cells (olds ++ news ++ Builtin.zeroCells z.cells (grownCap w (sLen + n) sCap e - (sLen + n))) e)) := by
 have hm : (match d with | .int _ => true | _ => false) = false := by cases d <;> first | rfl | exact absurd rfl (hd _)
 by_cases hroom : sLen + n ≤ sCap
 · rw [if_pos hroom]
   cases base with
   | none => simp [Builtin.append_, h0, h1, run_underlying ht, run_underlying hu, sizeOf, typeInfo, hi, hl, hroom, hn0, hm]
   | some ad => simp [Builtin.append_, h0, h1, run_underlying ht, run_underlying hu, sizeOf, typeInfo, hi, hl, hroom, hn0, hm]
 · rw [if_neg hroom]
   have h48 : ¬ (281474976710656 < Builtin.nextslicecap (sLen + n) sCap * i.bytes) := by have := hfit (by omega); omega
   have hforced : (Question.appendCap (sLen + n) sCap e).forced = false := rfl
   simp [Builtin.append_, h0, h1, run_underlying ht, run_underlying hu, sizeOf, typeInfo, hi, hl, hroom, hm, hb0, h48, hforced, zeroValue, hz, ho, hn, grownCap, newRow]


theorem oneCells {vs : Array Value} {cs : List AV} (h : Row G w vs cs) : ∀ v, v ∈ vs.toList → v.oneCell' = true := by
 intro v hv
 obtain ⟨i, hi, rfl⟩ := List.getElem_of_mem hv
 have hi' : i < cs.length := by rw [← h.1]; simpa using hi
 have := (h.2 i hi').1.oneCell (h.2 i hi').2
 have e : vs.getD i undef = vs.toList[i] := by
  have : i < vs.size := by simpa using hi
  simp [Array.getD_eq_getD_getElem?, this]
 rwa [e] at this

theorem setRow_setBlock {b : Nat} {c c' : Array Value} {e : TypeId} (h : w.heap[b]? = some (.cells c e)) : w.setRow b c' = setBlock w b (.cells c' e) := by
 unfold World.setRow setBlock
 congr 1
 apply Array.ext_getElem?
 intro i
 by_cases hi : i = b
 · subst hi
   have hlt : i < w.heap.size := (Array.getElem?_eq_some_iff.1 h).1
   rw [Array.getElem?_modify, if_pos rfl, h, Array.getElem?_setIfInBounds_self_of_lt hlt]; rfl
 · rw [Array.getElem?_modify, if_neg (fun e => hi e.symm), Array.getElem?_setIfInBounds_ne (fun e => hi e.symm)]

theorem Row.ext {G' : Ghost} {w' : World} {vs : Array Value} {cs : List AV} (h : Row G w vs cs) (x : Ext G w G' w') : Row G' w' vs cs := ⟨h.1, fun i hi => ⟨(h.2 i hi).1.ext x, (h.2 i hi).2⟩⟩

theorem flatMap_append' (a b : List AV) : (a ++ b).flatMap AV.cells = a.flatMap AV.cells ++ b.flatMap AV.cells := by simp

theorem Row.getD_lt {vs us : Array Value} {i : Nat} (hi : i < vs.size) : (vs ++ us).getD i undef = vs.getD i undef := by
 simp only [Array.getD_eq_getD_getElem?]; rw [Array.getElem?_append_left hi]

theorem appOk_spec {e : TypeId} (h : appOk P e = true) : ∃ i z, P.info? e = some i ∧ i.zero = some z ∧ P.cellsOf e = i.size ∧ z.cells.size = i.size ∧ 0 < i.size ∧ i.bytes ≤ 1024 ∧ P.bytesOf e ≠ 0 ∧ (∀ v, v ∈ z.cells.toList → (ofConst v).single = true) := by
 unfold appOk at h
 simp only [Bool.and_eq_true, decide_eq_true_eq] at h
 obtain ⟨⟨⟨h1, h2⟩, h3⟩, h4⟩ := h
 unfold hasT at h1
 obtain ⟨i, hi⟩ := Option.isSome_iff_exists.1 h1
 have hc : P.cellsOf e = i.size := by simp [Program.cellsOf, hi]
 have hb : P.bytesOf e = i.bytes := by simp [Program.bytesOf, hi]
 unfold zeroCells at h4
 simp only [hi, Option.bind_some] at h4
 cases hz : i.zero with
 | none => simp [hz] at h4
 | some z =>
   simp only [hz, List.length_map, Array.length_toList, Bool.and_eq_true, beq_iff_eq, List.all_map, List.all_eq_true, Function.comp_apply] at h4
   exact ⟨i, z, hi, hz, hc, by omega, by omega, by omega, by omega, h4.2⟩

theorem size_zeroCells' (z : Array Value) (n : Nat) : (Builtin.zeroCells z n).size = n * z.size := by simp [Builtin.zeroCells]

theorem single_cells {x : AV} (h : x.single = true) : x.cells = [x] := by
 cases x <;> first | rfl | cases h
theorem news_ms {y : Value} {o off len cap : Nat} {cs : List AV} (hW : WRel Γ G H w) (hy : Rep G w y (.ms o off len cap)) (hcs : H o = some (.cells cs)) (hl : off + len ≤ cs.length) : ∃ news, News P G w 1 y ((cs.drop off).take len) news := by
 obtain ⟨rfl, _⟩ := hy.inv_ms
 obtain ⟨_, _, c, el, g3, g4, g5⟩ := (hW.obj o _ hcs).2
 have hlen : ((cs.drop off).take len).length = len := by simp; omega
 have hget : ∀ k, k < len → ((cs.drop off).take len).getD k .dead = cs.getD (off + k) .dead := fun k hk => by
  simp only [List.getD_eq_getElem?_getD, List.getElem?_take_of_lt hk, List.getElem?_drop]
 have hsin : ∀ e, e ∈ (cs.drop off).take len → e.cells = [e] := fun e he => by
  obtain ⟨k, hk, rfl⟩ := List.getElem_of_mem he
  have h1 := (g5 (off + k) (by omega)).1
  have h2 := hget k (by omega)
  rw [List.getD_eq_getElem?_getD, List.getElem?_eq_getElem hk, Option.getD_some] at h2
  rw [← h2] at h1
  exact single_cells h1
 have hflat : ((cs.drop off).take len).flatMap AV.cells = (cs.drop off).take len := by
  generalize (cs.drop off).take len = l at hsin
  induction l with
  | nil => rfl
  | cons x l ih => rw [List.flatMap_cons, hsin x (by simp), ih (fun e he => hsin e (by simp [he]))]; rfl
 have hcell : ∀ k, k < len → w.cell? ⟨G.loc o, off + k, none⟩ = some (c.getD (off + k) undef) := fun k hk => by
  simp only [World.cell?, g3, Option.isSome_none, Bool.false_eq_true, if_false]
  rw [Array.getElem?_eq_getElem (by omega)]
  simp [Array.getD_eq_getD_getElem?, show off + k < c.size by omega]
 refine ⟨((List.range (len * 1)).map fun k => c.getD (off + k) undef).toArray, fun w' => by rw [hlen]; rfl, fun w' hw => ?_, ?_, fun e he => by rw [hsin e he]; rfl⟩
 · rw [hlen]
   exact run_firstCells_row (P := P) (w := w') (cap := cap) (fun k hk => hw _ _ _ (hcell k (by omega)))
 · rw [hflat, Nat.mul_one]
   refine ⟨by simp; omega, fun k hk => ?_⟩
   have hk' : k < len := by omega
   rw [hget k hk']
   have e1 : (((List.range len).map fun k => c.getD (off + k) undef).toArray).getD k undef = c.getD (off + k) undef := by simp [Array.getD_eq_getD_getElem?, hk']
   rw [e1]
   exact ⟨(g5 _ (by omega)).2, (g5 _ (by omega)).1⟩

def appP (s s1 : Nat) (es ys : List AV) (p : Perm) (H : Heap) (K : AV → Heap → Prop) : Prop :=
 match p with
 | .no => False
 | .exact => K (.lst s (es ++ ys) .no) H ∨ (∀ t, H t = none → K (.lst s (es ++ ys) (.tok t)) (H.upd t (.tok (es.length + ys.length)))) ∨ (ys = [] ∧ K (.lst s es .exact) H) ∨
    (∃ t l, H t = some (.tok l) ∧ l < es.length + ys.length ∧ ys ≠ [] ∧ K (.lst s (es ++ ys) (.tok t)) (H.upd t (.tok (es.length + ys.length))))
 | .tok t => s1 = s ∧ H t = some (.tok es.length) ∧ K (.lst s (es ++ ys) (.tok t)) (H.upd t (.tok (es.length + ys.length)))
theorem app_core {ts : Array TypeId} {t u ty e : TypeId} {d : TypeDesc} {x y : Value} {s1 : Nat} {es ys : List AV} {p : Perm} {news : Array Value} {K : AV → Heap → Prop} (hW : WRel Γ G H w) (h0 : ts[0]? = some t) (h1 : ts[1]? = some u)
 (ht : P.underlying t = some (.slice e)) (hu : P.underlying u = some d) (hd : ∀ k, d ≠ .int k) (hok : appOk P e = true)
 (hx : Rep G w x (.lst s1 es p)) (hnews : News P G w (P.cellsOf e) y ys news) (hs1 : s1 = P.cellsOf e ∨ es = []) (hmax : es.length + ys.length ≤ maxApp)
 (hp : appP (P.cellsOf e) s1 es ys p H K) :
 ∃ v w' G' r H1, (Builtin.append_ ts ty #[x, y]).run P w = .ok v w' ∧ Ext G w G' w' ∧ WRel Γ G' H1 w' ∧ Rep G' w' v r ∧ K r H1 := by
 obtain ⟨i, z, hi, hz, hsz, hzs, hpos, hby, hb0, _⟩ := appOk_spec hok
 have hbytes : P.bytesOf e = i.bytes := by simp [Program.bytesOf, hi]
 rw [hsz] at hs1 hnews hp
 unfold appP at hp
 have hnl := flatMap_length ys i.size hnews.size
 have hmax' : es.length + ys.length ≤ 1073741824 := hmax
 -- the shape of x
 have hperm : ∀ b off cap, x = .slice (some ⟨b, off, none⟩) es.length cap → PermOk G p b off es.length cap s1 := by
  intro b off cap e
  rcases hx.inv_lst with ⟨rfl, rfl⟩ | ⟨b', off', cap', vs, hv, _, _, _, _, _, _, g7⟩
  · cases e
  · rw [hv] at e; injection e with e1 _ e3; injection e1 with e1; injection e1 with e1 e2; subst e1 e2 e3; exact g7
 obtain ⟨base, cap, olds, rfl, hcap, hold, holdRow, hes, hbase⟩ : ∃ (base : Option Addr) (cap : Nat) (olds : Array Value), x = .slice base es.length cap ∧ es.length ≤ cap ∧
  (Builtin.firstCells i.size es.length (.slice base es.length cap)).run P w.drew = .ok olds w.drew ∧ Row G w olds (es.flatMap AV.cells) ∧ (∀ e', e' ∈ es → e'.cells.length = i.size) ∧ ((base = none ∧ cap = 0) ∨ ∃ b off, base = some ⟨b, off, none⟩) := by
  rcases hx.inv_lst with ⟨rfl, rfl⟩ | ⟨b, off, cap, vs, rfl, g1, g2, g3, g4, g5, g6, g7⟩
  · exact ⟨none, 0, #[], rfl, Nat.le_refl _, rfl, ⟨rfl, by intro i hi; simp at hi⟩, (by intro e' he; cases he), .inl ⟨rfl, rfl⟩⟩
  · by_cases hne : es = []
    · subst hne
      refine ⟨_, cap, #[], rfl, g1, ?_, ⟨rfl, by intro i hi; simp at hi⟩, (by intro e' he; cases he), .inr ⟨_, _, rfl⟩⟩
      simpa using run_firstCells_row (P := P) (w := w.drew) (b := b) (off := off) (n := 0) (s := i.size) (cap := cap) (vs := vs) (fun k hk => by simp at hk)
    · have := hs1.resolve_right hne
      subst this
      exact ⟨_, cap, _, rfl, g1, run_firstCells_row (P := P) (w := w.drew) (fun k hk => g4 k hk), lst_row rfl g2 g3 g5, g2, .inr ⟨_, _, rfl⟩⟩
 have hol := flatMap_length es i.size hes
 have hfit : cap < es.length + ys.length → Builtin.nextslicecap (es.length + ys.length) cap * i.bytes ≤ 281474976710656 := fun hlt => by
  have h2 := nextslicecap_le (need := es.length + ys.length) (old := cap) hlt
  have : Builtin.nextslicecap (es.length + ys.length) cap * i.bytes ≤ (2 * 1073741824) * 1024 := Nat.mul_le_mul (by omega) hby
  omega
 have hrun := run_append_gen (P := P) (w := w) (ty := ty) h0 h1 ht hu hd hi hz (base := base) hnews.len hold (hnews.cells w.drew (fun b off v hc => hc)) (hnews.cells w (fun b off v hc => hc)) hfit (by omega)
 have hall : ∀ e', e' ∈ es ++ ys → e'.cells.length = i.size := fun e' he => by
  rcases List.mem_append.1 he with he | he
  · exact hes e' he
  · exact hnews.size e' he
 have hrow : Row G w (olds ++ news) ((es ++ ys).flatMap AV.cells) := by rw [flatMap_append']; exact holdRow.append hnews.row
 have hlen : (es ++ ys).length = es.length + ys.length := by simp
 have hgc := grownCap_ge w (es.length + ys.length) cap e
 -- a new row's cells
 have hnewsz : (olds ++ news ++ Builtin.zeroCells z.cells (grownCap w (es.length + ys.length) cap e - (es.length + ys.length))).size = grownCap w (es.length + ys.length) cap e * i.size := by
  rw [Array.size_append, hrow.1, flatMap_length _ _ hall, hlen, size_zeroCells', hzs, ← Nat.add_mul]
  congr 1; omega
 have hnewat : ∀ k, k < (es ++ ys).length * i.size → Rep G w ((olds ++ news ++ Builtin.zeroCells z.cells (grownCap w (es.length + ys.length) cap e - (es.length + ys.length))).getD k undef) (((es ++ ys).flatMap AV.cells).getD k .dead) ∧ (((es ++ ys).flatMap AV.cells).getD k .dead).single = true := fun k hk => by
  have hk' : k < ((es ++ ys).flatMap AV.cells).length := by rw [flatMap_length _ _ hall]; exact hk
  rw [Row.getD_lt (by rw [hrow.1]; exact hk')]
  exact hrow.2 k hk'
 -- the ways
 have grow_no : ¬ es.length + ys.length ≤ cap → ∃ v w' G', (Builtin.append_ ts ty #[.slice base es.length cap, y]).run P w = .ok v w' ∧ Ext G w G' w' ∧ WRel Γ G' H w' ∧ Rep G' w' v (.lst i.size (es ++ ys) .no) := by
  intro hroom
  rw [if_neg hroom] at hrun
  have hWd := hW.drew
  obtain ⟨x1, x2, x3⟩ := newRow_imm (w := w.drew) hWd (e := e) (vs := olds ++ news ++ Builtin.zeroCells z.cells (grownCap w (es.length + ys.length) cap e - (es.length + ys.length))) (es := es ++ ys) (s := i.size) (cap := grownCap w (es.length + ys.length) cap e)
   (fun k hk => ⟨(hnewat k hk).1.ext (Ext.drew G w), (hnewat k hk).2⟩) hall (by rw [hnewsz]; exact Nat.mul_le_mul_right _ (by omega)) (by omega) .no (.inl rfl)
  rw [hlen] at x3
  exact ⟨_, _, _, hrun, (Ext.drew G w).trans x1, x2, x3⟩
 have grow_tok : ∀ (tk : Nat), (G.used tk = false ∧ H tk = none) ∨ (∃ l, H tk = some (.tok l) ∧ l < es.length + ys.length) → ¬ es.length + ys.length ≤ cap →
  ∃ v w' G', (Builtin.append_ ts ty #[.slice base es.length cap, y]).run P w = .ok v w' ∧ Ext G w G' w' ∧ WRel Γ G' (H.upd tk (.tok (es.length + ys.length))) w' ∧ Rep G' w' v (.lst i.size (es ++ ys) (.tok tk)) := by
  intro tk htk hroom
  rw [if_neg hroom] at hrun
  obtain ⟨x1, x2⟩ := tok_new hW (n := (es.length + ys.length) * i.size) (L := es.length + ys.length) (c := olds ++ news ++ Builtin.zeroCells z.cells (grownCap w (es.length + ys.length) cap e - (es.length + ys.length))) (e := e) htk
  refine ⟨_, _, _, hrun, x1, x2, ?_⟩
  have fix : ∀ (G' : Ghost) (w' : World) (b c : Nat), Rep G' w' (.slice (some ⟨b, 0, none⟩) (es ++ ys).length c) (.lst i.size (es ++ ys) (.tok tk)) → Rep G' w' (.slice (some ⟨b, 0, none⟩) (es.length + ys.length) c) (.lst i.size (es ++ ys) (.tok tk)) := fun G' w' b c h => by rwa [hlen] at h
  refine fix _ _ _ _ ?_
  refine .lst _ 0 _ _ _ _ (fun k => (olds ++ news ++ Builtin.zeroCells z.cells (grownCap w (es.length + ys.length) cap e - (es.length + ys.length))).getD k undef) (by omega) hall (fun k hk => (hnewat k hk).2) (fun k hk => ?_) (fun k hk => (hnewat k hk).1.ext x1) (.inr ?_) ?_
  · have hk2 : k < (olds ++ news ++ Builtin.zeroCells z.cells (grownCap w (es.length + ys.length) cap e - (es.length + ys.length))).size := by
     rw [hnewsz]; exact Nat.lt_of_lt_of_le hk (Nat.mul_le_mul_right _ (by omega))
    have := World.cell?_alloc_new w.drew (olds ++ news ++ Builtin.zeroCells z.cells (grownCap w (es.length + ys.length) cap e - (es.length + ys.length))) e k
    simp only [World.size_drew] at this
    rw [Nat.zero_add, this]
    simp only [Array.getD_eq_getD_getElem?, Array.getElem?_eq_getElem hk2, Option.getD_some]
  · simp [Ghost.reads, Ghost.setTok, hlen]
  · refine ⟨by simp [Ghost.setTok], by simp [Ghost.setTok, hlen], fun _ => .inr ⟨by simp [Ghost.setTok, hlen], ?_⟩⟩
    simp only [Ghost.setTok, if_true, hnewsz, Nat.zero_add, hlen]
    exact Nat.le_refl _
 -- nothing is appended
 have same : ys = [] → (Builtin.append_ ts ty #[.slice base es.length cap, y]).run P w = .ok (.slice base es.length cap) w := by
  intro h0
  subst h0
  rw [if_pos (by simpa using hcap)] at hrun
  have hn0 : news = #[] := by
   have := hnews.row.1
   simp at this; exact this
  subst hn0
  rw [hrun]
  cases base <;> simp [storeCells]
 have weak : ∀ p', (∀ b off, base = some ⟨b, off, none⟩ → PermOk G p' b off es.length cap i.size) → (∀ t', p' = .tok t' → G.used t' = true) → Rep G w (.slice base es.length cap) (.lst i.size es p') := by
  intro p' hp' hu'
  rcases hx.inv_lst with ⟨hv, rfl⟩ | ⟨b, off, cap', vs, hv, g1, g2, g3, g4, g5, g6, g7⟩
  · injection hv with h1 _ h3; subst h1 h3; exact .nil _ _ hu'
  · injection hv with h1 _ h3; subst h1 h3
    by_cases hne : es = []
    · subst hne
      exact .lst b off cap i.size [] p' vs g1 (by intro e he; cases he) (by intro k hk; simp at hk) (by intro k hk; simp at hk) (by intro k hk; simp at hk) (.inl (by simp)) (hp' b off rfl)
    · have := hs1.resolve_right hne
      subst this
      exact .lst b off cap i.size es p' vs g1 g2 g3 g4 g5 g6 (hp' b off rfl)
 cases p with
 | no => exact hp.elim
 | exact =>
   have hce : cap = es.length := by
    rcases hbase with ⟨rfl, rfl⟩ | ⟨b, off, rfl⟩
    · omega
    · exact hperm b off cap rfl
   have hroom : ys = [] ∨ ¬ es.length + ys.length ≤ cap := by
    by_cases h0 : ys = []
    · exact .inl h0
    · right; have := List.length_pos_iff.2 h0; omega
   rcases hp with hk | hk | ⟨h00, hk⟩ | ⟨tk, l, hHt, hlt, hne, hk⟩
   rotate_right
   · rcases hroom with h0 | hroom
     · exact absurd h0 hne
     · obtain ⟨v, w', G', h1, h2, h3, h4⟩ := grow_tok tk (.inr ⟨l, hHt, hlt⟩) hroom
       exact ⟨v, w', G', _, _, h1, h2, h3, h4, hk⟩
   rotate_right
   · exact ⟨_, _, G, _, H, same h00, Ext.refl _ _, hW, weak .exact (fun _ _ _ => hce) (by intro t h; cases h), hk⟩
   · rcases hroom with h0 | hroom
     · refine ⟨_, _, G, _, H, same h0, Ext.refl _ _, hW, ?_, hk⟩
       subst h0; rw [List.append_nil]
       exact weak .no (fun _ _ _ => trivial) (by intro t h; cases h)
     · obtain ⟨v, w', G', h1, h2, h3, h4⟩ := grow_no hroom
       exact ⟨v, w', G', _, H, h1, h2, h3, h4, hk⟩
   · obtain ⟨tk, htk, hHk⟩ := hW.fresh
     rcases hroom with h0 | hroom
     · have hW2 := hW.addTok (n := es.length + ys.length) htk
       refine ⟨_, _, _, _, _, same h0, Ext.addTok G w htk, hW2, ?_, hk tk hHk⟩
       subst h0
       rw [List.append_nil]
       have := weak .no (fun _ _ _ => trivial) (by intro t h; cases h)
       have := this.ext (Ext.addTok G w (n := es.length + ([] : List AV).length) htk)
       rcases this.inv_lst with ⟨hv, rfl⟩ | ⟨b, off, cap', vs, hv, g1, g2, g3, g4, g5, g6, g7⟩
       · rw [hv]; exact .nil _ _ (fun t' e => by injection e with e; subst e; simp [Ghost.addTok])
       · rw [hv]
         have hcc : cap' = es.length := by injection hv with _ _ h3; omega
         exact .lst b off cap' i.size es _ vs g1 g2 g3 g4 g5 g6 ⟨by simp [Ghost.addTok], by simp [Ghost.addTok], fun _ => .inl hcc⟩
     · obtain ⟨v, w', G', h1, h2, h3, h4⟩ := grow_tok tk (.inl ⟨htk, hHk⟩) hroom
       exact ⟨v, w', G', _, _, h1, h2, h3, h4, hk tk hHk⟩
 | tok tk =>
   obtain ⟨rfl, hHt, hk⟩ := hp
   have hutk := hW.obj tk _ hHt
   have htl : G.tl tk = es.length := hutk.2
   by_cases h0 : ys = []
   · refine ⟨_, _, G, _, _, same h0, Ext.refl _ _, ?_, ?_, hk⟩
     · subst h0
       rw [Heap.upd_self (by simpa using hHt)]; exact hW
     · subst h0; rw [List.append_nil]
       exact weak (.tok tk) (fun b off e => hperm b off cap (by rw [e])) (fun t' e => by injection e with e; subst e; exact hutk.1)
   · have hpos' := List.length_pos_iff.2 h0
     by_cases hroom : es.length + ys.length ≤ cap
     · rcases hbase with ⟨_, rfl⟩ | ⟨b, off, rfl⟩
       · omega
       · obtain ⟨_, _, g⟩ := hperm b off cap rfl
         rcases g htl.symm with g | ⟨gr, gs⟩
         · omega
         obtain ⟨gb, gu, c, el, hc, hcs⟩ := hW.tokB b tk _ gr
         rw [if_pos hroom] at hrun
         have hnsz : news.size = ys.length * i.size := by rw [hnews.row.1, hnl]
         have hfitc : off + es.length * i.size + news.size ≤ c.size := by
          rw [hnsz, hcs, Nat.add_assoc, ← Nat.add_mul]
          exact Nat.le_trans (Nat.add_le_add_left (Nat.mul_le_mul_right _ hroom) _) gs
         have hst := run_storeCells_at P b (off + es.length * i.size) el news.toList 0 c w hc (by simpa using hfitc) (oneCells hnews.row)
         simp only [Nat.add_zero, Array.length_toList] at hst
         have hadd : (⟨b, off, none⟩ : Addr).add (es.length * i.size) = ⟨b, off + es.length * i.size, none⟩ := addr_add _ _ _
         simp only [hadd, hst, Result.andThen_ok] at hrun
         rw [setRow_setBlock hc] at hrun
         have hcsz : (c.toList.take (off + es.length * i.size) ++ news.toList ++ c.toList.drop (off + es.length * i.size + news.size)).toArray.size = c.size := by
          simp; omega
         obtain ⟨x1, x2⟩ := tok_write hW (n' := off + (es.length + ys.length) * i.size) (L := es.length + ys.length) (c' := (c.toList.take (off + es.length * i.size) ++ news.toList ++ c.toList.drop (off + es.length * i.size + news.size)).toArray) (e := el) gr hHt (by omega)
          (by rw [Nat.add_mul]; omega) hc hcsz (fun k hk => by
            simp only [List.getElem?_toArray]
            rw [List.append_assoc, List.getElem?_append_left (by simp; omega), List.getElem?_take_of_lt hk]
            simp)
         refine ⟨_, _, _, _, _, hrun, x1, x2, ?_, hk⟩
         -- the slice that is told
         have hx' := hx.ext x1
         rcases hx.inv_lst with ⟨hv, _⟩ | ⟨b', off', cap', vs, hv, g1, g2, g3, g4, g5, g6, g7⟩
         · cases hv
         injection hv with e1 _ e3
         injection e1 with e1
         injection e1 with e1 e2
         subst e1 e2 e3
         have hbl : b < w.heap.size := hW.tok_lt gr
         have hcell : ∀ k, k < (es ++ ys).length * i.size → (setBlock w b (.cells (c.toList.take (off + es.length * i.size) ++ news.toList ++ c.toList.drop (off + es.length * i.size + news.size)).toArray el)).cell? ⟨b, off + k, none⟩ =
          some (if k < es.length * i.size then vs k else news.getD (k - es.length * i.size) undef) := fun k hk' => by
          rw [hlen, Nat.add_mul] at hk'
          simp only [World.cell?, setBlock_heap_same w b _ hbl, Option.isSome_none, Bool.false_eq_true, if_false, List.getElem?_toArray]
          by_cases hk2 : k < es.length * i.size
          · rw [if_pos hk2, List.append_assoc, List.getElem?_append_left (by simp; omega), List.getElem?_take_of_lt (by omega)]
            have := g4 k hk2
            simp only [World.cell?, hc, Option.isSome_none, Bool.false_eq_true, if_false] at this
            simpa using this
          · rw [if_neg hk2, List.getElem?_append_left (by simp; omega), List.getElem?_append_right (by simp; omega)]
            have hlt : k - es.length * i.size < news.size := by omega
            have e5 : off + k - (c.toList.take (off + es.length * i.size)).length = k - es.length * i.size := by simp; omega
            rw [e5]
            simp [Array.getD_eq_getD_getElem?, hlt]
         have hrepk : ∀ k, k < (es ++ ys).length * i.size → Rep G w (if k < es.length * i.size then vs k else news.getD (k - es.length * i.size) undef) (((es ++ ys).flatMap AV.cells).getD k .dead) ∧ (((es ++ ys).flatMap AV.cells).getD k .dead).single = true := fun k hk' => by
          rw [hlen, Nat.add_mul] at hk'
          rw [flatMap_append']
          by_cases hk2 : k < es.length * i.size
          · rw [if_pos hk2]
            have e5 : (es.flatMap AV.cells ++ ys.flatMap AV.cells).getD k .dead = (es.flatMap AV.cells).getD k .dead := by
             simp only [List.getD_eq_getElem?_getD]; rw [List.getElem?_append_left (by omega)]
            rw [e5]; exact ⟨g5 k hk2, g3 k hk2⟩
          · rw [if_neg hk2]
            have e5 : (es.flatMap AV.cells ++ ys.flatMap AV.cells).getD k .dead = (ys.flatMap AV.cells).getD (k - es.length * i.size) .dead := by
             simp only [List.getD_eq_getElem?_getD]; rw [List.getElem?_append_right (by omega), hol]
            rw [e5]; exact hnews.row.2 _ (by omega)
         have fix : ∀ (G' : Ghost) (w' : World), Rep G' w' (.slice (some ⟨b, off, none⟩) (es ++ ys).length cap) (.lst i.size (es ++ ys) (.tok tk)) → Rep G' w' (.slice (some ⟨b, off, none⟩) (es.length + ys.length) cap) (.lst i.size (es ++ ys) (.tok tk)) := fun G' w' h => by rwa [hlen] at h
         refine fix _ _ ?_
         exact .lst b off cap i.size (es ++ ys) (.tok tk) _ (by omega) hall (fun k hk' => (hrepk k hk').2) hcell (fun k hk' => (hrepk k hk').1.ext x1)
          (.inr (by simp [Ghost.reads, Ghost.setTok, hlen])) ⟨by simp [Ghost.setTok], by simp [Ghost.setTok, hlen], fun _ => .inr ⟨by simp [Ghost.setTok, hlen], by
            simp only [Ghost.setTok, if_true, hcsz, hcs]; exact gs⟩⟩
     · obtain ⟨v, w', G', h1, h2, h3, h4⟩ := grow_tok tk (.inr ⟨_, hHt, by omega⟩) hroom
       exact ⟨v, w', G', _, _, h1, h2, h3, h4, hk⟩

theorem app_sound {ts : Array TypeId} {t u ty e : TypeId} {d : TypeDesc} {x y : Value} {ax ay : AV} {K : AV → Heap → Prop} (hW : WRel Γ G H w) (h0 : ts[0]? = some t) (h1 : ts[1]? = some u)
 (ht : P.underlying t = some (.slice e)) (hu : P.underlying u = some d) (hd : ∀ k, d ≠ .int k) (hok : appOk P e = true)
 (hx : Rep G w x ax) (hy : Rep G w y ay) (h : appK1 (P.cellsOf e) ax ay H K) :
 ∃ v w' G' r H1, (Builtin.append_ ts ty #[x, y]).run P w = .ok v w' ∧ Ext G w G' w' ∧ WRel Γ G' H1 w' ∧ Rep G' w' v r ∧ K r H1 := by
 obtain ⟨i, z, hi, hz, hsz, hzs, hpos, hby, hb0, _⟩ := appOk_spec hok
 unfold appK1 at h
 split at h <;> try (cases h; done)
 rename_i s1 es p
 split at h
 · rename_i ys hys
   obtain ⟨hs1, hmax, hp⟩ := h
   obtain ⟨news, hnews⟩ := news_sound (P := P) (by rw [hsz]; exact hpos) hy hys
   exact app_core hW h0 h1 ht hu hd hok hx hnews hs1 hmax hp
 · unfold appS at h
   cases p <;> try (exact h.elim)
   cases ay <;> try (exact h.elim)
   rename_i o off len cap _
   simp only at h
   split at h <;> try (exact h.elim)
   rename_i cs hcs
   obtain ⟨rfl, hs, hl, hpos2, hmax, hk⟩ := h
   obtain ⟨news, hnews⟩ := news_ms (P := P) hW hy hcs hl
   rw [← hs] at hnews
   have hlen : ((cs.drop off).take len).length = len := by simp; omega
   exact app_core hW h0 h1 ht hu hd hok hx hnews (.inr rfl) (by rw [hlen]; simpa using hmax) (.inl hk)

end Go.Av
