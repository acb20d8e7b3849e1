/- Literals of slices, addresses, slicing, the rest; all operations that leave the abstract heap alone. -/
import Derived.Test.YtninikfblhoieaaGreatDoorAv6
set_option linter.all false

namespace Go.Av
open Go Go.RowKit

variable {E : Env} {Γ : Nat → Option AV} {G : Ghost} {H H' : Heap} {w : World} {a : Act} {T : Tm} {P : Program}

theorem flatMap_getD (es : List AV) (s : Nat) (hs : ∀ e, e ∈ es → e.cells.length = s) (i j : Nat) (hi : i < es.length) (hj : j < s) :
 (es.flatMap AV.cells).getD (i * s + j) .dead = ((es.getD i .dead).cells).getD j .dead := by
 induction es generalizing i with
 | nil => simp at hi
 | cons e es ih =>
   have he : e.cells.length = s := hs e (by simp)
   cases i with
   | zero =>
     simp only [List.flatMap_cons, Nat.zero_mul, Nat.zero_add, List.getD_cons_zero]
     simp only [List.getD_eq_getElem?_getD]
     rw [List.getElem?_append_left (by omega)]
   | succ i =>
     simp only [List.flatMap_cons, List.getD_cons_succ]
     rw [← ih (fun e h => hs e (by simp [h])) i (by simpa using hi)]
     simp only [List.getD_eq_getElem?_getD]
     rw [List.getElem?_append_right (by rw [he, Nat.succ_mul]; omega)]
     rw [he, Nat.succ_mul]
     congr 2; omega

theorem flatMap_length (es : List AV) (s : Nat) (hs : ∀ e, e ∈ es → e.cells.length = s) : (es.flatMap AV.cells).length = es.length * s := by
 induction es with
 | nil => simp
 | cons e es ih =>
   simp only [List.flatMap_cons, List.length_append, List.length_cons, ih fun e h => hs e (by simp [h]), hs e (by simp)]
   rw [Nat.succ_mul]; omega

theorem newRow_imm (hW : WRel Γ G H w) {e : TypeId} {vs : Array Value} {es : List AV} {s cap : Nat}
 (hr : ∀ i, i < es.length * s → Rep G w (vs.getD i undef) ((es.flatMap AV.cells).getD i .dead) ∧ ((es.flatMap AV.cells).getD i .dead).single = true)
 (hs : ∀ e, e ∈ es → e.cells.length = s) (hsz : es.length * s ≤ vs.size) (hcap : es.length ≤ cap) (p : Perm) (hp : p = .no ∨ (p = .exact ∧ cap = es.length)) :
 Ext G w (G.addImm w.heap.size) (w.alloc (.cells vs e)) ∧ WRel Γ (G.addImm w.heap.size) H (w.alloc (.cells vs e)) ∧
 Rep (G.addImm w.heap.size) (w.alloc (.cells vs e)) (.slice (some ⟨w.heap.size, 0, none⟩) es.length cap) (.lst s es p) := by
 have x := Ext.addImm hW (.cells vs e)
 refine ⟨x, hW.addImm _, ?_⟩
 refine .lst _ 0 cap s es p (fun k => vs.getD k undef) hcap hs (fun k hk => (hr k hk).2) (fun k hk => ?_) (fun k hk => ((hr k hk).1).ext x) (.inr ?_) ?_
 · rw [World.cell?_alloc_new]
   simp [show k < vs.size by omega]
 · simp [Ghost.reads, Ghost.addImm]
 · rcases hp with rfl | ⟨rfl, h⟩
   · trivial
   · exact h

theorem Row.at {vs : Array Value} {cs : List AV} (h : Row G w vs cs) : ∀ i, i < cs.length → Rep G w (vs.getD i undef) (cs.getD i .dead) ∧ (cs.getD i .dead).single = true := h.2

theorem Row.append {vs us : Array Value} {cs ds : List AV} (h : Row G w vs cs) (k : Row G w us ds) : Row G w (vs ++ us) (cs ++ ds) := by
 refine ⟨by simp [h.1, k.1], fun i hi => ?_⟩
 simp only [List.length_append] at hi
 by_cases hc : i < cs.length
 · have e1 : (vs ++ us).getD i undef = vs.getD i undef := by
    simp only [Array.getD_eq_getD_getElem?]; rw [Array.getElem?_append_left (by rw [h.1]; exact hc)]
   have e2 : (cs ++ ds).getD i .dead = cs.getD i .dead := by
    simp only [List.getD_eq_getElem?_getD]; rw [List.getElem?_append_left hc]
   rw [e1, e2]; exact h.2 i hc
 · have e1 : (vs ++ us).getD i undef = us.getD (i - cs.length) undef := by
    simp only [Array.getD_eq_getD_getElem?]; rw [Array.getElem?_append_right (by rw [h.1]; omega), h.1]
   have e2 : (cs ++ ds).getD i .dead = ds.getD (i - cs.length) .dead := by
    simp only [List.getD_eq_getElem?_getD]; rw [List.getElem?_append_right (by omega)]
   rw [e1, e2]; exact k.2 _ (by omega)

theorem setAll_length : ∀ (ps : List (Nat × AV)) (es : List AV), (setAll es ps).length = es.length
 | [], _ => rfl
 | (i, v) :: ps, es => by simp only [setAll]; rw [setAll_length ps]; simp

theorem flatMap_set (es : List AV) (s : Nat) (hs : ∀ e, e ∈ es → e.cells.length = s) (i : Nat) (v : AV) (hi : i < es.length) (hv : v.cells.length = s) :
 (es.set i v).flatMap AV.cells = splice (es.flatMap AV.cells) (i * s) v.cells := by
 induction es generalizing i with
 | nil => simp at hi
 | cons e es ih =>
   have he : e.cells.length = s := hs e (by simp)
   cases i with
   | zero =>
     simp only [List.set_cons_zero, List.flatMap_cons, splice, Nat.zero_mul, List.take_zero, List.nil_append, Nat.zero_add]
     congr 1
     rw [hv, ← he, List.drop_left]
   | succ i =>
     simp only [List.set_cons_succ, List.flatMap_cons]
     rw [ih (fun e h => hs e (by simp [h])) i (by simpa using hi)]
     simp only [splice, Nat.succ_mul]
     rw [List.take_append, List.drop_append]
     have h1 : e.cells.take (i * s + s) = e.cells := List.take_of_length_le (by omega)
     have h2 : e.cells.drop (i * s + s + v.cells.length) = [] := List.drop_eq_nil_of_le (by omega)
     rw [h1, h2, he]
     simp only [List.nil_append, List.append_assoc]
     rw [show i * s + s - s = i * s by omega, show i * s + s + v.cells.length - s = i * s + v.cells.length by omega]

theorem mem_set_cells {es : List AV} {s i : Nat} {v : AV} (hs : ∀ e, e ∈ es → e.cells.length = s) (hv : v.cells.length = s) : ∀ e, e ∈ es.set i v → e.cells.length = s := by
 intro e he
 rcases List.mem_or_eq_of_mem_set he with h | h
 · exact hs e h
 · rw [h]; exact hv

theorem fillRow_sound {s n : Nat} : ∀ (ps : List (Nat × Operand)) (vs : Array Value) (es : List AV) (f : Operand → Value) (g : Operand → AV), (∀ x, Rep G w (f x) (g x)) → es.length = n →
 (∀ e, e ∈ es → e.cells.length = s) → Row G w vs (es.flatMap AV.cells) → (ps.map fun p => (p.1, g p.2)).all (fun p => decide (p.1 < n) && p.2.cells.length == s && p.2.cells.all AV.single) = true →
 ∃ vs', Instr.fill (fun i => some (i * s, s)) vs (ps.map fun p => (p.1, f p.2)) = some vs' ∧ Row G w vs' ((setAll es (ps.map fun p => (p.1, g p.2))).flatMap AV.cells) ∧
   (∀ e, e ∈ setAll es (ps.map fun p => (p.1, g p.2)) → e.cells.length = s) := by
 intro ps
 induction ps with
 | nil => intro vs es f g _ _ hs hr _; exact ⟨vs, rfl, hr, hs⟩
 | cons p ps ih =>
   intro vs es f g hfg hn hs hr h
   simp only [List.map_cons, List.all_cons, Bool.and_eq_true, decide_eq_true_eq, beq_iff_eq] at h
   obtain ⟨⟨⟨h1, h2⟩, h3⟩, h4⟩ := h
   have hrep := hfg p.2
   have hl := flatMap_length es s hs
   have hfit : p.1 * s + s ≤ es.length * s := by rw [← Nat.succ_mul]; exact Nat.mul_le_mul_right _ (by omega)
   have hr' := hr.splice (off := p.1 * s) hrep h3 (by omega)
   rw [← flatMap_set es s hs p.1 _ (by omega) h2] at hr'
   obtain ⟨vs', e1, e2, e3⟩ := ih _ (es.set p.1 (g p.2)) f g hfg (by simp [hn]) (mem_set_cells hs h2) hr' (by
    rw [List.all_eq_true] at h4 ⊢; exact h4)
   refine ⟨vs', ?_, e2, e3⟩
   have hcs := (hrep.cells h3).1
   simp only [List.map_cons, Instr.fill]
   rw [if_neg]
   · exact e1
   · simp only [Bool.or_eq_true, decide_eq_true_eq, not_or, ne_eq, Decidable.not_not]
     have := hr.1
     exact ⟨by omega, by omega⟩

theorem ofConst_cells (v : Value) : (ofConst v).cells = [ofConst v] := by
 unfold ofConst
 split
 · rfl
 · cases plain v <;> rfl

theorem elemZero_spec {e : TypeId} {z : AV} (h : elemZero P e = some z) : zeroCells P e = some z.cells := by
 unfold elemZero at h
 obtain ⟨zs, hz, h⟩ := Option.bind_eq_some_iff.1 h
 split at h
 · injection h with h; subst h; exact hz
 · rename_i c _
   injection h with h; subst h
   rw [hz]
   unfold zeroCells at hz
   split at hz
   · rename_i zv _
     injection hz with hz
     have : c ∈ zv.cells.toList.map ofConst := by rw [hz]; simp
     obtain ⟨v, _, rfl⟩ := List.mem_map.1 this
     rw [ofConst_cells]
   · cases hz
 · cases h

theorem row_replicate {z : AV} {zv : Array Value} {n : Nat} (h : Row G w zv z.cells) : Row G w ((Array.range (n * z.cells.length)).map (zv[· % zv.size]!)) ((List.replicate n z).flatMap AV.cells) := by
 have hs : ∀ e, e ∈ List.replicate n z → e.cells.length = z.cells.length := fun e he => by rw [List.eq_of_mem_replicate he]
 have hl := flatMap_length (List.replicate n z) z.cells.length hs
 simp only [List.length_replicate] at hl
 refine ⟨by simp [hl], fun i hi => ?_⟩
 rw [hl] at hi
 have hpos : 0 < z.cells.length := Nat.pos_of_ne_zero fun e => by rw [e] at hi; omega
 have hdiv : i / z.cells.length < n := (Nat.div_lt_iff_lt_mul hpos).2 hi
 have hmod : i % z.cells.length < z.cells.length := Nat.mod_lt _ hpos
 have e1 : ((List.replicate n z).flatMap AV.cells).getD i .dead = z.cells.getD (i % z.cells.length) .dead := by
  have := flatMap_getD (List.replicate n z) z.cells.length hs (i / z.cells.length) (i % z.cells.length) (by simpa using hdiv) hmod
  rw [show i / z.cells.length * z.cells.length + i % z.cells.length = i by rw [Nat.mul_comm]; exact Nat.div_add_mod _ _] at this
  rw [this]
  congr 2
  simp [List.getD_eq_getElem?_getD, List.getElem?_replicate, hdiv]
 rw [e1]
 have e2 : ((Array.range (n * z.cells.length)).map (zv[· % zv.size]!)).getD i undef = zv.getD (i % z.cells.length) undef := by
  simp only [Array.getD_eq_getD_getElem?, Array.getElem?_map, Array.getElem?_range, hi, if_true, Option.map_some, Option.getD_some]
  rw [h.1]
  have : i % z.cells.length < zv.size := by rw [h.1]; exact hmod
  simp [this]
 rw [e2]
 exact h.2 _ hmod


theorem buildSlice_sound (hW : WRel Γ G H w) {t : TypeId} {n : Nat} {ps : Array (Nat × Operand)} {r : AV} {f : Operand → Value} {g : Operand → AV} (hfg : ∀ x, Rep G w (f x) (g x))
 (h : buildSliceE P t n (ps.toList.map fun p => (p.1, g p.2)) = some r) :
 ∃ v w' G', (Instr.buildSlice t n (ps.map fun (i, x) => (i, f x))).run P w = .ok v w' ∧ Ext G w G' w' ∧ WRel Γ G' H w' ∧ Rep G' w' v r := by
 unfold buildSliceE at h
 split at h <;> try (cases h; done)
 rename_i e hu
 split at h <;> try (cases h; done)
 rename_i z hz
 cases hok : bslOk P e n z with
 | false => rw [hok] at h; cases h
 | true =>
 rw [hok] at h
 simp only [cond_true] at h
 unfold bsl at h
 split at h <;> try (cases h; done)
 rename_i hall
 injection h with h; subst h
 unfold bslOk at hok
 simp only [Bool.and_eq_true, decide_eq_true_eq, beq_iff_eq] at hok
 obtain ⟨⟨⟨⟨h24, hzl⟩, hzs⟩, hpos⟩, hT⟩ := hok
 obtain ⟨zv, hz1, hz2, _⟩ := zero_row (elemZero_spec hz) hzs G w
 have hs0 : ∀ e', e' ∈ List.replicate n z → e'.cells.length = P.cellsOf e := fun e' he => by rw [List.eq_of_mem_replicate he]; exact hzl
 obtain ⟨vs, f1, f2, f3⟩ := fillRow_sound (G := G) (w := w) (s := P.cellsOf e) (n := n) ps.toList _ (List.replicate n z) f g hfg (by simp) hs0 (row_replicate (n := n) hz2) (by
  rw [List.all_eq_true] at hall ⊢; simpa using hall)
 have hlen : (setAll (List.replicate n z) (ps.toList.map fun p => (p.1, g p.2))).length = n := by rw [setAll_length]; simp
 have hfl := flatMap_length _ _ f3
 rw [hlen] at hfl
 obtain ⟨x1, x2, x3⟩ := newRow_imm hW (e := e) (vs := vs) (cap := n) (fun i hi => f2.2 i (by rw [hlen] at hi; omega)) f3 (by rw [hlen, f2.1]; omega) (by omega) .exact (.inr ⟨rfl, hlen.symm⟩)
 rw [hlen] at x3
 refine ⟨_, _, _, ?_, x1, x2, x3⟩
 have hne : n * P.cellsOf e = 0 → n = 0 := fun h => by rcases Nat.mul_eq_zero.1 h with h | h <;> omega
 have hf : (ps.map fun (x : Nat × Operand) => (x.1, f x.2)).toList = ps.toList.map fun p => (p.1, f p.2) := by simp
 have key : ∀ Z : Array Value, (n * P.cellsOf e = 0 ∨ Z = zv.cells) → (Array.range (n * P.cellsOf e)).map (fun i => Z[i % Z.size]!) = (Array.range (n * z.cells.length)).map (zv.cells[· % zv.cells.size]!) := by
  intro Z hZ
  rw [hzl]
  rcases hZ with h0 | rfl
  · rw [h0]; simp
  · rfl
 simp only [Instr.buildSlice, Sem.run_bind, run_underlying hu, Result.andThen_ok, run_sizeOf_has hT]
 rw [if_neg (by omega)]
 by_cases h0 : n * P.cellsOf e = 0
 · simp only [if_pos h0, Sem.run_bind, Sem.run_pure, Result.andThen_ok, key #[] (.inl h0), hf, f1]
   rfl
 · simp only [if_neg h0, Sem.run_bind, hz1, Sem.run_pure, Result.andThen_ok, key zv.cells (.inr rfl), hf, f1]
   rfl

end Go.Av
