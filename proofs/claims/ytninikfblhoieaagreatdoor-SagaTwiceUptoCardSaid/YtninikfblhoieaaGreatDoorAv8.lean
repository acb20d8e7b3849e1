/- Addresses, slicing, conversions, lengths; all operations that leave the abstract heap alone, in one theorem. -/
import Derived.Test.YtninikfblhoieaaGreatDoorAv7
import Derived.Laws.BytesArg
set_option linter.all false

namespace Go.Av
open Go Go.RowKit

variable {E : Env} {Γ : Nat → Option AV} {G : Ghost} {H H' : Heap} {w : World} {a : Act} {T : Tm} {P : Program}

theorem fieldPlace_run {f : Field} (h0 : P.cellsOf f.type ≠ 0) (b o : Nat) (w : World) : (fieldPlace ⟨b, o, none⟩ f).run P w = .ok ⟨b, o + f.offset, none⟩ w := by
 have hT : hasT P f.type = true := by
  unfold hasT; unfold Program.cellsOf at h0
  cases hi : P.info? f.type with
  | none => simp [hi] at h0
  | some i => rfl
 simp only [fieldPlace, Sem.run_bind, run_sizeOf_has hT, Result.andThen_ok, if_neg h0, Sem.run_pure, addr_add]

theorem fa_sound {t : TypeId} {p : Value} {ap r : AV} {i : Nat} (hp : Rep G w p ap) (h : faE P t ap i = some r) : ∃ v, (Instr.fieldAt t p i).run P w = .ok v w ∧ Rep G w v r := by
 unfold faE at h
 split at h <;> try (cases h; done)
 rename_i fs hu
 split at h <;> try (cases h; done)
 rename_i f hf
 cases h0' : Nat.beq (P.cellsOf f.type) 0 with
 | true => rw [h0'] at h; cases h
 | false =>
 rw [h0'] at h
 have h0 : P.cellsOf f.type ≠ 0 := fun e => by rw [e] at h0'; cases h0'
 simp only [cond_false] at h
 unfold fa at h
 split at h
 · rename_i o off
   obtain ⟨rfl, hu'⟩ := hp.inv_ptr
   injection h with h; subst h
   exact ⟨_, by simp only [Instr.fieldAt, Sem.run_bind, run_underlying hu, Result.andThen_ok, hf, Instr.sureAddr, Sem.run_pure, fieldPlace_run h0], .ptr o _ hu'⟩
 · rename_i cs off
   obtain ⟨b, o, vs, rfl, h1, h2, h3, h4⟩ := hp.inv_cp
   injection h with h; subst h
   refine ⟨_, by simp only [Instr.fieldAt, Sem.run_bind, run_underlying hu, Result.andThen_ok, hf, Instr.sureAddr, Sem.run_pure, fieldPlace_run h0]; rfl, ?_⟩
   rw [Nat.add_assoc]
   exact .cp b o _ cs vs h1 h2 h3 h4
 · cases h

theorem part_sound {t : TypeId} {vs : Array Value} {cs : List AV} {off : Nat} {r : AV} (hr : Row G w vs cs) (h : cutE cs off (kindT P t) (P.cellsOf t) = some r) :
 ∃ v, (part t vs off).run P w = .ok v w ∧ Rep G w v r := by
 cases hk : kindT P t with
 | none => simp [hk, cutE] at h
 | some ag =>
   obtain ⟨i, hi, _⟩ := kind_info hk
   rw [hk] at h
   cases ag with
   | true =>
     simp only [cutE] at h
     split at h <;> try (cases h; done)
     rename_i hle
     injection h with h; subst h
     refine ⟨.agg (vs.extract off (off + P.cellsOf t)), by simp only [part, Sem.run_bind, run_isAgg hk, Result.andThen_ok, if_true, run_sizeOf hi, Sem.run_pure], ?_⟩
     refine Row.agg ⟨by simp [hr.1]; omega, fun k hk' => ?_⟩
     simp only [List.length_take, List.length_drop] at hk'
     rw [getD_drop_take _ _ _ _ (by omega) hle]
     have e : (vs.extract off (off + P.cellsOf t)).getD k undef = vs.getD (off + k) undef := by
      have := hr.1
      simp [Array.getD_eq_getD_getElem?, show k < min (off + P.cellsOf t) vs.size - off by omega, show off + k < vs.size by omega]
     rw [e]; exact hr.2 _ (by omega)
   | false =>
     simp only [cutE] at h
     obtain ⟨hlt, _⟩ := List.getElem?_eq_some_iff.1 h
     have hget : cs.getD off .dead = r := by simp [List.getD_eq_getElem?_getD, h]
     refine ⟨_, run_part hk (by rw [hr.1]; exact hlt), ?_⟩
     rw [← hget]; exact (hr.2 off hlt).1

theorem Rep.aggRow {v : Value} {cs : List AV} (h : Rep G w v (.agg cs)) : ∃ vs, v = .agg vs ∧ Row G w vs cs := by
 obtain ⟨vs, rfl, hl, hs, hr⟩ := h.inv_agg
 exact ⟨_, rfl, by simpa using hl, fun i hi => ⟨by simpa [List.getD_eq_getElem?_getD] using hr i hi, hs i hi⟩⟩

theorem field_sound {t : TypeId} {x : Value} {ax r : AV} {i : Nat} (hx : Rep G w x ax) (h : fieldE P t ax i = some r) : ∃ v, (Instr.field t x i).run P w = .ok v w ∧ Rep G w v r := by
 unfold fieldE at h
 split at h <;> try (cases h; done)
 rename_i fs hu
 split at h <;> try (cases h; done)
 rename_i f hf
 unfold fld at h
 split at h <;> try (cases h; done)
 rename_i cs
 obtain ⟨vs, rfl, hr⟩ := hx.aggRow
 obtain ⟨v, h1, h2⟩ := part_sound hr h
 exact ⟨v, by simp only [Instr.field, Sem.run_bind, run_underlying hu, Result.andThen_ok, hf, asAgg, Sem.run_pure, h1], h2⟩

theorem Rep.inv_lst {v : Value} {s : Nat} {es : List AV} {p : Perm} (h : Rep G w v (.lst s es p)) :
 (v = .slice none 0 0 ∧ es = []) ∨ ∃ (b off cap : Nat) (vs : Nat → Value), v = .slice (some ⟨b, off, none⟩) es.length cap ∧ es.length ≤ cap ∧ (∀ e, e ∈ es → e.cells.length = s) ∧
   (∀ k, k < es.length * s → ((es.flatMap AV.cells).getD k .dead).single = true) ∧ (∀ k, k < es.length * s → w.cell? ⟨b, off + k, none⟩ = some (vs k)) ∧
   (∀ k, k < es.length * s → Rep G w (vs k) ((es.flatMap AV.cells).getD k .dead)) ∧ (es.length * s = 0 ∨ G.reads b (off + es.length * s)) ∧ PermOk G p b off es.length cap s := by
 cases h with
 | nil => exact .inl ⟨rfl, rfl⟩
 | lst b off cap s es p vs h1 h2 h3 h4 h5 h6 h7 => exact .inr ⟨b, off, cap, vs, rfl, h1, h2, h3, h4, h5, h6, h7⟩

theorem getD_of_getElem? {es : List AV} {i : Nat} {e : AV} (h : es[i]? = some e) : es.getD i .dead = e := by simp [List.getD_eq_getElem?_getD, h]

theorem ia_sound {t : TypeId} {x ix : Value} {ax aix r : AV} (hx : Rep G w x ax) (hi : Rep G w ix aix) (h : iaE P t ax aix = some r) : ∃ v, (Instr.indexAt t x ix).run P w = .ok v w ∧ Rep G w v r := by
 unfold iaE at h
 split at h
 · rename_i e hu
   cases hT : hasT P e with
   | false => rw [hT] at h; cases h
   | true =>
   rw [hT] at h
   simp only [cond_true] at h
   unfold ias at h
   split at h <;> try (cases h; done)
   rename_i k i
   obtain ⟨rfl, _⟩ := hi.inv_sc
   split at h
   · rename_i s es p
     split at h <;> try (cases h; done)
     rename_i hc
     simp only [Bool.and_eq_true, decide_eq_true_eq, beq_iff_eq] at hc
     obtain ⟨h0, rfl⟩ := hc
     obtain ⟨v, hv, rfl⟩ := Option.map_eq_some_iff.1 h
     obtain ⟨hlt, _⟩ := List.getElem?_eq_some_iff.1 hv
     rcases hx.inv_lst with ⟨_, rfl⟩ | ⟨b, off, cap, vs, rfl, h1, h2, h3, h4, h5, h6, _⟩
     · simp at hlt
     · have hvs : v.cells.length = P.cellsOf e := h2 v (List.mem_of_getElem? hv)
       have hb : ∀ j, j < P.cellsOf e → i.toNat * P.cellsOf e + j < es.length * P.cellsOf e := fun j hj => by
        calc i.toNat * P.cellsOf e + j < i.toNat * P.cellsOf e + P.cellsOf e := by omega
         _ = (i.toNat + 1) * P.cellsOf e := (Nat.succ_mul _ _).symm
         _ ≤ _ := Nat.mul_le_mul_right _ (by omega)
       have hg : ∀ j, j < P.cellsOf e → (es.flatMap AV.cells).getD (i.toNat * P.cellsOf e + j) .dead = v.cells.getD j .dead := fun j hj => by
        rw [flatMap_getD es _ h2 _ _ hlt hj, getD_of_getElem? hv]
       refine ⟨.pointer (some ⟨b, off + i.toNat * P.cellsOf e + 0, none⟩), ?_, ?_⟩
       · simp only [Instr.indexAt, asIntOf, Sem.run_bind, Sem.run_pure, Result.andThen_ok, run_underlying hu]
         rw [if_pos ⟨h0, by omega⟩]
         simp only [Sem.run_bind, run_sizeOf_has hT, Result.andThen_ok, Sem.run_pure, addr_add]
         rfl
       · refine .cp b (off + i.toNat * P.cellsOf e) 0 v.cells (fun j => vs (i.toNat * P.cellsOf e + j)) (fun j hj => ?_) (fun j hj => ?_) (fun j hj => ?_) ?_
         · rw [hvs] at hj; rw [← hg j hj]; exact h3 _ (hb j hj)
         · rw [hvs] at hj; rw [Nat.add_assoc]; exact h4 _ (hb j hj)
         · rw [hvs] at hj; rw [← hg j hj]; exact h5 _ (hb j hj)
         · rcases h6 with h6 | h6
           · left; rw [hvs]
             rcases Nat.mul_eq_zero.1 h6 with h6 | h6 <;> omega
           · right; refine Ghost.reads_le h6 ?_
             rw [hvs, Nat.add_assoc, ← Nat.succ_mul]
             exact Nat.add_le_add_left (Nat.mul_le_mul_right _ (by omega)) _
   · rename_i o off len cap
     split at h <;> try (cases h; done)
     rename_i hc
     obtain ⟨rfl, hu'⟩ := hx.inv_ms
     injection h with h; subst h
     refine ⟨_, ?_, .ptr o _ hu'⟩
     simp only [Instr.indexAt, asIntOf, Sem.run_bind, Sem.run_pure, Result.andThen_ok, run_underlying hu]
     rw [if_pos hc]
     simp only [Sem.run_bind, run_sizeOf_has hT, Result.andThen_ok, Sem.run_pure, addr_add]
   · cases h
 · rename_i n e hu
   cases hT : hasT P e with
   | false => rw [hT] at h; cases h
   | true =>
   rw [hT] at h
   simp only [cond_true] at h
   unfold iaa at h
   split at h <;> try (cases h; done)
   rename_i k i
   obtain ⟨rfl, _⟩ := hi.inv_sc
   split at h
   · rename_i o off
     split at h <;> try (cases h; done)
     rename_i hc
     obtain ⟨rfl, hu'⟩ := hx.inv_ptr
     injection h with h; subst h
     refine ⟨_, ?_, .ptr o _ hu'⟩
     simp only [Instr.indexAt, asIntOf, Sem.run_bind, Sem.run_pure, Result.andThen_ok, run_underlying hu, Instr.sureAddr]
     rw [if_pos hc]
     simp only [Sem.run_bind, run_sizeOf_has hT, Result.andThen_ok, Sem.run_pure, addr_add]
   · rename_i cs off
     split at h <;> try (cases h; done)
     rename_i hc
     obtain ⟨b, o, vs, rfl, h1, h2, h3, h4⟩ := hx.inv_cp
     injection h with h; subst h
     refine ⟨.pointer (some ⟨b, o + off + i.toNat * P.cellsOf e, none⟩), ?_, by rw [Nat.add_assoc]; exact .cp b o _ cs vs h1 h2 h3 h4⟩
     simp only [Instr.indexAt, asIntOf, Sem.run_bind, Sem.run_pure, Result.andThen_ok, run_underlying hu, Instr.sureAddr]
     rw [if_pos hc]
     simp only [Sem.run_bind, run_sizeOf_has hT, Result.andThen_ok, Sem.run_pure, addr_add]
   · cases h
 · cases h

theorem ix_sound {t : TypeId} {x ix : Value} {ax aix r : AV} (hx : Rep G w x ax) (hi : Rep G w ix aix) (h : ixE P t ax aix = some r) : ∃ v, (Instr.index t x ix).run P w = .ok v w ∧ Rep G w v r := by
 unfold ixE at h
 split at h
 · rename_i hu
   unfold ixs at h
   split at h <;> try (cases h; done)
   rename_i k i
   obtain ⟨rfl, _⟩ := hi.inv_sc
   split at h <;> try (cases h; done)
   rename_i s
   obtain ⟨rfl, _⟩ := hx.inv_sc
   split at h <;> try (cases h; done)
   rename_i hc
   injection h with h; subst h
   refine ⟨_, ?_, rep_int _ _⟩
   have : s[i.toNat]? = some (s[i.toNat]'hc.2) := by simp [hc.2]
   simp only [Instr.index, asIntOf, Sem.run_bind, Sem.run_pure, Result.andThen_ok, run_underlying hu, if_pos hc.1, this]
 · rename_i n e hu
   unfold ixa at h
   split at h <;> try (cases h; done)
   rename_i k i
   obtain ⟨rfl, _⟩ := hi.inv_sc
   split at h <;> try (cases h; done)
   rename_i cs
   split at h <;> try (cases h; done)
   rename_i hc
   obtain ⟨vs, rfl, hr⟩ := hx.aggRow
   obtain ⟨v, h1, h2⟩ := part_sound hr h
   have hT : hasT P e = true := by
    cases hk : kindT P e with
    | none => simp [hk, cutE] at h
    | some b => obtain ⟨i, hi, _⟩ := kind_info hk; simp [hasT, hi]
   refine ⟨v, ?_, h2⟩
   simp only [Instr.index, asIntOf, Sem.run_bind, Sem.run_pure, Result.andThen_ok, run_underlying hu]
   rw [if_pos hc]
   simp only [Sem.run_bind, run_sizeOf_has hT, Result.andThen_ok, h1]
 · cases h


theorem bound_some (d d' : Nat) (m : AV) : bound d (some m) = bound d' (some m) := by
 unfold bound
 cases m with
 | sc v => cases v <;> rfl
 | _ => rfl

theorem bound_run {o : Option Value} {ao : Option AV} {d n y : Nat} {code : BoundsCode} (ho : ∀ v av, o = some v → ao = some av → Rep G w v av) (hs : o.isSome = ao.isSome) (h : bound d ao = some n) (hn : n ≤ y) :
 (match o with | some v => Instr.sliceBound v y code | none => (pure d : Sem Nat)).run P w = .ok n w := by
 cases ao with
 | none =>
   cases o with
   | none => simp only [bound, Option.some.injEq] at h; subst h; rfl
   | some v => simp at hs
 | some av =>
   cases o with
   | none => simp at hs
   | some v =>
     have hr := ho v av rfl rfl
     unfold bound at h
     split at h
     · cases ‹some av = none›
     · rename_i k i heq
       injection heq with heq; subst heq
       obtain ⟨rfl, _⟩ := hr.inv_sc
       split at h <;> try (cases h; done)
       rename_i h0
       injection h with h; subst h
       simp only [Instr.sliceBound, asIntOf, Sem.run_bind, Sem.run_pure, Result.andThen_ok]
       rw [if_pos ⟨h0, by omega⟩]
       rfl
     · cases h

def RepO (G : Ghost) (w : World) (o : Option Value) (ao : Option AV) : Prop := o.isSome = ao.isSome ∧ ∀ v av, o = some v → ao = some av → Rep G w v av

theorem bounds_run {b : Bool} {len cap l h m : Nat} {lo hi mx : Option Value} {alo ahi amx : Option AV} (h1 : RepO G w lo alo) (h2 : RepO G w hi ahi) (h3 : RepO G w mx amx)
 (hl : bound 0 alo = some l) (hh : bound len ahi = some h) (hm : bound cap amx = some m) (hmx : amx.isSome = true → ahi.isSome = true) (hle : l ≤ h ∧ h ≤ m ∧ m ≤ cap) :
 (Instr.sliceBounds b len cap lo hi mx).run P w = .ok (l, h, m) w := by
 have e1 := bound_run (P := P) (code := if b then .slice3Acap else .slice3Alen) (y := cap) h3.2 h3.1 hm (by omega)
 have e3 := bound_run (P := P) (code := if mx.isSome then .slice3C else .sliceB) (y := h) h1.2 h1.1 hl (by omega)
 have e2 : (match hi, mx with
  | some v, some _ => Instr.sliceBound v m .slice3B
  | some v, none => Instr.sliceBound v m (if b then .sliceAcap else .sliceAlen)
  | none, none => pure len
  | none, some _ => stuck "Slice: max without high" : Sem Nat).run P w = .ok h w := by
  cases hi with
  | none =>
    cases mx with
    | none => exact bound_run (P := P) (code := .slice3B) (y := m) h2.2 h2.1 hh (by omega)
    | some v =>
      have : amx.isSome = true := by have := h3.1; simpa using this.symm
      have h4 := hmx this
      have := h2.1
      rw [h4] at this
      cases this
  | some v =>
    cases mx with
    | none => exact bound_run (P := P) (code := if b then .sliceAcap else .sliceAlen) (y := m) h2.2 h2.1 hh (by omega)
    | some u => exact bound_run (P := P) (code := .slice3B) (y := m) h2.2 h2.1 hh (by omega)
 have hok : ∀ {x y : Nat}, (Sem.run P (pure x) w = Result.ok y w) → x = y := fun h => by simpa using h
 cases mx with
 | none =>
   have := hok e1; subst this
   cases hi with
   | none =>
     have := hok e2; subst this
     cases lo with
     | none => have := hok e3; subst this; rfl
     | some v => simp only [Option.isSome_none, Bool.false_eq_true, if_false] at e3; simp only [Instr.sliceBounds, Sem.run_bind, Sem.run_pure, Result.andThen_ok, Option.isSome_none, Bool.false_eq_true, if_false, e3]
   | some u =>
     simp only [] at e2
     cases lo with
     | none => have := hok e3; subst this; simp only [Instr.sliceBounds, Sem.run_bind, Sem.run_pure, Result.andThen_ok, e2]
     | some v => simp only [Option.isSome_none, Bool.false_eq_true, if_false] at e3; simp only [Instr.sliceBounds, Sem.run_bind, Sem.run_pure, Result.andThen_ok, Option.isSome_none, Bool.false_eq_true, if_false, e2, e3]
 | some z =>
   simp only [] at e1
   cases hi with
   | none =>
     have : amx.isSome = true := by have := h3.1; simpa using this.symm
     have h4 := hmx this
     have := h2.1
     rw [h4] at this
     cases this
   | some u =>
     simp only [] at e2
     cases lo with
     | none => have := hok e3; subst this; simp only [Instr.sliceBounds, Sem.run_bind, Sem.run_pure, Result.andThen_ok, e1, e2]
     | some v => simp only [Option.isSome_some, if_true] at e3; simp only [Instr.sliceBounds, Sem.run_bind, Sem.run_pure, Result.andThen_ok, Option.isSome_some, if_true, e1, e2, e3]

theorem flatMap_take_drop (es : List AV) (s l h : Nat) (hs : ∀ e, e ∈ es → e.cells.length = s) (hl : l ≤ h) (hh : h ≤ es.length) (k : Nat) (hk : k < (h - l) * s) :
 (((es.take h).drop l).flatMap AV.cells).getD k .dead = (es.flatMap AV.cells).getD (l * s + k) .dead := by
 have hpos : 0 < s := Nat.pos_of_ne_zero fun e => by rw [e] at hk; omega
 have hd : k / s < h - l := (Nat.div_lt_iff_lt_mul hpos).2 hk
 have hm : k % s < s := Nat.mod_lt _ hpos
 have hlen : ((es.take h).drop l).length = h - l := by simp; omega
 have hs' : ∀ e, e ∈ (es.take h).drop l → e.cells.length = s := fun e he => hs e (List.mem_of_mem_take (List.mem_of_mem_drop he))
 have e1 := flatMap_getD ((es.take h).drop l) s hs' (k / s) (k % s) (by omega) hm
 have e2 := flatMap_getD es s hs (l + k / s) (k % s) (by omega) hm
 rw [show k / s * s + k % s = k by rw [Nat.mul_comm]; exact Nat.div_add_mod _ _] at e1
 rw [show (l + k / s) * s + k % s = l * s + k by rw [Nat.add_mul, Nat.add_assoc, show k / s * s + k % s = k by rw [Nat.mul_comm]; exact Nat.div_add_mod _ _]] at e2
 rw [e1, e2]
 congr 2
 simp only [List.getD_eq_getElem?_getD, List.getElem?_drop]
 rw [List.getElem?_take_of_lt (by omega)]

theorem slice_sound {t : TypeId} {x : Value} {ax r : AV} {lo hi mx : Option Value} {alo ahi amx : Option AV} (hx : Rep G w x ax) (h1 : RepO G w lo alo) (h2 : RepO G w hi ahi) (h3 : RepO G w mx amx)
 (hmx : amx.isSome = true → ahi.isSome = true)
 (h : sliceE P t ax alo ahi amx = some r) : ∃ v, (Instr.sliceAt t x lo hi mx).run P w = .ok v w ∧ Rep G w v r := by
 unfold sliceE at h
 split at h
 · rename_i hu
   have hsl : Instr.sliceAt t x lo hi mx = (do match ← underlying t with | .array n elem => do { let a ← Instr.sureAddr x; let (l, h, m) ← Instr.sliceBounds false n n lo hi mx; let size ← sizeOf elem; pure (.slice (some (if m = l then a else a.add (l * size))) (h - l) (m - l)) } | _ => Instr.slice t x lo hi mx) := rfl
   unfold sls at h
   split at h <;> try (cases h; done)
   rename_i s
   obtain ⟨rfl, _⟩ := hx.inv_sc
   split at h <;> try (cases h; done)
   rename_i l hh hl hhh
   split at h <;> try (cases h; done)
   rename_i hc
   injection h with h; subst h
   refine ⟨_, ?_, rep_str _⟩
   have hmx0 : mx = none := by
    have := h3.1
    cases mx with
    | none => rfl
    | some v => simp at this
   subst hmx0
   have hb := bounds_run (P := P) (b := false) (m := s.size) h1 h2 h3 hl hhh rfl hmx ⟨hc.1, hc.2, Nat.le_refl _⟩
   simp only [hsl, Sem.run_bind, run_underlying hu, Result.andThen_ok, Instr.slice, Option.isSome_none, Bool.false_eq_true, if_false, Sem.run_pure, hb]
 · rename_i e hu
   have hsl : ∀ w, (Instr.sliceAt t x lo hi mx).run P w = (Instr.slice t x lo hi mx).run P w := fun w => by simp [Instr.sliceAt, run_underlying hu]
   cases hT : hasT P e with
   | false => rw [hT] at h; cases h
   | true =>
   rw [hT] at h
   simp only [cond_true] at h
   unfold sll at h
   split at h
   · rename_i s es p
     split at h <;> try (cases h; done)
     rename_i l hh hl hhh
     split at h <;> try (cases h; done)
     rename_i hc
     obtain ⟨hs, hlh, hhe⟩ := hc
     -- the capacity bound
     have key : ∀ (cap m : Nat), bound cap amx = some m → hh ≤ m → m ≤ cap → ∀ (b : Option Addr), x = .slice b es.length cap →
      (Instr.sliceAt t x lo hi mx).run P w = .ok (.slice (if m = l then b else b.map (·.add (l * P.cellsOf e))) (hh - l) (m - l)) w := by
      intro cap m hm hle hle2 b hxe
      subst hxe
      have hb := bounds_run (P := P) (b := true) h1 h2 h3 hl hhh hm hmx ⟨hlh, hle, hle2⟩
      rw [hsl]
      simp only [Instr.slice, Sem.run_bind, run_underlying hu, Result.andThen_ok, hb, run_sizeOf_has hT, Sem.run_pure]
     have hsz : es ≠ [] → s = P.cellsOf e := fun hne => hs.resolve_right hne
     -- what is cut reads
     have cut : ∀ (p' : Perm) (b : Addr) (cap m : Nat) (vs : Nat → Value), x = .slice (some b) es.length cap → True := fun _ _ _ _ _ _ => trivial
     have main : ∀ (p' : Perm) (m cap : Nat), bound cap amx = some m → hh ≤ m → m ≤ cap → (∃ b, x = .slice b es.length cap) → (p' = .no ∨ (p' = .exact ∧ m = hh)) →
      ∃ v, (Instr.sliceAt t x lo hi mx).run P w = .ok v w ∧ Rep G w v (.lst (P.cellsOf e) ((es.take hh).drop l) p') := by
      intro p' m cap hm hle hle2 ⟨b, hxe⟩ hp'
      refine ⟨_, key cap m hm hle hle2 b hxe, ?_⟩
      have hlen : ((es.take hh).drop l).length = hh - l := by simp; omega
      have hperm : ∀ (b' off' : Nat), PermOk G p' b' off' (hh - l) (m - l) (P.cellsOf e) := fun b' off' => by
       rcases hp' with rfl | ⟨rfl, rfl⟩
       · trivial
       · rfl
      by_cases hne : es = []
      · subst hne
        simp only [List.length_nil, Nat.le_zero] at hhe
        subst hhe
        have hl0 : l = 0 := by omega
        subst hl0
        cases b with
        | none =>
          rcases hx.inv_lst with ⟨hv, _⟩ | ⟨_, _, _, _, hv, _⟩
          · rw [hxe] at hv; injection hv with _ _ hcap
            have hm0 : m = 0 := by omega
            subst hm0
            exact .nil _ _ (fun t ht => by rcases hp' with rfl | ⟨rfl, _⟩ <;> cases ht)
          · rw [hxe] at hv; cases hv
        | some ad =>
          rcases hx.inv_lst with ⟨hv, _⟩ | ⟨b', off', _, _, hv, _⟩
          · rw [hxe] at hv; cases hv
          · rw [hxe] at hv
            injection hv with hv _ _
            injection hv with hv
            subst hv
            have := Rep.lst (G := G) (w := w) b' off' (m - 0) (P.cellsOf e) [] p' (fun _ => undef) (by simp) (by intro e h; cases h) (by intro k hk; simp at hk) (by intro k hk; simp at hk) (by intro k hk; simp at hk) (.inl (by simp)) (by
             have := hperm b' off'; simpa using this)
            simp only [Nat.zero_mul, addr_add, Option.map_some, Nat.add_zero, ite_self]
            simpa using this
      · have hs' := hsz hne
        subst hs'
        rcases hx.inv_lst with ⟨_, hv⟩ | ⟨b', off', cap', vs, hv, g1, g2, g3, g4, g5, g6, g7⟩
        · exact absurd hv hne
        · rw [hxe] at hv
          injection hv with hv _ hcap
          subst hv hcap
          have hmul : l * P.cellsOf e + (hh - l) * P.cellsOf e = hh * P.cellsOf e := by rw [← Nat.add_mul]; congr 1; omega
          have hmul2 : hh * P.cellsOf e ≤ es.length * P.cellsOf e := Nat.mul_le_mul_right _ hhe
          have hmem : ∀ e', e' ∈ (es.take hh).drop l → e'.cells.length = P.cellsOf e := fun e' he => g2 e' (List.mem_of_mem_take (List.mem_of_mem_drop he))
          by_cases hml : m = l
          · have h0 : hh - l = 0 := by omega
            have hnil : (es.take hh).drop l = [] := List.eq_nil_of_length_eq_zero (by omega)
            rw [if_pos hml, h0, hnil]
            exact Rep.lst (G := G) (w := w) b' off' (m - l) (P.cellsOf e) [] p' (fun _ => undef) (by simp) (by intro e h; cases h) (by intro k hk; simp at hk) (by intro k hk; simp at hk) (by intro k hk; simp at hk) (.inl (by simp)) (by
             have := hperm b' off'; rw [h0] at this; exact this)
          · rw [if_neg hml]
            simp only [Option.map_some, addr_add]
            have := Rep.lst (G := G) (w := w) b' (off' + l * P.cellsOf e) (m - l) (P.cellsOf e) ((es.take hh).drop l) p' (fun k => vs (l * P.cellsOf e + k)) (by omega) hmem
             (fun k hk => by rw [hlen] at hk; rw [flatMap_take_drop es _ l hh g2 hlh hhe k hk]; exact g3 _ (by omega))
             (fun k hk => by rw [hlen] at hk; rw [Nat.add_assoc]; exact g4 _ (by omega))
             (fun k hk => by rw [hlen] at hk; rw [flatMap_take_drop es _ l hh g2 hlh hhe k hk]; exact g5 _ (by omega))
             (by
               rcases g6 with g6 | g6
               · left; rw [hlen]; omega
               · right; rw [hlen]; exact Ghost.reads_le g6 (by omega))
             (by rw [hlen]; exact hperm _ _)
            rw [hlen] at this
            exact this
     have hshape : ∃ (b : Option Addr) (cap : Nat), x = .slice b es.length cap ∧ es.length ≤ cap ∧ (p = .exact → cap = es.length) := by
      rcases hx.inv_lst with ⟨rfl, rfl⟩ | ⟨b, off, cap, vs, rfl, g1, _, _, _, _, _, g7⟩
      · exact ⟨none, 0, rfl, by simp, fun _ => rfl⟩
      · exact ⟨_, cap, rfl, g1, fun e => by subst e; exact g7⟩
     obtain ⟨b, cap, hxe, hcap, hex⟩ := hshape
     split at h
     · injection h with h; subst h
       refine main _ cap cap rfl (by omega) (Nat.le_refl _) ⟨b, hxe⟩ ?_
       split
       · rename_i hpe
         exact .inr ⟨rfl, by have := hex hpe.1; omega⟩
       · exact .inl rfl
     · rename_i m
       split at h <;> try (cases h; done)
       rename_i m' hm'
       split at h <;> try (cases h; done)
       rename_i hmh
       subst hmh
       injection h with h; subst h
       have hm2 : bound cap (some m) = some m' := (bound_some cap 0 m).trans hm'
       exact main .exact m' cap hm2 (Nat.le_refl _) (by omega) ⟨b, hxe⟩ (.inr ⟨rfl, rfl⟩)
   · rename_i s tk k
     split at h <;> try (cases h; done)
     rename_i hb0
     split at h <;> try (cases h; done)
     rename_i hc
     injection h with h; subst h
     cases hx with
     | room b cap s t' k hu' hcap hr =>
       have hlo : lo = none := by have := h1.1; cases lo with | none => rfl | some v => simp at this
       have hmx0 : mx = none := by have := h3.1; cases mx with | none => rfl | some v => simp at this
       subst hlo hmx0
       have hb := bounds_run (P := P) (b := true) (len := k) (cap := cap) (l := 0) (h := 0) (m := cap) h1 h2 h3 rfl hb0 rfl hmx ⟨Nat.le_refl _, Nat.zero_le _, Nat.le_refl _⟩
       refine ⟨.slice (some ⟨b, 0, none⟩) 0 cap, ?_, ?_⟩
       · rw [hsl]
         simp only [Instr.slice, Sem.run_bind, run_underlying hu, Result.andThen_ok, hb, run_sizeOf_has hT, Sem.run_pure, Nat.zero_mul, Option.map_some, addr_add, Nat.add_zero, ite_self, Nat.sub_zero]
       · exact Rep.lst (G := G) (w := w) b 0 cap (P.cellsOf e) [] (.tok tk) (fun _ => undef) (by simp) (by intro e h; cases h) (by intro k hk; simp at hk) (by intro k hk; simp at hk) (by intro k hk; simp at hk) (.inl (by simp))
          ⟨hu', Nat.zero_le _, fun e0 => .inr (by
            obtain ⟨r1, r2⟩ := hr e0.symm
            rw [← hc]
            exact ⟨by simpa using r1, by omega⟩)⟩
   · rename_i o off len cap
     obtain ⟨rfl, hu'⟩ := hx.inv_ms
     split at h <;> try (cases h; done)
     rename_i l hh hl hhh
     split at h <;> try (cases h; done)
     rename_i m hm
     split at h <;> try (cases h; done)
     rename_i hc
     injection h with h; subst h
     have hm2 : bound cap amx = some m := by rw [← hm]; cases amx with | none => rfl | some z => exact bound_some cap 0 z
     have hb := bounds_run (P := P) (b := true) h1 h2 h3 hl hhh hm2 hmx ⟨hc.1, hc.2.1, hc.2.2⟩
     refine ⟨.slice (some ⟨G.loc o, if m = l then off else off + l * P.cellsOf e, none⟩) (hh - l) (m - l), ?_, .ms o _ _ _ hu'⟩
     rw [hsl]
     simp only [Instr.slice, Sem.run_bind, run_underlying hu, Result.andThen_ok, hb, run_sizeOf_has hT, Sem.run_pure, Option.map_some, addr_add]
     split <;> rfl
   · cases h
 · rename_i n e hu
   cases hT : hasT P e with
   | false => rw [hT] at h; cases h
   | true =>
   rw [hT] at h
   simp only [cond_true] at h
   unfold sla at h
   split at h <;> try (cases h; done)
   rename_i l hh hl hhh
   split at h <;> try (cases h; done)
   rename_i hc
   have hb : ∀ (h3' : amx = none), (Instr.sliceBounds false n n lo hi mx).run P w = .ok (l, hh, n) w := fun h3' =>
    bounds_run (P := P) h1 h2 h3 hl hhh (by rw [h3']; rfl) hmx ⟨hc.1, hc.2, Nat.le_refl _⟩
   split at h
   · rename_i o off
     obtain ⟨rfl, hu'⟩ := hx.inv_ptr
     injection h with h; subst h
     refine ⟨.slice (some ⟨G.loc o, if n = l then off else off + l * P.cellsOf e, none⟩) (hh - l) (n - l), ?_, .ms o _ _ _ hu'⟩
     simp only [Instr.sliceAt, Sem.run_bind, run_underlying hu, Result.andThen_ok, Instr.sureAddr, Sem.run_pure, hb rfl, run_sizeOf_has hT, addr_add]
     split <;> rfl
   · rename_i cs
     split at h <;> try (cases h; done)
     rename_i hs
     injection h with h; subst h
     obtain ⟨b, o, vs, rfl, g1, g2, g3, g4⟩ := hx.inv_cp
     have hlen : ((cs.take hh).drop l).length = hh - l := by simp; omega
     have hcl : ∀ e', e' ∈ cs → e'.cells = [e'] := fun e' he => by
      obtain ⟨k, hk, rfl⟩ := List.getElem_of_mem he
      have e2 : cs.getD k .dead = cs[k] := by simp [List.getD_eq_getElem?_getD, List.getElem?_eq_getElem hk]
      have := ((g3 k hk).cells_one (g1 k hk)).2
      rwa [e2] at this
     have hfm : ∀ l' : List AV, (∀ e', e' ∈ l' → e' ∈ cs) → l'.flatMap AV.cells = l' := by
      intro l' hl'
      induction l' with
      | nil => rfl
      | cons x xs ih => rw [List.flatMap_cons, hcl x (hl' x (by simp)), ih fun e' he => hl' e' (by simp [he])]; rfl
     have hsub : ∀ e', e' ∈ (cs.take hh).drop l → e' ∈ cs := fun e' he => List.mem_of_mem_take (List.mem_of_mem_drop he)
     have hget : ∀ k, k < hh - l → (((cs.take hh).drop l).flatMap AV.cells).getD k .dead = cs.getD (l + k) .dead := fun k hk => by
      rw [hfm _ hsub]
      simp only [List.getD_eq_getElem?_getD, List.getElem?_drop]
      rw [List.getElem?_take_of_lt (by omega)]
     refine ⟨.slice (some ⟨b, if n = l then o else o + l, none⟩) ((cs.take hh).drop l).length (n - l), ?_, ?_⟩
     · simp only [Instr.sliceAt, Sem.run_bind, run_underlying hu, Result.andThen_ok, Instr.sureAddr, Sem.run_pure, hb rfl, run_sizeOf_has hT, addr_add, hs.1, Nat.mul_one, hlen, Nat.add_zero]
       split <;> rfl
     · have hmem : ∀ e', e' ∈ (cs.take hh).drop l → e'.cells.length = 1 := fun e' he => by rw [hcl e' (hsub e' he)]; rfl
       refine Rep.lst (G := G) (w := w) b (if n = l then o else o + l) (n - l) 1 ((cs.take hh).drop l) .no (fun k => vs (l + k)) (by omega) hmem ?_ ?_ ?_ ?_ trivial
       · intro k hk; rw [hlen, Nat.mul_one] at hk; rw [hget k hk]; exact g1 _ (by omega)
       · intro k hk; rw [hlen, Nat.mul_one] at hk; rw [if_neg (by omega), Nat.add_assoc]; exact g2 _ (by omega)
       · intro k hk; rw [hlen, Nat.mul_one] at hk; rw [hget k hk]; exact g3 _ (by omega)
       · rw [hlen, Nat.mul_one]
         by_cases h0 : hh - l = 0
         · exact .inl h0
         · right
           rw [if_neg (by omega)]
           exact Ghost.reads_le (g4.resolve_left (by omega)) (by omega)
   · cases h
 · cases h

end Go.Av
