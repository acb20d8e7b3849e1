/- Numbers, texts, comparisons. -/
import Derived.Test.YtninikfblhoieaaGreatDoorAv4
import Derived.Laws.StructEq
set_option linter.all false

namespace Go.Av
open Go Go.RowKit

variable {E : Env} {G : Ghost} {H H' : Heap} {w : World} {a : Act} {T : Tm} {P : Program}

theorem rep_int (k : IntKind) (n : Int) : Rep G w (.int k n) (.sc (.int k n)) := .sc _ rfl
theorem rep_bool (b : Bool) : Rep G w (.bool b) (B b) := .sc _ rfl
theorem rep_str (s : ByteArray) : Rep G w (.string s) (S s) := .sc _ rfl

theorem int_sound {op : BinOp} {t : TypeId} {k k' : IntKind} {x y : Int} {r : AV} (h : intE op k x k' y = some r) :
 ∃ v, (binOp op t (.int k x) (.int k' y)).run P w = .ok v w ∧ Rep G w v r := by
 have dec : ∀ (p q : Prop) [Decidable p] [Decidable q], (p ↔ q) → decide p = decide q := fun p q _ _ hpq => by
  by_cases hp : p <;> simp [hp, hpq.1 , hpq.2] <;> first | exact hpq.1 hp | exact fun hq => hp (hpq.2 hq)
 unfold intE at h
 cases op <;> simp only [] at h
 case shl =>
  split at h
  · rename_i hb
    injection h with h; subst h
    exact ⟨_, by simp [binOp, Op.shift, Int.not_lt.2 hb], rep_int _ _⟩
  · cases h
 case shr =>
  split at h
  · rename_i hb
    injection h with h; subst h
    exact ⟨_, by simp [binOp, Op.shift, Int.not_lt.2 hb], rep_int _ _⟩
  · cases h
 all_goals
  split at h
  case isFalse => cases h
  rename_i hk
  subst hk
 case quo =>
  split at h
  · cases h
  · rename_i h0
    injection h with h; subst h
    exact ⟨_, by simp [binOp, Op.intDiv, h0], rep_int _ _⟩
 case rem =>
  split at h
  · cases h
  · rename_i h0
    injection h with h; subst h
    exact ⟨_, by simp [binOp, Op.intDiv, h0], rep_int _ _⟩
 all_goals
  injection h with h; subst h
 case add => exact ⟨_, by simp [binOp, Op.intArith], rep_int _ _⟩
 case sub => exact ⟨_, by simp [binOp, Op.intArith], rep_int _ _⟩
 case mul => exact ⟨_, by simp [binOp, Op.intArith], rep_int _ _⟩
 case and => exact ⟨_, by simp only [binOp, Op.intBits, ne_eq, not_true, if_false]; rfl, rep_int _ _⟩
 case or => exact ⟨_, by simp only [binOp, Op.intBits, ne_eq, not_true, if_false]; rfl, rep_int _ _⟩
 case xor => exact ⟨_, by simp only [binOp, Op.intBits, ne_eq, not_true, if_false]; rfl, rep_int _ _⟩
 case andNot => exact ⟨_, by simp only [binOp, Op.intBits, ne_eq, not_true, if_false]; rfl, rep_int _ _⟩
 case eql => exact ⟨_, by simp [binOp, Op.intCmp]; rfl, rep_bool _⟩
 case neq => exact ⟨_, by simp [binOp, Op.intCmp, bne]; rfl, rep_bool _⟩
 case lss => exact ⟨_, by simp [binOp, Op.intCmp], rep_bool _⟩
 case leq => exact ⟨_, by simp [binOp, Op.intCmp], rep_bool _⟩
 case gtr => exact ⟨_, by simp [binOp, Op.intCmp], rep_bool _⟩
 case geq => exact ⟨_, by simp [binOp, Op.intCmp], rep_bool _⟩

theorem toList_beq (a b : ByteArray) : (a.toList == b.toList) = decide (a = b) := by
 have h : a.toList = b.toList ↔ a = b := by
  constructor
  · intro h
    rw [ByteArray.toList_eq, ByteArray.toList_eq] at h
    cases a with | mk x => cases b with | mk y =>
    have : x = y := by cases x; cases y; simpa using h
    rw [this]
  · rintro rfl; rfl
 by_cases e : a = b
 · subst e; simp
 · have : a.toList ≠ b.toList := fun h' => e (h.1 h')
   simp [e, this]

theorem str_sound {op : BinOp} {t : TypeId} {x y : ByteArray} {r : AV} (h : strE op x y = some r) :
 ∃ v, (binOp op t (.string x) (.string y)).run P w = .ok v w ∧ Rep G w v r := by
 unfold strE at h
 have hb : ∀ o, o ≠ BinOp.shl → o ≠ BinOp.shr → binOp o t (.string x) (.string y) = Op.stringOp o x y := by
  intro o h1 h2; cases o <;> first | rfl | exact absurd rfl h1 | exact absurd rfl h2
 cases op <;> simp only [] at h <;> try (cases h; done)
 case add =>
  split at h
  · rename_i hs
    injection h with h; subst h
    refine ⟨_, ?_, rep_str _⟩
    rw [hb _ (by decide) (by decide)]
    have : ¬ (((x.size + y.size : Nat) : Int) > IntKind.i64.max) := by
     have : IntKind.i64.max = 9223372036854775807 := by decide
     omega
    simp only [Op.stringOp, this, if_false]
    rfl
  · cases h
 all_goals
  injection h with h; subst h
  refine ⟨_, ?_, rep_bool _⟩
  rw [hb _ (by decide) (by decide)]
  simp only [Op.stringOp, toList_beq]
  rfl

theorem un_sound {op : UnOp} {x : Value} {ax r : AV} (hx : Rep G w x ax) (h : unE op ax = some r) : ∃ v, (Op.unary op x).run P w = .ok v w ∧ Rep G w v r := by
 unfold unE at h
 split at h
 · obtain ⟨rfl, _⟩ := hx.inv_sc
   injection h with h; subst h
   exact ⟨_, rfl, rep_bool _⟩
 · obtain ⟨rfl, _⟩ := hx.inv_sc
   injection h with h; subst h
   exact ⟨_, rfl, rep_int _ _⟩
 · obtain ⟨rfl, _⟩ := hx.inv_sc
   injection h with h; subst h
   exact ⟨_, rfl, rep_int _ _⟩
 · cases h

theorem flat_spec {t : TypeId} {ks : List FK} (h : flat P t = some ks) : P.underlying t = some (.struct (P.fieldsOf t)) ∧ flatFrom P 0 (P.fieldsOf t).toList = some ks ∧ P.stoodInHeld t = false ∧ P.eqGuardType P.depth t = false := by
 unfold flat at h
 split at h
 · rename_i fs hu
   split at h
   · rename_i hc
     simp only [Bool.and_eq_true, Bool.not_eq_true'] at hc
     exact ⟨by simp [Program.fieldsOf, hu], by simpa [Program.fieldsOf, hu] using h, hc.1, hc.2⟩
   · cases h
 · cases h

theorem fkOf_kind {t : TypeId} {k : FK} (h : fkOf P t = some k) : kindT P t = some false := by
 unfold fkOf at h
 unfold kindT
 split at h <;> rename_i hu <;> first | (rw [hu]; rfl) | cases h

theorem cellEq_run {d : Nat} {t : TypeId} {k : FK} {x y : Value} {ax ay : AV} {b : Bool} (hk : fkOf P t = some k)
 (hx : Rep G w x ax) (hy : Rep G w y ay) (h : cellEq k ax ay = some b) : (Op.equalIn (d + 1) t x y).run P w = .ok b w := by
 unfold fkOf at hk
 unfold cellEq at h
 split at h
 · obtain ⟨rfl, _⟩ := hx.inv_sc
   obtain ⟨rfl, _⟩ := hy.inv_sc
   split at h
   · rename_i e; subst e
     injection h with h; subst h
     split at hk <;> rename_i hu <;> try (cases hk; done)
     rw [run_equalIn_int w d t _ _ _ _ hu]; rfl
   · cases h
 · obtain ⟨rfl, _⟩ := hx.inv_sc
   obtain ⟨rfl, _⟩ := hy.inv_sc
   injection h with h; subst h
   split at hk <;> rename_i hu <;> try (cases hk; done)
   rw [run_equalIn_string w d t _ _ hu, toList_beq]
 · obtain ⟨rfl, _⟩ := hx.inv_sc
   obtain ⟨rfl, _⟩ := hy.inv_sc
   injection h with h; subst h
   split at hk <;> rename_i hu <;> try (cases hk; done)
   rw [run_equalIn_bool w d t _ _ hu]
 · cases h

theorem run_part {t : TypeId} {cs : Array Value} {off : Nat} (hk : kindT P t = some false) (h : off < cs.size) : (part t cs off).run P w = .ok (cs.getD off undef) w := by
 simp only [part, Sem.run_bind, run_isAgg hk, Result.andThen_ok, Bool.false_eq_true, if_false, Array.getElem?_eq_getElem h]
 simp [h]

theorem cellsEq_run {d : Nat} {vs us : Array Value} : ∀ (fs : List Field) (n : Nat) (ks : List FK) (xs ys : List AV) (b : Bool), flatFrom P n fs = some ks →
 n + xs.length = vs.size → n + ys.length = us.size →
 (∀ i, i < xs.length → Rep G w (vs.getD (n + i) undef) (xs.getD i .dead)) → (∀ i, i < ys.length → Rep G w (us.getD (n + i) undef) (ys.getD i .dead)) →
 cellsEq ks xs ys = some b → (Op.eqFields (d + 1) vs us fs).run P w = .ok b w := by
 intro fs
 induction fs with
 | nil =>
   intro n ks xs ys b hf _ _ _ _ h
   simp only [flatFrom] at hf; injection hf with hf; subst hf
   cases xs <;> cases ys <;> simp [cellsEq] at h
   subst h; rfl
 | cons f fs ih =>
   intro n ks xs ys b hf hx hy hrx hry h
   simp only [flatFrom] at hf
   split at hf <;> try (cases hf; done)
   rename_i k ks' hc hk hr
   injection hf with hf; subst hf
   cases xs with
   | nil => simp [cellsEq] at h
   | cons ax xs =>
     cases ys with
     | nil => simp [cellsEq] at h
     | cons ay ys =>
       simp only [cellsEq] at h
       split at h <;> try (cases h; done)
       rename_i b1 b2 h1 h2
       injection h with h; subst h
       simp only [Bool.and_eq_true, bne_iff_ne, beq_iff_eq] at hc
       obtain ⟨hname, hoff⟩ := hc
       subst hoff
       simp only [List.length_cons] at hx hy hrx hry
       have e1 := cellEq_run (d := d) hk (by simpa using hrx 0 (by omega)) (by simpa using hry 0 (by omega)) h1
       have ih' := ih (f.offset + 1) ks' xs ys b2 hr (by omega) (by omega)
        (fun i hi => by have := hrx (i + 1) (by omega); rwa [show f.offset + (i + 1) = f.offset + 1 + i by omega] at this)
        (fun i hi => by have := hry (i + 1) (by omega); rwa [show f.offset + (i + 1) = f.offset + 1 + i by omega] at this) h2
       have p1 := run_part (P := P) (w := w) (fkOf_kind hk) (show f.offset < vs.size by omega)
       have p2 := run_part (P := P) (w := w) (fkOf_kind hk) (show f.offset < us.size by omega)
       rw [Array.getD_eq_getD_getElem?] at p1 p2
       simp only [Op.eqFields, ne_eq, hname, not_false_eq_true, if_true, Sem.run_bind, p1, p2, e1, Result.andThen_ok]
       cases b1
       · simp
       · simpa using ih'

theorem cmp_some {op : BinOp} {o : Option Bool} {r : AV} (h : cmpE op o = some r) : ∃ b, o = some b ∧ ((op = .eql ∧ r = B b) ∨ (op = .neq ∧ r = B (!b))) := by
 unfold cmpE at h
 split at h
 · injection h with h; exact ⟨_, rfl, .inl ⟨rfl, h.symm⟩⟩
 · injection h with h; exact ⟨_, rfl, .inr ⟨rfl, h.symm⟩⟩
 · cases h

theorem run_eqGuard_other {op : BinOp} {t : TypeId} {x y : Operand} {u v : Value} (h1 : ∀ a b, u = .agg a → v = .agg b → False) (h2 : u = .nilIface → v = .nilIface → (isNilIface x || isNilIface y) = true) :
 (eqGuard op t x y u v).run P w = .ok () w := by
 unfold eqGuard
 generalize (!(op matches .eql | .neq)) = c
 cases c
 · simp only [Bool.false_eq_true, if_false]
   split
   · have := h2 rfl rfl
     rcases (Bool.or_eq_true _ _).mp this with h | h
     · cases x <;> first | rfl | cases h
     · cases y <;> first | (cases x <;> rfl) | cases h
   · exact (h1 _ _ rfl rfl).elim
   · rfl
 · rfl

theorem guarded {op : BinOp} {t : TypeId} {x y : Operand} {u v z : Value} (h1 : ∀ a b, u = .agg a → v = .agg b → False) (h2 : u = .nilIface → v = .nilIface → (isNilIface x || isNilIface y) = true)
 (hz : (binOp op t u v).run P w = .ok z w) : ((do eqGuard op t x y u v; binOp op t u v : Sem Value)).run P w = .ok z w := by
 simp only [Sem.run_bind]
 rw [run_eqGuard_other h1 h2]
 exact hz

theorem equal_sound {op : BinOp} {t : TypeId} {x y : Operand} {u v : Value} {b : Bool} {r : AV} (h1 : ∀ a b, u = .agg a → v = .agg b → False) (h2 : u = .nilIface → v = .nilIface → (isNilIface x || isNilIface y) = true)
 (he : (Op.equal t u v).run P w = .ok b w) (e1 : binOp .eql t u v = (do pure (.bool (← Op.equal t u v)))) (e2 : binOp .neq t u v = (do pure (.bool (!(← Op.equal t u v)))))
 (hc : cmpE op (some b) = some r) : ∃ z, ((do eqGuard op t x y u v; binOp op t u v : Sem Value)).run P w = .ok z w ∧ Rep G w z r := by
 obtain ⟨b', hb', hc⟩ := cmp_some hc
 injection hb' with hb'; subst hb'
 rcases hc with ⟨rfl, rfl⟩ | ⟨rfl, rfl⟩
 · exact ⟨.bool b, guarded h1 h2 (by rw [e1]; simp [he]), rep_bool _⟩
 · exact ⟨.bool (!b), guarded h1 h2 (by rw [e2]; simp [he]), rep_bool _⟩

theorem bk_bool {t : TypeId} {x y : Operand} (h : bkOf P t x y = .bool) : P.underlying t = some .bool := by
 unfold bkOf at h; split at h <;> first | assumption | (cases h; done) | (split at h <;> cases h)
theorem bk_iface {t : TypeId} {x y : Operand} {b : Bool} (h : bkOf P t x y = .iface b) : (∃ ms, P.underlying t = some (.interface ms)) ∧ b = (isNilIface x || isNilIface y) := by
 unfold bkOf at h; split at h <;> first | (injection h with h; exact ⟨⟨_, by assumption⟩, h.symm⟩) | (cases h; done) | (split at h <;> cases h)
theorem bk_ptr {t : TypeId} {x y : Operand} (h : bkOf P t x y = .ptr) : ∃ e, P.underlying t = some (.pointer e) := by
 unfold bkOf at h; split at h <;> first | exact ⟨_, by assumption⟩ | (cases h; done) | (split at h <;> cases h)
theorem bk_flat {t : TypeId} {x y : Operand} {ks : List FK} (h : bkOf P t x y = .flat ks) : flat P t = some ks := by
 unfold bkOf at h; split at h <;> first | (cases h; done) | (split at h <;> first | (injection h with h; subst h; assumption) | cases h)
theorem bk_slice {t : TypeId} {x y : Operand} {b : Bool} (h : bkOf P t x y = .slice b) : (∃ e, P.underlying t = some (.slice e)) ∧ b = isNilSlice y := by
 unfold bkOf at h; split at h <;> first | (injection h with h; exact ⟨⟨_, by assumption⟩, h.symm⟩) | (cases h; done) | (split at h <;> cases h)
theorem eqS_vn (w : World) (d : Nat) {t e : TypeId} {x : Addr} {l c l' c' : Nat} (h : P.underlying t = some (.slice e)) : (Op.equalIn (d + 1) t (.slice (some x) l c) (.slice none l' c')).run P w = .ok false w := by simp [Op.equalIn, run_underlying h]
theorem isByteT_spec {t : TypeId} (h : isByteT P t = true) : P.underlying t = some (.int .u8) := by unfold isByteT at h; split at h <;> first | assumption | cases h

theorem eqI_nn (w : World) (d : Nat) {t : TypeId} {ms : Array (String × TypeId)} (h : P.underlying t = some (.interface ms)) : (Op.equalIn (d + 1) t .nilIface .nilIface).run P w = .ok true w := by simp [Op.equalIn, run_underlying h]
theorem eqI_vn (w : World) (d : Nat) {t u : TypeId} {v : Value} {ms : Array (String × TypeId)} (h : P.underlying t = some (.interface ms)) : (Op.equalIn (d + 1) t (.iface u v) .nilIface).run P w = .ok false w := by simp [Op.equalIn, run_underlying h]
theorem eqI_nv (w : World) (d : Nat) {t u : TypeId} {v : Value} {ms : Array (String × TypeId)} (h : P.underlying t = some (.interface ms)) : (Op.equalIn (d + 1) t .nilIface (.iface u v)).run P w = .ok false w := by simp [Op.equalIn, run_underlying h]
theorem eqP_nn (w : World) (d : Nat) {t : TypeId} {e : TypeId} (h : P.underlying t = some (.pointer e)) : (Op.equalIn (d + 1) t (.pointer none) (.pointer none)).run P w = .ok true w := by simp [Op.equalIn, run_underlying h]
theorem eqP_vn (w : World) (d : Nat) {t : TypeId} {e : TypeId} {x : Addr} (h : P.underlying t = some (.pointer e)) : (Op.equalIn (d + 1) t (.pointer (some x)) (.pointer none)).run P w = .ok false w := by simp [Op.equalIn, run_underlying h]
theorem eqP_nv (w : World) (d : Nat) {t : TypeId} {e : TypeId} {x : Addr} (h : P.underlying t = some (.pointer e)) : (Op.equalIn (d + 1) t (.pointer none) (.pointer (some x))).run P w = .ok false w := by simp [Op.equalIn, run_underlying h]

theorem bin_sound {op : BinOp} {t : TypeId} {x y : Operand} {u v : Value} {au av r : AV} (hu : Rep G w u au) (hv : Rep G w v av) (hyc : ∀ c, y = .const c → v = c) (h : binE P op t x y au av = some r) :
 ∃ z, ((do eqGuard op t x y u v; binOp op t u v : Sem Value)).run P w = .ok z w ∧ Rep G w z r := by
 unfold binE bop at h
 split at h
 · obtain ⟨rfl, _⟩ := hu.inv_sc
   obtain ⟨rfl, _⟩ := hv.inv_sc
   obtain ⟨z, hz, hr⟩ := int_sound (P := P) (w := w) (G := G) (t := t) h
   exact ⟨z, guarded (by intro a b h; cases h) (by intro h; cases h) hz, hr⟩
 · obtain ⟨rfl, _⟩ := hu.inv_sc
   obtain ⟨rfl, _⟩ := hv.inv_sc
   obtain ⟨z, hz, hr⟩ := str_sound (P := P) (w := w) (G := G) (t := t) h
   exact ⟨z, guarded (by intro a b h; cases h) (by intro h; cases h) hz, hr⟩
 · obtain ⟨rfl, _⟩ := hu.inv_sc
   obtain ⟨rfl, _⟩ := hv.inv_sc
   split at h
   · rename_i hc
     have hb := bk_bool hc
     exact equal_sound (by intro a b h; cases h) (by intro h; cases h) (run_equal_bool w t _ _ hb) rfl rfl h
   · cases h
 · rename_i xs ys
   split at h
   · rename_i ks hf
     have hf := bk_flat hf
     obtain ⟨hu', hfl, hst, hg⟩ := flat_spec hf
     obtain ⟨vs, rfl, hl1, _, hr1⟩ := hu.inv_agg
     obtain ⟨us, rfl, hl2, _, hr2⟩ := hv.inv_agg
     obtain ⟨b, hb, hc⟩ := cmp_some h
     have key := cellsEq_run (P := P) (w := w) (G := G) (d := 9998) (vs := vs.toArray) (us := us.toArray) (P.fieldsOf t).toList 0 ks xs ys b hfl (by simpa using hl1.symm) (by simpa using hl2.symm)
      (fun i hi => by simpa [List.getD_eq_getElem?_getD] using hr1 i hi) (fun i hi => by simpa [List.getD_eq_getElem?_getD] using hr2 i hi) hb
     have e := run_equalIn_struct (P := P) w 9999 t vs.toArray us.toArray hu' hst
     rcases hc with ⟨rfl, rfl⟩ | ⟨rfl, rfl⟩
     · exact ⟨.bool b, by simp only [Sem.run_bind, run_eqGuard_agg w _ t x y _ _ hg, Result.andThen_ok, run_eql_struct, e, key], rep_bool _⟩
     · exact ⟨.bool (!b), by simp only [Sem.run_bind, run_eqGuard_agg w _ t x y _ _ hg, Result.andThen_ok, run_neq_struct, e, key], rep_bool _⟩
   · cases h
 · obtain ⟨rfl, _⟩ := hu.inv_sc
   obtain ⟨rfl, _⟩ := hv.inv_sc
   split at h
   · rename_i hc
     obtain ⟨⟨ms, hms⟩, hc1⟩ := bk_iface hc
     exact equal_sound (b := true) (by intro a b h; cases h) (fun _ _ => hc1.symm) (eqI_nn w 9999 hms) rfl rfl h
   · cases h
 · obtain ⟨v1, rfl, -⟩ : ∃ v1, u = .iface _ v1 ∧ True := by cases hu; exact ⟨_, rfl, trivial⟩
   obtain ⟨rfl, _⟩ := hv.inv_sc
   split at h
   · rename_i hc
     obtain ⟨⟨ms, hms⟩, _⟩ := bk_iface hc
     exact equal_sound (b := false) (by intro a b h; cases h) (by intro h; cases h) (eqI_vn w 9999 hms) rfl rfl h
   · cases h
 · obtain ⟨v1, rfl, -⟩ : ∃ v1, v = .iface _ v1 ∧ True := by cases hv; exact ⟨_, rfl, trivial⟩
   obtain ⟨rfl, _⟩ := hu.inv_sc
   split at h
   · rename_i hc
     obtain ⟨⟨ms, hms⟩, _⟩ := bk_iface hc
     exact equal_sound (b := false) (by intro a b h; cases h) (by intro _ h; cases h) (eqI_nv w 9999 hms) rfl rfl h
   · cases h
 · obtain ⟨rfl, _⟩ := hu.inv_sc
   obtain ⟨rfl, _⟩ := hv.inv_sc
   split at h
   · rename_i hc
     obtain ⟨ms, hms⟩ := bk_ptr hc
     exact equal_sound (b := true) (by intro a b h; cases h) (by intro h; cases h) (eqP_nn w 9999 hms) rfl rfl h
   · cases h
 · obtain ⟨rfl, _⟩ := hu.inv_ptr
   obtain ⟨rfl, _⟩ := hv.inv_sc
   split at h
   · rename_i hc
     obtain ⟨ms, hms⟩ := bk_ptr hc
     exact equal_sound (b := false) (by intro a b h; cases h) (by intro h; cases h) (eqP_vn w 9999 hms) rfl rfl h
   · cases h
 · obtain ⟨rfl, _⟩ := hv.inv_ptr
   obtain ⟨rfl, _⟩ := hu.inv_sc
   split at h
   · rename_i hc
     obtain ⟨ms, hms⟩ := bk_ptr hc
     exact equal_sound (b := false) (by intro a b h; cases h) (by intro h; cases h) (eqP_nv w 9999 hms) rfl rfl h
   · cases h
 · obtain ⟨_, _, _, rfl, _⟩ := hu.inv_cp
   obtain ⟨rfl, _⟩ := hv.inv_sc
   split at h
   · rename_i hc
     obtain ⟨ms, hms⟩ := bk_ptr hc
     exact equal_sound (b := false) (by intro a b h; cases h) (by intro h; cases h) (eqP_vn w 9999 hms) rfl rfl h
   · cases h
 · obtain ⟨_, _, _, rfl, _⟩ := hv.inv_cp
   obtain ⟨rfl, _⟩ := hu.inv_sc
   split at h
   · rename_i hc
     obtain ⟨ms, hms⟩ := bk_ptr hc
     exact equal_sound (b := false) (by intro a b h; cases h) (by intro h; cases h) (eqP_nv w 9999 hms) rfl rfl h
   · cases h
 · split at h
   · rename_i hc
     obtain ⟨⟨e, he⟩, hn⟩ := bk_slice hc
     have hv' : ∃ l c, v = .slice none l c := by
      unfold isNilSlice at hn
      split at hn
      · exact ⟨_, _, hyc _ rfl⟩
      · cases hn
     obtain ⟨l, c, rfl⟩ := hv'
     have hu' : ∃ a l c, u = .slice (some a) l c := by cases hu; exact ⟨_, _, _, rfl⟩
     obtain ⟨a, l', c', rfl⟩ := hu'
     exact equal_sound (b := false) (by intro a b h; cases h) (by intro h; cases h) (eqS_vn w 9999 he) rfl rfl h
   · cases h
 · cases h

theorem eqS_nn (w : World) (d : Nat) {t e : TypeId} {l c l' c' : Nat} (h : P.underlying t = some (.slice e)) : (Op.equalIn (d + 1) t (.slice none l c) (.slice none l' c')).run P w = .ok true w := by simp [Op.equalIn, run_underlying h]
theorem nilS_sound {t : TypeId} {x y : Operand} {u v : Value} {au : AV} {K : AV → Prop} (hu : Rep G w u au) (hv : ∃ l c, v = .slice none l c) (ht : ∃ e, P.underlying t = some (.slice e)) (h : nilK au K) :
 ∃ b, ((do eqGuard .eql t x y u v; binOp .eql t u v : Sem Value)).run P w = .ok (.bool b) w ∧ K (B b) := by
 obtain ⟨e, he⟩ := ht
 obtain ⟨l, c, rfl⟩ := hv
 have key : ∀ (base : Option Addr) (l' c' : Nat), ((do eqGuard .eql t x y (.slice base l' c') (.slice none l c); binOp .eql t (.slice base l' c') (.slice none l c) : Sem Value)).run P w = .ok (.bool base.isNone) w := fun base l' c' => by
  have he2 : (Op.equal t (.slice base l' c') (.slice none l c)).run P w = .ok base.isNone w := by
   cases base with
   | none => exact eqS_nn w 9999 he
   | some a => exact eqS_vn w 9999 he
  exact guarded (by intro a b h; cases h) (by intro h; cases h) (by
   have e1 : binOp .eql t (.slice base l' c') (.slice none l c) = (do pure (.bool (← Op.equal t (.slice base l' c') (.slice none l c)))) := rfl
   rw [e1]; simp [he2])
 unfold nilK at h
 split at h
 · cases hu with
   | nil => exact ⟨true, key none 0 0, h.1⟩
   | lst b off cap => exact ⟨false, key _ _ _, h.2⟩
 · cases hu with
   | lst b off cap => exact ⟨false, key _ _ _, h⟩
 · cases hu with
   | ms => exact ⟨false, key _ _ _, h⟩
 · exact h.elim

end Go.Av
