/- The rest of the operations that leave the abstract heap alone; all of them in one theorem. -/
import Derived.Test.YtninikfblhoieaaGreatDoorAv8
set_option linter.all false

namespace Go.Av
open Go Go.RowKit

variable {E : Env} {Γ : Nat → Option AV} {G : Ghost} {H H' : Heap} {w : World} {a : Act} {T : Tm} {P : Program}

theorem bytes_conv : ∀ (es : List AV) (l : List UInt8), bytesOf? es = some l → ∃ ns : List Int, es = ns.map (fun n => AV.sc (.int .u8 n)) ∧ l = ns.map (fun n => UInt8.ofNat n.toNat) := by
 intro es
 induction es with
 | nil => intro l h; simp only [bytesOf?, Option.some.injEq] at h; subst h; exact ⟨[], rfl, rfl⟩
 | cons e es ih =>
   intro l h
   unfold bytesOf? at h
   split at h
   · cases ‹e :: es = []›
   · rename_i n r heq
     injection heq with h1 h2
     subst h1 h2
     obtain ⟨l', hl', rfl⟩ := Option.map_eq_some_iff.1 h
     obtain ⟨ns, h3, h4⟩ := ih l' hl'
     exact ⟨n :: ns, by rw [h3]; rfl, by rw [h4]; rfl⟩
   · cases h

theorem ck_toInt {src dst : TypeId} {k : IntKind} (h : ckOf P src dst = .toInt k) : (∃ d, P.underlying src = some d) ∧ P.underlying dst = some (.int k) := by
 unfold ckOf at h
 split at h <;> first | (injection h with h; subst h; exact ⟨⟨_, by assumption⟩, by assumption⟩) | (cases h; done) | (rename_i e _ _; cases hb : isByteT P e <;> rw [hb] at h <;> cases h)
theorem ck_toFloat {src dst : TypeId} {k : FloatKind} (h : ckOf P src dst = .toFloat k) : (∃ d, P.underlying src = some d) ∧ P.underlying dst = some (.float k) := by
 unfold ckOf at h
 split at h <;> first | (injection h with h; subst h; exact ⟨⟨_, by assumption⟩, by assumption⟩) | (cases h; done) | (rename_i e _ _; cases hb : isByteT P e <;> rw [hb] at h <;> cases h)
theorem ck_toStr {src dst : TypeId} (h : ckOf P src dst = .toStr) : ∃ e, P.underlying src = some (.slice e) ∧ P.underlying dst = some .string ∧ P.underlying e = some (.int .u8) := by
 unfold ckOf at h
 split at h <;> first | (cases h; done) | (rename_i e h1 h2; cases hb : isByteT P e <;> rw [hb] at h <;> first | (cases h; done) | exact ⟨e, h1, h2, isByteT_spec hb⟩)
theorem ck_str {src dst : TypeId} (h : ckOf P src dst = .str) : P.underlying src = some .string ∧ P.underlying dst = some .string := by
 unfold ckOf at h
 split at h <;> first | (cases h; done) | exact ⟨by assumption, by assumption⟩ | (rename_i e _ _; cases hb : isByteT P e <;> rw [hb] at h <;> cases h)

theorem conv_sound {src dst : TypeId} {x : Value} {ax r : AV} (hx : Rep G w x ax) (h : convE P src dst ax = some r) : ∃ v, (convert src dst x).run P w = .ok v w ∧ Rep G w v r := by
 unfold convE cv at h
 split at h
 · rename_i k k' n hck
   obtain ⟨⟨d, hs⟩, hd⟩ := ck_toInt hck
   obtain ⟨rfl, _⟩ := hx.inv_sc
   injection h with h; subst h
   refine ⟨_, ?_, rep_int _ _⟩
   simp only [convert, Sem.run_bind, run_underlying hs, run_underlying hd, Result.andThen_ok]
   cases d <;> rfl
 · rename_i k k' n hck
   obtain ⟨⟨d, hs⟩, hd⟩ := ck_toFloat hck
   obtain ⟨rfl, _⟩ := hx.inv_sc
   injection h with h; subst h
   refine ⟨_, ?_, .sc _ rfl⟩
   simp only [convert, Sem.run_bind, run_underlying hs, run_underlying hd, Result.andThen_ok]
   cases d <;> rfl
 · rename_i s es p hck
   obtain ⟨e, hs, hd, he⟩ := ck_toStr hck
   split at h <;> try (cases h; done)
   rename_i hc
   obtain ⟨l, hl, rfl⟩ := Option.map_eq_some_iff.1 h
   obtain ⟨ns, rfl, rfl⟩ := bytes_conv es l hl
   refine ⟨_, ?_, rep_str _⟩
   rcases hx.inv_lst with ⟨rfl, h0⟩ | ⟨b, off, cap, vs, rfl, h1, h2, h3, h4, h5, h6, _⟩
   · have : ns = [] := by simpa using h0
     subst this
     rw [run_convert_bytes_nil w src e hs he 0 0 dst hd]; rfl
   · have hcells : ∀ l : List Int, (l.map (fun n => AV.sc (.int .u8 n))).flatMap AV.cells = l.map (fun n => AV.sc (.int .u8 n)) := by
      intro l
      induction l with
      | nil => rfl
      | cons n ns ih => rw [List.map_cons, List.flatMap_cons, ih]; rfl
     rw [hcells] at h5
     simp only [List.length_map] at h4 h5 hc ⊢
     have hsl : s = 1 ∨ ns = [] := by rcases hc with h | h <;> simp_all
     have hsl' : ns.length * s = ns.length := by rcases hsl with rfl | rfl <;> simp
     rw [hsl'] at h4 h5
     refine (run_convert_bytes_arg w src e hs he b off ns.length cap ns rfl (fun i hi => ?_) dst hd).trans rfl
     have h6 := h5 i hi
     have : (ns.map (fun n => AV.sc (.int .u8 n))).getD i .dead = .sc (.int .u8 (ns.getD i 0)) := by
      simp [List.getD_eq_getElem?_getD, List.getElem?_eq_getElem hi]
     rw [this] at h6
     rw [h4 i hi, h6.inv_sc.1]
 · rename_i s hck
   obtain ⟨hs, hd⟩ := ck_str hck
   obtain ⟨rfl, _⟩ := hx.inv_sc
   injection h with h; subst h
   refine ⟨_, ?_, rep_str _⟩
   simp only [convert, Sem.run_bind, run_underlying hs, run_underlying hd, Result.andThen_ok]
   rfl
 · cases h

theorem extract_sound {t : Value} {at' r : AV} {i : Nat} (ht : Rep G w t at') (h : extractE at' i = some r) : ∃ v, (Instr.extract t i).run P w = .ok v w ∧ Rep G w v r := by
 unfold extractE at h
 split at h <;> try (cases h; done)
 rename_i cs
 obtain ⟨vs, rfl, hl, hr⟩ := ht.inv_tup
 obtain ⟨hlt, _⟩ := List.getElem?_eq_some_iff.1 h
 have := hr i hlt
 rw [getD_of_getElem? h] at this
 refine ⟨vs.getD i undef, ?_, this⟩
 have e : vs.toArray[i]? = some (vs.getD i undef) := by simp [List.getD_eq_getElem?_getD, List.getElem?_eq_getElem (show i < vs.length by omega)]
 simp only [Instr.extract, e]
 rfl

theorem len_sound {ts : Array TypeId} {ty : TypeId} {x : Value} {ax r : AV} {xs : Array Value} {t : TypeId} (ht : ts[0]? = some t) (hx0 : xs[0]? = some x) (hx : Rep G w x ax) (h : lenE P t ax = some r) :
 ∃ v, (Builtin.len_ ts ty xs).run P w = .ok v w ∧ Rep G w v r := by
 unfold lenE at h
 split at h
 · rename_i hu
   unfold lns at h
   split at h <;> try (cases h; done)
   obtain ⟨rfl, _⟩ := hx.inv_sc
   injection h with h; subst h
   exact ⟨_, by simp only [Builtin.len_, ht, hx0, Sem.run_bind, run_underlying hu, Result.andThen_ok, Sem.run_pure, goInt], rep_int _ _⟩
 · rename_i e hu
   unfold lnl at h
   split at h <;> try (cases h; done)
   · injection h with h; subst h
     rcases hx.inv_lst with ⟨rfl, rfl⟩ | ⟨b, off, cap, vs, rfl, _⟩
     · exact ⟨_, by simp only [Builtin.len_, ht, hx0, Sem.run_bind, run_underlying hu, Result.andThen_ok, Sem.run_pure, goInt]; rfl, rep_int _ _⟩
     · exact ⟨_, by simp only [Builtin.len_, ht, hx0, Sem.run_bind, run_underlying hu, Result.andThen_ok, Sem.run_pure, goInt], rep_int _ _⟩
   · obtain ⟨rfl, _⟩ := hx.inv_ms
     injection h with h; subst h
     exact ⟨_, by simp only [Builtin.len_, ht, hx0, Sem.run_bind, run_underlying hu, Result.andThen_ok, Sem.run_pure, goInt], rep_int _ _⟩
   · injection h with h; subst h
     cases hx
     exact ⟨_, by simp only [Builtin.len_, ht, hx0, Sem.run_bind, run_underlying hu, Result.andThen_ok, Sem.run_pure, goInt], rep_int _ _⟩
 · rename_i n e hu
   injection h with h; subst h
   exact ⟨_, by simp only [Builtin.len_, ht, hx0, Sem.run_bind, run_underlying hu, Result.andThen_ok, Sem.run_pure, goInt], rep_int _ _⟩
 · cases h

theorem cap_sound {ts : Array TypeId} {ty : TypeId} {x : Value} {ax r : AV} {xs : Array Value} {t : TypeId} (ht : ts[0]? = some t) (hx0 : xs[0]? = some x) (hx : Rep G w x ax) (h : capE P t ax = some r) :
 ∃ v, (Builtin.cap_ ts ty xs).run P w = .ok v w ∧ Rep G w v r := by
 unfold capE at h
 split at h <;> try (cases h; done)
 rename_i e hu
 unfold cpl at h
 split at h <;> try (cases h; done)
 · rename_i s es
   injection h with h; subst h
   rcases hx.inv_lst with ⟨rfl, rfl⟩ | ⟨b, off, cap, vs, rfl, _, _, _, _, _, _, hp⟩
   · exact ⟨_, by simp only [Builtin.cap_, ht, hx0, Sem.run_bind, run_underlying hu, Result.andThen_ok, Sem.run_pure, goInt]; rfl, rep_int _ _⟩
   · have : cap = es.length := hp
     subst this
     exact ⟨_, by simp only [Builtin.cap_, ht, hx0, Sem.run_bind, run_underlying hu, Result.andThen_ok, Sem.run_pure, goInt], rep_int _ _⟩
 · rename_i o off len cap
   obtain ⟨rfl, _⟩ := hx.inv_ms
   injection h with h; subst h
   exact ⟨_, by simp only [Builtin.cap_, ht, hx0, Sem.run_bind, run_underlying hu, Result.andThen_ok, Sem.run_pure, goInt], rep_int _ _⟩

theorem fold_sound {fv : Value → Value → Sem Value} {fa : AV → AV → Option AV} (hf : ∀ x y ax ay r, Rep G w x ax → Rep G w y ay → fa ax ay = some r → ∃ v, (fv x y).run P w = .ok v w ∧ Rep G w v r) :
 ∀ (vs : List Value) (as : List AV), vs.length = as.length → (∀ i, i < as.length → Rep G w (vs.getD i undef) (as.getD i .dead)) → ∀ x ax r, Rep G w x ax → foldE fa ax as = some r →
   ∃ v, (vs.foldlM fv x).run P w = .ok v w ∧ Rep G w v r := by
 intro vs
 induction vs with
 | nil =>
   intro as hl _ x ax r hx h
   cases as with
   | nil => simp only [foldE, Option.some.injEq] at h; subst h; exact ⟨x, rfl, hx⟩
   | cons => simp at hl
 | cons y ys ih =>
   intro as hl hr x ax r hx h
   cases as with
   | nil => simp at hl
   | cons ay ays =>
     simp only [foldE] at h
     obtain ⟨z, hz, h⟩ := Option.bind_eq_some_iff.1 h
     obtain ⟨v, hv, hvr⟩ := hf x y ax ay z hx (by simpa using hr 0 (by simp)) hz
     obtain ⟨u, hu, hur⟩ := ih ays (by simpa using hl) (fun i hi => by simpa using hr (i + 1) (by simpa using hi)) v z r hvr h
     exact ⟨u, by simp only [List.foldlM_cons, Sem.run_bind, hv, Result.andThen_ok, hu], hur⟩

theorem max2_sound {x y : Value} {ax ay r : AV} (hx : Rep G w x ax) (hy : Rep G w y ay) (h : max2E ax ay = some r) : ∃ v, (Builtin.max2 x y).run P w = .ok v w ∧ Rep G w v r := by
 unfold max2E at h
 split at h <;> try (cases h; done)
 obtain ⟨rfl, _⟩ := hx.inv_sc
 obtain ⟨rfl, _⟩ := hy.inv_sc
 injection h with h; subst h
 exact ⟨_, rfl, rep_int _ _⟩
theorem min2_sound {x y : Value} {ax ay r : AV} (hx : Rep G w x ax) (hy : Rep G w y ay) (h : min2E ax ay = some r) : ∃ v, (Builtin.min2 x y).run P w = .ok v w ∧ Rep G w v r := by
 unfold min2E at h
 split at h <;> try (cases h; done)
 obtain ⟨rfl, _⟩ := hx.inv_sc
 obtain ⟨rfl, _⟩ := hy.inv_sc
 injection h with h; subst h
 exact ⟨_, rfl, rep_int _ _⟩

theorem nil_sound {x : Value} {ax r : AV} (hx : Rep G w x ax) (h : nilE ax = some r) : r = ax ∧ ((∃ p, x = .pointer (some p)) ∨ ∃ f c d, x = .func (.func f) c d) := by
 unfold nilE at h
 split at h <;> try (cases h; done)
 · injection h with h; obtain ⟨rfl, _⟩ := hx.inv_ptr; exact ⟨h.symm, .inl ⟨_, rfl⟩⟩
 · injection h with h; obtain ⟨_, _, _, rfl, _⟩ := hx.inv_cp; exact ⟨h.symm, .inl ⟨_, rfl⟩⟩
 · injection h with h; obtain ⟨_, _, rfl, _⟩ := hx.inv_fn; exact ⟨h.symm, .inr ⟨_, _, _, rfl⟩⟩

theorem mif_sound {t : TypeId} {x : Value} {ax r : AV} (hx : Rep G w x ax) (h : mifE P t ax = some r) : ∃ v, (Instr.makeInterface t x).run P w = .ok v w ∧ Rep G w v r := by
 unfold mifE at h
 split at h
 · cases h
 · cases h
 · rename_i o hu1 hu2
   injection h with h; subst h
   cases hd : P.underlying t with
   | none => exact (hu2 hd).elim
   | some d =>
     refine ⟨.iface t x, ?_, .ifc t x ax hx⟩
     simp only [Instr.makeInterface, Sem.run_bind, run_underlying hd, Result.andThen_ok]
     cases d <;> first | rfl | exact (hu1 _ hd).elim


theorem getD_map_ev (f : Operand → Value) (g : Operand → AV) (hfg : ∀ x, Rep G w (f x) (g x)) (xs : List Operand) : ∀ i, i < (xs.map g).length → Rep G w ((xs.map f).getD i undef) ((xs.map g).getD i .dead) := by
 intro i hi
 simp only [List.length_map] at hi
 simp only [List.getD_eq_getElem?_getD, List.getElem?_map, List.getElem?_eq_getElem hi, Option.map_some, Option.getD_some]
 exact hfg _

theorem repO_map (f : Operand → Value) (g : Operand → AV) (hfg : ∀ x, Rep G w (f x) (g x)) (o : Option Operand) : RepO G w (o.map f) (o.map g) := by
 cases o with
 | none => exact ⟨rfl, by intro v av h; cases h⟩
 | some x => refine ⟨rfl, fun v av h1 h2 => ?_⟩; injection h1 with h1; injection h2 with h2; subst h1 h2; exact hfg x

theorem asBool_run (b : Bool) (w : World) : (asBool (.bool b)).run P w = .ok b w := rfl

theorem ro_sound {o : Oper} {r : AV} (hW : WRel E.Γ G H' w) (hl : H ≤ H') (hT : TRel E G w a T) (h : roE E T H o.op = some r) :
 ∃ v w' G', (execOp a.eval o).run E.P w = .ok (.value v) w' ∧ Ext G w G' w' ∧ WRel E.Γ G' H' w' ∧ Rep G' w' v r := by
 have hev := rep_ev hW hT
 have fin : ∀ {s : Sem Value}, execOp a.eval o = (do pure (.value (← s))) → (∃ v, s.run E.P w = .ok v w ∧ Rep G w v r) → ∃ v w' G', (execOp a.eval o).run E.P w = .ok (.value v) w' ∧ Ext G w G' w' ∧ WRel E.Γ G' H' w' ∧ Rep G' w' v r := by
  intro s hs ⟨v, h1, h2⟩
  exact ⟨v, w, G, by rw [hs]; simp only [Sem.run_bind, h1, Result.andThen_ok, Sem.run_pure], Ext.refl _ _, hW, h2⟩
 obtain ⟨dst, op, type, pos, after, guard⟩ := o
 simp only at h fin ⊢
 cases op with
 | move x => injection h with h; subst h; exact fin (s := pure (a.eval x)) rfl ⟨_, rfl, hev x⟩
 | assign x => injection h with h; subst h; exact fin (s := pure (a.eval x)) rfl ⟨_, rfl, hev x⟩
 | pick c x y =>
   simp only [roE, pickE] at h
   split at h <;> try (cases h; done)
   rename_i b hb
   injection h with h; subst h
   have hc := hev c
   rw [hb] at hc
   refine fin (s := do pure (if ← asBool (a.eval c) then a.eval x else a.eval y)) ?_ ⟨_, by rw [hc.inv_sc.1]; simp only [Sem.run_bind, asBool_run, Result.andThen_ok, Sem.run_pure]; rfl, ?_⟩
   · show (do pure (.value (if ← asBool (a.eval c) then a.eval x else a.eval y)) : Sem Next) = _
     simp
   · cases b
     · exact hev y
     · exact hev x
 | build t ps => exact fin rfl (build_sound hev h)
 | buildSlice t n ps =>
   obtain ⟨v, w', G', h1, h2, h3, h4⟩ := buildSlice_sound hW hev h
   exact ⟨v, w', G', by simp only [execOp, Sem.run_bind, h1, Result.andThen_ok, Sem.run_pure], h2, h3, h4⟩
 | load t x => exact fin rfl (load_sound hW hl (hev x) h)
 | nilCheck x =>
   obtain ⟨rfl, hx⟩ := nil_sound (hev x) h
   refine fin (s := pure (a.eval x)) ?_ ⟨_, rfl, hev x⟩
   rcases hx with ⟨p, e⟩ | ⟨f, c, d, e⟩ <;> simp only [execOp, e] <;> rfl
 | binOp op t x y t2 => exact fin rfl (bin_sound (hev x) (hev y) (fun c e => by subst e; rfl) h)
 | unOp op t x => exact fin rfl (un_sound (hev x) h)
 | convert s d x => exact fin rfl (conv_sound (hev x) h)
 | slice t x lo hi mx =>
   simp only [roE] at h
   cases hc : (mx.isSome && hi.isNone) with
   | true => rw [hc] at h; cases h
   | false =>
   rw [hc] at h
   refine fin rfl (slice_sound (hev x) (repO_map _ _ hev lo) (repO_map _ _ hev hi) (repO_map _ _ hev mx) ?_ h)
   intro hm
   cases mx with
   | none => cases hm
   | some m =>
     cases hi with
     | none => cases hc
     | some v => rfl
 | fieldAddr t x i => exact fin rfl (fa_sound (hev x) h)
 | field t x i => exact fin rfl (field_sound (hev x) h)
 | indexAddr t x i => exact fin rfl (ia_sound (hev x) (hev i) h)
 | index t x i => exact fin rfl (ix_sound (hev x) (hev i) h)
 | extract t i => exact fin rfl (extract_sound (hev t) h)
 | makeInterface t x => exact fin rfl (mif_sound (hev x) h)
 | makeFunc fn x y =>
   injection h with h; subst h
   refine fin (s := pure (.func fn (x.map a.eval) (y.map a.eval))) rfl ⟨_, rfl, ?_⟩
   have := Rep.fn (G := G) (w := w) fn (x.toList.map a.eval) (y.toList.map a.eval) (x.toList.map (ev E T)) (y.toList.map (ev E T)) (by simp) (by simp) (getD_map_ev _ _ hev _) (getD_map_ev _ _ hev _)
   have e : ∀ z : Array Operand, (z.toList.map a.eval).toArray = z.map a.eval := fun z => by
    apply Array.ext'
    simp
   rw [e, e] at this
   exact this
 | call c =>
   obtain ⟨callee, args, ts⟩ := c
   cases callee with
   | value f => cases h
   | invoke r m => cases h
   | builtin b =>
     simp only [roE, biE] at h
     have hex : ∀ (bt : Builtin), execOp a.eval ⟨dst, .call ⟨.builtin bt, args, ts⟩, type, pos, after, guard⟩ = builtin bt ts type (args.map fun | .const _ => true | _ => false) (args.map a.eval) := fun bt => rfl
     have hfold : ∀ (fv : Value → Value → Sem Value) (fa : AV → AV → Option AV) (bt : Sem Value), (∀ x y ax ay r, Rep G w x ax → Rep G w y ay → fa ax ay = some r → ∃ v, (fv x y).run E.P w = .ok v w ∧ Rep G w v r) →
      bt = (match (args.map a.eval).toList with | [] => stuck "x" | x :: rest => rest.foldlM fv x) ∨ (∀ x rest, (args.map a.eval).toList = x :: rest → bt = rest.foldlM fv x) →
      (match args.toList.map (ev E T) with | x :: r => foldE fa x r | [] => none) = some r → ∃ v, bt.run E.P w = .ok v w ∧ Rep G w v r := by
      intro fv fa bt hf hbt hr
      have hargs := getD_map_ev a.eval (ev E T) hev args.toList
      have hlist : (args.map a.eval).toList = args.toList.map a.eval := by simp
      cases hl2 : args.toList with
      | nil => rw [hl2] at hr; cases hr
      | cons x rest =>
        rw [hl2] at hr hlist hargs
        simp only [List.map_cons] at hr hlist hargs
        have hbt' : bt = (rest.map a.eval).foldlM fv (a.eval x) := by
         rcases hbt with h | h
         · rw [h, hlist]
         · exact h _ _ hlist
        obtain ⟨v, h1, h2⟩ := fold_sound hf (rest.map a.eval) (rest.map (ev E T)) (by simp) (fun i hi => by
         have := hargs (i + 1) (by simpa using hi); simpa using this) (a.eval x) (ev E T x) r (hev x) hr
        exact ⟨v, by rw [hbt']; exact h1, h2⟩
     cases b <;> simp only [] at h <;> try (cases h; done)
     case len =>
      split at h <;> try (cases h; done)
      rename_i t ax rest ht hxs
      cases hl2 : args.toList with
      | nil => rw [hl2] at hxs; cases hxs
      | cons x xs =>
        rw [hl2] at hxs
        injection hxs with h1 h2
        subst h1
        have hx0 : (args.map a.eval)[0]? = some (a.eval x) := by
         have : args = (x :: xs).toArray := by rw [← hl2]
         rw [this]; simp
        exact fin rfl (len_sound ht hx0 (hev x) h)
     case cap =>
      split at h <;> try (cases h; done)
      rename_i t ax rest ht hxs
      cases hl2 : args.toList with
      | nil => rw [hl2] at hxs; cases hxs
      | cons x xs =>
        rw [hl2] at hxs
        injection hxs with h1 h2
        subst h1
        have hx0 : (args.map a.eval)[0]? = some (a.eval x) := by
         have : args = (x :: xs).toArray := by rw [← hl2]
         rw [this]; simp
        exact fin rfl (cap_sound ht hx0 (hev x) h)
     case max => exact fin rfl (hfold Builtin.max2 max2E _ (fun _ _ _ _ _ hx hy h => max2_sound hx hy h) (.inr fun x rest he => by simp only [Builtin.max_, he]) h)
     case min => exact fin rfl (hfold Builtin.min2 min2E _ (fun _ _ _ _ _ hx hy h => min2_sound hx hy h) (.inr fun x rest he => by simp only [Builtin.min_, he]) h)
 | _ => cases h

end Go.Av
