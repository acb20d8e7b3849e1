/- A range over a function: the rounds, the statement, the function that holds it. -/
import Derived.Test.YtninikfblhoieaaGreatDoorAv14
import Derived.RangeFuncLeaves
import Derived.RangeFuncIn
set_option linter.all false

namespace Go.Av
open Go Go.RowKit

variable {E : Env} {Γ : Nat → Option AV} {G : Ghost} {H H' : Heap} {w : World} {a : Act} {T : Tm} {P : Program}

def straight : Code → Bool
 | .skip => true
 | .region _ _ d => !d
 | .seq x y => straight x && straight y
 | .block _ c => straight c
 | _ => false

def normK (K : Tm → Heap → Prop) : Post
 | .normal, T, H => K T H
 | _, _, _ => False

theorem straight_sound {draw : Array Oper → Tm → Heap → (Tm → Heap → Prop) → Prop} {r : Option Nat} {n : Nat} (hl : ∀ k, E.live k = none) :
 ∀ (c : Code) (T : Tm) (H : Heap) (Q : Post) (G : Ghost) (a : Act) (w : World), straight c = true → awp E draw c T H Q → WRel E.Γ G H w → TRel E G w a T → c.wpIn (wideR r) n E.P (conc E G w Q) a w := by
 intro c
 induction c with
 | skip => intro T H Q G a w _ h hW hT; exact wpIn_skip ⟨G, T, H, Ext.refl _ _, hW, hT, h⟩
 | region id ops d =>
   intro T H Q G a w hs h hW hT
   cases d with
   | true => cases hs
   | false =>
     simp only [awp, cond_false] at h
     refine wpIn_region ?_
     have := opsY_sound (r := r) (n := n) (all := ops) (Q := conc E G w Q) ops.toList 0 [] T H G a w (Q .normal) (by simp) hW hT h (fun G' a' w' T' H' x hW' hT' hq => ⟨G', T', H', x, hW', hT', hq⟩)
     rwa [Array.length_toList, ← List.range_eq_range'] at this
 | seq x y ihx ihy =>
   intro T H Q G a w hs h hW hT
   simp only [straight, Bool.and_eq_true] at hs
   refine wpIn_seq ?_
   simp only [awp, hl] at h
   refine wpIn_mono (ihx T H _ G a w hs.1 h hW hT) ?_
   rintro e a' w' ⟨G', T', H', xt, hW', hT', hq⟩
   cases e with
   | normal => exact wpIn_mono (ihy T' H' Q G' a' w' hs.2 hq hW' hT') fun e a2 w2 h2 => conc_ext xt h2
   | _ => exact ⟨G', T', H', xt, hW', hT', hq⟩
 | block id c ih =>
   intro T H Q G a w hs h hW hT
   refine wpIn_block (wpIn_mono (ih T H _ G a w hs h hW hT) ?_)
   rintro e a' w' ⟨G', T', H', xt, hW', hT', hq⟩
   cases e with
   | exit i =>
     simp only [Exit.inBlock]
     simp only [blockK] at hq
     by_cases e : i = id
     · subst e; simp at hq; rw [if_pos rfl]; exact ⟨G', T', H', xt, hW', hT', hq⟩
     · rw [beq_ne e] at hq; rw [if_neg e]; exact ⟨G', T', H', xt, hW', hT', hq⟩
   | _ => exact ⟨G', T', H', xt, hW', hT', hq⟩
 | _ => intro T H Q G a w hs; cases hs

abbrev AObj.loop (r : Loop) (ts : Tm) : AObj := .raw (.loop r) r.tmps.toList ts
abbrev AObj.shut : AObj := .raw (.deferred (some [])) [] (fun _ => .dead)

theorem raw_get {o : Nat} {ob : Obj} {vs : List Value} {ts : Tm} (hW : WRel Γ G H w) (h : H o = some (.raw ob vs ts)) : w.heap[G.loc o]? = some ob ∧ G.used o = true ∧ ∀ i, Rep G w (vs.getD i undef) (ts i) := by
 obtain ⟨h1, h2, h3, h4, h5⟩ := hW.obj o _ h
 exact ⟨h4, h1, h5⟩

theorem raw_set {o : Nat} {ob : Obj} {vs : List Value} {ts : Tm} (hW : WRel Γ G H w) (h : H o = some (.raw ob vs ts)) (ob' : Obj) :
 Ext G w G (w.putObj (G.loc o) ob') ∧ WRel Γ G (H.upd o (.raw ob' vs ts)) (w.putObj (G.loc o) ob') := by
 obtain ⟨h1, h2, h3, h4, h5⟩ := hW.obj o _ h
 exact hW.setObj h rfl (x' := .raw ob' vs ts) rfl ob' (fun w' hw' xt => by
  subst hw'
  exact ⟨h2, h3, setBlock_heap_same w _ _ (Array.getElem?_eq_some_iff.1 h4).1, fun i => (h5 i).ext xt⟩)

theorem AYield.of_body {draw : Array Oper → Tm → Heap → (Tm → Heap → Prop) → Prop} {o p q : Nat} {rec : Loop} {x y : AV} {Tb : Tm} {R : AV → Heap → Prop} (hl : ∀ k, E.live k = none) (hds : E.defs = [])
 (hst : rec.state = .ready) (hpe : rec.pending = none) (hps : rec.params = #[p, q]) (hn : E.n ≤ rec.tmps.size) (hp : p < E.n) (hq : q < E.n) (h1 : straight rec.assign = true) (h2 : straight rec.body = true)
 (hH : H o = some (.loop rec T)) (hTb : ∀ i, Tb i = ((T.upd p x).upd q y) i ∨ Tb i = .dead)
 (h : awp E draw rec.assign Tb H (normK fun T2 H2 => H2 o = some (.loop rec T) ∧ awp E draw rec.body T2 (H2.upd o (.loop { rec with state := .busy } T)) (normK fun _ H3 => H3 o = some (.loop { rec with state := .busy } T) ∧ R (B true) (H3.upd o (.loop rec T))))) :
 AYield E.P E.Γ o [x, y] H R := by
 intro G w vs n hW hvl hr
 obtain ⟨hb, hu, ht⟩ := raw_get hW hH
 have hrun := run_yield (P := E.P) (args := vs.toArray) hb (by rw [hps]; simp [hvl])
 refine ⟨_, _, _, _, hrun, ?_⟩
 match vs, hvl with
 | [v1, v2], _ =>
 have r1 := hr 0 (by simp)
 have r2 := hr 1 (by simp)
 simp only [List.getD_cons_zero, List.getD_cons_succ] at r1 r2
 have hT0 : TRel E G w { tmps := rec.tmps, defers := [] } T := ⟨hn, hds.symm, fun i => by have := ht i; simpa [Array.getD_eq_getD_getElem?, List.getD_eq_getElem?_getD] using this⟩
 have hT1 := (hT0.put hp r1).put hq r2
 have hT2 : TRel E G w { tmps := (rec.tmps.setIfInBounds p v1).setIfInBounds q v2, defers := [] } Tb := ⟨hT1.size, hT1.defers, fun i => by
  rcases hTb i with e | e
  · rw [e]; exact hT1.rep i
  · rw [e]; exact .dead _⟩
 have hfold : ((rec.params.zip [v1, v2].toArray).foldl (fun tmps (t, a) => tmps.setIfInBounds t a) rec.tmps) = (rec.tmps.setIfInBounds p v1).setIfInBounds q v2 := by rw [hps]; simp
 rw [hfold]
 refine roundIn_of_wpIn (F := Fence.wide) trivial ?_
 refine wpIn_mono (straight_sound (r := some (G.loc o)) hl rec.assign Tb H _ G _ w h1 h hW hT2) ?_
 rintro e a1 w1 ⟨G1, T1, H1, x1, hW1, hT1', hq1⟩
 cases e with
 | normal =>
   obtain ⟨hH1, hbody⟩ := hq1
   obtain ⟨hb1, hu1, _⟩ := raw_get hW1 hH1
   have hloc : G1.loc o = G.loc o := (x1.used o hu).2
   obtain ⟨xs, hWs⟩ := raw_set hW1 hH1 (.loop { rec with state := .busy })
   rw [hloc] at hb1 xs hWs
   refine ⟨_, run_beginRound hb1 hst, ?_⟩
   have hH2 : (H1.upd o (.loop { rec with state := .busy } T)) o = some (.loop { rec with state := .busy } T) := Heap.upd_same _ _ _
   refine wpIn_mono (straight_sound (r := some (G.loc o)) hl rec.body T1 _ _ G1 a1 _ h2 hbody hWs (hT1'.ext xs)) ?_
   rintro e a3 w3 ⟨G3, T3, H3, x3, hW3, hT3, hq3⟩
   cases e with
   | normal =>
     obtain ⟨hH3, hR⟩ := hq3
     obtain ⟨hb3, hu3, _⟩ := raw_get hW3 hH3
     have hloc3 : G3.loc o = G.loc o := (x3.used o hu1).2.trans hloc
     rw [hloc3] at hb3
     have hend := run_endRound (P := E.P) none hb3
     have hrec : ({ rec with state := .ready, pending := none } : Loop) = rec := by cases rec; simp only at hst hpe; subst hst; subst hpe; rfl
     obtain ⟨xe, hWe⟩ := raw_set hW3 hH3 (.loop rec)
     rw [hloc3] at xe hWe
     refine ⟨.bool true, w3.putObj (G.loc o) (.loop rec), ?_, .bool true, G3, B true, _, rfl, ((x1.trans xs).trans x3).trans xe, hWe, .sc _ rfl, hR⟩
     rw [hend]
     simp only [Option.isNone_none, if_true, hrec]
   | _ => exact hq3.elim
 | _ => exact hq1.elim

def rangePostA (E : Env) (G : Ghost) (w : World) (H : Heap) (a : Act) (Z : Nat → Heap → Prop) : Exit → Act → World → Prop
 | .normal, a', w' => ∃ G' H' oD, Ext G w G' w' ∧ WRel E.Γ G' H' w' ∧ a' = { a with defers := [{ target := .collected (G'.loc oD), args := #[] }] } ∧ H oD = none ∧ H' oD = some .shut ∧ Z oD H'
 | _, _, _ => False

theorem range_sound {n : Nat} {g : Operand} {p q gf : Nat} {assign body : Code} {lb : List AV} {Z : Nat → Heap → Prop} (hW : WRel E.Γ G H w) (hT : TRel E G w a T) (hds : E.defs = []) (hg : ev E T g = .fn (.func gf) [] lb) (hen : enters E.P gf = true)
 (h : ∀ oD oL (rec : Loop), oD ≠ oL → H oD = none → H oL = none → rec.state = .ready → rec.pending = none → rec.params = #[p, q] → rec.assign = assign → rec.body = body → E.n ≤ rec.tmps.size →
   ACalls E.P E.Γ gf (.yl oL :: lb) ((H.upd oD .shut).upd oL (.loop rec T)) fun _ H' => H' oL = some (.loop rec T) ∧ ∃ H1, H1 ≤ H' ∧ H1 oL = none ∧ H1 oD = some .shut ∧ Z oD H1) :
 (Code.rangeFunc g #[p, q] assign body).wpIn Fence.wide n E.P (rangePostA E G w H a Z) a w := by
 refine wpIn_rangeFunc ?_
 intro fn _
 obtain ⟨oD, hoD, hHoD⟩ := hW.fresh
 have x1 := Ext.addObj hW (.deferred (some [])) hoD
 have hW1 := hW.addObj (.deferred (some [])) hoD .shut rfl ⟨by have := hW.base; simp only [Ghost.addObj, if_true]; exact this, by simp [Ghost.addObj], by simp only [Ghost.addObj, if_true]; exact World.heap_alloc_new w _, fun i => .dead _⟩
 obtain ⟨oL, hoL, hHoL⟩ := hW1.fresh
 have hne : oD ≠ oL := fun e => by subst e; rw [Heap.upd_same] at hHoL; cases hHoL
 obtain ⟨rec, hrec⟩ : ∃ rec : Loop, rec = { state := .ready, pending := none, fn, tmps := a.tmps, params := #[p, q], assign, body, defers := w.heap.size } := ⟨_, rfl⟩
 have hrt : rec.tmps = a.tmps := by rw [hrec]
 have hent : (Instr.enterLoop fn a.tmps #[p, q] assign body none).run E.P w = .ok (w.heap.size + 1, [{ target := .collected w.heap.size, args := #[] }]) ((w.alloc (.deferred (some []))).alloc (.loop rec)) := by rw [hrec]; exact run_enterLoop_outer _ _ _ _ _
 have x2 := Ext.addObj hW1 (.loop rec) hoL
 have hT2 := (hT.ext x1).ext x2
 have hW2 := hW1.addObj (.loop rec) hoL (.loop rec T) rfl ⟨by have := hW1.base; simp only [Ghost.addObj, if_true]; exact this, by simp [Ghost.addObj], by simp only [Ghost.addObj, if_true]; exact World.heap_alloc_new _ _, fun i => by
  have := hT2.rep i
  rw [hrt]
  simpa [Array.getD_eq_getD_getElem?, List.getD_eq_getElem?_getD] using this⟩
 have hsz : (w.alloc (.deferred (some []))).heap.size = w.heap.size + 1 := by simp
 rw [Heap.upd_ne _ _ (fun e => hne e.symm)] at hHoL
 have hcall := h oD oL rec hne hHoD hHoL (by rw [hrec]) (by rw [hrec]) (by rw [hrec]) (by rw [hrec]) (by rw [hrec]) (by rw [hrec]; exact hT.size)
 have hfg := rep_ev hW hT g
 rw [hg] at hfg
 obtain ⟨v1, v2, hv, hl1, hl2, hr1, hr2⟩ := hfg.inv_fn
 have hv1 : v1 = [] := List.eq_nil_of_length_eq_zero (by simpa using hl1)
 subst hv1
 have hen' : ∃ fn, E.P.funcs[gf]? = some fn ∧ (fn.name == "runtime.NumGoroutine") = false ∧ fn.body.isNone = false := by
  unfold enters at hen
  split at hen
  · rename_i fn hfn
    simp only [Bool.and_eq_true, Bool.not_eq_true'] at hen
    refine ⟨fn, hfn, hen.1, ?_⟩
    have := hen.2
    cases hb : fn.body <;> simp_all
  · cases hen
 obtain ⟨fg, hfn, hn1, hn2⟩ := hen'
 have hlocL : ((G.addObj w.heap.size oD).addObj (w.heap.size + 1) oL).loc oL = w.heap.size + 1 := by simp [Ghost.addObj]
 have hlocD : ((G.addObj w.heap.size oD).addObj (w.heap.size + 1) oL).loc oD = w.heap.size := by simp [Ghost.addObj, hne]
 rw [hsz] at x2 hW2 hT2
 refine ⟨w.heap.size + 1, [{ target := .collected w.heap.size, args := #[] }], _, { target := .fn (.func gf) v2.toArray, args := #[.func (.yield (w.heap.size + 1)) #[] #[]] }, (w.alloc (.deferred (some []))).alloc (.loop rec), gf,
  (.func (.yield (w.heap.size + 1)) #[] #[] :: v2).toArray, (w.alloc (.deferred (some []))).alloc (.loop rec), hent, ?_, fun _ _ => trivial, ?_, fun e => (by cases e), ?_⟩
 · simp only [resolve, hv]
   simp [go_sem]
 · simp only [invoke, callFunc, Sem.run_bind, run_program, Result.andThen_ok, hfn, hn1, Bool.false_eq_true, if_false, hn2, Sem.run_pure]
   congr 2
   apply Array.ext'; simp
 · refine callsIn_wide.2 ((hcall _ _ (.func (.yield (w.heap.size + 1)) #[] #[] :: v2) hW2 (by simp [hl2]) (fun i hi => ?_)).mono ?_)
   · cases i with
     | zero => have := Rep.yl (G := (G.addObj w.heap.size oD).addObj (w.heap.size + 1) oL) (w := (w.alloc (.deferred (some []))).alloc (.loop rec)) oL (by simp [Ghost.addObj]); rw [hlocL] at this; exact this
     | succ i => have := ((hr2 i (by simpa using hi)).ext x1).ext x2; simpa using this
   · rintro e w3 ⟨v, G3, r, H3, rfl, x3, hW3, _, hL3, H1, hle1, hL1, hD3, hz⟩
     have hxs := (x1.trans x2).trans x3
     obtain ⟨hb3, hu3, _⟩ := raw_get hW3 hL3
     have hl3 : G3.loc oL = w.heap.size + 1 := by rw [(x3.used oL (by simp [Ghost.addObj])).2, hlocL]
     have hd3 : G3.loc oD = w.heap.size := by rw [(x3.used oD (by simp [Ghost.addObj])).2, hlocD]
     rw [hl3] at hb3
     obtain ⟨xe, hWe⟩ := raw_set hW3 hL3 (.loop { rec with state := .exhausted })
     have hpn : rec.pending = none := by rw [hrec]
     rw [hl3, hpn] at xe hWe
     refine ⟨none, _, by have := run_endLoop (P := E.P) hb3 (by rw [hrec]; simp); rw [hpn] at this; exact this, ?_⟩
     have hle : H1 ≤ H3.upd oL (.raw (.loop { rec with state := .exhausted, pending := none }) rec.tmps.toList T) := fun i z hz => by
      by_cases e : i = oL
      · rw [e, hL1] at hz; cases hz
      · rw [Heap.upd_ne _ _ e]; exact hle1 _ _ hz
     refine ⟨G3, H1, oD, hxs.trans xe, hWe.forget hle, ?_, hHoD, hD3, hz⟩
     rw [hd3]; simp [hT.defers, hds]

def Env.pre (E : Env) : Env := ⟨E.P, E.Γ, E.n, fun _ => none, E.turns, []⟩
def Env.rest (E : Env) (D : Nat) : Env := ⟨E.P, E.Γ, E.n, E.live, E.turns, [{ target := .collected D, args := #[] }]⟩

def retD (t oD : Nat) (R : AV → Heap → Prop) : Post
 | .normal, T, H | .ret, T, H => H oD = some .shut ∧ ∃ H1, H1 ≤ H ∧ H1 oD = none ∧ R (T t) H1
 | _, _, _ => False

def RangeP (E : Env) (live : List Nat) (g : Operand) (p q : Nat) (assign body rest : Code) (t : Nat) (R : AV → Heap → Prop) (vs : List AV) (H : Heap) : Prop :=
 ∃ (gf : Nat) (lb : List AV) (Z : Nat → Heap → Prop), ev E (Tm.of live vs) g = .fn (.func gf) [] lb ∧ enters E.P gf = true ∧
   (∀ oD oL (rec : Loop), oD ≠ oL → H oD = none → H oL = none → rec.state = .ready → rec.pending = none → rec.params = #[p, q] → rec.assign = assign → rec.body = body → E.n ≤ rec.tmps.size →
     ACalls E.P E.Γ gf (.yl oL :: lb) ((H.upd oD .shut).upd oL (.loop rec (Tm.of live vs))) fun _ H' => H' oL = some (.loop rec (Tm.of live vs)) ∧ ∃ H1, H1 ≤ H' ∧ H1 oL = none ∧ H1 oD = some .shut ∧ Z oD H1) ∧
   ∀ oD H', H oD = none → H' oD = some .shut → Z oD H' → ∀ D, awp (E.rest D) (drawK (E.rest D)) rest (Tm.of live vs) H' (retD t oD R)

theorem ACalls.of_range {f : FuncId} {fn : Func} {c0 c1 c2 assign body rest : Code} {g : Operand} {p q bid t : Nat} {args : List AV} {R : AV → Heap → Prop} {live : List Nat}
 (hm : E.P.follows .mixedOrders = true) (hf : E.P.funcs[f]? = some fn) (hb : fn.body = some (.seq c0 (.seq c1 (.seq (.seq c2 (.block bid (.rangeFunc g #[p, q] assign body))) rest)))) (hn : E.n = fn.ntmps) (hres : fn.results = #[.tmp t])
 (s0 : straight c0 = true) (s1 : straight c1 = true) (s2 : straight c2 = true)
 (h : awp E.pre (drawK E.pre) c0 (fun j => args.getD j .dead) H (normK fun T H => awp E.pre (drawK E.pre) c1 T H (normK fun T H => awp E.pre (drawK E.pre) c2 T H (normK fun T H => RangeP E live g p q assign body rest t R (keepT live T) H)))) :
 ACalls E.P E.Γ f args H R := by
 intro G w vs hW hl hr
 refine (callsIn_wide (n := 0)).1 (callsIn_of_wp_marks hf hb trivial ?_)
 have hT : TRel E.pre G w { tmps := vs.toArray ++ Array.replicate (fn.ntmps - vs.toArray.size) undef, defers := [] } (fun j => args.getD j .dead) := by
  refine ⟨by simp [Env.pre, hn]; omega, rfl, fun i => ?_⟩
  by_cases hi : i < args.length
  · have e : (vs.toArray ++ Array.replicate (fn.ntmps - vs.toArray.size) undef).getD i undef = vs.getD i undef := by
     simp only [Array.getD_eq_getD_getElem?]
     rw [Array.getElem?_append_left (by simpa [hl] using hi)]
     simp [List.getD_eq_getElem?_getD]
    show Rep G w ((vs.toArray ++ Array.replicate (fn.ntmps - vs.toArray.size) undef).getD i undef) (args.getD i .dead)
    rw [e]; exact hr i hi
  · have : args.getD i .dead = .dead := by simp [List.getD_eq_getElem?_getD, List.getElem?_eq_none (Nat.le_of_not_lt hi)]
    show Rep G w _ (args.getD i .dead)
    rw [this]; exact .dead _
 generalize ({ tmps := vs.toArray ++ Array.replicate (fn.ntmps - vs.toArray.size) undef, defers := [] } : Act) = a0 at hT ⊢
 refine wpIn_seq (wpIn_mono (straight_sound (E := E.pre) (r := none) (fun _ => rfl) c0 _ H _ G a0 w s0 h hW hT) ?_)
 rintro e a1 w1 ⟨G1, T1, H1, x1, hW1, hT1, h1⟩
 cases e with
 | normal =>
   refine wpIn_seq (wpIn_mono (straight_sound (E := E.pre) (r := none) (fun _ => rfl) c1 T1 H1 _ G1 a1 w1 s1 h1 hW1 hT1) ?_)
   rintro e a2 w2 ⟨G2, T2, H2, x2, hW2, hT2, h2⟩
   cases e with
   | normal =>
     refine wpIn_seq (wpIn_seq (wpIn_mono (straight_sound (E := E.pre) (r := none) (fun _ => rfl) c2 T2 H2 _ G2 a2 w2 s2 h2 hW2 hT2) ?_))
     rintro e a3 w3 ⟨G3, T3, H3, x3, hW3, hT3, h3⟩
     cases e with
     | normal =>
       obtain ⟨gf, lb, Z, hg, hen, hiter, hrest⟩ := h3
       have hT3' := hT3.of live
       refine wpIn_block (wpIn_mono (range_sound (E := E.pre) (Z := Z) hW3 hT3' rfl hg hen hiter) ?_)
       intro e a4 w4 h4
       cases e with
       | normal =>
         obtain ⟨G4, H4, oD, x4, hW4, ha4, hD3, hD4, hz⟩ := h4
         have hT4 : TRel (E.rest (G4.loc oD)) G4 w4 a4 (Tm.of live (keepT live T3)) := by
          have := hT3'.ext x4
          rw [ha4]
          exact ⟨this.size, rfl, this.rep⟩
         have hsem := awp_sem (E := E.rest (G4.loc oD)) hm rest _ H4 _ (hrest oD H4 hD3 hD4 hz (G4.loc oD))
         refine wpIn_wide.2 (wp_mono (hsem G4 a4 w4 hW4 hT4) ?_)
         have key : ∀ a5 w5, (∃ G5 T5 H5, Ext G4 w4 G5 w5 ∧ WRel E.Γ G5 H5 w5 ∧ TRel (E.rest (G4.loc oD)) G5 w5 a5 T5 ∧ (H5 oD = some .shut ∧ ∃ H1, H1 ≤ H5 ∧ H1 oD = none ∧ R (T5 t) H1)) →
          LeavesInM Fence.wide 0 E.P fn a5.tmps (fun e w' => ∃ v G' r H', e = .returned v ∧ Ext G w G' w' ∧ WRel E.Γ G' H' w' ∧ Rep G' w' v r ∧ R r H') a5.defers .returning w5 := by
          rintro a5 w5 ⟨G5, T5, H5, x5, hW5, hT5, hD5, HF, hle, hnone, hR⟩
          obtain ⟨hb5, hu5, _⟩ := raw_get hW5 hD5
          obtain ⟨hb4, hu4, _⟩ := raw_get hW4 hD4
          have hloc : G5.loc oD = G4.loc oD := (x5.used oD hu4).2
          rw [hloc] at hb5
          obtain ⟨xe, hWe⟩ := raw_set hW5 hD5 (.deferred none)
          rw [hloc] at xe hWe
          rw [hT5.defers]
          refine ⟨by simp, .inl ⟨_, _, rfl, run_takeDeferred hb5, ?_⟩⟩
          have hle' : HF ≤ H5.upd oD (.raw (.deferred none) [] (fun _ => .dead)) := fun i z hz => by
           by_cases e : i = oD
           · rw [e, hnone] at hz; cases hz
           · rw [Heap.upd_ne _ _ e]; exact hle _ _ hz
          refine ⟨a5.tmps.getD t undef, ?_, _, G5, T5 t, HF, rfl, ((((x1.trans x2).trans x3).trans x4).trans x5).trans xe, hWe.forget hle', (hT5.rep t).ext xe, hR⟩
          rw [results_eq, hres]
          simp [resV]
         rintro e a5 w5 ⟨G5, T5, H5, x5, hW5, hT5, hq⟩
         cases e with
         | normal => exact key a5 w5 ⟨G5, T5, H5, x5, hW5, hT5, hq⟩
         | ret => exact key a5 w5 ⟨G5, T5, H5, x5, hW5, hT5, hq⟩
         | _ => exact hq.elim
       | _ => exact h4.elim
     | _ => exact h3.elim
   | _ => exact h2.elim
 | _ => exact h1.elim

def Code.lhs : Code → Code | .seq a _ => a | c => c
def Code.rhs : Code → Code | .seq _ b => b | c => c
def Code.inner : Code → Code | .block _ c => c | c => c
def Code.rfA : Code → Code | .rangeFunc _ _ a _ => a | c => c
def Code.rfB : Code → Code | .rangeFunc _ _ _ b => b | c => c

end Go.Av
