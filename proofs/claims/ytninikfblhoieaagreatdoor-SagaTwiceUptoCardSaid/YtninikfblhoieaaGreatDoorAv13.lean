/- The predicate transformer over code, and that it is sound; calls out of it. -/
import Derived.Test.YtninikfblhoieaaGreatDoorAv12b
import Derived.Scope
import Derived.ScopeJumps
set_option linter.all false

namespace Go.Av
open Go Go.RowKit

variable {E : Env} {Γ : Nat → Option AV} {G : Ghost} {H H' : Heap} {w : World} {a : Act} {T : Tm} {P : Program}

abbrev Post := Exit → Tm → Heap → Prop

def sem (E : Env) (c : Code) (T : Tm) (H : Heap) (Q : Post) : Prop :=
 ∀ (G : Ghost) (a : Act) (w : World), WRel E.Γ G H w → TRel E G w a T →
   c.wp E.P (fun e a' w' => ∃ G' T' H', Ext G w G' w' ∧ WRel E.Γ G' H' w' ∧ TRel E G' w' a' T' ∧ Q e T' H') a w

def conc (E : Env) (G : Ghost) (w : World) (Q : Post) : Exit → Act → World → Prop :=
 fun e a' w' => ∃ G' T' H', Ext G w G' w' ∧ WRel E.Γ G' H' w' ∧ TRel E G' w' a' T' ∧ Q e T' H'

theorem conc_ext {G' : Ghost} {w' : World} {Q : Post} (x : Ext G w G' w') {e : Exit} {a : Act} {u : World} (h : conc E G' w' Q e a u) : conc E G w Q e a u := by
 obtain ⟨G2, T2, H2, x2, h2, t2, q⟩ := h
 exact ⟨G2, T2, H2, x.trans x2, h2, t2, q⟩

theorem beq_ne {i d : Nat} (e : ¬ i = d) : Nat.beq i d = false := by
 cases h : Nat.beq i d with
 | false => rfl
 | true => exact absurd (Nat.eq_of_beq_eq_true h) e

theorem TRel.put (hT : TRel E G w a T) {d : Nat} {v : Value} {r : AV} (hd : d < E.n) (hr : Rep G w v r) : TRel E G w (a.put (some d) v) (T.upd d r) := by
 refine ⟨?_, hT.defers, fun i => ?_⟩
 · show E.n ≤ (a.tmps.setIfInBounds d v).size
   rw [Array.size_setIfInBounds]; exact hT.size
 · show Rep G w ((a.tmps.setIfInBounds d v).getD i undef) (bif Nat.beq i d then r else T i)
   by_cases e : i = d
   · subst e
     have : i < a.tmps.size := Nat.lt_of_lt_of_le hd hT.size
     simp [Array.getD_eq_getD_getElem?, this]
     exact hr
   · have hb : Nat.beq i d = false := beq_ne e
     rw [hb]
     simp only [cond_false, Array.getD_eq_getD_getElem?, Array.getElem?_setIfInBounds_ne (fun h => e h.symm)]
     have := hT.rep i
     simpa [Array.getD_eq_getD_getElem?] using this

theorem putK_sound {d : Option Tmp} {r : AV} {K : Tm → Prop} {v : Value} (hT : TRel E G w a T) (hr : Rep G w v r) (h : putK E T d r K) : ∃ T', TRel E G w (a.put d v) T' ∧ K T' := by
 unfold putK at h
 cases d with
 | none => exact ⟨T, hT, h⟩
 | some d =>
   simp only at h
   cases hd : Nat.blt d E.n with
   | false => rw [hd] at h; exact h.elim
   | true =>
     rw [hd] at h
     exact ⟨_, hT.put (by simpa using hd) hr, h⟩

theorem upd_same {T : Tm} {d : Nat} {x : AV} (h : T d = x) : T.upd d x = T := by
 funext j
 show (bif Nat.beq j d then x else T j) = T j
 by_cases e : j = d
 · subst e; simp [h]
 · have : Nat.beq j d = false := beq_ne e
   rw [this]; rfl

theorem condK_cases {c : AV} {A B' : Prop} (h : condK c A B') : (c = B true ∧ A) ∨ (c = B false ∧ B') := by
 unfold condK at h
 split at h
 · rename_i b
   cases b
   · exact .inr ⟨rfl, h⟩
   · exact .inl ⟨rfl, h⟩
 · exact h.elim

theorem unK_cases {c : AV} {S : Prop} (h : unK c S) : c = .tup [] ∧ S := by
 unfold unK at h
 split at h
 · exact ⟨rfl, h⟩
 · exact h.elim

theorem rep_undef (G : Ghost) (w : World) : Rep G w undef (.tup []) := .tup [] [] rfl (fun i h => by cases h)

theorem rep_undef_inv {v : Value} (h : Rep G w v (.tup [])) : v = undef := by
 cases h with
 | tup vs cs hl _ =>
   cases vs with
   | nil => rfl
   | cons => cases hl

theorem yielded_un {ops : Array Oper} {j d : Nat} (hd : (ops[j]?).bind (·.dst) = some d) {tmps : Array Value} (h : tmps.getD d undef = undef) : yielded ops tmps j = none := by
 simp only [yielded, hd, Option.bind_some]
 rcases Nat.lt_or_ge d tmps.size with h1 | h1
 · rw [Array.getElem?_eq_getElem h1]
   have e2 : tmps[d] = undef := by rw [← h]; simp [Array.getD_eq_getD_getElem?, h1]
   rw [e2]; rfl
 · rw [Array.getElem?_eq_none h1]

theorem rep_bool_inv {v : Value} {b : Bool} (h : Rep G w v (B b)) : v = .bool b := h.inv_sc.1

theorem yield_sound {o : Oper} {fv : Operand} {args ts} {as : List AV} {K : AV → Heap → Prop} {r : Option Nat} {n : Nat} {next : Act → World → Prop} {Q : Exit → Act → World → Prop} (ho : o.op = .call { callee := .value fv, args := args, argTypes := ts }) (hW : WRel E.Γ G H w)
 {oy : Nat} (hf : Rep G w (a.eval fv) (.yl oy)) (hl : args.size = as.length) (ha : ∀ i, i < as.length → Rep G w ((args.map a.eval).getD i undef) (as.getD i .dead)) (h : AYield E.P E.Γ oy as H K)
 (hn : ∀ v w' G' r H1, Ext G w G' w' → WRel E.Γ G' H1 w' → Rep G' w' v r → K r H1 → next (a.put o.dst v) w') : o.wpIn (wideR r) n E.P a w next Q := by
 obtain ⟨he, hu⟩ := hf.inv_yl
 obtain ⟨fn, tmps, assign, body, h1, h2⟩ := h G w (args.map a.eval).toList (n - 1) hW (by simp [hl]) (fun i hi => by have := ha i hi; simpa [List.getD_eq_getElem?_getD] using this)
 refine ⟨fun _ _ => trivial, ?_⟩
 rw [show (wideR r).round = r from rfl, Oper.semAt_eq r _ o (fun c e => by rw [ho] at e; cases e)]
 have hrun : (execOp a.eval o).run E.P w = .ok (.round (G.loc oy) fn tmps assign body) w := by
  rw [Array.toArray_toList] at h1
  rw [← h1]
  simp only [execOp, ho, resolve, he, Deferred.ofValue]
  simp [invoke, callFunc, Array.append_empty, Array.empty_append]
 rw [hrun, Oper.uponIn_round]
 refine ⟨fun e => (by cases e), RoundIn.mono (F := wideR r) h2 ?_⟩
 rintro e w' ⟨v, G', r, H', rfl, k1, k2, k3, k4⟩
 exact hn v w' G' r H' k1 k2 k3 k4

theorem opY_sound {o : Oper} {K : AV → Heap → Prop} {r : Option Nat} {n : Nat} {next : Act → World → Prop} {Q : Exit → Act → World → Prop} (hW : WRel E.Γ G H w) (hT : TRel E G w a T) (h : opY E T H o.op K)
 (hn : ∀ v w' G' r H1, Ext G w G' w' → WRel E.Γ G' H1 w' → Rep G' w' v r → K r H1 → next (a.put o.dst v) w') : o.wpIn (wideR r) n E.P a w next Q := by
 have hev := rep_ev hW hT
 have fin : ∀ {s : Sem Value}, execOp a.eval o = (do pure (.value (← s))) → (∀ c, o.op ≠ .defer c) → Comes1 E.Γ E.P G w s K → o.wpIn (wideR r) n E.P a w next Q := by
  intro s hs hd ⟨v, w', G', r, H1, e1, e2, e3, e4, e5⟩
  refine wp_in hd ?_
  unfold Oper.wp
  rw [hs]
  simp only [Sem.run_bind, e1, Result.andThen_ok, Sem.run_pure, Oper.upon]
  exact hn v w' G' r H1 e2 e3 e4 e5
 have hu : ∀ {s : Sem Unit} {w' : World} {H1 : Heap}, execOp a.eval o = (do s; pure .skip) → (∀ c, o.op ≠ .defer c) → s.run E.P w = .ok () w' → Ext G w G w' → WRel E.Γ G H1 w' → K .dead H1 → o.wpIn (wideR r) n E.P a w next Q := by
  intro s w' H1 hs hd e1 e2 e3 e4
  refine wp_in hd ?_
  unfold Oper.wp
  rw [hs]
  simp only [Sem.run_bind, e1, Result.andThen_ok, Sem.run_pure, Oper.upon]
  exact hn undef w' G .dead H1 e2 e3 (.dead _) e4
 unfold opY at h
 cases hnc : nilCmp E.P o.op with
 | some x =>
   rw [hnc] at h
   obtain ⟨dst, op, type, pos, after, guard⟩ := o
   simp only at hnc fin hn ⊢
   unfold nilCmp at hnc
   split at hnc <;> try (cases hnc; done)
   rename_i t x' y t2
   cases hc : isNilSlice y && isSliceT E.P t with
   | false => rw [hc] at hnc; cases hnc
   | true =>
   rw [hc] at hnc
   injection hnc with hnc; subst hnc
   simp only [Bool.and_eq_true] at hc
   obtain ⟨hc1, hc2⟩ := hc
   have hv : ∃ l c, a.eval y = .slice none l c := by
    unfold isNilSlice at hc1
    split at hc1
    · exact ⟨_, _, rfl⟩
    · cases hc1
   have ht : ∃ e, E.P.underlying t = some (.slice e) := by
    unfold isSliceT at hc2
    split at hc2
    · exact ⟨_, by assumption⟩
    · cases hc2
   obtain ⟨b, hb, hK⟩ := nilS_sound (P := E.P) (x := x') (y := y) (hev x') hv ht h
   exact fin rfl (fun c e => by cases e) ⟨.bool b, w, G, B b, H, hb, Ext.refl _ _, hW, .sc _ rfl, hK⟩
 | none =>
 rw [hnc] at h
 simp only at h
 cases hro : isRo o.op with
 | true =>
   rw [hro] at h
   simp only [cond_true] at h
   refine wp_in (fun c e => by rw [e] at hro; cases hro) (op_sound hW hT (K := K) ?_ hn)
   unfold opK; rw [hro]; exact h
 | false =>
   rw [hro] at h
   simp only [cond_false] at h
   unfold hwY at h
   split at h
   · rename_i f args ts ho
     unfold callK at h
     split at h
     · rename_i f' first captured hf
       refine wp_in (fun c e => by rw [e] at ho; cases ho) (op_sound hW hT (K := K) ?_ hn)
       unfold opK; rw [hro, ho]; simp only [cond_false, hwK, callN, hf]; exact h
     · rename_i oy hf
       have hargs := getD_map_ev a.eval (ev E T) hev args.toList
       refine yield_sound ho hW (oy := oy) (by rw [← hf]; exact hev f) (as := args.toList.map (ev E T)) (by simp) (fun i hi => by
        have := hargs i hi; simpa [List.getD_eq_getElem?_getD] using this) h hn
     · exact h.elim
   · rename_i t ho
     exact fin (s := Instr.makeMap t none) (by simp only [execOp, ho]; rfl) (fun c e => by rw [e] at ho; cases ho) (newMap_sound hW h)
   · rename_i t m k v ho
     unfold heapK at h
     split at h <;> try (exact h.elim)
     rename_i H1 hst
     obtain ⟨w', e1, e2, e3⟩ := mu_sound hW (hev m) (hev k) (hev v) hst
     exact hu (by simp only [execOp, ho]) (fun c e => by rw [e] at ho; cases ho) e1 e2 e3 h
   · rename_i t m k v ho
     unfold heapK at h
     split at h <;> try (exact h.elim)
     rename_i H1 hst
     obtain ⟨w', e1, e2, e3⟩ := mu_sound hW (hev m) (hev k) (hev v) hst
     exact hu (by simp only [execOp, ho]) (fun c e => by rw [e] at ho; cases ho) e1 e2 e3 h
   · rename_i t x i ok ho
     unfold pureK at h
     split at h <;> try (exact h.elim)
     rename_i rv hr
     obtain ⟨v, e1, e2⟩ := look_sound hW (hev x) (hev i) hr
     exact fin (by simp only [execOp, ho]) (fun c e => by rw [e] at ho; cases ho) ⟨v, w, G, rv, H, e1, Ext.refl _ _, hW, e2, h⟩
   · rename_i t l c ho
     exact fin (by simp only [execOp, ho]) (fun c e => by rw [e] at ho; cases ho) (mks_sound hW (hev l) (hev c) h)
   · rename_i args ts ho
     split at h <;> try (exact h.elim)
     rename_i x y hargs
     unfold pureK at h
     split at h <;> try (exact h.elim)
     rename_i rv hr
     have he : args.map a.eval = #[a.eval x, a.eval y] := by
      have : args = #[x, y] := by apply Array.ext'; simpa using hargs
      rw [this]; simp
     unfold cpx at hr
     split at hr <;> try (cases hr; done)
     rename_i k1 b1 k2 b2 hx hy
     split at hr <;> try (cases hr; done)
     rename_i hk
     subst hk
     injection hr with hr; subst hr
     have h1 := hev x
     have h2 := hev y
     rw [hx] at h1; rw [hy] at h2
     obtain ⟨h1, _⟩ := h1.inv_sc
     obtain ⟨h2, _⟩ := h2.inv_sc
     refine fin (s := Builtin.complex_ ts o.type #[a.eval x, a.eval y]) (by simp only [execOp, ho, resolve, pure_bind, invoke, builtin, he]) (fun c e => by rw [e] at ho; cases ho) ⟨.complex k1 b1 b2, w, G, _, H, ?_, Ext.refl _ _, hW, .sc _ rfl, h⟩
     rw [h1, h2]
     show Sem.run E.P (if k1 = k1 then pure (Value.complex k1 b1 b2) else _) w = _
     rw [if_pos rfl]; rfl
   · refine wp_in (fun c e => ?_) (op_sound hW hT (K := K) ?_ hn)
     · rw [e] at h; exact h.elim
     · unfold opK; rw [hro]; exact h


theorem opsY_sound {r : Option Nat} {n : Nat} {all : Array Oper} {Q : Exit → Act → World → Prop} : ∀ (l : List Oper) (k : Nat) (sk : List Nat) (T : Tm) (H : Heap) (G : Ghost) (a : Act) (w : World) (K : Tm → Heap → Prop),
 (∀ j, l[j]? = all[k + j]?) → WRel E.Γ G H w → TRel E G w a T → opsY E all l sk T H K →
 (∀ G' a' w' T' H', Ext G w G' w' → WRel E.Γ G' H' w' → TRel E G' w' a' T' → K T' H' → Q .normal a' w') → wpOpsIn (wideR r) n E.P all Q (List.range' k l.length) a w := by
 intro l
 induction l with
 | nil => intro k sk T H G a w K _ hW hT h hq; exact hq G a w T H (Ext.refl _ _) hW hT h
 | cons o l ih =>
   intro k sk T H G a w K hl hW hT h hq
   have ho : all[k]? = some o := by have := hl 0; simpa using this.symm
   have hl' : ∀ j, l[j]? = all[k + 1 + j]? := fun j => by have := hl (j + 1); simpa [Nat.add_assoc, Nat.add_comm 1 j] using this
   have go : ∀ (T : Tm), TRel E G w a T → opY E T H o.op (fun r H' => putK E T o.dst r fun T' => opsY E all l sk T' H' K) → o.wpIn (wideR r) n E.P a w (wpOpsIn (wideR r) n E.P all Q (List.range' (k + 1) l.length)) Q := by
    intro T hT h
    refine opY_sound hW hT h ?_
    intro v w' G' r H1 x hW' hr hp
    obtain ⟨T', hT', hk⟩ := putK_sound (hT.ext x) hr hp
    exact ih (k + 1) sk T' H1 G' _ w' K hl' hW' hT' hk fun G2 a2 w2 T2 H2 x2 => hq G2 a2 w2 T2 H2 (x.trans x2)
   have skip : ∀ (T : Tm), TRel E G w a T → putK E T o.dst (.tup []) (fun T' => opsY E all l (addO o.dst sk) T' H K) → wpOpsIn (wideR r) n E.P all Q (List.range' (k + 1) l.length) (a.put o.dst undef) w := by
    intro T hT h
    obtain ⟨T', hT', hk⟩ := putK_sound hT (rep_undef G w) h
    exact ih (k + 1) _ T' H G _ w K hl' hW hT' hk hq
   simp only [List.length_cons, List.range'_succ, wpOpsIn, ho]
   unfold opsY at h
   cases hg : o.guard with
   | none =>
     simp only [hg] at h
     simp only [Region.wanted, hg, if_true]
     exact go T hT h
   | some gw =>
     obtain ⟨j, want⟩ := gw
     simp only [hg] at h
     split at h <;> try (exact h.elim)
     rename_i d hd
     have hrep := hT.rep d
     cases hsk : sk.any (Nat.beq d) with
     | true =>
       rw [hsk] at h
       obtain ⟨hu, h⟩ := unK_cases h
       rw [hu] at hrep
       simp only [Region.wanted, hg, yielded_un hd (rep_undef_inv hrep)]
       rw [if_neg (by simp)]
       exact ⟨fun _ _ => trivial, skip T hT h⟩
     | false =>
     rw [hsk] at h
     simp only [cond_false] at h
     have hy : ∀ b, T d = B b → d < a.tmps.size → yielded all a.tmps j = some b := fun b e hlt => by
      rw [e] at hrep
      have := rep_bool_inv hrep
      simp only [yielded, hd, Option.bind_some]
      rw [Array.getElem?_eq_getElem hlt]
      have e2 : a.tmps[d] = .bool b := by rw [← this]; simp [Array.getD_eq_getD_getElem?, hlt]
      rw [e2]
     have hlt : ∀ b, T d = B b → d < a.tmps.size := fun b e => by
      rcases Nat.lt_or_ge d a.tmps.size with h | h
      · exact h
      · rw [e] at hrep
        have := rep_bool_inv hrep
        rw [Array.getD_eq_getD_getElem?, Array.getElem?_eq_none h] at this
        cases this
     rcases condK_cases h with ⟨hb, h⟩ | ⟨hb, h⟩
     · rw [upd_same hb] at h
       simp only [Region.wanted, hg, hy _ hb (hlt _ hb)]
       cases want with
       | true => simp only [cond_true] at h; rw [if_pos (by simp)]; exact go T hT h
       | false => simp only [cond_false] at h; rw [if_neg (by simp)]; exact ⟨fun _ _ => trivial, skip T hT h⟩
     · rw [upd_same hb] at h
       simp only [Region.wanted, hg, hy _ hb (hlt _ hb)]
       cases want with
       | true => simp only [cond_true] at h; rw [if_neg (by simp)]; exact ⟨fun _ _ => trivial, skip T hT h⟩
       | false => simp only [cond_false] at h; rw [if_pos (by simp)]; exact go T hT h


def key : Code → Nat
 | .region id _ _ => id
 | .seq a b => min (key a) (key b)
 | .cond _ a b => min (key a) (key b)
 | .block _ c | .loop c | .scope c => key c
 | .rangeFunc _ _ a b => min (key a) (key b)
 | _ => 1000000000

def thenK (next : Tm → Heap → Prop) (Q : Post) : Post
 | .normal, T, H => next T H
 | e, T, H => Q e T H

def blockK (id : Nat) (Q : Post) : Post
 | .exit i, T, H => bif Nat.beq i id then Q .normal T H else Q (.exit i) T H
 | e, T, H => Q e T H

def noGotoK (Q : Post) : Post
 | .goto _, _, _ => False
 | e, T, H => Q e T H

def jumpK (l : Nat) (J : Tm → Heap → Prop) (Q : Post) : Post
 | .goto i, T, H => bif Nat.beq i l then J T H else False
 | e, T, H => Q e T H

def refineT (T : Tm) : Operand → Bool → Tm
 | .tmp t, b => T.upd t (B b)
 | _, _ => T

def keepT (live : List Nat) (T : Tm) : List AV := live.map T

def awp (E : Env) (draw : Array Oper → Tm → Heap → (Tm → Heap → Prop) → Prop) : Code → Tm → Heap → Post → Prop
 | .skip, T, H, Q => Q .normal T H
 | .region _ ops d, T, H, Q => bif d then draw ops T H (Q .normal) else opsY E ops ops.toList [] T H (Q .normal)
 | .seq x y, T, H, Q =>
   match E.live (key y) with
   | none => awp E draw x T H (thenK (fun T H => awp E draw y T H Q) Q)
   | some live => ∃ J : List AV → Heap → Prop, awp E draw x T H (thenK (fun T H => ∃ H1, H1 ≤ H ∧ J (keepT live T) H1) Q) ∧ ∀ vs H, J vs H → awp E draw y (Tm.of live vs) H Q
 | .cond c x y, T, H, Q => condK (ev E T c) (awp E draw x (refineT T c true) H Q) (awp E draw y (refineT T c false) H Q)
 | .block id c, T, H, Q => awp E draw c T H (blockK id Q)
 | .loop c, T, H, Q =>
   match E.live (1000 + key c) with
   | none => False
   | some live => ∃ J : List AV → Heap → Nat → Prop, (∃ n H1, H1 ≤ H ∧ J (keepT live T) H1 n) ∧
      ∀ vs H n, J vs H n → awp E draw c (Tm.of live vs) H (thenK (fun T' H' => ∃ n' H1, n' < n ∧ H1 ≤ H' ∧ J (keepT live T') H1 n') Q)
 | .exit id, T, H, Q => Q (.exit id) T H
 | .scope c, T, H, Q =>
   match E.live (2000 + key c) with
   | none => awp E draw c T H (noGotoK Q)
   | some live =>
     match live with
     | [] => False
     | l :: live =>
       match findLabel c l with
       | none => False
       | some rest => ∃ J : List AV → Heap → Nat → Prop, awp E draw c T H (jumpK l (fun T' H' => ∃ n H1, H1 ≤ H' ∧ J (keepT live T') H1 n) Q) ∧
          ∀ vs H n, J vs H n → sem E rest (Tm.of live vs) H (jumpK l (fun T' H' => ∃ n' H1, n' < n ∧ H1 ≤ H' ∧ J (keepT live T') H1 n') Q)
 | .label _, T, H, Q => Q .normal T H
 | .goto l, T, H, Q => Q (.goto l) T H
 | .ret, T, H, Q => Q .ret T H
 | .refuse _, _, _, _ => False
 | .rangeFunc .., _, _, _ => False

theorem TRel.of (hT : TRel E G w a T) (live : List Nat) : TRel E G w a (Tm.of live (keepT live T)) := by
 refine ⟨hT.size, hT.defers, fun i => ?_⟩
 have : ∀ l : List Nat, Tm.of l (keepT l T) i = T i ∨ Tm.of l (keepT l T) i = .dead := by
  intro l
  induction l with
  | nil => exact .inr rfl
  | cons x l ih =>
    show (bif Nat.beq i x then T x else Tm.of l (keepT l T) i) = T i ∨ (bif Nat.beq i x then T x else Tm.of l (keepT l T) i) = .dead
    by_cases e : i = x
    · subst e; simp
    · rw [beq_ne e]; exact ih
 rcases this live with h | h
 · rw [h]; exact hT.rep i
 · rw [h]; exact .dead _

theorem eval_bool {b : Bool} (hW : WRel E.Γ G H w) (hT : TRel E G w a T) {c : Operand} (h : ev E T c = B b) : a.eval c = .bool b := by
 have := rep_ev hW hT c
 rw [h] at this
 exact rep_bool_inv this

theorem refine_eq {T : Tm} {c : Operand} {b : Bool} (h : ev E T c = B b) : refineT T c b = T := by
 cases c with
 | tmp t => exact upd_same h
 | _ => rfl

theorem awp_sound {draw : Array Oper → Tm → Heap → (Tm → Heap → Prop) → Prop} (hd : ∀ id ops T H Q, draw ops T H (Q .normal) → sem E (.region id ops true) T H Q) :
 ∀ (c : Code) (T : Tm) (H : Heap) (Q : Post), awp E draw c T H Q → sem E c T H Q := by
 intro c
 induction c with
 | skip => intro T H Q h G a w hW hT; exact wp_skip ⟨G, T, H, Ext.refl _ _, hW, hT, h⟩
 | region id ops d =>
   intro T H Q h
   cases d with
   | true => exact hd id ops T H Q h
   | false =>
     intro G a w hW hT
     simp only [awp, cond_false] at h
     refine wpIn_wide.1 (wpIn_region (n := 0) ?_)
     have := opsY_sound (r := none) (n := 0) (all := ops) (Q := conc E G w Q) ops.toList 0 [] T H G a w (Q .normal) (by simp) hW hT h (fun G' a' w' T' H' x hW' hT' hq => ⟨G', T', H', x, hW', hT', hq⟩)
     rwa [Array.length_toList, ← List.range_eq_range'] at this
 | seq x y ihx ihy =>
   intro T H Q h G a w hW hT
   refine wp_seq ?_
   simp only [awp] at h
   split at h
   · refine wp_mono (ihx T H _ h G a w hW hT) ?_
     rintro e a' w' ⟨G', T', H', xt, hW', hT', hq⟩
     cases e with
     | normal => exact wp_mono (ihy T' H' Q hq G' a' w' hW' hT') fun e a2 w2 h2 => conc_ext xt h2
     | _ => exact ⟨G', T', H', xt, hW', hT', hq⟩
   · rename_i live _
     obtain ⟨J, h1, h2⟩ := h
     refine wp_mono (ihx T H _ h1 G a w hW hT) ?_
     rintro e a' w' ⟨G', T', H', xt, hW', hT', hq⟩
     cases e with
     | normal =>
       obtain ⟨H1, hle, hj⟩ := hq
       exact wp_mono (ihy _ H1 Q (h2 _ _ hj) G' a' w' (hW'.forget hle) (hT'.of live)) fun e a2 w2 h2 => conc_ext xt h2
     | _ => exact ⟨G', T', H', xt, hW', hT', hq⟩
 | cond c x y ihx ihy =>
   intro T H Q h G a w hW hT
   simp only [awp] at h
   rcases condK_cases h with ⟨hb, h⟩ | ⟨hb, h⟩
   · rw [refine_eq hb] at h
     exact wp_cond_true (eval_bool hW hT hb) (ihx T H Q h G a w hW hT)
   · rw [refine_eq hb] at h
     exact wp_cond_false (eval_bool hW hT hb) (ihy T H Q h G a w hW hT)
 | block id c ih =>
   intro T H Q h G a w hW hT
   refine wp_block (wp_mono (ih T H _ h G a w hW hT) ?_)
   rintro e a' w' ⟨G', T', H', xt, hW', hT', hq⟩
   cases e with
   | exit i =>
     simp only [Exit.inBlock]
     simp only [blockK] at hq
     by_cases e : i = id
     · subst e; simp at hq; rw [if_pos rfl]; exact ⟨G', T', H', xt, hW', hT', hq⟩
     · rw [beq_ne e] at hq; rw [if_neg e]; exact ⟨G', T', H', xt, hW', hT', hq⟩
   | _ => exact ⟨G', T', H', xt, hW', hT', hq⟩
 | loop c ih =>
   intro T H Q h G a w hW hT
   simp only [awp] at h
   split at h <;> try (exact h.elim)
   rename_i live _
   obtain ⟨J, ⟨n0, H0, hle, hj0⟩, hround⟩ := h
   let I : Nat → Act → World → Prop := fun n a' w' => ∃ G' T' H', Ext G w G' w' ∧ WRel E.Γ G' H' w' ∧ TRel E G' w' a' T' ∧ J (keepT live T') H' n
   have hm : ∀ a' w', (∃ n, I n a' w') → ∃ n, I n a' w' ∧ ∀ k, k < n → ¬ I k a' w' := by
    intro a' w' ⟨n, hn⟩
    induction n using Nat.strongRecOn with
    | _ n ihn =>
      by_cases hk : ∃ k, k < n ∧ I k a' w'
      · obtain ⟨k, hk, hI⟩ := hk; exact ihn k hk hI
      · exact ⟨n, hn, fun k hk' hI => hk ⟨k, hk', hI⟩⟩
   classical
   refine wp_loop (fun a' w' => ∃ n, I n a' w') (fun a' w' => if h : ∃ n, I n a' w' then (hm a' w' h).choose else 0) ⟨n0, G, T, H0, Ext.refl _ _, hW.forget hle, hT, hj0⟩ ?_
   intro a1 w1 hI
   have hch := (hm a1 w1 hI).choose_spec
   generalize hn : (hm a1 w1 hI).choose = n at hch
   obtain ⟨⟨G1, T1, H1, x1, hW1, hT1, hj1⟩, _⟩ := hch
   refine wp_mono (ih _ _ _ (hround _ _ _ hj1) G1 a1 w1 hW1 (hT1.of live)) ?_
   rintro e a2 w2 ⟨G2, T2, H2, x2, hW2, hT2, hq⟩
   cases e with
   | normal =>
     obtain ⟨n', H3, hlt, hle3, hj3⟩ := hq
     have hI2 : I n' a2 w2 := ⟨G2, T2, H3, x1.trans x2, hW2.forget hle3, hT2, hj3⟩
     refine ⟨⟨n', hI2⟩, ?_⟩
     simp only [dif_pos (show ∃ n, I n a2 w2 from ⟨n', hI2⟩), dif_pos hI, hn]
     have := (hm a2 w2 ⟨n', hI2⟩).choose_spec.2
     rcases Nat.lt_or_ge n' (hm a2 w2 ⟨n', hI2⟩).choose with hlt' | hge
     · exact absurd hI2 (this n' hlt')
     · omega
   | _ => exact ⟨G2, T2, H2, x1.trans x2, hW2, hT2, hq⟩
 | exit id => intro T H Q h G a w hW hT; exact wp_exit ⟨G, T, H, Ext.refl _ _, hW, hT, h⟩
 | scope c ih =>
   intro T H Q h G a w hW hT
   simp only [awp] at h
   split at h
   · refine wp_scope_straight (wp_mono (ih T H _ h G a w hW hT) ?_)
     rintro e a' w' ⟨G', T', H', xt, hW', hT', hq⟩
     cases e with
     | goto l => exact hq.elim
     | _ => exact ⟨G', T', H', xt, hW', hT', hq⟩
   · rename_i live0 _
     split at h <;> try (exact h.elim)
     rename_i l live _
     split at h <;> try (exact h.elim)
     rename_i rest hrest
     obtain ⟨J, hfirst, hpass⟩ := h
     let I : Nat → Act → World → Prop := fun n a' w' => ∃ G' T' H', Ext G w G' w' ∧ WRel E.Γ G' H' w' ∧ TRel E G' w' a' T' ∧ J (keepT live T') H' n
     have hm : ∀ a' w', (∃ n, I n a' w') → ∃ n, I n a' w' ∧ ∀ k, k < n → ¬ I k a' w' := by
      intro a' w' ⟨n, hn⟩
      induction n using Nat.strongRecOn with
      | _ n ihn =>
        by_cases hk : ∃ k, k < n ∧ I k a' w'
        · obtain ⟨k, hk, hI⟩ := hk; exact ihn k hk hI
        · exact ⟨n, hn, fun k hk' hI => hk ⟨k, hk', hI⟩⟩
     classical
     refine wp_scope_jumps l (fun a' w' => ∃ n, I n a' w') (fun a' w' => if h : ∃ n, I n a' w' then (hm a' w' h).choose else 0) hrest (wp_mono (ih T H _ hfirst G a w hW hT) ?_) ?_
     · rintro e a' w' ⟨G', T', H', xt, hW', hT', hq⟩
       cases e with
       | goto i =>
         simp only [jumpK] at hq
         by_cases e : i = l
         · subst e; simp at hq
           obtain ⟨n, H1, hle, hj⟩ := hq
           exact ⟨rfl, n, G', T', H1, xt, hW'.forget hle, hT', hj⟩
         · rw [beq_ne e] at hq; exact hq.elim
       | _ => exact ⟨G', T', H', xt, hW', hT', hq⟩
     · intro a1 w1 hI
       have hch := (hm a1 w1 hI).choose_spec
       generalize hn : (hm a1 w1 hI).choose = n at hch
       obtain ⟨⟨G1, T1, H1, x1, hW1, hT1, hj1⟩, _⟩ := hch
       refine wp_mono (hpass _ _ _ hj1 G1 a1 w1 hW1 (hT1.of live)) ?_
       rintro e a2 w2 ⟨G2, T2, H2, x2, hW2, hT2, hq⟩
       cases e with
       | goto i =>
         simp only [jumpK] at hq
         by_cases e : i = l
         · subst e; simp at hq
           obtain ⟨n', hlt, H3, hle3, hj3⟩ := hq
           have hI2 : I n' a2 w2 := ⟨G2, T2, H3, x1.trans x2, hW2.forget hle3, hT2, hj3⟩
           refine ⟨rfl, ⟨n', hI2⟩, ?_⟩
           simp only [dif_pos (show ∃ n, I n a2 w2 from ⟨n', hI2⟩), dif_pos hI, hn]
           have := (hm a2 w2 ⟨n', hI2⟩).choose_spec.2
           rcases Nat.lt_or_ge n' (hm a2 w2 ⟨n', hI2⟩).choose with hlt' | hge
           · exact absurd hI2 (this n' hlt')
           · omega
         · rw [beq_ne e] at hq; exact hq.elim
       | _ => exact ⟨G2, T2, H2, x1.trans x2, hW2, hT2, hq⟩
 | label l => intro T H Q h G a w hW hT; exact wp_label ⟨G, T, H, Ext.refl _ _, hW, hT, h⟩
 | goto l => intro T H Q h G a w hW hT; exact wp_goto ⟨G, T, H, Ext.refl _ _, hW, hT, h⟩
 | ret => intro T H Q h G a w hW hT; exact wp_ret ⟨G, T, H, Ext.refl _ _, hW, hT, h⟩
 | refuse why => intro T H Q h; exact h.elim
 | rangeFunc f ps x y _ _ => intro T H Q h; exact h.elim


def resE (P : Program) (T : Tm) (H : Heap) : List ResultVar → Option (List AV)
 | [] => some []
 | .tmp t :: r => (resE P T H r).map (T t :: ·)
 | .cell a t :: r =>
   match loadE P H t (T a), resE P T H r with
   | some x, some xs => some (x :: xs)
   | _, _ => none

def oneOrTup : List AV → AV
 | [x] => x
 | xs => .tup xs

def ret1 (H : Heap) (R : AV → Heap → Prop) (r : AV) : Prop := ∃ H1, H1 ≤ H ∧ R r H1

def resK (P : Program) (T : Tm) (H : Heap) : List ResultVar → (List AV → Prop) → Prop
 | [], k => k []
 | .tmp t :: r, k => resK P T H r fun xs => k (T t :: xs)
 | .cell a t :: r, k => pureK (loadE P H t (T a)) fun x => resK P T H r fun xs => k (x :: xs)

def retK (P : Program) (rs : List ResultVar) (R : AV → Heap → Prop) : Post
 | .normal, T, H | .ret, T, H => resK P T H rs fun xs => ret1 H R (oneOrTup xs)
 | _, _, _ => False

theorem resK_spec {T : Tm} {H : Heap} : ∀ (rs : List ResultVar) (k : List AV → Prop), resK P T H rs k → ∃ xs, resE P T H rs = some xs ∧ k xs := by
 intro rs
 induction rs with
 | nil => intro k h; exact ⟨[], rfl, h⟩
 | cons r rs ih =>
   intro k h
   cases r with
   | tmp t => obtain ⟨xs, h1, h2⟩ := ih _ h; exact ⟨T t :: xs, by simp [resE, h1], h2⟩
   | cell a t =>
     simp only [resK] at h
     unfold pureK at h
     split at h <;> try (exact h.elim)
     rename_i x hx
     obtain ⟨xs, h1, h2⟩ := ih _ h
     exact ⟨x :: xs, by simp [resE, h1, hx], h2⟩

def resV (tmps : Array Value) : ResultVar → Sem Value
 | .tmp t => pure (tmps.getD t undef)
 | .cell c t => do loadVar t (← asAddr (tmps.getD c undef))

theorem results_eq (fn : Func) (tmps : Array Value) : results fn tmps = (do let vs ← fn.results.mapM (resV tmps); pure (if h : vs.size = 1 then vs[0] else .tuple vs)) := by
 have : (fun r : ResultVar => (match r with | .tmp t => pure (tmps.getD t undef) | .cell a t => do loadVar t (← asAddr (tmps.getD a undef)) : Sem Value)) = resV tmps := by
  funext r; cases r <;> rfl
 unfold results
 rw [← this]
 rfl

theorem res_sound {rs : List ResultVar} (hW : WRel E.Γ G H w) (hT : TRel E G w a T) : ∀ (xs : List AV), resE E.P T H rs = some xs →
 ∃ vs : List Value, (rs.mapM (resV a.tmps)).run E.P w = .ok vs w ∧ vs.length = xs.length ∧ ∀ i, i < xs.length → Rep G w (vs.getD i undef) (xs.getD i .dead) := by
 induction rs with
 | nil => intro xs h; simp only [resE, Option.some.injEq] at h; subst h; exact ⟨[], rfl, rfl, by intro i hi; cases hi⟩
 | cons r rs ih =>
   intro xs h
   cases r with
   | tmp t =>
     simp only [resE] at h
     obtain ⟨ys, hys, rfl⟩ := Option.map_eq_some_iff.1 h
     obtain ⟨vs, h1, h2, h3⟩ := ih ys hys
     refine ⟨a.tmps.getD t undef :: vs, ?_, by simp [h2], fun i hi => ?_⟩
     · simp only [List.mapM_cons, resV, Sem.run_bind, Sem.run_pure, Result.andThen_ok, h1]
     · cases i with
       | zero => simpa using hT.rep t
       | succ i => simpa using h3 i (by simpa using hi)
   | cell c t =>
     simp only [resE] at h
     split at h <;> try (cases h; done)
     rename_i x ys hx hys
     injection h with h; subst h
     obtain ⟨vs, h1, h2, h3⟩ := ih ys hys
     obtain ⟨v, hv, hr⟩ := load_sound hW (Heap.le_refl H) (hT.rep c) hx
     refine ⟨v :: vs, ?_, by simp [h2], fun i hi => ?_⟩
     · have hv' : (do loadVar t (← asAddr (a.tmps.getD c undef)) : Sem Value).run E.P w = .ok v w := by
        have hp := hT.rep c
        unfold loadE ld at hx
        split at hx
        · rename_i cs off hc
          rw [hc] at hp
          obtain ⟨_, _, _, he, _⟩ := hp.inv_cp
          rw [he] at hv ⊢
          simpa [Instr.loadAt, Instr.sureAddr, asAddr] using hv
        · rename_i o off hc
          rw [hc] at hp
          obtain ⟨he, _⟩ := hp.inv_ptr
          rw [he] at hv ⊢
          simpa [Instr.loadAt, Instr.sureAddr, asAddr] using hv
        · cases hx
       simp only [List.mapM_cons, resV, Sem.run_bind] at hv' ⊢
       simp only [hv', Result.andThen_ok, h1, Sem.run_pure]
     · cases i with
       | zero => simpa using hr
       | succ i => simpa using h3 i (by simpa using hi)

theorem ACalls.of_sem {f : FuncId} {fn : Func} {c : Code} {args : List AV} {R : AV → Heap → Prop} (hf : E.P.funcs[f]? = some fn) (hb : fn.body = some c) (hn : E.n = fn.ntmps) (hds : E.defs = [])
 (h : sem E c (fun j => args.getD j .dead) H (retK E.P fn.results.toList R)) : ACalls E.P E.Γ f args H R := by
 intro G w vs hW hl hr
 refine calls_of_wp hf hb ?_
 have hT : TRel E G w { tmps := vs.toArray ++ Array.replicate (fn.ntmps - vs.toArray.size) undef, defers := [] } (fun j => args.getD j .dead) := by
  refine ⟨by simp [hn]; omega, hds.symm, fun i => ?_⟩
  by_cases hi : i < args.length
  · have e : (vs.toArray ++ Array.replicate (fn.ntmps - vs.toArray.size) undef).getD i undef = vs.getD i undef := by
     simp only [Array.getD_eq_getD_getElem?]
     rw [Array.getElem?_append_left (by simpa [hl] using hi)]
     simp [List.getD_eq_getElem?_getD]
    show Rep G w ((vs.toArray ++ Array.replicate (fn.ntmps - vs.toArray.size) undef).getD i undef) (args.getD i .dead)
    rw [e]; exact hr i hi
  · have : args.getD i .dead = .dead := by simp [List.getD_eq_getElem?_getD, List.getElem?_eq_none (Nat.le_of_not_lt hi)]
    show Rep G w _ (args.getD i .dead)
    rw [this]; exact .dead _
 refine wp_mono (h G _ w hW hT) ?_
 have key : ∀ a' w', (∃ G' T' H', Ext G w G' w' ∧ WRel E.Γ G' H' w' ∧ TRel E G' w' a' T' ∧ resK E.P T' H' fn.results.toList fun xs => ret1 H' R (oneOrTup xs)) →
  a'.defers = [] ∧ ∃ v, (results fn a'.tmps).run E.P w' = .ok v w' ∧ ∃ v' G' r H', Ending.returned v = .returned v' ∧ Ext G w G' w' ∧ WRel E.Γ G' H' w' ∧ Rep G' w' v' r ∧ R r H' := by
  rintro a' w' ⟨G', T', H', xt, hW', hT', hq⟩
  obtain ⟨xs, hxs, H1, hle, hR⟩ := resK_spec _ _ hq
  obtain ⟨us, h1, h2, h3⟩ := res_sound hW' hT' xs hxs
  refine ⟨hT'.defers.trans hds, ?_⟩
  have hres : (results fn a'.tmps).run E.P w' = .ok (if h : us.toArray.size = 1 then us.toArray[0] else .tuple us.toArray) w' := by
   rw [results_eq]
   simp only [Sem.run_bind, Array.mapM_eq_mapM_toList, Sem.run_map, h1, Result.andThen_ok, Sem.run_pure]
  refine ⟨_, hres, _, G', oneOrTup xs, H1, rfl, xt, hW'.forget hle, ?_, hR⟩
  split
  · rename_i h1'
    have hus : us.length = 1 := by simpa using h1'
    cases us with
    | nil => simp at hus
    | cons u us =>
      cases us with
      | nil =>
        cases xs with
        | nil => simp at h2
        | cons x xs =>
          cases xs with
          | nil => simpa [oneOrTup] using h3 0 (by simp)
          | cons => simp at h2
      | cons => simp at hus
  · rename_i h1'
    have hus : us.length ≠ 1 := by simpa using h1'
    have : oneOrTup xs = .tup xs := by
     cases xs with
     | nil => rfl
     | cons x xs =>
       cases xs with
       | nil => exact absurd h2 hus
       | cons => rfl
    rw [this]
    exact .tup us xs h2 h3
 rintro e a' w' ⟨G', T', H', xt, hW', hT', hq⟩
 cases e with
 | normal => exact key a' w' ⟨G', T', H', xt, hW', hT', hq⟩
 | ret => exact key a' w' ⟨G', T', H', xt, hW', hT', hq⟩
 | exit => exact hq.elim
 | goto => exact hq.elim
 | panic => exact hq.elim
 | outgrown => exact hq.elim

theorem ACalls.mono {f : FuncId} {args : List AV} {R R' : AV → Heap → Prop} (h : ACalls P Γ f args H R) (hr : ∀ r H', R r H' → R' r H') : ACalls P Γ f args H R' := by
 intro G w vs hW hl ha
 refine (h G w vs hW hl ha).mono ?_
 rintro e w' ⟨v, G', r, H', h1, h2, h3, h4, h5⟩
 exact ⟨v, G', r, H', h1, h2, h3, h4, hr _ _ h5⟩

end Go.Av
