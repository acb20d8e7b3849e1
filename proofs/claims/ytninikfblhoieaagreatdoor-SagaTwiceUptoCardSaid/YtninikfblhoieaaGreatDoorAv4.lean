/- Each operation that leaves the abstract heap alone does on the machine what it does to abstract values. -/
import Derived.Test.YtninikfblhoieaaGreatDoorAv3
import Derived.Laws.Sem
import Derived.Laws.Cells
import Derived.Laws.Append
import Derived.Laws.CopyRow
import Derived.Laws.Small
set_option linter.all false

namespace Go.Av
open Go Go.RowKit

variable {E : Env} {G : Ghost} {H H' : Heap} {w : World} {a : Act} {T : Tm}

structure TRel (E : Env) (G : Ghost) (w : World) (a : Act) (T : Tm) : Prop where
 size : E.n ≤ a.tmps.size
 defers : a.defers = E.defs
 rep : ∀ i, Rep G w (a.tmps.getD i undef) (T i)

theorem TRel.ext {G' : Ghost} {w' : World} (h : TRel E G w a T) (x : Ext G w G' w') : TRel E G' w' a T := ⟨h.size, h.defers, fun i => (h.rep i).ext x⟩

theorem rep_ofConst (G : Ghost) (w : World) (v : Value) : Rep G w v (ofConst v) := by
 unfold ofConst
 split
 · exact .nil 0 .exact (by intro t h; cases h)
 · cases hp : plain v
   · exact .dead v
   · exact .sc v hp

theorem rep_ev (hW : WRel E.Γ G H w) (hT : TRel E G w a T) (x : Operand) : Rep G w (a.eval x) (ev E T x) := by
 cases x with
 | tmp t => exact hT.rep t
 | const v => exact rep_ofConst G w v
 | global g =>
   simp only [ev, Act.eval]
   cases e : E.Γ g with
   | none => exact .dead _
   | some av => exact hW.glob g av e
 | func f => exact .fn (.func f) [] [] [] [] rfl rfl (by intro i h; cases h) (by intro i h; cases h)

theorem Rep.inv_sc {v v' : Value} (h : Rep G w v (.sc v')) : v = v' ∧ plain v = true := by cases h; exact ⟨rfl, by assumption⟩
theorem Rep.inv_agg {v : Value} {cs : List AV} (h : Rep G w v (.agg cs)) : ∃ vs : List Value, v = .agg vs.toArray ∧ vs.length = cs.length ∧ (∀ i, i < cs.length → (cs.getD i .dead).single = true) ∧ ∀ i, i < cs.length → Rep G w (vs.getD i undef) (cs.getD i .dead) := by
 cases h with | agg vs cs hl hs h => exact ⟨vs, rfl, hl, hs, h⟩
theorem Rep.inv_tup {v : Value} {cs : List AV} (h : Rep G w v (.tup cs)) : ∃ vs : List Value, v = .tuple vs.toArray ∧ vs.length = cs.length ∧ ∀ i, i < cs.length → Rep G w (vs.getD i undef) (cs.getD i .dead) := by
 cases h with | tup vs cs hl h => exact ⟨vs, rfl, hl, h⟩
theorem Rep.inv_ptr {v : Value} {o off : Nat} (h : Rep G w v (.ptr o off)) : v = .pointer (some ⟨G.loc o, off, none⟩) ∧ G.used o = true := by
 cases h with | ptr o off hu => exact ⟨rfl, hu⟩
theorem Rep.inv_ms {v : Value} {o off len cap : Nat} (h : Rep G w v (.ms o off len cap)) : v = .slice (some ⟨G.loc o, off, none⟩) len cap ∧ G.used o = true := by
 cases h with | ms o off len cap hu => exact ⟨rfl, hu⟩
theorem Rep.inv_yl {v : Value} {o : Nat} (h : Rep G w v (.yl o)) : v = .func (.yield (G.loc o)) #[] #[] ∧ G.used o = true := by
 cases h with | yl o hu => exact ⟨rfl, hu⟩
theorem Rep.inv_mp {v : Value} {o : Nat} (h : Rep G w v (.mp o)) : v = .map (some (G.loc o)) ∧ G.used o = true := by
 cases h with | mp o hu => exact ⟨rfl, hu⟩
theorem Rep.inv_fn {v : Value} {f : Fn} {a1 a2 : List AV} (h : Rep G w v (.fn f a1 a2)) : ∃ v1 v2 : List Value, v = .func f v1.toArray v2.toArray ∧ v1.length = a1.length ∧ v2.length = a2.length ∧ (∀ i, i < a1.length → Rep G w (v1.getD i undef) (a1.getD i .dead)) ∧ (∀ i, i < a2.length → Rep G w (v2.getD i undef) (a2.getD i .dead)) := by
 cases h with | fn f v1 v2 a1 a2 h1 h2 r1 r2 => exact ⟨v1, v2, rfl, h1, h2, r1, r2⟩
theorem Rep.inv_cp {v : Value} {cs : List AV} {off : Nat} (h : Rep G w v (.cp cs off)) : ∃ (b o : Nat) (vs : Nat → Value), v = .pointer (some ⟨b, o + off, none⟩) ∧ (∀ k, k < cs.length → (cs.getD k .dead).single = true) ∧
 (∀ k, k < cs.length → w.cell? ⟨b, o + k, none⟩ = some (vs k)) ∧ (∀ k, k < cs.length → Rep G w (vs k) (cs.getD k .dead)) ∧ (cs.length = 0 ∨ G.reads b (o + cs.length)) := by
 cases h with | cp b o off cs vs hs hc hr hrole => exact ⟨b, o, vs, rfl, hs, hc, hr, hrole⟩

theorem Rep.oneCell {v : Value} {x : AV} (h : Rep G w v x) (hs : x.single = true) : v.oneCell' = true := by
 cases h with
 | sc v h => cases v <;> first | rfl | (simp [plain] at h)
 | agg => simp [AV.single] at hs
 | tup => simp [AV.single] at hs
 | dead => simp [AV.single] at hs
 | _ => rfl

theorem Rep.cells_one {v : Value} {x : AV} (h : Rep G w v x) (hs : x.single = true) : v.cells = #[v] ∧ x.cells = [x] := by
 have := h.oneCell hs
 constructor
 · cases v <;> simp_all [Value.oneCell', Value.cells]
 · cases x <;> simp_all [AV.single, AV.cells]

theorem Rep.cells {v : Value} {x : AV} (h : Rep G w v x) (hs : x.cells.all AV.single = true) :
 v.cells.size = x.cells.length ∧ ∀ i, i < x.cells.length → Rep G w (v.cells.toList.getD i undef) (x.cells.getD i .dead) ∧ (x.cells.getD i .dead).single = true := by
 by_cases hx : x.single = true
 · obtain ⟨h1, h2⟩ := h.cells_one hx
   rw [h1, h2]
   refine ⟨rfl, fun i hi => ?_⟩
   have : i = 0 := by simpa using hi
   subst this
   exact ⟨h, hx⟩
 · cases x with
   | agg cs =>
     obtain ⟨vs, rfl, hl, h1, h2⟩ := h.inv_agg
     exact ⟨by simpa [Value.cells, AV.cells] using hl, fun i hi => ⟨by simpa [Value.cells, AV.cells] using h2 i hi, h1 i hi⟩⟩
   | tup vs => simp [AV.cells, AV.single] at hs
   | dead => simp [AV.cells, AV.single] at hs
   | yl o => simp [AV.cells, AV.single] at hs
   | room s t k => simp [AV.cells, AV.single] at hs
   | _ => simp [AV.single] at hx

theorem addr_add (b o n : Nat) : (⟨b, o, none⟩ : Addr).add n = ⟨b, o + n, none⟩ := by
 unfold Addr.add; split
 · rename_i h; subst h; rfl
 · rfl

theorem run_isAgg {P : Program} {t : TypeId} {b : Bool} (h : kindT P t = some b) (w : World) : (isAgg t).run P w = .ok b w := by
 unfold kindT at h
 obtain ⟨d, hd, hb⟩ := Option.map_eq_some_iff.1 h
 subst hb
 unfold isAgg
 simp only [Sem.run_bind, run_underlying hd, Result.andThen_ok]
 cases d <;> rfl

theorem info_of {P : Program} {t : TypeId} {d : TypeDesc} (h : P.underlying t = some d) : ∃ i, P.info? t = some i ∧ P.cellsOf t = i.size := by
 unfold Program.underlying at h
 cases hi : P.info? t with
 | none => simp [hi] at h
 | some i => exact ⟨i, rfl, by simp [Program.cellsOf, hi]⟩

theorem run_sizeOf {P : Program} {t : TypeId} {i : TypeInfo} (h : P.info? t = some i) (w : World) : (sizeOf t).run P w = .ok (P.cellsOf t) w := by
 simp [sizeOf, typeInfo, h, Program.cellsOf]

theorem kind_info {P : Program} {t : TypeId} {b : Bool} (h : kindT P t = some b) : ∃ i, P.info? t = some i ∧ P.cellsOf t = i.size := by
 unfold kindT at h
 obtain ⟨d, hd, _⟩ := Option.map_eq_some_iff.1 h
 exact info_of hd

def ReadsRow (G : Ghost) (w : World) (b o : Nat) (cs : List AV) : Prop :=
 ∃ vs : Nat → Value, (∀ k, k < cs.length → (cs.getD k .dead).single = true) ∧ (∀ k, k < cs.length → w.cell? ⟨b, o + k, none⟩ = some (vs k)) ∧ (∀ k, k < cs.length → Rep G w (vs k) (cs.getD k .dead))

theorem getD_drop_take (cs : List AV) (off n k : Nat) (h : k < n) (hn : off + n ≤ cs.length) : ((cs.drop off).take n).getD k .dead = cs.getD (off + k) .dead := by
 simp [List.getD_eq_getElem?_getD, List.getElem?_take, h, List.getElem?_drop]

theorem cut_sound {P : Program} {t : TypeId} {b o off : Nat} {cs : List AV} {r : AV} (hr : ReadsRow G w b o cs) (h : cutE cs off (kindT P t) (P.cellsOf t) = some r) :
 ∃ v, (loadVar t ⟨b, o + off, none⟩).run P w = .ok v w ∧ Rep G w v r := by
 obtain ⟨vs, hs, hc, hp⟩ := hr
 cases hk : kindT P t with
 | none => simp [hk, cutE] at h
 | some ag =>
   obtain ⟨i, hi, hsz⟩ := kind_info hk
   have hag := run_isAgg hk w
   rw [hk] at h
   cases ag with
   | true =>
     simp only [cutE] at h
     split at h
     · rename_i hle
       injection h with h; subst h
       have hl := run_loadCells (P := P) w ⟨b, o + off, none⟩ (P.cellsOf t) (fun j => vs (off + j)) (fun j hj => by
        rw [addr_add, Nat.add_assoc]; exact hc _ (by omega))
       refine ⟨.agg ((List.range (P.cellsOf t)).map fun j => vs (off + j)).toArray, ?_, ?_⟩
       · simp only [loadVar, Sem.run_bind, hag, Result.andThen_ok, if_true, run_sizeOf hi, hl]
         rfl
       · refine .agg _ _ (by simp; omega) (fun k hk' => ?_) (fun k hk' => ?_)
         all_goals
          simp at hk'
          rw [getD_drop_take _ _ _ _ (by omega) hle]
         · exact hs _ (by omega)
         · have : ((List.range (P.cellsOf t)).map fun j => vs (off + j)).getD k undef = vs (off + k) := by
            simp [List.getD_eq_getElem?_getD, List.getElem?_range (show k < P.cellsOf t by omega)]
           rw [this]
           exact hp _ (by omega)
     · cases h
   | false =>
     simp only [cutE] at h
     obtain ⟨hlt, he⟩ := List.getElem?_eq_some_iff.1 h
     have hget : cs.getD off .dead = r := by simp [List.getD_eq_getElem?_getD, h]
     refine ⟨vs off, ?_, by have := hp off hlt; rwa [hget] at this⟩
     simp only [loadVar, Sem.run_bind, hag, Result.andThen_ok, Bool.false_eq_true, if_false, run_load, hc off hlt]

theorem Rep.row {v : Value} {cs : List AV} {off : Nat} (h : Rep G w v (.cp cs off)) : ∃ b o, v = .pointer (some ⟨b, o + off, none⟩) ∧ ReadsRow G w b o cs := by
 obtain ⟨b, o, vs, rfl, hs, hc, hr, _⟩ := h.inv_cp
 exact ⟨b, o, rfl, vs, hs, hc, hr⟩

theorem ObjOk.row {Γ : Nat → Option AV} {o : Nat} {cs : List AV} (hW : WRel Γ G H w) (h : H o = some (.cells cs)) : ReadsRow G w (G.loc o) 0 cs := by
 obtain ⟨_, _, _, c, el, hh, hsz, hr⟩ := hW.obj o _ h
 refine ⟨fun k => c.getD k undef, fun k hk => (hr k hk).1, fun k hk => ?_, fun k hk => (hr k hk).2⟩
 simp [World.cell?, hh, Array.getElem?_eq_getElem (show k < c.size by omega)]

theorem load_sound {Γ : Nat → Option AV} {P : Program} {t : TypeId} {p : Value} {ap r : AV} (hW : WRel Γ G H' w) (hl : H ≤ H') (hp : Rep G w p ap) (h : loadE P H t ap = some r) :
 ∃ v, (Instr.loadAt t p).run P w = .ok v w ∧ Rep G w v r := by
 unfold loadE ld at h
 split at h
 · rename_i cs off
   obtain ⟨b, o, rfl, hr⟩ := hp.row
   obtain ⟨v, hv, hr⟩ := cut_sound hr h
   exact ⟨v, by simpa [Instr.loadAt, Instr.sureAddr] using hv, hr⟩
 · rename_i o off
   obtain ⟨rfl, _⟩ := hp.inv_ptr
   split at h
   · rename_i cs hcs
     have hr := ObjOk.row hW (hl _ _ hcs)
     obtain ⟨v, hv, hr⟩ := cut_sound hr h
     refine ⟨v, ?_, hr⟩
     simpa [Instr.loadAt, Instr.sureAddr] using hv
   · cases h
 · cases h

end Go.Av
