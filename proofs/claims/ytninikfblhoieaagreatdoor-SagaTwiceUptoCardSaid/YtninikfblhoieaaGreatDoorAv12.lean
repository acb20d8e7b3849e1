/- New variables, stores, calls, zeros appended; every operation of a region; regions in the order of the text. -/
import Derived.Test.YtninikfblhoieaaGreatDoorAv11b
set_option linter.all false

namespace Go.Av
open Go Go.RowKit

variable {E : Env} {Γ : Nat → Option AV} {G : Ghost} {H H' : Heap} {w : World} {a : Act} {T : Tm} {P : Program}

def Comes1 (Γ : Nat → Option AV) (P : Program) (G : Ghost) (w : World) (s : Sem Value) (K : AV → Heap → Prop) : Prop :=
 ∃ v w' G' r H1, s.run P w = .ok v w' ∧ Ext G w G' w' ∧ WRel Γ G' H1 w' ∧ Rep G' w' v r ∧ K r H1

theorem new_sound (hW : WRel Γ G H w) {vs : Array Value} {cs : List AV} {e : TypeId} {K : AV → Heap → Prop} (hr : Row G w vs cs) (h : ∀ o, H o = none → K (.ptr o 0) (H.upd o (.cells cs))) :
 ∃ G' r H1, Ext G w G' (w.alloc (.cells vs e)) ∧ WRel Γ G' H1 (w.alloc (.cells vs e)) ∧ Rep G' (w.alloc (.cells vs e)) (.pointer (some ⟨w.heap.size, 0, none⟩)) r ∧ K r H1 := by
 obtain ⟨o, ho, hHo⟩ := hW.fresh
 have x := Ext.addObj hW (.cells vs e) ho
 refine ⟨_, _, _, x, hW.addObj (.cells vs e) ho (.cells cs) rfl ?_, ?_, h o hHo⟩
 · refine ⟨?_, by simp [Ghost.addObj], vs, e, ?_, hr.1, fun i hi => ⟨(hr.2 i hi).2, (hr.2 i hi).1.ext x⟩⟩
   · have := hW.base; simp only [Ghost.addObj, if_true]; exact this
   · simp only [Ghost.addObj, if_true]; exact World.heap_alloc_new w _
 · have := Rep.ptr (G := G.addObj w.heap.size o) (w := w.alloc (.cells vs e)) o 0 (by simp [Ghost.addObj])
   simpa [Ghost.addObj] using this

theorem alloc_sound {t : TypeId} {K : AV → Heap → Prop} (hW : WRel Γ G H w) (h : allocK (zeroCells P t) H K) : Comes1 Γ P G w (Instr.alloc t true (.tuple #[])) K := by
 unfold allocK at h
 split at h <;> try (exact h.elim)
 rename_i cs hz
 cases hs : cs.all AV.single with
 | false => rw [hs] at h; exact h.elim
 | true =>
 rw [hs] at h
 obtain ⟨zv, h1, h2, _⟩ := zero_row hz hs G w
 obtain ⟨G', r, H1, x1, x2, x3, x4⟩ := new_sound (e := t) hW h2 h
 refine ⟨_, _, G', r, H1, ?_, x1, x2, x3, x4⟩
 simp only [Instr.alloc, Sem.run_bind, h1, Result.andThen_ok, newVar, newRow, run_newObj, Sem.run_pure, World.alloc_eq]

theorem box_sound {t : TypeId} {x : Value} {ax : AV} {K : AV → Heap → Prop} (hW : WRel Γ G H w) (hx : Rep G w x ax) (h : allocK (some ax.cells) H K) : Comes1 Γ P G w (Instr.box t x) K := by
 unfold allocK at h
 simp only [] at h
 cases hs : ax.cells.all AV.single with
 | false => rw [hs] at h; exact h.elim
 | true =>
 rw [hs] at h
 obtain ⟨h1, h2⟩ := hx.cells hs
 have hr : Row G w x.cells ax.cells := ⟨h1, fun i hi => ⟨by have := (h2 i hi).1; simpa [List.getD_eq_getElem?_getD] using this, (h2 i hi).2⟩⟩
 obtain ⟨G', r, H1, x1, x2, x3, x4⟩ := new_sound (e := t) hW hr h
 exact ⟨_, _, G', r, H1, by simp only [Instr.box, newVar, newRow, Sem.run_bind, run_newObj, Result.andThen_ok, Sem.run_pure, World.alloc_eq], x1, x2, x3, x4⟩

theorem store_sound {t : TypeId} {p x : Value} {ap ax : AV} {H1 : Heap} (hW : WRel Γ G H w) (hp : Rep G w p ap) (hx : Rep G w x ax) (h : storeE P H t ap ax = some H1) :
 ∃ w', (Instr.storeAt t p x).run P w = .ok () w' ∧ Ext G w G w' ∧ WRel Γ G H1 w' := by
 unfold storeE at h
 cases hT : hasT P t with
 | false => rw [hT] at h; cases h
 | true =>
 rw [hT] at h
 simp only [cond_true] at h
 unfold st at h
 split at h <;> try (cases h; done)
 rename_i o off
 split at h <;> try (cases h; done)
 rename_i cs hcs
 split at h <;> try (cases h; done)
 rename_i hc
 injection h with h; subst h
 simp only [Bool.and_eq_true, decide_eq_true_eq] at hc
 obtain ⟨⟨hn, hle⟩, hs⟩ := hc
 obtain ⟨rfl, hu⟩ := hp.inv_ptr
 obtain ⟨c1, c2⟩ := hx.cells hs
 have hok := (hW.obj o _ hcs).2
 obtain ⟨h1, h2, c, el, h3, h4, h5⟩ := hok
 have hrow : Row G w x.cells ax.cells := ⟨c1, fun i hi => ⟨by have := (c2 i hi).1; simpa [List.getD_eq_getElem?_getD] using this, (c2 i hi).2⟩⟩
 have hst := run_storeCells_at P (G.loc o) off el x.cells.toList 0 c w h3 (by simp; omega) (oneCells hrow)
 simp only [Nat.add_zero] at hst
 rw [setRow_setBlock h3] at hst
 have key := hW.setObj hcs rfl (x' := .cells (splice cs off ax.cells)) rfl (.cells (c.toList.take off ++ x.cells.toList ++ c.toList.drop (off + x.cells.toList.length)).toArray el) (fun w' hw' xt => by
  subst hw'
  refine ⟨h1, h2, _, el, setBlock_heap_same w _ _ (Array.getElem?_eq_some_iff.1 h3).1, ?_, fun i hi => ?_⟩
  · rw [splice_length _ _ _ hle]; simp; omega
  · rw [splice_length _ _ _ hle] at hi
    rw [splice_getD _ _ _ _ hle]
    have hget : ((c.toList.take off ++ x.cells.toList ++ c.toList.drop (off + x.cells.toList.length)).toArray).getD i undef = if off ≤ i ∧ i < off + ax.cells.length then x.cells.getD (i - off) undef else c.getD i undef := by
     simp only [Array.getD_eq_getD_getElem?, List.getElem?_toArray, Array.length_toList]
     by_cases hc1 : i < off
     · rw [if_neg (by omega), List.append_assoc, List.getElem?_append_left (by simp; omega), List.getElem?_take_of_lt hc1]; simp
     · by_cases hc2 : i < off + ax.cells.length
       · rw [if_pos ⟨by omega, hc2⟩, List.getElem?_append_left (by simp; omega), List.getElem?_append_right (by simp; omega)]
         simp [Nat.min_eq_left (show off ≤ c.size by omega)]
       · rw [if_neg (by omega), List.getElem?_append_right (by simp; omega), List.getElem?_drop]
         rw [show off + x.cells.size + (i - (List.take off c.toList ++ x.cells.toList).length) = i by simp; omega]
         simp
    rw [hget]
    by_cases hc : off ≤ i ∧ i < off + ax.cells.length
    · rw [if_pos hc, if_pos hc]
      exact ⟨(hrow.2 _ (by omega)).2, (hrow.2 _ (by omega)).1.ext xt⟩
    · rw [if_neg hc, if_neg hc]
      exact ⟨(h5 i hi).1, (h5 i hi).2.ext xt⟩)
 refine ⟨_, ?_, key.1, key.2⟩
 simp only [Instr.storeAt, Instr.sureAddr, Sem.run_bind, Sem.run_pure, Result.andThen_ok, storeVar, run_sizeOf_has hT]
 rw [if_neg (by simp; omega)]
 simp only [Sem.run_bind, Sem.run_pure, Result.andThen_ok, hst]


theorem call_sound {f : AV} {fv : Value} {args : Array Value} {as : List AV} {K : AV → Heap → Prop} {ty : TypeId} (hP : E.P = P) (hW : WRel E.Γ G H w) (hf : Rep G w fv f) (hl : args.size = as.length)
 (ha : ∀ i, i < as.length → Rep G w (args.getD i undef) (as.getD i .dead)) (h : callN E f as H K) :
 ∃ g vs, (do { let d ← (Deferred.ofValue fv args); invoke d.target d.args } : Sem Next).run P w = .ok (.enter g vs) w ∧
   Calls P g vs w fun e w' => ∃ v G' r H1, e = .returned v ∧ Ext G w G' w' ∧ WRel E.Γ G' H1 w' ∧ Rep G' w' v r ∧ K r H1 := by
 subst hP
 unfold callN at h
 split at h <;> try (exact h.elim)
 rename_i g first captured
 cases he : enters E.P g with
 | false => rw [he] at h; exact h.elim
 | true =>
 rw [he] at h
 simp only [cond_true] at h
 obtain ⟨v1, v2, rfl, hl1, hl2, hr1, hr2⟩ := hf.inv_fn
 have hen : ∃ fn, E.P.funcs[g]? = some fn ∧ (fn.name == "runtime.NumGoroutine") = false ∧ fn.body.isNone = false := by
  unfold enters at he
  split at he
  · rename_i fn hfn
    simp only [Bool.and_eq_true, Bool.not_eq_true'] at he
    refine ⟨fn, hfn, he.1, ?_⟩
    have := he.2
    cases hb : fn.body <;> simp_all
  · cases he
 obtain ⟨fn, hfn, hn1, hn2⟩ := hen
 refine ⟨g, (v1 ++ args.toList ++ v2).toArray, ?_, ?_⟩
 · have e : v1.toArray ++ args ++ v2.toArray = (v1 ++ args.toList ++ v2).toArray := by apply Array.ext'; simp
   simp only [Deferred.ofValue, Sem.run_bind, Sem.run_pure, Result.andThen_ok, invoke, callFunc, run_program, hfn, hn1, Bool.false_eq_true, if_false, hn2, e]
 · refine h G w (v1 ++ args.toList ++ v2) hW (by simp [hl1, hl2, hl]) (fun i hi => ?_)
   have hd : ∀ (l1 l2 : List Value) (i : Nat), (l1 ++ l2).getD i undef = if i < l1.length then l1.getD i undef else l2.getD (i - l1.length) undef := fun l1 l2 i => by
    simp only [List.getD_eq_getElem?_getD, List.getElem?_append]; split <;> rfl
   have hd' : ∀ (l1 l2 : List AV) (i : Nat), (l1 ++ l2).getD i .dead = if i < l1.length then l1.getD i .dead else l2.getD (i - l1.length) .dead := fun l1 l2 i => by
    simp only [List.getD_eq_getElem?_getD, List.getElem?_append]; split <;> rfl
   simp only [List.length_append] at hi
   rw [hd, hd']
   simp only [List.length_append, Array.length_toList, hl1, hl]
   by_cases h1 : i < first.length + as.length
   · rw [if_pos h1, if_pos h1, hd, hd', hl1]
     by_cases h2 : i < first.length
     · rw [if_pos h2, if_pos h2]; exact hr1 i h2
     · rw [if_neg h2, if_neg h2]
       have := ha (i - first.length) (by omega)
       simpa [List.getD_eq_getElem?_getD] using this
   · rw [if_neg h1, if_neg h1]
     exact hr2 _ (by omega)

theorem grow_sound {ts : Array TypeId} {t u ty e : TypeId} {k : IntKind} {x y : Value} {ax ay : AV} {K : AV → Heap → Prop} (hW : WRel Γ G H w) (h0 : ts[0]? = some t) (h1 : ts[1]? = some u)
 (ht : P.underlying t = some (.slice e)) (hu : P.underlying u = some (.int k)) (hok : appOk P e = true)
 (hx : Rep G w x ax) (hy : Rep G w y ay) (h : growK (P.cellsOf e) ax ay H K) : Comes1 Γ P G w (Builtin.append_ ts ty #[x, y]) K := by
 obtain ⟨i, z, hi, hz, hsz, hzs, hpos, hby, _⟩ := appOk_spec hok
 have hbytes : P.bytesOf e = i.bytes := by simp [Program.bytesOf, hi]
 unfold growK at h
 split at h <;> try (exact h.elim)
 rename_i s n
 obtain ⟨hn0, hn1, hk⟩ := h
 obtain ⟨rfl, _⟩ := hy.inv_sc
 have hmax : n ≤ 1073741824 := hn1
 have hwrap : IntKind.i64.wrap n = n := by
  have : IntKind.i64.wrap n = (let m := n % (2 ^ 64 : Int); if (true && decide (m ≥ (2 ^ 63 : Int))) = true then m - (2 ^ 64 : Int) else m) := rfl
  rw [this]
  have : n % (2 ^ 64 : Int) = n := Int.emod_eq_of_lt (by omega) (by omega)
  simp only [this]
  rw [if_neg]
  simp; omega
 -- the shape of x: a slice without room
 have hshape : ∃ base, x = .slice base 0 0 := by
  rcases hx.inv_lst with ⟨rfl, _⟩ | ⟨b, off, cap, vs, rfl, _, _, _, _, _, _, hp⟩
  · exact ⟨none, rfl⟩
  · have : cap = 0 := hp
    subst this; exact ⟨_, rfl⟩
 obtain ⟨base, rfl⟩ := hshape
 obtain ⟨tk, htk, hHk⟩ := hW.fresh
 have hge := grownCap_ge w n.toNat 0 e
 have hfirst : (Builtin.firstCells i.size 0 (.slice base 0 0)).run P w.drew = .ok #[] w.drew := by
  cases base with
  | none => rfl
  | some b => simp [Builtin.firstCells, loadCells, loadCellsFrom]
 have hcells : (#[] ++ Builtin.zeroCells z.cells n.toNat ++ Builtin.zeroCells z.cells (grownCap w n.toNat 0 e - n.toNat) : Array Value).size = grownCap w n.toNat 0 e * i.size := by
  simp only [Array.size_append, size_zeroCells', hzs, Array.size_empty, Nat.zero_add, ← Nat.add_mul]
  congr 1; omega
 obtain ⟨x1, x2⟩ := tok_new hW (n := 0) (L := 0) (c := #[] ++ Builtin.zeroCells z.cells n.toNat ++ Builtin.zeroCells z.cells (grownCap w n.toNat 0 e - n.toNat)) (e := e) (.inl ⟨htk, hHk⟩)
 have hrun : (Builtin.append_ ts ty #[.slice base 0 0, .int .i64 n]).run P w = .ok (.slice (some ⟨w.heap.size, 0, none⟩) n.toNat (grownCap w n.toNat 0 e)) (w.drew.alloc (.cells (#[] ++ Builtin.zeroCells z.cells n.toNat ++ Builtin.zeroCells z.cells (grownCap w n.toNat 0 e - n.toNat)) e)) := by
  have hns : Builtin.nextslicecap n.toNat 0 * i.bytes ≤ 281474976710656 := by
   have h2 := nextslicecap_le (need := n.toNat) (old := 0) (by omega)
   have : Builtin.nextslicecap n.toNat 0 * i.bytes ≤ (2 * 1073741824) * 1024 := Nat.mul_le_mul (by omega) hby
   omega
  have hns' : ¬ (281474976710656 < Builtin.nextslicecap n.toNat 0 * i.bytes) := by omega
  have hnb : n * (i.bytes : Int) ≤ 1073741824 * 1024 := Int.mul_le_mul (by omega) (by omega) (by omega) (by omega)
  have hnb' : ¬ (281474976710656 < n * (i.bytes : Int)) := by omega
  have hneg : ¬ n < 0 := by omega
  have hnz : ¬ n ≤ 0 := by omega
  have hne : n.toNat ≠ 0 := by omega
  have hsz0 : i.size ≠ 0 := by omega
  have hmx : ¬ (IntKind.i64.max < max n 0) := by
   have : IntKind.i64.max = 9223372036854775807 := by decide
   omega
  have hprod : n.toNat * i.size ≠ 0 := Nat.mul_ne_zero hne hsz0
  have hmx2 : ¬ (IntKind.i64.max < n) := by
   have : IntKind.i64.max = 9223372036854775807 := by decide
   omega
  have hforced : (Question.appendCap n.toNat 0 e).forced = false := rfl
  simp [Builtin.append_, h0, h1, run_underlying ht, run_underlying hu, sizeOf, typeInfo, hi, asInt, asIntOf, hwrap, hneg, hnz, hnb', hns', hne, hsz0, hprod, hmx, hmx2, hforced, zeroValue, hz, hfirst, grownCap, newRow]
  intro hbad; exfalso; omega
 exact ⟨_, _, _, _, _, hrun, x1, x2, by
  have := Rep.room (G := G.setTok w.heap.size tk 0 0 (#[] ++ Builtin.zeroCells z.cells n.toNat ++ Builtin.zeroCells z.cells (grownCap w n.toNat 0 e - n.toNat)).size) (w := w.drew.alloc (.cells (#[] ++ Builtin.zeroCells z.cells n.toNat ++ Builtin.zeroCells z.cells (grownCap w n.toNat 0 e - n.toNat)) e))
   w.heap.size (grownCap w n.toNat 0 e) (P.cellsOf e) tk n.toNat (by simp [Ghost.setTok]) hge (fun _ => ⟨by simp [Ghost.setTok], by simp only [Ghost.setTok, if_true, hcells, hsz]; exact Nat.le_refl _⟩)
  exact this, hk tk hHk⟩


theorem append_sound {ts : Array TypeId} {ty : TypeId} {x y : Value} {ax ay : AV} {K : AV → Heap → Prop} (hW : WRel Γ G H w) (hx : Rep G w x ax) (hy : Rep G w y ay) (h : appendK P ts ax ay H K) :
 Comes1 Γ P G w (Builtin.append_ ts ty #[x, y]) K := by
 unfold appendK at h
 split at h <;> try (exact h.elim)
 rename_i t u h0 h1
 split at h <;> try (exact h.elim)
 · rename_i e k ht hu
   cases hok : appOk P e with
   | false => rw [hok] at h; exact h.elim
   | true => rw [hok] at h; exact grow_sound hW h0 h1 ht hu hok hx hy h
 · rename_i e d hd ht hu
   cases hok : appOk P e with
   | false => rw [hok] at h; exact h.elim
   | true =>
     rw [hok] at h
     have hd' : ∀ k, d ≠ .int k := fun k e2 => hd k e2
     exact app_all hW h0 h1 ht hu hd' hok hx hy h


theorem take_flat (s : Nat) : ∀ (es : List AV) (n : Nat), (∀ e, e ∈ es → e.cells.length = s) → (es.take n).flatMap AV.cells = (es.flatMap AV.cells).take (n * s) := by
 intro es
 induction es with
 | nil => intro n _; simp
 | cons e es ih =>
   intro n h
   cases n with
   | zero => simp
   | succ n =>
     have h0 := h e (by simp)
     simp only [List.take_succ_cons, List.flatMap_cons, ih n (fun x hx => h x (by simp [hx]))]
     have e1 : (n + 1) * s = e.cells.length + n * s := by rw [h0, Nat.succ_mul, Nat.add_comm]
     rw [e1, List.take_length_add_append]

theorem Row.take {news : Array Value} {xs : List AV} (h : Row G w news xs) (n : Nat) : Row G w (news.toList.take n).toArray (xs.take n) := by
 have hl := h.1
 refine ⟨by simp [hl], fun i hi => ?_⟩
 have hi' : i < n ∧ i < xs.length := by simp at hi; omega
 have := h.2 i hi'.2
 rw [List.getD_eq_getElem?_getD] at this ⊢
 rw [List.getElem?_take_of_lt hi'.1]
 have e : ((news.toList.take n).toArray).getD i undef = news.getD i undef := by
  simp only [Array.getD_eq_getD_getElem?, List.getElem?_toArray]
  rw [List.getElem?_take_of_lt hi'.1]; simp
 rw [e]; exact this

theorem src_sound {s n m : Nat} {y : Value} {ay : AV} {xs : List AV} (hW : WRel Γ G H w) (hs : 0 < s) (hy : Rep G w y ay) (hm : srcLen ay = some m) (hn : n ≤ m) (h : srcCells s n H ay = some xs) :
 (Builtin.lenOf y).run P w = .ok m w ∧ ∃ news, (Builtin.firstCells s n y).run P w = .ok news w ∧ Row G w news xs ∧ xs.length = n * s := by
 unfold srcCells at h
 split at h
 · rename_i s' es p
   simp only [srcLen, Option.some.injEq] at hm
   subst hm
   split at h <;> try (cases h; done)
   rename_i hc
   injection h with h; subst h
   rcases hy.inv_lst with ⟨rfl, rfl⟩ | ⟨b, off, cap, vs, rfl, h1, h2, h3, h4, h5, h6, _⟩
   · have : n = 0 := by simpa using hn
     subst this
     exact ⟨rfl, #[], rfl, ⟨rfl, by intro i hi; simp at hi⟩, by simp⟩
   · by_cases hne : es = []
     · subst hne
       have : n = 0 := by simpa using hn
       subst this
       exact ⟨rfl, #[], by simpa [Builtin.firstCells] using run_loadCells (P := P) w ⟨b, off, none⟩ (0 * s) vs (fun k hk => by simp at hk), ⟨rfl, by intro i hi; simp at hi⟩, by simp⟩
     · have hs' := hc.resolve_right hne
       subst hs'
       have hnm : n * s' ≤ es.length * s' := Nat.mul_le_mul_right _ hn
       have hl := flatMap_length es s' h2
       refine ⟨rfl, ((List.range (n * s')).map vs).toArray, ?_, ?_, ?_⟩
       · have := run_loadCells (P := P) w ⟨b, off, none⟩ (n * s') vs (fun j hj => by rw [addr_add]; exact h4 j (by omega))
         simpa [Builtin.firstCells] using this
       · rw [take_flat s' es n h2]
         have hr : Row G w ((List.range (es.length * s')).map vs).toArray (es.flatMap AV.cells) := lst_row rfl h2 h3 h5
         have := hr.take (n * s')
         have e : ((((List.range (es.length * s')).map vs).toArray).toList.take (n * s')).toArray = ((List.range (n * s')).map vs).toArray := by
          congr 1
          show ((List.range (es.length * s')).map vs).take (n * s') = _
          rw [← List.map_take, List.take_range, Nat.min_eq_left hnm]
         rw [e] at this; exact this
       · rw [take_flat s' es n h2, List.length_take, hl]; omega
 · rename_i o off len cap
   simp only [srcLen, Option.some.injEq] at hm
   subst hm
   split at h <;> try (cases h; done)
   rename_i cs hcs
   split at h <;> try (cases h; done)
   rename_i hfit
   injection h with h; subst h
   obtain ⟨rfl, hu⟩ := hy.inv_ms
   obtain ⟨h1, h2, c, el, h3, h4, h5⟩ := (hW.obj o _ hcs).2
   refine ⟨rfl, ((List.range (n * s)).map fun k => c.getD (off + k) undef).toArray, ?_, ⟨?_, fun i hi => ?_⟩, ?_⟩
   · have := run_loadCells (P := P) w ⟨G.loc o, off, none⟩ (n * s) (fun k => c.getD (off + k) undef) (fun j hj => by
      rw [addr_add]
      have hk : off + j < c.size := by omega
      simp [World.cell?, h3, Array.getD_eq_getD_getElem?, hk])
     simpa [Builtin.firstCells] using this
   · simp; omega
   · have hi' : i < n * s := by simp at hi; omega
     have h6 := h5 (off + i) (by omega)
     have e : ((List.range (n * s)).map fun k => c.getD (off + k) undef).toArray.getD i undef = c.getD (off + i) undef := by
      simp [Array.getD_eq_getD_getElem?, hi']
     have e2 : ((cs.drop off).take (n * s)).getD i .dead = cs.getD (off + i) .dead := by
      simp only [List.getD_eq_getElem?_getD]
      rw [List.getElem?_take_of_lt hi', List.getElem?_drop]
     rw [e, e2]
     exact ⟨h6.2, h6.1⟩
   · simp; omega
 · cases h

theorem copy_sound {ts : Array TypeId} {ty : TypeId} {x y : Value} {ax ay : AV} {K : AV → Heap → Prop} (hW : WRel Γ G H w) (hx : Rep G w x ax) (hy : Rep G w y ay) (h : cpyK P ts ax ay H K) :
 Comes1 Γ P G w (Builtin.copy_ ts ty #[x, y]) K := by
 unfold cpyK at h
 split at h <;> try (exact h.elim)
 rename_i t h0
 split at h <;> try (exact h.elim)
 rename_i e ht
 cases hok : appOk P e with
 | false => rw [hok] at h; exact h.elim
 | true =>
 rw [hok] at h
 obtain ⟨i, z, hi, hz, hsz, hzs, hpos, hby, _⟩ := appOk_spec hok
 unfold cpy at h
 simp only [cond_true] at h
 split at h <;> try (exact h.elim)
 rename_i o off len cap
 split at h <;> try (exact h.elim)
 rename_i cs m hcs hm
 split at h <;> try (exact h.elim)
 rename_i xs hxs
 obtain ⟨hfit, hk⟩ := h
 rw [hsz] at hfit hxs
 obtain ⟨rfl, hu⟩ := hx.inv_ms
 obtain ⟨hlen, news, hcl, hrow, hnl⟩ := src_sound (P := P) hW hpos hy hm (Nat.min_le_left _ _) hxs
 have hok := (hW.obj o _ hcs).2
 obtain ⟨h1, h2, c, el, h3, h4, h5⟩ := hok
 have hns : news.size = min m len * i.size := by rw [hrow.1, hnl]
 have hle : off + xs.length ≤ cs.length := by rw [hnl]; exact hfit
 have hst := run_storeCells_at P (G.loc o) off el news.toList 0 c w h3 (by simp; omega) (oneCells hrow)
 simp only [Nat.add_zero] at hst
 rw [setRow_setBlock h3] at hst
 have key := hW.setObj hcs rfl (x' := .cells (splice cs off xs)) rfl (.cells (c.toList.take off ++ news.toList ++ c.toList.drop (off + news.toList.length)).toArray el) (fun w' hw' xt => by
  subst hw'
  refine ⟨h1, h2, _, el, setBlock_heap_same w _ _ (Array.getElem?_eq_some_iff.1 h3).1, ?_, fun j hj => ?_⟩
  · rw [splice_length _ _ _ hle]; simp; omega
  · rw [splice_length _ _ _ hle] at hj
    rw [splice_getD _ _ _ _ hle]
    have hget : ((c.toList.take off ++ news.toList ++ c.toList.drop (off + news.toList.length)).toArray).getD j undef = if off ≤ j ∧ j < off + xs.length then news.getD (j - off) undef else c.getD j undef := by
     have hne : news.size = xs.length := hrow.1
     simp only [Array.getD_eq_getD_getElem?, List.getElem?_toArray, Array.length_toList]
     by_cases hc1 : j < off
     · rw [if_neg (by omega), List.append_assoc, List.getElem?_append_left (by simp; omega), List.getElem?_take_of_lt hc1]; simp
     · by_cases hc2 : j < off + xs.length
       · rw [if_pos ⟨by omega, hc2⟩, List.getElem?_append_left (by simp; omega), List.getElem?_append_right (by simp; omega)]
         simp [Nat.min_eq_left (show off ≤ c.size by omega)]
       · rw [if_neg (by omega), List.getElem?_append_right (by simp; omega), List.getElem?_drop]
         rw [show off + news.size + (j - (List.take off c.toList ++ news.toList).length) = j by simp; omega]
         simp
    rw [hget]
    by_cases hc : off ≤ j ∧ j < off + xs.length
    · rw [if_pos hc, if_pos hc]
      exact ⟨(hrow.2 _ (by omega)).2, (hrow.2 _ (by omega)).1.ext xt⟩
    · rw [if_neg hc, if_neg hc]
      exact ⟨(h5 j hj).1, (h5 j hj).2.ext xt⟩)
 have hrun : (Builtin.copy_ ts ty #[.slice (some ⟨G.loc o, off, none⟩) len cap, y]).run P w = .ok (.int .i64 (min m len : Nat)) (setBlock w (G.loc o) (.cells (c.toList.take off ++ news.toList ++ c.toList.drop (off + news.toList.length)).toArray el)) := by
  have hmin : Nat.min m len = min m len := rfl
  simp [Builtin.copy_, h0, run_underlying ht, hlen, sizeOf, typeInfo, hi, hmin, hcl, hst, goInt]
 exact ⟨_, _, G, _, _, hrun, key.1, key.2, .sc _ rfl, hk⟩

theorem op_sound {o : Oper} {K : AV → Heap → Prop} {next : Act → World → Prop} {Q : Exit → Act → World → Prop} (hW : WRel E.Γ G H w) (hT : TRel E G w a T) (h : opK E T H o.op K)
 (hn : ∀ v w' G' r H1, Ext G w G' w' → WRel E.Γ G' H1 w' → Rep G' w' v r → K r H1 → next (a.put o.dst v) w') : o.wp E.P a w next Q := by
 have hev := rep_ev hW hT
 have fin : ∀ {s : Sem Value}, execOp a.eval o = (do pure (.value (← s))) → Comes1 E.Γ E.P G w s K → o.wp E.P a w next Q := by
  intro s hs ⟨v, w', G', r, H1, e1, e2, e3, e4, e5⟩
  unfold Oper.wp
  rw [hs]
  simp only [Sem.run_bind, e1, Result.andThen_ok, Sem.run_pure, Oper.upon]
  exact hn v w' G' r H1 e2 e3 e4 e5
 unfold opK at h
 cases hro : isRo o.op with
 | true =>
   rw [hro] at h
   simp only [cond_true] at h
   unfold pureK at h
   split at h <;> try (exact h.elim)
   rename_i r hr
   obtain ⟨v, w', G', e1, e2, e3, e4⟩ := ro_sound hW (Heap.le_refl H) hT hr
   unfold Oper.wp
   rw [e1]
   exact hn v w' G' r H e2 e3 e4 h
 | false =>
   rw [hro] at h
   simp only [cond_false] at h
   obtain ⟨dst, op, type, pos, after, guard⟩ := o
   dsimp only at h hro
   clear hro
   unfold hwK at h
   split at h
   · exact fin rfl (alloc_sound hW h)
   · exact fin rfl (box_sound hW (hev _) h)
   · rename_i t p x
     unfold heapK at h
     split at h <;> try (exact h.elim)
     rename_i H1 hst
     obtain ⟨w', e1, e2, e3⟩ := store_sound hW (hev p) (hev x) hst
     unfold Oper.wp
     have : (execOp a.eval ⟨dst, .store t p x, type, pos, after, guard⟩).run E.P w = .ok .skip w' := by
      simp only [execOp, Sem.run_bind, e1, Result.andThen_ok, Sem.run_pure]
     rw [this]
     exact hn undef w' G .dead H1 e2 e3 (.dead _) h
   · rename_i f args ts
     have hargs := getD_map_ev a.eval (ev E T) hev args.toList
     obtain ⟨g, vs, e1, e2⟩ := call_sound (E := E) (P := E.P) (f := ev E T f) (fv := a.eval f) (args := args.map a.eval) (as := args.toList.map (ev E T)) (ty := type) rfl hW (hev f) (by simp) (fun i hi => by
      have := hargs i hi; simpa [List.getD_eq_getElem?_getD] using this) h
     unfold Oper.wp
     have : (execOp a.eval ⟨dst, .call ⟨.value f, args, ts⟩, type, pos, after, guard⟩).run E.P w = .ok (.enter g vs) w := by
      rw [← e1]; simp only [execOp, resolve]
     rw [this]
     refine e2.mono ?_
     rintro e w' ⟨v, G', r, H1, rfl, k1, k2, k3, k4⟩
     exact hn v w' G' r H1 k1 k2 k3 k4
   · rename_i args ts
     split at h <;> try (exact h.elim)
     rename_i x y hargs
     have he : args.map a.eval = #[a.eval x, a.eval y] := by
      have : args = #[x, y] := by apply Array.ext'; simpa using hargs
      rw [this]; simp
     refine fin (s := Builtin.append_ ts type #[a.eval x, a.eval y]) ?_ (append_sound hW (hev x) (hev y) h)
     simp only [execOp, resolve, pure_bind, invoke, builtin, he]
   · rename_i args ts
     split at h <;> try (exact h.elim)
     rename_i x y hargs
     have he : args.map a.eval = #[a.eval x, a.eval y] := by
      have : args = #[x, y] := by apply Array.ext'; simpa using hargs
      rw [this]; simp
     refine fin (s := Builtin.copy_ ts type #[a.eval x, a.eval y]) ?_ (copy_sound hW (hev x) (hev y) h)
     simp only [execOp, resolve, pure_bind, invoke, builtin, he]
   · exact h.elim

end Go.Av
