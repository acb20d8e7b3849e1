/- The relation between a world and an abstract heap; how it lasts under new blocks, stores and draws. -/
import Derived.Test.YtninikfblhoieaaGreatDoorAv1
set_option linter.all false

namespace Go.Av
open Go Go.RowKit

def AObj.block : AObj → Bool
 | .tok _ => false
 | _ => true

def ObjOk (G : Ghost) (w : World) (o : Nat) : AObj → Prop
 | .tok n => G.tl o = n
 | .cells cs => G.base ≤ G.loc o ∧ G.role (G.loc o) = .priv ∧ ∃ c el, w.heap[G.loc o]? = some (.cells c el) ∧ c.size = cs.length ∧
    ∀ i, i < cs.length → (cs.getD i .dead).single = true ∧ Rep G w (c.getD i undef) (cs.getD i .dead)
 | .map es => G.base ≤ G.loc o ∧ G.role (G.loc o) = .priv ∧ ∃ (arr : Array MapEntry) (clock : Nat), w.heap[G.loc o]? = some (.map arr clock) ∧ arr.size = es.length ∧
    ∀ i, i < es.length → ((arr.getD i default).key = .int .i64 (es.getD i (0, .dead)).1) ∧ Rep G w (arr.getD i default).val (es.getD i (0, .dead)).2
 | .siter s p => G.base ≤ G.loc o ∧ G.role (G.loc o) = .priv ∧ w.heap[G.loc o]? = some (.stringIter s p)
 | .raw ob vs ts => G.base ≤ G.loc o ∧ G.role (G.loc o) = .priv ∧ w.heap[G.loc o]? = some ob ∧ ∀ i, Rep G w (vs.getD i undef) (ts i)

structure WRel (Γ : Nat → Option AV) (G : Ghost) (H : Heap) (w : World) : Prop where
 base : G.base ≤ w.heap.size
 frame : Below G.base G.w0 w
 old : ∀ b, b < G.base → G.role b = .imm
 obj : ∀ o x, H o = some x → G.used o = true ∧ ObjOk G w o x
 inj : ∀ o o' x x', H o = some x → H o' = some x' → x.block = true → x'.block = true → G.loc o = G.loc o' → o = o'
 tokB : ∀ b t n, G.role b = .tok t n → G.base ≤ b ∧ G.used t = true ∧ ∃ c el, w.heap[b]? = some (.cells c el) ∧ c.size = G.bsize b
 fin : ∃ N, ∀ o, N ≤ o → G.used o = false
 glob : ∀ g a, Γ g = some a → Rep G w (.pointer (some ⟨g, 0, none⟩)) a

variable {Γ : Nat → Option AV} {G : Ghost} {H : Heap} {w : World}

theorem WRel.forget (h : WRel Γ G H w) {H1 : Heap} (hl : H1 ≤ H) : WRel Γ G H1 w :=
 ⟨h.base, h.frame, h.old, fun o x e => h.obj o x (hl o x e), fun o o' x x' e e' => h.inj o o' x x' (hl o x e) (hl o' x' e'), h.tokB, h.fin, h.glob⟩

theorem WRel.fresh (h : WRel Γ G H w) : ∃ o, G.used o = false ∧ H o = none := by
 obtain ⟨N, hN⟩ := h.fin
 refine ⟨N, hN N (Nat.le_refl _), ?_⟩
 cases e : H N with
 | none => rfl
 | some x => have := (h.obj N x e).1; rw [hN N (Nat.le_refl _)] at this; cases this

theorem ObjOk.ext {G' : Ghost} {w' : World} (x : Ext G w G' w') {o : Nat} {ob : AObj} (hu : G.used o = true) (h : ObjOk G w o ob)
 (ht : ∀ n, ob = .tok n → G'.tl o = G.tl o)
 (hb : ob.block = true → w'.heap[G.loc o]? = w.heap[G.loc o]?) (hr : ob.block = true → G'.role (G.loc o) = G.role (G.loc o)) : ObjOk G' w' o ob := by
 have hl := (x.used o hu).2
 cases ob with
 | tok n => exact (ht n rfl).trans h
 | cells cs =>
   obtain ⟨h1, h2, c, el, h3, h4, h5⟩ := h
   refine ⟨by rw [x.base, hl]; exact h1, by rw [hl, hr rfl]; exact h2, c, el, by rw [hl, hb rfl]; exact h3, h4, fun i hi => ⟨(h5 i hi).1, (h5 i hi).2.ext x⟩⟩
 | map es =>
   obtain ⟨h1, h2, c, el, h3, h4, h5⟩ := h
   refine ⟨by rw [x.base, hl]; exact h1, by rw [hl, hr rfl]; exact h2, c, el, by rw [hl, hb rfl]; exact h3, h4, fun i hi => ⟨(h5 i hi).1, (h5 i hi).2.ext x⟩⟩
 | siter s p =>
   obtain ⟨h1, h2, h3⟩ := h
   exact ⟨by rw [x.base, hl]; exact h1, by rw [hl, hr rfl]; exact h2, by rw [hl, hb rfl]; exact h3⟩
 | raw ob vs ts =>
   obtain ⟨h1, h2, h3, h4⟩ := h
   exact ⟨by rw [x.base, hl]; exact h1, by rw [hl, hr rfl]; exact h2, by rw [hl, hb rfl]; exact h3, fun i => (h4 i).ext x⟩

theorem ObjOk.lt {o : Nat} {ob : AObj} (h : ObjOk G w o ob) (hb : ob.block = true) : G.loc o < w.heap.size := by
 have key : ∀ x, w.heap[G.loc o]? = some x → G.loc o < w.heap.size := fun x e => (Array.getElem?_eq_some_iff.1 e).1
 cases ob with
 | tok n => cases hb
 | cells cs => obtain ⟨_, _, c, el, h3, _⟩ := h; exact key _ h3
 | map es => obtain ⟨_, _, c, el, h3, _⟩ := h; exact key _ h3
 | siter s p => obtain ⟨_, _, h3⟩ := h; exact key _ h3
 | raw ob vs ts => obtain ⟨_, _, h3, _⟩ := h; exact key _ h3

theorem ObjOk.priv {o : Nat} {ob : AObj} (h : ObjOk G w o ob) (hb : ob.block = true) : G.role (G.loc o) = .priv ∧ G.base ≤ G.loc o := by
 cases ob with
 | tok n => cases hb
 | cells cs => exact ⟨h.2.1, h.1⟩
 | map es => exact ⟨h.2.1, h.1⟩
 | siter s p => exact ⟨h.2.1, h.1⟩
 | raw ob vs ts => exact ⟨h.2.1, h.1⟩

theorem Ext.drew (G : Ghost) (w : World) : Ext G w G w.drew :=
 ⟨Nat.le_refl _, fun _ h => ⟨h, rfl⟩, fun _ _ => Nat.le_refl _, fun _ _ _ _ h => h, fun _ _ _ h => h, fun _ _ _ _ _ h => ⟨h, rfl⟩, rfl, rfl⟩

theorem WRel.drew (h : WRel Γ G H w) : WRel Γ G H w.drew := by
 have x := Ext.drew G w
 exact ⟨h.base, h.frame.drew, h.old, fun o ob e => ⟨(h.obj o ob e).1, (h.obj o ob e).2.ext x (h.obj o ob e).1 (fun _ _ => rfl) (fun _ => rfl) (fun _ => rfl)⟩, h.inj, h.tokB, h.fin, fun g a e => (h.glob g a e).ext x⟩

def Ghost.addImm (G : Ghost) (b : Nat) : Ghost := { G with role := fun i => if i = b then .imm else G.role i }

theorem getElem?_push_lt {α : Type} (xs : Array α) (x : α) {i : Nat} (h : i < xs.size) : (xs.push x)[i]? = xs[i]? := by
 rw [Array.getElem?_push, if_neg (by omega)]

theorem World.heap_alloc_lt (w : World) (o : Obj) {b : Nat} (h : b < w.heap.size) : (w.alloc o).heap[b]? = w.heap[b]? := getElem?_push_lt _ _ h
theorem World.heap_alloc_new (w : World) (o : Obj) : (w.alloc o).heap[w.heap.size]? = some o := by show (w.heap.push o)[w.heap.size]? = some o; simp
theorem World.cell?_alloc_mono {w : World} (o : Obj) {a : Addr} {v : Value} (h : w.cell? a = some v) : (w.alloc o).cell? a = some v := by
 rw [World.cell?_alloc_lt _ _ _ (World.block_lt_of_cell? w a h)]; exact h

theorem WRel.tok_lt (h : WRel Γ G H w) {b t n : Nat} (e : G.role b = .tok t n) : b < w.heap.size := by
 obtain ⟨_, _, c, el, hc, _⟩ := h.tokB b t n e
 exact (Array.getElem?_eq_some_iff.1 hc).1

theorem Ext.addImm (h : WRel Γ G H w) (ob : Obj) : Ext G w (G.addImm w.heap.size) (w.alloc ob) where
 size := by simp
 used _ h := ⟨h, rfl⟩
 tl _ _ := Nat.le_refl _
 cells b off v _ hc := World.cell?_alloc_mono ob hc
 reads b hi hb hr := by unfold Ghost.reads Ghost.addImm at *; simp only [Nat.ne_of_lt hb, if_false]; exact hr
 toks t b n ht _ hr := by
  have := h.tok_lt hr
  exact ⟨by simp [Ghost.addImm, Nat.ne_of_lt this, hr], rfl⟩
 base := rfl
 w0 := rfl

theorem WRel.addImm (h : WRel Γ G H w) (ob : Obj) : WRel Γ (G.addImm w.heap.size) H (w.alloc ob) := by
 have x := Ext.addImm h ob
 refine ⟨?_, h.frame.alloc h.base ob, fun b hb => ?_, fun o a e => ⟨(h.obj o a e).1, ?_⟩, h.inj, fun b t n e => ?_, h.fin, fun g a e => (h.glob g a e).ext x⟩
 · have := h.base; simp [Ghost.addImm]; omega
 · show (if b = w.heap.size then Role.imm else G.role b) = _; split
   · rfl
   · exact h.old b hb
 · have h2 := (h.obj o a e).2
   exact h2.ext x (h.obj o a e).1 (fun _ _ => rfl) (fun hb => World.heap_alloc_lt _ _ (h2.lt hb)) (fun hb => by simp [Ghost.addImm, Nat.ne_of_lt (h2.lt hb)])
 · have e' : (if b = w.heap.size then Role.imm else G.role b) = .tok t n := e
   split at e'
   · cases e'
   · obtain ⟨h1, h2, c, el, h3, h4⟩ := h.tokB b t n e'
     exact ⟨h1, h2, c, el, by rw [World.heap_alloc_lt _ _ (h.tok_lt e')]; exact h3, h4⟩

def Ghost.addObj (G : Ghost) (b o : Nat) : Ghost :=
 { G with role := fun i => if i = b then .priv else G.role i, loc := fun i => if i = o then b else G.loc i, used := fun i => i == o || G.used i }

theorem Ext.addObj (h : WRel Γ G H w) (ob : Obj) {o : Nat} (ho : G.used o = false) : Ext G w (G.addObj w.heap.size o) (w.alloc ob) where
 size := by simp
 used i hi := ⟨by simp [Ghost.addObj, hi], by
  have : i ≠ o := fun e => by subst e; rw [ho] at hi; cases hi
  simp [Ghost.addObj, this]⟩
 tl _ _ := Nat.le_refl _
 cells b off v _ hc := World.cell?_alloc_mono ob hc
 reads b hi hb hr := by unfold Ghost.reads Ghost.addObj at *; simp only [Nat.ne_of_lt hb, if_false]; exact hr
 toks t b n ht _ hr := by
  have := h.tok_lt hr
  exact ⟨by simp [Ghost.addObj, Nat.ne_of_lt this, hr], rfl⟩
 base := rfl
 w0 := rfl

theorem WRel.addObj (h : WRel Γ G H w) (ob : Obj) {o : Nat} (ho : G.used o = false) (x : AObj) (hx : x.block = true)
 (hok : ObjOk (G.addObj w.heap.size o) (w.alloc ob) o x) : WRel Γ (G.addObj w.heap.size o) (H.upd o x) (w.alloc ob) := by
 have xt := Ext.addObj h ob ho
 refine ⟨?_, h.frame.alloc h.base ob, fun b hb => ?_, fun i a e => ?_, fun i j a a' e e' hb hb' hl => ?_, fun b t n e => ?_, ?_, fun g a e => (h.glob g a e).ext xt⟩
 · have := h.base; simp [Ghost.addObj]; omega
 · show (if b = w.heap.size then Role.priv else G.role b) = _; split
   · rename_i e; have := h.base; have : b < G.base := hb; omega
   · exact h.old b hb
 · by_cases ei : i = o
   · subst ei; rw [Heap.upd_same] at e; injection e with e; subst e
     exact ⟨by simp [Ghost.addObj], hok⟩
   · rw [Heap.upd_ne _ _ ei] at e
     obtain ⟨h1, h2⟩ := h.obj i a e
     exact ⟨(xt.used i h1).1, h2.ext xt h1 (fun _ _ => rfl) (fun hb => World.heap_alloc_lt _ _ (h2.lt hb)) (fun hb => by simp [Ghost.addObj, Nat.ne_of_lt (h2.lt hb)])⟩
 · by_cases ei : i = o
   · by_cases ej : j = o
     · rw [ei, ej]
     · rw [Heap.upd_ne _ _ ej] at e'
       have h2 := (h.obj j a' e').2.lt hb'
       simp only [Ghost.addObj, ei, ej, if_true, if_false] at hl
       omega
   · rw [Heap.upd_ne _ _ ei] at e
     by_cases ej : j = o
     · have h2 := (h.obj i a e).2.lt hb
       simp only [Ghost.addObj, ei, ej, if_true, if_false] at hl
       omega
     · rw [Heap.upd_ne _ _ ej] at e'
       simp only [Ghost.addObj, ei, ej, if_false] at hl
       exact h.inj i j a a' e e' hb hb' hl
 · have e' : (if b = w.heap.size then Role.priv else G.role b) = .tok t n := e
   split at e'
   · cases e'
   · obtain ⟨h1, h2, c, el, h3, h4⟩ := h.tokB b t n e'
     exact ⟨h1, (xt.used t h2).1, c, el, by rw [World.heap_alloc_lt _ _ (h.tok_lt e')]; exact h3, h4⟩
 · obtain ⟨N, hN⟩ := h.fin
   refine ⟨N + o + 1, fun i hi => ?_⟩
   simp [Ghost.addObj, hN i (by omega)]
   omega

def setBlock (w : World) (b : Nat) (x : Obj) : World := { w with heap := w.heap.setIfInBounds b x }

theorem setBlock_heap_ne (w : World) (b : Nat) (x : Obj) {i : Nat} (h : i ≠ b) : (setBlock w b x).heap[i]? = w.heap[i]? := by
 simp [setBlock, Array.getElem?_setIfInBounds_ne (Ne.symm h)]
theorem setBlock_heap_same (w : World) (b : Nat) (x : Obj) (h : b < w.heap.size) : (setBlock w b x).heap[b]? = some x := by
 simp [setBlock, h]

theorem Ext.setPriv {b : Nat} (x : Obj) (hp : G.role b = .priv) : Ext G w G (setBlock w b x) where
 size := by simp [setBlock]
 used _ h := ⟨h, rfl⟩
 tl _ _ := Nat.le_refl _
 cells b' off v hr hc := by
  have hne : b' ≠ b := fun e => by subst e; unfold Ghost.reads at hr; rw [hp] at hr; exact hr
  rw [World.cell?_of_block (w := w) (setBlock_heap_ne w b x hne)]; exact hc
 reads _ _ _ h := h
 toks _ _ _ _ _ h := ⟨h, rfl⟩
 base := rfl
 w0 := rfl

theorem WRel.setObj (h : WRel Γ G H w) {o : Nat} {x x' : AObj} (e : H o = some x) (hb : x.block = true) (hb' : x'.block = true) (ob : Obj)
 (hok : ∀ w', w' = setBlock w (G.loc o) ob → Ext G w G w' → ObjOk G w' o x') : Ext G w G (setBlock w (G.loc o) ob) ∧ WRel Γ G (H.upd o x') (setBlock w (G.loc o) ob) := by
 obtain ⟨hu, hx⟩ := h.obj o x e
 obtain ⟨hp, hbase⟩ := hx.priv hb
 have xt : Ext G w G (setBlock w (G.loc o) ob) := Ext.setPriv ob hp
 refine ⟨xt, ?_, ?_, h.old, fun i a ei => ?_, fun i j a a' ei ej hb1 hb2 hl => ?_, fun b t n er => ?_, h.fin, fun g a eg => (h.glob g a eg).ext xt⟩
 · exact Nat.le_trans h.base xt.size
 · refine h.frame.trans ⟨rfl, rfl, rfl, xt.size, fun k hk => setBlock_heap_ne _ _ _ (by omega)⟩
 · by_cases ie : i = o
   · subst ie; rw [Heap.upd_same] at ei; injection ei with ei; subst ei
     exact ⟨hu, hok _ rfl xt⟩
   · rw [Heap.upd_ne _ _ ie] at ei
     obtain ⟨h1, h2⟩ := h.obj i a ei
     refine ⟨h1, h2.ext xt h1 (fun _ _ => rfl) (fun hb3 => setBlock_heap_ne _ _ _ fun el => ie (h.inj i o a x ei e hb3 hb el)) (fun _ => rfl)⟩
 · have f : ∀ i a, (H.upd o x') i = some a → a.block = true → ∃ a0, H i = some a0 ∧ a0.block = true := fun i a ei hb => by
    by_cases ie : i = o
    · subst ie; exact ⟨x, e, by assumption⟩
    · rw [Heap.upd_ne _ _ ie] at ei; exact ⟨a, ei, hb⟩
   obtain ⟨a0, e0, b0⟩ := f i a ei hb1
   obtain ⟨a1, e1, b1⟩ := f j a' ej hb2
   exact h.inj i j a0 a1 e0 e1 b0 b1 hl
 · obtain ⟨h1, h2, c, el, h3, h4⟩ := h.tokB b t n er
   have hne : b ≠ G.loc o := fun eb => by rw [eb, hp] at er; cases er
   exact ⟨h1, h2, c, el, by rw [setBlock_heap_ne _ _ _ hne]; exact h3, h4⟩

def Ghost.addTok (G : Ghost) (t n : Nat) : Ghost := { G with tl := fun i => if i = t then n else G.tl i, used := fun i => i == t || G.used i }

theorem Ext.addTok (G : Ghost) (w : World) {t n : Nat} (ht : G.used t = false) : Ext G w (G.addTok t n) w where
 size := Nat.le_refl _
 used i hi := ⟨by simp [Ghost.addTok, hi], rfl⟩
 tl i hi := by
  have : i ≠ t := fun e => by subst e; rw [ht] at hi; cases hi
  simp [Ghost.addTok, this]
 cells _ _ _ _ h := h
 reads _ _ _ h := h
 toks _ _ _ _ _ h := ⟨h, rfl⟩
 base := rfl
 w0 := rfl

theorem WRel.addTok (h : WRel Γ G H w) {t n : Nat} (ht : G.used t = false) : WRel Γ (G.addTok t n) (H.upd t (.tok n)) w := by
 have xt := Ext.addTok G w (n := n) ht
 have hne : ∀ i, G.used i = true → i ≠ t := fun i hi e => by subst e; rw [ht] at hi; cases hi
 refine ⟨h.base, h.frame, h.old, fun i a e => ?_, fun i j a a' e e' hb hb' hl => ?_, fun b t n e => ?_, ?_, fun g a e => (h.glob g a e).ext xt⟩
 · by_cases ei : i = t
   · subst ei; rw [Heap.upd_same] at e; injection e with e; subst e
     exact ⟨by simp [Ghost.addTok], by simp [ObjOk, Ghost.addTok]⟩
   · rw [Heap.upd_ne _ _ ei] at e
     obtain ⟨h1, h2⟩ := h.obj i a e
     exact ⟨(xt.used i h1).1, h2.ext xt h1 (fun _ _ => by simp [Ghost.addTok, ei]) (fun _ => rfl) (fun _ => rfl)⟩
 · have f : ∀ i a, (H.upd t (.tok n)) i = some a → a.block = true → H i = some a := fun i a ei hb => by
    by_cases ie : i = t
    · subst ie; rw [Heap.upd_same] at ei; injection ei with ei; subst ei; cases hb
    · rw [Heap.upd_ne _ _ ie] at ei; exact ei
   exact h.inj i j a a' (f _ _ e hb) (f _ _ e' hb') hb hb' hl
 · obtain ⟨h1, h2, h3⟩ := h.tokB b t n e
   exact ⟨h1, (xt.used _ h2).1, h3⟩
 · obtain ⟨N, hN⟩ := h.fin
   refine ⟨N + t + 1, fun i hi => ?_⟩
   simp [Ghost.addTok, hN i (by omega)]
   omega

end Go.Av
