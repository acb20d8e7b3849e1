/- append: into a row of the call's own, in place or in a new one. -/
import Derived.Test.YtninikfblhoieaaGreatDoorAv9
import Derived.Laws.AppendOwn
set_option linter.all false

namespace Go.Av
open Go Go.RowKit

variable {E : Env} {Γ : Nat → Option AV} {G : Ghost} {H H' : Heap} {w : World} {a : Act} {T : Tm} {P : Program}

def Ghost.setTok (G : Ghost) (b t n L bs : Nat) : Ghost :=
 { G with role := fun i => if i = b then .tok t n else G.role i, tl := fun i => if i = t then L else G.tl i, used := fun i => i == t || G.used i, bsize := fun i => if i = b then bs else G.bsize i }

theorem tok_new (hW : WRel Γ G H w) {t n L : Nat} {c : Array Value} {e : TypeId} (ht : (G.used t = false ∧ H t = none) ∨ (∃ l, H t = some (.tok l) ∧ l < L)) :
 Ext G w (G.setTok w.heap.size t n L c.size) (w.drew.alloc (.cells c e)) ∧ WRel Γ (G.setTok w.heap.size t n L c.size) (H.upd t (.tok L)) (w.drew.alloc (.cells c e)) := by
 have htl : G.used t = true → G.tl t < L := fun h => by
  rcases ht with ⟨h1, _⟩ | ⟨l, h1, h2⟩
  · rw [h1] at h; cases h
  · have : G.tl t = l := (hW.obj t _ h1).2
    omega
 have hblk : ∀ x, H t = some x → x.block = false := fun x hx => by
  rcases ht with ⟨_, h1⟩ | ⟨l, h1, _⟩
  · rw [h1] at hx; cases hx
  · rw [h1] at hx; injection hx with hx; subst hx; rfl
 have hsz : w.drew.heap.size = w.heap.size := rfl
 have heap : ∀ i, i < w.heap.size → (w.drew.alloc (.cells c e)).heap[i]? = w.heap[i]? := fun i hi => World.heap_alloc_lt w.drew _ hi
 have x : Ext G w (G.setTok w.heap.size t n L c.size) (w.drew.alloc (.cells c e)) :=
  { size := by simp
    used := fun o ho => ⟨by simp [Ghost.setTok, ho], rfl⟩
    tl := fun i hi => by
     simp only [Ghost.setTok]; split
     · rename_i e; subst e; exact Nat.le_of_lt (htl hi)
     · exact Nat.le_refl _
    cells := fun b off v _ hc => World.cell?_alloc_mono (w := w.drew) _ hc
    reads := fun b hi hb hr => by unfold Ghost.reads Ghost.setTok at *; simp only [Nat.ne_of_lt hb, if_false]; exact hr
    toks := fun i b m hi he hr => by
     have hb := hW.tok_lt hr
     have hne : i ≠ t := fun e => by
      subst e
      have := htl hi
      simp [Ghost.setTok] at he
      omega
     exact ⟨by simp [Ghost.setTok, Nat.ne_of_lt hb, hr], by simp [Ghost.setTok, Nat.ne_of_lt hb]⟩
    base := rfl
    w0 := rfl }
 refine ⟨x, ?_, hW.frame.drew.alloc hW.base _, fun b hb => ?_, fun o ob eo => ?_, fun i j a a' ei ej hb hb' hl => ?_, fun b t' n' er => ?_, ?_, fun g a eg => (hW.glob g a eg).ext x⟩
 · have := hW.base; simp [Ghost.setTok]; omega
 · have h1 := hW.base
   have hb' : b < G.base := hb
   show (if b = w.heap.size then Role.tok t n else G.role b) = _
   rw [if_neg (by omega)]; exact hW.old b hb'
 · by_cases eo' : o = t
   · subst eo'; rw [Heap.upd_same] at eo; injection eo with eo; subst eo
     exact ⟨by simp [Ghost.setTok], by simp [ObjOk, Ghost.setTok]⟩
   · rw [Heap.upd_ne _ _ eo'] at eo
     obtain ⟨h1, h2⟩ := hW.obj o ob eo
     exact ⟨(x.used o h1).1, h2.ext x h1 (fun _ _ => by simp [Ghost.setTok, eo']) (fun hb => heap _ (h2.lt hb)) (fun hb => by simp [Ghost.setTok, Nat.ne_of_lt (h2.lt hb)])⟩
 · have f : ∀ i a, (H.upd t (.tok L)) i = some a → a.block = true → H i = some a := fun i a ei hb => by
    by_cases ie : i = t
    · subst ie; rw [Heap.upd_same] at ei; injection ei with ei; subst ei; cases hb
    · rw [Heap.upd_ne _ _ ie] at ei; exact ei
   exact hW.inj i j a a' (f _ _ ei hb) (f _ _ ej hb') hb hb' hl
 · have er' : (if b = w.heap.size then Role.tok t n else G.role b) = .tok t' n' := er
   by_cases eb : b = w.heap.size
   · rw [if_pos eb] at er'
     injection er' with e1 e2
     subst e1
     refine ⟨by have := hW.base; simp only [Ghost.setTok]; omega, by simp [Ghost.setTok], c, e, ?_, by simp [Ghost.setTok, eb]⟩
     rw [eb]; exact World.heap_alloc_new w.drew _
   · rw [if_neg eb] at er'
     obtain ⟨h1, h2, c', el, h3, h4⟩ := hW.tokB b t' n' er'
     exact ⟨h1, (x.used t' h2).1, c', el, by rw [heap _ (hW.tok_lt er')]; exact h3, by simp [Ghost.setTok, eb, h4]⟩
 · obtain ⟨N, hN⟩ := hW.fin
   refine ⟨N + t + 1, fun i hi => ?_⟩
   simp [Ghost.setTok, hN i (by omega)]
   omega

theorem tok_write (hW : WRel Γ G H w) {b t n n' L l : Nat} {c c' : Array Value} {e : TypeId} (hr : G.role b = .tok t n) (hH : H t = some (.tok l)) (hl : l < L) (hn : n ≤ n') (hc : w.heap[b]? = some (.cells c e)) (hsz : c'.size = c.size)
 (hsame : ∀ i, i < n → c'[i]? = c[i]?) :
 Ext G w (G.setTok b t n' L c'.size) (setBlock w b (.cells c' e)) ∧ WRel Γ (G.setTok b t n' L c'.size) (H.upd t (.tok L)) (setBlock w b (.cells c' e)) := by
 have hb : b < w.heap.size := hW.tok_lt hr
 have htl : G.tl t = l := (hW.obj t _ hH).2
 obtain ⟨hbase, hut, c0, el, h3, h4⟩ := hW.tokB b t n hr
 rw [hc] at h3
 injection h3 with h3
 injection h3 with h3 _
 subst h3
 have hne : ∀ i, i ≠ b → (setBlock w b (.cells c' e)).heap[i]? = w.heap[i]? := fun i hi => setBlock_heap_ne w b _ hi
 have x : Ext G w (G.setTok b t n' L c'.size) (setBlock w b (.cells c' e)) :=
  { size := by simp [setBlock]
    used := fun o ho => ⟨by simp [Ghost.setTok, ho], rfl⟩
    tl := fun i hi => by
     simp only [Ghost.setTok]; split
     · rename_i e; subst e; omega
     · exact Nat.le_refl _
    cells := fun b' off v hrd hcl => by
     by_cases eb : b' = b
     · subst eb
       unfold Ghost.reads at hrd; rw [hr] at hrd
       simp only [World.cell?, setBlock_heap_same w b' _ hb]
       simp only [World.cell?, hc] at hcl
       have := hsame off (by omega)
       simpa [this] using hcl
     · rw [World.cell?_of_block (w := w) (hne b' eb)]; exact hcl
    reads := fun b' hi _ hrd => by
     unfold Ghost.reads Ghost.setTok at *
     by_cases eb : b' = b
     · subst eb; rw [hr] at hrd; simp only [if_true]; omega
     · simp only [eb, if_false]; exact hrd
    toks := fun i b' m hi he hrl => by
     have hne' : i ≠ t := fun e => by
      subst e
      simp [Ghost.setTok] at he
      omega
     have hb' : b' ≠ b := fun e => by subst e; rw [hr] at hrl; injection hrl with h1 _; exact hne' h1.symm
     exact ⟨by simp [Ghost.setTok, hb', hrl], by simp [Ghost.setTok, hb']⟩
    base := rfl
    w0 := rfl }
 have hpriv : ∀ o ob, H o = some ob → ob.block = true → G.loc o ≠ b := fun o ob eo hb e => by
  have := ((hW.obj o ob eo).2.priv hb).1
  rw [e, hr] at this; cases this
 refine ⟨x, Nat.le_trans hW.base x.size, ?_, fun b' hb' => ?_, fun o ob eo => ?_, fun i j a a' ei ej hb1 hb2 hl => ?_, fun b' t' n2 er => ?_, ?_, fun g a eg => (hW.glob g a eg).ext x⟩
 · exact hW.frame.trans ⟨rfl, rfl, rfl, x.size, fun k hk => hne k (by have : k < G.base := hk; omega)⟩
 · have hb2 : b' < G.base := hb'
   show (if b' = b then Role.tok t n' else G.role b') = _
   rw [if_neg (by omega)]; exact hW.old b' hb2
 · by_cases eo' : o = t
   · subst eo'; rw [Heap.upd_same] at eo; injection eo with eo; subst eo
     exact ⟨by simp [Ghost.setTok], by simp [ObjOk, Ghost.setTok]⟩
   · rw [Heap.upd_ne _ _ eo'] at eo
     obtain ⟨h1, h2⟩ := hW.obj o ob eo
     exact ⟨(x.used o h1).1, h2.ext x h1 (fun _ _ => by simp [Ghost.setTok, eo']) (fun hb => hne _ (hpriv o ob eo hb)) (fun hb => by simp [Ghost.setTok, hpriv o ob eo hb])⟩
 · have f : ∀ i a, (H.upd t (.tok L)) i = some a → a.block = true → H i = some a := fun i a ei hb => by
    by_cases ie : i = t
    · subst ie; rw [Heap.upd_same] at ei; injection ei with ei; subst ei; cases hb
    · rw [Heap.upd_ne _ _ ie] at ei; exact ei
   exact hW.inj i j a a' (f _ _ ei hb1) (f _ _ ej hb2) hb1 hb2 hl
 · have er' : (if b' = b then Role.tok t n' else G.role b') = .tok t' n2 := er
   by_cases eb : b' = b
   · rw [if_pos eb] at er'
     injection er' with e1 e2
     subst e1
     refine ⟨by simp only [Ghost.setTok]; omega, by simp [Ghost.setTok], c', e, ?_, by simp [Ghost.setTok, eb]⟩
     rw [eb]; exact setBlock_heap_same w b _ hb
   · rw [if_neg eb] at er'
     obtain ⟨h1, h2, c2, el2, h5, h6⟩ := hW.tokB b' t' n2 er'
     exact ⟨h1, (x.used t' h2).1, c2, el2, by rw [hne _ eb]; exact h5, by simp [Ghost.setTok, eb, h6]⟩
 · obtain ⟨N, hN⟩ := hW.fin
   refine ⟨N + t + 1, fun i hi => ?_⟩
   simp [Ghost.setTok, hN i (by omega)]
   omega

end Go.Av
