/- A value-based reading of the machine's states: abstract values, the ghost roles of memory blocks, what a concrete value stands for, and that this lasts while the world grows. -/
import Derived.Calls
import Derived.Orders
import Derived.Below
set_option linter.all false

namespace Go.Av
open Go Go.RowKit

inductive Perm where
 | no
 | exact
 | tok (t : Nat)
 deriving DecidableEq

inductive AV where
 | sc (v : Value)
 | agg (cs : List AV)
 | tup (vs : List AV)
 | lst (s : Nat) (es : List AV) (p : Perm)
 | room (s t k : Nat)
 | cp (cs : List AV) (off : Nat)
 | ptr (o off : Nat)
 | ms (o off len cap : Nat)
 | mp (o : Nat)
 | fn (f : Fn) (first captured : List AV)
 | yl (o : Nat)
 | ifc (t : TypeId) (v : AV)
 | dead

instance : Inhabited AV := ⟨.dead⟩

abbrev I (n : Int) : AV := .sc (.int .i64 n)
abbrev B (b : Bool) : AV := .sc (.bool b)
abbrev S (s : ByteArray) : AV := .sc (.string s)

def AV.cells : AV → List AV
 | .agg cs => cs
 | v => [v]

def AV.single : AV → Bool
 | .sc _ | .lst .. | .cp .. | .ptr .. | .ms .. | .mp _ | .fn .. | .ifc .. => true
 | _ => false

def plain : Value → Bool
 | .bool _ | .int .. | .float .. | .complex .. | .string _ | .pointer none | .map none | .nilFunc | .nilIface => true
 | _ => false

inductive AObj where
 | cells (cs : List AV)
 | tok (n : Nat)
 | map (es : List (Int × AV))
 | siter (s : ByteArray) (pos : Nat)
 | raw (ob : Obj) (vs : List Value) (ts : Nat → AV)

abbrev Heap := Nat → Option AObj
def Heap.upd (H : Heap) (o : Nat) (x : AObj) : Heap := fun i => if i = o then some x else H i
instance : LE Heap := ⟨fun H H' => ∀ o x, H o = some x → H' o = some x⟩

theorem Heap.le_refl (H : Heap) : H ≤ H := fun _ _ h => h
theorem Heap.le_trans {A B C : Heap} (h : A ≤ B) (k : B ≤ C) : A ≤ C := fun o x e => k o x (h o x e)
theorem Heap.upd_same (H : Heap) (o : Nat) (x : AObj) : H.upd o x o = some x := by simp [Heap.upd]
theorem Heap.upd_ne (H : Heap) {o i : Nat} (x : AObj) (h : i ≠ o) : H.upd o x i = H i := by simp [Heap.upd, h]
theorem Heap.le_upd {H H' : Heap} {o : Nat} {x : AObj} (h : H ≤ H') (ho : H o = none) : H ≤ H'.upd o x := by
 intro i y hi
 by_cases e : i = o
 · subst e; rw [ho] at hi; cases hi
 · rw [Heap.upd_ne _ _ e]; exact h _ _ hi
theorem Heap.upd_le_upd {H H' : Heap} {o : Nat} {x : AObj} (h : H ≤ H') : H.upd o x ≤ H'.upd o x := by
 intro i y hi
 by_cases e : i = o
 · subst e; rw [Heap.upd_same] at hi ⊢; exact hi
 · rw [Heap.upd_ne _ _ e] at hi ⊢; exact h _ _ hi
theorem Heap.upd_upd (H : Heap) (o : Nat) (x y : AObj) : (H.upd o x).upd o y = H.upd o y := by
 funext i; simp only [Heap.upd]; split <;> rfl
theorem Heap.upd_comm (H : Heap) {o p : Nat} (x y : AObj) (h : o ≠ p) : (H.upd o x).upd p y = (H.upd p y).upd o x := by
 funext i; simp only [Heap.upd]
 by_cases h1 : i = p
 · subst h1; simp; intro h2; exact absurd h2.symm h
 · simp [h1]
theorem Heap.upd_self {H : Heap} {o : Nat} {x : AObj} (h : H o = some x) : H.upd o x = H := by
 funext i; simp only [Heap.upd]; split
 · rename_i e; subst e; exact h.symm
 · rfl

inductive Role where
 | imm
 | tok (t n : Nat)
 | priv
 deriving DecidableEq

structure Ghost where
 role : Nat → Role
 loc : Nat → Nat
 used : Nat → Bool
 tl : Nat → Nat
 bsize : Nat → Nat
 base : Nat
 w0 : World

def Ghost.reads (G : Ghost) (b hi : Nat) : Prop :=
 match G.role b with
 | .imm => True
 | .tok _ n => hi ≤ n
 | .priv => False

theorem Ghost.reads_le {G : Ghost} {b hi lo : Nat} (h : G.reads b hi) (hl : lo ≤ hi) : G.reads b lo := by
 unfold Ghost.reads at *
 split <;> simp_all
 omega

def PermOk (G : Ghost) (p : Perm) (b off len cap s : Nat) : Prop :=
 match p with
 | .no => True
 | .exact => cap = len
 | .tok t => G.used t = true ∧ len ≤ G.tl t ∧ (len = G.tl t → cap = len ∨ (G.role b = .tok t (off + len * s) ∧ off + cap * s ≤ G.bsize b))

inductive Rep (G : Ghost) (w : World) : Value → AV → Prop where
 | dead (v : Value) : Rep G w v .dead
 | sc (v : Value) (h : plain v = true) : Rep G w v (.sc v)
 | agg (vs : List Value) (cs : List AV) (hl : vs.length = cs.length) (hs : ∀ i, i < cs.length → (cs.getD i .dead).single = true)
    (h : ∀ i, i < cs.length → Rep G w (vs.getD i undef) (cs.getD i .dead)) : Rep G w (.agg vs.toArray) (.agg cs)
 | tup (vs : List Value) (cs : List AV) (hl : vs.length = cs.length)
    (h : ∀ i, i < cs.length → Rep G w (vs.getD i undef) (cs.getD i .dead)) : Rep G w (.tuple vs.toArray) (.tup cs)
 | nil (s : Nat) (p : Perm) : (∀ t, p = .tok t → G.used t = true) → Rep G w (.slice none 0 0) (.lst s [] p)
 | lst (b off cap s : Nat) (es : List AV) (p : Perm) (vs : Nat → Value) (hcap : es.length ≤ cap)
    (hsz : ∀ e, e ∈ es → e.cells.length = s)
    (hs : ∀ k, k < es.length * s → ((es.flatMap AV.cells).getD k .dead).single = true)
    (hc : ∀ k, k < es.length * s → w.cell? ⟨b, off + k, none⟩ = some (vs k))
    (hr : ∀ k, k < es.length * s → Rep G w (vs k) ((es.flatMap AV.cells).getD k .dead))
    (hrole : es.length * s = 0 ∨ G.reads b (off + es.length * s))
    (hp : PermOk G p b off es.length cap s) : Rep G w (.slice (some ⟨b, off, none⟩) es.length cap) (.lst s es p)
 | room (b cap s t k : Nat) (hu : G.used t = true) (hcap : k ≤ cap) (hr : G.tl t = 0 → G.role b = .tok t 0 ∧ cap * s ≤ G.bsize b) : Rep G w (.slice (some ⟨b, 0, none⟩) k cap) (.room s t k)
 | cp (b o off : Nat) (cs : List AV) (vs : Nat → Value)
    (hs : ∀ k, k < cs.length → (cs.getD k .dead).single = true)
    (hc : ∀ k, k < cs.length → w.cell? ⟨b, o + k, none⟩ = some (vs k))
    (hr : ∀ k, k < cs.length → Rep G w (vs k) (cs.getD k .dead))
    (hrole : cs.length = 0 ∨ G.reads b (o + cs.length)) : Rep G w (.pointer (some ⟨b, o + off, none⟩)) (.cp cs off)
 | ptr (o off : Nat) (hu : G.used o = true) : Rep G w (.pointer (some ⟨G.loc o, off, none⟩)) (.ptr o off)
 | ms (o off len cap : Nat) (hu : G.used o = true) : Rep G w (.slice (some ⟨G.loc o, off, none⟩) len cap) (.ms o off len cap)
 | mp (o : Nat) (hu : G.used o = true) : Rep G w (.map (some (G.loc o))) (.mp o)
 | yl (o : Nat) (hu : G.used o = true) : Rep G w (.func (.yield (G.loc o)) #[] #[]) (.yl o)
 | fn (f : Fn) (v1 v2 : List Value) (a1 a2 : List AV) (h1 : v1.length = a1.length) (h2 : v2.length = a2.length)
    (r1 : ∀ i, i < a1.length → Rep G w (v1.getD i undef) (a1.getD i .dead)) (r2 : ∀ i, i < a2.length → Rep G w (v2.getD i undef) (a2.getD i .dead)) :
    Rep G w (.func f v1.toArray v2.toArray) (.fn f a1 a2)
 | ifc (t : TypeId) (v : Value) (a : AV) (h : Rep G w v a) : Rep G w (.iface t v) (.ifc t a)

structure Ext (G : Ghost) (w : World) (G' : Ghost) (w' : World) : Prop where
 size : w.heap.size ≤ w'.heap.size
 used : ∀ o, G.used o = true → G'.used o = true ∧ G'.loc o = G.loc o
 tl : ∀ t, G.used t = true → G.tl t ≤ G'.tl t
 cells : ∀ b off v, G.reads b (off + 1) → w.cell? ⟨b, off, none⟩ = some v → w'.cell? ⟨b, off, none⟩ = some v
 reads : ∀ b hi, b < w.heap.size → G.reads b hi → G'.reads b hi
 toks : ∀ t b n, G.used t = true → G.tl t = G'.tl t → G.role b = .tok t n → G'.role b = .tok t n ∧ G'.bsize b = G.bsize b
 base : G'.base = G.base
 w0 : G'.w0 = G.w0

theorem Ext.refl (G : Ghost) (w : World) : Ext G w G w :=
 ⟨Nat.le_refl _, fun _ h => ⟨h, rfl⟩, fun _ _ => Nat.le_refl _, fun _ _ _ _ h => h, fun _ _ _ h => h, fun _ _ _ _ _ h => ⟨h, rfl⟩, rfl, rfl⟩

theorem Ext.trans {G G1 G2 : Ghost} {w w1 w2 : World} (h : Ext G w G1 w1) (k : Ext G1 w1 G2 w2) : Ext G w G2 w2 where
 size := Nat.le_trans h.size k.size
 used o ho := ⟨(k.used o (h.used o ho).1).1, (k.used o (h.used o ho).1).2.trans (h.used o ho).2⟩
 tl t ht := Nat.le_trans (h.tl t ht) (k.tl t (h.used t ht).1)
 cells b off v hr hc := by
  have hb : b < w.heap.size := World.block_lt_of_cell? w _ hc
  exact k.cells b off v (h.reads b _ hb hr) (h.cells b off v hr hc)
 reads b hi hb hr := k.reads b hi (Nat.lt_of_lt_of_le hb h.size) (h.reads b hi hb hr)
 toks t b n ht he hr := by
  have h1 := h.tl t ht
  have h2 := k.tl t (h.used t ht).1
  obtain ⟨r1, s1⟩ := h.toks t b n ht (by omega) hr
  obtain ⟨r2, s2⟩ := k.toks t b n (h.used t ht).1 (by omega) r1
  exact ⟨r2, s2.trans s1⟩
 base := k.base.trans h.base
 w0 := k.w0.trans h.w0

theorem PermOk.ext {G G' : Ghost} {w w' : World} (x : Ext G w G' w') {p : Perm} {b off len cap s : Nat} (h : PermOk G p b off len cap s) : PermOk G' p b off len cap s := by
 cases p with
 | no => trivial
 | exact => exact h
 | tok t =>
   obtain ⟨hu, hl, hp⟩ := h
   have ht := x.tl t hu
   refine ⟨(x.used t hu).1, by omega, fun e => ?_⟩
   rcases hp (by omega) with h1 | ⟨h1, h2⟩
   · exact .inl h1
   · obtain ⟨r1, s1⟩ := x.toks t b _ hu (by omega) h1
     exact .inr ⟨r1, by omega⟩

theorem Rep.ext {G G' : Ghost} {w w' : World} (x : Ext G w G' w') {v : Value} {a : AV} (h : Rep G w v a) : Rep G' w' v a := by
 induction h with
 | dead v => exact .dead v
 | sc v h => exact .sc v h
 | agg vs cs hl hs _ ih => exact .agg vs cs hl hs ih
 | tup vs cs hl _ ih => exact .tup vs cs hl ih
 | nil s p h => exact .nil s p fun t e => (x.used t (h t e)).1
 | lst b off cap s es p vs hcap hsz hs hc _ hrole hp ih =>
   refine .lst b off cap s es p vs hcap hsz hs (fun k hk => ?_) ih ?_ (hp.ext x)
   · rcases hrole with h0 | hr
     · omega
     · exact x.cells b (off + k) _ (hr |> fun h => Ghost.reads_le h (by omega)) (hc k hk)
   · rcases hrole with h0 | hr
     · exact .inl h0
     · rcases Nat.eq_zero_or_pos (es.length * s) with h0 | h0
       · exact .inl h0
       · exact .inr (x.reads b _ (World.block_lt_of_cell? w _ (hc 0 h0)) hr)
 | room b cap s t k hu hcap hr =>
   have ht := x.tl t hu
   refine .room b cap s t k (x.used t hu).1 hcap fun e => ?_
   obtain ⟨h1, h2⟩ := hr (by omega)
   obtain ⟨r1, s1⟩ := x.toks t b _ hu (by omega) h1
   exact ⟨r1, by omega⟩
 | cp b o off cs vs hs hc _ hrole ih =>
   rcases Nat.eq_zero_or_pos cs.length with h0 | h0
   · exact .cp b o off cs vs hs (fun k hk => by omega) ih (.inl h0)
   · have hrole := hrole.resolve_left (by omega)
     exact .cp b o off cs vs hs (fun k hk => x.cells b (o + k) _ (Ghost.reads_le hrole (by omega)) (hc k hk)) ih
      (.inr (x.reads b _ (World.block_lt_of_cell? w _ (hc 0 h0)) hrole))
 | ptr o off hu =>
   rw [← (x.used o hu).2]
   exact .ptr o off (x.used o hu).1
 | ms o off len cap hu =>
   rw [← (x.used o hu).2]
   exact .ms o off len cap (x.used o hu).1
 | mp o hu =>
   rw [← (x.used o hu).2]
   exact .mp o (x.used o hu).1
 | yl o hu =>
   rw [← (x.used o hu).2]
   exact .yl o (x.used o hu).1
 | fn f v1 v2 a1 a2 h1 h2 _ _ i1 i2 => exact .fn f v1 v2 a1 a2 h1 h2 i1 i2
 | ifc t v a _ ih => exact .ifc t v a ih

end Go.Av
