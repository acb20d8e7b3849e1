/- Rewriting rules for the abstract operations, at values of known form. -/
import Derived.Test.YtninikfblhoieaaGreatDoorAv14
set_option linter.all false

namespace Go.Av
open Go Go.RowKit

variable {P : Program} {Γ : Nat → Option AV} {H H' H0 : Heap}

@[simp] theorem pureK_some (r : AV) (K : AV → Prop) : pureK (some r) K = K r := rfl
@[simp] theorem pureK_none (K : AV → Prop) : pureK none K = False := rfl
@[simp] theorem condK_B (b : Bool) (X Y : Prop) : condK (B b) X Y = ((b = true → X) ∧ (b = false → Y)) := by cases b <;> simp [condK]
@[simp] theorem heapK_some (r : Heap) (K : Heap → Prop) : heapK (some r) K = K r := rfl
@[simp] theorem heapK_none (K : Heap → Prop) : heapK none K = False := rfl

@[simp] theorem bop_eql (bk : BK) (k : IntKind) (a b : Int) : bop bk .eql (.sc (.int k a)) (.sc (.int k b)) = some (B (decide (a = b))) := by simp [bop, intE]
@[simp] theorem bop_neq (bk : BK) (k : IntKind) (a b : Int) : bop bk .neq (.sc (.int k a)) (.sc (.int k b)) = some (B (!decide (a = b))) := by simp [bop, intE]
@[simp] theorem bop_lss (bk : BK) (k : IntKind) (a b : Int) : bop bk .lss (.sc (.int k a)) (.sc (.int k b)) = some (B (decide (a < b))) := by simp [bop, intE]
@[simp] theorem bop_leq (bk : BK) (k : IntKind) (a b : Int) : bop bk .leq (.sc (.int k a)) (.sc (.int k b)) = some (B (decide (a ≤ b))) := by simp [bop, intE]
@[simp] theorem bop_gtr (bk : BK) (k : IntKind) (a b : Int) : bop bk .gtr (.sc (.int k a)) (.sc (.int k b)) = some (B (decide (b < a))) := by simp [bop, intE]
@[simp] theorem bop_geq (bk : BK) (k : IntKind) (a b : Int) : bop bk .geq (.sc (.int k a)) (.sc (.int k b)) = some (B (decide (b ≤ a))) := by simp [bop, intE]

theorem wrap_i64 {n : Int} (h1 : -9223372036854775808 ≤ n) (h2 : n < 9223372036854775808) : IntKind.wrap .i64 n = n := by
 show (if (true && decide (n % 18446744073709551616 ≥ 9223372036854775808)) = true then n % 18446744073709551616 - 18446744073709551616 else n % 18446744073709551616) = n
 by_cases e : n % 18446744073709551616 ≥ 9223372036854775808
 · rw [if_pos (by simp [e])]; omega
 · rw [if_neg (by simp [e])]; omega

theorem bop_add {bk : BK} {a b : Int} (h1 : -9223372036854775808 ≤ a + b) (h2 : a + b < 9223372036854775808) : bop bk .add (I a) (I b) = some (I (a + b)) := by
 simp [bop, intE, wrap_i64 h1 h2]
theorem bop_sub {bk : BK} {a b : Int} (h1 : -9223372036854775808 ≤ a - b) (h2 : a - b < 9223372036854775808) : bop bk .sub (I a) (I b) = some (I (a - b)) := by
 simp [bop, intE, wrap_i64 h1 h2]
theorem bop_mul {bk : BK} {a b : Int} (h1 : -9223372036854775808 ≤ a * b) (h2 : a * b < 9223372036854775808) : bop bk .mul (I a) (I b) = some (I (a * b)) := by
 simp [bop, intE, wrap_i64 h1 h2]

@[simp] theorem bop_seql (bk : BK) (a b : ByteArray) : bop bk .eql (S a) (S b) = some (B (decide (a = b))) := rfl
@[simp] theorem bop_sneq (bk : BK) (a b : ByteArray) : bop bk .neq (S a) (S b) = some (B (!decide (a = b))) := rfl
@[simp] theorem bop_beql (a b : Bool) : bop .bool .eql (B a) (B b) = some (B (a == b)) := rfl
@[simp] theorem bop_bneq (a b : Bool) : bop .bool .neq (B a) (B b) = some (B (!(a == b))) := rfl
@[simp] theorem bop_flat_eql (ks : List FK) (xs ys : List AV) : bop (.flat ks) .eql (.agg xs) (.agg ys) = cmpE .eql (cellsEq ks xs ys) := rfl
@[simp] theorem bop_flat_neq (ks : List FK) (xs ys : List AV) : bop (.flat ks) .neq (.agg xs) (.agg ys) = cmpE .neq (cellsEq ks xs ys) := rfl
@[simp] theorem cellsEq_nil : cellsEq [] [] [] = some true := rfl
@[simp] theorem cmpE_eql (b : Bool) : cmpE .eql (some b) = some (B b) := rfl
@[simp] theorem cmpE_neq (b : Bool) : cmpE .neq (some b) = some (B (!b)) := rfl
@[simp] theorem cellEq_int (k : IntKind) (a b : Int) : cellEq .int (.sc (.int k a)) (.sc (.int k b)) = some (decide (a = b)) := by simp [cellEq]
@[simp] theorem cellEq_str (a b : ByteArray) : cellEq .str (S a) (S b) = some (decide (a = b)) := rfl
@[simp] theorem cellEq_bool (a b : Bool) : cellEq .bool (B a) (B b) = some (a == b) := rfl
theorem cellsEq_cons {k : FK} {ks : List FK} {a b : AV} {as bs : List AV} {x y : Bool} (h1 : cellEq k a b = some x) (h2 : cellsEq ks as bs = some y) : cellsEq (k :: ks) (a :: as) (b :: bs) = some (x && y) := by
 simp only [cellsEq, h1, h2]
@[simp] theorem unE_not (b : Bool) : unE .not (B b) = some (B (!b)) := rfl
@[simp] theorem pickE_B (b : Bool) (x y : AV) : pickE (B b) x y = some (bif b then x else y) := rfl

@[simp] theorem fa_ptr (n o off : Nat) : fa n (.ptr o off) = some (.ptr o (off + n)) := rfl
@[simp] theorem fa_cp (n : Nat) (cs : List AV) (off : Nat) : fa n (.cp cs off) = some (.cp cs (off + n)) := rfl
@[simp] theorem ld_cp (k : Option Bool) (n : Nat) (H : Heap) (cs : List AV) (off : Nat) : ld k n H (.cp cs off) = cutE cs off k n := rfl
theorem ld_ptr {k : Option Bool} {n : Nat} {H : Heap} {o off : Nat} {cs : List AV} (h : H o = some (.cells cs)) : ld k n H (.ptr o off) = cutE cs off k n := by simp [ld, h]
@[simp] theorem ld_upd (k : Option Bool) (n : Nat) (H : Heap) (o off : Nat) (cs : List AV) : ld k n (H.upd o (.cells cs)) (.ptr o off) = cutE cs off k n := by simp [ld, Heap.upd]
theorem ld_upd_ne {k : Option Bool} {n : Nat} {H : Heap} {o i off : Nat} {x : AObj} (h : i ≠ o) : ld k n (H.upd o x) (.ptr i off) = ld k n H (.ptr i off) := by simp [ld, Heap.upd, h]
@[simp] theorem cutE_agg (cs : List AV) (off n : Nat) : cutE cs off (some true) n = if off + n ≤ cs.length then some (.agg ((cs.drop off).take n)) else none := rfl
@[simp] theorem cutE_one (cs : List AV) (off n : Nat) : cutE cs off (some false) n = cs[off]? := rfl
@[simp] theorem st_upd (n : Nat) (H : Heap) (o off : Nat) (cs : List AV) (v : AV) : st n (H.upd o (.cells cs)) (.ptr o off) v = if v.cells.length = n && off + v.cells.length ≤ cs.length && v.cells.all AV.single then some (H.upd o (.cells (splice cs off v.cells))) else none := by
  simp [st, Heap.upd_upd, Heap.upd_same]
@[simp] theorem cells_agg (cs : List AV) : AV.cells (.agg cs) = cs := rfl
@[simp] theorem cells_sc (v : Value) : AV.cells (.sc v) = [.sc v] := rfl
@[simp] theorem cells_lst (s : Nat) (es : List AV) (p : Perm) : AV.cells (.lst s es p) = [.lst s es p] := rfl
@[simp] theorem cells_ptr (o off : Nat) : AV.cells (.ptr o off) = [.ptr o off] := rfl
@[simp] theorem cells_ms (o off l c : Nat) : AV.cells (.ms o off l c) = [.ms o off l c] := rfl
@[simp] theorem cells_fn (f : Fn) (a b : List AV) : AV.cells (.fn f a b) = [.fn f a b] := rfl
@[simp] theorem single_sc (v : Value) : AV.single (.sc v) = true := rfl
@[simp] theorem single_lst (s : Nat) (es : List AV) (p : Perm) : AV.single (.lst s es p) = true := rfl
@[simp] theorem single_ptr (o off : Nat) : AV.single (.ptr o off) = true := rfl
@[simp] theorem single_fn (f : Fn) (a b : List AV) : AV.single (.fn f a b) = true := rfl
@[simp] theorem allocK_some (cs : List AV) (H : Heap) (K : AV → Heap → Prop) : allocK (some cs) H K = (cs.all AV.single = true ∧ allocP cs H (fun o H' => K (.ptr o 0) H')) := by
  simp only [allocK]; cases cs.all AV.single <;> simp
@[simp] theorem upd_none_iff (H : Heap) (o i : Nat) (x : AObj) : (H.upd o x) i = none ↔ i ≠ o ∧ H i = none := by
  simp only [Heap.upd]; split <;> simp_all
@[simp] theorem Heap.upd_upd' (H : Heap) (o : Nat) (x y : AObj) : (H.upd o x).upd o y = H.upd o y := Heap.upd_upd H o x y
@[simp] theorem Heap.le_refl' (H : Heap) : H ≤ H := Heap.le_refl H
@[simp] theorem Heap.le_upd_iff {o : Nat} (h : H o = none) (x : AObj) : (H ≤ H'.upd o x) ↔ H ≤ H' := by
  constructor
  · intro h2 i y hi
    have := h2 i y hi
    by_cases e : i = o
    · subst e; rw [h] at hi; cases hi
    · rwa [Heap.upd_ne _ _ e] at this
  · intro h2; exact Heap.le_upd h2 h
@[simp] theorem ret1_pure (H H' : Heap) (v r : AV) : ret1 H' (fun r H1 => r = v ∧ H1 = H) r ↔ r = v ∧ H ≤ H' := by
  constructor
  · rintro ⟨H1, h, rfl, rfl⟩; exact ⟨rfl, h⟩
  · rintro ⟨rfl, h⟩; exact ⟨H, h, rfl, rfl⟩
theorem ret1_of {H' : Heap} {R : AV → Heap → Prop} {r : AV} (H : Heap) (h : H ≤ H') (hr : R r H) : ret1 H' R r := ⟨H, h, hr⟩

@[simp] theorem get0 (a : AV) (l : List AV) : (a :: l)[0]? = some a := rfl
@[simp] theorem get1 (a b : AV) (l : List AV) : (a :: b :: l)[1]? = some b := rfl
@[simp] theorem get2 (a b c : AV) (l : List AV) : (a :: b :: c :: l)[2]? = some c := rfl
@[simp] theorem get3 (a b c d : AV) (l : List AV) : (a :: b :: c :: d :: l)[3]? = some d := rfl
@[simp] theorem get4 (a b c d e : AV) (l : List AV) : (a :: b :: c :: d :: e :: l)[4]? = some e := rfl

@[simp] theorem nilE_ptr (o off : Nat) : nilE (.ptr o off) = some (.ptr o off) := rfl
@[simp] theorem nilE_cp (cs : List AV) (off : Nat) : nilE (.cp cs off) = some (.cp cs off) := rfl
@[simp] theorem nilE_fn (f : FuncId) (a b : List AV) : nilE (.fn (.func f) a b) = some (.fn (.func f) a b) := rfl
@[simp] theorem lns_S (s : ByteArray) : lns (S s) = some (I s.size) := rfl
@[simp] theorem lnl_lst (s : Nat) (es : List AV) (p : Perm) : lnl (.lst s es p) = some (I es.length) := rfl
@[simp] theorem extractE_tup (vs : List AV) (i : Nat) : extractE (.tup vs) i = vs[i]? := rfl
@[simp] theorem nth_zero (a : AV) (l : List AV) : nth (a :: l) 0 = a := rfl
@[simp] theorem nth_succ (a : AV) (l : List AV) (k : Nat) : nth (a :: l) (k + 1) = nth l k := rfl
theorem ias_lst {s : Nat} {es : List AV} {p : Perm} {i : Int} {v : AV} (h0 : 0 ≤ i) (h : es[i.toNat]? = some v) : ias s (.lst s es p) (I i) = some (.cp v.cells 0) := by
 simp [ias, h0, h]

theorem ACalls.then {f : FuncId} {args : List AV} {K : AV → Heap → Prop} {v : AV} (hc : ACalls P Γ f args H (fun r H' => r = v ∧ H' = H)) (k : K v H) : ACalls P Γ f args H K :=
 hc.mono fun r H' h => by obtain ⟨rfl, rfl⟩ := h; exact k

def Weaker (r r' : AV) : Prop := ∀ G w v, Rep G w v r → Rep G w v r'
theorem Weaker.refl (r : AV) : Weaker r r := fun _ _ _ h => h
theorem Weaker.lst {s : Nat} {es : List AV} {p : Perm} : Weaker (.lst s es p) (.lst s es .no) := by
 intro G w v h
 rcases h.inv_lst with ⟨rfl, rfl⟩ | ⟨b, off, cap, vs, rfl, g1, g2, g3, g4, g5, g6, g7⟩
 · exact .nil _ _ (by intro t e; cases e)
 · exact .lst b off cap s es .no vs g1 g2 g3 g4 g5 g6 trivial
theorem Weaker.empty {s s' : Nat} {p : Perm} : Weaker (.lst s [] p) (.lst s' [] .no) := by
 intro G w v h
 rcases h.inv_lst with ⟨rfl, _⟩ | ⟨b, off, cap, vs, rfl, g1, g2, g3, g4, g5, g6, g7⟩
 · exact .nil _ _ (by intro t e; cases e)
 · exact .lst b off cap s' [] .no vs g1 (by intro e he; cases he) (by intro k hk; simp at hk) (by intro k hk; simp at hk) (by intro k hk; simp at hk) (.inl (by simp)) trivial
theorem ACalls.weaken {f : FuncId} {args : List AV} {R R' : AV → Heap → Prop} (h : ACalls P Γ f args H R) (hw : ∀ r H', R r H' → ∃ r', Weaker r r' ∧ R' r' H') : ACalls P Γ f args H R' := by
 intro G w vs hW hl hr
 refine (h G w vs hW hl hr).mono ?_
 rintro e w' ⟨v, G', r, H', he, x, hW', hv, hR⟩
 obtain ⟨r', h1, h2⟩ := hw r H' hR
 exact ⟨v, G', r', H', he, x, hW', h1 _ _ _ hv, h2⟩

def Bld (H0 H : Heap) (p : Perm) (n : Nat) : Prop := (p = .exact ∧ H = H0) ∨ (∃ t, p = .tok t ∧ H0 t = none ∧ H = H0.upd t (.tok n))

theorem Bld.le {p : Perm} {n : Nat} (h : Bld H0 H p n) : H0 ≤ H := by
 rcases h with ⟨_, rfl⟩ | ⟨t, _, ht, rfl⟩
 · exact Heap.le_refl _
 · exact Heap.le_upd (Heap.le_refl _) ht

theorem appK_bld {s s1 : Nat} {es ys : List AV} {p : Perm} {y : AV} {K : AV → Heap → Prop} (hb : Bld H0 H p es.length) (hs : s1 = s ∨ (es = [] ∧ p = .exact)) (hy : appended s y = some ys) (hl : es.length + ys.length ≤ maxApp)
 (k : ∀ p' H', Bld H0 H' p' (es ++ ys).length → K (.lst s (es ++ ys) p') H') : appK s (.lst s1 es p) y H K := by
 left
 unfold appK1
 simp only [hy]
 refine ⟨hs.imp id (·.1), hl, ?_⟩
 rcases hb with ⟨rfl, rfl⟩ | ⟨t, rfl, ht, rfl⟩
 · refine .inr (.inl fun t ht => k _ _ (.inr ⟨t, rfl, ht, by simp⟩))
 · refine ⟨hs.elim id (fun h => by cases h.2), Heap.upd_same _ _ _, k _ _ (.inr ⟨t, rfl, ht, ?_⟩)⟩
   rw [Heap.upd_upd]; simp

theorem cpy_cells {s o off len cap m : Nat} {y : AV} {K : AV → Heap → Prop} {cs xs : List AV} (hH : H o = some (.cells cs)) (hm : srcLen y = some m) (hx : srcCells s (min m len) H y = some xs) (hf : off + min m len * s ≤ cs.length)
 (k : K (I (min m len : Nat)) (H.upd o (.cells (splice cs off xs)))) : cpy s (.ms o off len cap) y H K := by
 unfold cpy; simp only [hH, hm, hx]; exact ⟨hf, k⟩
theorem cpy_lst {s o off len cap s' : Nat} {es : List AV} {p : Perm} {K : AV → Heap → Prop} {cs : List AV} (hH : H o = some (.cells cs)) (hs : s' = s ∨ es = []) (hl : es.length ≤ len) (hf : off + es.length * s ≤ cs.length)
 (k : K (I es.length) (H.upd o (.cells (splice cs off (es.flatMap AV.cells))))) : cpy s (.ms o off len cap) (.lst s' es p) H K := by
 refine cpy_cells hH rfl (xs := es.flatMap AV.cells) ?_ ?_ ?_
 · rw [Nat.min_eq_left hl]; show (if s' = s ∨ es = [] then _ else none) = _; rw [if_pos hs, List.take_length]
 · rw [Nat.min_eq_left hl]; exact hf
 · rw [Nat.min_eq_left hl]; exact k
theorem cpy_lst_take {s o off len cap s' : Nat} {es : List AV} {p : Perm} {K : AV → Heap → Prop} {cs : List AV} (hH : H o = some (.cells cs)) (hs : s' = s ∨ es = []) (hl : len ≤ es.length) (hf : off + len * s ≤ cs.length)
 (k : K (I len) (H.upd o (.cells (splice cs off ((es.take len).flatMap AV.cells))))) : cpy s (.ms o off len cap) (.lst s' es p) H K := by
 refine cpy_cells hH rfl (xs := (es.take len).flatMap AV.cells) ?_ ?_ ?_
 · rw [Nat.min_eq_right hl]; show (if s' = s ∨ es = [] then _ else none) = _; rw [if_pos hs]
 · rw [Nat.min_eq_right hl]; exact hf
 · rw [Nat.min_eq_right hl]; exact k

theorem ACalls.withTok {f : FuncId} {args : List AV} {R : AV → Heap → Prop} (h : ∀ t, H t = none → ACalls P Γ f args (H.upd t (.tok 0)) R) : ACalls P Γ f args H R := by
 intro G w vs hW hl hr
 obtain ⟨t, ht, hHt⟩ := hW.fresh
 have xt := Ext.addTok G w (n := 0) ht
 refine (h t hHt (G.addTok t 0) w vs (hW.addTok (n := 0) ht) hl (fun i hi => (hr i hi).ext xt)).mono ?_
 rintro e w' ⟨v, G', r, H', h1, h2, h3, h4, h5⟩
 exact ⟨v, G', r, H', h1, xt.trans h2, h3, h4, h5⟩

end Go.Av
