/- Own text C24 of this claim: see the text that holds the theorem. -/
import Derived.Test.YtddolbhaekekaaaGreatDoorC23
set_option linter.all false
set_option maxRecDepth 100000
namespace Go.Av
open Go Go.Proofs

/-! ### less is told, in parts -/
theorem Weaker.agg {cs ds : List AV} (hl : cs.length = ds.length) (hs : ∀ i, i < ds.length → (ds.getD i .dead).single = true) (h : ∀ i, i < cs.length → Weaker (cs.getD i .dead) (ds.getD i .dead)) : Weaker (.agg cs) (.agg ds) := by
  intro G w v hv
  cases hv with
  | agg vs cs hl' hs' h' => exact .agg vs ds (hl'.trans hl) hs fun i hi => h i (by omega) _ _ _ (h' i (by omega))
theorem Weaker.tup {cs ds : List AV} (hl : cs.length = ds.length) (h : ∀ i, i < cs.length → Weaker (cs.getD i .dead) (ds.getD i .dead)) : Weaker (.tup cs) (.tup ds) := by
  intro G w v hv
  cases hv with
  | tup vs cs hl' h' => exact .tup vs ds (hl'.trans hl) fun i hi => h i (by omega) _ _ _ (h' i (by omega))
theorem Weaker.tup2 {a b a' b' : AV} (h1 : Weaker a a') (h2 : Weaker b b') : Weaker (.tup [a, b]) (.tup [a', b']) :=
  Weaker.tup rfl fun i hi => by
    match i, hi with
    | 0, _ => exact h1
    | 1, _ => exact h2
theorem ACalls.args {P : Program} {Γ : Nat → Option AV} {f : FuncId} {args args' : List AV} {H : Heap} {R : AV → Heap → Prop} (hl : args.length = args'.length) (h : ∀ i, i < args.length → Weaker (args.getD i .dead) (args'.getD i .dead)) (hc : ACalls P Γ f args' H R) : ACalls P Γ f args H R := by
  intro G w vs hW hl2 hr
  exact hc G w vs hW (hl2.trans hl) fun i hi => h i (by omega) _ _ _ (hr i (by omega))
theorem ACalls.arg1 {P : Program} {Γ : Nat → Option AV} {f : FuncId} {a a' : AV} {H : Heap} {R : AV → Heap → Prop} (h : Weaker a a') (hc : ACalls P Γ f [a'] H R) : ACalls P Γ f [a] H R :=
  ACalls.args (args' := [a']) rfl (fun i hi => by
    match i, hi with
    | 0, _ => exact h) hc

theorem stW {s : St} {lv av : AV} (h1 : Weaker lv (rowA s.l .no)) (h2 : Weaker av (txtA s.a .no)) : Weaker (.agg [lv, I s.pl, I s.how, I s.n, av]) (stA s .no .no) :=
  Weaker.agg rfl (fun i hi => by
    match i, hi with
    | 0, _ => rfl
    | 1, _ => rfl
    | 2, _ => rfl
    | 3, _ => rfl
    | 4, _ => rfl) (fun i hi => by
    match i, hi with
    | 0, _ => exact h1
    | 1, _ => exact Weaker.refl _
    | 2, _ => exact Weaker.refl _
    | 3, _ => exact Weaker.refl _
    | 4, _ => exact h2)

/-! ### a slice that grows -/
def Acc (H HX : Heap) (s : Nat) (es : List AV) (v : AV) : Prop := (es = [] ∧ v = .lst 0 [] .exact) ∨ ∃ t, v = .lst s es (.tok t) ∧ H t = none ∧ HX t = some (.tok es.length)

theorem Acc.weak {H HX : Heap} {s : Nat} {es : List AV} {v : AV} (h : Acc H HX s es v) : Weaker v (.lst s es .no) := by
  rcases h with ⟨rfl, rfl⟩ | ⟨t, rfl, _⟩
  · exact Weaker.empty
  · exact Weaker.lst
theorem Acc.cells {H HX : Heap} {s : Nat} {es : List AV} {v : AV} (h : Acc H HX s es v) : v.cells = [v] ∧ v.single = true := by
  rcases h with ⟨rfl, rfl⟩ | ⟨t, rfl, _⟩ <;> exact ⟨rfl, rfl⟩
theorem Acc.upd {H HX : Heap} {s : Nat} {es : List AV} {v : AV} (h : Acc H HX s es v) {o : Nat} {x : AObj} (ho : ∀ n, HX o ≠ some (.tok n)) : Acc H (HX.upd o x) s es v := by
  rcases h with h | ⟨t, h1, h2, h3⟩
  · exact .inl h
  · refine .inr ⟨t, h1, h2, ?_⟩
    rw [Heap.upd_ne _ _ (fun e => by subst e; exact ho _ h3)]; exact h3
theorem le_none {H HX : Heap} (hle : H ≤ HX) {t : Nat} (h : HX t = none) : H t = none := by
  cases e : H t with
  | none => rfl
  | some x => rw [hle t x e] at h; cases h

theorem acc_app {H HX : Heap} {s : Nat} {es ys : List AV} {v y : AV} {K : AV → Heap → Prop} (h : Acc H HX s es v) (hle : H ≤ HX) (hy : appended s y = some ys) (hl : es.length + ys.length ≤ maxApp)
    (k : ∀ v' HX', Acc H HX' s (es ++ ys) v' → H ≤ HX' → (∀ o cs, HX o = some (.cells cs) → HX' o = some (.cells cs)) → K v' HX') : appK s v y HX K := by
  left
  unfold appK1
  rcases h with ⟨rfl, rfl⟩ | ⟨t, rfl, ht, hX⟩
  · simp only [hy]
    refine ⟨.inr trivial, hl, .inr fun t ht => ?_⟩
    refine k _ _ (.inr ⟨t, rfl, le_none hle ht, by simp [Heap.upd_same]⟩) (Heap.le_upd hle (le_none hle ht)) fun o cs ho => ?_
    rw [Heap.upd_ne _ _ (fun e => by subst e; rw [ht] at ho; cases ho)]; exact ho
  · simp only [hy]
    refine ⟨.inl trivial, hl, trivial, hX, ?_⟩
    refine k _ _ (.inr ⟨t, rfl, ht, by simp [Heap.upd_same]⟩) (Heap.le_upd hle ht) fun o cs ho => ?_
    rw [Heap.upd_ne _ _ (fun e => by subst e; rw [hX] at ho; cases ho)]; exact ho

/-! ### the reader -/
def RD (HX : Heap) (o : Nat) (bs : List UInt8) (bad : Bool) : Prop := ∃ p, HX o = some (.cells [bytA bs p, B bad])

theorem enters_next : enters PP code_reader_next = true := by kernel_rfl

theorem callK_next {HX : Heap} {o : Nat} {bs : List UInt8} {bad : Bool} {K : AV → Heap → Prop} (h : RD HX o bs bad) (hl : bs.length ≤ 1000000)
    (k : ∀ q, K (I (headI bs)) (HX.upd o (.cells [bytA bs.tail q, B (bad || bs.isEmpty)]))) : callK E_code_Decode (.fn (.func code_reader_next) [.ptr o 0] []) [] HX K := by
  obtain ⟨p, h⟩ := h
  unfold callK
  simp only [List.append_nil]
  show (bif enters PP code_reader_next then _ else _)
  rw [enters_next]
  refine (reader_next_ok bs bad p o HX h hl).mono ?_
  rintro r H' ⟨q, rfl, rfl⟩
  exact k q

theorem headI_le (bs : List UInt8) : headI bs ≤ 255 := by
  cases bs with
  | nil => simp [headI]
  | cons b bs => have := b.toNat_lt; simp only [headI]; omega

theorem rdMany_len {α : Type} (f : List UInt8 → Bool → Rd α) : ∀ (n : Nat) (bs : List UInt8) (bad : Bool), (rdMany f n bs bad).1.length ≤ n := by
  intro n
  induction n with
  | zero => intro bs bad; exact Nat.le_refl _
  | succ n ih =>
    intro bs bad
    cases bad with
    | true => simp [rdMany]
    | false => simp only [rdMany, List.length_cons]; have := ih (f bs false).2.1 (f bs false).2.2; omega
theorem rdMany_all {α : Type} {f : List UInt8 → Bool → Rd α} {P : α → Prop} (h : ∀ bs bad, P (f bs bad).1) : ∀ (n : Nat) (bs : List UInt8) (bad : Bool) x, x ∈ (rdMany f n bs bad).1 → P x := by
  intro n
  induction n with
  | zero => intro bs bad x hx; simp [rdMany] at hx
  | succ n ih =>
    intro bs bad x hx
    cases bad with
    | true => simp [rdMany] at hx
    | false =>
      simp only [rdMany, List.mem_cons] at hx
      rcases hx with rfl | hx
      · exact h _ _
      · exact ih _ _ x hx
theorem rdMany_bs {α : Type} {f : List UInt8 → Bool → Rd α} (h : ∀ bs bad, (f bs bad).2.1.length ≤ bs.length) : ∀ (n : Nat) (bs : List UInt8) (bad : Bool), (rdMany f n bs bad).2.1.length ≤ bs.length := by
  intro n
  induction n with
  | zero => intro bs bad; exact Nat.le_refl _
  | succ n ih =>
    intro bs bad
    cases bad with
    | true => exact Nat.le_refl _
    | false => exact Nat.le_trans (ih _ _) (h _ _)
theorem rdName_size (bs : List UInt8) (bad : Bool) : (rdName bs bad).1.size ≤ 255 := by
  have h1 := headI_le bs
  have h2 : (bs.tail.take (nameN bs)).length ≤ nameN bs := by simp; omega
  have h3 : nameN bs ≤ (headI bs).toNat := Nat.min_le_left _ _
  show (bs.tail.take (nameN bs)).toArray.size ≤ 255
  rw [List.size_toArray]; omega
theorem rdName_bs (bs : List UInt8) (bad : Bool) : (rdName bs bad).2.1.length ≤ bs.length := by
  show (bs.tail.drop _).length ≤ _
  simp only [List.length_drop, List.length_tail]; omega
theorem rdNext_bs (bs : List UInt8) (bad : Bool) : (rdNext bs bad).2.1.length ≤ bs.length := by
  show bs.tail.length ≤ _
  simp
theorem rdNode_size (bs : List UInt8) (bad : Bool) : (rdNode bs bad).1.name.size ≤ 255 := by
  unfold rdNode
  split
  · exact rdName_size (rdNext bs bad).2.1 (rdNext bs bad).2.2
  · split <;> simp [emp, ByteArray.size]
theorem rdNode_bs (bs : List UInt8) (bad : Bool) : (rdNode bs bad).2.1.length ≤ bs.length := by
  unfold rdNode
  split
  · exact Nat.le_trans (rdName_bs (rdNext bs bad).2.1 (rdNext bs bad).2.2) (rdNext_bs _ _)
  · split
    · exact Nat.le_trans (rdNext_bs (rdNext bs bad).2.1 (rdNext bs bad).2.2) (rdNext_bs _ _)
    · exact rdNext_bs _ _

end Go.Av
