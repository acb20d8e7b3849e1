/- Own text E22 of this claim: see the text that holds the theorem. -/
import Derived.Test.YtninikfblhoieaaGreatDoorW0
import Derived.Test.YtninikfblhoieaaGreatDoorE21
set_option linter.all false
set_option maxRecDepth 100000
namespace Go.Av
open Go Go.Proofs

theorem SagaAt.alive {H : Heap} {i : Ids} {g : SG} (hS : SagaAt H i g) {o : Nat} (e : o ∈ i.all) : H o ≠ none := by
 obtain ⟨pl, pa, h1⟩ := hS.hs
 obtain ⟨v, d1, d2⟩ := hS.deal.hd
 simp only [Ids.all, dealIds, List.mem_append, List.mem_cons, List.not_mem_nil, or_false] at e
 rcases e with (rfl | rfl | rfl | rfl) | (rfl | rfl) | e
 · rw [h1]; simp
 · rw [hS.store.hs]; simp
 · rw [hS.store.disk.hd]; simp
 · rw [hS.store.disk.hb]; simp
 · rw [d1]; simp
 · rw [hS.deal.hk]; simp
 · rcases d2 with ⟨_, _, d3⟩ | ⟨t, d3, _, d4⟩
   · rw [d3] at e; simp at e
   · rw [d3] at e
     have : o = t := by simpa using e
     rw [this, d4]; simp

theorem DoneQ.over {H HX H' : Heap} {i : Ids} {g' : SG} {tk : Option Nat} (hf : ∀ o, o ∈ ({ i with tk := tk } : Ids).all → H o = none) (hle : H ≤ HX) (hq : DoneQ HX { i with tk := tk } g' H') :
 ∃ tk', SagaAt H' { i with tk := tk' } g' ∧ (∀ o, o ∈ ({ i with tk := tk' } : Ids).all → H o = none) ∧ H ≤ H' ∧ ∀ o x, HX o = some x → o ∉ ({ i with tk := tk } : Ids).all → o ∉ ({ i with tk := tk' } : Ids).all ∧ H' o = some x := by
 obtain ⟨tk', hS, htk, hsb⟩ := hq
 have hall : ∀ o, o ∈ ({ i with tk := tk' } : Ids).all → o ∈ ({ i with tk := tk } : Ids).all ∨ HX o = none := fun o ho => by
  rcases htk with e | ⟨_, t, e2, e3⟩
  · have e' : tk' = tk := e
    rw [e'] at ho; exact .inl ho
  · simp only [Ids.all, dealIds, List.mem_append] at ho ⊢
    rcases ho with ho | ho | ho
    · exact .inl (.inl ho)
    · exact .inl (.inr (.inl ho))
    · rw [e2] at ho
      have : o = t := by simpa using ho
      rw [this]; exact .inr e3
 refine ⟨tk', hS, fun o ho => ?_, fun o x hx => ?_, fun o x hx hno => ?_⟩
 · rcases hall o ho with h | h
   · exact hf o h
   · cases e : H o with
     | none => rfl
     | some y => rw [hle _ _ e] at h; cases h
 · have : o ∉ ({ i with tk := tk' } : Ids).all := fun ho => by
    rcases hall o ho with h | h
    · rw [hf o h] at hx; cases hx
    · rw [hle _ _ hx] at h; cases h
   exact (hsb o this).trans (hle _ _ hx)
 · have : o ∉ ({ i with tk := tk' } : Ids).all := fun ho => by
    rcases hall o ho with h | h
    · exact hno h
    · rw [hx] at h; cases h
   exact ⟨this, (hsb o this).trans hx⟩
theorem AReads.now {P : Program} {Γ : Nat → Option AV} {f : FuncId} {args : List AV} {H : Heap} {v : AV} {K : AV → Heap → Prop} (h : AReads P Γ f args H v) (k : K v H) : ACalls P Γ f args H K := (h H (Heap.le_refl _)).then k

end Go.Av
