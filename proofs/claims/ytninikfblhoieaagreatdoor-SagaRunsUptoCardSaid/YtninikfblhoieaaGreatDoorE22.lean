/- Own text E22 of this claim: see the text that holds the theorem. -/
import Derived.Test.YtninikfblhoieaaGreatDoorW0
import Derived.Test.YtninikfblhoieaaGreatDoorE21
set_option linter.all false
set_option maxRecDepth 100000
namespace Go.Av
open Go Go.Proofs

structure SavedAt (H : Heap) (i : Ids) (sv : Nat) (g g0 : SG) (HX : Heap) (tk : Option Nat) : Prop where
 sa : SagaAt HX { i with tk := tk } g
 free : ∀ o, o ∈ ({ i with tk := tk } : Ids).all → H o = none
 le : H ≤ HX
 sn : H sv = none
 at19 : HX sv = some (.cells (stA (stG g0) .no .no).cells)
 nin : sv ∉ ({ i with tk := tk } : Ids).all
theorem SavedAt.alloc {H : Heap} {i : Ids} {sv : Nat} {g g0 : SG} {HX : Heap} {tk : Option Nat} (h : SavedAt H i sv g g0 HX tk) {o : Nat} (ho : HX o = none) (x : AObj) : SavedAt H i sv g g0 (HX.upd o x) tk :=
 have hle : HX ≤ HX.upd o x := by simp [ho]
 ⟨h.sa.le hle, h.free, Heap.le_trans h.le hle, h.sn, hle _ _ h.at19, h.nin⟩
theorem DoneQ.over {H HX H' : Heap} {i : Ids} {g' : SG} {tk : Option Nat} (hf : ∀ o, o ∈ ({ i with tk := tk } : Ids).all → H o = none) (hle : H ≤ HX) (hq : DoneQ HX { i with tk := tk } g' H') :
 ∃ tk', SagaAt H' { i with tk := tk' } g' ∧ (∀ o, o ∈ ({ i with tk := tk' } : Ids).all → H o = none) ∧ H ≤ H' ∧ ∀ o x, HX o = some x → o ∉ ({ i with tk := tk } : Ids).all → o ∉ ({ i with tk := tk' } : Ids).all ∧ H' o = some x := by
 obtain ⟨tk', hS, htk, hsb⟩ := hq
 have hall : ∀ o, o ∈ ({ i with tk := tk' } : Ids).all → o ∈ ({ i with tk := tk } : Ids).all ∨ HX o = none := fun o ho => by
  rcases htk with e | ⟨_, t, e2, e3⟩
  · have e' : tk' = tk := e
    rw [e'] at ho; exact .inl ho
  · simp only [Ids.all, dealIds, List.mem_append] at ho ⊢
    rcases ho with ho | ho | ho
    · exact .inl (.inl ho)
    · exact .inl (.inr (.inl ho))
    · rw [e2] at ho
      have : o = t := by simpa using ho
      rw [this]; exact .inr e3
 refine ⟨tk', hS, fun o ho => ?_, fun o x hx => ?_, fun o x hx hno => ?_⟩
 · rcases hall o ho with h | h
   · exact hf o h
   · cases e : H o with
     | none => rfl
     | some y => rw [hle _ _ e] at h; cases h
 · have : o ∉ ({ i with tk := tk' } : Ids).all := fun ho => by
    rcases hall o ho with h | h
    · rw [hf o h] at hx; cases hx
    · rw [hle _ _ hx] at h; cases h
   exact (hsb o this).trans (hle _ _ hx)
 · have : o ∉ ({ i with tk := tk' } : Ids).all := fun ho => by
    rcases hall o ho with h | h
    · exact hno h
    · rw [hx] at h; cases h
   exact ⟨this, (hsb o this).trans hx⟩
theorem SavedAt.next {H : Heap} {i : Ids} {sv : Nat} {g g0 g' : SG} {HX H' : Heap} {tk : Option Nat} (h : SavedAt H i sv g g0 HX tk) (hq : DoneQ HX { i with tk := tk } g' H') :
 ∃ tk', SavedAt H i sv g' g0 H' tk' ∧ ∀ o x, HX o = some x → o ∉ ({ i with tk := tk } : Ids).all → o ∉ ({ i with tk := tk' } : Ids).all ∧ H' o = some x := by
 obtain ⟨tk', h1, h2, h3, h4⟩ := DoneQ.over h.free h.le hq
 obtain ⟨h5, h6⟩ := h4 _ _ h.at19 h.nin
 exact ⟨tk', ⟨h1, h2, h3, h.sn, h6, h5⟩, h4⟩
theorem SavedAt.save {H : Heap} {i : Ids} {sv : Nat} {g g0 g1 : SG} {HX : Heap} {tk : Option Nat} (h : SavedAt H i sv g g0 HX tk) : SavedAt H i sv g g1 (HX.upd sv (.cells (stA (stG g1) .no .no).cells)) tk := by
 refine ⟨h.sa.same fun o ho => Heap.upd_ne _ _ (fun e => h.nin (by rw [← e]; exact ho)), h.free, Heap.le_upd h.le h.sn, h.sn, Heap.upd_same _ _ _, h.nin⟩
theorem SavedAt.state {H : Heap} {i : Ids} {sv : Nat} {g g0 : SG} {HX : Heap} {tk : Option Nat} {L c : Nat} (h : SavedAt H i sv g g0 HX tk) (ok : OkM L c g) : AReads PP gΓ saga_Saga_State [.ptr i.s 0] HX (stA (stG g) .no .no) := fun HY hY => by
 have h1 := ok.al
 have h2 := ok.nw
 have h3 := ok.L60
 have h4 := ok.len
 exact State_ok (i := { i with tk := tk }) (h.sa.le hY) (by omega) (by omega)
theorem st5 {HX : Heap} {o : Nat} {cs : List AV} (h : HX o = some (.cells cs)) (hl : cs.length = 5) (s : St) : st 5 HX (.ptr o 0) (stA s .no .no) = some (HX.upd o (.cells (stA s .no .no).cells)) := by
 rw [st_at (n := 5) h rfl (by rw [hl]; decide) rfl]
 have : splice cs 0 (stA s .no .no).cells = (stA s .no .no).cells := by
  unfold splice
  rw [List.take_zero, List.nil_append, Nat.zero_add, show (stA s .no .no).cells.length = 5 from rfl, List.drop_of_length_le (by omega), List.append_nil]
 rw [this]

end Go.Av
