/- Own text E30 of this claim: see the text that holds the theorem. -/
import Derived.Test.YtninikfblhoieaaGreatDoorE28
set_option linter.all false
set_option maxRecDepth 100000
namespace Go.Av
open Go Go.Proofs

def RowV (H : Heap) (v : AV) (l : List Int) : Prop :=
 (l = [] ∧ v = .lst 1 [] .exact) ∨ (l ≠ [] ∧ ∃ o cap zs, v = .ms o 0 l.length cap ∧ H o = some (.cells (l.map (fun n => I n) ++ zs)))
theorem RowV.le {H H' : Heap} {v : AV} {l : List Int} (h : RowV H v l) (hle : H ≤ H') : RowV H' v l := by
 rcases h with h | ⟨h1, o, cap, zs, h2, h3⟩
 · exact .inl h
 · exact .inr ⟨h1, o, cap, zs, h2, hle _ _ h3⟩
theorem RowV.single {H : Heap} {v : AV} {l : List Int} (h : RowV H v l) : v.single = true := by
 rcases h with ⟨_, rfl⟩ | ⟨_, o, cap, zs, rfl, _⟩ <;> rfl
theorem Clone_row {H : Heap} {v : AV} {l : List Int} (h : RowV H v l) (hl : l.length ≤ 1100000) : AReads PP gΓ slices_Clone_int [v] H (intA l 1 .no) := by
 rcases h with ⟨rfl, rfl⟩ | ⟨hne, o, cap, zs, rfl, ho⟩
 · exact (Clone_int_ok [] 1 .exact (.inl rfl) hl).reads
 · intro HY hY
   have ho' := hY _ _ ho
   refine slices_Clone_int_of ?_
   unfold W_slices_Clone_int
   have e2 : bsl 1 (.sc (.int .i64 0)) 0 [] = some (.lst 1 [] .exact) := rfl
   simp only [nilK, condK_B]
   refine ⟨fun e => by simp at e, fun _ => ?_⟩
   rw [e2]
   simp only [pureK_some]
   left
   have e3 : appended 1 (.ms o 0 l.length cap) = none := rfl
   unfold appK1
   simp only [e3]
   unfold appS
   simp only [ho']
   refine ⟨trivial, trivial, by simp, List.length_pos_iff.2 hne, by simp [maxApp]; omega, ?_⟩
   have e : ((l.map (fun n => I n) ++ zs).drop 0).take l.length = l.map fun n => I n := by
    rw [List.drop_zero, List.take_append_of_le_length (by simp), List.take_of_length_le (by simp)]
   rw [e]
   exact ret1_of HY (Heap.le_refl _) ⟨rfl, rfl⟩
theorem deal_New_row {H : Heap} {v : AV} {l : List Int} (h : RowV H v l) (hl : l.length ≤ 1100000) :
 AMakes PP gΓ deal_New [v] H none (fun rf ob => ∃ q, rf = (fun p => .ptr p 0) ∧ ob = some [intA l 1 .no, .lst 0 [] .exact, .mp q, I 0]) := by
 intro H' hle _
 refine deal_New_of ?_
 unfold W_deal_New
 refine (Clone_row (h.le (show H ≤ H' from hle)) hl).now ?_
 intro q hq
 have e1 : bld [(0, 1), (1, 1), (2, 1), (3, 1)] [.lst 0 [] .exact, .lst 0 [] .exact, .sc (.map none), .sc (.int .i64 0)] [(0, intA l 1 .no), (2, .mp q)] = some (.agg [intA l 1 .no, .lst 0 [] .exact, .mp q, I 0]) := rfl
 rw [e1]
 simp only [pureK_some, cells_agg, allocK_some]
 refine ⟨rfl, fun o ho => ?_⟩
 simp only [upd_none_iff] at ho
 refine ret1_of _ (Heap.le_refl _) ⟨_, _, ⟨q, rfl, rfl⟩, o, ho.2, rfl, ?_, rfl⟩
 intro q' hq'
 injection hq' with hq'
 subst hq'
 exact ⟨hq, ho.1⟩
def ownO : AV → Option Nat
 | .ms o _ _ _ => some o
 | _ => none
theorem RowV.alive {H : Heap} {v : AV} {l : List Int} (h : RowV H v l) {o : Nat} (e : ownO v = some o) : H o ≠ none := by
 rcases h with ⟨_, rfl⟩ | ⟨_, o', cap, zs, rfl, h⟩
 · cases e
 · injection e with e; subst e; rw [h]; simp
theorem row_app (l : List Int) (s : Nat) (p : Perm) (hs : s = 1 ∨ l = []) (hl : l.length ≤ 1100000) (H : Heap) : ∃ φ : Mk, ApK 1 (.lst 1 [] .exact) (intA l s p) H φ ∧ (∀ rf ob q, φ rf ob → (rf q).single = true) ∧
 ∀ rf ob (HX : Heap) (K : AV → Heap → Prop), φ rf ob → (∀ v HY, RowV HY v l → HX ≤ HY → (∀ o, ownO v = some o → HX o = none) → K v HY) → madeA HX rf ob K := by
 by_cases hne : l = []
 · subst hne
   refine ⟨fun rf ob => rf = (fun _ => .lst 1 [] .exact) ∧ ob = none, fun H' _ => ?_, fun rf ob q h => by rw [h.1]; rfl, fun rf ob HX K h k => ?_⟩
   · refine appK_empty ⟨_, _, ⟨rfl, rfl⟩, rfl, rfl⟩
   · obtain ⟨rfl, rfl⟩ := h
     exact k _ HX (.inl ⟨rfl, rfl⟩) (Heap.le_refl _) (fun o e => by cases e)
 · have hfl : (l.map fun n => I n).flatMap AV.cells = l.map fun n => I n := by
    clear hne hl hs
    induction l with
    | nil => rfl
    | cons x l ih => rw [List.map_cons, List.flatMap_cons, ih]; rfl
   have hob : ∀ zs, objOf (l.map (fun n => I n) ++ zs) = .cells (l.map (fun n => I n) ++ zs) := fun zs => by
    cases l with
    | nil => exact absurd rfl hne
    | cons x l => rfl
   refine ⟨fun rf ob => ∃ cap zs, rf = (fun o => .ms o 0 l.length cap) ∧ ob = some (l.map (fun n => I n) ++ zs), fun H' _ => ?_, fun rf ob q h => by obtain ⟨cap, zs, rfl, _⟩ := h; rfl, fun rf ob HX K h k => ?_⟩
   · refine appK_cloneM (hs.imp id (fun e => by rw [e]; rfl)) (by simpa using hne) (by simp [maxApp]; omega) fun o cap zs h1 h2 h3 => ?_
     rw [hfl]
     refine ⟨_, _, ⟨cap, zs, rfl, rfl⟩, o, h1, ?_, ?_⟩
     · simp
     · rw [hob]
   · obtain ⟨cap, zs, rfl, rfl⟩ := h
     intro o ho
     rw [hob]
     exact k _ _ (.inr ⟨hne, o, cap, zs, rfl, Heap.upd_same _ _ _⟩) (by simp [ho]) (fun o' e => by injection e with e; subst e; exact ho)

structure TwoAt (H : Heap) (i j : Ids) (ti tj : Option Nat) (g g' : SG) (HX : Heap) : Prop where
 a : SagaAt HX { i with tk := ti } g
 b : SagaAt HX { j with tk := tj } g'
 fa : ∀ o, o ∈ ({ i with tk := ti } : Ids).all → H o = none
 fb : ∀ o, o ∈ ({ j with tk := tj } : Ids).all → H o = none
 dis : ∀ o, o ∈ ({ i with tk := ti } : Ids).all → o ∉ ({ j with tk := tj } : Ids).all
 le : H ≤ HX
section
variable {H HX H' : Heap} {i j : Ids} {ti tj : Option Nat} {g g' g2 : SG}
theorem TwoAt.swap (h : TwoAt H i j ti tj g g' HX) : TwoAt H j i tj ti g' g HX := ⟨h.b, h.a, h.fb, h.fa, fun o ho hi => h.dis o hi ho, h.le⟩
theorem TwoAt.next (h : TwoAt H i j ti tj g g' HX) (hq : DoneQ HX { i with tk := ti } g2 H') : ∃ ti', TwoAt H i j ti' tj g2 g' H' ∧
 ∀ o x, HX o = some x → o ∉ ({ i with tk := ti } : Ids).all → o ∉ ({ j with tk := tj } : Ids).all → o ∉ ({ i with tk := ti' } : Ids).all ∧ o ∉ ({ j with tk := tj } : Ids).all ∧ H' o = some x := by
 obtain ⟨ti', h1, h2, h3, h4⟩ := DoneQ.over h.fa h.le hq
 have hb : ∀ o, o ∈ ({ j with tk := tj } : Ids).all → o ∉ ({ i with tk := ti' } : Ids).all ∧ H' o = HX o := fun o ho => by
  cases e : HX o with
  | none => exact absurd e (h.b.alive ho)
  | some x =>
    obtain ⟨q1, q2⟩ := h4 o x e (fun hi => h.dis o hi ho)
    exact ⟨q1, q2⟩
 refine ⟨ti', ⟨h1, h.b.same fun o ho => (hb o ho).2, h2, h.fb, fun o ho hj => (hb o hj).1 ho, h3⟩, fun o x hx n1 n2 => ?_⟩
 obtain ⟨q1, q2⟩ := h4 o x hx n1
 exact ⟨q1, n2, q2⟩
theorem TwoAt.alloc (h : TwoAt H i j ti tj g g' HX) {o : Nat} (ho : HX o = none) (x : AObj) : TwoAt H i j ti tj g g' (HX.upd o x) :=
 have hle : HX ≤ HX.upd o x := by simp [ho]
 ⟨h.a.le hle, h.b.le hle, h.fa, h.fb, h.dis, Heap.le_trans h.le hle⟩
theorem TwoAt.q (h : TwoAt H i j ti tj g g' HX) : DoneQ HX { i with tk := ti } g HX := DoneQ.refl h.a
theorem TwoAt.turn (h : TwoAt H i j ti tj g g' HX) {o : Nat} (n0 : H o = none) (n1 : o ∉ ({ i with tk := ti } : Ids).all) (n2 : o ∉ ({ j with tk := tj } : Ids).all) (x : AObj) : TwoAt H i j ti tj g g' (HX.upd o x) :=
 ⟨h.a.same fun o' ho' => Heap.upd_ne _ _ (fun e => n1 (by rw [← e]; exact ho')), h.b.same fun o' ho' => Heap.upd_ne _ _ (fun e => n2 (by rw [← e]; exact ho')), h.fa, h.fb, h.dis, Heap.le_upd h.le n0⟩
end
theorem Writes_ok {H : Heap} {dk bl : Nat} {d : DK} (h : DiskAt H dk bl d) : ACalls PP gΓ disk_Disk_Writes [.ptr dk 0] H (fun r H' => r = I d.many ∧ H' = H) := by
 refine disk_Disk_Writes_of ?_
 unfold W_disk_Disk_Writes
 have e : (diskCells bl d)[1]? = some (I d.many) := rfl
 simp only [nilE_ptr, pureK_some, fa_ptr, Nat.zero_add, ld_ptr h.hd, cutE_one, e]
 exact ret1_of H (Heap.le_refl _) ⟨rfl, rfl⟩

def Own (H : Heap) (v : AV) (n : Nat) : Prop :=
 (n = 0 ∧ v = .lst 1 [] .exact) ∨ ∃ o cap cs, v = .ms o 0 n cap ∧ H o = some (.cells cs) ∧ n ≤ cs.length ∧ ∀ k, k < n → ∃ m : Int, cs[k]? = some (I m)
theorem RowV.own {H : Heap} {v : AV} {l : List Int} (h : RowV H v l) : Own H v l.length := by
 rcases h with ⟨rfl, rfl⟩ | ⟨_, o, cap, zs, rfl, h⟩
 · exact .inl ⟨rfl, rfl⟩
 · refine .inr ⟨o, cap, _, rfl, h, by simp, fun k hk => ⟨l[k], ?_⟩⟩
   rw [List.getElem?_append_left (by simpa using hk)]
   simp [hk]
theorem Own.ne {H : Heap} {v : AV} {n : Nat} (h : Own H v n) {o : Nat} (hn : ownO v ≠ some o) (x : AObj) : Own (H.upd o x) v n := by
 rcases h with h | ⟨o', cap, cs, rfl, h⟩
 · exact .inl h
 · refine .inr ⟨o', cap, cs, rfl, ?_, h.2⟩
   rw [Heap.upd_ne _ _ (fun e => hn (by rw [← e]; rfl))]; exact h.1
theorem Own.lnl {H : Heap} {v : AV} {n : Nat} (h : Own H v n) : lnl v = some (I n) := by
 rcases h with ⟨rfl, rfl⟩ | ⟨o', cap, cs, rfl, h⟩ <;> rfl

end Go.Av
