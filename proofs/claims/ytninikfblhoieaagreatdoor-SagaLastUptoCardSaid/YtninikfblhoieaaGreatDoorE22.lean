/- Own text E22 of this claim: see the text that holds the theorem. -/
import Derived.Test.YtninikfblhoieaaGreatDoorW0
import Derived.Test.YtninikfblhoieaaGreatDoorE21
set_option linter.all false
set_option maxRecDepth 100000
namespace Go.Av
open Go Go.Proofs

theorem SagaAt.alive {H : Heap} {i : Ids} {g : SG} (hS : SagaAt H i g) {o : Nat} (e : o ∈ i.all) : H o ≠ none := by
 obtain ⟨pl, pa, h1⟩ := hS.hs
 obtain ⟨v, d1, d2⟩ := hS.deal.hd
 simp only [Ids.all, dealIds, List.mem_append, List.mem_cons, List.not_mem_nil, or_false] at e
 rcases e with (rfl | rfl | rfl | rfl) | (rfl | rfl) | e
 · rw [h1]; simp
 · rw [hS.store.hs]; simp
 · rw [hS.store.disk.hd]; simp
 · rw [hS.store.disk.hb]; simp
 · rw [d1]; simp
 · rw [hS.deal.hk]; simp
 · rcases d2 with ⟨_, _, d3⟩ | ⟨t, d3, _, d4⟩
   · rw [d3] at e; simp at e
   · rw [d3] at e
     have : o = t := by simpa using e
     rw [this, d4]; simp

structure SavedAt (H : Heap) (i : Ids) (sv : Nat) (g g0 : SG) (HX : Heap) (tk : Option Nat) : Prop where
 sa : SagaAt HX { i with tk := tk } g
 free : ∀ o, o ∈ ({ i with tk := tk } : Ids).all → H o = none
 le : H ≤ HX
 sn : H sv = none
 at19 : HX sv = some (.cells (stA (stG g0) .no .no).cells)
 nin : sv ∉ ({ i with tk := tk } : Ids).all
theorem SavedAt.alloc {H : Heap} {i : Ids} {sv : Nat} {g g0 : SG} {HX : Heap} {tk : Option Nat} (h : SavedAt H i sv g g0 HX tk) {o : Nat} (ho : HX o = none) (x : AObj) : SavedAt H i sv g g0 (HX.upd o x) tk :=
 have hle : HX ≤ HX.upd o x := by simp [ho]
 ⟨h.sa.le hle, h.free, Heap.le_trans h.le hle, h.sn, hle _ _ h.at19, h.nin⟩
theorem DoneQ.over {H HX H' : Heap} {i : Ids} {g' : SG} {tk : Option Nat} (hf : ∀ o, o ∈ ({ i with tk := tk } : Ids).all → H o = none) (hle : H ≤ HX) (hq : DoneQ HX { i with tk := tk } g' H') :
 ∃ tk', SagaAt H' { i with tk := tk' } g' ∧ (∀ o, o ∈ ({ i with tk := tk' } : Ids).all → H o = none) ∧ H ≤ H' ∧ ∀ o x, HX o = some x → o ∉ ({ i with tk := tk } : Ids).all → o ∉ ({ i with tk := tk' } : Ids).all ∧ H' o = some x := by
 obtain ⟨tk', hS, htk, hsb⟩ := hq
 have hall : ∀ o, o ∈ ({ i with tk := tk' } : Ids).all → o ∈ ({ i with tk := tk } : Ids).all ∨ HX o = none := fun o ho => by
  rcases htk with e | ⟨_, t, e2, e3⟩
  · have e' : tk' = tk := e
    rw [e'] at ho; exact .inl ho
  · simp only [Ids.all, dealIds, List.mem_append] at ho ⊢
    rcases ho with ho | ho | ho
    · exact .inl (.inl ho)
    · exact .inl (.inr (.inl ho))
    · rw [e2] at ho
      have : o = t := by simpa using ho
      rw [this]; exact .inr e3
 refine ⟨tk', hS, fun o ho => ?_, fun o x hx => ?_, fun o x hx hno => ?_⟩
 · rcases hall o ho with h | h
   · exact hf o h
   · cases e : H o with
     | none => rfl
     | some y => rw [hle _ _ e] at h; cases h
 · have : o ∉ ({ i with tk := tk' } : Ids).all := fun ho => by
    rcases hall o ho with h | h
    · rw [hf o h] at hx; cases hx
    · rw [hle _ _ hx] at h; cases h
   exact (hsb o this).trans (hle _ _ hx)
 · have : o ∉ ({ i with tk := tk' } : Ids).all := fun ho => by
    rcases hall o ho with h | h
    · exact hno h
    · rw [hx] at h; cases h
   exact ⟨this, (hsb o this).trans hx⟩
theorem SavedAt.next {H : Heap} {i : Ids} {sv : Nat} {g g0 g' : SG} {HX H' : Heap} {tk : Option Nat} (h : SavedAt H i sv g g0 HX tk) (hq : DoneQ HX { i with tk := tk } g' H') :
 ∃ tk', SavedAt H i sv g' g0 H' tk' ∧ ∀ o x, HX o = some x → o ∉ ({ i with tk := tk } : Ids).all → o ∉ ({ i with tk := tk' } : Ids).all ∧ H' o = some x := by
 obtain ⟨tk', h1, h2, h3, h4⟩ := DoneQ.over h.free h.le hq
 obtain ⟨h5, h6⟩ := h4 _ _ h.at19 h.nin
 exact ⟨tk', ⟨h1, h2, h3, h.sn, h6, h5⟩, h4⟩
theorem SavedAt.save {H : Heap} {i : Ids} {sv : Nat} {g g0 g1 : SG} {HX : Heap} {tk : Option Nat} (h : SavedAt H i sv g g0 HX tk) : SavedAt H i sv g g1 (HX.upd sv (.cells (stA (stG g1) .no .no).cells)) tk := by
 refine ⟨h.sa.same fun o ho => Heap.upd_ne _ _ (fun e => h.nin (by rw [← e]; exact ho)), h.free, Heap.le_upd h.le h.sn, h.sn, Heap.upd_same _ _ _, h.nin⟩
theorem SavedAt.state {H : Heap} {i : Ids} {sv : Nat} {g g0 : SG} {HX : Heap} {tk : Option Nat} {L c : Nat} (h : SavedAt H i sv g g0 HX tk) (ok : OkM L c g) : AReads PP gΓ saga_Saga_State [.ptr i.s 0] HX (stA (stG g) .no .no) := fun HY hY => by
 have h1 := ok.al
 have h2 := ok.nw
 have h3 := ok.L60
 have h4 := ok.len
 exact State_ok (i := { i with tk := tk }) (h.sa.le hY) (by omega) (by omega)
theorem AReads.now {P : Program} {Γ : Nat → Option AV} {f : FuncId} {args : List AV} {H : Heap} {v : AV} {K : AV → Heap → Prop} (h : AReads P Γ f args H v) (k : K v H) : ACalls P Γ f args H K := (h H (Heap.le_refl _)).then k

theorem st5 {HX : Heap} {o : Nat} {cs : List AV} (h : HX o = some (.cells cs)) (hl : cs.length = 5) (s : St) : st 5 HX (.ptr o 0) (stA s .no .no) = some (HX.upd o (.cells (stA s .no .no).cells)) := by
 rw [st_at (n := 5) h rfl (by rw [hl]; decide) rfl]
 have : splice cs 0 (stA s .no .no).cells = (stA s .no .no).cells := by
  unfold splice
  rw [List.take_zero, List.nil_append, Nat.zero_add, show (stA s .no .no).cells.length = 5 from rfl, List.drop_of_length_le (by omega), List.append_nil]
 rw [this]

def oneA (x : Int × Int) : Int × Int := if x.1 = 5 then (1, 0) else x
theorem oneA_ne (x : Int × Int) : (oneA x).1 ≠ 5 := by unfold oneA; split <;> simp_all

set_option maxRecDepth 100000 in
theorem law21_SagaLast_ok (l : List Node) (p : Perm) (ps rf : List Int) (s1 s2 : Nat) (p1 p2 : Perm) (nb : Int) (acts : List (Int × Int)) (sa : Nat) (pa : Perm) (hs1 : s1 = 1 ∨ ps = []) (hs2 : s2 = 1 ∨ rf = []) (hsa : sa = 2 ∨ acts = []) (hl : small l.length)
 (hp : ps.length ≤ 1100000) (hr : rf.length ≤ 1100000) (hac : acts.length ≤ 1100000) :
 Pur law21_SagaLast [rowA l p, .agg [intA ps s1 p1, intA rf s2 p2, I nb], actsA acts sa pa] (B true) := by
 intro H
 refine law21_SagaLast_of ?_
 unfold W_law21_SagaLast
 simp only [cells_agg, allocK_some]
 refine ⟨rfl, fun o1 ho1 => ?_⟩
 have g1 : (H.upd o1 (.cells [intA ps s1 p1, intA rf s2 p2, I nb])) o1 = some (.cells [intA ps s1 p1, intA rf s2 p2, I nb]) := Heap.upd_same _ _ _
 have hle1 : H ≤ H.upd o1 (.cells [intA ps s1 p1, intA rf s2 p2, I nb]) := by simp [ho1]
 generalize H.upd o1 (.cells [intA ps s1 p1, intA rf s2 p2, I nb]) = H2 at g1 hle1 ⊢
 dsimp only
 rw [ld_ptr g1]
 have e3 : cutE [intA ps s1 p1, intA rf s2 p2, I nb] 0 (some true) 3 = some (.agg [intA ps s1 p1, intA rf s2 p2, I nb]) := rfl
 rw [e3]
 simp only [pureK_some]
 have yes : ∀ HX, H ≤ HX → ACalls PP gΓ law21_alive [] HX (fun x12 H13 => ret1 H13 (fun r H' => r = B true ∧ H' = H) x12) := fun HX hle => alive21_ok.run (ret1_of H hle ⟨rfl, rfl⟩)
 refine (few_ok l p ps rf s1 s2 p1 p2 nb acts sa pa hsa hl hp hr hac).run ?_
 rintro v ⟨b, rfl, hfew⟩
 simp only [unE_not, pureK_some, condK_B]
 refine ⟨fun _ => yes _ hle1, fun hb => ?_⟩
 obtain ⟨_, _, _, hac60, _⟩ := hfew (by simpa using hb)
 rw [ld_ptr g1, e3]
 simp only [pureK_some]
 refine (made_ok l p ps rf s1 s2 p1 p2 nb hs1 hs2 hp hr H2).mono ?_
 rintro r H11 (⟨hne, rfl, rfl⟩ | ⟨h0, i, rfl, hM⟩)
 · simp only [extractE_tup, get0, get1, pureK_some, unE_not, condK_B]
   exact ⟨fun _ => yes _ hle1, fun e => by simp at e⟩
 have hle11 : H ≤ H11 := Heap.le_trans hle1 hM.le
 obtain ⟨hfree, hS, hsb, hok, hK⟩ := hM
 have hfree' : ∀ o, o ∈ ({ i with tk := i.tk } : Ids).all → H o = none := fun o ho => by
  cases e : H o with
  | none => rfl
  | some x => have := hfree o ho; rw [hle1 _ _ e] at this; cases this
 have hI := LastI.new h0 hp hr hok hK
 generalize newG l ps rf nb = g00 at hS hok hI
 clear hK
 simp only [extractE_tup, get0, get1, pureK_some, unE_not, condK_B]
 refine ⟨fun e => by simp at e, fun _ => ?_⟩
 have hq0 : DoneQ H11 i g00 H11 := DoneQ.refl hS
 refine hq0.state (by have := hok.len; have := hok.L60; omega) (by have := hok.al; have := hok.nw; have := hok.L60; omega) ?_
 intro o19 ho19
 rw [st5 (Heap.upd_same _ _ _) rfl]
 simp only [heapK_some, Heap.upd_upd', lnl_lst, List.length_map, pureK_some]
 have hsv0 : SavedAt H i o19 g00 g00 (H11.upd o19 (.cells (stA (stG g00) .no .no).cells)) i.tk := by
  refine ⟨(hS.le (by simp [ho19]) : SagaAt _ { i with tk := i.tk } g00), hfree', Heap.le_trans hle11 (by simp [ho19]), ?_, Heap.upd_same _ _ _, fun e => hS.alive e ho19⟩
  cases e : H o19 with
  | none => rfl
  | some x => rw [hle11 _ _ e] at ho19; cases ho19
 refine ⟨fun vs HX nn => ∃ (k : Nat) (g g0 : SG) (tk : Option Nat), k ≤ acts.length ∧ nn = acts.length - k ∧ vs = [.ptr i.s 0, .ptr o19 0, actsA acts sa pa, I acts.length, I k] ∧ SavedAt H i o19 g g0 HX tk ∧ LastI l.length k g g0,
  ⟨_, _, Heap.le_refl _, 0, g00, g00, i.tk, Nat.zero_le _, rfl, rfl, hsv0, hI⟩, ?_⟩
 clear hsv0 hI hq0 hsb hS hfree hfree'
 rintro vs HX nn ⟨k, g, g0, tk, hk, rfl, rfl, hsv, hI⟩
 simp only [nth_zero, nth_succ, bop_lss, pureK_some, condK_B, decide_eq_true_eq, decide_eq_false_iff_not]
 refine ⟨fun hlt => ?_, fun _ => yes _ hsv.le⟩
 have hk' : k < acts.length := by omega
 have hsa' : sa = 2 := hsa.resolve_right fun e => by rw [e] at hk'; simp at hk'
 subst hsa'
 rw [ias_act hk']
 simp only [pureK_some]
 obtain ⟨x, hx⟩ : ∃ x, x = acts[k] := ⟨_, rfl⟩
 rw [← hx]
 have e0 : ld (some true) 2 HX (.cp [I x.1, I x.2] 0) = some (.agg [I x.1, I x.2]) := rfl
 rw [e0]
 simp only [pureK_some]
 intro o34 ho34
 have st2 : ∀ (HY : Heap) (cs : List AV) (y : Int × Int), HY o34 = some (.cells cs) → cs.length = 2 → st 2 HY (.ptr o34 0) (.agg [I y.1, I y.2]) = some (HY.upd o34 (.cells [I y.1, I y.2])) := fun HY cs y hy hcs => by
  rw [st_at (n := 2) (v := .agg [I y.1, I y.2]) hy rfl (by rw [hcs]; decide) rfl]
  have : splice cs 0 (AV.cells (.agg [I y.1, I y.2])) = [I y.1, I y.2] := by
   unfold splice
   rw [List.take_zero, List.nil_append, Nat.zero_add, show (AV.cells (.agg [I y.1, I y.2])).length = 2 from rfl, List.drop_of_length_le (by omega), List.append_nil]; rfl
  rw [this]
 rw [st2 _ _ x (Heap.upd_same _ _ _) rfl]
 simp only [heapK_some, Heap.upd_upd']
 have n34 : o34 ∉ ({ i with tk := tk } : Ids).all := fun e => hsv.sa.alive e ho34
 have n3419 : o34 ≠ o19 := fun e => by rw [e, hsv.at19] at ho34; cases ho34
 refine ⟨fun vs HY => vs = [.ptr i.s 0, .ptr o19 0, .ptr o34 0, actsA acts 2 pa, I acts.length, I k] ∧ HY = HX.upd o34 (.cells [I (oneA x).1, I (oneA x).2]), ?_, ?_⟩
 · simp only [fa_ptr, pureK_some, Nat.zero_add, ld_upd, cutE_one, get0, bop_eql, condK_B, decide_eq_true_eq, decide_eq_false_iff_not]
   refine ⟨fun h5 => ?_, fun h5 => ?_⟩
   · have e1 : bld [(0, 1), (1, 1)] [.sc (.int .i64 0), .sc (.int .i64 0)] [(0, I 1)] = some (.agg [I (1, 0).1, I (1, 0).2]) := rfl
     rw [e1]
     simp only [pureK_some]
     rw [st2 _ _ (1, 0) (Heap.upd_same _ _ _) rfl]
     simp only [heapK_some, Heap.upd_upd']
     refine ⟨_, Heap.le_refl _, trivial, ?_⟩
     unfold oneA; rw [if_pos h5]
   · refine ⟨_, Heap.le_refl _, trivial, ?_⟩
     unfold oneA; rw [if_neg h5]
 rintro vs HY ⟨rfl, rfl⟩
 have hy5 := oneA_ne x
 generalize oneA x = y at hy5
 clear hx e0
 have hsv1 := hsv.alloc ho34 (.cells [I y.1, I y.2])
 have g34 : (HX.upd o34 (.cells [I y.1, I y.2])) o34 = some (.cells [I y.1, I y.2]) := Heap.upd_same _ _ _
 generalize HX.upd o34 (.cells [I y.1, I y.2]) = H39 at hsv1 g34 ⊢
 simp only [nth_zero, nth_succ]
 rw [ld_ptr g34]
 have e2 : cutE [I y.1, I y.2] 0 (some true) 2 = some (.agg [I y.1, I y.2]) := rfl
 rw [e2]
 simp only [pureK_some]
 have hqa : DoneQ H39 { i with tk := tk } g H39 := DoneQ.refl hsv1.sa
 refine hqa.act hI.ok (by omega) y fun H48 hq48 => ?_
 obtain ⟨tk2, hsv2, hkeep⟩ := hsv1.next hq48
 obtain ⟨n34', g34'⟩ := hkeep _ _ g34 n34
 obtain ⟨hrec, hI2⟩ := hI.act hy5
 simp only [extractE_tup, get0, get1, pureK_some]
 generalize hg1 : (doG g y).1 = g1' at hsv2 hrec hI2
 generalize he : (doG g y).2.2 = e at hrec hI2
 generalize (doG g y).2.1 = n49
 clear hq48 hqa hkeep hsv1
 obtain ⟨gs, hgs⟩ : ∃ gs, gs = if y.1 = 1 ∧ e = 0 ∨ y.1 = 3 then g1' else g0 := ⟨_, rfl⟩
 rw [← hgs] at hI2
 refine ⟨fun vs HZ => vs = [.ptr i.s 0, .ptr o19 0, .ptr o34 0, I e, actsA acts 2 pa, I acts.length, I k] ∧ SavedAt H i o19 g1' gs HZ tk2 ∧ HZ o34 = some (.cells [I y.1, I y.2]), ?_, ?_⟩
 · -- what is saved
   have hread := hsv2.state hI2.ok
   have l34 : ld (some false) 1 H48 (.ptr o34 0) = some (I y.1) := by rw [ld_ptr g34']; rfl
   have save : ∀ K : Prop, ((SavedAt H i o19 g1' g1' (H48.upd o19 (.cells (stA (stG g1') .no .no).cells)) tk2 ∧ (H48.upd o19 (.cells (stA (stG g1') .no .no).cells)) o34 = some (.cells [I y.1, I y.2])) → K) → K := fun K h =>
    h ⟨hsv2.save, by rw [Heap.upd_ne _ _ n3419]; exact g34'⟩
   simp only [fa_ptr, pureK_some, Nat.zero_add, l34, bop_eql, condK_B, decide_eq_true_eq, decide_eq_false_iff_not]
   have store : (y.1 = 1 ∧ e = 0 ∨ y.1 = 3) → ACalls PP gΓ saga_Saga_State [.ptr i.s 0] H48 fun x H71 => heapK (st 5 H71 (.ptr o19 0) x) fun H72 => (∃ H54 : Heap, H54 ≤ H72 ∧ True ∧ SavedAt H i o19 g1' gs H54 tk2 ∧ H54 o34 = some (.cells [I y.1, I y.2])) := fun hc => by
    refine hread.now ?_
    rw [st5 hsv2.at19 rfl]
    simp only [heapK_some]
    rw [if_pos hc] at hgs
    rw [hgs]
    exact ⟨_, Heap.le_refl _, trivial, hsv2.save, by rw [Heap.upd_ne _ _ n3419]; exact g34'⟩
   have keep : ¬ (y.1 = 1 ∧ e = 0 ∨ y.1 = 3) → (∃ H54 : Heap, H54 ≤ H48 ∧ True ∧ SavedAt H i o19 g1' gs H54 tk2 ∧ H54 o34 = some (.cells [I y.1, I y.2])) := fun hc => by
    rw [if_neg hc] at hgs
    rw [hgs]
    exact ⟨_, Heap.le_refl _, trivial, hsv2, g34'⟩
   have three : y.1 = 3 → ∃ x62, AReads PP gΓ saga_Saga_State [.ptr i.s 0] H48 x62 ∧ pureK (ld (some true) 5 H48 (.ptr o19 0)) fun x63 => ACalls PP gΓ code_Same [x62, x63] H48 fun x64 H65 => pureK (unE .not x64) fun x66 => condK x66 (ret1 H65 (fun r H' => r = B true ∧ H' = H) (B false)) (
    ACalls PP gΓ saga_Saga_State [.ptr i.s 0] H65 fun x H71 => heapK (st 5 H71 (.ptr o19 0) x) fun H72 => (∃ H54 : Heap, H54 ≤ H72 ∧ True ∧ SavedAt H i o19 g1' gs H54 tk2 ∧ H54 o34 = some (.cells [I y.1, I y.2]))) := fun h3 => by
    refine ⟨_, hread, ?_⟩
    rw [ld_ptr hsv2.at19]
    have e5 : cutE (stA (stG g0) .no .no).cells 0 (some true) 5 = some (stA (stG g0) .no .no) := rfl
    rw [e5]
    simp only [pureK_some]
    have h1 := hI2.ok.len
    have h2 := hI2.ok.L60
    have h3' := hI2.ok.al
    have h4 := hI2.ok.nw
    refine (code_Same_ok (stG g1') (stG g0) .no .no .no .no (by show g1'.t.flat.length ≤ _; omega) (by show g1'.a.length ≤ _; omega)).run ?_
    rw [(hrec h3).2]
    simp only [unE_not, pureK_some, condK_B]
    exact ⟨fun e => by simp at e, fun _ => store (.inr h3)⟩
   refine ⟨fun h1 => ⟨fun h2 => ⟨fun h3 => by omega, fun _ => store (.inl ⟨h1, h2⟩)⟩, fun h2 => ⟨fun h3 => by omega, fun h3 => keep (by omega)⟩⟩,
    fun h1 => ⟨fun h3 => ⟨fun h2 => ⟨fun _ => three h3, fun h => absurd h3 h⟩, fun h2 => absurd (hrec h3).1 h2⟩, fun h3 => keep (by omega)⟩⟩
 rintro vs HZ ⟨rfl, hsvZ, gZ34⟩
 simp only [nth_zero, nth_succ]
 have hreadZ := hsvZ.state hI2.ok
 refine hreadZ.now ?_
 intro o111 ho111
 rw [st5 (Heap.upd_same _ _ _) rfl]
 simp only [heapK_some, Heap.upd_upd']
 have hsvA := hsvZ.alloc ho111 (.cells (stA (stG g1') .no .no).cells)
 have gA111 : (HZ.upd o111 (.cells (stA (stG g1') .no .no).cells)) o111 = some (.cells (stA (stG g1') .no .no).cells) := Heap.upd_same _ _ _
 have gA34 : (HZ.upd o111 (.cells (stA (stG g1') .no .no).cells)) o34 = some (.cells [I y.1, I y.2]) := by
  rw [Heap.upd_ne _ _ (fun e => by rw [← e, gZ34] at ho111; cases ho111)]; exact gZ34
 generalize HZ.upd o111 (.cells (stA (stG g1') .no .no).cells) = HA at hsvA gA111 gA34 ⊢
 have m34 : ld (some false) 1 HA (.ptr o34 0) = some (I y.1) := by rw [ld_ptr gA34]; rfl
 have m111 : ld (some false) 1 HA (.ptr o111 3) = some (I g1'.n) := by rw [ld_ptr gA111]; rfl
 have m19 : ld (some false) 1 HA (.ptr o19 3) = some (I gs.n) := by rw [ld_ptr hsvA.at19]; rfl
 have hn1 := hI2.ok.nw
 have hn2 := hI2.ok.L60
 have hn0 := hI2.ok0.nw
 have hn0' : gs.n ≤ 60 := by
  have h1 : gs.n + wN gs.t.flat ≤ l.length := hn0
  omega
 have more : ∃ (n27 : Nat) (H28 : Heap), n27 < acts.length - k ∧ H28 ≤ HA ∧ ∃ (k' : Nat) (g g0 : SG) (tk : Option Nat), k' ≤ acts.length ∧ n27 = acts.length - k' ∧ [AV.ptr i.s 0, .ptr o19 0, actsA acts 2 pa, I acts.length, I ((k : Int) + 1)] = [.ptr i.s 0, .ptr o19 0, actsA acts 2 pa, I acts.length, I k'] ∧ SavedAt H i o19 g g0 H28 tk ∧ LastI l.length k' g g0 :=
  ⟨_, HA, by omega, Heap.le_refl _, k + 1, g1', gs, tk2, by omega, rfl, rfl, hsvA, hI2⟩
 simp only [fa_ptr, pureK_some, Nat.zero_add, m34, m111, m19, bop_eql, bop_neq, condK_B]
 rw [bop_add (by omega) (by omega), bop_add (by omega) (by omega)]
 simp only [pureK_some, bop_neq, condK_B]
 have hat := hI2.at
 have tail : (!decide ((g1'.n : Int) = gs.n)) = true → ((!decide ((g1'.n : Int) = gs.n + 1)) = true → ret1 HA (fun r H' => r = B true ∧ H' = H) (B false)) ∧ ((!decide ((g1'.n : Int) = gs.n + 1)) = false → ACalls PP gΓ saga_Saga_Down [.ptr i.s 0] HA fun x129 H130 => pureK (unE .not x129) fun x131 => condK x131 (ret1 H130 (fun r H' => r = B true ∧ H' = H) (B false)) (
  ∃ (n27 : Nat) (H28 : Heap), n27 < acts.length - k ∧ H28 ≤ H130 ∧ ∃ (k' : Nat) (g g0 : SG) (tk : Option Nat), k' ≤ acts.length ∧ n27 = acts.length - k' ∧ [AV.ptr i.s 0, .ptr o19 0, actsA acts 2 pa, I acts.length, I ((k : Int) + 1)] = [.ptr i.s 0, .ptr o19 0, actsA acts 2 pa, I acts.length, I k'] ∧ SavedAt H i o19 g g0 H28 tk ∧ LastI l.length k' g g0)) := fun h => by
  have h' : ¬ (g1'.n : Int) = gs.n := by simpa using h
  refine ⟨fun h2 => ?_, fun _ => ?_⟩
  · have h2' : ¬ (g1'.n : Int) = gs.n + 1 := by simpa using h2
    rcases hat with e | ⟨e, _⟩
    · omega
    · omega
  · have hd : g1'.down = true := by
     rcases hat with e | ⟨_, e⟩
     · omega
     · exact e
    have hqz : DoneQ HA { i with tk := tk2 } g1' HA := DoneQ.refl hsvA.sa
    refine hqz.down ?_
    rw [hd]
    simp only [unE_not, pureK_some, condK_B]
    exact ⟨fun e => by simp at e, fun _ => more⟩
 refine ⟨fun h3 => ⟨fun h4 => ?_, fun _ => ⟨tail, fun _ => more⟩⟩, fun _ => ⟨tail, fun _ => more⟩⟩
 have h3' : y.1 = 3 := by simpa using h3
 have h4' : ¬ e = 0 := by simpa using h4
 exact absurd (hrec h3').1 h4'

end Go.Av
