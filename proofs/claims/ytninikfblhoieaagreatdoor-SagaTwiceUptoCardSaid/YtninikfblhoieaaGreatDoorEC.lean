/- Own text EC of this claim: see the text that holds the theorem. -/
import Derived.Test.YtninikfblhoieaaGreatDoorEB
set_option linter.all false
set_option maxRecDepth 100000
namespace Go.Av
open Go Go.Proofs

structure SG where
 picks : List Int
 refuses : List Int
 t : Tr
 m : Int × Int
 n : Nat
 a : List ByteArray
 down : Bool
 d : DK
 deeds : List (Int × ByteArray × Bool)
 known : List (Int × Bool)
 asked : Int

noncomputable def keepM (g : SG) : Int × Int := pickF g.t (g.picks.getD g.n 0)
noncomputable def keepS (g : SG) : St := ⟨g.t.flat, (keepM g).1, (keepM g).2, g.n, g.a⟩
noncomputable def keepG (g : SG) : SG := { g with m := keepM g, d := (saveD g.d (g.n + 1) (enc (keepS g))).1 }
noncomputable def keepE (g : SG) : Int := (saveD g.d (g.n + 1) (enc (keepS g))).2
def stopsE (g : SG) : Int := if g.down then 210 else if g.t.root.kind = 11 then 211 else 0
def said (g : SG) : Bool := decide (g.m.2 = 1)
def refd (g : SG) : Bool := said g && !askB g.refuses g.known (g.n + 1)
def nameG (g : SG) : ByteArray := (subT g.t g.m.1.toNat).root.name
noncomputable def askG (g : SG) : SG := if said g then { g with asked := IntKind.wrap .i64 (g.asked + 1), deeds := askD g.refuses g.known g.deeds (g.n + 1) (nameG g), known := askK g.refuses g.known (g.n + 1) } else g
noncomputable def doneT (g : SG) : Tr := if refd g then refT g.t g.m else nextT g.t g.m
def doneA (g : SG) : List ByteArray := if said g && !refd g then g.a ++ [nameG g] else g.a
noncomputable def goneG (g : SG) : SG := { askG g with t := doneT g, m := (0, 0), n := g.n + 1, a := doneA g }
noncomputable def stepG (g : SG) : SG × Int :=
 if stopsE g ≠ 0 then (g, stopsE g)
 else if keepE (goneG g) ≠ 0 then ({ keepG (goneG g) with down := true }, 210)
 else (keepG (goneG g), 0)
noncomputable def haltG (g : SG) : SG × Int := if stopsE g ≠ 0 then (g, stopsE g) else ({ askG g with down := true }, 0)
noncomputable def runG (g : SG) : Nat → SG × Nat × Int
 | 0 => (g, 0, 0)
 | k + 1 => if (stepG g).2 ≠ 0 then ((stepG g).1, 0, (stepG g).2) else ((runG (stepG g).1 k).1, (runG (stepG g).1 k).2.1 + 1, (runG (stepG g).1 k).2.2)

structure OkG (L c : Nat) (g : SG) : Prop where
 live : Live g.t
 len : g.t.flat.length ≤ L
 L60 : L ≤ 60
 al : g.a.length ≤ g.n
 nw : g.n + wN g.t.flat ≤ L
 nm : ∀ x, x ∈ g.a → right ⟨1, x, 0⟩ = true
 dok : g.d.ok
 h3 : 3 ≤ g.d.half
 room : long L ≤ g.d.room
 dl : g.deeds.length ≤ c
 rf : g.refuses.length ≤ 1100000
 pk : g.picks.length ≤ 1100000
structure OkM (L c : Nat) (g : SG) : Prop extends OkG L c g where
 hm : g.t.root.kind ≠ 11 → g.m ∈ enF g.t

theorem OkG.st_right {L c : Nat} {g : SG} (h : OkG L c g) {m : Int × Int} (hm : m = (0, 0) ∨ m ∈ enF g.t) : rightS ⟨g.t.flat, m.1, m.2, g.n, g.a⟩ = true := by
 have hl := h.live.len
 have h1 := h.len
 have h2 := h.L60
 have h3 := h.al
 have h4 := h.nw
 have hon : sortOn g.t.flat false = true := by
  unfold sortOn
  rw [good_sortOf h.live.good (by omega), h.live.on]; rfl
 have hany : (g.a.any fun x => !right ⟨1, x, 0⟩) = false := by
  rw [List.any_eq_false]
  intro x hx
  rw [h.nm x hx]; simp
 have hmr : 0 ≤ m.1 ∧ m.1 ≤ 255 ∧ 0 ≤ m.2 ∧ m.2 ≤ 5 := by
  rcases hm with rfl | hm
  · decide
  · obtain ⟨i, hi, hlt, _, w, hw, hhow, _⟩ := enF_spec hm
    have : w.1 = 1 ∨ w.1 = 2 ∨ w.1 = 3 ∨ w.1 = 4 ∨ w.1 = 5 := by
     unfold waysOf at hw
     split at hw
     · simp at hw; rw [hw]; simp
     · split at hw
       · simp at hw; rcases hw with rfl | rfl <;> simp
       · split at hw
         · simp at hw; rcases hw with rfl | rfl <;> simp
         · simp at hw
    omega
 unfold rightS
 dsimp only
 simp only [hon, h.live.toInv.settled, hany, Bool.not_false, Bool.and_true, Bool.true_and, Bool.and_eq_true, decide_eq_true_eq]
 omega
theorem OkG.mv_ok {L c : Nat} {g : SG} (h : OkG L c g) : keepM g = (0, 0) ∨ keepM g ∈ enF g.t := by
 by_cases he : enF g.t = []
 · exact .inl (pickF_none he _)
 · exact .inr (pickF_mem he _)
theorem OkG.keepR {L c : Nat} {g : SG} (h : OkG L c g) : rightS (keepS g) = true := h.st_right h.mv_ok
theorem OkG.encl {L c : Nat} {g : SG} (h : OkG L c g) : (enc (keepS g)).length ≤ g.d.room := by
 have h1 := enc_len h.keepR
 have h2 : (keepS g).l.length = g.t.flat.length := rfl
 have h3 : (keepS g).a.length = g.a.length := rfl
 have := h.len
 have := h.al
 have := h.nw
 have := h.L60
 have hr := h.room
 have hw := wN_le g.t.flat
 have hp := g.t.flat_pos
 rw [long_r h.L60] at hr
 omega
theorem OkG.keep {L c : Nat} {g : SG} (h : OkG L c g) : OkM L c (keepG g) ∧ (keepG g).d.nb = g.d.nb ∧ (keepG g).d.cut = g.d.cut := by
 have hn := h.nw
 have hL := h.L60
 obtain ⟨s1, s2, s3, _⟩ := saveD_spec h.dok h.h3 (n := g.n + 1) (data := enc (keepS g)) (by omega) (by omega) h.encl
 have eh : (keepG g).d.half = g.d.half := half_of s2
 refine ⟨⟨⟨h.live, h.len, h.L60, h.al, h.nw, h.nm, s1, by rw [eh]; exact h.h3, by unfold DK.room; rw [eh]; exact h.room, h.dl, h.rf, h.pk⟩, fun hk => ?_⟩, s2, s3⟩
 rcases live_moves h.live with e | e
 · exact absurd e hk
 · exact pickF_mem e _

structure Ids where
 s : Nat
 st : Nat
 dk : Nat
 bl : Nat
 dl : Nat
 kn : Nat
 tk : Option Nat
def Ids.all (i : Ids) : List Nat := [i.s, i.st, i.dk, i.bl] ++ dealIds i.dl i.kn i.tk
def sagaC (i : Ids) (g : SG) (pl pa : Perm) : List AV := [.ptr i.st 0, intA g.picks 1 .no, .ptr i.dl 0, .fn (.func deal_Dealer_Ask) [.ptr i.dl 0] [], rowA g.t.flat pl, I g.m.1, I g.m.2, I g.n, txtA g.a pa, B g.down]
structure SagaAt (H : Heap) (i : Ids) (g : SG) : Prop where
 hs : ∃ pl pa, H i.s = some (.cells (sagaC i g pl pa))
 store : StoreAt H i.st i.dk i.bl g.d
 deal : DealAt H i.dl i.kn i.tk g.refuses g.deeds g.known g.asked
 n1 : i.s ∉ [i.st, i.dk, i.bl]
 n2 : i.s ∉ dealIds i.dl i.kn i.tk
 n3 : ∀ x, x ∈ [i.st, i.dk, i.bl] → x ∉ dealIds i.dl i.kn i.tk

theorem DealAt.same {H H' : Heap} {dl kn : Nat} {tk : Option Nat} {rf : List Int} {de : List (Int × ByteArray × Bool)} {kw : List (Int × Bool)} {ak : Int} (h : DealAt H dl kn tk rf de kw ak) (hs : ∀ o, o ∈ dealIds dl kn tk → H' o = H o) : DealAt H' dl kn tk rf de kw ak := by
 obtain ⟨v, h1, h2⟩ := h.hd
 refine ⟨⟨v, by rw [hs dl (by simp [dealIds])]; exact h1, ?_⟩, by rw [hs kn (by simp [dealIds])]; exact h.hk, h.n1⟩
 rcases h2 with h2 | ⟨t, rfl, h3, h4⟩
 · exact .inl h2
 · exact .inr ⟨t, rfl, h3, by rw [hs t (by simp [dealIds])]; exact h4⟩
theorem StoreAt.same {H H' : Heap} {st dk bl : Nat} {d : DK} (h : StoreAt H st dk bl d) (hs : ∀ o, o ∈ [st, dk, bl] → H' o = H o) : StoreAt H' st dk bl d :=
 ⟨by rw [hs st (by simp)]; exact h.hs, ⟨by rw [hs dk (by simp)]; exact h.disk.hd, by rw [hs bl (by simp)]; exact h.disk.hb, h.disk.ok, h.disk.ne⟩, h.h3, h.n1, h.n2⟩
theorem SagaAt.same {H H' : Heap} {i : Ids} {g : SG} (h : SagaAt H i g) (hs : ∀ o, o ∈ i.all → H' o = H o) : SagaAt H' i g := by
 obtain ⟨pl, pa, h1⟩ := h.hs
 refine ⟨⟨pl, pa, by rw [hs i.s (by simp [Ids.all])]; exact h1⟩, h.store.same fun o ho => hs o ?_, h.deal.same fun o ho => hs o (by simp [Ids.all, ho]), h.n1, h.n2, h.n3⟩
 simp only [List.mem_cons, List.not_mem_nil, or_false] at ho
 simp only [Ids.all, List.mem_append, List.mem_cons, List.not_mem_nil, or_false]
 rcases ho with h | h | h <;> simp [h]
theorem SagaAt.le {H H' : Heap} {i : Ids} {g : SG} (h : SagaAt H i g) (hle : H ≤ H') : SagaAt H' i g := by
 obtain ⟨pl, pa, h1⟩ := h.hs
 obtain ⟨v, d1, d2⟩ := h.deal.hd
 refine ⟨⟨pl, pa, hle _ _ h1⟩, h.store.le hle, ⟨⟨v, hle _ _ d1, ?_⟩, hle _ _ h.deal.hk, h.deal.n1⟩, h.n1, h.n2, h.n3⟩
 rcases d2 with h2 | ⟨t, h2, h3, h4⟩
 · exact .inl h2
 · exact .inr ⟨t, h2, h3, hle _ _ h4⟩
theorem SagaAt.write {H : Heap} {i : Ids} {g g' : SG} (h : SagaAt H i g) {pl pa : Perm} (e1 : g'.d = g.d) (e2 : g'.refuses = g.refuses) (e3 : g'.deeds = g.deeds) (e4 : g'.known = g.known) (e5 : g'.asked = g.asked) : SagaAt (H.upd i.s (.cells (sagaC i g' pl pa))) i g' := by
 refine ⟨⟨pl, pa, Heap.upd_same _ _ _⟩, ?_, ?_, h.n1, h.n2, h.n3⟩
 · rw [e1]
   exact h.store.same fun o ho => Heap.upd_ne _ _ (fun e => h.n1 (by rw [← e]; exact ho))
 · rw [e2, e3, e4, e5]
   exact h.deal.same fun o ho => Heap.upd_ne _ _ (fun e => h.n2 (by rw [← e]; exact ho))

theorem cut5 (i : Ids) (g : SG) (pl pa : Perm) : cutE (sagaC i g pl pa) 4 (some true) 5 = some (stA ⟨g.t.flat, g.m.1, g.m.2, g.n, g.a⟩ pl pa) := rfl
theorem sagaC_get (i : Ids) (g : SG) (pl pa : Perm) : (sagaC i g pl pa)[0]? = some (.ptr i.st 0) ∧ (sagaC i g pl pa)[1]? = some (intA g.picks 1 .no) ∧ (sagaC i g pl pa)[2]? = some (.ptr i.dl 0) ∧
 (sagaC i g pl pa)[3]? = some (.fn (.func deal_Dealer_Ask) [.ptr i.dl 0] []) ∧ (sagaC i g pl pa)[4]? = some (rowA g.t.flat pl) ∧ (sagaC i g pl pa)[7]? = some (I g.n) ∧ (sagaC i g pl pa)[8]? = some (txtA g.a pa) ∧ (sagaC i g pl pa)[9]? = some (B g.down) := ⟨rfl, rfl, rfl, rfl, rfl, rfl, rfl, rfl⟩

theorem encode_ok3 {s : St} (h : Fits s) (p q : Perm) (H : Heap) :
 ACalls PP gΓ code_Encode [stA s p q] H (fun r H' => ∃ v, r = .tup [v, B (rightS s)] ∧ H ≤ H' ∧ (rightS s = true → ∃ pv, v = bytA (enc s) pv) ∧ (rightS s = false → v = .lst 0 [] .exact)) := by
 refine (encode_ok h p q H).mono ?_
 rintro r H' (⟨h1, rfl, rfl⟩ | ⟨h1, v, rfl, pv, h2, hb⟩)
 · exact ⟨_, by rw [h1], Heap.le_refl _, fun h => by rw [h1] at h; (cases h), fun _ => rfl⟩
 · exact ⟨v, by rw [h1], hb.le, fun _ => ⟨pv, h2⟩, fun h => by rw [h1] at h; (cases h)⟩

theorem cv_n64 {n : Nat} (h : n ≤ 1000) : cv (.toInt .u64) (I n) = some (u64 n) := cv_len64 (by omega)
theorem add_u64 {n : Nat} (h : n ≤ 1000) : bop .plain .add (u64 n) (.sc (.int .u64 1)) = some (u64 (n + 1 : Nat)) := by
 show intE .add .u64 (n : Int) .u64 1 = _
 simp only [intE, if_true]
 rw [wrap_u64 (by omega) (by omega)]; rfl

theorem keep_ok {H : Heap} {i : Ids} {g : SG} {L c : Nat} (h : SagaAt H i g) (ok : OkG L c g) :
 ACalls PP gΓ saga_Saga_keep [.ptr i.s 0] H (fun r H' => r = I (keepE g) ∧ SagaAt H' i (keepG g) ∧ SameBut i.all H H') := by
 obtain ⟨pl, pa, hs⟩ := h.hs
 have hl := ok.live.len
 have hn := good_names ok.live.good
 have hnw := ok.nw
 have hL := ok.L60
 have hpk := ok.pk
 obtain ⟨c0, c1, c2, c3, c4, c7, c8, c9⟩ := sagaC_get i g pl pa
 refine saga_Saga_keep_of ?_
 unfold W_saga_Saga_keep
 have fin : ∀ e : Int, ∀ K, (K = fun x25 : AV => fun x26 : AV => fun H24 : Heap =>
  pureK (nilE (.ptr i.s 0)) fun x27 => pureK (fa 4 x27) fun x28 => pureK (fa 1 x28) fun x29 => heapK (st 2 H24 x29 x25) fun H30 => pureK (nilE (.ptr i.s 0)) fun x31 => pureK (fa 4 x31) fun x32 => pureK (ld (some true) 5 H30 x32) fun x33 =>
  ACalls PP gΓ code_Encode [x33] H30 fun x34 H35 => pureK (extractE x34 0) fun x36 => pureK (extractE x34 1) fun x37 => pureK (nilE (.ptr i.s 0)) fun x38 => pureK (fa 0 x38) fun x39 => pureK (fa 0 x39) fun x40 => pureK (ld (some false) 1 H35 x40) fun x41 =>
  pureK (nilE (.ptr i.s 0)) fun x42 => pureK (fa 4 x42) fun x43 => pureK (fa 3 x43) fun x44 => pureK (ld (some false) 1 H35 x44) fun x45 => pureK (cv (.toInt .u64) x45) fun x46 => pureK (bop .plain .add x46 (.sc (.int .u64 1))) fun x47 =>
  ACalls PP gΓ slots_Store_Save [x41, x47, x36] H35 fun x48 H49 => ret1 H49 (fun r H' => r = I (keepE g) ∧ SagaAt H' i (keepG g) ∧ SameBut i.all H H') x48) → K (mv (keepM g)) (I e) H := by
  intro e K hK
  subst hK
  simp only [nilE_ptr, pureK_some, fa_ptr, Nat.zero_add]
  rw [st_at (n := 2) hs rfl (by simp [sagaC]) rfl]
  simp only [heapK_some]
  have e1 : splice (sagaC i g pl pa) (4 + 1) (AV.cells (mv (keepM g))) = sagaC i { g with m := keepM g } pl pa := rfl
  rw [e1]
  have h30 : SagaAt (H.upd i.s (.cells (sagaC i { g with m := keepM g } pl pa))) i { g with m := keepM g } := h.write rfl rfl rfl rfl rfl
  have g30 : (H.upd i.s (.cells (sagaC i { g with m := keepM g } pl pa))) i.s = some (.cells (sagaC i { g with m := keepM g } pl pa)) := Heap.upd_same _ _ _
  have s30 : SameBut i.all H (H.upd i.s (.cells (sagaC i { g with m := keepM g } pl pa))) := (SameBut.refl _ _).upd (by simp [Ids.all]) _
  generalize H.upd i.s (.cells (sagaC i { g with m := keepM g } pl pa)) = H30 at h30 g30 s30 ⊢
  rw [ld_ptr g30, cut5]
  simp only [pureK_some]
  refine (encode_ok3 (rightS_fits ok.keepR) pl pa H30).mono ?_
  rintro r H35 ⟨v, rfl, hle, hv, _⟩
  obtain ⟨pv, rfl⟩ := hv ok.keepR
  simp only [extractE_tup, get0, get1, pureK_some, ld_ptr (hle _ _ g30), cutE_one]
  obtain ⟨d0, _, _, _, _, d7, _, _⟩ := sagaC_get i { g with m := keepM g } pl pa
  rw [d0, pureK_some]
  have d7' : (sagaC i { g with m := keepM g } pl pa)[4 + 3]? = some (I g.n) := d7
  rw [d7', pureK_some, cv_n64 (by omega), pureK_some, add_u64 (by omega), pureK_some]
  have hen := enc_len ok.keepR
  have hla : (keepS g).l.length = g.t.flat.length := rfl
  have hal : (keepS g).a.length = g.a.length := rfl
  have := ok.al
  refine (Save_ok (h30.store.le hle) (g.n + 1) (enc (keepS g)) pv (by omega)).mono ?_
  rintro r H49 ⟨rfl, hD, hnb, hsb⟩
  -- the heap that is kept
  obtain ⟨HF, hHF⟩ : ∃ HF : Heap, ∀ o, HF o = if o ∈ [i.dk, i.bl] then H49 o else H30 o := ⟨fun o => if o ∈ [i.dk, i.bl] then H49 o else H30 o, fun _ => rfl⟩
  refine ret1_of HF (fun o x hx => ?_) ⟨rfl, ?_, ?_⟩
  · rw [hHF] at hx
    split at hx
    · exact hx
    · rename_i hno
      rw [hsb o hno]; exact hle _ _ hx
  · have hin : ∀ o, o ∉ [i.dk, i.bl] → HF o = H30 o := fun o ho => by rw [hHF, if_neg ho]
    have hn1 := h30.n1
    refine ⟨⟨pl, pa, ?_⟩, ?_, ?_, h30.n1, h30.n2, h30.n3⟩
    · rw [hin i.s (fun e => hn1 (by simp only [List.mem_cons, List.not_mem_nil, or_false] at e ⊢; rcases e with h | h <;> simp [h]))]; exact g30
    · have hst := h30.store
      refine ⟨by rw [hin i.st (by simp [hst.n1, hst.n2])]; exact hst.hs, ⟨?_, ?_, hD.ok, hD.ne⟩, by have := hst.h3; rw [← half_of hnb] at this; exact this, hst.n1, hst.n2⟩
      · rw [hHF, if_pos (by simp)]; exact hD.hd
      · rw [hHF, if_pos (by simp)]; exact hD.hb
    · refine h30.deal.same fun o ho => hin o fun e => ?_
      refine h30.n3 o ?_ ho
      simp only [List.mem_cons, List.not_mem_nil, or_false] at e ⊢
      rcases e with h | h <;> simp [h]
  · intro o ho
    rw [hHF, if_neg (fun e => ho (by simp only [List.mem_cons, List.not_mem_nil, or_false] at e; simp only [Ids.all, List.mem_append, List.mem_cons]; rcases e with h | h <;> simp [h]))]
    exact s30 o ho
 simp only [nilE_ptr, pureK_some, fa_ptr, Nat.zero_add, ld_ptr hs, cutE_one, c1, c4]
 have c7' : (sagaC i g pl pa)[4 + 3]? = some (I g.n) := c7
 simp only [c7', pureK_some, lnl_lst, List.length_map, bop_lss, condK_B, decide_eq_true_eq, decide_eq_false_iff_not]
 refine ⟨fun hlt => ?_, fun hge => ?_⟩
 · have hlt' : g.n < g.picks.length := by omega
   rw [ias_int hlt']
   simp only [pureK_some, ld_cp, cutE_one, get0]
   refine (Pick_ok g.t ok.live.good.ok (by omega) hn pl _).run ?_
   rintro r ⟨e, rfl, _⟩
   simp only [extractE_tup, get0, get1, pureK_some]
   have e2 : pickF g.t g.picks[g.n] = keepM g := by unfold keepM; rw [List.getD_eq_getElem?_getD, List.getElem?_eq_getElem hlt']; rfl
   rw [e2]
   have := fin e _ rfl
   simpa only [nilE_ptr, pureK_some, fa_ptr, Nat.zero_add] using this
 · refine (Pick_ok g.t ok.live.good.ok (by omega) hn pl _).run ?_
   rintro r ⟨e, rfl, _⟩
   simp only [extractE_tup, get0, get1, pureK_some]
   have e2 : pickF g.t 0 = keepM g := by unfold keepM; rw [List.getD_eq_getElem?_getD, List.getElem?_eq_none (by omega)]; rfl
   rw [e2]
   have := fin e _ rfl
   simpa only [nilE_ptr, pureK_some, fa_ptr, Nat.zero_add] using this

end Go.Av
namespace Go.Av
open Go Go.Proofs

def cloneV (a : List ByteArray) (t : Nat) : AV := if a = [] then .lst 0 [] .exact else txtA a (.tok t)
def cloneO (a : List ByteArray) : Option (List AV) := if a = [] then none else some [.dead, I a.length]
theorem cloneV_single (a : List ByteArray) (t : Nat) : (cloneV a t).cells = [cloneV a t] ∧ (cloneV a t).single = true := by
 unfold cloneV; split <;> exact ⟨rfl, rfl⟩
theorem Clone_tok (a : List ByteArray) (p : Perm) (t : Nat) (hl : a.length ≤ 1000000) (H : Heap) (hH : H t = some (.tok 0)) :
 AMakes PP gΓ slices_Clone_string [txtA a p] H (some t) (fun rf ob => rf = (fun _ => cloneV a t) ∧ ob = cloneO a) := by
 intro H' hle hfp
 have ht : H' t = some (.tok 0) := by rw [hfp t rfl]; exact hH
 have e2 : bsl 1 (S emp) 0 [] = some (.lst 1 [] .exact) := rfl
 cases a with
 | nil =>
   refine ACalls.weaken (R := fun r H'' => (∃ s, r = .lst s [] .exact) ∧ H'' = H') ?_ (fun r H'' ⟨⟨s, hs⟩, h⟩ => ⟨.lst 0 [] .exact, ?_, _, _, ⟨rfl, rfl⟩, rfl, h⟩)
   · refine slices_Clone_string_of ?_
     unfold W_slices_Clone_string
     show nilK (.lst 1 [] p) _
     rw [nilK_nil]
     refine ⟨?_, ?_⟩
     · rw [condK_t]; exact ret1_of H' (Heap.le_refl _) ⟨⟨_, rfl⟩, rfl⟩
     · rw [condK_f, e2, pureK_some]
       exact appK_empty (ret1_of H' (Heap.le_refl _) ⟨⟨_, rfl⟩, rfl⟩)
   · subst hs
     intro G w v hv
     rcases hv.inv_lst with ⟨rfl, _⟩ | ⟨b, off, cap, vs, rfl, g1, g2, g3, g4, g5, g6, g7⟩
     · exact .nil _ _ (by intro t e; cases e)
     · exact .lst b off cap 0 [] .exact vs g1 (by intro e he; cases he) (by intro k hk; simp at hk) (by intro k hk; simp at hk) (by intro k hk; simp at hk) (.inl (by simp)) g7
 | cons x l =>
   refine slices_Clone_string_of ?_
   unfold W_slices_Clone_string
   show nilK (.lst 1 (S x :: l.map fun x => S x) p) _
   rw [nilK_cons, condK_f, e2, pureK_some]
   left
   unfold appK1
   have : appended 1 (txtA (x :: l) p) = some ((x :: l).map fun x => S x) := rfl
   simp only [this]
   refine ⟨.inl trivial, by simp [maxApp] at hl ⊢; omega, .inr (.inr (.inr ⟨t, 0, ht, by simp, by simp, ?_⟩))⟩
   refine ret1_of _ (Heap.le_refl _) ⟨_, _, ⟨rfl, rfl⟩, rfl, ?_⟩
   show _ = H'.upd t (.tok ((((x :: l).length : Nat) : Int)).toNat)
   rw [Int.toNat_natCast]; simp

theorem Weaker.st {s : St} {v1 v2 : AV} (h1 : Weaker v1 (rowA s.l .no)) (h2 : Weaker v2 (txtA s.a .no)) (c1 : v1.single = true) (c2 : v2.single = true) : Weaker (.agg [v1, I s.pl, I s.how, I s.n, v2]) (stA s .no .no) := by
 refine Weaker.agg rfl (fun i hi => ?_) (fun i hi => ?_)
 · match i, hi with
   | 0, _ => rfl
   | 1, _ => rfl
   | 2, _ => rfl
   | 3, _ => rfl
   | 4, _ => rfl
 · match i, hi with
   | 0, _ => exact h1
   | 1, _ => exact Weaker.refl _
   | 2, _ => exact Weaker.refl _
   | 3, _ => exact Weaker.refl _
   | 4, _ => exact h2

def DoneQ (H : Heap) (i : Ids) (g : SG) (H' : Heap) : Prop :=
 ∃ tk', SagaAt H' { i with tk := tk' } g ∧ (tk' = i.tk ∨ (i.tk = none ∧ ∃ t, tk' = some t ∧ H t = none)) ∧ SameBut ({ i with tk := tk' } : Ids).all H H'

theorem done_fin {R : AV → Heap → Prop} {HY : Heap} {o27 o1 : Nat} {v1 v2 v3 v4 v5 : AV} {cs : List AV} (g27 : HY o27 = some (.cells [v1, v2, v3, v4, v5])) (g1 : HY o1 = some (.cells cs)) (hcs : cs.length = 5)
 (hs : [v1, v2, v3, v4, v5].all AV.single = true) (k : ∀ x, ret1 (HY.upd o1 x) R (.agg [v1, v2, v3, v4, v5])) :
 pureK (ld (some true) 5 HY (.ptr o27 0)) fun x65 => heapK (st 5 HY (.ptr o1 0) x65) fun H66 => pureK (ld (some true) 5 H66 (.ptr o1 0)) fun x67 => ret1 H66 R x67 := by
 rw [ld_ptr g27]
 have e : cutE [v1, v2, v3, v4, v5] 0 (some true) 5 = some (.agg [v1, v2, v3, v4, v5]) := rfl
 rw [e, pureK_some, st_at (n := 5) (v := .agg [v1, v2, v3, v4, v5]) g1 rfl (by omega) hs, heapK_some]
 have e2 : splice cs 0 (AV.cells (.agg [v1, v2, v3, v4, v5])) = [v1, v2, v3, v4, v5] := by
  unfold splice
  rw [List.drop_of_length_le (by simp [hcs])]; rfl
 rw [e2, ld_upd, e, pureK_some]
 exact k _

theorem enters_Ask : enters PP deal_Dealer_Ask = true := by kernel_rfl

theorem done_ok {H : Heap} {i : Ids} {g : SG} {L c : Nat} (h : SagaAt H i g) (ok : OkM L c g) (hk : g.t.root.kind ≠ 11) (hc : c ≤ 900000) :
 ACalls PP gΓ saga_Saga_done [.ptr i.s 0] H (fun r H' => r = stA ⟨(doneT g).flat, 0, 0, g.n + 1, doneA g⟩ .no .no ∧ DoneQ H i (askG g) H') := by
 refine ACalls.weaken (R := fun r H' => Weaker r (stA ⟨(doneT g).flat, 0, 0, g.n + 1, doneA g⟩ .no .no) ∧ DoneQ H i (askG g) H') ?_ (fun r H' ⟨h1, h2⟩ => ⟨_, h1, rfl, h2⟩)
 refine ACalls.withTok fun t ht => ?_
 refine saga_Saga_done_of ?_
 unfold W_saga_Saga_done
 have hm := ok.hm hk
 have hl := ok.live.len
 have hnw := ok.nw
 have hL := ok.L60
 have hal := ok.al
 have hdl := ok.dl
 obtain ⟨ix, hix, hixl, hact, w, hw, hhow, hmay⟩ := enF_spec hm
 have hne : ∀ o, o ∈ i.all → H o ≠ none := fun o ho => by
  obtain ⟨pl, pa, h1⟩ := h.hs
  obtain ⟨v, d1, d2⟩ := h.deal.hd
  simp only [Ids.all, dealIds, List.mem_append, List.mem_cons, List.not_mem_nil, or_false] at ho
  rcases ho with (rfl | rfl | rfl | rfl) | (rfl | rfl) | ho
  · rw [h1]; simp
  · rw [h.store.hs]; simp
  · rw [h.store.disk.hd]; simp
  · rw [h.store.disk.hb]; simp
  · rw [d1]; simp
  · rw [h.deal.hk]; simp
  · rcases d2 with ⟨_, _, e⟩ | ⟨t', e, _, e2⟩
    · rw [e] at ho; simp at ho
    · rw [e] at ho; simp at ho; subst ho; rw [e2]; simp
 have hnet : ∀ o, o ∈ i.all → o ≠ t := fun o ho e => hne o ho (by rw [e]; exact ht)
 obtain ⟨pl, pa, hs⟩ := h.hs
 have hsall : i.s ∈ i.all := by simp [Ids.all]
 obtain ⟨c0, c1, c2, c3, c4, c7, c8, c9⟩ := sagaC_get i g pl pa
 intro o1 ho1
 simp only [upd_none_iff] at ho1
 -- what is known of a heap that has come of it
 have base : ∀ HX : Heap, (∀ o x, H o = some x → HX o = some x) → HX i.s = some (.cells (sagaC i g pl pa)) := fun HX hX => hX _ _ hs
 have hX2 : ∀ o x, H o = some x → ((H.upd t (.tok 0)).upd o1 (.cells [.lst 0 [] .exact, .sc (.int .i64 0), .sc (.int .i64 0), .sc (.int .i64 0), .lst 0 [] .exact])) o = some x := fun o x hx => by
  rw [Heap.upd_ne _ _ (fun e => by subst e; rw [ho1.2] at hx; cases hx), Heap.upd_ne _ _ (fun e => by subst e; rw [ht] at hx; cases hx)]; exact hx
 have g2o1 : ((H.upd t (.tok 0)).upd o1 (.cells [.lst 0 [] .exact, .sc (.int .i64 0), .sc (.int .i64 0), .sc (.int .i64 0), .lst 0 [] .exact])) o1 = some (.cells [.lst 0 [] .exact, .sc (.int .i64 0), .sc (.int .i64 0), .sc (.int .i64 0), .lst 0 [] .exact]) := Heap.upd_same _ _ _
 have g2t : ((H.upd t (.tok 0)).upd o1 (.cells [.lst 0 [] .exact, .sc (.int .i64 0), .sc (.int .i64 0), .sc (.int .i64 0), .lst 0 [] .exact])) t = some (.tok 0) := by rw [Heap.upd_ne _ _ (Ne.symm ho1.1), Heap.upd_same]
 generalize (H.upd t (.tok 0)).upd o1 (.cells [.lst 0 [] .exact, .sc (.int .i64 0), .sc (.int .i64 0), .sc (.int .i64 0), .lst 0 [] .exact]) = H2 at hX2 g2o1 g2t ⊢
 simp only [nilE_ptr, pureK_some, fa_ptr, Nat.zero_add]
 rw [ld_ptr (base _ hX2)]
 have c2' : cutE (sagaC i g pl pa) (4 + 1) (some true) 2 = some (mv g.m) := rfl
 rw [c2', pureK_some]
 intro o7 ho7
 rw [st_at (n := 2) (Heap.upd_same _ _ _) rfl (by simp) rfl]
 simp only [heapK_some, Heap.upd_upd']
 have e7 : splice [.sc (.int .i64 0), .sc (.int .i64 0)] 0 (AV.cells (mv g.m)) = [I g.m.1, I g.m.2] := rfl
 rw [e7]
 have h7H : H o7 = none := by
  cases e : H o7 with
  | none => rfl
  | some x => rw [hX2 _ _ e] at ho7; cases ho7
 have n71 : o1 ≠ o7 := fun e => by subst e; rw [g2o1] at ho7; cases ho7
 have n7t : t ≠ o7 := fun e => by subst e; rw [g2t] at ho7; cases ho7
 have hX9 : ∀ o x, H o = some x → (H2.upd o7 (.cells [I g.m.1, I g.m.2])) o = some x := fun o x hx => by
  rw [Heap.upd_ne _ _ (fun e => by subst e; rw [h7H] at hx; cases hx)]; exact hX2 _ _ hx
 have g9o1 := (Heap.upd_ne H2 (.cells [I g.m.1, I g.m.2]) n71).trans g2o1
 have g9t := (Heap.upd_ne H2 (.cells [I g.m.1, I g.m.2]) n7t).trans g2t
 have g9o7 : (H2.upd o7 (.cells [I g.m.1, I g.m.2])) o7 = some (.cells [I g.m.1, I g.m.2]) := Heap.upd_same _ _ _
 generalize H2.upd o7 (.cells [I g.m.1, I g.m.2]) = H9 at hX9 g9o1 g9t g9o7 ⊢
 refine ⟨some t, fun p e => by injection e with e; subst e; rw [g9t]; simp, ?_⟩
 have grem : (rem H9 (some t)) i.s = some (.cells (sagaC i g pl pa)) := by
  show (if i.s = t then none else H9 i.s) = _
  rw [if_neg (hnet _ hsall)]; exact base _ hX9
 rw [ld_ptr grem]
 simp only [cutE_one]
 have c7' : (sagaC i g pl pa)[4 + 3]? = some (I g.n) := c7
 have c8' : (sagaC i g pl pa)[4 + 4]? = some (txtA g.a pa) := c8
 rw [c7', pureK_some, bop_add (by omega) (by omega), pureK_some, ld_ptr grem]
 simp only [cutE_one]
 rw [c8', pureK_some]
 refine ⟨_, cloneV g.a t, Clone_tok g.a pa t (by omega) H9 g9t, .inr (fun rf ob p hh => by rw [hh.1]), ?_⟩
 have e20 : bld [(0, 1), (1, 2), (3, 1), (4, 1)] [.lst 0 [] .exact, .sc (.int .i64 0), .sc (.int .i64 0), .sc (.int .i64 0), .lst 0 [] .exact] [(2, I ((g.n : Int) + 1)), (3, cloneV g.a t)] = some (.agg [.lst 0 [] .exact, I 0, I 0, I ((g.n : Int) + 1), cloneV g.a t]) := by
  unfold cloneV; split <;> rfl
 rw [e20, pureK_some]
 rintro rf ob ⟨rfl, rfl⟩
 -- behind the clone
 have after : ∀ H26 : Heap, (∀ o, o ≠ t → H26 o = H9 o) → (g.a ≠ [] → H26 t = some (.tok g.a.length)) → H26 t ≠ none →
  allocP [.lst 0 [] .exact, .sc (.int .i64 0), .sc (.int .i64 0), .sc (.int .i64 0), .lst 0 [] .exact] H26 fun o27 H28 => heapK (st 5 H28 (.ptr o27 0) (.agg [.lst 0 [] .exact, I 0, I 0, I ((g.n : Int) + 1), cloneV g.a t])) fun H29 =>
  pureK (ld (some false) 1 H29 (.ptr o7 1)) fun x31 => pureK (bop .plain .eql x31 (I 1)) fun x32 => condK x32 (
   pureK (ld (some false) 1 H29 (.ptr i.s 3)) fun x35 => pureK (ld (some false) 1 H29 (.ptr o27 3)) fun x37 => pureK (ld (some false) 1 H29 (.ptr i.s (4 + 0))) fun x41 => pureK (ld (some false) 1 H29 (.ptr o7 0)) fun x43 =>
   pureK (ias 3 x41 x43) fun x44 => pureK (fa 1 x44) fun x45 => pureK (ld (some false) 1 H29 x45) fun x46 => callN (E_saga_Saga_done) x35 [x37, x46] H29 fun x47 H48 => pureK (unE .not x47) fun x49 =>
   condK x49 (
    ∃ fp50 : Option Nat, (∀ p, fp50 = some p → H48 p ≠ none) ∧ pureK (ld (some false) 1 (rem H48 fp50) (.ptr i.s (4 + 0))) fun x54 => pureK (ld (some true) 2 (rem H48 fp50) (.ptr o7 0)) fun x55 =>
    ∃ x56, AReads PP gΓ step_Refuse [x54, x55] (rem H48 fp50) x56 ∧ pureK (extractE x56 0) fun x57 => pureK (extractE x56 1) fun x58 => ∃ φ60, StMakes 1 H48 fp50 (.ptr o27 0) x57 φ60 ∧ ∀ rf61 ob62, φ60 rf61 ob62 → madeK fp50 H48 rf61 ob62 fun x63 H64 =>
    pureK (ld (some true) 5 H64 (.ptr o27 0)) fun x65 => heapK (st 5 H64 (.ptr o1 0) x65) fun H66 => pureK (ld (some true) 5 H66 (.ptr o1 0)) fun x67 => ret1 H66 (fun r H' => Weaker r (stA ⟨(doneT g).flat, 0, 0, g.n + 1, doneA g⟩ .no .no) ∧ DoneQ H i (askG g) H') x67
   ) (
     pureK (ld (some false) 1 H48 (.ptr i.s (4 + 0))) fun x71 => pureK (ld (some true) 2 H48 (.ptr o7 0)) fun x72 => ∃ x73, AReads PP gΓ step_Next [x71, x72] H48 x73 ∧ pureK (extractE x73 0) fun x74 => pureK (extractE x73 1) fun x75 => pureK (extractE x73 2) fun x76 =>
     heapK (st 1 H48 (.ptr o27 0) x74) fun H78 => pureK (ld (some false) 1 H78 (.ptr o7 1)) fun x80 => pureK (bop .plain .eql x80 (I 1)) fun x81 => condK x81 (
      pureK (ld (some false) 1 H78 (.ptr o27 4)) fun x83 => pureK (bsl 1 (S emp) 1 [(0, x75)]) fun x84 => appK 1 x83 x84 H78 fun x85 H86 => heapK (st 1 H86 (.ptr o27 4) x85) fun H88 =>
      pureK (ld (some true) 5 H88 (.ptr o27 0)) fun x89 => heapK (st 5 H88 (.ptr o1 0) x89) fun H90 => pureK (ld (some true) 5 H90 (.ptr o1 0)) fun x91 => ret1 H90 (fun r H' => Weaker r (stA ⟨(doneT g).flat, 0, 0, g.n + 1, doneA g⟩ .no .no) ∧ DoneQ H i (askG g) H') x91
     ) (
       pureK (ld (some true) 5 H78 (.ptr o27 0)) fun x92 => heapK (st 5 H78 (.ptr o1 0) x92) fun H93 => pureK (ld (some true) 5 H93 (.ptr o1 0)) fun x94 => ret1 H93 (fun r H' => Weaker r (stA ⟨(doneT g).flat, 0, 0, g.n + 1, doneA g⟩ .no .no) ∧ DoneQ H i (askG g) H') x94
     )
   )
  ) (
    pureK (ld (some false) 1 H29 (.ptr i.s (4 + 0))) fun x98 => pureK (ld (some true) 2 H29 (.ptr o7 0)) fun x99 => ∃ x100, AReads PP gΓ step_Next [x98, x99] H29 x100 ∧ pureK (extractE x100 0) fun x101 => pureK (extractE x100 1) fun x102 => pureK (extractE x100 2) fun x103 =>
    heapK (st 1 H29 (.ptr o27 0) x101) fun H105 => pureK (ld (some false) 1 H105 (.ptr o7 1)) fun x107 => pureK (bop .plain .eql x107 (I 1)) fun x108 => condK x108 (
     pureK (ld (some false) 1 H105 (.ptr o27 4)) fun x110 => pureK (bsl 1 (S emp) 1 [(0, x102)]) fun x111 => appK 1 x110 x111 H105 fun x112 H113 => heapK (st 1 H113 (.ptr o27 4) x112) fun H115 =>
     pureK (ld (some true) 5 H115 (.ptr o27 0)) fun x116 => heapK (st 5 H115 (.ptr o1 0) x116) fun H117 => pureK (ld (some true) 5 H117 (.ptr o1 0)) fun x118 => ret1 H117 (fun r H' => Weaker r (stA ⟨(doneT g).flat, 0, 0, g.n + 1, doneA g⟩ .no .no) ∧ DoneQ H i (askG g) H') x118
    ) (
      pureK (ld (some true) 5 H105 (.ptr o27 0)) fun x119 => heapK (st 5 H105 (.ptr o1 0) x119) fun H120 => pureK (ld (some true) 5 H120 (.ptr o1 0)) fun x121 => ret1 H120 (fun r H' => Weaker r (stA ⟨(doneT g).flat, 0, 0, g.n + 1, doneA g⟩ .no .no) ∧ DoneQ H i (askG g) H') x121
    )
  ) := by
  intro H26 hsame htok htn o27 ho27
  rw [st_at (n := 5) (Heap.upd_same _ _ _) rfl (by simp) (by simp [(cloneV_single g.a t).2])]
  simp only [heapK_some, Heap.upd_upd']
  have e27 : splice [.lst 0 [] .exact, .sc (.int .i64 0), .sc (.int .i64 0), .sc (.int .i64 0), .lst 0 [] .exact] 0 (AV.cells (.agg [.lst 0 [] .exact, I 0, I 0, I ((g.n : Int) + 1), cloneV g.a t])) = [.lst 0 [] .exact, I 0, I 0, I ((g.n : Int) + 1), cloneV g.a t] := rfl
  rw [e27]
  have hX26 : ∀ o x, H o = some x → H26 o = some x := fun o x hx => by
   rw [hsame o (fun e => by subst e; rw [ht] at hx; cases hx)]; exact hX9 _ _ hx
  have n1t : o1 ≠ t := ho1.1
  have g26o1 := (hsame o1 n1t).trans g9o1
  have g26o7 := (hsame o7 (Ne.symm n7t)).trans g9o7
  have h27H : H o27 = none := by
   cases e : H o27 with
   | none => rfl
   | some x => rw [hX26 _ _ e] at ho27; cases ho27
  have n127 : o1 ≠ o27 := fun e => by subst e; rw [g26o1] at ho27; cases ho27
  have n727 : o7 ≠ o27 := fun e => by subst e; rw [g26o7] at ho27; cases ho27
  have nt27 : t ≠ o27 := fun e => by subst e; exact htn ho27
  have hX29 : ∀ o x, H o = some x → (H26.upd o27 (.cells [.lst 0 [] .exact, I 0, I 0, I ((g.n : Int) + 1), cloneV g.a t])) o = some x := fun o x hx => by
   rw [Heap.upd_ne _ _ (fun e => by subst e; rw [h27H] at hx; cases hx)]; exact hX26 _ _ hx
  have g29o1 := (Heap.upd_ne H26 (.cells [.lst 0 [] .exact, I 0, I 0, I ((g.n : Int) + 1), cloneV g.a t]) n127).trans g26o1
  have g29o7 := (Heap.upd_ne H26 (.cells [.lst 0 [] .exact, I 0, I 0, I ((g.n : Int) + 1), cloneV g.a t]) n727).trans g26o7
  have g29t : g.a ≠ [] → (H26.upd o27 (.cells [.lst 0 [] .exact, I 0, I 0, I ((g.n : Int) + 1), cloneV g.a t])) t = some (.tok g.a.length) := fun ha => (Heap.upd_ne _ _ nt27).trans (htok ha)
  have g29tn : (H26.upd o27 (.cells [.lst 0 [] .exact, I 0, I 0, I ((g.n : Int) + 1), cloneV g.a t])) t ≠ none := by rw [Heap.upd_ne _ _ nt27]; exact htn
  have g29o27 : (H26.upd o27 (.cells [.lst 0 [] .exact, I 0, I 0, I ((g.n : Int) + 1), cloneV g.a t])) o27 = some (.cells [.lst 0 [] .exact, I 0, I 0, I ((g.n : Int) + 1), cloneV g.a t]) := Heap.upd_same _ _ _
  generalize H26.upd o27 (.cells [.lst 0 [] .exact, I 0, I 0, I ((g.n : Int) + 1), cloneV g.a t]) = H29 at hX29 g29o1 g29o7 g29t g29tn g29o27 ⊢
  have gs29 := base _ hX29
  rw [ld_ptr g29o7]
  simp only [cutE_one, get1, pureK_some, bop_eql, condK_B, decide_eq_true_eq, decide_eq_false_iff_not]
  have emv : cutE [I g.m.1, I g.m.2] 0 (some true) 2 = some (mv g.m) := rfl
  have s27 : ∀ x : AV, splice [.lst 0 [] .exact, I 0, I 0, I ((g.n : Int) + 1), cloneV g.a t] 0 [x] = [x, I 0, I 0, I ((g.n : Int) + 1), cloneV g.a t] := fun _ => rfl
  have en : ((g.n : Int) + 1) = ((g.n + 1 : Nat) : Int) := by omega
  have hvw : Weaker (cloneV g.a t) (txtA g.a .no) := by
   unfold cloneV
   split
   · rename_i e; rw [e]; exact Weaker.empty
   · exact Weaker.lst
  refine ⟨fun h1 => ?_, fun h1 => ?_⟩
  · have hsaid : said g = true := by simp [said, h1]
    rw [ld_ptr gs29, ld_ptr g29o27]
    simp only [cutE_one, c3, get3, pureK_some]
    rw [ld_ptr gs29, ld_ptr g29o7]
    have c4' : (sagaC i g pl pa)[4 + 0]? = some (rowA g.t.flat pl) := c4
    simp only [cutE_one, c4', get0, pureK_some]
    rw [hix, ias_row (by omega) (by simpa using hixl)]
    simp only [pureK_some, fa_cp, ld_cp, cutE_one, Nat.zero_add, get1, Int.toNat_natCast, get_sub ok.live.good.ok hixl]
    have hname : (subT g.t ix).root.name = nameG g := by unfold nameG; rw [hix, Int.toNat_natCast]
    rw [hname]
    have hdeal : DealAt H29 i.dl i.kn i.tk g.refuses g.deeds g.known g.asked := (h.le (H' := H29) (fun o x hx => hX29 o x hx)).deal
    have hcall : ∀ K : AV → Heap → Prop, ACalls PP gΓ deal_Dealer_Ask [.ptr i.dl 0, I ((g.n : Int) + 1), S (nameG g)] H29 K → callN (E_saga_Saga_done) (.fn (.func deal_Dealer_Ask) [.ptr i.dl 0] []) [I ((g.n : Int) + 1), S (nameG g)] H29 K := fun K hK => by
     show (bif enters PP deal_Dealer_Ask then ACalls PP gΓ deal_Dealer_Ask [.ptr i.dl 0, I ((g.n : Int) + 1), S (nameG g)] H29 K else False)
     rw [enters_Ask]
     exact hK
    refine hcall _ ((Ask_ok hdeal (by unfold small; have := ok.rf; omega) (by omega) ((g.n : Int) + 1) (nameG g)).mono ?_)
    rintro r H48 ⟨rfl, tk', hD, htk, hsb⟩
    have eask : askG g = { g with asked := IntKind.wrap .i64 (g.asked + 1), deeds := askD g.refuses g.known g.deeds (g.n + 1) (nameG g), known := askK g.refuses g.known (g.n + 1) } := by unfold askG; rw [if_pos hsaid]
    -- the objects that stay
    have hstay : ∀ o, o ∉ dealIds i.dl i.kn i.tk → H29 o ≠ none → H48 o = H29 o := fun o h1 h2 => by
     refine hsb o fun e => ?_
     rcases htk with e2 | ⟨e2, t2, e3, e4⟩
     · rw [e2] at e; exact h1 e
     · rw [e3] at e
       simp only [dealIds, Option.toList_some, List.mem_append, List.mem_cons, List.not_mem_nil, or_false] at e
       rcases e with e | e
       · exact h1 (by simp only [dealIds, List.mem_append, List.mem_cons, List.not_mem_nil, or_false]; exact .inl e)
       · subst e; exact h2 e4
    have hnd : ∀ o, H o = none → o ∉ dealIds i.dl i.kn i.tk := fun o ho e => hne o (by simp [Ids.all, e]) ho
    have gs48 : H48 i.s = some (.cells (sagaC i g pl pa)) := (hstay _ h.n2 (by rw [gs29]; simp)).trans gs29
    have g48o1 : H48 o1 = _ := (hstay o1 (hnd _ ho1.2) (by rw [g29o1]; simp)).trans g29o1
    have g48o7 : H48 o7 = _ := (hstay o7 (hnd _ h7H) (by rw [g29o7]; simp)).trans g29o7
    have g48o27 : H48 o27 = _ := (hstay o27 (hnd _ h27H) (by rw [g29o27]; simp)).trans g29o27
    have g48t : g.a ≠ [] → H48 t = some (.tok g.a.length) := fun ha => (hstay t (hnd _ ht) g29tn).trans (g29t ha)
    have hnd' : ∀ o, H o = none → H29 o ≠ none → o ∉ dealIds i.dl i.kn tk' := fun o ho hn e => by
     rcases htk with e2 | ⟨e2, t2, e3, e4⟩
     · rw [e2] at e; exact hnd o ho e
     · rw [e3] at e
       simp only [dealIds, Option.toList_some, List.mem_append, List.mem_cons, List.not_mem_nil, or_false] at e
       rcases e with e | e
       · exact hnd o ho (by simp only [dealIds, List.mem_append, List.mem_cons, List.not_mem_nil, or_false]; exact .inl e)
       · subst e; exact hn e4
    -- what is kept in the end
    have keep : ∀ HF : Heap, (∀ o, o ≠ o1 → o ≠ o27 → o ≠ t → HF o = H48 o) → ∃ H1, H1 ≤ HF ∧ DoneQ H i (askG g) H1 := fun HF hF => by
     obtain ⟨H1, hH1⟩ : ∃ H1 : Heap, ∀ o, H1 o = if o ∈ dealIds i.dl i.kn tk' then H48 o else H o := ⟨fun o => if o ∈ dealIds i.dl i.kn tk' then H48 o else H o, fun _ => rfl⟩
     have hfresh : ∀ t2, tk' = some t2 → i.tk = none → H t2 = none := fun t2 e1 e2 => by
      rcases htk with e3 | ⟨_, t3, e3, e4⟩
      · rw [e2] at e3; rw [e3] at e1; cases e1
      · rw [e3] at e1; injection e1 with e1; subst e1
        cases e5 : H t3 with
        | none => rfl
        | some x => rw [hX29 _ _ e5] at e4; cases e4
     have hnew : ∀ o, H o ≠ none → o ∉ dealIds i.dl i.kn i.tk → o ∉ dealIds i.dl i.kn tk' := fun o ho hno e => by
      rcases htk with e2 | ⟨e2, t2, e3, e4⟩
      · rw [e2] at e; exact hno e
      · rw [e3] at e
        simp only [dealIds, Option.toList_some, List.mem_append, List.mem_cons, List.not_mem_nil, or_false] at e
        rcases e with e | e
        · exact hno (by simp only [dealIds, List.mem_append, List.mem_cons, List.not_mem_nil, or_false]; exact .inl e)
        · subst e; exact ho (hfresh _ e3 e2)
     refine ⟨H1, fun o x hx => ?_, tk', ⟨⟨pl, pa, ?_⟩, ?_, ?_, h.n1, ?_, ?_⟩, ?_, ?_⟩
     · rw [hH1] at hx
       split at hx
       · rename_i hin
         rw [hF o (fun e => by subst e; exact hnd' _ ho1.2 (by rw [g29o1]; simp) hin) (fun e => by subst e; exact hnd' _ h27H (by rw [g29o27]; simp) hin) (fun e => by subst e; exact hnd' _ ht g29tn hin)]
         exact hx
       · rename_i hno
         rw [hF o (fun e => by subst e; rw [ho1.2] at hx; cases hx) (fun e => by subst e; rw [h27H] at hx; cases hx) (fun e => by subst e; rw [ht] at hx; cases hx), hsb o hno]
         exact hX29 _ _ hx
     · rw [hH1, if_neg (hnew _ (by rw [hs]; simp) h.n2), eask]; exact hs
     · rw [eask]
       refine h.store.same fun o ho => ?_
       rw [hH1, if_neg (hnew o (hne o (by simp only [List.mem_cons, List.not_mem_nil, or_false] at ho; simp only [Ids.all, List.mem_append, List.mem_cons]; rcases ho with h | h | h <;> simp [h])) (h.n3 o ho))]
     · rw [eask]
       exact hD.same fun o ho => by rw [hH1, if_pos ho]
     · exact hnew _ (by rw [hs]; simp) h.n2
     · exact fun o ho => hnew o (hne o (by simp only [List.mem_cons, List.not_mem_nil, or_false] at ho; simp only [Ids.all, List.mem_append, List.mem_cons]; rcases ho with h | h | h <;> simp [h])) (h.n3 o ho)
     · rcases htk with e | ⟨e1, t2, e2, _⟩
       · exact .inl e
       · exact .inr ⟨e1, t2, e2, hfresh _ e2 e1⟩
     · intro o ho
       rw [hH1, if_neg (fun e => ho (by simp [Ids.all, e]))]
    simp only [unE_not, pureK_some, condK_B]
    refine ⟨fun hr => ?_, fun hr => ?_⟩
    · have hrf : refd g = true := by unfold refd; rw [hsaid, hr]; rfl
      have hT : doneT g = refT g.t g.m := by unfold doneT; rw [if_pos hrf]
      have hA : doneA g = g.a := by unfold doneA; rw [hsaid, hrf]; rfl
      refine ⟨some o27, fun p e => by injection e with e; subst e; rw [g48o27]; simp, ?_⟩
      have r1 : (rem H48 (some o27)) i.s = some (.cells (sagaC i g pl pa)) := by
       show (if i.s = o27 then none else H48 i.s) = _
       rw [if_neg (fun e => by rw [e] at hs; rw [h27H] at hs; cases hs)]; exact gs48
      have r2 : (rem H48 (some o27)) o7 = some (.cells [I g.m.1, I g.m.2]) := by
       show (if o7 = o27 then none else H48 o7) = _
       rw [if_neg n727]; exact g48o7
      rw [ld_ptr r1, ld_ptr r2, emv]
      simp only [cutE_one, c4', pureK_some]
      refine ⟨_, (step_Refuse_ok g.t ok.live.toInv pl hm h1).reads, ?_⟩
      simp only [extractE_tup, get0, get1, pureK_some]
      refine ⟨_, ⟨o27, 0, _, rfl, rfl, st_at (n := 1) g48o27 rfl (by simp) rfl, rfl, rfl⟩, ?_⟩
      rintro rf ob ⟨rfl, rfl⟩
      have e1 : splice [.lst 0 [] .exact, I 0, I 0, I ((g.n : Int) + 1), cloneV g.a t] 0 (AV.cells (rowA (refT g.t g.m).flat .no)) = [rowA (refT g.t g.m).flat .no, I 0, I 0, I ((g.n : Int) + 1), cloneV g.a t] := rfl
      rw [e1]
      show pureK (ld (some true) 5 (H48.upd o27 (.cells [rowA (refT g.t g.m).flat .no, I 0, I 0, I ((g.n : Int) + 1), cloneV g.a t])) (.ptr o27 0)) _
      refine done_fin (Heap.upd_same _ _ _) ((Heap.upd_ne _ _ n127).trans g48o1) rfl (by simp [(cloneV_single g.a t).2]) fun x => ?_
      obtain ⟨H1, k1, k2⟩ := keep ((H48.upd o27 (.cells [rowA (refT g.t g.m).flat .no, I 0, I 0, I ((g.n : Int) + 1), cloneV g.a t])).upd o1 x) (fun o a1 a2 a3 => by rw [Heap.upd_ne _ _ a1, Heap.upd_ne _ _ a2])
      refine ret1_of H1 k1 ⟨?_, k2⟩
      rw [hT, hA]
      have := Weaker.st (s := ⟨(refT g.t g.m).flat, 0, 0, (g.n : Int) + 1, g.a⟩) (Weaker.refl _) hvw rfl (cloneV_single g.a t).2
      exact this
    · have hrf : refd g = false := by unfold refd; rw [hsaid, hr]; rfl
      have hT : doneT g = nextT g.t g.m := by unfold doneT; rw [hrf]; rfl
      have hA : doneA g = g.a ++ [nameG g] := by unfold doneA; rw [hsaid, hrf]; rfl
      rw [ld_ptr gs48, ld_ptr g48o7, emv]
      simp only [cutE_one, c4', pureK_some]
      refine ⟨_, (step_Next_ok g.t ok.live.toInv pl hm).reads, ?_⟩
      simp only [extractE_tup, get0, get1, get2, pureK_some]
      rw [st_at (n := 1) g48o27 rfl (by simp) rfl]
      simp only [heapK_some]
      have e1 : splice [.lst 0 [] .exact, I 0, I 0, I ((g.n : Int) + 1), cloneV g.a t] 0 (AV.cells (rowA (nextT g.t g.m).flat .no)) = [rowA (nextT g.t g.m).flat .no, I 0, I 0, I ((g.n : Int) + 1), cloneV g.a t] := rfl
      rw [e1, ld_ptr ((Heap.upd_ne _ _ n727).trans g48o7)]
      simp only [cutE_one, get1, pureK_some, bop_eql, condK_B, decide_eq_true_eq, decide_eq_false_iff_not]
      refine ⟨fun _ => ?_, fun e => absurd h1 e⟩
      rw [ld_upd]
      simp only [cutE_one, get4, pureK_some]
      have hn2 : (subT g.t g.m.1.toNat).root.name = nameG g := rfl
      rw [hn2]
      have e3 : bsl 1 (S emp) 1 [(0, S (nameG g))] = some (.lst 1 [S (nameG g)] .exact) := rfl
      rw [e3, pureK_some]
      -- the append
      have app : ∀ (H86 : Heap) (x85 : AV), (∀ o, o ≠ t → H86 o = (H48.upd o27 (.cells [rowA (nextT g.t g.m).flat .no, I 0, I 0, I ((g.n : Int) + 1), cloneV g.a t])) o) → Weaker x85 (txtA (g.a ++ [nameG g]) .no) → x85.cells = [x85] → x85.single = true →
       heapK (st 1 H86 (.ptr o27 4) x85) fun H88 => pureK (ld (some true) 5 H88 (.ptr o27 0)) fun x89 => heapK (st 5 H88 (.ptr o1 0) x89) fun H90 => pureK (ld (some true) 5 H90 (.ptr o1 0)) fun x91 => ret1 H90 (fun r H' => Weaker r (stA ⟨(doneT g).flat, 0, 0, g.n + 1, doneA g⟩ .no .no) ∧ DoneQ H i (askG g) H') x91 := by
       intro H86 x85 hs86 hwk hc1 hc2
       have g86 : H86 o27 = some (.cells [rowA (nextT g.t g.m).flat .no, I 0, I 0, I ((g.n : Int) + 1), cloneV g.a t]) := by rw [hs86 o27 (Ne.symm nt27)]; exact Heap.upd_same _ _ _
       have g86o1 : H86 o1 = _ := (hs86 o1 n1t).trans ((Heap.upd_ne _ _ n127).trans g48o1)
       rw [st_at (n := 1) g86 (by rw [hc1]; rfl) (by simp) (by rw [hc1]; simp [hc2])]
       simp only [heapK_some]
       have e5 : splice [rowA (nextT g.t g.m).flat .no, I 0, I 0, I ((g.n : Int) + 1), cloneV g.a t] 4 (AV.cells x85) = [rowA (nextT g.t g.m).flat .no, I 0, I 0, I ((g.n : Int) + 1), x85] := by rw [hc1]; rfl
       rw [e5]
       refine done_fin (Heap.upd_same _ _ _) ((Heap.upd_ne _ _ n127).trans g86o1) rfl (by simp [hc2]) fun x => ?_
       obtain ⟨H1, k1, k2⟩ := keep ((H86.upd o27 (.cells [rowA (nextT g.t g.m).flat .no, I 0, I 0, I ((g.n : Int) + 1), x85])).upd o1 x) (fun o a1 a2 a3 => by rw [Heap.upd_ne _ _ a1, Heap.upd_ne _ _ a2, hs86 o a3, Heap.upd_ne _ _ a2])
       refine ret1_of H1 k1 ⟨?_, k2⟩
       rw [hT, hA]
       have := Weaker.st (s := ⟨(nextT g.t g.m).flat, 0, 0, (g.n : Int) + 1, g.a ++ [nameG g]⟩) (Weaker.refl _) hwk rfl hc2
       exact this
      have happ : appended 1 (.lst 1 [S (nameG g)] .exact) = some [S (nameG g)] := rfl
      left
      unfold appK1
      by_cases ha : g.a = []
      · have hcv : cloneV g.a t = .lst 0 [] .exact := by unfold cloneV; rw [if_pos ha]
        rw [hcv]
        simp only [happ]
        refine ⟨.inr trivial, by simp [maxApp], .inl ?_⟩
        have := app (H48.upd o27 (.cells [rowA (nextT g.t g.m).flat .no, I 0, I 0, I ((g.n : Int) + 1), cloneV g.a t])) (.lst 1 ([] ++ [S (nameG g)]) .no) (fun _ _ => rfl) (by rw [ha]; exact Weaker.refl _) rfl rfl
        rw [hcv] at this; exact this
      · have hcv : cloneV g.a t = txtA g.a (.tok t) := by unfold cloneV; rw [if_neg ha]
        rw [hcv]
        simp only [happ]
        refine ⟨.inl trivial, by simp [maxApp]; omega, trivial, ?_, ?_⟩
        · rw [Heap.upd_ne _ _ nt27, g48t ha]; simp
        · have := app ((H48.upd o27 (.cells [rowA (nextT g.t g.m).flat .no, I 0, I 0, I ((g.n : Int) + 1), cloneV g.a t])).upd t (.tok ((g.a.map fun s => S s).length + [S (nameG g)].length))) (.lst 1 ((g.a.map fun s => S s) ++ [S (nameG g)]) (.tok t)) (fun o ho => Heap.upd_ne _ _ ho)
           (by have e : (g.a.map fun s => S s) ++ [S (nameG g)] = (g.a ++ [nameG g]).map fun s => S s := by simp
               rw [e]; exact Weaker.lst) rfl rfl
          rw [hcv] at this; exact this
  · have hsaid : said g = false := by simp [said, h1]
    have hrf : refd g = false := by unfold refd; rw [hsaid]; rfl
    have hT : doneT g = nextT g.t g.m := by unfold doneT; rw [hrf]; rfl
    have hA : doneA g = g.a := by unfold doneA; rw [hsaid]; rfl
    have eask : askG g = g := by unfold askG; rw [hsaid]; rfl
    have c4' : (sagaC i g pl pa)[4 + 0]? = some (rowA g.t.flat pl) := c4
    rw [ld_ptr gs29, ld_ptr g29o7, emv]
    simp only [cutE_one, c4', pureK_some]
    refine ⟨_, (step_Next_ok g.t ok.live.toInv pl hm).reads, ?_⟩
    simp only [extractE_tup, get0, get1, get2, pureK_some]
    rw [st_at (n := 1) g29o27 rfl (by simp) rfl]
    simp only [heapK_some]
    have e1 : splice [.lst 0 [] .exact, I 0, I 0, I ((g.n : Int) + 1), cloneV g.a t] 0 (AV.cells (rowA (nextT g.t g.m).flat .no)) = [rowA (nextT g.t g.m).flat .no, I 0, I 0, I ((g.n : Int) + 1), cloneV g.a t] := rfl
    rw [e1, ld_ptr ((Heap.upd_ne _ _ n727).trans g29o7)]
    simp only [cutE_one, get1, pureK_some, bop_eql, condK_B, decide_eq_true_eq, decide_eq_false_iff_not]
    refine ⟨fun e => absurd e h1, fun _ => ?_⟩
    refine done_fin (Heap.upd_same _ _ _) ((Heap.upd_ne _ _ n127).trans g29o1) rfl (by simp [(cloneV_single g.a t).2]) fun x => ?_
    refine ret1_of H (fun o y hy => ?_) ⟨?_, i.tk, by rw [eask]; exact h, .inl rfl, SameBut.refl _ _⟩
    · rw [Heap.upd_ne _ _ (fun e => by subst e; rw [ho1.2] at hy; cases hy), Heap.upd_ne _ _ (fun e => by subst e; rw [h27H] at hy; cases hy)]
      exact hX29 _ _ hy
    · rw [hT, hA]
      have := Weaker.st (s := ⟨(nextT g.t g.m).flat, 0, 0, (g.n : Int) + 1, g.a⟩) (Weaker.refl _) hvw rfl (cloneV_single g.a t).2
      exact this
 unfold cloneO
 by_cases ha : g.a = []
 · rw [if_pos ha]
   exact after H9 (fun _ _ => rfl) (fun h => absurd ha h) (by rw [g9t]; simp)
 · rw [if_neg ha]
   refine after (H9.upd t (.tok (((g.a.length : Nat) : Int)).toNat)) (fun o ho => Heap.upd_ne _ _ ho) (fun _ => ?_) (by rw [Heap.upd_same]; simp)
   rw [Heap.upd_same, Int.toNat_natCast]

end Go.Av
namespace Go.Av
open Go Go.Proofs

theorem askG_same (g : SG) : (askG g).picks = g.picks ∧ (askG g).refuses = g.refuses ∧ (askG g).t = g.t ∧ (askG g).m = g.m ∧ (askG g).n = g.n ∧ (askG g).a = g.a ∧ (askG g).down = g.down ∧ (askG g).d = g.d := by
 unfold askG; split <;> exact ⟨rfl, rfl, rfl, rfl, rfl, rfl, rfl, rfl⟩
theorem askD_len (rf : List Int) (kw : List (Int × Bool)) (de : List (Int × ByteArray × Bool)) (id : Int) (nm : ByteArray) : (askD rf kw de id nm).length ≤ de.length + 1 := by
 unfold askD; split <;> simp
theorem askG_deeds (g : SG) : (askG g).deeds.length ≤ g.deeds.length + 1 := by
 unfold askG
 split
 · exact askD_len _ _ _ _ _
 · omega
theorem OkM.ask {L c : Nat} {g : SG} (h : OkM L c g) (b : Bool) : OkM L (c + 1) { askG g with down := b } := by
 obtain ⟨e1, e2, e3, e4, e5, e6, _, e8⟩ := askG_same g
 have hd := askG_deeds g
 have := h.dl
 refine ⟨⟨?_, ?_, h.L60, ?_, ?_, ?_, ?_, ?_, ?_, ?_, ?_, ?_⟩, ?_⟩
 · show Live (askG g).t; rw [e3]; exact h.live
 · show (askG g).t.flat.length ≤ L; rw [e3]; exact h.len
 · show (askG g).a.length ≤ (askG g).n; rw [e5, e6]; exact h.al
 · show (askG g).n + wN (askG g).t.flat ≤ L; rw [e3, e5]; exact h.nw
 · show ∀ x, x ∈ (askG g).a → _; rw [e6]; exact h.nm
 · show (askG g).d.ok; rw [e8]; exact h.dok
 · show 3 ≤ (askG g).d.half; rw [e8]; exact h.h3
 · show long L ≤ (askG g).d.room; rw [e8]; exact h.room
 · show (askG g).deeds.length ≤ c + 1; omega
 · show (askG g).refuses.length ≤ _; rw [e2]; exact h.rf
 · show (askG g).picks.length ≤ _; rw [e1]; exact h.pk
 · show (askG g).t.root.kind ≠ 11 → (askG g).m ∈ enF (askG g).t; rw [e3, e4]; exact h.hm
theorem OkM.gone {L c : Nat} {g : SG} (h : OkM L c g) (hk : g.t.root.kind ≠ 11) : OkG L (c + 1) (goneG g) := by
 obtain ⟨e1, e2, e3, e4, e5, e6, _, e8⟩ := askG_same g
 have hd := askG_deeds g
 have := h.dl
 have hm := h.hm hk
 have hT : Live (doneT g) ∧ (doneT g).flat.length ≤ g.t.flat.length ∧ wN (doneT g).flat + 1 ≤ wN g.t.flat := by
  unfold doneT
  split
  · rename_i hr
    have h1 : g.m.2 = 1 := by
     unfold refd said at hr
     simp only [Bool.and_eq_true, decide_eq_true_eq] at hr
     exact hr.1
    exact live_refuse h.live hm h1
  · exact live_next h.live hm
 obtain ⟨t1, t2, t3⟩ := hT
 have hlen := h.len
 have hal := h.al
 have hnw := h.nw
 have hA : (doneA g).length ≤ g.n + 1 := by
  unfold doneA
  split
  · simp only [List.length_append, List.length_singleton]; omega
  · omega
 refine ⟨t1, Nat.le_trans t2 hlen, h.L60, hA, ?_, ?_, ?_, ?_, ?_, ?_, ?_, ?_⟩
 · show g.n + 1 + wN (doneT g).flat ≤ L; omega
 · show ∀ x, x ∈ doneA g → _
   unfold doneA
   split
   · rename_i hs
     intro x hx
     rcases List.mem_append.1 hx with hx | hx
     · exact h.nm x hx
     · rw [List.mem_singleton.1 hx]
       simp only [Bool.and_eq_true] at hs
       have h1 : g.m.2 = 1 := by have := hs.1; unfold said at this; simpa using this
       obtain ⟨i, hi, hlt, hact, w, hw, hhow, _⟩ := enF_spec hm
       have hk1 : (subT g.t i).root.kind = 1 := waysOf_do hw (by rw [← hhow]; exact h1)
       have ei : g.m.1.toNat = i := by omega
       unfold nameG
       rw [ei]
       exact right_act (good_sub g.t i h.live.good hlt).rootR hk1
   · exact h.nm
 · show (askG g).d.ok; rw [e8]; exact h.dok
 · show 3 ≤ (askG g).d.half; rw [e8]; exact h.h3
 · show long L ≤ (askG g).d.room; rw [e8]; exact h.room
 · show (askG g).deeds.length ≤ c + 1; omega
 · show (askG g).refuses.length ≤ _; rw [e2]; exact h.rf
 · show (askG g).picks.length ≤ _; rw [e1]; exact h.pk
theorem OkM.mono {L c c' : Nat} {g : SG} (h : OkM L c g) (hc : c ≤ c') : OkM L c' g := by
 have := h.dl
 exact ⟨⟨h.live, h.len, h.L60, h.al, h.nw, h.nm, h.dok, h.h3, h.room, by omega, h.rf, h.pk⟩, h.hm⟩
theorem OkM.setDown {L c : Nat} {g : SG} (h : OkM L c g) (b : Bool) : OkM L c { g with down := b } := ⟨⟨h.live, h.len, h.L60, h.al, h.nw, h.nm, h.dok, h.h3, h.room, h.dl, h.rf, h.pk⟩, h.hm⟩
theorem stopsE_zero {g : SG} (h : stopsE g = 0) : g.down = false ∧ g.t.root.kind ≠ 11 := by
 unfold stopsE at h
 split at h
 · omega
 · rename_i hd
   split at h
   · omega
   · rename_i hk
     exact ⟨by simpa using hd, hk⟩
theorem OkM.step {L c : Nat} {g : SG} (h : OkM L c g) : OkM L (c + 1) (stepG g).1 := by
 unfold stepG
 split
 · exact h.mono (by omega)
 · rename_i hs
   have hs' : stopsE g = 0 := by simpa using hs
   obtain ⟨k1, _, _⟩ := (h.gone (stopsE_zero hs').2).keep
   split
   · exact k1.setDown true
   · exact k1
theorem OkM.halt {L c : Nat} {g : SG} (h : OkM L c g) : OkM L (c + 1) (haltG g).1 := by
 unfold haltG
 split
 · exact h.mono (by omega)
 · exact h.ask true

theorem DoneQ.refl {H : Heap} {i : Ids} {g : SG} (h : SagaAt H i g) : DoneQ H i g H := ⟨i.tk, h, .inl rfl, SameBut.refl _ _⟩

theorem stops_ok {H : Heap} {i : Ids} {g : SG} (h : SagaAt H i g) (ht : g.t.ok) : ACalls PP gΓ saga_Saga_stops [.ptr i.s 0] H (fun r H' => r = I (stopsE g) ∧ H' = H) := by
 obtain ⟨pl, pa, hs⟩ := h.hs
 obtain ⟨c0, c1, c2, c3, c4, c7, c8, c9⟩ := sagaC_get i g pl pa
 refine saga_Saga_stops_of ?_
 unfold W_saga_Saga_stops
 simp only [nilE_ptr, pureK_some, fa_ptr, Nat.zero_add]
 rw [ld_ptr hs]
 simp only [cutE_one, c9, pureK_some, condK_B]
 refine ⟨fun hd => ret1_of H (Heap.le_refl _) ⟨by unfold stopsE; rw [if_pos hd], rfl⟩, fun hd => ?_⟩
 have c4' : (sagaC i g pl pa)[4 + 0]? = some (rowA g.t.flat pl) := c4
 rw [ld_ptr hs]
 simp only [cutE_one, c4', pureK_some]
 refine (Ended_ok g.t ht pl).run ?_
 by_cases hk : g.t.root.kind = 11
 · rw [if_pos hk]
   simp only [extractE_tup, get0, get1, pureK_some, condK_B]
   exact ⟨fun _ => ret1_of H (Heap.le_refl _) ⟨by unfold stopsE; rw [if_neg (by simp [hd]), if_pos hk], rfl⟩, fun e => (by cases e)⟩
 · rw [if_neg hk]
   simp only [extractE_tup, get0, get1, pureK_some, condK_B]
   exact ⟨fun e => (by cases e), fun _ => ret1_of H (Heap.le_refl _) ⟨by unfold stopsE; rw [if_neg (by simp [hd]), if_neg hk], rfl⟩⟩

theorem Step_ok {H : Heap} {i : Ids} {g : SG} {L c : Nat} (h : SagaAt H i g) (ok : OkM L c g) (hc : c ≤ 900000) :
 ACalls PP gΓ saga_Saga_Step [.ptr i.s 0] H (fun r H' => r = I (stepG g).2 ∧ DoneQ H i (stepG g).1 H') := by
 refine saga_Saga_Step_of ?_
 unfold W_saga_Saga_Step
 refine (stops_ok h ok.live.good.ok).mono ?_
 rintro r H2 ⟨rfl, rfl⟩
 simp only [bop_neq, pureK_some, condK_B]
 refine ⟨fun hs => ?_, fun hs => ?_⟩
 · have hs' : stopsE g ≠ 0 := by simpa using hs
   have e : stepG g = (g, stopsE g) := by unfold stepG; rw [if_pos hs']
   rw [e]
   exact ret1_of H2 (Heap.le_refl _) ⟨rfl, DoneQ.refl h⟩
 · have hs' : stopsE g = 0 := by simpa using hs
   obtain ⟨_, hk⟩ := stopsE_zero hs'
   refine (done_ok h ok hk hc).mono ?_
   rintro r H5 ⟨rfl, tk', hA, htk, hsb⟩
   obtain ⟨pl, pa, hcell⟩ := hA.hs
   have hcell' : H5 i.s = some (.cells (sagaC { i with tk := tk' } (askG g) pl pa)) := hcell
   simp only [nilE_ptr, pureK_some, fa_ptr, Nat.zero_add]
   rw [st_at (n := 5) hcell' rfl (by simp [sagaC]) rfl]
   simp only [heapK_some]
   have e5 : splice (sagaC { i with tk := tk' } (askG g) pl pa) 4 (AV.cells (stA ⟨(doneT g).flat, 0, 0, (g.n : Int) + 1, doneA g⟩ .no .no)) = sagaC { i with tk := tk' } (goneG g) .no .no := rfl
   rw [e5]
   have h8 : SagaAt (H5.upd i.s (.cells (sagaC { i with tk := tk' } (goneG g) .no .no))) { i with tk := tk' } (goneG g) := SagaAt.write (g' := goneG g) hA rfl rfl rfl rfl rfl
   have s8 : SameBut ({ i with tk := tk' } : Ids).all H2 (H5.upd i.s (.cells (sagaC { i with tk := tk' } (goneG g) .no .no))) := hsb.upd (by simp [Ids.all]) _
   generalize H5.upd i.s (.cells (sagaC { i with tk := tk' } (goneG g) .no .no)) = H8 at h8 s8 ⊢
   refine (keep_ok h8 (ok.gone hk)).mono ?_
   rintro r H10 ⟨rfl, h10, s10⟩
   simp only [bop_neq, pureK_some, condK_B]
   refine ⟨fun he => ?_, fun he => ?_⟩
   · have he' : keepE (goneG g) ≠ 0 := by simpa using he
     have e : stepG g = ({ keepG (goneG g) with down := true }, 210) := by unfold stepG; rw [if_neg (by simp [hs']), if_pos he']
     rw [e]
     obtain ⟨pl2, pa2, hc10⟩ := h10.hs
     have hc10' : H10 i.s = some (.cells (sagaC { i with tk := tk' } (keepG (goneG g)) pl2 pa2)) := hc10
     rw [st_at (n := 1) hc10' rfl (by simp [sagaC]) rfl]
     simp only [heapK_some]
     have e9 : splice (sagaC { i with tk := tk' } (keepG (goneG g)) pl2 pa2) 9 (AV.cells (B true)) = sagaC { i with tk := tk' } { keepG (goneG g) with down := true } pl2 pa2 := rfl
     rw [e9]
     exact ret1_of _ (Heap.le_refl _) ⟨rfl, tk', SagaAt.write (g' := { keepG (goneG g) with down := true }) h10 rfl rfl rfl rfl rfl, htk, (s8.trans s10).upd (by simp [Ids.all]) _⟩
   · have he' : keepE (goneG g) = 0 := by simpa using he
     have e : stepG g = (keepG (goneG g), 0) := by unfold stepG; rw [if_neg (by simp [hs']), if_neg (by simp [he'])]
     rw [e]
     exact ret1_of _ (Heap.le_refl _) ⟨rfl, tk', h10, htk, s8.trans s10⟩

theorem Halt_ok {H : Heap} {i : Ids} {g : SG} {L c : Nat} (h : SagaAt H i g) (ok : OkM L c g) (hc : c ≤ 900000) :
 ACalls PP gΓ saga_Saga_Halt [.ptr i.s 0] H (fun r H' => r = I (haltG g).2 ∧ DoneQ H i (haltG g).1 H') := by
 refine saga_Saga_Halt_of ?_
 unfold W_saga_Saga_Halt
 refine (stops_ok h ok.live.good.ok).mono ?_
 rintro r H2 ⟨rfl, rfl⟩
 simp only [bop_neq, pureK_some, condK_B]
 refine ⟨fun hs => ?_, fun hs => ?_⟩
 · have hs' : stopsE g ≠ 0 := by simpa using hs
   have e : haltG g = (g, stopsE g) := by unfold haltG; rw [if_pos hs']
   rw [e]
   exact ret1_of H2 (Heap.le_refl _) ⟨rfl, DoneQ.refl h⟩
 · have hs' : stopsE g = 0 := by simpa using hs
   obtain ⟨_, hk⟩ := stopsE_zero hs'
   have e : haltG g = ({ askG g with down := true }, 0) := by unfold haltG; rw [if_neg (by simp [hs'])]
   rw [e]
   refine (done_ok h ok hk hc).mono ?_
   rintro r H5 ⟨rfl, tk', hA, htk, hsb⟩
   obtain ⟨pl, pa, hcell⟩ := hA.hs
   have hcell' : H5 i.s = some (.cells (sagaC { i with tk := tk' } (askG g) pl pa)) := hcell
   simp only [nilE_ptr, pureK_some, fa_ptr, Nat.zero_add]
   rw [st_at (n := 1) hcell' rfl (by simp [sagaC]) rfl]
   simp only [heapK_some]
   have e9 : splice (sagaC { i with tk := tk' } (askG g) pl pa) 9 (AV.cells (B true)) = sagaC { i with tk := tk' } { askG g with down := true } pl pa := rfl
   rw [e9]
   exact ret1_of _ (Heap.le_refl _) ⟨rfl, tk', SagaAt.write (g' := { askG g with down := true }) hA rfl rfl rfl rfl rfl, htk, hsb.upd (by simp [Ids.all]) _⟩

noncomputable def upG (g : SG) : SG := { g with d := { g.d with cut := false }, down := true }
noncomputable def recG (g : SG) : SG × Int :=
 match lastD { g.d with cut := false } with
 | none => (upG g, 212)
 | some (_, data) => match decode data with
   | none => (upG g, 212)
   | some s => ({ upG g with t := treeOf s.l, m := (s.pl, s.how), n := s.n.toNat, a := s.a, down := false }, 0)

theorem lastD_len {d : DK} {n : Nat} {data : List UInt8} (h : lastD d = some (n, data)) : data.length ≤ 2048 := by
 have op : ∀ b n data, openF b = some (n, data) → data.length ≤ 2048 := fun b n data h => by
  unfold openF at h
  split at h
  · cases h
  · split at h
    · cases h
    · rename_i h2
      split at h
      · simp only [Option.some.injEq, Prod.mk.injEq] at h
        rw [← h.2]; simp; omega
      · cases h
 have sl : ∀ k n data, slotD d k = some (n, data) → data.length ≤ 2048 := fun k n data h => by
  unfold slotD at h
  split at h
  · rename_i n' data' ho
    split at h
    · cases h
    · simp only [Option.some.injEq, Prod.mk.injEq] at h
      obtain ⟨rfl, rfl⟩ := h
      exact op _ _ _ ho
  · cases h
 unfold lastD laterD at h
 split at h
 · exact sl 1 n data h
 · rename_i y e0 e1; rw [h] at e0; exact sl 0 n data e0
 · rename_i x y h0 h1
   split at h
   · rw [h] at h1; exact sl 1 n data h1
   · rw [h] at h0; exact sl 0 n data h0

theorem rightS_tree {s : St} (h : rightS s = true) : s.l = (treeOf s.l).flat ∧ 0 ≤ s.n := by
 unfold rightS at h
 simp only [Bool.and_eq_true, decide_eq_true_eq] at h
 exact ⟨(treeOf_spec (sortOn_whole h.1)).2, h.2.2.2.2.2.1.1⟩

theorem Recover_ok {H : Heap} {i : Ids} {g : SG} (h : SagaAt H i g) : ACalls PP gΓ saga_Saga_Recover [.ptr i.s 0] H (fun r H' => r = I (recG g).2 ∧ DoneQ H i (recG g).1 H') := by
 obtain ⟨pl, pa, hs⟩ := h.hs
 obtain ⟨c0, c1, c2, c3, c4, c7, c8, c9⟩ := sagaC_get i g pl pa
 refine saga_Saga_Recover_of ?_
 unfold W_saga_Saga_Recover
 simp only [nilE_ptr, pureK_some, fa_ptr, Nat.zero_add]
 rw [ld_ptr hs]
 have c0' : (sagaC i g pl pa)[0 + 0]? = some (.ptr i.st 0) := c0
 simp only [cutE_one, c0, c0', pureK_some, nilE_ptr, fa_ptr, Nat.zero_add]
 rw [ld_ptr h.store.hs]
 simp only [cutE_one, get0, pureK_some]
 refine (disk_Up_ok h.store.disk).mono ?_
 rintro r H9 ⟨rfl, hD, hsb⟩
 have hsn : i.s ∉ [i.dk] := fun e => h.n1 (by simp at e; simp [e])
 have hs9 : H9 i.s = some (.cells (sagaC i g pl pa)) := (hsb _ hsn).trans hs
 rw [st_at (n := 1) hs9 rfl (by simp [sagaC]) rfl]
 simp only [heapK_some]
 have e9 : splice (sagaC i g pl pa) 9 (AV.cells (B true)) = sagaC i (upG g) pl pa := rfl
 rw [e9]
 have hcut : ({ g.d with cut := false } : DK).nb = g.d.nb := rfl
 have h12 : SagaAt (H9.upd i.s (.cells (sagaC i (upG g) pl pa))) i (upG g) := by
  have hne : ∀ o, o ≠ i.s → o ∉ [i.dk] → (H9.upd i.s (.cells (sagaC i (upG g) pl pa))) o = H o := fun o h1 h2 => by rw [Heap.upd_ne _ _ h1, hsb o h2]
  refine ⟨⟨pl, pa, Heap.upd_same _ _ _⟩, ⟨?_, ⟨?_, ?_, hD.ok, hD.ne⟩, h.store.h3, h.store.n1, h.store.n2⟩, h.deal.same fun o ho => ?_, h.n1, h.n2, h.n3⟩
  · rw [hne i.st (fun e => h.n1 (by simp [e])) (by simp [h.store.n1])]; exact h.store.hs
  · rw [Heap.upd_ne _ _ (fun e => h.n1 (by simp [e]))]; exact hD.hd
  · rw [Heap.upd_ne _ _ (fun e => h.n1 (by simp [e]))]; exact hD.hb
  · refine hne o (fun e => h.n2 (by rw [← e]; exact ho)) (fun e => h.n3 o ?_ ho)
    simp at e; simp [e]
 have s12 : SameBut i.all H (H9.upd i.s (.cells (sagaC i (upG g) pl pa))) := (hsb.more (fun o ho => by simp at ho; simp [Ids.all, ho])).upd (by simp [Ids.all]) _
 have g12 : (H9.upd i.s (.cells (sagaC i (upG g) pl pa))) i.s = some (.cells (sagaC i (upG g) pl pa)) := Heap.upd_same _ _ _
 generalize H9.upd i.s (.cells (sagaC i (upG g) pl pa)) = H12 at h12 s12 g12 ⊢
 rw [ld_ptr g12]
 obtain ⟨d0, _⟩ := sagaC_get i (upG g) pl pa
 simp only [cutE_one, d0, pureK_some]
 refine (Last_ok h12.store).mono ?_
 rintro r H18 ⟨rfl, rfl⟩
 have hd : (upG g).d = { g.d with cut := false } := rfl
 rw [hd]
 have lost : recG g = (upG g, 212) → ∀ HX : Heap, H18 ≤ HX → ret1 HX (fun r H' => r = I (recG g).2 ∧ DoneQ H i (recG g).1 H') (I 212) := fun e HX hle => by
  rw [e]
  exact ret1_of H18 hle ⟨rfl, i.tk, h12, .inl rfl, s12⟩
 cases hl : lastD { g.d with cut := false } with
 | none =>
   simp only [lastV, extractE_tup, get0, get1, get2, pureK_some, bop_neq, condK_B]
   refine ⟨fun _ => lost (by unfold recG; rw [hl]) _ (Heap.le_refl _), fun e => by simp at e⟩
 | some x =>
   obtain ⟨n, data⟩ := x
   simp only [lastV, extractE_tup, get0, get1, get2, pureK_some, bop_neq, condK_B]
   refine ⟨fun e => by simp at e, fun _ => ?_⟩
   have hdl := lastD_len hl
   refine (code_Decode_ok data .exact (by omega)).run ?_
   cases hdc : decode data with
   | none =>
     simp only [decV, extractE_tup, get0, get1, pureK_some]
     intro o ho
     rw [st_at (n := 5) (v := stA zeroSt .no .no) (Heap.upd_same _ _ _) rfl (by simp) rfl]
     simp only [heapK_some, Heap.upd_upd', bop_neq, pureK_some, condK_B]
     refine ⟨fun _ => lost (by unfold recG; rw [hl]; simp only; rw [hdc]) _ (by simp [ho]), fun e => by simp at e⟩
   | some s =>
     obtain ⟨hr, _⟩ := decode_spec hdc
     obtain ⟨hf, hn0⟩ := rightS_tree hr
     simp only [decV, extractE_tup, get0, get1, pureK_some]
     intro o ho
     rw [st_at (n := 5) (v := stA s .no .no) (Heap.upd_same _ _ _) rfl (by simp) rfl]
     simp only [heapK_some, Heap.upd_upd', bop_neq, pureK_some, condK_B]
     refine ⟨fun e => by simp at e, fun _ => ?_⟩
     rw [ld_upd]
     have e5 : cutE (splice [.lst 0 [] .exact, .sc (.int .i64 0), .sc (.int .i64 0), .sc (.int .i64 0), .lst 0 [] .exact] 0 (AV.cells (stA s .no .no))) 0 (some true) 5 = some (stA s .no .no) := rfl
     rw [e5, pureK_some]
     have hos : i.s ≠ o := fun e => by subst e; rw [g12] at ho; cases ho
     rw [st_at (n := 5) ((Heap.upd_ne _ _ hos).trans g12) rfl (by simp [sagaC]) rfl]
     simp only [heapK_some]
     obtain ⟨g1, hg1⟩ : ∃ g1, g1 = { upG g with t := treeOf s.l, m := (s.pl, s.how), n := s.n.toNat, a := s.a } := ⟨_, rfl⟩
     have e6 : splice (sagaC i (upG g) pl pa) 4 (AV.cells (stA s .no .no)) = sagaC i g1 .no .no := by
      have h1 : sagaC i g1 .no .no = [.ptr i.st 0, intA g.picks 1 .no, .ptr i.dl 0, .fn (.func deal_Dealer_Ask) [.ptr i.dl 0] [], rowA (treeOf s.l).flat .no, I s.pl, I s.how, I (s.n.toNat : Nat), txtA s.a .no, B true] := by rw [hg1]; rfl
      rw [h1, ← hf, show ((s.n.toNat : Nat) : Int) = s.n by omega]
      rfl
     rw [e6, st_at (n := 1) (Heap.upd_same _ _ _) rfl (by simp [sagaC]) rfl]
     simp only [heapK_some, Heap.upd_upd']
     have e7 : splice (sagaC i g1 .no .no) 9 (AV.cells (B false)) = sagaC i { g1 with down := false } .no .no := rfl
     rw [e7]
     have erec : recG g = ({ g1 with down := false }, 0) := by
      unfold recG; rw [hl]; simp only; rw [hdc, hg1]
     rw [erec]
     refine ret1_of (H18.upd i.s (.cells (sagaC i { g1 with down := false } .no .no))) (Heap.upd_le_upd (by simp [ho])) ⟨rfl, i.tk, ?_, .inl rfl, s12.upd (by simp [Ids.all]) _⟩
     exact SagaAt.write (g' := { g1 with down := false }) h12 (by rw [hg1]) (by rw [hg1]) (by rw [hg1]) (by rw [hg1]) (by rw [hg1])

theorem Run_ok {H : Heap} {i : Ids} {g : SG} {L c : Nat} (h : SagaAt H i g) (ok : OkM L c g) (most : Int) (hm : most ≤ 1000) (hc : c ≤ 800000) :
 ACalls PP gΓ saga_Saga_Run [.ptr i.s 0, I most] H (fun r H' => r = .tup [I ((runG g most.toNat).2.1 : Nat), I (runG g most.toNat).2.2] ∧ DoneQ H i (runG g most.toNat).1 H' ∧ OkM L (c + 1000) (runG g most.toNat).1) := by
 refine saga_Saga_Run_of ?_
 unfold W_saga_Saga_Run
 obtain ⟨N, hN⟩ : ∃ N, N = most.toNat := ⟨_, rfl⟩
 rw [← hN]
 refine ⟨fun vs HX nn => ∃ (k : Nat) (g' : SG) (tk' : Option Nat), k ≤ N ∧ nn = N - k ∧ vs = [.ptr i.s 0, I most, I k] ∧ SagaAt HX { i with tk := tk' } g' ∧ (tk' = i.tk ∨ (i.tk = none ∧ ∃ t, tk' = some t ∧ H t = none)) ∧ SameBut ({ i with tk := tk' } : Ids).all H HX ∧
  OkM L (c + k) g' ∧ runG g N = ((runG g' (N - k)).1, k + (runG g' (N - k)).2.1, (runG g' (N - k)).2.2),
  ⟨_, H, Heap.le_refl _, 0, g, i.tk, Nat.zero_le _, rfl, rfl, h, .inl rfl, SameBut.refl _ _, ok, by rw [Nat.sub_zero, Nat.zero_add]⟩, ?_⟩
 rintro vs HX nn ⟨k, g', tk', hk, rfl, rfl, hS, htk, hsb, hok, hrun⟩
 simp only [nth_zero, nth_succ, bop_lss, pureK_some, condK_B, decide_eq_true_eq, decide_eq_false_iff_not]
 refine ⟨fun hlt => ?_, fun hge => ?_⟩
 · have hlt' : k < N := by omega
   have hstep : runG g' (N - k) = if (stepG g').2 ≠ 0 then ((stepG g').1, 0, (stepG g').2) else ((runG (stepG g').1 (N - (k + 1))).1, (runG (stepG g').1 (N - (k + 1))).2.1 + 1, (runG (stepG g').1 (N - (k + 1))).2.2) := by
    rw [show N - k = (N - (k + 1)) + 1 by omega]; rfl
   rw [hstep] at hrun
   refine (Step_ok hS hok (by omega)).mono ?_
   rintro r H11 ⟨rfl, tk2, hS2, htk2, hsb2⟩
   have hso := hok.step
   have htk3 : tk2 = i.tk ∨ (i.tk = none ∧ ∃ t, tk2 = some t ∧ H t = none) := by
    rcases htk2 with e | ⟨e, t2, e2, e3⟩
    · have e' : tk2 = tk' := e
      rw [e']; exact htk
    · have e' : tk' = none := e
      rcases htk with e4 | ⟨_, t3, e5, _⟩
      · right
        refine ⟨by rw [← e4]; exact e', t2, e2, ?_⟩
        cases e6 : H t2 with
        | none => rfl
        | some x =>
          exfalso
          have hin : t2 ∈ ({ i with tk := tk' } : Ids).all := Classical.byContradiction fun hno => by
           rw [hsb t2 hno, e6] at e3; cases e3
          have hne : HX t2 ≠ none := by
           have h2 : SagaAt HX { i with tk := tk' } g' := hS
           obtain ⟨pl, pa, h1⟩ := h2.hs
           obtain ⟨v, d1, d2⟩ := h2.deal.hd
           simp only [Ids.all, dealIds, List.mem_append, List.mem_cons, List.not_mem_nil, or_false] at hin
           rcases hin with (rfl | rfl | rfl | rfl) | (rfl | rfl) | hin
           · rw [h1]; simp
           · rw [h2.store.hs]; simp
           · rw [h2.store.disk.hd]; simp
           · rw [h2.store.disk.hb]; simp
           · rw [d1]; simp
           · rw [h2.deal.hk]; simp
           · rw [e'] at hin; simp at hin
          exact hne e3
      · rw [e'] at e5; cases e5
   have hsb3 : SameBut ({ i with tk := tk2 } : Ids).all H H11 := by
    have h1 : SameBut ({ i with tk := tk2 } : Ids).all H HX := hsb.more fun o ho => by
     simp only [Ids.all, dealIds, List.mem_append] at ho ⊢
     rcases ho with ho | ho | ho
     · exact .inl ho
     · exact .inr (.inl ho)
     · rcases htk2 with e | ⟨e, _⟩
       · have e' : tk2 = tk' := e
         rw [e']; exact .inr (.inr ho)
       · have e' : tk' = none := e
         rw [e'] at ho; simp at ho
    exact h1.trans hsb2
   simp only [bop_neq, pureK_some, condK_B]
   refine ⟨fun he => ?_, fun he => ?_⟩
   · have he' : (stepG g').2 ≠ 0 := by simpa using he
     rw [if_pos he'] at hrun
     refine ret1_of H11 (Heap.le_refl _) ⟨?_, ?_, ?_⟩
     · rw [hrun]; rfl
     · rw [hrun]; exact ⟨tk2, hS2, htk3, hsb3⟩
     · rw [hrun]; exact hso.mono (by omega)
   · have he' : (stepG g').2 = 0 := by simpa using he
     rw [if_neg (by simp [he'])] at hrun
     rw [bop_add (by omega) (by omega)]
     simp only [pureK_some]
     refine ⟨N - (k + 1), H11, by omega, Heap.le_refl _, k + 1, (stepG g').1, tk2, by omega, rfl, by simp, hS2, htk3, hsb3, hso, ?_⟩
     rw [hrun]
     simp only [Prod.mk.injEq, true_and, and_true]
     omega
 · have hk' : k = N := by omega
   subst hk'
   rw [Nat.sub_self] at hrun
   have hrun' : runG g k = (g', k, 0) := hrun
   refine ret1_of HX (Heap.le_refl _) ⟨?_, ?_, ?_⟩
   · rw [hrun']
   · rw [hrun']; exact ⟨tk', hS, htk, hsb⟩
   · rw [hrun']; exact hok.mono (by omega)

end Go.Av
namespace Go.Av
open Go Go.Proofs

theorem State_ok {H : Heap} {i : Ids} {g : SG} (h : SagaAt H i g) (hl : g.t.flat.length ≤ 1000000) (ha : g.a.length ≤ 1000000) :
 ACalls PP gΓ saga_Saga_State [.ptr i.s 0] H (fun r H' => r = stA ⟨g.t.flat, g.m.1, g.m.2, g.n, g.a⟩ .no .no ∧ H' = H) := by
 obtain ⟨pl, pa, hs⟩ := h.hs
 obtain ⟨c0, c1, c2, c3, c4, c7, c8, c9⟩ := sagaC_get i g pl pa
 refine saga_Saga_State_of ?_
 unfold W_saga_Saga_State
 intro o1 ho1
 have hne : i.s ≠ o1 := fun e => by subst e; rw [hs] at ho1; cases ho1
 have hs2 : (H.upd o1 (.cells [.lst 0 [] .exact, .sc (.int .i64 0), .sc (.int .i64 0), .sc (.int .i64 0), .lst 0 [] .exact])) i.s = some (.cells (sagaC i g pl pa)) := (Heap.upd_ne _ _ hne).trans hs
 simp only [nilE_ptr, pureK_some, fa_ptr, Nat.zero_add]
 have c4' : (sagaC i g pl pa)[4 + 0]? = some (rowA g.t.flat pl) := c4
 have c7' : (sagaC i g pl pa)[4 + 3]? = some (I g.n) := c7
 have c8' : (sagaC i g pl pa)[4 + 4]? = some (txtA g.a pa) := c8
 have c2' : cutE (sagaC i g pl pa) (4 + 1) (some true) 2 = some (mv g.m) := rfl
 rw [ld_ptr hs2]
 simp only [cutE_one, c4', pureK_some]
 have hfp := g.t.flat_pos
 refine ⟨_, (Clone_ok g.t.flat pl (fun e => by rw [e] at hfp; simp at hfp) hl).reads, ?_⟩
 rw [ld_ptr hs2, c2']
 simp only [pureK_some]
 rw [ld_ptr hs2]
 simp only [cutE_one, c7', pureK_some]
 rw [ld_ptr hs2]
 simp only [cutE_one, c8', pureK_some]
 refine ⟨_, (Clone_string_ok g.a 1 pa (.inl rfl) ha).reads, ?_⟩
 have e1 : bld [(0, 1), (1, 2), (3, 1), (4, 1)] [.lst 0 [] .exact, .sc (.int .i64 0), .sc (.int .i64 0), .sc (.int .i64 0), .lst 0 [] .exact] [(0, rowA g.t.flat .no), (1, mv g.m), (2, I g.n), (3, txtA g.a .no)] = some (stA ⟨g.t.flat, g.m.1, g.m.2, g.n, g.a⟩ .no .no) := rfl
 rw [e1, pureK_some, st_at (n := 5) (Heap.upd_same _ _ _) rfl (by simp) rfl]
 simp only [heapK_some, Heap.upd_upd']
 rw [ld_upd]
 have e2 : cutE (splice [.lst 0 [] .exact, .sc (.int .i64 0), .sc (.int .i64 0), .sc (.int .i64 0), .lst 0 [] .exact] 0 (AV.cells (stA ⟨g.t.flat, g.m.1, g.m.2, g.n, g.a⟩ .no .no))) 0 (some true) 5 = some (stA ⟨g.t.flat, g.m.1, g.m.2, g.n, g.a⟩ .no .no) := rfl
 rw [e2, pureK_some]
 exact ret1_of H (by simp [ho1]) ⟨rfl, rfl⟩

theorem Trace_ok {H : Heap} {i : Ids} {g : SG} (h : SagaAt H i g) (ht : g.t.ok) (ha : g.a.length ≤ 1000000) :
 ACalls PP gΓ saga_Saga_Trace [.ptr i.s 0] H (fun r H' => r = (if g.t.root.kind = 11 then .tup [.agg [txtA g.a .no, I g.t.root.sign], B true] else .tup [.agg [.lst 0 [] .exact, I 0], B false]) ∧ H' = H) := by
 obtain ⟨pl, pa, hs⟩ := h.hs
 obtain ⟨c0, c1, c2, c3, c4, c7, c8, c9⟩ := sagaC_get i g pl pa
 refine saga_Saga_Trace_of ?_
 unfold W_saga_Saga_Trace
 intro o1 ho1
 have hne : i.s ≠ o1 := fun e => by subst e; rw [hs] at ho1; cases ho1
 have hs2 : (H.upd o1 (.cells [.lst 0 [] .exact, .sc (.int .i64 0)])) i.s = some (.cells (sagaC i g pl pa)) := (Heap.upd_ne _ _ hne).trans hs
 simp only [nilE_ptr, pureK_some, fa_ptr, Nat.zero_add]
 have c4' : (sagaC i g pl pa)[4 + 0]? = some (rowA g.t.flat pl) := c4
 have c8' : (sagaC i g pl pa)[4 + 4]? = some (txtA g.a pa) := c8
 rw [ld_ptr hs2]
 simp only [cutE_one, c4', pureK_some]
 refine (Ended_ok g.t ht pl).run ?_
 by_cases hk : g.t.root.kind = 11
 · rw [if_pos hk, if_pos hk]
   simp only [extractE_tup, get0, get1, pureK_some, unE_not, condK_B]
   refine ⟨fun e => by simp at e, fun _ => ?_⟩
   rw [ld_ptr hs2]
   simp only [cutE_one, c8', pureK_some]
   refine (Clone_string_ok g.a 1 pa (.inl rfl) ha).run ?_
   have e1 : bld [(0, 1), (1, 1)] [.lst 0 [] .exact, .sc (.int .i64 0)] [(0, txtA g.a .no), (1, I g.t.root.sign)] = some (.agg [txtA g.a .no, I g.t.root.sign]) := rfl
   rw [e1, pureK_some, st_at (n := 2) (v := .agg [txtA g.a .no, I g.t.root.sign]) (Heap.upd_same _ _ _) rfl (by simp) rfl]
   simp only [heapK_some, Heap.upd_upd']
   rw [ld_upd]
   have e2 : cutE (splice [.lst 0 [] .exact, .sc (.int .i64 0)] 0 (AV.cells (.agg [txtA g.a .no, I g.t.root.sign]))) 0 (some true) 2 = some (.agg [txtA g.a .no, I g.t.root.sign]) := rfl
   rw [e2, pureK_some]
   exact ret1_of H (by simp [ho1]) ⟨rfl, rfl⟩
 · rw [if_neg hk, if_neg hk]
   simp only [extractE_tup, get0, get1, pureK_some, unE_not, condK_B]
   refine ⟨fun _ => ?_, fun e => by simp at e⟩
   have e1 : bld [(0, 1), (1, 1)] [.lst 0 [] .exact, .sc (.int .i64 0)] [] = some (.agg [.lst 0 [] .exact, I 0]) := rfl
   rw [e1, pureK_some, st_at (n := 2) (v := .agg [.lst 0 [] .exact, I 0]) (Heap.upd_same _ _ _) rfl (by simp) rfl]
   simp only [heapK_some, Heap.upd_upd']
   rw [ld_upd]
   have e2 : cutE (splice [.lst 0 [] .exact, .sc (.int .i64 0)] 0 (AV.cells (.agg [.lst 0 [] .exact, I 0]))) 0 (some true) 2 = some (.agg [.lst 0 [] .exact, I 0]) := rfl
   rw [e2, pureK_some]
   exact ret1_of H (by simp [ho1]) ⟨rfl, rfl⟩

theorem Disk_ok {H : Heap} {i : Ids} {g : SG} (h : SagaAt H i g) : ACalls PP gΓ saga_Saga_Disk [.ptr i.s 0] H (fun r H' => r = .ptr i.dk 0 ∧ H' = H) := by
 obtain ⟨pl, pa, hs⟩ := h.hs
 obtain ⟨c0, _⟩ := sagaC_get i g pl pa
 refine saga_Saga_Disk_of ?_
 unfold W_saga_Saga_Disk
 simp only [nilE_ptr, pureK_some, fa_ptr, Nat.zero_add]
 rw [ld_ptr hs]
 simp only [cutE_one, c0, pureK_some, nilE_ptr, fa_ptr, Nat.zero_add]
 rw [ld_ptr h.store.hs]
 simp only [cutE_one, get0, pureK_some]
 exact ret1_of H (Heap.le_refl _) ⟨rfl, rfl⟩
theorem Deal_ok {H : Heap} {i : Ids} {g : SG} (h : SagaAt H i g) : ACalls PP gΓ saga_Saga_Deal [.ptr i.s 0] H (fun r H' => r = .ptr i.dl 0 ∧ H' = H) := by
 obtain ⟨pl, pa, hs⟩ := h.hs
 obtain ⟨_, _, c2, _⟩ := sagaC_get i g pl pa
 refine saga_Saga_Deal_of ?_
 unfold W_saga_Saga_Deal
 simp only [nilE_ptr, pureK_some, fa_ptr, Nat.zero_add]
 rw [ld_ptr hs]
 simp only [cutE_one, c2, pureK_some]
 exact ret1_of H (Heap.le_refl _) ⟨rfl, rfl⟩
theorem Down_ok {H : Heap} {i : Ids} {g : SG} (h : SagaAt H i g) : ACalls PP gΓ saga_Saga_Down [.ptr i.s 0] H (fun r H' => r = B g.down ∧ H' = H) := by
 obtain ⟨pl, pa, hs⟩ := h.hs
 obtain ⟨_, _, _, _, _, _, _, c9⟩ := sagaC_get i g pl pa
 refine saga_Saga_Down_of ?_
 unfold W_saga_Saga_Down
 simp only [nilE_ptr, pureK_some, fa_ptr, Nat.zero_add]
 rw [ld_ptr hs]
 simp only [cutE_one, c9, pureK_some]
 exact ret1_of H (Heap.le_refl _) ⟨rfl, rfl⟩

theorem WRel.weakCells {Γ : Nat → Option AV} {G : Ghost} {H : Heap} {w : World} (h : WRel Γ G H w) {o : Nat} {cs cs' : List AV} (ho : H o = some (.cells cs)) (hl : cs'.length = cs.length)
 (hs : ∀ i, i < cs.length → (cs'.getD i .dead).single = true) (hw : ∀ i, i < cs.length → Weaker (cs.getD i .dead) (cs'.getD i .dead)) : WRel Γ G (H.upd o (.cells cs')) w := by
 have back : ∀ i x, (H.upd o (.cells cs')) i = some x → ∃ y, H i = some y ∧ y.block = x.block := fun i x hx => by
  by_cases e : i = o
  · subst e
    rw [Heap.upd_same] at hx
    injection hx with hx; subst hx
    exact ⟨_, ho, rfl⟩
  · rw [Heap.upd_ne _ _ e] at hx
    exact ⟨x, hx, rfl⟩
 refine ⟨h.base, h.frame, h.old, fun i x hx => ?_, fun i j x y hi hj hb hb' hl => ?_, h.tokB, h.fin, h.glob⟩
 · by_cases e : i = o
   · subst e
     rw [Heap.upd_same] at hx
     injection hx with hx; subst hx
     obtain ⟨h1, h2, h3, c, el, h4, h5, h6⟩ := h.obj i _ ho
     refine ⟨h1, h2, h3, c, el, h4, by rw [h5, hl], fun j hj => ?_⟩
     rw [hl] at hj
     exact ⟨hs j hj, hw j hj _ _ _ (h6 j hj).2⟩
   · rw [Heap.upd_ne _ _ e] at hx
     exact h.obj i x hx
 · obtain ⟨x', hx', bx⟩ := back i x hi
   obtain ⟨y', hy', by'⟩ := back j y hj
   exact h.inj i j x' y' hx' hy' (by rw [bx]; exact hb) (by rw [by']; exact hb') hl
theorem ACalls.weakCells {f : FuncId} {args : List AV} {R : AV → Heap → Prop} {H : Heap} {o : Nat} {cs cs' : List AV} (ho : H o = some (.cells cs)) (hl : cs'.length = cs.length)
 (hs : ∀ i, i < cs.length → (cs'.getD i .dead).single = true) (hw : ∀ i, i < cs.length → Weaker (cs.getD i .dead) (cs'.getD i .dead)) (h : ACalls PP gΓ f args (H.upd o (.cells cs')) R) : ACalls PP gΓ f args H R :=
 fun G w vs hW hvl hr => h G w vs (hW.weakCells ho hl hs hw) hvl hr

noncomputable def newE (l : List Node) (nb : Int) : Int :=
 if sortRight l = false then 1
 else if nb < 1 ∨ 1024 < nb then 1
 else if (emptyD nb.toNat).half < 3 then 1
 else if ((emptyD nb.toNat).room : Int) < long l.length then 181 else 0
noncomputable def preG (l : List Node) (ps rf : List Int) (nb : Int) : SG := ⟨ps, rf, treeOf (beginL l), (0, 0), 0, [], false, emptyD nb.toNat, [], [], 0⟩
noncomputable def newG (l : List Node) (ps rf : List Int) (nb : Int) : SG := keepG (preG l ps rf nb)

theorem newE_zero {l : List Node} {nb : Int} (h : newE l nb = 0) : sortRight l = true ∧ 1 ≤ nb ∧ nb ≤ 1024 ∧ 3 ≤ (emptyD nb.toNat).half ∧ long l.length ≤ (emptyD nb.toNat).room := by
 unfold newE at h
 split at h
 · omega
 · rename_i h1
   split at h
   · omega
   · split at h
     · omega
     · split at h
       · omega
       · exact ⟨by simpa using h1, by omega, by omega, by omega, by omega⟩

theorem pre_ok {l : List Node} {ps rf : List Int} {nb : Int} (h : newE l nb = 0) (hp : ps.length ≤ 1100000) (hr : rf.length ≤ 1100000) : OkG l.length 0 (preG l ps rf nb) ∧ beginL l = (preG l ps rf nb).t.flat := by
 obtain ⟨h1, h2, h3, h4, h5⟩ := newE_zero h
 obtain ⟨t, b1, b2, b3, b4⟩ := begin_live h1
 have e : treeOf (beginL l) = t := by rw [b1]; exact treeOf_flat b2.good.ok
 have hw := wN_le t.flat
 refine ⟨⟨?_, ?_, b4, Nat.le_refl _, ?_, fun x hx => by simp [preG] at hx, ⟨?_, ?_, ?_⟩, h4, h5, Nat.le_refl _, hr, hp⟩, ?_⟩
 · show Live (treeOf (beginL l)); rw [e]; exact b2
 · show (treeOf (beginL l)).flat.length ≤ _; rw [e]; exact b3
 · show 0 + wN (treeOf (beginL l)).flat ≤ _; rw [e]; omega
 · show (List.replicate (16 * nb.toNat) 0).length = 16 * nb.toNat; simp
 · show 1 ≤ nb.toNat; omega
 · show nb.toNat ≤ 1024; omega
 · show beginL l = (treeOf (beginL l)).flat; rw [e, b1]

theorem New_gen (l : List Node) (p : Perm) (ps rf : List Int) (v1 v2 : AV) (nb : Int) (hv1 : v1.single = true) (hv2 : v2.single = true) (hp : ps.length ≤ 1100000) (hr : rf.length ≤ 1100000) (H : Heap)
 (hc1 : ∀ H', H ≤ H' → AReads PP gΓ slices_Clone_int [v1] H' (intA ps 1 .no)) (hc2 : ∀ H', H ≤ H' → AMakes PP gΓ deal_New [v2] H' none (fun rf' ob => ∃ q, rf' = (fun p => .ptr p 0) ∧ ob = some [intA rf 1 .no, .lst 0 [] .exact, .mp q, I 0])) :
 ACalls PP gΓ saga_New [rowA l p, .agg [v1, v2, I nb]] H (fun r H' => (newE l nb ≠ 0 ∧ r = .tup [.sc (.pointer none), I (newE l nb)] ∧ H' = H) ∨
  (newE l nb = 0 ∧ ∃ i : Ids, r = .tup [.ptr i.s 0, I 0] ∧ (∀ o, o ∈ i.all → H o = none) ∧ SagaAt H' i (newG l ps rf nb) ∧ SameBut i.all H H' ∧ OkM l.length 0 (newG l ps rf nb) ∧ Kept (newG l ps rf nb).d 1 (enc (keepS (preG l ps rf nb))))) := by
 refine saga_New_of ?_
 unfold W_saga_New
 simp only [cells_agg, allocK_some]
 refine ⟨by simp only [List.all_cons, hv1, hv2]; rfl, fun o1 ho1 => ?_⟩
 have g1 : (H.upd o1 (.cells [v1, v2, I nb])) o1 = some (.cells [v1, v2, I nb]) := Heap.upd_same _ _ _
 have hle1 : H ≤ H.upd o1 (.cells [v1, v2, I nb]) := by simp [ho1]
 have ho1' : ∀ i x, H i = some x → i ≠ o1 := fun i x hx e => by subst e; rw [ho1] at hx; cases hx
 generalize H.upd o1 (.cells [v1, v2, I nb]) = H2 at g1 hle1 ⊢
 have bad : ∀ (e : Int) (HX : Heap), H ≤ HX → newE l nb = e → e ≠ 0 → ret1 HX (fun r H' => (newE l nb ≠ 0 ∧ r = .tup [.sc (.pointer none), I (newE l nb)] ∧ H' = H) ∨
  (newE l nb = 0 ∧ ∃ i : Ids, r = .tup [.ptr i.s 0, I 0] ∧ (∀ o, o ∈ i.all → H o = none) ∧ SagaAt H' i (newG l ps rf nb) ∧ SameBut i.all H H' ∧ OkM l.length 0 (newG l ps rf nb) ∧ Kept (newG l ps rf nb).d 1 (enc (keepS (preG l ps rf nb))))) (.tup [.sc (.pointer none), I e]) := fun e HX hle h1 h2 =>
  ret1_of H hle (.inl ⟨by rw [h1]; exact h2, by rw [h1], rfl⟩)
 refine (sort_Right_all l p).run ?_
 simp only [unE_not, pureK_some, condK_B]
 refine ⟨fun hn => bad 1 _ hle1 (by unfold newE; rw [if_pos (by simpa using hn)]) (by decide), fun hy => ?_⟩
 have hy' : sortRight l = true := by simpa using hy
 simp only [fa_ptr, pureK_some, Nat.zero_add]
 rw [ld_ptr g1]
 simp only [cutE_one, get2, pureK_some]
 refine (disk_New_ok nb H2).mono ?_
 rintro r H9 (⟨hb, rfl, rfl⟩ | ⟨hb, dk, bl, rfl, hdk, hbl, hD, hsb⟩)
 · simp only [extractE_tup, get0, get1, pureK_some, bop_neq, condK_B]
   exact ⟨fun _ => bad 1 _ hle1 (by unfold newE; rw [if_neg (by simp [hy']), if_pos hb]) (by decide), fun e => by simp at e⟩
 simp only [extractE_tup, get0, get1, pureK_some, bop_neq, condK_B]
 refine ⟨fun e => by simp at e, fun _ => ?_⟩
 have hle9 : H2 ≤ H9 := fun o x hx => by
  rw [hsb o (fun e => by
   simp only [List.mem_cons, List.not_mem_nil, or_false] at e
   rcases e with rfl | rfl
   · rw [hdk] at hx; cases hx
   · rw [hbl] at hx; cases hx)]
  exact hx
 refine (slots_New_ok hD).mono ?_
 rintro r H14 (⟨h3, rfl, rfl⟩ | ⟨h3, st, rfl, hst, rfl⟩)
 · simp only [extractE_tup, get0, get1, pureK_some, bop_neq, condK_B]
   exact ⟨fun _ => bad 1 _ (Heap.le_trans hle1 hle9) (by unfold newE; rw [if_neg (by simp [hy']), if_neg (by omega), if_pos h3]) (by decide), fun e => by simp at e⟩
 simp only [extractE_tup, get0, get1, pureK_some, bop_neq, condK_B]
 refine ⟨fun e => by simp at e, fun _ => ?_⟩
 have nst : st ≠ dk ∧ st ≠ bl := ⟨fun e => (by subst e; rw [hD.hd] at hst; cases hst), fun e => (by subst e; rw [hD.hb] at hst; cases hst)⟩
 have hS14 : StoreAt (H9.upd st (.cells [.ptr dk 0])) st dk bl (emptyD nb.toNat) := ⟨Heap.upd_same _ _ _, hD.le (by simp [hst]), h3, nst.1, nst.2⟩
 have hle14 : H9 ≤ H9.upd st (.cells [.ptr dk 0]) := by simp [hst]
 have hst2 : H2 st = none := by
  cases e : H2 st with
  | none => rfl
  | some x => rw [hle9 _ _ e] at hst; cases hst
 have hsame14 : ∀ o, o ∉ [st, dk, bl] → (H9.upd st (.cells [.ptr dk 0])) o = H2 o := fun o ho => by
  simp only [List.mem_cons, List.not_mem_nil, or_false, not_or] at ho
  rw [Heap.upd_ne _ _ ho.1, hsb o (by simp [ho.2.1, ho.2.2])]
 generalize H9.upd st (.cells [.ptr dk 0]) = H14 at hS14 hle14 hsame14 ⊢
 simp only [lnl_lst, pureK_some, List.length_map]
 refine (code_Long_ok _).run ?_
 refine (Room_ok hS14).run ?_
 simp only [bop_gtr, pureK_some, condK_B, decide_eq_true_eq, decide_eq_false_iff_not]
 have hle114 : H ≤ H14 := Heap.le_trans hle1 (Heap.le_trans hle9 hle14)
 refine ⟨fun hroom => bad 181 _ hle114 (by unfold newE; rw [if_neg (by simp [hy']), if_neg (by omega), if_neg (by omega), if_pos hroom]) (by decide), fun hroom => ?_⟩
 have hnew : newE l nb = 0 := by unfold newE; rw [if_neg (by simp [hy']), if_neg (by omega), if_neg (by omega), if_neg hroom]
 obtain ⟨hpre, hbeg⟩ := pre_ok (ps := ps) (rf := rf) hnew hp hr
 have g14 : H14 o1 = some (.cells [v1, v2, I nb]) := hle14 _ _ (hle9 _ _ g1)
 refine ⟨none, (fun p e => by cases e), ?_⟩
 have e25 : bld [(0, 1)] [.sc (.pointer none)] [(0, .ptr st 0)] = some (.agg [.ptr st 0]) := rfl
 rw [e25]
 simp only [pureK_some]
 have hrem : rem H14 none = H14 := rfl
 rw [hrem, ld_ptr g14]
 simp only [cutE_one, get0, pureK_some]
 refine ⟨_, hc1 _ hle114, ?_⟩
 rw [ld_ptr g14]
 simp only [cutE_one, get1, pureK_some]
 refine ⟨_, .dead, hc2 H14 hle114, .inl rfl, ?_⟩
 refine ⟨_, (settle_Begin_all l p).reads, ?_⟩
 have e34 : bld [(0, 1), (1, 2), (3, 1), (4, 1)] [.lst 0 [] .exact, .sc (.int .i64 0), .sc (.int .i64 0), .sc (.int .i64 0), .lst 0 [] .exact] [(0, rowA (beginL l) .no)] = some (.agg [rowA (beginL l) .no, I 0, I 0, I 0, .lst 0 [] .exact]) := rfl
 rw [e34]
 simp only [pureK_some]
 rintro rf' ob ⟨q, rfl, rfl⟩
 intro dl hdl hq
 obtain ⟨hq1, hq2⟩ := hq q rfl
 show pureK (bld _ _ [(0, .agg [.ptr st 0]), (1, intA ps 1 .no), (2, .ptr dl 0), (4, .agg [rowA (beginL l) .no, I 0, I 0, I 0, .lst 0 [] .exact])]) _
 have e39 : bld [(0, 1), (1, 1), (2, 1), (3, 1), (4, 5), (9, 1)] [.sc (.pointer none), .lst 0 [] .exact, .sc (.pointer none), .sc .nilFunc, .lst 0 [] .exact, .sc (.int .i64 0), .sc (.int .i64 0), .sc (.int .i64 0), .lst 0 [] .exact, B false] [(0, .agg [.ptr st 0]), (1, intA ps 1 .no), (2, .ptr dl 0), (4, .agg [rowA (beginL l) .no, I 0, I 0, I 0, .lst 0 [] .exact])] = some (.agg [.ptr st 0, intA ps 1 .no, .ptr dl 0, .sc .nilFunc, rowA (beginL l) .no, I 0, I 0, I 0, .lst 0 [] .exact, B false]) := rfl
 rw [e39]
 simp only [pureK_some, cells_agg, allocK_some]
 refine ⟨rfl, fun s hs => ?_⟩
 -- the heap with the dealer
 have h38 : (addM H14 (mapOf [intA rf 1 .no, .lst 0 [] .exact, .mp q, I 0])).upd dl (objOf [intA rf 1 .no, .lst 0 [] .exact, .mp q, I 0]) = (H14.upd q (.map [])).upd dl (.cells [intA rf 1 .no, .lst 0 [] .exact, .mp q, I 0]) := rfl
 rw [h38] at hs ⊢
 have n38 : ∀ o, o ≠ dl → o ≠ q → ((H14.upd q (.map [])).upd dl (.cells [intA rf 1 .no, .lst 0 [] .exact, .mp q, I 0])) o = H14 o := fun o a b => by rw [Heap.upd_ne _ _ a, Heap.upd_ne _ _ b]
 have hle38 : H14 ≤ (H14.upd q (.map [])).upd dl (.cells [intA rf 1 .no, .lst 0 [] .exact, .mp q, I 0]) := fun o x hx => by
  rw [n38 o (fun e => by subst e; rw [hdl] at hx; cases hx) (fun e => by subst e; rw [hq1] at hx; cases hx)]; exact hx
 have gdl : ((H14.upd q (.map [])).upd dl (.cells [intA rf 1 .no, .lst 0 [] .exact, .mp q, I 0])) dl = some (.cells [intA rf 1 .no, .lst 0 [] .exact, .mp q, I 0]) := Heap.upd_same _ _ _
 have gq : ((H14.upd q (.map [])).upd dl (.cells [intA rf 1 .no, .lst 0 [] .exact, .mp q, I 0])) q = some (.map []) := by rw [Heap.upd_ne _ _ (Ne.symm hq2), Heap.upd_same]
 generalize (H14.upd q (.map [])).upd dl (.cells [intA rf 1 .no, .lst 0 [] .exact, .mp q, I 0]) = H38 at hs n38 hle38 gdl gq ⊢
 have nsd : s ≠ dl := fun e => by subst e; rw [gdl] at hs; cases hs
 have nsq : s ≠ q := fun e => by subst e; rw [gq] at hs; cases hs
 have hs14 : H14 s = none := by rw [← n38 s nsd nsq]; exact hs
 have in14 : ∀ o, o ∈ [st, dk, bl] → H14 o ≠ none := fun o ho => by
  simp only [List.mem_cons, List.not_mem_nil, or_false] at ho
  rcases ho with rfl | rfl | rfl
  · rw [hS14.hs]; simp
  · rw [hS14.disk.hd]; simp
  · rw [hS14.disk.hb]; simp
 simp only [nilE_ptr, pureK_some, fa_ptr, Nat.zero_add, ld_upd, cutE_one, get2]
 rw [st_at (n := 1) (Heap.upd_same _ _ _) rfl (by simp) rfl]
 simp only [heapK_some, Heap.upd_upd']
 have e3 : splice [.ptr st 0, intA ps 1 .no, .ptr dl 0, .sc .nilFunc, rowA (beginL l) .no, I 0, I 0, I 0, .lst 0 [] .exact, B false] 3 (AV.cells (.fn (.func deal_Dealer_Ask) [.ptr dl 0] [])) = [.ptr st 0, intA ps 1 .no, .ptr dl 0, .fn (.func deal_Dealer_Ask) [.ptr dl 0] [], rowA (beginL l) .no, I 0, I 0, I 0, .lst 0 [] .exact, B false] := rfl
 rw [e3]
 obtain ⟨ids, hids⟩ : ∃ ids : Ids, ids = ⟨s, st, dk, bl, dl, q, none⟩ := ⟨_, rfl⟩
 have hall : ids.all = [s, st, dk, bl, dl, q] := by rw [hids]; rfl
 have ecs : sagaC ids (preG l ps rf nb) .no .no = [.ptr st 0, intA ps 1 .no, .ptr dl 0, .fn (.func deal_Dealer_Ask) [.ptr dl 0] [], rowA (beginL l) .no, I 0, I 0, I 0, txtA [] .no, B false] := by
  rw [hbeg, hids]; rfl
 refine ACalls.weakCells (o := s) (cs' := sagaC ids (preG l ps rf nb) .no .no) (Heap.upd_same _ _ _) (by rw [ecs]; rfl) (fun i hi => ?_) (fun i hi => ?_) ?_
 · rw [ecs]
   match i, hi with
   | 0, _ => rfl
   | 1, _ => rfl
   | 2, _ => rfl
   | 3, _ => rfl
   | 4, _ => rfl
   | 5, _ => rfl
   | 6, _ => rfl
   | 7, _ => rfl
   | 8, _ => rfl
   | 9, _ => rfl
 · rw [ecs]
   match i, hi with
   | 0, _ => exact Weaker.refl _
   | 1, _ => exact Weaker.refl _
   | 2, _ => exact Weaker.refl _
   | 3, _ => exact Weaker.refl _
   | 4, _ => exact Weaker.refl _
   | 5, _ => exact Weaker.refl _
   | 6, _ => exact Weaker.refl _
   | 7, _ => exact Weaker.refl _
   | 8, _ => exact Weaker.empty
   | 9, _ => exact Weaker.refl _
 rw [Heap.upd_upd]
 have hns : s ∉ [st, dk, bl] := fun e => in14 s e hs14
 have hnd : ∀ x, x ∈ [st, dk, bl] → x ∉ [dl, q] := fun x hx e => by
  have := in14 x hx
  simp only [List.mem_cons, List.not_mem_nil, or_false] at e
  rcases e with rfl | rfl
  · exact this hdl
  · exact this hq1
 have hSaga : SagaAt (H38.upd s (.cells (sagaC ids (preG l ps rf nb) .no .no))) ids (preG l ps rf nb) := by
  have hk : ∀ o, o ≠ s → (H38.upd s (.cells (sagaC ids (preG l ps rf nb) .no .no))) o = H38 o := fun o ho => Heap.upd_ne _ _ ho
  subst hids
  refine ⟨⟨.no, .no, Heap.upd_same _ _ _⟩, ?_, ⟨⟨.lst 0 [] .exact, ?_, .inl ⟨rfl, rfl, rfl⟩⟩, ?_, hq2⟩, hns, ?_, hnd⟩
  · exact (hS14.le hle38).same fun o ho => hk o (fun e => hns (by rw [← e]; exact ho))
  · exact (hk dl (Ne.symm nsd)).trans gdl
  · exact (hk q (Ne.symm nsq)).trans gq
  · show s ∉ [dl, q]; simp [nsd, nsq]
 have hkeep : ACalls PP gΓ saga_Saga_keep [.ptr s 0] (H38.upd s (.cells (sagaC ids (preG l ps rf nb) .no .no))) (fun r H' => r = I (keepE (preG l ps rf nb)) ∧ SagaAt H' ids (keepG (preG l ps rf nb)) ∧ SameBut ids.all (H38.upd s (.cells (sagaC ids (preG l ps rf nb) .no .no))) H') := by
  have := keep_ok (c := 0) hSaga hpre
  subst hids
  exact this
 refine hkeep.mono ?_
 rintro r H49 ⟨rfl, hS49, hsb49⟩
 have hfs := first_save (nb := nb.toNat) (data := enc (keepS (preG l ps rf nb))) (by have : (emptyD nb.toNat).half = nb.toNat / 2 := rfl; omega) (by omega) hpre.encl
 have hke : keepE (preG l ps rf nb) = 0 := hfs.1
 rw [hke]
 have fresh2 : ∀ o, H14 o = none → H o = none := fun o ho => by
  cases e : H o with
  | none => rfl
  | some x => rw [hle114 _ _ e] at ho; cases ho
 have hfree : ∀ o, o ∈ ids.all → H o = none := fun o ho => by
  rw [hall] at ho
  simp only [List.mem_cons, List.not_mem_nil, or_false] at ho
  have up : ∀ o, H2 o = none → H o = none := fun o ho => by
   cases e : H o with
   | none => rfl
   | some x => rw [hle1 _ _ e] at ho; cases ho
  rcases ho with rfl | rfl | rfl | rfl | rfl | rfl
  · exact fresh2 _ hs14
  · exact up _ hst2
  · exact up _ hdk
  · exact up _ hbl
  · exact fresh2 _ hdl
  · exact fresh2 _ hq1
 obtain ⟨HF, hHF⟩ : ∃ HF : Heap, ∀ o, HF o = if o ∈ ids.all then H49 o else H o := ⟨fun o => if o ∈ ids.all then H49 o else H o, fun _ => rfl⟩
 refine ret1_of HF (fun o x hx => ?_) (.inr ⟨hnew, ids, by rw [hids], hfree, ?_, fun o ho => by rw [hHF, if_neg ho], hpre.keep.1, hfs.2⟩)
 · rw [hHF] at hx
   split at hx
   · exact hx
   · rename_i hno
     rw [hsb49 o hno]
     rw [hall] at hno
     simp only [List.mem_cons, List.not_mem_nil, or_false, not_or] at hno
     rw [Heap.upd_ne _ _ hno.1]
     exact hle38 _ _ (hle114 _ _ hx)
 · exact hS49.same fun o ho => by rw [hHF, if_pos ho]
theorem New_ok (l : List Node) (p : Perm) (ps rf : List Int) (s1 s2 : Nat) (p1 p2 : Perm) (nb : Int) (hs1 : s1 = 1 ∨ ps = []) (hs2 : s2 = 1 ∨ rf = []) (hp : ps.length ≤ 1100000) (hr : rf.length ≤ 1100000) (H : Heap) :
 ACalls PP gΓ saga_New [rowA l p, .agg [intA ps s1 p1, intA rf s2 p2, I nb]] H (fun r H' => (newE l nb ≠ 0 ∧ r = .tup [.sc (.pointer none), I (newE l nb)] ∧ H' = H) ∨
  (newE l nb = 0 ∧ ∃ i : Ids, r = .tup [.ptr i.s 0, I 0] ∧ (∀ o, o ∈ i.all → H o = none) ∧ SagaAt H' i (newG l ps rf nb) ∧ SameBut i.all H H' ∧ OkM l.length 0 (newG l ps rf nb) ∧ Kept (newG l ps rf nb).d 1 (enc (keepS (preG l ps rf nb))))) :=
 New_gen l p ps rf _ _ nb rfl rfl hp hr H (fun _ _ => (Clone_int_ok ps s1 p1 hs1 hp).reads) (fun H' _ => deal_New_ok rf s2 p2 hs2 hr H' none rfl)


end Go.Av
