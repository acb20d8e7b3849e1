/- Own text DF of this claim: see the text that holds the theorem. -/
import Derived.Test.YtninikfblhoieaaGreatDoorDE
import Derived.Shelf.Slices.Reverse
set_option linter.all false
set_option maxRecDepth 100000
namespace Go.Av
open Go Go.Proofs

theorem ov_anc : ∀ (t : Tr) (b : Nat) (o : Int) (i : Nat), i < t.len → (i = 0 ∧ (ovT t b o)[i]? = some o ∧ ancT t b i = []) ∨ ∃ j k, j < i ∧ (ovT t b o)[i]? = some ((b + j : Nat) : Int) ∧ ancT t b i = ancT t b j ++ [(b + j, k)] := by
 intro t
 induction t with
 | l0 n => intro b o i hi; rw [len_l0] at hi; have : i = 0 := by omega
           subst this; exact .inl ⟨rfl, rfl, rfl⟩
 | l1 n a ih =>
   intro b o i hi
   rw [len_l1] at hi
   cases i with
   | zero => exact .inl ⟨rfl, by simp [ovT], by simp [ancT]⟩
   | succ i =>
     right
     simp only [ovT, List.getElem?_cons_succ]
     rcases ih (b + 1) b i (by omega) with ⟨rfl, h1, h2⟩ | ⟨j, k, hj, h1, h2⟩
     · exact ⟨0, 0, by omega, by simpa using h1, by simp [ancT, h2]⟩
     · refine ⟨j + 1, k, by omega, by rw [h1]; congr 2; omega, ?_⟩
       simp only [ancT, Nat.add_sub_cancel]
       rw [if_neg (by omega), if_neg (by omega), h2, show b + 1 + j = b + (j + 1) by omega]; rfl
 | l2 n a c iha ihc =>
   intro b o i hi
   rw [len_l2] at hi
   cases i with
   | zero => exact .inl ⟨rfl, by simp [ovT], by simp [ancT]⟩
   | succ i =>
     right
     simp only [ovT, List.getElem?_cons_succ]
     have hal : (ovT a (b + 1) b).length = a.len := ovT_len _ _ _
     by_cases hia : i < a.len
     · rw [List.getElem?_append_left (by omega)]
       rcases iha (b + 1) b i hia with ⟨rfl, h1, h2⟩ | ⟨j, k, hj, h1, h2⟩
       · exact ⟨0, 0, by omega, by simpa using h1, by simp [ancT, h2, hia]⟩
       · refine ⟨j + 1, k, by omega, by rw [h1]; congr 2; omega, ?_⟩
         have hja : j < a.len := by omega
         simp [ancT, hia, hja, h2]; omega
     · rw [List.getElem?_append_right (by omega), hal]
       rcases ihc (b + 1 + a.len) b (i - a.len) (by omega) with ⟨hi0, h1, h2⟩ | ⟨j, k, hj, h1, h2⟩
       · exact ⟨0, 1, by omega, by simpa using h1, by simp [ancT, hia, h2]⟩
       · refine ⟨1 + a.len + j, k, by omega, by rw [h1]; congr 2; omega, ?_⟩
         have e1 : 1 + a.len + j - 1 = a.len + j := by omega
         have e2 : ¬ 1 + a.len + j = 0 := by omega
         have e3 : b + 1 + a.len + j = b + (1 + a.len + j) := by omega
         have e4 : ¬ a.len + j < a.len := by omega
         simp [ancT, hia, h2, e1, e2, e3, e4]

def anc (t : Tr) (i : Nat) : List Nat := (ancT t 0 i).map Prod.fst
theorem overs_anc {t : Tr} {i : Nat} (hi : i < t.flat.length) : ((overs t).getD i 0 = -1 ∧ anc t i = []) ∨ ∃ j : Nat, j < i ∧ (overs t).getD i 0 = j ∧ anc t i = anc t j ++ [j] := by
 rcases ov_anc t 0 (-1) i hi with ⟨h0, h1, h2⟩ | ⟨j, k, hj, h1, h2⟩
 · left; exact ⟨by simp [overs, List.getD_eq_getElem?_getD, h1], by simp [anc, h2]⟩
 · right; exact ⟨j, hj, by simp [overs, List.getD_eq_getElem?_getD, h1], by simp [anc, h2]⟩

theorem anc_lt {t : Tr} : ∀ (i : Nat), i < t.flat.length → (∀ j, j ∈ anc t i → j < i) ∧ (anc t i).length ≤ i := by
 intro i
 induction i using Nat.strongRecOn with
 | _ i ih =>
   intro hi
   rcases overs_anc hi with ⟨_, h⟩ | ⟨j, hj, _, h⟩
   · rw [h]; simp
   · obtain ⟨h1, h2⟩ := ih j hj (by omega)
     rw [h]
     refine ⟨fun x hx => ?_, by simp; omega⟩
     rcases List.mem_append.1 hx with hx | hx
     · have := h1 x hx; omega
     · rw [List.mem_singleton.1 hx]; exact hj

def esO (ovs : List Int) (k : Nat) : List (Int × AV) := (List.range k).map fun i : Nat => ((i : Int), I (ovs.getD i 0))
theorem mget_app (k n : Int) (v : AV) (es : List (Int × AV)) : mget k (es ++ [(n, v)]) = (mget k es).or (if n = k then some v else none) := by
 induction es with
 | nil => simp [mget]
 | cons p es ih =>
   obtain ⟨m, x⟩ := p
   by_cases h : m = k
   · simp [mget, h]
   · simp [mget, h, ih]
theorem esO_succ (ovs : List Int) (k : Nat) : esO ovs (k + 1) = esO ovs k ++ [((k : Int), I (ovs.getD k 0))] := by
 simp [esO, List.range_succ]
theorem mget_esO (ovs : List Int) (z : Int) : ∀ k, mget z (esO ovs k) = if 0 ≤ z ∧ z < k then some (I (ovs.getD z.toNat 0)) else none := by
 intro k
 induction k with
 | zero => simp [esO, mget]
 | succ k ih =>
   rw [esO_succ, mget_app, ih]
   by_cases h : 0 ≤ z ∧ z < k
   · have h3 : 0 ≤ z ∧ z < ((k + 1 : Nat) : Int) := by omega
     rw [if_pos h, if_pos h3]; rfl
   · rw [if_neg h]
     by_cases h2 : (k : Int) = z
     · have h3 : 0 ≤ z ∧ z < ((k + 1 : Nat) : Int) := by omega
       rw [if_pos h2, if_pos h3]; subst h2; simp
     · have h3 : ¬ (0 ≤ z ∧ z < ((k + 1 : Nat) : Int)) := by omega
       rw [if_neg h2, if_neg h3]; rfl
theorem mset_esO (ovs : List Int) (k : Nat) : mset k (I (ovs.getD k 0)) (esO ovs k) = esO ovs (k + 1) := by
 rw [(mset_spec _).1 (by rw [mget_esO, if_neg (by omega)]), esO_succ]

def HBf (H : Heap) (oD oL om M : Nat) (lp : AObj) (ovs : List Int) (k : Nat) : Heap := (((H.upd oD .shut).upd oL lp).upd om (.cells [.mp M])).upd M (.map (esO ovs k))

@[simp] theorem cells_mp (o : Nat) : AV.cells (.mp o) = [.mp o] := rfl
@[simp] theorem single_mp (o : Nat) : AV.single (.mp o) = true := rfl

theorem HBf_proto {H : Heap} {oD oL om M : Nat} {rec : Loop} {T : Tm} {ovs : List Int} {v0 v2 : AV} (h1 : oL ≠ om) (h2 : oL ≠ M) (h3 : om ≠ M)
 (hst : rec.state = .ready) (hpe : rec.pending = none) (hps : rec.params = #[14, 15]) (ha : rec.assign = C_plot_Over_a) (hb : rec.body = C_plot_Over_b) (hn : 41 ≤ rec.tmps.size)
 (hT : T = Tm.of [1, 5, 13] [v0, .ptr om 0, v2]) : YProto oL ovs (HBf H oD oL om M (.loop rec T) ovs) where
 dom k i := by
  unfold HBf
  simp only [upd_none_iff]
 call k hk c HX hc hle := by
  subst hT
  have hL : HX oL = some (.loop rec (Tm.of [1, 5, 13] [v0, .ptr om 0, v2])) := hle _ _ (by unfold HBf; rw [Heap.upd_ne _ _ h2, Heap.upd_ne _ _ h1, Heap.upd_same])
  have hom : HX om = some (.cells [.mp M]) := hle _ _ (by unfold HBf; rw [Heap.upd_ne _ _ h3, Heap.upd_same])
  have hM : HX M = some (.map (esO ovs k)) := hle _ _ (by unfold HBf; rw [Heap.upd_same])
  have hgd : ovs[k] = ovs.getD k 0 := by simp [List.getD_eq_getElem?_getD, hk]
  refine AYield.of_body (E := E_plot_Over.pre) (draw := drawK E_plot_Over.pre) (p := 14) (q := 15) (rec := rec) (T := Tm.of [1, 5, 13] [v0, .ptr om 0, v2]) (Tb := ((Tm.of [1, 5, 13] [v0, .ptr om 0, v2]).upd 14 (I k)).upd 15 (.agg [.sc c, I (ovs[k])])) (fun _ => rfl) rfl hst hpe hps hn (by decide) (by decide) (by rw [ha]; exact plot_Over_s.1) (by rw [hb]; exact plot_Over_s.2) hL (fun i => .inl rfl) ?_
  rw [ha, hb]
  have := K_plot_Over_body v0 (.ptr om 0) v2 (I k) (.agg [.sc c, I (ovs[k])]) HX (fun H2 => H2 oL = some (.loop rec (Tm.of [1, 5, 13] [v0, .ptr om 0, v2]))) (fun H2 => H2.upd oL (.loop { rec with state := .busy } (Tm.of [1, 5, 13] [v0, .ptr om 0, v2])))
   (fun H3 => H3 oL = some (.loop { rec with state := .busy } (Tm.of [1, 5, 13] [v0, .ptr om 0, v2])) ∧ B true = B true ∧ HBf H oD oL om M (.loop rec (Tm.of [1, 5, 13] [v0, .ptr om 0, v2])) ovs (k + 1) ≤ H3.upd oL (.loop rec (Tm.of [1, 5, 13] [v0, .ptr om 0, v2])) ∧ ∀ i, HBf H oD oL om M (.loop rec (Tm.of [1, 5, 13] [v0, .ptr om 0, v2])) ovs k i = none → HX i ≠ none → (H3.upd oL (.loop rec (Tm.of [1, 5, 13] [v0, .ptr om 0, v2]))) i = HX i)
  rw [ha, hb] at this
  rw [this]
  clear this
  unfold W_plot_Over_body
  intro o1 ho1
  have hne : ∀ i, HX i ≠ none → i ≠ o1 := fun i hi e => by subst e; exact hi ho1
  have e1 : oL ≠ o1 := hne _ (by rw [hL]; simp)
  have e2 : om ≠ o1 := hne _ (by rw [hom]; simp)
  have e3 : M ≠ o1 := hne _ (by rw [hM]; simp)
  have est : st 2 (HX.upd o1 (.cells [.sc (.complex .f64 0 0), .sc (.int .i64 0)])) (.ptr o1 0) (.agg [.sc c, I (ovs[k])]) = some (HX.upd o1 (.cells [.sc c, I (ovs[k])])) := by simp [splice]
  rw [est]
  simp only [heapK_some]
  refine ⟨by rw [Heap.upd_ne _ _ e1, hL], ?_⟩
  have g1 : ∀ x, ((HX.upd o1 (.cells [.sc c, I (ovs[k])])).upd oL x) om = some (.cells [.mp M]) := fun x => by rw [Heap.upd_ne _ _ (Ne.symm h1), Heap.upd_ne _ _ e2]; exact hom
  have g2 : ∀ x, ((HX.upd o1 (.cells [.sc c, I (ovs[k])])).upd oL x) M = some (.map (esO ovs k)) := fun x => by rw [Heap.upd_ne _ _ (Ne.symm h2), Heap.upd_ne _ _ e3]; exact hM
  have g3 : ∀ x, ((HX.upd o1 (.cells [.sc c, I (ovs[k])])).upd oL x) o1 = some (.cells [.sc c, I (ovs[k])]) := fun x => by rw [Heap.upd_ne _ _ (Ne.symm e1), Heap.upd_same]
  rw [ld_ptr (g1 _)]
  simp only [cutE_one, get0, pureK_some, fa_ptr, Nat.zero_add]
  rw [ld_ptr (g3 _)]
  simp only [cutE_one, get1, pureK_some]
  have emu : ∀ x, mu (.mp M) (I k) (I (ovs[k])) ((HX.upd o1 (.cells [.sc c, I (ovs[k])])).upd oL x) = some (((HX.upd o1 (.cells [.sc c, I (ovs[k])])).upd oL x).upd M (.map (esO ovs (k + 1)))) := fun x => by
   simp only [mu, g2]
   rw [hgd, mset_esO]
  rw [emu]
  simp only [heapK_some]
  refine ⟨by rw [Heap.upd_ne _ _ h2, Heap.upd_same], trivial, fun i x e => ?_, fun i hi hx => ?_⟩
  · unfold HBf at e
    by_cases i1 : i = oL
    · subst i1; rw [Heap.upd_ne _ _ h2, Heap.upd_ne _ _ h1, Heap.upd_same] at e; rw [Heap.upd_same]; exact e
    · rw [Heap.upd_ne _ _ i1]
      by_cases i2 : i = M
      · subst i2; rw [Heap.upd_same] at e ⊢; exact e
      · rw [Heap.upd_ne _ _ i2] at e ⊢
        rw [Heap.upd_ne _ _ i1]
        have hx := hle i x (by unfold HBf; rw [Heap.upd_ne _ _ i2]; exact e)
        rw [Heap.upd_ne _ _ (hne i (by rw [hx]; simp))]; exact hx
  · unfold HBf at hi
    simp only [upd_none_iff] at hi
    obtain ⟨i2, i3, i1, _⟩ := hi
    rw [Heap.upd_ne _ _ i1, Heap.upd_ne _ _ i2, Heap.upd_ne _ _ i1, Heap.upd_ne _ _ (hne i hx)]

theorem enters_spots1 : enters PP plot_spots_1 = true := by kernel_rfl
abbrev natE (l : List Nat) : List AV := l.map fun n : Nat => I (n : Int)

theorem plot_Over_ms (t : Tr) (ht : t.ok) (hl : t.flat.length ≤ 1000) (p : Perm) (at' : Nat) (hat : at' < t.flat.length) (H : Heap) : ACalls PP gΓ plot_Over [rowA t.flat p, I at'] H (fun r H' => MsV H H' 1 (natE (anc t at')) r) := by
 refine plot_Over_of ?_
 unfold W_plot_Over
 intro M hM
 intro om hom
 simp only [upd_none_iff] at hom
 have est : st 1 ((H.upd M (.map [])).upd om (.cells [.sc (.map none)])) (.ptr om 0) (.mp M) = some ((H.upd M (.map [])).upd om (.cells [.mp M])) := by simp [splice]
 rw [est]
 simp only [heapK_some]
 clear est
 have holen : (overs t).length = t.flat.length := ovT_len t 0 (-1)
 refine ACalls.mono (R := fun r H' => ∃ ob, r = .fn (.func plot_spots_1) [] [.ptr ob 0] ∧ ob ≠ om ∧ ob ≠ M ∧ H ob = none ∧ H' = ((H.upd M (.map [])).upd om (.cells [.mp M])).upd ob (.cells [rowA t.flat p])) ?_ ?_
 · refine plot_spots_of ?_
   unfold W_plot_spots
   simp only [cells_lst, allocK_some]
   refine ⟨rfl, fun ob hob => ?_⟩
   simp only [upd_none_iff] at hob
   exact ret1_of _ (Heap.le_refl _) ⟨ob, rfl, hob.1, hob.2.1, hob.2.2, rfl⟩
 rintro r H7 ⟨ob, rfl, hb1, hb2, hb3, rfl⟩
 have hMo : om ≠ M := hom.1
 refine ⟨plot_spots_1, [.ptr ob 0], fun oD H1 => H ≤ H1 ∧ H1 om = some (.cells [.mp M]) ∧ H1 M = some (.map (esO (overs t) t.flat.length)) ∧ H oD = none ∧ om ≠ oD ∧ M ≠ oD, rfl, enters_spots1, ?_, ?_⟩
 · intro oD oL rec hDL hD hL hst hpe hps ha hb hn
   simp only [upd_none_iff] at hD hL
   have hproto := HBf_proto (H := H) (oD := oD) (oL := oL) (om := om) (M := M) (rec := rec) (ovs := overs t) hL.2.1 hL.2.2.1 hMo hst hpe hps ha hb hn (T := Tm.of [1, 5, 13] [I at', .ptr om 0, .fn (.func plot_spots_1) [] [.ptr ob 0]]) rfl
   refine (spots_1_ok t ht hl p hproto (H := _) (fun i x e => ?_) ?_).mono ?_
   · unfold HBf at e
     by_cases i1 : i = M
     · subst i1
       rw [Heap.upd_same] at e
       rw [Heap.upd_ne _ _ (Ne.symm hL.2.2.1), Heap.upd_ne _ _ (Ne.symm hD.2.2.1), Heap.upd_ne _ _ (Ne.symm hb2), Heap.upd_ne _ _ (Ne.symm hMo), Heap.upd_same]
       exact e
     · rw [Heap.upd_ne _ _ i1] at e
       by_cases i2 : i = om
       · subst i2
         rw [Heap.upd_same] at e
         rw [Heap.upd_ne _ _ (Ne.symm hL.2.1), Heap.upd_ne _ _ (Ne.symm hD.2.1), Heap.upd_ne _ _ (Ne.symm hb1), Heap.upd_same]
         exact e
       · rw [Heap.upd_ne _ _ i2] at e
         by_cases i3 : i = oL
         · subst i3; rw [Heap.upd_same] at e ⊢; exact e
         · rw [Heap.upd_ne _ _ i3] at e ⊢
           by_cases i4 : i = oD
           · subst i4; rw [Heap.upd_same] at e ⊢; exact e
           · rw [Heap.upd_ne _ _ i4] at e ⊢
             rw [Heap.upd_ne _ _ (fun e' => by subst e'; rw [hb3] at e; cases e), Heap.upd_ne _ _ i2, Heap.upd_ne _ _ i1]
             exact e
   · refine ld_ptr (cs := [rowA t.flat p]) ?_ |>.trans rfl
     rw [Heap.upd_ne _ _ (Ne.symm hL.1), Heap.upd_ne _ _ (Ne.symm hD.1), Heap.upd_same]
   · intro r H' hle
     refine ⟨hle _ _ (by unfold HBf; rw [Heap.upd_ne _ _ hL.2.2.1, Heap.upd_ne _ _ hL.2.1, Heap.upd_same]), ((H.upd oD .shut).upd om (.cells [.mp M])).upd M (.map (esO (overs t) t.flat.length)), fun i x e => hle i x ?_, ?_, ?_, ?_, ?_, ?_, hD.2.2.2, Ne.symm hD.2.1, Ne.symm hD.2.2.1⟩
     · unfold HBf
       by_cases i1 : i = M
       · subst i1; rw [Heap.upd_same] at e ⊢; exact e
       · rw [Heap.upd_ne _ _ i1] at e ⊢
         by_cases i2 : i = om
         · subst i2; rw [Heap.upd_same] at e ⊢; exact e
         · rw [Heap.upd_ne _ _ i2] at e ⊢
           rw [Heap.upd_ne _ _ (fun e' => by subst e'; rw [Heap.upd_ne _ _ (Ne.symm hDL), hL.2.2.2] at e; cases e)]
           exact e
     · rw [Heap.upd_ne _ _ hL.2.2.1, Heap.upd_ne _ _ hL.2.1, Heap.upd_ne _ _ (Ne.symm hDL)]; exact hL.2.2.2
     · rw [Heap.upd_ne _ _ hD.2.2.1, Heap.upd_ne _ _ hD.2.1, Heap.upd_same]
     · exact Heap.le_upd (Heap.le_upd (Heap.le_upd (Heap.le_refl _) hD.2.2.2) hom.2) hM
     · rw [Heap.upd_ne _ _ hMo, Heap.upd_same]
     · rw [Heap.upd_same]
 · rintro oD H' _ hD' ⟨hle, h1, h2, h3, h4, h5⟩ D
   rw [K_plot_Over_rest]
   unfold W_plot_Over_rest
   have elk : ∀ (HX : Heap) (z : Nat) (b : Bool), HX M = some (.map (esO (overs t) t.flat.length)) → z < t.flat.length → lk (.sc (.int .i64 0)) b (.mp M) (I z) HX = some (okR b (I ((overs t).getD z 0)) true) := fun HX z b hx hz => by
    simp only [lk, hx, mget_esO]
    rw [if_pos (by omega)]; simp
   simp only [ld_ptr h1, cutE_one, get0, pureK_some]
   rw [elk H' at' true h2 hat]
   simp only [pureK_some, okR, extractE_tup, get0, get1, unE_not, Bool.not_true, condK_B]
   refine ⟨fun h => (by cases h), fun _ => ?_⟩
   rw [elk H' at' false h2 hat]
   simp only [pureK_some, okR]
   refine ⟨fun vs H10 n => H ≤ H10 ∧ H10 oD = some .shut ∧ H10 om = some (.cells [.mp M]) ∧ H10 M = some (.map (esO (overs t) t.flat.length)) ∧ ∃ (z : Int) (out : AV) (outs : List Nat), vs = [I z, .ptr om 0, out] ∧ outs.length ≤ 1000 ∧
    ((∃ z' : Nat, z = z' ∧ n = z' + 1 ∧ z' < t.flat.length ∧ anc t at' = anc t z' ++ [z'] ++ outs ∧ outs.length + z' < 1000 ∧ ((out = .lst 0 [] .exact ∧ outs = []) ∨ out = natA outs .no)) ∨
      (z = -1 ∧ n = 0 ∧ anc t at' = outs ∧ ((∃ s1 q, outs.length ≤ 1 ∧ out = .lst s1 (natE outs) q ∧ (s1 = 1 ∨ outs = [])) ∨
        ∃ o n cap zs, out = .ms o 0 n cap ∧ H o = none ∧ o ≠ oD ∧ H10 o = some (.cells ((natE outs).flatMap AV.cells ++ zs)) ∧ (natE outs).length = n ∧ n ≤ cap ∧ ((natE outs).flatMap AV.cells ++ zs).length = cap * 1))),
    ?_, ?_⟩
   · rcases overs_anc hat with ⟨e1, e2⟩ | ⟨j, hj, e1, e2⟩
     · rw [e1]
       exact ⟨0, H', Heap.le_refl _, hle, hD', h1, h2, -1, _, [], rfl, by simp, .inr ⟨rfl, rfl, e2, .inl ⟨0, .exact, by simp, rfl, .inr rfl⟩⟩⟩
     · rw [e1]
       exact ⟨j + 1, H', Heap.le_refl _, hle, hD', h1, h2, j, _, [], rfl, by simp, .inl ⟨j, rfl, rfl, by omega, by simpa using e2, by simp; omega, .inl ⟨rfl, rfl⟩⟩⟩
   rintro vs H10 n ⟨hle10, hD10, g1, g2, z, out, outs, rfl, hol, hcase⟩
   simp only [nth_zero, nth_succ, bop_geq, pureK_some, condK_B, decide_eq_true_eq, decide_eq_false_iff_not]
   refine ⟨fun hz => ?_, fun hz => ?_⟩
   · rcases hcase with ⟨z', rfl, rfl, hz', hanc, hoz, hout⟩ | ⟨rfl, _⟩
     · have e3 : ∀ x : AV, bsl 1 (I 0) 1 [(0, I (z' : Int))] = some (.lst 1 [I (z' : Int)] .exact) := fun _ => rfl
       rw [e3 .dead]
       simp only [pureK_some]
       have happ : appended 1 out = some (natE outs) := by
        rcases hout with ⟨rfl, rfl⟩ | rfl <;> simp [appended, natE]
       rcases overs_anc hz' with ⟨e1, e2⟩ | ⟨j, hj, e1, e2⟩
       · rw [e2, List.nil_append] at hanc
         by_cases ho : outs = []
         · left
           simp only [appK1, happ]
           refine ⟨.inl trivial, by simp [ho, maxApp], .inl ?_⟩
           simp only [ld_ptr g1, cutE_one, get0, pureK_some]
           rw [elk H10 z' false g2 hz']
           simp only [pureK_some, okR, e1]
           exact ⟨0, H10, by omega, Heap.le_refl _, hle10, hD10, g1, g2, -1, _, [z'], rfl, by simp, .inr ⟨rfl, rfl, by rw [hanc, ho]; rfl, .inl ⟨1, .no, by simp, by simp [ho], .inl rfl⟩⟩⟩
         · right
           simp only [appM, happ]
           refine ⟨.inl trivial, by simp [natE]; exact List.length_pos_iff.2 ho, by simp [natE, maxApp]; omega, fun o cap zs hno hc hzl => ?_⟩
           have hne : ∀ i, H10 i ≠ none → i ≠ o := fun i hi e => by subst e; exact hi hno
           have g1' : (H10.upd o (.cells (([I (z' : Int)] ++ natE outs).flatMap AV.cells ++ zs))) om = some (.cells [.mp M]) := by rw [Heap.upd_ne _ _ (hne om (by rw [g1]; simp))]; exact g1
           have g2' : (H10.upd o (.cells (([I (z' : Int)] ++ natE outs).flatMap AV.cells ++ zs))) M = some (.map (esO (overs t) t.flat.length)) := by rw [Heap.upd_ne _ _ (hne M (by rw [g2]; simp))]; exact g2
           simp only [ld_ptr g1', cutE_one, get0, pureK_some]
           rw [elk _ z' false g2' hz']
           simp only [pureK_some, okR, e1]
           refine ⟨0, _, by omega, Heap.le_refl _, Heap.le_upd hle10 (le_none hle10 hno), by rw [Heap.upd_ne _ _ (hne oD (by rw [hD10]; simp))]; exact hD10, g1', g2', -1, _, z' :: outs, rfl, by simp; omega, .inr ⟨rfl, rfl, by rw [hanc]; rfl, .inr ⟨o, _, cap, zs, rfl, le_none hle10 hno, fun e => hne oD (by rw [hD10]; simp) e.symm, ?_, ?_, hc, ?_⟩⟩⟩
           · rw [Heap.upd_same]; rfl
           · simp; omega
           · have : ∀ l : List Nat, ((natE l).flatMap AV.cells).length = l.length := fun l => by induction l with | nil => rfl | cons a l ih => simp at ih ⊢; exact ih
             simp only [natE, List.map_cons, List.flatMap_cons, List.length_append, cells_sc, List.length_singleton]
             rw [this outs, hzl]
             simp [natE] at hc ⊢; omega
       · left
         simp only [appK1, happ]
         refine ⟨.inl trivial, by simp [natE, maxApp]; omega, .inl ?_⟩
         simp only [ld_ptr g1, cutE_one, get0, pureK_some]
         rw [elk H10 z' false g2 hz']
         simp only [pureK_some, okR, e1]
         exact ⟨j + 1, H10, by omega, Heap.le_refl _, hle10, hD10, g1, g2, j, _, z' :: outs, rfl, by simp; omega, .inl ⟨j, rfl, rfl, by omega, by rw [hanc, e2]; simp, by simp; omega, .inr rfl⟩⟩
     · omega
   · rcases hcase with ⟨z', rfl, _⟩ | ⟨rfl, rfl, hanc, hout⟩
     · omega
     · refine ⟨hD10, rem H10 (some oD), fun i x e => ?_, by simp [rem], ?_⟩
       · unfold rem at e
         by_cases i1 : i = oD
         · simp [i1] at e
         · simpa [i1] using e
       · have hler : H ≤ rem H10 (some oD) := fun i x e => by
          unfold rem
          have : i ≠ oD := fun e' => by subst e'; rw [h3] at e; cases e
          simp only [this, if_false]
          exact hle10 i x e
         rw [hanc]
         rcases hout with ⟨s1, q, ho1, rfl, hs1⟩ | ⟨o, n, cap, zs, rfl, ho1, ho2, ho3, ho4, ho5, ho6⟩
         · exact .inl ⟨s1, q, by simpa using ho1, rfl, hs1.imp id fun h => by rw [h]; rfl, hler⟩
         · refine .inr ⟨o, n, cap, zs, rfl, ho1, ?_, ho4, ho5, ho6, hler⟩
           unfold rem
           simp only [ho2, if_false]
           exact ho3

theorem plot_Over_ok (t : Tr) (ht : t.ok) (hl : t.flat.length ≤ 1000) (p : Perm) (at' : Nat) (hat : at' < t.flat.length) : Pur plot_Over [rowA t.flat p, I at'] (natA (anc t at') .no) := fun H =>
 ACalls.freeze (s := 1) (es := natE (anc t at')) (fun e he => by obtain ⟨n, _, rfl⟩ := List.mem_map.1 he; rfl) (plot_Over_ms t ht hl p at' hat H)

end Go.Av
namespace Go.Proofs
open Go.Shelf
def rev_ren : Ren := { f := fun x => match x with | 112 => 147 | n => n, t := fun x => match x with | 28 => 23 | n => n, g := fun x => x }
theorem rev_lays : Lays.n112 Tryz.prog rev_ren :=
 { mixed := by kernel_rfl, f112 := Tryz.func147.trans (congrArg some (by kernel_rfl)), t0 := Tryz.underlying0, a0 := Tryz.isAgg0, z0 := Tryz.sizeOf0, v0 := Tryz.zeroValue0, t3 := Tryz.underlying3, a3 := Tryz.isAgg3, z3 := Tryz.sizeOf3, v3 := Tryz.zeroValue3,
   t4 := Tryz.underlying4, a4 := Tryz.isAgg4, z4 := Tryz.sizeOf4, v4 := Tryz.zeroValue4, t28 := Tryz.underlying23, a28 := Tryz.isAgg23, z28 := Tryz.sizeOf23, v28 := Tryz.zeroValue23 }
end Go.Proofs
namespace Go.Av
open Go Go.Proofs

theorem WRel.ahead {Γ : Nat → Option AV} {G : Ghost} {H : Heap} {w : World} (h : WRel Γ G H w) : ∀ n, Ext G w G (Go.Sort.ahead w n) ∧ WRel Γ G H (Go.Sort.ahead w n) := by
 intro n
 induction n with
 | zero => exact ⟨Ext.refl _ _, h⟩
 | succ n ih =>
   rw [← Go.Sort.ahead_drew]
   exact ⟨ih.1.trans (Ext.drew _ _), ih.2.drew⟩

theorem mapBlock_set {w : World} {b : Nat} {f : Array Value → Array Value} {c : Array Value} {e : TypeId} (h : w.heap[b]? = some (.cells c e)) : Go.Sort.mapBlock w b f = setBlock w b (.cells (f c) e) := by
 unfold Go.Sort.mapBlock setBlock
 congr 1
 apply Array.ext_getElem?
 intro i
 by_cases hi : i = b
 · subst hi
   have hlt : i < w.heap.size := (Array.getElem?_eq_some_iff.1 h).1
   rw [Array.getElem?_modify, if_pos rfl, h, Array.getElem?_setIfInBounds_self_of_lt hlt]; rfl
 · rw [Array.getElem?_modify, if_neg (fun e => hi e.symm), Array.getElem?_setIfInBounds_ne (fun e => hi e.symm)]

theorem Reverse_ms (l : List Nat) (o cap : Nat) (zs : List AV) (H : Heap) (hH : H o = some (.cells (natE l ++ zs))) (hl : l.length ≤ 1000) :
 ACalls PP gΓ slices_Reverse_int [.ms o 0 l.length cap] H (fun _ H' => H' = H.upd o (.cells (natE l.reverse ++ zs))) := by
 intro G w vs hW hvl hr
 match vs, hvl with
 | [v], _ =>
 have hv := hr 0 (by simp)
 simp only [List.getD_cons_zero] at hv
 obtain ⟨rfl, hu⟩ := hv.inv_ms
 obtain ⟨_, hbase, hpriv, c, el, hb, hsz, hcells⟩ := hW.obj o _ hH
 have hlt := (Array.getElem?_eq_some_iff.1 hb).1
 have hc : ∀ j (hj : j < l.length), c.getD j undef = .int .i64 (l[j] : Nat) := fun j hj => by
  have := (hcells j (by simp; omega)).2
  rw [List.getD_eq_getElem?_getD, List.getElem?_append_left (by simpa using hj)] at this
  simp [hj] at this
  have h2 := this.inv_sc.1
  simpa [Array.getD_eq_getD_getElem?] using h2
 have hk := Any.slices_Reverse_int rev_lays (G.loc o) 0 cap (l.map fun n : Nat => (n : Int)) w (fun j hj => by
  have hj' : j < l.length := by simpa using hj
  have hjc : j < c.size := by rw [hsz]; simp; omega
  have e := hc j hj'
  simp [Array.getD_eq_getD_getElem?, hjc] at e
  refine ⟨?_, ?_⟩
  · simp [World.cell?, hb, hjc, e, hj']
  · simp [World.frozen?, hb]) (by simp; omega)
 have e0 : rev_ren.f 112 = slices_Reverse_int := by kernel_rfl
 rw [e0] at hk
 simp only [List.length_map] at hk
 refine Calls.mono hk ?_
 rintro e w' ⟨rfl, n, rfl⟩
 obtain ⟨x1, hW1⟩ := hW.ahead n
 have hb1 : (Go.Sort.ahead w n).heap[G.loc o]? = some (.cells c el) := hb
 have hset := mapBlock_set (f := Go.Sort.putCells (Value.int .i64) 0 (l.map fun n : Nat => (n : Int)).reverse.toArray) hb1
 unfold Go.Sort.putRow
 rw [hset]
 obtain ⟨x2, hW2⟩ := hW1.setObj hH rfl (x' := .cells (natE l.reverse ++ zs)) rfl (.cells (Go.Sort.putCells (Value.int .i64) 0 (l.map fun n : Nat => (n : Int)).reverse.toArray c) el) (fun w' hw' xt => by
  subst hw'
  refine ⟨hbase, hpriv, _, el, setBlock_heap_same _ _ _ hlt, by simpa [Go.Sort.putCells] using hsz, fun i hi => ?_⟩
  have hi' : i < l.length + zs.length := by simpa using hi
  have hic : i < c.size := by rw [hsz]; simpa using hi'
  have hold := hcells i (by simpa using hi')
  have eget : (Go.Sort.putCells (Value.int .i64) 0 (l.map fun n : Nat => (n : Int)).reverse.toArray c).getD i undef = if h : i < l.length then .int .i64 ((l.reverse[i]'(by simpa using h) : Nat) : Int) else c.getD i undef := by
   simp only [Go.Sort.putCells, Array.getD_eq_getD_getElem?, Array.getElem?_mapIdx, Array.getElem?_eq_getElem hic, Option.map_some, Option.getD_some]
   by_cases h : i < l.length
   · rw [if_pos (by simpa using h), dif_pos h]
     rw [getElem!_pos _ _ (by simpa using h)]
     simp [List.getElem_reverse]
   · rw [if_neg (by simpa using h), dif_neg h]
  rw [eget]
  by_cases h : i < l.length
  · rw [dif_pos h, List.getD_eq_getElem?_getD, List.getElem?_append_left (by simpa using h)]
    simp [h]
    exact .sc _ rfl
  · rw [dif_neg h, List.getD_eq_getElem?_getD, List.getElem?_append_right (by simp; omega)]
    rw [List.getD_eq_getElem?_getD, List.getElem?_append_right (by simp; omega)] at hold
    simp only [List.length_map, List.length_reverse] at hold ⊢
    exact ⟨hold.1, (hold.2.ext x1).ext xt⟩)
 exact ⟨_, G, .tup [], _, rfl, x1.trans x2, hW2, .tup [] [] rfl (fun i h => by cases h), rfl⟩

theorem Reverse_short (s : Nat) (es : List AV) (q : Perm) (h : es.length ≤ 1) (H : Heap) : ACalls PP gΓ slices_Reverse_int [.lst s es q] H (fun _ H' => H' = H) := by
 refine slices_Reverse_int_of ?_
 unfold W_slices_Reverse_int
 simp only [lnl_lst, pureK_some]
 rw [bop_sub (by omega) (by omega)]
 simp only [pureK_some]
 refine ⟨fun vs H' n => vs = [.lst s es q, I 0, I ((es.length : Int) - 1)] ∧ H' = H, ⟨0, H, Heap.le_refl _, rfl, rfl⟩, ?_⟩
 rintro vs H' n ⟨rfl, rfl⟩
 simp only [nth_zero, nth_succ, bop_lss, pureK_some, condK_B, decide_eq_true_eq, decide_eq_false_iff_not]
 exact ⟨fun hh => by omega, fun _ => ret1_of H' (Heap.le_refl _) rfl⟩

end Go.Av
namespace Go.Av
open Go Go.Proofs

def dooF : Tr → Bool
 | .l0 n => decide (n.kind = 11) && decide (n.sign = 2)
 | .l1 n _ => decide (n.kind = 14) && decide (n.sign = 2)
 | .l2 n a b => if n.kind = 5 ∨ n.kind = 12 ∨ n.kind = 13 then dooF a else if n.kind = 7 then dooF a || dooF b else false

theorem doom_doomed_ok : ∀ (t : Tr), t.ok → t.flat.length ≤ 1000 → ∀ p, Pur doom_doomed [rowA t.flat p] (B (dooF t)) := by
 intro t
 induction t with
 | l0 n =>
   intro ht hl p H
   refine doom_doomed_of ?_
   unfold W_doom_doomed
   refine (row_Kids_ok _ p ht (by omega)).run ?_
   have h1 : arity n.kind = 0 := ht
   have hk : n.kind ≠ 14 ∧ n.kind ≠ 5 ∧ n.kind ≠ 12 ∧ n.kind ≠ 13 ∧ n.kind ≠ 7 := by unfold arity at h1; omega
   rw [ias_root]
   simp [Tr.root, hk, dooF]
   refine ⟨fun h => ?_, fun h => ?_⟩ <;> simp [h]
 | l1 n a ih =>
   intro ht hl p H
   refine doom_doomed_of ?_
   unfold W_doom_doomed
   refine (row_Kids_ok _ p ht (by omega)).run ?_
   have h1 : arity n.kind = 1 := ht.1
   have hk : n.kind ≠ 11 ∧ n.kind ≠ 5 ∧ n.kind ≠ 12 ∧ n.kind ≠ 13 ∧ n.kind ≠ 7 := by unfold arity at h1; omega
   rw [ias_root]
   simp [Tr.root, hk, dooF]
   refine ⟨fun h => ?_, fun h => ?_⟩ <;> simp [h]
 | l2 n a b iha ihb =>
   intro ht hl p H
   refine doom_doomed_of ?_
   unfold W_doom_doomed
   refine (row_Kids_ok _ p ht (by omega)).run ?_
   have h1 : arity n.kind = 2 := ht.1
   have hk : n.kind ≠ 11 ∧ n.kind ≠ 14 := by unfold arity at h1; omega
   have e0 := kids0 a b
   have e1 := kids1 a b
   have hl2 := len_l2 n a b
   have ia := iha ht.2.1 (by unfold Tr.len at hl2; omega) .no
   have ib := ihb ht.2.2 (by unfold Tr.len at hl2; omega) .no
   rw [ias_root]
   simp only [Tr.root, Tr.kids, e0, e1]
   simp [hk]
   refine ⟨fun h => ?_, fun h => ⟨fun h2 => ?_, fun h2 => ⟨fun h3 => ?_, fun h3 => ⟨fun h4 => ?_, fun h4 => ?_⟩⟩⟩⟩
   · refine ia.run ?_; simp [dooF, h]
   · refine ia.run ?_; simp [dooF, h2]
   · refine ia.run ?_; simp [dooF, h3]
   · refine ia.run ?_
     simp [dooF, h4]
     refine ⟨fun h5 => by simp [h5], fun h5 => ?_⟩
     refine ib.run ?_
     simp [h5]
   · simp [dooF, h, h2, h3, h4]

noncomputable def doomedT (t : Tr) : Bool := settled t.flat && dooF t
theorem doom_Doomed_ok (t : Tr) (ht : t.ok) (hl : t.flat.length ≤ 1000) (hn : names t.flat) (p : Perm) : Pur doom_Doomed [rowA t.flat p] (B (doomedT t)) := by
 intro H
 refine doom_Doomed_of ?_
 unfold W_doom_Doomed
 refine (settle_Settled_ok settleOk t.flat p (by omega) hn).run ?_
 simp only [condK_B]
 refine ⟨fun h => ?_, fun h => ?_⟩
 · refine (doom_doomed_ok t ht hl p).run ?_
   exact ret1_of H (Heap.le_refl _) ⟨by simp [doomedT, h], rfl⟩
 · exact ret1_of H (Heap.le_refl _) ⟨by simp [doomedT, h], rfl⟩

def idl (t : Tr) (at' x : Nat) : Bool := decide (goes (subT t x).root.kind ≤ kidF (subT t x) ((at' : Int) - (x + 1)))
def idleT (t : Tr) (at' : Nat) : Bool := (anc t at').any (idl t at')

theorem Active_1_1_ok (t : Tr) (ht : t.ok) (hl : t.flat.length ≤ 1000) (p : Perm) {o1 o2 : Nat} {H : Heap} (at' x : Nat) (hat : at' < t.flat.length) (hx : x < t.flat.length) (h1 : H o1 = some (.cells [rowA t.flat p])) (h2 : H o2 = some (.cells [I at'])) :
 AReads PP gΓ doom_Active_1_1 [I x, .ptr o1 0, .ptr o2 0] H (B (idl t at' x)) := by
 intro H' hle
 refine doom_Active_1_1_of ?_
 unfold W_doom_Active_1_1
 simp only [ld_ptr (hle _ _ h1), ld_ptr (hle _ _ h2), cutE_one, get0, pureK_some]
 refine ⟨_, (doom_kid_ok t p ht hl x at' hx hat).reads, ?_⟩
 rw [ias_row (by omega) (by simpa using hx)]
 simp only [pureK_some, ld_cp, cut_nd, Int.toNat_natCast]
 refine (doom_goes_ok _).run ?_
 simp only [bop_geq, pureK_some]
 refine ret1_of H' (Heap.le_refl _) ⟨?_, rfl⟩
 rw [get_sub ht hx]; rfl

theorem enters_A11 : enters PP doom_Active_1_1 = true := by kernel_rfl
theorem enters_A1 : enters PP doom_Active_1 = true := by kernel_rfl

theorem Active_1_ok (t : Tr) (ht : t.ok) (hl : t.flat.length ≤ 1000) (p : Perm) {o1 : Nat} {H : Heap} (at' : Nat) (hat : at' < t.flat.length) (h1 : H o1 = some (.cells [rowA t.flat p])) :
 AReads PP gΓ doom_Active_1 [I at', .ptr o1 0] H (B (idleT t at')) := by
 intro H' hle
 refine doom_Active_1_of ?_
 unfold W_doom_Active_1
 simp only [cells_sc, allocK_some]
 refine ⟨rfl, fun o ho => ?_⟩
 have g1 : (H'.upd o (.cells [I (at' : Int)])) o1 = some (.cells [rowA t.flat p]) := by
  rw [Heap.upd_ne _ _ (fun e => by subst e; rw [hle _ _ h1] at ho; cases ho)]; exact hle _ _ h1
 have g2 : (H'.upd o (.cells [I (at' : Int)])) o = some (.cells [I (at' : Int)]) := Heap.upd_same _ _ _
 have hle2 : H' ≤ H'.upd o (.cells [I (at' : Int)]) := by simp [ho]
 generalize H'.upd o (.cells [I (at' : Int)]) = H2 at g1 g2 hle2 ⊢
 simp only [ld_ptr g1, ld_ptr g2, cutE_one, get0, pureK_some]
 refine (plot_Over_ok t ht hl p at' hat).run ?_
 have hlt := anc_lt (t := t) at' hat
 refine (slices_ContainsFunc_int_ok (anc t at') .no doom_Active_1_1 [.ptr o1 0, .ptr o 0] (idl t at') H2 (by have := hlt.2; omega) enters_A11 (fun x hx => Active_1_1_ok t ht hl p at' x hat (by have := hlt.1 x hx; omega) g1 g2)).run ?_
 exact ret1_of H' hle2 ⟨rfl, rfl⟩

def waits (k : Int) : Bool := k == 1 || k == 6 || k == 4 || k == 10
def actF (t : Tr) : List Nat := (List.range t.flat.length).filter fun i => waits (subT t i).root.kind && !idleT t i
noncomputable def actL (t : Tr) : List Nat := if settled t.flat then actF t else []

theorem range_filter_succ (f : Nat → Bool) (k : Nat) : (List.range (k + 1)).filter f = (List.range k).filter f ++ (if f k then [k] else []) := by
 rw [List.range_succ, List.filter_append]
 congr 1
 by_cases h : f k = true <;> simp [h]

theorem natE_len (l : List Nat) : (natE l).length = l.length := by simp

theorem doom_Active_ok (t : Tr) (ht : t.ok) (hl : t.flat.length ≤ 1000) (hn : names t.flat) (p : Perm) : Pur doom_Active [rowA t.flat p] (natA (actL t) .no) := by
 refine Pur.weaken (φ := fun r => Weaker r (natA (actL t) .no)) (fun H => ?_) (fun r h => h)
 refine doom_Active_of ?_
 unfold W_doom_Active
 simp only [cells_lst, allocK_some]
 refine ⟨rfl, fun o ho => ?_⟩
 have g1 : (H.upd o (.cells [rowA t.flat p])) o = some (.cells [rowA t.flat p]) := Heap.upd_same _ _ _
 have hle : H ≤ H.upd o (.cells [rowA t.flat p]) := by simp [ho]
 generalize H.upd o (.cells [rowA t.flat p]) = H2 at g1 hle ⊢
 simp only [ld_ptr g1, cutE_one, get0, pureK_some]
 refine (settle_Settled_ok settleOk t.flat p (by omega) hn).run ?_
 simp only [unE_not, pureK_some, condK_B]
 refine ⟨fun h => ?_, fun h => ?_⟩
 · refine ret1_of H hle ⟨?_, rfl⟩
   have : settled t.flat = false := by simpa using h
   unfold actL; rw [if_neg (by simp [this])]; exact Weaker.empty
 · have hset : settled t.flat = true := by simpa using h
   simp only [ld_ptr g1, cutE_one, get0, pureK_some, lnl_lst, List.length_map]
   refine ⟨fun vs H' n => ∃ (k : Nat) (v : AV), k ≤ t.flat.length ∧ vs = [.ptr o 0, .fn (.func doom_Active_1) [] [.ptr o 0], v, I t.flat.length, I k] ∧ n = t.flat.length - k ∧ H ≤ H' ∧ H' o = some (.cells [rowA t.flat p]) ∧
    Acc H H' 1 (natE ((List.range k).filter fun i => waits (subT t i).root.kind && !idleT t i)) v, ⟨_, H2, Heap.le_refl _, 0, _, Nat.zero_le _, rfl, rfl, hle, g1, .inl ⟨rfl, rfl⟩⟩, ?_⟩
   rintro vs H' n ⟨k, v, hk, rfl, rfl, hle', g, hacc⟩
   simp only [nth_zero, nth_succ, bop_lss, pureK_some, condK_B, decide_eq_true_eq, decide_eq_false_iff_not]
   refine ⟨fun hlt => ?_, fun hge => ?_⟩
   · have hk' : k < t.flat.length := by omega
     simp only [ld_ptr g, cutE_one, get0, pureK_some]
     rw [bop_add (by omega) (by omega)]
     simp only [pureK_some]
     have ek : ((k : Int) + 1) = ((k + 1 : Nat) : Int) := by omega
     obtain ⟨q, e1⟩ := sll_row2 (l := t.flat) (p := p) (a := k) (b := k + 1) (by omega) (by omega)
     rw [ek, e1]
     have e2 : (t.flat.take (k + 1)).drop k = [(subT t k).root] := by
      rw [List.take_succ_eq_append_getElem hk', List.drop_left' (by simp; omega), get_sub ht hk']
     rw [e2]
     simp only [pureK_some]
     have e3 : ∀ x : AV, bsl 1 (I 0) 4 [(0, I 1), (1, I 6), (2, I 4), (3, I 10)] = some (intA [1, 6, 4, 10] 1 .exact) := fun _ => rfl
     rw [e3 .dead]
     simp only [pureK_some]
     refine (row_Count_one _ [1, 6, 4, 10] q .exact (by simp)).run ?_
     have ew : ((subT t k).root.kind ∈ ([1, 6, 4, 10] : List Int)) ↔ waits (subT t k).root.kind = true := by
      simp [waits, or_assoc]
     have keep : (waits (subT t k).root.kind && !idleT t k) = false → ∃ (n13 : Nat) (H14 : Heap), n13 < t.flat.length - k ∧ H14 ≤ H' ∧ ∃ (k1 : Nat) (v1 : AV), k1 ≤ t.flat.length ∧ [AV.ptr o 0, .fn (.func doom_Active_1) [] [.ptr o 0], v, I t.flat.length, I ((k + 1 : Nat) : Int)] = [.ptr o 0, .fn (.func doom_Active_1) [] [.ptr o 0], v1, I t.flat.length, I k1] ∧ n13 = t.flat.length - k1 ∧ H ≤ H14 ∧ H14 o = some (.cells [rowA t.flat p]) ∧
      Acc H H14 1 (natE ((List.range k1).filter fun i => waits (subT t i).root.kind && !idleT t i)) v1 := fun hf =>
      ⟨t.flat.length - (k + 1), H', by omega, Heap.le_refl _, k + 1, v, by omega, by simp, rfl, hle', g, by rw [range_filter_succ, hf]; simpa using hacc⟩
     simp only [bop_eql, pureK_some, condK_B, decide_eq_true_eq, decide_eq_false_iff_not]
     refine ⟨fun hw => ?_, fun hw => ?_⟩
     · have hw' : waits (subT t k).root.kind = true := ew.1 (Classical.byContradiction fun h => by rw [if_neg h] at hw; omega)
       refine callK_reads (E := E_doom_Active) rfl rfl enters_A1 (Active_1_ok t ht hl p k hk' g) ?_
       simp only [unE_not, pureK_some, condK_B]
       refine ⟨fun hi => ?_, fun hi => ?_⟩
       · have e4 : ∀ x : AV, bsl 1 (I 0) 1 [(0, I (k : Int))] = some (.lst 1 [I (k : Int)] .exact) := fun _ => rfl
         rw [e4 .dead]
         simp only [pureK_some]
         have hfl : ((List.range k).filter fun i => waits (subT t i).root.kind && !idleT t i).length ≤ k := by
          have := List.length_filter_le (fun i => waits (subT t i).root.kind && !idleT t i) (List.range k)
          simpa using this
         refine acc_app hacc hle' (ys := [I (k : Int)]) rfl (by rw [natE_len]; simp [maxApp]; omega) fun v' H3 hacc' hle3 hkeep => ?_
         refine ⟨t.flat.length - (k + 1), H3, by omega, Heap.le_refl _, k + 1, v', by omega, by simp, rfl, hle3, hkeep _ _ g, ?_⟩
         rw [range_filter_succ, hw']
         rw [hi]
         simpa using hacc'
       · exact keep (by rw [hi]; simp)
     · refine keep ?_
       have hw' : waits (subT t k).root.kind = false := by
        cases h : waits (subT t k).root.kind with
        | false => rfl
        | true => exact absurd (by rw [if_pos (ew.2 h)]) hw
       rw [hw']; rfl
   · have hk' : k = t.flat.length := by omega
     subst hk'
     refine ret1_of H hle' ⟨?_, rfl⟩
     unfold actL
     rw [if_pos hset]
     exact hacc.weak

end Go.Av
namespace Go.Av
open Go Go.Proofs

theorem kidGo_range : ∀ (l : List Nat) (j k : Int), kidGo l j k = 0 ∨ (k ≤ kidGo l j k ∧ kidGo l j k < k + l.length) := by
 intro l
 induction l with
 | nil => intro j k; left; rfl
 | cons n r ih =>
   intro j k
   simp only [kidGo]
   split
   · right; simp; omega
   · rcases ih (j - n) (k + 1) with h | h
     · left; exact h
     · right; simp only [List.length_cons]; omega
theorem kidF_two {t : Tr} (h : t.kids.length = 2) (j : Int) : kidF t j = 0 ∨ kidF t j = 1 := by
 have := kidGo_range (t.kids.map Tr.len) j 0
 unfold kidF
 simp only [List.length_map, h] at this
 omega

def OvR (HX : Heap) (x : AV) (l : List Nat) : Prop := (∃ s q, x = .lst s (natE l) q ∧ (s = 1 ∨ l = [])) ∨ ∃ o cap zs, x = .ms o 0 l.length cap ∧ HX o = some (.cells (natE l ++ zs))
theorem OvR.len {HX : Heap} {x : AV} {l : List Nat} (h : OvR HX x l) : lnl x = some (I l.length) := by
 rcases h with ⟨s, q, rfl, _⟩ | ⟨o, cap, zs, rfl, _⟩
 · simp
 · rfl
theorem OvR.get {HX : Heap} {x : AV} {l : List Nat} (h : OvR HX x l) {k : Nat} (hk : k < l.length) : ∃ r, ias 1 x (I k) = some r ∧ ld (some false) 1 HX r = some (I (l[k] : Nat)) := by
 rcases h with ⟨s, q, rfl, hs⟩ | ⟨o, cap, zs, rfl, ho⟩
 · rcases hs with rfl | rfl
   · exact ⟨_, ias_nat hk, by simp⟩
   · simp at hk
 · refine ⟨.ptr o k, ?_, ?_⟩
   · simp [ias, hk]
   · rw [ld_ptr ho, cutE_one, List.getElem?_append_left (by simpa using hk)]; simp [hk]
theorem OvR.keep {HX HX' : Heap} {x : AV} {l : List Nat} (h : OvR HX x l) (hk : ∀ o cs, HX o = some (.cells cs) → HX' o = some (.cells cs)) : OvR HX' x l := by
 rcases h with h | ⟨o, cap, zs, h1, h2⟩
 · exact .inl h
 · exact .inr ⟨o, cap, zs, h1, hk _ _ h2⟩

theorem Over_Reverse (t : Tr) (ht : t.ok) (hl : t.flat.length ≤ 1000) (p : Perm) (at' : Nat) (hat : at' < t.flat.length) (H : Heap) {K : AV → Heap → Prop}
 (k : ∀ x H', H ≤ H' → OvR H' x (anc t at').reverse → K x H') :
 ACalls PP gΓ plot_Over [rowA t.flat p, I at'] H fun x6 H7 => ACalls PP gΓ slices_Reverse_int [x6] H7 fun _ H9 => K x6 H9 := by
 refine (plot_Over_ms t ht hl p at' hat H).mono ?_
 have hlt := anc_lt (t := t) at' hat
 rintro r H' (⟨s1, q, h1, rfl, h2, hle⟩ | ⟨o, n, cap, zs, rfl, ho, hH, hn, hc, _, hle⟩)
 · refine (Reverse_short s1 _ q h1 H').mono ?_
   rintro _ H2 rfl
   refine k _ _ hle (.inl ⟨s1, q, ?_, ?_⟩)
   · congr 1
     rw [natE_len] at h1
     match hh : anc t at', h1 with
     | [], _ => rfl
     | [a], _ => rfl
   · rcases h2 with h2 | h2
     · exact .inl h2
     · right; simpa using h2
 · have hfl : (natE (anc t at')).flatMap AV.cells = natE (anc t at') := by
    generalize anc t at' = l
    induction l with
    | nil => rfl
    | cons a l ih => simp only [natE, List.map_cons, List.flatMap_cons, cells_sc] at ih ⊢; rw [ih]; rfl
   rw [hfl] at hH
   rw [natE_len] at hn
   subst hn
   refine (Reverse_ms (anc t at') o cap zs H' hH (by have := hlt.2; omega)).mono ?_
   rintro _ H2 rfl
   refine k _ _ (Heap.le_upd hle ho) (.inr ⟨o, cap, zs, by simp, by rw [Heap.upd_same]⟩)

def kidAt (t : Tr) (k : Nat) : Tr := t.kids.getD k (.l0 default)
def besG (t : Tr) (at' : Nat) : List Nat → List Tr → List Tr × Bool
 | [], out => (out, false)
 | o :: r, out => if (subT t o).root.kind = 9 then (out, true)
     else if (subT t o).root.kind = 7 then besG t at' r (out ++ [kidAt (subT t o) (1 - kidF (subT t o) ((at' : Int) - (o + 1))).toNat])
     else besG t at' r out
noncomputable def besT (t : Tr) (at' : Nat) : List Tr × Bool := if at' ∈ actL t then besG t at' (anc t at').reverse [] else ([], true)

theorem doom_beside_ok (t : Tr) (ht : t.ok) (hl : t.flat.length ≤ 1000) (hn : names t.flat) (p : Perm) (at' : Nat) (hat : at' < t.flat.length) :
 Pur doom_beside [rowA t.flat p, I at'] (.tup [rowsA ((besT t at').1.map Tr.flat) .no, B (besT t at').2]) := by
 refine Pur.weaken (φ := fun r => Weaker r (.tup [rowsA ((besT t at').1.map Tr.flat) .no, B (besT t at').2])) (fun H => ?_) (fun r h => h)
 refine doom_beside_of ?_
 unfold W_doom_beside
 refine (doom_Active_ok t ht hl hn p).run ?_
 have hil : (actL t).length ≤ 1000 := by
  unfold actL; split
  · have := List.length_filter_le (fun i => waits (subT t i).root.kind && !idleT t i) (List.range t.flat.length)
    unfold actF; simp at this; omega
  · simp
 have eint : natA (actL t) .no = intA ((actL t).map fun n : Nat => (n : Int)) 1 .no := by simp [List.map_map, Function.comp_def]
 rw [eint]
 refine (slices_Contains_int_ok _ .no (at' : Int) (by simp; omega)).run ?_
 have emem : ((at' : Int) ∈ (actL t).map fun n : Nat => (n : Int)) ↔ at' ∈ actL t := by
  rw [List.mem_map]
  exact ⟨fun ⟨a, h1, h2⟩ => by have : a = at' := by omega
                               subst this; exact h1, fun h => ⟨_, h, rfl⟩⟩
 simp only [unE_not, pureK_some, condK_B, Bool.not_eq_true', decide_eq_false_iff_not, Bool.not_eq_false', decide_eq_true_eq, emem]
 refine ⟨fun h => ?_, fun h => ?_⟩
 · refine ret1_of H (Heap.le_refl _) ⟨?_, rfl⟩
   unfold besT; rw [if_neg h]
   exact Weaker.tup2 Weaker.empty (Weaker.refl _)
 · have hlt := anc_lt (t := t) at' hat
   refine Over_Reverse t ht hl p at' hat H fun x H9 hle9 hov => ?_
   have hbes : besT t at' = besG t at' (anc t at').reverse [] := by unfold besT; rw [if_pos h]
   rw [hbes]
   have hrl : (anc t at').reverse.length ≤ 1000 := by rw [List.length_reverse]; have := hlt.2; omega
   have hrm : ∀ o, o ∈ (anc t at').reverse → o < t.flat.length := fun o ho => by have := hlt.1 o (by simpa using ho); omega
   generalize (anc t at').reverse = rev at hov hrl hrm ⊢
   simp only [hov.len, pureK_some]
   refine ⟨fun vs H' n => ∃ (k : Nat) (v : AV) (out : List Tr), k ≤ rev.length ∧ vs = [rowA t.flat p, I at', v, x, I rev.length, I k] ∧ n = rev.length - k ∧ H ≤ H' ∧ OvR H' x rev ∧ Acc H H' 1 (out.map fun u => rowA u.flat .no) v ∧ out.length ≤ k ∧
    besG t at' (rev.drop k) out = besG t at' rev [], ⟨_, H9, Heap.le_refl _, 0, _, [], Nat.zero_le _, rfl, rfl, hle9, hov, .inl ⟨rfl, rfl⟩, Nat.le_refl _, rfl⟩, ?_⟩
   rintro vs H' n ⟨k, v, out, hk, rfl, rfl, hle, hov', hacc, hol, hgo⟩
   have hwk : ∀ o : List Tr, o = out → Weaker v (rowsA (o.map Tr.flat) .no) := fun o ho => by
    subst ho
    have := hacc.weak
    show Weaker v (.lst 1 ((o.map Tr.flat).map fun l => rowA l .no) .no)
    rw [List.map_map]; exact this
   simp only [nth_zero, nth_succ, bop_lss, pureK_some, condK_B, decide_eq_true_eq, decide_eq_false_iff_not]
   refine ⟨fun hlt' => ?_, fun hge => ?_⟩
   · have hk' : k < rev.length := by omega
     obtain ⟨r, er, elr⟩ := hov'.get hk'
     rw [er]
     simp only [pureK_some, elr]
     have hok : rev[k] < t.flat.length := hrm _ (List.getElem_mem hk')
     rw [List.drop_eq_getElem_cons hk'] at hgo
     generalize rev[k] = o at hok hgo ⊢
     rw [ias_row (by omega) (by simpa using hok)]
     simp only [pureK_some, fa_cp, ld_cp, cutE_one, Nat.zero_add, get0, Int.toNat_natCast, get_sub ht hok, bop_eql, condK_B, decide_eq_true_eq, decide_eq_false_iff_not]
     simp only [besG] at hgo
     refine ⟨fun h9 => ?_, fun h9 => ⟨fun h7 => ?_, fun h7 => ?_⟩⟩
     · rw [if_pos h9] at hgo
       refine ret1_of H hle ⟨?_, rfl⟩
       rw [← hgo]
       exact Weaker.tup2 (hwk _ rfl) (Weaker.refl _)
     · rw [if_neg h9, if_pos h7] at hgo
       obtain ⟨hsok, rr, hrr⟩ := subT_drop t o ht hok
       obtain ⟨q, e1⟩ := sll_row (l := t.flat) (p := p) (a := o) (by omega)
       rw [e1, hrr]
       simp only [pureK_some]
       have hlen := congrArg List.length hrr
       simp only [List.length_drop, List.length_append] at hlen
       refine (row_Kids_ok2 _ rr q hsok (by simp; omega)).run ?_
       refine (doom_kid_ok t p ht hl o at' hok hat).run ?_
       have hk2 : (subT t o).kids.length = 2 := by
        have := Tr.arity_root hsok
        rw [h7] at this
        have e : arity 7 = 2 := rfl
        rw [e] at this; omega
       have hkf := kidF_two hk2 ((at' : Int) - (o + 1))
       generalize hkd : kidF (subT t o) ((at' : Int) - (o + 1)) = kd at hkf hgo ⊢
       rw [bop_sub (by omega) (by omega)]
       simp only [pureK_some]
       have hidx : (1 - kd).toNat < (subT t o).kids.length := by omega
       have e2 : ((1 : Int) - kd) = (((1 - kd).toNat : Nat) : Int) := by omega
       rw [e2, ias_rows (by simpa using hidx)]
       simp only [pureK_some, ld_cp, cutE_one, get0, List.getElem_map]
       have e3 : ∀ y : AV, bsl 1 (.lst 0 [] .exact) 1 [(0, rowA (((subT t o).kids[(1 - kd).toNat]'hidx).flat) .no)] = some (.lst 1 [rowA (((subT t o).kids[(1 - kd).toNat]'hidx).flat) .no] .exact) := fun _ => rfl
       rw [e3 .dead]
       simp only [pureK_some]
       refine acc_app hacc hle (ys := [rowA (((subT t o).kids[(1 - kd).toNat]'hidx).flat) .no]) rfl (by simp [maxApp]; omega) fun v' H3 hacc' hle3 hkeep => ?_
       rw [bop_add (by omega) (by omega)]
       simp only [pureK_some]
       refine ⟨rev.length - (k + 1), H3, by omega, Heap.le_refl _, k + 1, v', out ++ [kidAt (subT t o) (1 - kd).toNat], by omega, by simp, rfl, hle3, hov'.keep hkeep, ?_, by simp; omega, hgo⟩
       have : kidAt (subT t o) (1 - kd).toNat = (subT t o).kids[(1 - kd).toNat]'hidx := by simp [kidAt, List.getD_eq_getElem?_getD, hidx]
       rw [this]
       simpa using hacc'
     · rw [if_neg h9, if_neg h7] at hgo
       rw [bop_add (by omega) (by omega)]
       simp only [pureK_some]
       exact ⟨rev.length - (k + 1), H', by omega, Heap.le_refl _, k + 1, v, out, by omega, by simp, rfl, hle, hov', hacc, by omega, hgo⟩
   · have hk' : k = rev.length := by omega
     subst hk'
     rw [List.drop_length] at hgo
     refine ret1_of H hle ⟨?_, rfl⟩
     rw [← hgo]
     exact Weaker.tup2 (hwk _ rfl) (Weaker.refl _)

theorem mem_subT {t : Tr} {i : Nat} (ht : t.ok) (hi : i < t.flat.length) : ∀ n, n ∈ (subT t i).flat → n ∈ t.flat := by
 intro n hn
 obtain ⟨_, r, h⟩ := subT_drop t i ht hi
 exact List.mem_of_mem_drop (i := i) (by rw [h]; exact List.mem_append_left _ hn)
theorem mem_kids {t x : Tr} (hx : x ∈ t.kids) : (∀ n, n ∈ x.flat → n ∈ t.flat) ∧ x.flat.length ≤ t.flat.length := by
 cases t with
 | l0 n => simp [Tr.kids] at hx
 | l1 n a => simp [Tr.kids] at hx; subst hx; exact ⟨fun m hm => by simp [Tr.flat, hm], by simp [Tr.flat]⟩
 | l2 n a b => simp [Tr.kids] at hx; rcases hx with rfl | rfl <;> exact ⟨fun m hm => by simp [Tr.flat, hm], by simp [Tr.flat]; omega⟩

theorem besG_mem {t : Tr} (ht : t.ok) (at' : Nat) : ∀ (r : List Nat) (out : List Tr), (∀ o, o ∈ r → o < t.flat.length) → ∀ x, x ∈ (besG t at' r out).1 → x ∈ out ∨ (x.ok ∧ (∀ n, n ∈ x.flat → n ∈ t.flat) ∧ x.flat.length ≤ t.flat.length) := by
 intro r
 induction r with
 | nil => intro out _ x hx; exact .inl hx
 | cons o r ih =>
   intro out hr x hx
   have ho := hr o (by simp)
   simp only [besG] at hx
   split at hx
   · exact .inl hx
   · split at hx
     · rename_i h7
       rcases ih _ (fun y hy => hr y (by simp [hy])) x hx with h | h
       · rcases List.mem_append.1 h with h | h
         · exact .inl h
         · right
           rw [List.mem_singleton.1 h]
           obtain ⟨hsok, rr, hrr⟩ := subT_drop t o ht ho
           have hk2 : (subT t o).kids.length = 2 := by
            have := Tr.arity_root hsok
            rw [h7] at this
            have e : arity 7 = 2 := rfl
            rw [e] at this; omega
           have hkf := kidF_two hk2 ((at' : Int) - (o + 1))
           have hidx : (1 - kidF (subT t o) ((at' : Int) - (o + 1))).toNat < (subT t o).kids.length := by omega
           have hmem : kidAt (subT t o) (1 - kidF (subT t o) ((at' : Int) - (o + 1))).toNat ∈ (subT t o).kids := by
            have : kidAt (subT t o) (1 - kidF (subT t o) ((at' : Int) - (o + 1))).toNat = (subT t o).kids[(1 - kidF (subT t o) ((at' : Int) - (o + 1))).toNat]'hidx := by simp [kidAt, List.getD_eq_getElem?_getD, hidx]
            rw [this]; exact List.getElem_mem _
           obtain ⟨m1, m2⟩ := mem_kids hmem
           have hlen := congrArg List.length hrr
           simp only [List.length_drop, List.length_append] at hlen
           exact ⟨Tr.kids_ok hsok _ hmem, fun n hn => mem_subT ht ho n (m1 n hn), by omega⟩
       · exact .inr h
     · exact ih _ (fun y hy => hr y (by simp [hy])) x hx

noncomputable def doomR (l : List Node) : Bool := @decide (∃ x : Tr, x.ok ∧ x.flat = l ∧ doomedT x = true) (Classical.propDecidable _)
theorem doomR_flat {x : Tr} (h : x.ok) : doomR x.flat = doomedT x := by
 unfold doomR
 rw [Bool.eq_iff_iff, @decide_eq_true_eq _ (Classical.propDecidable _)]
 exact ⟨fun ⟨y, h1, h2, h3⟩ => by
  have := (flat_inj y x [] [] h1 h (by simpa using h2)).1
  rw [← this]; exact h3, fun hd => ⟨x, h, rfl, hd⟩⟩

noncomputable def freeT (t : Tr) (at' : Nat) : Bool := !(besT t at').2 || ((besT t at').1.map Tr.flat).any doomR
theorem enters_Doomed : enters PP doom_Doomed = true := by kernel_rfl

theorem doom_Free_ok (t : Tr) (ht : t.ok) (hl : t.flat.length ≤ 1000) (hn : names t.flat) (p : Perm) (at' : Nat) (hat : at' < t.flat.length) : Pur doom_Free [rowA t.flat p, I at'] (B (freeT t at')) := by
 intro H
 refine doom_Free_of ?_
 unfold W_doom_Free
 refine (doom_beside_ok t ht hl hn p at' hat).run ?_
 have hlt := anc_lt (t := t) at' hat
 have hmem : ∀ x, x ∈ (besT t at').1 → x.ok ∧ (∀ n, n ∈ x.flat → n ∈ t.flat) ∧ x.flat.length ≤ t.flat.length := by
  intro x hx
  unfold besT at hx
  split at hx
  · rcases besG_mem ht at' _ _ (fun o ho => by have := hlt.1 o (by simpa using ho); omega) x hx with h | h
    · simp at h
    · exact h
  · simp at hx
 have hlen : (besT t at').1.length ≤ 1000 := by
  unfold besT; split
  · have : ∀ (r : List Nat) (out : List Tr), (besG t at' r out).1.length ≤ out.length + r.length := by
     intro r
     induction r with
     | nil => intro out; simp [besG]
     | cons o r ih =>
       intro out
       simp only [besG]
       split
       · simp
       · split
         · have := ih (out ++ [kidAt (subT t o) (1 - kidF (subT t o) ((at' : Int) - (o + 1))).toNat]); simp at this ⊢; omega
         · have := ih out; simp; omega
    have := this (anc t at').reverse []
    have h2 := hlt.2
    simp at this; omega
  · simp
 unfold freeT
 generalize (besT t at').1 = outs at hmem hlen ⊢
 generalize (besT t at').2 = b
 simp only [extractE_tup, get0, get1, pureK_some, unE_not, condK_B]
 refine ⟨fun h => ret1_of H (Heap.le_refl _) ⟨by rw [h]; rfl, rfl⟩, fun h => ?_⟩
 refine (slices_ContainsFunc_Node_2_ok (outs.map Tr.flat) .no doom_Doomed [] doomR H (by simp; omega) enters_Doomed (fun l hl' => ?_)).run ?_
 · obtain ⟨x, hx, rfl⟩ := List.mem_map.1 hl'
   obtain ⟨h1, h2, h3⟩ := hmem x hx
   rw [doomR_flat h1]
   exact (doom_Doomed_ok x h1 (by omega) (fun n hn' => hn n (h2 n hn')) .no).reads
 · exact ret1_of H (Heap.le_refl _) ⟨by rw [h]; simp, rfl⟩

end Go.Av
namespace Go.Av
open Go Go.Proofs

theorem acc_app2 {H HX : Heap} {s : Nat} {es ys : List AV} {v y : AV} {K : AV → Heap → Prop} (h : Acc H HX s es v) (hle : H ≤ HX) (hy : appended s y = some ys) (hl : es.length + ys.length ≤ maxApp)
 (k : ∀ v' HX', Acc H HX' s (es ++ ys) v' → H ≤ HX' → (∀ o x, HX o = some x → (∀ n, x ≠ .tok n) → HX' o = some x) → K v' HX') : appK s v y HX K := by
 left
 unfold appK1
 rcases h with ⟨rfl, rfl⟩ | ⟨t, rfl, ht, hX⟩
 · simp only [hy]
   refine ⟨.inr trivial, hl, .inr (.inl fun t ht => ?_)⟩
   refine k _ _ (.inr ⟨t, rfl, le_none hle ht, by simp [Heap.upd_same]⟩) (Heap.le_upd hle (le_none hle ht)) fun o x ho _ => ?_
   rw [Heap.upd_ne _ _ (fun e => by subst e; rw [ht] at ho; cases ho)]; exact ho
 · simp only [hy]
   refine ⟨.inl trivial, hl, trivial, hX, ?_⟩
   refine k _ _ (.inr ⟨t, rfl, ht, by simp [Heap.upd_same]⟩) (Heap.le_upd hle ht) fun o x ho hx => ?_
   rw [Heap.upd_ne _ _ (fun e => by subst e; rw [hX] at ho; injection ho with ho; exact hx _ ho.symm)]; exact ho

def wayA (w : Int × Bool) : AV := .agg [I w.1, .fn (.func (if w.2 then doom_Free else move_always)) [] []]
abbrev waysA (l : List (Int × Bool)) : AV := .lst 2 (l.map wayA) .exact
def waysOf (k : Int) : List (Int × Bool) := if k = 1 then [(1, false)] else if k = 6 then [(2, false), (3, false)] else if k = 4 ∨ k = 10 then [(4, false), (5, true)] else []
def wayEs : List (Int × AV) := [(1, waysA (waysOf 1)), (6, waysA (waysOf 6)), (4, waysA (waysOf 4)), (10, waysA (waysOf 10))]

theorem move_ways_ok (H : Heap) : ACalls PP gΓ move_ways [] H (fun r H' => ∃ M, r = .mp M ∧ H M = none ∧ H' = H.upd M (.map wayEs)) := by
 refine move_ways_of ?_
 unfold W_move_ways
 have e1 : ∀ (n : Int) (f : FuncId), bld [(0, 1), (1, 1)] [I 0, .sc .nilFunc] [(0, I n), (1, .fn (.func f) [] [])] = some (.agg [I n, .fn (.func f) [] []]) := fun _ _ => rfl
 have e2 : ∀ (a : Int) (f : FuncId), bsl 2 (.agg [I 0, .sc .nilFunc]) 1 [(0, .agg [I a, .fn (.func f) [] []])] = some (.lst 2 [.agg [I a, .fn (.func f) [] []]] .exact) := fun _ _ => rfl
 have e3 : ∀ (a b : Int) (f g : FuncId), bsl 2 (.agg [I 0, .sc .nilFunc]) 2 [(0, .agg [I a, .fn (.func f) [] []]), (1, .agg [I b, .fn (.func g) [] []])] = some (.lst 2 [.agg [I a, .fn (.func f) [] []], .agg [I b, .fn (.func g) [] []]] .exact) := fun _ _ _ _ => rfl
 simp only [e1, pureK_some, e2, e3]
 intro M hM
 have em : ∀ (HX : Heap) (n : Int) (v : AV) (es : List (Int × AV)), mu (.mp M) (I n) v (HX.upd M (.map es)) = some (HX.upd M (.map (mset n v es))) := fun HX n v es => by
  simp [mu, Heap.upd_same]
 simp only [em, heapK_some]
 refine ret1_of _ (Heap.le_refl _) ⟨M, rfl, hM, ?_⟩
 rfl

noncomputable def mayT (t : Tr) (at' : Nat) (w : Int × Bool) : Bool := if w.2 then freeT t at' else true
noncomputable def movesAt (t : Tr) (at' : Nat) : List (Int × Int) := ((waysOf (subT t at').root.kind).filter (mayT t at')).map fun w => ((at' : Int), w.1)
noncomputable def enF (t : Tr) : List (Int × Int) := (actL t).flatMap (movesAt t)

theorem enters_always : enters PP move_always = true := by kernel_rfl
theorem enters_Free : enters PP doom_Free = true := by kernel_rfl

theorem waysOf_len (k : Int) : (waysOf k).length ≤ 2 := by
 unfold waysOf
 by_cases h1 : k = 1
 · simp [h1]
 · by_cases h6 : k = 6
   · simp [h6]
   · by_cases h4 : k = 4 ∨ k = 10
     · simp [h1, h6, h4]
     · simp [h1, h6, h4]
theorem mget_ways (k : Int) : (mget k wayEs).getD (.lst 0 [] .exact) = waysA (waysOf k) ∨ (waysOf k = [] ∧ (mget k wayEs).getD (.lst 0 [] .exact) = .lst 0 [] .exact) := by
 by_cases h1 : k = 1
 · subst h1; left; rfl
 · by_cases h6 : k = 6
   · subst h6; left; rfl
   · by_cases h4 : k = 4
     · subst h4; left; rfl
     · by_cases h10 : k = 10
       · subst h10; left; rfl
       · right
         simp [waysOf, h1, h6, h4, h10, wayEs, mget, Ne.symm h1, Ne.symm h6, Ne.symm h4, Ne.symm h10]

theorem actL_lt {t : Tr} : (∀ i, i ∈ actL t → i < t.flat.length) ∧ (actL t).length ≤ t.flat.length := by
 unfold actL
 split
 · refine ⟨fun i hi => ?_, ?_⟩
   · have := (List.mem_filter.1 hi).1; simpa using this
   · have := List.length_filter_le (fun i => waits (subT t i).root.kind && !idleT t i) (List.range t.flat.length)
     unfold actF; simpa using this
 · simp

theorem movesAt_len (t : Tr) (i : Nat) : (movesAt t i).length ≤ 2 := by
 unfold movesAt
 rw [List.length_map]
 exact Nat.le_trans (List.length_filter_le _ _) (waysOf_len _)
theorem flat_len (t : Tr) : ∀ l : List Nat, (l.flatMap (movesAt t)).length ≤ 2 * l.length := by
 intro l
 induction l with
 | nil => simp
 | cons a l ih => have := movesAt_len t a; simp only [List.flatMap_cons, List.length_append, List.length_cons]; omega

theorem move_Enabled_ok (t : Tr) (ht : t.ok) (hl : t.flat.length ≤ 1000) (hn : names t.flat) (p : Perm) : Pur move_Enabled [rowA t.flat p] (mvsA (enF t) .no) := by
 refine Pur.weaken (φ := fun r => Weaker r (mvsA (enF t) .no)) (fun H => ?_) (fun r h => h)
 refine move_Enabled_of ?_
 unfold W_move_Enabled
 refine (move_ways_ok H).mono ?_
 rintro r H2 ⟨M, rfl, hM, rfl⟩
 have hle : H ≤ H.upd M (.map wayEs) := Heap.le_upd (Heap.le_refl _) hM
 have gM : (H.upd M (.map wayEs)) M = some (.map wayEs) := Heap.upd_same _ _ _
 generalize H.upd M (.map wayEs) = H2 at hle gM ⊢
 refine (doom_Active_ok t ht hl hn p).run ?_
 obtain ⟨hal, hac⟩ := actL_lt (t := t)
 unfold enF
 generalize actL t = act at hal hac ⊢
 simp only [lnl_lst, pureK_some, natE_len]
 refine ⟨fun vs H' n => ∃ (k : Nat) (v : AV), k ≤ act.length ∧ vs = [rowA t.flat p, .mp M, v, natA act .no, I act.length, I k] ∧ n = act.length - k ∧ H ≤ H' ∧ H' M = some (.map wayEs) ∧ Acc H H' 2 (((act.take k).flatMap (movesAt t)).map mv) v,
  ⟨_, H2, Heap.le_refl _, 0, _, Nat.zero_le _, rfl, rfl, hle, gM, .inl ⟨rfl, rfl⟩⟩, ?_⟩
 rintro vs H' n ⟨k, v, hk, rfl, rfl, hle', gM', hacc⟩
 simp only [nth_zero, nth_succ, bop_lss, pureK_some, condK_B, decide_eq_true_eq, decide_eq_false_iff_not]
 refine ⟨fun hlt => ?_, fun hge => ?_⟩
 rotate_left
 · have hk' : k = act.length := by omega
   subst hk'
   rw [List.take_length] at hacc
   exact ret1_of H hle' ⟨hacc.weak, rfl⟩
 have hk' : k < act.length := by omega
 rw [ias_nat hk']
 simp only [pureK_some, ld_cp, cutE_one, get0]
 have hat := hal _ (List.getElem_mem hk')
 have htk : act.take (k + 1) = act.take k ++ [act[k]] := List.take_succ_eq_append_getElem hk'
 have hfl := flat_len t (act.take k)
 have htl : (act.take k).length = k := by simp; omega
 generalize hat' : act[k] = at' at hat htk ⊢
 rw [ias_row (by omega) (by simpa using hat)]
 simp only [pureK_some, fa_cp, ld_cp, cutE_one, Nat.zero_add, get0, Int.toNat_natCast, get_sub ht hat]
 have elk : lk (.lst 0 [] .exact) false (.mp M) (I (subT t at').root.kind) H' = some ((mget (subT t at').root.kind wayEs).getD (.lst 0 [] .exact)) := by simp [lk, gM', okR]
 rw [elk]
 simp only [pureK_some]
 have hwl := waysOf_len (subT t at').root.kind
 have hmv : movesAt t at' = ((waysOf (subT t at').root.kind).filter (mayT t at')).map fun w => ((at' : Int), w.1) := rfl
 have hways := mget_ways (subT t at').root.kind
 generalize waysOf (subT t at').root.kind = ws at hwl hmv hways
 generalize (mget (subT t at').root.kind wayEs).getD (.lst 0 [] .exact) = wl at hways ⊢
 have hln : lnl wl = some (I ws.length) := by
  rcases hways with rfl | ⟨rfl, rfl⟩
  · simp
  · rfl
 rw [hln]
 simp only [pureK_some]
 refine ⟨fun vs H' n => ∃ (j : Nat) (v : AV), j ≤ ws.length ∧ vs = [rowA t.flat p, .mp M, v, I at', natA act .no, I act.length, I k, wl, I ws.length, I j] ∧ n = ws.length - j ∧ H ≤ H' ∧ H' M = some (.map wayEs) ∧
  Acc H H' 2 (((act.take k).flatMap (movesAt t) ++ ((ws.take j).filter (mayT t at')).map fun w => ((at' : Int), w.1)).map mv) v,
  ⟨_, H', Heap.le_refl _, 0, v, Nat.zero_le _, rfl, rfl, hle', gM', by simpa using hacc⟩, ?_⟩
 clear hacc gM' hle' elk
 rintro vs H4 n ⟨j, v2, hj, rfl, rfl, hle4, gM4, hacc⟩
 simp only [nth_zero, nth_succ, bop_lss, pureK_some, condK_B, decide_eq_true_eq, decide_eq_false_iff_not]
 refine ⟨fun hlt2 => ?_, fun hge2 => ?_⟩
 rotate_left
 · have hj' : j = ws.length := by omega
   subst hj'
   rw [List.take_length, ← hmv] at hacc
   rw [bop_add (by omega) (by omega)]
   simp only [pureK_some]
   refine ⟨act.length - (k + 1), H4, by omega, Heap.le_refl _, k + 1, v2, by omega, by simp, rfl, hle4, gM4, ?_⟩
   rw [htk, List.flatMap_append]
   simpa using hacc
 have hj' : j < ws.length := by omega
 have hwl2 : wl = waysA ws := by
  rcases hways with h | ⟨h, _⟩
  · exact h
  · rw [h] at hj'; simp at hj'
 subst hwl2
 have eia : ias 2 (waysA ws) (I j) = some (.cp [I ws[j].1, .fn (.func (if ws[j].2 then doom_Free else move_always)) [] []] 0) := by
  have := ias_lst (s := 2) (es := ws.map wayA) (p := .exact) (i := (j : Int)) (v := wayA ws[j]) (by omega) (by simp [hj'])
  exact this
 rw [eia]
 have hwtk : ws.take (j + 1) = ws.take j ++ [ws[j]] := List.take_succ_eq_append_getElem hj'
 have hfl2 : ((ws.take j).filter (mayT t at')).length ≤ 2 := by
  have := List.length_filter_le (mayT t at') (ws.take j)
  simp at this; omega
 generalize ws[j] = w at hwtk ⊢
 have ecut : cutE [I w.1, .fn (.func (if w.2 then doom_Free else move_always)) [] []] 0 (some true) 2 = some (.agg [I w.1, .fn (.func (if w.2 then doom_Free else move_always)) [] []]) := rfl
 simp only [pureK_some, ld_cp, ecut]
 intro o33 ho33
 have est : st 2 (H4.upd o33 (.cells [.sc (.int .i64 0), .sc .nilFunc])) (.ptr o33 0) (.agg [I w.1, .fn (.func (if w.2 then doom_Free else move_always)) [] []]) = some (H4.upd o33 (.cells [I w.1, .fn (.func (if w.2 then doom_Free else move_always)) [] []])) := by simp [splice]
 rw [est]
 simp only [heapK_some, fa_ptr, pureK_some, Nat.zero_add, ld_upd, cutE_one, get1]
 have gM5 : (H4.upd o33 (.cells [I w.1, .fn (.func (if w.2 then doom_Free else move_always)) [] []])) M = some (.map wayEs) := by
  rw [Heap.upd_ne _ _ (fun e => by subst e; rw [gM4] at ho33; cases ho33)]; exact gM4
 have hle5 : H ≤ H4.upd o33 (.cells [I w.1, .fn (.func (if w.2 then doom_Free else move_always)) [] []]) := Heap.le_upd hle4 (le_none hle4 ho33)
 have hacc5 : Acc H (H4.upd o33 (.cells [I w.1, .fn (.func (if w.2 then doom_Free else move_always)) [] []])) 2 (((act.take k).flatMap (movesAt t) ++ ((ws.take j).filter (mayT t at')).map fun w => ((at' : Int), w.1)).map mv) v2 :=
  hacc.upd (fun m e => by rw [ho33] at e; cases e)
 have g33 : (H4.upd o33 (.cells [I w.1, .fn (.func (if w.2 then doom_Free else move_always)) [] []])) o33 = some (.cells [I w.1, .fn (.func (if w.2 then doom_Free else move_always)) [] []]) := Heap.upd_same _ _ _
 generalize H4.upd o33 (.cells [I w.1, .fn (.func (if w.2 then doom_Free else move_always)) [] []]) = H5 at gM5 hle5 hacc5 g33 ⊢
 have hcall : ∀ {K : AV → Heap → Prop}, K (B (mayT t at' w)) H5 → callK E_move_Enabled (.fn (.func (if w.2 then doom_Free else move_always)) [] []) [rowA t.flat p, I at'] H5 K := by
  intro K hK
  cases hw : w.2 with
  | true =>
    have : mayT t at' w = freeT t at' := by simp [mayT, hw]
    rw [this] at hK
    exact callK_pur (E := E_move_Enabled) rfl rfl enters_Free (doom_Free_ok t ht hl hn p at' hat) hK
  | false =>
    have : mayT t at' w = true := by simp [mayT, hw]
    rw [this] at hK
    exact callK_pur (E := E_move_Enabled) rfl rfl enters_always (move_always_ok _ _) hK
 refine hcall ?_
 simp only [condK_B]
 refine ⟨fun hm => ?_, fun hm => ?_⟩
 · simp only [ld_ptr g33, cutE_one, get0, pureK_some]
   rw [bld_branch]
   simp only [pureK_some]
   rw [bsl_branch]
   simp only [pureK_some]
   refine acc_app2 hacc5 hle5 (ys := [mv ((at' : Int), w.1)]) rfl (by simp only [List.length_map, List.length_append, List.length_singleton, maxApp]; omega) fun v3 H6 hacc6 hle6 hkeep => ?_
   rw [bop_add (by omega) (by omega)]
   simp only [pureK_some]
   refine ⟨ws.length - (j + 1), H6, by omega, Heap.le_refl _, j + 1, v3, by omega, by simp, rfl, hle6, hkeep _ _ gM5 (fun n e => by cases e), ?_⟩
   rw [hwtk, List.filter_append]
   simp only [List.filter_cons, hm, List.filter_nil, if_true]
   simpa [List.map_append, List.append_assoc] using hacc6
 · rw [bop_add (by omega) (by omega)]
   simp only [pureK_some]
   refine ⟨ws.length - (j + 1), H5, by omega, Heap.le_refl _, j + 1, v2, by omega, by simp, rfl, hle5, gM5, ?_⟩
   rw [hwtk, List.filter_append]
   simp only [List.filter_cons, hm, List.filter_nil]
   simpa using hacc5

theorem enF_mem {t : Tr} {m : Int × Int} (h : m ∈ enF t) : ∃ i : Nat, m.1 = i ∧ i < t.flat.length ∧ i ∈ actL t ∧ ∃ w, w ∈ waysOf (subT t i).root.kind ∧ m.2 = w.1 := by
 unfold enF at h
 obtain ⟨i, hi, hm⟩ := List.mem_flatMap.1 h
 unfold movesAt at hm
 obtain ⟨w, hw, rfl⟩ := List.mem_map.1 hm
 exact ⟨i, rfl, actL_lt.1 i hi, hi, w, (List.mem_filter.1 hw).1, rfl⟩
theorem enF_len (t : Tr) : (enF t).length ≤ 2 * t.flat.length := by
 have := flat_len t (actL t)
 have h2 := (actL_lt (t := t)).2
 unfold enF; omega

theorem move_Is_ok (t : Tr) (ht : t.ok) (hl : t.flat.length ≤ 1000) (hn : names t.flat) (p : Perm) (m : Int × Int) : Pur move_Is [rowA t.flat p, mv m] (B (decide (m ∈ enF t))) := by
 intro H
 refine move_Is_of ?_
 unfold W_move_Is
 simp only [cells_mv, allocK_some]
 refine ⟨rfl, fun o ho => ?_⟩
 have hle : H ≤ H.upd o (.cells [I m.1, I m.2]) := by simp [ho]
 refine ⟨_, (move_Enabled_ok t ht hl hn p).reads, ?_⟩
 simp only [ld_upd, cut_mv, pureK_some]
 have := enF_len t
 refine (slices_Contains_Move_ok _ .no m (by omega)).run ?_
 exact ret1_of H hle ⟨rfl, rfl⟩

theorem bop_rem {bk : BK} {a b : Int} (hb : b ≠ 0) : bop bk .rem (I a) (I b) = some (I (a.tmod b)) := by
 simp [bop, intE, hb]

end Go.Av
