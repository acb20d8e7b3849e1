/- Own text CE of this claim: see the text that holds the theorem. -/
import Derived.Test.YtninikfblhoieaaGreatDoorCD
import Derived.WalkKit
import Derived.ProofKit
import Derived.OpenShut
import Derived.Carry
import Derived.Deep.Slices
import Derived.Deep.DeepHandedRow
import Derived.Deep.DeepWitnessRowRef
import Derived.Lib.LaidTab
set_option linter.all false
set_option maxRecDepth 100000
namespace Go.Av
open Go Go.Proofs Go.ChangeShapes Go.WideShapes Go.RowKit Go.Deep

def startG (W : World) : Ghost := { role := fun _ => .imm, loc := fun _ => 0, used := fun _ => false, tl := fun _ => 0, bsize := fun _ => 0, base := W.heap.size, w0 := W }

theorem start_rel {Γ : Nat → Option AV} {W : World} (hg : ∀ g a, Γ g = some a → Rep (startG W) W (.pointer (some ⟨g, 0, none⟩)) a) : WRel Γ (startG W) (fun _ => none) W :=
 ⟨Nat.le_refl _, Below.refl _ _, fun _ _ => rfl, fun o x h => (by cases h), fun o o' x x' h => (by cases h), fun b t n h => (by cases h), ⟨0, fun _ _ => rfl⟩, hg⟩

theorem call_start {P : Program} {Γ : Nat → Option AV} {f : FuncId} {args : List AV} {r : AV} {W : World} {vs : List Value} (hc : ACalls P Γ f args (fun _ => none) (fun r' H' => r' = r ∧ H' = fun _ => none))
 (hg : ∀ g a, Γ g = some a → Rep (startG W) W (.pointer (some ⟨g, 0, none⟩)) a) (hl : vs.length = args.length) (hr : ∀ i, i < args.length → Rep (startG W) W (vs.getD i undef) (args.getD i .dead)) :
 Calls P f vs.toArray W fun e W' => ∃ v G', e = .returned v ∧ Below W.heap.size W W' ∧ Rep G' W' v r := by
 refine (hc (startG W) W vs (start_rel hg) hl hr).mono ?_
 rintro e W' ⟨v, G', r', H', he, x, hW', hv, rfl, rfl⟩
 refine ⟨v, G', he, ?_, hv⟩
 have := hW'.frame
 rw [x.base, x.w0] at this
 exact this

theorem take1_drop' {α : Type} (l : List α) (i : Nat) (h : i < l.length) : (l.drop i).take 1 = [l[i]] := by
 rw [List.drop_eq_getElem_cons h]; rfl

theorem list_of {α : Type} : ∀ {n : Nat} {p : Nat → α → Prop}, (∀ i, i < n → ∃ x, p i x) → ∃ l : List α, l.length = n ∧ ∀ i (h : i < l.length), p i l[i] := by
 intro n
 induction n with
 | zero => intro p _; exact ⟨[], rfl, fun i h => by simp at h⟩
 | succ n ih =>
   intro p h
   obtain ⟨l, h1, h2⟩ := ih (p := p) (fun i hi => h i (by omega))
   obtain ⟨x, hx⟩ := h n (by omega)
   refine ⟨l ++ [x], by simp [h1], fun i hi => ?_⟩
   by_cases e : i < l.length
   · rw [List.getElem_append_left e]; exact h2 i e
   · have : i = n := by simp at hi; omega
     subst this
     rw [List.getElem_append_right (by omega)]
     simpa [h1] using hx

theorem spot_of_ok {P : Program} {W : World} {r : Reach} {base : Nat} {t e : TypeId} {a : Addr} {len cap : Nat} (ht : P.underlying t = some (.slice e)) (h : Cell.okWide P W r base t (.slice (some a) len cap)) : a.spot = none := by
 unfold Cell.okWide at h
 rw [ht] at h
 simp only [Cell.ok, ht] at h
 exact h.2.2.2.1

theorem flatMap_get {α : Type} {toAV : α → AV} {s : Nat} (hs : 0 < s) : ∀ (l : List α), (∀ e, e ∈ l → (toAV e).cells.length = s) → ∀ k, k < l.length * s → ∃ h : k / s < l.length, ((l.map toAV).flatMap AV.cells).getD k .dead = (toAV (l[k / s])).cells.getD (k % s) .dead := by
 intro l
 induction l with
 | nil => intro _ k h; simp at h
 | cons x l ih =>
   intro hl k hk
   have hx : (toAV x).cells.length = s := hl x (by simp)
   simp only [List.map_cons, List.flatMap_cons]
   by_cases e : k < s
   · have h0 : k / s = 0 := Nat.div_eq_of_lt e
     have h1 : k % s = k := Nat.mod_eq_of_lt e
     refine ⟨by rw [h0]; simp, ?_⟩
     have : (x :: l)[k / s]'(by rw [h0]; simp) = x := by simp [h0]
     rw [this, h1]
     simp only [List.getD_eq_getElem?_getD]
     rw [List.getElem?_append_left (by omega)]
   · have hk' : k - s < l.length * s := by
      simp only [List.length_cons, Nat.add_mul, Nat.one_mul] at hk; omega
     obtain ⟨h2, h3⟩ := ih (fun e he => hl e (by simp [he])) (k - s) hk'
     have hd : k / s = (k - s) / s + 1 := by
      have := Nat.add_div_right (k - s) hs
      rw [Nat.sub_add_cancel (by omega)] at this; exact this
     have hm : k % s = (k - s) % s := by
      have := Nat.add_mod_right (k - s) s
      rw [Nat.sub_add_cancel (by omega)] at this; exact this
     refine ⟨by rw [hd]; simpa using h2, ?_⟩
     have : (x :: l)[k / s]'(by rw [hd]; simpa using h2) = l[(k - s) / s] := by simp [hd]
     rw [this, hm, ← h3]
     simp only [List.getD_eq_getElem?_getD]
     rw [List.getElem?_append_right (by omega), hx]

section
variable {H : Type} {enc : TypeId × Value → H} {P : Program} {W : World} {spare : Nat → Bool} {held : Bool}

theorem read_slice {α : Type} (toAV : α → AV) {s : Nat} (hs : 0 < s) {t e : TypeId} (ht : P.underlying t = some (.slice e)) (hc : P.cellsOf e = s) {Q : α → DataW H → Prop}
 (elem : ∀ n cs' y, cs'.length = s → DataW.trod enc P W 0 spare held n e cs' = some y → ∃ el, (toAV el).cells.length = s ∧ (∀ j, j < s → ((toAV el).cells.getD j .dead).single = true ∧ Rep (startG W) W (cs'.getD j undef) ((toAV el).cells.getD j .dead)) ∧ Q el y.1)
 {fuel : Nat} {v : Value} {x : DataW H × List MemPlace} {r : Reach} {base : Nat} (hok : Cell.okWide P W r base t v) (h : DataW.trod enc P W 0 spare held fuel t [v] = some x) :
 ∃ l : List α, Rep (startG W) W v (.lst s (l.map toAV) .no) ∧ ((x.1 = .nil ∧ l = []) ∨ ∃ elems sp, x.1 = .slice elems sp ∧ elems.length = l.length ∧ ∀ i (h1 : i < l.length) (h2 : i < elems.length), Q l[i] elems[i]) := by
 rcases open_slice ht h with ⟨h0, rfl⟩ | ⟨a, len, cap, m, n, D, Pl, h0, hb, hl, hm, hmm, rfl, hx⟩
 · injection h0 with h0
   subst h0
   exact ⟨[], .nil s .no (fun t h => by cases h), .inl ⟨rfl, rfl⟩⟩
 · injection h0 with h0
   subst h0
   have hsp := spot_of_ok ht hok
   obtain ⟨b, off, spot⟩ := a
   simp only at hsp
   subst hsp
   have hlm : len ≤ m := by rw [hmm]; split <;> omega
   have key : ∀ i, i < len → ∃ el : α, (toAV el).cells.length = s ∧ Q el (D i) ∧ ∀ j, j < s → ((toAV el).cells.getD j .dead).single = true ∧ ∃ u, W.cell? ⟨b, off + (i * s + j), none⟩ = some u ∧ Rep (startG W) W u ((toAV el).cells.getD j .dead) := by
    intro i hi
    obtain ⟨cs', h1, h2⟩ := hx i (by omega)
    rw [hc] at h1
    obtain ⟨_, hlen, hcell⟩ := World.cells?_some h1
    obtain ⟨el, e1, e2, e3⟩ := elem n cs' _ hlen h2
    refine ⟨el, e1, e3, fun j hj => ⟨(e2 j hj).1, cs'.getD j undef, ?_, (e2 j hj).2⟩⟩
    have := hcell j hj
    rw [add_add, add_plain, List.getElem?_eq_getElem (by omega)] at this
    rw [this]
    simp [List.getD, List.getElem?_eq_getElem (show j < cs'.length by omega)]
   obtain ⟨l, hll, hl2⟩ := list_of key
   have hall : ∀ el, el ∈ l → (toAV el).cells.length = s := fun el hel => by
    obtain ⟨i, hi, rfl⟩ := List.getElem_of_mem hel
    exact (hl2 i hi).1
   have cells : ∀ k, k < l.length * s → ∃ u, W.cell? ⟨b, off + k, none⟩ = some u ∧ Rep (startG W) W u (((l.map toAV).flatMap AV.cells).getD k .dead) ∧ (((l.map toAV).flatMap AV.cells).getD k .dead).single = true := by
    intro k hk
    obtain ⟨h1, h2⟩ := flatMap_get hs l hall k hk
    obtain ⟨h3, u, h4, h5⟩ := (hl2 (k / s) h1).2.2 (k % s) (Nat.mod_lt _ hs)
    rw [h2]
    rw [Nat.mul_comm, Nat.div_add_mod] at h4
    exact ⟨u, h4, h5, h3⟩
   refine ⟨l, ?_, .inr ⟨_, _, rfl, by simp [hll], fun i h1 h2 => ?_⟩⟩
   · have := Rep.lst (G := startG W) (w := W) b off cap s (l.map toAV) .no (fun k => (W.cell? ⟨b, off + k, none⟩).getD undef) (by simp [hll]; omega)
      (fun e he => by obtain ⟨el, h1, rfl⟩ := List.mem_map.1 he; exact hall el h1)
      (fun k hk => by rw [List.length_map] at hk; obtain ⟨u, _, _, h3⟩ := cells k hk; exact h3)
      (fun k hk => by rw [List.length_map] at hk; obtain ⟨u, h1, _⟩ := cells k hk; rw [h1]; rfl)
      (fun k hk => by rw [List.length_map] at hk; obtain ⟨u, h1, h2, _⟩ := cells k hk; rw [h1]; exact h2)
      (.inr trivial) trivial
     rw [List.length_map, hll] at this
     exact this
   · have := (hl2 i h1).2.1
     simpa using this

theorem trod_f3 {t : TypeId} {fs : Array Field} {f0 f1 f2 : Field} {fuel : Nat} {cs : List Value} {x : DataW H × List MemPlace} (ht : P.underlying t = some (.struct fs)) (h0 : fs[0]? = some f0) (h1 : fs[1]? = some f1) (h2 : fs[2]? = some f2) (hs : fs.size = 3)
 (o0 : f0.offset = 0) (o1 : f1.offset = 1) (o2 : f2.offset = 2) (c0 : P.cellsOf f0.type = 1) (c1 : P.cellsOf f1.type = 1) (c2 : P.cellsOf f2.type = 1) (hl : cs.length = 3)
 (h : DataW.trod enc P W 0 spare held fuel t cs = some x) : ∃ n y0 y1 y2, x.1 = .agg [y0.1, y1.1, y2.1] ∧ DataW.trod enc P W 0 spare held n f0.type [cs.getD 0 undef] = some y0 ∧ DataW.trod enc P W 0 spare held n f1.type [cs.getD 1 undef] = some y1 ∧ DataW.trod enc P W 0 spare held n f2.type [cs.getD 2 undef] = some y2 := by
 obtain ⟨xs, n, _, rfl, _, hx, hf⟩ := DataW.trod_struct ht h
 match cs, hl with
 | [a, b, c], _ =>
   match xs, hx.trans hs with
   | [y0, y1, y2], _ =>
     have g0 := hf 0 f0 h0
     have g1 := hf 1 f1 h1
     have g2 := hf 2 f2 h2
     rw [o0, c0] at g0
     rw [o1, c1] at g1
     rw [o2, c2] at g2
     exact ⟨n, y0, y1, y2, rfl, g0, g1, g2⟩

theorem elem_node {e : TypeId} {fs : Array Field} {f0 f1 f2 : Field} (he : P.underlying e = some (.struct fs)) (h0 : fs[0]? = some f0) (h1 : fs[1]? = some f1) (h2 : fs[2]? = some f2) (hs : fs.size = 3)
 (o0 : f0.offset = 0) (o1 : f1.offset = 1) (o2 : f2.offset = 2) (c0 : P.cellsOf f0.type = 1) (c1 : P.cellsOf f1.type = 1) (c2 : P.cellsOf f2.type = 1)
 (t0 : P.underlying f0.type = some (.int .i64)) (t1 : P.underlying f1.type = some .string) (t2 : P.underlying f2.type = some (.int .i64)) :
 ∀ n cs' y, cs'.length = 3 → DataW.trod enc P W 0 spare held n e cs' = some y → ∃ el : Node, (nd el).cells.length = 3 ∧ (∀ j, j < 3 → ((nd el).cells.getD j .dead).single = true ∧ Rep (startG W) W (cs'.getD j undef) ((nd el).cells.getD j .dead)) ∧ ∃ a b c, y.1 = .agg [.lit (.int .i64 a), .lit (.string b), .lit (.int .i64 c)] ∧ b = el.name.data.toList := by
 intro n cs' y hl h
 obtain ⟨m, y0, y1, y2, hy, g0, g1, g2⟩ := trod_f3 he h0 h1 h2 hs o0 o1 o2 c0 c1 c2 hl h
 obtain ⟨k0, e0, rfl, _⟩ := DataW.trod_int t0 g0
 obtain ⟨s1, e1, rfl, _⟩ := DataW.trod_string t1 g1
 obtain ⟨k2, e2, rfl, _⟩ := DataW.trod_int t2 g2
 injection e0 with e0
 injection e1 with e1
 injection e2 with e2
 refine ⟨⟨k0, s1, k2⟩, rfl, fun j hj => ?_, _, _, _, hy, rfl⟩
 match j, hj with
 | 0, _ => exact ⟨rfl, by rw [e0]; exact .sc _ rfl⟩
 | 1, _ => exact ⟨rfl, by rw [e1]; exact .sc _ rfl⟩
 | 2, _ => exact ⟨rfl, by rw [e2]; exact .sc _ rfl⟩

theorem trod_f2 {t : TypeId} {fs : Array Field} {f0 f1 : Field} {fuel : Nat} {cs : List Value} {x : DataW H × List MemPlace} (ht : P.underlying t = some (.struct fs)) (h0 : fs[0]? = some f0) (h1 : fs[1]? = some f1) (hs : fs.size = 2)
 (o0 : f0.offset = 0) (o1 : f1.offset = 1) (c0 : P.cellsOf f0.type = 1) (c1 : P.cellsOf f1.type = 1) (hl : cs.length = 2)
 (h : DataW.trod enc P W 0 spare held fuel t cs = some x) : ∃ n y0 y1, x.1 = .agg [y0.1, y1.1] ∧ DataW.trod enc P W 0 spare held n f0.type [cs.getD 0 undef] = some y0 ∧ DataW.trod enc P W 0 spare held n f1.type [cs.getD 1 undef] = some y1 := by
 obtain ⟨xs, n, _, rfl, _, hx, hf⟩ := DataW.trod_struct ht h
 match cs, hl with
 | [a, b], _ =>
   match xs, hx.trans hs with
   | [y0, y1], _ =>
     have g0 := hf 0 f0 h0
     have g1 := hf 1 f1 h1
     rw [o0, c0] at g0
     rw [o1, c1] at g1
     exact ⟨n, y0, y1, rfl, g0, g1⟩

theorem strs_of_trod {fuel n : Nat} {t e : TypeId} {cs : List Value} {ss : List (List UInt8)} {p : List MemPlace} {base : Nat} (ht : P.underlying t = some (.array n e)) (he : P.underlying e = some .string) (hce : P.cellsOf e = 1) (hct : P.cellsOf t = n)
 (h : DataW.trod enc P W base spare held fuel t cs = some (.agg (ss.map fun s => .lit (.string s)), p)) : ∀ i (hi : i < ss.length), cs[i]? = some (.string ⟨(ss[i]).toArray⟩) := by
 cases fuel with
 | zero => simp [DataW.trod] at h
 | succ fuel =>
   simp only [DataW.trod, ht, hce, hct, Nat.mul_one] at h
   split at h
   · rename_i hl
     obtain ⟨xs, hm, hx⟩ := Option.map_eq_some_iff.1 h
     have hxs : xs.map (·.1) = ss.map fun s => (DataW.lit (.string s) : DataW H) := by
      have := congrArg Prod.fst hx
      simpa using this
     have hxl : xs.length = n := by simpa using Lib.mapM_length hm
     intro i hi
     have hsl : ss.length = n := by
      have := congrArg List.length hxs
      simp at this
      omega
     have hri : (List.range n)[i]? = some i := by rw [List.getElem?_range]; omega
     obtain ⟨y, hy1, hy2⟩ := Lib.mapM_at hm i i hri
     have hyd : y.1 = .lit (.string ss[i]) := by
      have := congrArg (fun l => l[i]?) hxs
      simp only [List.getElem?_map, hy1, Option.map_some, List.getElem?_eq_getElem hi, Option.some.injEq] at this
      exact this
     obtain ⟨s, e1, e2, _⟩ := DataW.trod_string he hy2
     rw [e2] at hyd
     injection hyd with hyd
     injection hyd with hyd
     have hci : i < cs.length := by omega
     rw [take1_drop' cs i hci] at e1
     rw [List.getElem?_eq_getElem hci]
     injection e1 with e1
     rw [e1, ← hyd]
   · cases h

end
end Go.Av
namespace Go.Av
open Go Go.Proofs Go.ChangeShapes Go.WideShapes Go.RowKit Go.Deep

section
variable {H : Type} {enc : TypeId × Value → H} {P : Program} {W W' : World}

theorem stays_all (hl : laidOutB P = true) (hb : Below W.heap.size W W') {sp' : Nat → Bool} : ∀ {ts : List TypeId} {vs : List Value} {ds : List (DataW H)} {ps : List MemPlace}, (∀ t, t ∈ ts → P.readableRec t = true ∧ t < P.types.size) →
 DataW.TrodAll enc P W 0 (fun _ => true) true ts vs ds ps → (∀ x ∈ ps, x.block < W.heap.size) → (∀ x ∈ ps, sp' x.block = true) → DataW.TrodAll enc P W' 0 sp' true ts vs ds ps := by
 intro ts
 induction ts with
 | nil =>
   intro vs ds ps _ h _ _
   obtain ⟨rfl, rfl, rfl⟩ := trodAll_nil h
   exact h
 | cons t ts ih =>
   intro vs ds ps hr h hlt hsp
   obtain ⟨v, vs1, d, ds1, a, b, rfl, rfl, rfl, h1, h2⟩ := trodAll_cons h
   refine ⟨a, b, ?_, ih (fun t ht => hr t (by simp [ht])) h2 (fun x hx => hlt x (by simp [hx])) (fun x hx => hsp x (by simp [hx])), rfl⟩
   exact WideElems.Trod_stays hl (hr t (by simp)).1 (hr t (by simp)).2 h1 (fun x hx => hb.same (hlt x (by simp [hx]))) (fun x hx => hsp x (by simp [hx]))

theorem post_true {f : Func} {s : ChangeSpec} {args : Array Value} {ds gs : List (DataW H)} {before : List MemPlace} {tb : TypeId} (hl : laidOutB P = true) (htb : P.underlying tb = some .bool) (hrt : f.resultTypes = #[tb]) (hty : ∀ t, t ∈ f.params.toList → P.readableRec t = true ∧ t < P.types.size)
 (hW : DataW.Whole enc P f.params.toList s.vars false W args.toList ds gs before) (hA : DataW.TrodAll enc P W 0 (fun _ => true) true f.params.toList args.toList ds before)
 (hres : (s.fn H (ds ++ gs)).results = [.lit (.bool true)]) (hargs : (s.fn H (ds ++ gs)).args = ds) (hvars : (s.fn H (ds ++ gs)).vars = []) (hsv : s.vars = []) (hB : Below W.heap.size W W') : s.post enc P f false true false false W args (.bool true) W' := by
 have hlt : ∀ x ∈ before, x.block < W.heap.size := hW.lt
 have hold : ∀ p ∈ before, (fun b => decide (b < W.heap.size)) p.block = true := fun p hp => by simpa using hW.lt p hp
 have hA' : ∀ sp : Nat → Bool, (∀ p ∈ before, sp p.block = true) → DataW.TrodAll enc P W' 0 sp true f.params.toList args.toList (s.fn H (ds ++ gs)).args before := fun sp hsp => by
  rw [hargs]; exact stays_all hl hB hty hA hlt hsp
 have hV' : ∀ sp : Nat → Bool, DataW.TrodVars enc P W' sp s.vars (s.fn H (ds ++ gs)).vars [] := fun sp => by rw [hsv, hvars]; rfl
 have hR' : ∀ (b : Nat) (sp : Nat → Bool) (hd : Bool), DataW.TrodAll enc P W' b sp hd f.resultTypes.toList ((Value.bool true).resultList f.resultTypes.size) (s.fn H (ds ++ gs)).results [] := fun b sp hd => by
  rw [hres, hrt]
  exact ⟨[], [], ⟨1, by simp [DataW.trod, htb, Value.cells]⟩, rfl, rfl⟩
 refine ⟨ds, gs, before, [], before, [], hW, hR' _ _ _, hA' _ hold, hV' _, World.keptBut_mono (fun p hp => ⟨hp, ?_⟩) (hB.frame (· ∈ before)), fun _ => ?_⟩
 · exact .inr (by simpa using hp)
 · obtain ⟨_, _, _, _, _, hz, hn⟩ := hW
   refine ⟨?_, _, _, ([] ++ before) ++ [], ⟨[] ++ before, [], trodAll_append (hA' _ (fun _ _ => rfl)) (hR' _ _ _), hV' _, rfl, ?_, ?_⟩, ?_⟩
   · intro j t r hj hr
     rw [hrt] at hj hr
     match j, hj, hr with
     | 0, hj, hr =>
       simp [Value.resultList] at hj hr
       subst hj; subst hr
       simp [Value.okWide, htb, Cell.okWide, Cell.ok]
   · intro b off hp
     have hp' : MemPlace.cell b off ∈ before := by simpa using hp
     rw [hB.frozen (hlt _ hp')]
     exact hz b off hp'
   · intro ha; cases ha
   · intro p hp _
     simpa using hp

def NodesD {H : Type} (l : List Node) (d : DataW H) : Prop := (d = .nil ∧ l = []) ∨ ∃ elems sp, d = .slice elems sp ∧ elems.length = l.length ∧ ∀ i (h1 : i < l.length) (h2 : i < elems.length), ∃ a b c, elems[i] = .agg [.lit (.int .i64 a), .lit (.string b), .lit (.int .i64 c)] ∧ b = l[i].name.data.toList
theorem cells_slice {t e : TypeId} {v : Value} {r : Reach} {base : Nat} (ht : P.underlying t = some (.slice e)) (h : Value.okWide P W r base t v) : Cell.okWide P W r base t v ∧ v.cells.toList = [v] := by
 unfold Value.okWide at h
 rw [ht] at h
 simp only at h
 refine ⟨h, ?_⟩
 unfold Cell.okWide at h
 rw [ht] at h
 cases v <;> first | rfl | (simp [Cell.ok, ht] at h)
def setCells (cs : List Value) : Obj → Obj
 | .cells _ t frozen => .cells cs.toArray t frozen
 | o => o

end
end Go.Av
namespace Go.Av
open Go Go.Proofs Go.ChangeShapes Go.WideShapes Go.RowKit Go.Deep
section
variable {H : Type} {enc : TypeId × Value → H} {P : Program} {W : World} {spare : Nat → Bool} {held : Bool}

theorem elem_i64 {e : TypeId} (he : P.underlying e = some (.int .i64)) : ∀ n cs' y, cs'.length = 1 → DataW.trod enc P W 0 spare held n e cs' = some y →
 ∃ el : Int, (I el).cells.length = 1 ∧ (∀ j, j < 1 → ((I el).cells.getD j .dead).single = true ∧ Rep (startG W) W (cs'.getD j undef) ((I el).cells.getD j .dead)) ∧ y.1 = .lit (.int .i64 el) := by
 intro n cs' y hl h
 obtain ⟨k, rfl, rfl, _⟩ := DataW.trod_int he h
 refine ⟨k, rfl, fun j hj => ?_, rfl⟩
 match j, hj with
 | 0, _ => exact ⟨rfl, .sc _ rfl⟩

structure ScTypes (P : Program) (t : TypeId) where
 fs : Array Field
 f0 : Field
 f1 : Field
 f2 : Field
 und : P.underlying t = some (.struct fs)
 h0 : fs[0]? = some f0
 h1 : fs[1]? = some f1
 h2 : fs[2]? = some f2
 hs : fs.size = 3
 o0 : f0.offset = 0
 o1 : f1.offset = 1
 o2 : f2.offset = 2
 c0 : P.cellsOf f0.type = 1
 c1 : P.cellsOf f1.type = 1
 c2 : P.cellsOf f2.type = 1
 ct : P.cellsOf t = 3
 eI : TypeId
 tP : P.underlying f0.type = some (.slice eI)
 tR : P.underlying f1.type = some (.slice eI)
 cI : P.cellsOf eI = 1
 tI : P.underlying eI = some (.int .i64)
 tB : P.underlying f2.type = some (.int .i64)
 cell : P.cellTypes P.depth t = some [f0.type, f1.type, f2.type]

def IntsD {H : Type} (l : List Int) (d : DataW H) : Prop := (d = .nil ∧ l = []) ∨ ∃ elems sp, d = .slice elems sp ∧ elems.length = l.length ∧ ∀ i (h1 : i < l.length) (h2 : i < elems.length), elems[i] = .lit (.int .i64 l[i])

theorem read_script {t : TypeId} (T : ScTypes P t) {v : Value} {d : DataW H} {ps : List MemPlace} {r : Reach} {base : Nat} (hok : Value.okWide P W r base t v) (h : DataW.Trod enc P W 0 spare held t v d ps) :
 ∃ (pk rf : List Int) (nb : Int), Rep (startG W) W v (.agg [.lst 1 (pk.map fun n => I n) .no, .lst 1 (rf.map fun n => I n) .no, I nb]) ∧ ∃ d0 d1 d2, d = .agg [d0, d1, d2] ∧ IntsD pk d0 ∧ IntsD rf d1 := by
 unfold Value.okWide at hok
 rw [T.und] at hok
 obtain ⟨cs, rfl, hsz, ts, hts, _, hcell⟩ := hok
 rw [T.cell] at hts
 injection hts with hts
 subst hts
 rw [T.ct] at hsz
 obtain ⟨fuel, h⟩ := h
 have hl : cs.toList.length = 3 := by simpa using hsz
 obtain ⟨n, y0, y1, y2, hd, e0, e1, e2⟩ := trod_f3 T.und T.h0 T.h1 T.h2 T.hs T.o0 T.o1 T.o2 T.c0 T.c1 T.c2 hl h
 have get : ∀ i, i < 3 → cs[i]? = some (cs.toList.getD i undef) := fun i hi => by
  rw [Array.getElem?_eq_getElem (by omega)]
  simp [List.getD, show i < cs.size by omega]
 obtain ⟨u0, a0, b0⟩ := hcell 0 _ (get 0 (by omega))
 obtain ⟨u1, a1, b1⟩ := hcell 1 _ (get 1 (by omega))
 simp at a0 a1
 subst a0 a1
 obtain ⟨l, rl, ql⟩ := read_slice (W := W) (toAV := fun z : Int => I z) (s := 1) (Q := fun el d => d = .lit (.int .i64 el)) (by omega) T.tP T.cI (elem_i64 T.tI) b0 e0
 obtain ⟨m, rm, qm⟩ := read_slice (W := W) (toAV := fun z : Int => I z) (s := 1) (Q := fun el d => d = .lit (.int .i64 el)) (by omega) T.tR T.cI (elem_i64 T.tI) b1 e1
 obtain ⟨k2, w2, _, _⟩ := DataW.trod_int T.tB e2
 injection w2 with w2
 refine ⟨l, m, k2, ?_, y0.1, y1.1, y2.1, hd, ql, qm⟩
 have ecs : cs = cs.toList.toArray := by simp
 rw [ecs]
 refine Rep.agg cs.toList _ hl (fun i hi => ?_) (fun i hi => ?_)
 · match i, hi with
   | 0, _ => rfl
   | 1, _ => rfl
   | 2, _ => rfl
 · match i, hi with
   | 0, _ => exact rl
   | 1, _ => exact rm
   | 2, _ =>
     show Rep _ _ _ (I k2)
     have : cs.toList.getD 2 undef = .int .i64 k2 := w2
     rw [this]; exact .sc _ rfl

theorem elem_pair {e : TypeId} {fs : Array Field} {f0 f1 : Field} (he : P.underlying e = some (.struct fs)) (h0 : fs[0]? = some f0) (h1 : fs[1]? = some f1) (hs : fs.size = 2)
 (o0 : f0.offset = 0) (o1 : f1.offset = 1) (c0 : P.cellsOf f0.type = 1) (c1 : P.cellsOf f1.type = 1)
 (t0 : P.underlying f0.type = some (.int .i64)) (t1 : P.underlying f1.type = some (.int .i64)) :
 ∀ n cs' y, cs'.length = 2 → DataW.trod enc P W 0 spare held n e cs' = some y → ∃ el : Int × Int, (AV.agg [I el.1, I el.2]).cells.length = 2 ∧ (∀ j, j < 2 → ((AV.agg [I el.1, I el.2]).cells.getD j .dead).single = true ∧ Rep (startG W) W (cs'.getD j undef) ((AV.agg [I el.1, I el.2]).cells.getD j .dead)) ∧
   ∃ a b, y.1 = .agg [.lit (.int .i64 a), .lit (.int .i64 b)] := by
 intro n cs' y hl h
 obtain ⟨m, y0, y1, hy, g0, g1⟩ := trod_f2 he h0 h1 hs o0 o1 c0 c1 hl h
 obtain ⟨k0, e0, rfl, _⟩ := DataW.trod_int t0 g0
 obtain ⟨k1, e1, rfl, _⟩ := DataW.trod_int t1 g1
 injection e0 with e0
 injection e1 with e1
 refine ⟨(k0, k1), rfl, fun j hj => ?_, _, _, hy⟩
 match j, hj with
 | 0, _ => exact ⟨rfl, by rw [e0]; exact .sc _ rfl⟩
 | 1, _ => exact ⟨rfl, by rw [e1]; exact .sc _ rfl⟩
end
end Go.Av
