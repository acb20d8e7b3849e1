/- Own text C30 of this claim: see the text that holds the theorem. -/
import Derived.Test.YtddolbhaekekaaaGreatDoorC29
set_option linter.all false
set_option maxRecDepth 100000
namespace Go.Av
open Go Go.Proofs Go.ChangeShapes Go.WideShapes Go.RowKit Go.Deep

section
variable {H : Type} {enc : TypeId × Value → H} {P : Program} {W W' : World}

/-- The arguments read behind the call as they did. -/
theorem stays_all (hl : laidOutB P = true) (hb : Below W.heap.size W W') {sp' : Nat → Bool} : ∀ {ts : List TypeId} {vs : List Value} {ds : List (DataW H)} {ps : List MemPlace}, (∀ t, t ∈ ts → P.readableRec t = true ∧ t < P.types.size) →
    DataW.TrodAll enc P W 0 (fun _ => true) true ts vs ds ps → (∀ x ∈ ps, x.block < W.heap.size) → (∀ x ∈ ps, sp' x.block = true) → DataW.TrodAll enc P W' 0 sp' true ts vs ds ps := by
  intro ts
  induction ts with
  | nil =>
    intro vs ds ps _ h _ _
    obtain ⟨rfl, rfl, rfl⟩ := trodAll_nil h
    exact h
  | cons t ts ih =>
    intro vs ds ps hr h hlt hsp
    obtain ⟨v, vs1, d, ds1, a, b, rfl, rfl, rfl, h1, h2⟩ := trodAll_cons h
    refine ⟨a, b, ?_, ih (fun t ht => hr t (by simp [ht])) h2 (fun x hx => hlt x (by simp [hx])) (fun x hx => hsp x (by simp [hx])), rfl⟩
    exact WideElems.Trod_stays hl (hr t (by simp)).1 (hr t (by simp)).2 h1 (fun x hx => hb.same (hlt x (by simp [hx]))) (fun x hx => hsp x (by simp [hx]))

theorem post_true {f : Func} {s : ChangeSpec} {args : Array Value} {ds gs : List (DataW H)} {before : List MemPlace} {tb : TypeId} (hl : laidOutB P = true) (htb : P.underlying tb = some .bool) (hrt : f.resultTypes = #[tb]) (hty : ∀ t, t ∈ f.params.toList → P.readableRec t = true ∧ t < P.types.size)
    (hW : DataW.Whole enc P f.params.toList s.vars false W args.toList ds gs before) (hA : DataW.TrodAll enc P W 0 (fun _ => true) true f.params.toList args.toList ds before)
    (hres : (s.fn H (ds ++ gs)).results = [.lit (.bool true)]) (hargs : (s.fn H (ds ++ gs)).args = ds) (hvars : (s.fn H (ds ++ gs)).vars = []) (hsv : s.vars = []) (hB : Below W.heap.size W W') : s.post enc P f false true false false W args (.bool true) W' := by
  have hlt : ∀ x ∈ before, x.block < W.heap.size := hW.lt
  have hold : ∀ p ∈ before, (fun b => decide (b < W.heap.size)) p.block = true := fun p hp => by simpa using hW.lt p hp
  have hA' : ∀ sp : Nat → Bool, (∀ p ∈ before, sp p.block = true) → DataW.TrodAll enc P W' 0 sp true f.params.toList args.toList (s.fn H (ds ++ gs)).args before := fun sp hsp => by
    rw [hargs]; exact stays_all hl hB hty hA hlt hsp
  have hV' : ∀ sp : Nat → Bool, DataW.TrodVars enc P W' sp s.vars (s.fn H (ds ++ gs)).vars [] := fun sp => by rw [hsv, hvars]; rfl
  have hR' : ∀ (b : Nat) (sp : Nat → Bool) (hd : Bool), DataW.TrodAll enc P W' b sp hd f.resultTypes.toList ((Value.bool true).resultList f.resultTypes.size) (s.fn H (ds ++ gs)).results [] := fun b sp hd => by
    rw [hres, hrt]
    exact ⟨[], [], ⟨1, by simp [DataW.trod, htb, Value.cells]⟩, rfl, rfl⟩
  refine ⟨ds, gs, before, [], before, [], hW, hR' _ _ _, hA' _ hold, hV' _, World.keptBut_mono (fun p hp => ⟨hp, ?_⟩) (hB.frame (· ∈ before)), fun _ => ?_⟩
  · exact .inr (by simpa using hp)
  · obtain ⟨_, _, _, _, _, hz, hn⟩ := hW
    refine ⟨?_, _, _, ([] ++ before) ++ [], ⟨[] ++ before, [], trodAll_append (hA' _ (fun _ _ => rfl)) (hR' _ _ _), hV' _, rfl, ?_, ?_⟩, ?_⟩
    · intro j t r hj hr
      rw [hrt] at hj hr
      match j, hj, hr with
      | 0, hj, hr =>
        simp [Value.resultList] at hj hr
        subst hj; subst hr
        simp [Value.okWide, htb, Cell.okWide, Cell.ok]
    · intro b off hp
      have hp' : MemPlace.cell b off ∈ before := by simpa using hp
      rw [hB.frozen (hlt _ hp')]
      exact hz b off hp'
    · intro ha; cases ha
    · intro p hp _
      simpa using hp

/-- The types of a state. -/
structure StTypes (P : Program) (t : TypeId) where
  fs : Array Field
  f0 : Field
  f1 : Field
  f2 : Field
  f3 : Field
  und : P.underlying t = some (.struct fs)
  h0 : fs[0]? = some f0
  h1 : fs[1]? = some f1
  h2 : fs[2]? = some f2
  h3 : fs[3]? = some f3
  hs : fs.size = 4
  o0 : f0.offset = 0
  o1 : f1.offset = 1
  o2 : f2.offset = 3
  o3 : f3.offset = 4
  c0 : P.cellsOf f0.type = 1
  c1 : P.cellsOf f1.type = 2
  c2 : P.cellsOf f2.type = 1
  c3 : P.cellsOf f3.type = 1
  ct : P.cellsOf t = 5
  eN : TypeId
  tL : P.underlying f0.type = some (.slice eN)
  cN : P.cellsOf eN = 3
  gs : Array Field
  g0 : Field
  g1 : Field
  g2 : Field
  undN : P.underlying eN = some (.struct gs)
  k0 : gs[0]? = some g0
  k1 : gs[1]? = some g1
  k2 : gs[2]? = some g2
  ks : gs.size = 3
  p0 : g0.offset = 0
  p1 : g1.offset = 1
  p2 : g2.offset = 2
  q0 : P.cellsOf g0.type = 1
  q1 : P.cellsOf g1.type = 1
  q2 : P.cellsOf g2.type = 1
  t0 : P.underlying g0.type = some (.int .i64)
  t1 : P.underlying g1.type = some .string
  t2 : P.underlying g2.type = some (.int .i64)
  ms : Array Field
  m0 : Field
  m1 : Field
  undM : P.underlying f1.type = some (.struct ms)
  j0 : ms[0]? = some m0
  j1 : ms[1]? = some m1
  js : ms.size = 2
  i0 : m0.offset = 0
  i1 : m1.offset = 1
  d0 : P.cellsOf m0.type = 1
  d1 : P.cellsOf m1.type = 1
  u0 : P.underlying m0.type = some (.int .i64)
  u1 : P.underlying m1.type = some (.int .i64)
  tN : P.underlying f2.type = some (.int .i64)
  eS : TypeId
  tA : P.underlying f3.type = some (.slice eS)
  cS : P.cellsOf eS = 1
  tS : P.underlying eS = some .string
  cell : P.cellTypes P.depth t = some [f0.type, m0.type, m1.type, f2.type, f3.type]

/-- How a row of nodes, and of texts, reads. -/
def NodesD {H : Type} (l : List Node) (d : DataW H) : Prop := (d = .nil ∧ l = []) ∨ ∃ elems sp, d = .slice elems sp ∧ elems.length = l.length ∧ ∀ i (h1 : i < l.length) (h2 : i < elems.length), ∃ a b c, elems[i] = .agg [.lit (.int .i64 a), .lit (.string b), .lit (.int .i64 c)] ∧ b = l[i].name.data.toList
def TextsD {H : Type} (l : List ByteArray) (d : DataW H) : Prop := (d = .nil ∧ l = []) ∨ ∃ elems sp, d = .slice elems sp ∧ elems.length = l.length ∧ ∀ i (h1 : i < l.length) (h2 : i < elems.length), elems[i] = .lit (.string l[i].data.toList)

theorem read_state {t : TypeId} (T : StTypes P t) {spare : Nat → Bool} {held : Bool} {v : Value} {d : DataW H} {ps : List MemPlace} {r : Reach} {base : Nat} (hok : Value.okWide P W r base t v) (h : DataW.Trod enc P W 0 spare held t v d ps) :
    ∃ s : St, Rep (startG W) W v (stA s .no .no) ∧ ∃ d0 d1 d2 d3, d = .agg [d0, d1, d2, d3] ∧ NodesD s.l d0 ∧ TextsD s.a d3 := by
  unfold Value.okWide at hok
  rw [T.und] at hok
  obtain ⟨cs, rfl, hsz, ts, hts, _, hcell⟩ := hok
  rw [T.cell] at hts
  injection hts with hts
  subst hts
  rw [T.ct] at hsz
  obtain ⟨fuel, h⟩ := h
  have hl : cs.toList.length = 5 := by simpa using hsz
  obtain ⟨n, y0, y1, y2, y3, hd, e0, e1, e2, e3⟩ := trod_f4 T.und T.h0 T.h1 T.h2 T.h3 T.hs T.o0 T.o1 T.o2 T.o3 T.c0 T.c1 T.c2 T.c3 hl h
  have get : ∀ i, i < 5 → cs[i]? = some (cs.toList.getD i undef) := fun i hi => by
    rw [Array.getElem?_eq_getElem (by omega)]
    simp [List.getD, show i < cs.size by omega]
  obtain ⟨u0, a0, b0⟩ := hcell 0 _ (get 0 (by omega))
  obtain ⟨u4, a4, b4⟩ := hcell 4 _ (get 4 (by omega))
  simp at a0 a4
  subst a0 a4
  obtain ⟨l, rl, ql⟩ := read_slice (W := W) (toAV := nd) (s := 3) (Q := fun el d => ∃ a b c, d = .agg [.lit (.int .i64 a), .lit (.string b), .lit (.int .i64 c)] ∧ b = el.name.data.toList) (by omega) T.tL T.cN (elem_node T.undN T.k0 T.k1 T.k2 T.ks T.p0 T.p1 T.p2 T.q0 T.q1 T.q2 T.t0 T.t1 T.t2) b0 e0
  obtain ⟨a, ra, qa⟩ := read_slice (W := W) (toAV := fun s : ByteArray => S s) (s := 1) (Q := fun el d => d = .lit (.string el.data.toList)) (by omega) T.tA T.cS (elem_str T.tS) b4 e3
  obtain ⟨m, z0, z1, hz, x0, x1⟩ := trod_f2 T.undM T.j0 T.j1 T.js T.i0 T.i1 T.d0 T.d1 rfl e1
  obtain ⟨k0, w0, _, _⟩ := DataW.trod_int T.u0 x0
  obtain ⟨k1, w1, _, _⟩ := DataW.trod_int T.u1 x1
  obtain ⟨k2, w2, _, _⟩ := DataW.trod_int T.tN e2
  injection w0 with w0
  injection w1 with w1
  injection w2 with w2
  refine ⟨⟨l, k0, k1, k2, a⟩, ?_, y0.1, y1.1, y2.1, y3.1, hd, ql, qa⟩
  have ecs : cs = cs.toList.toArray := by simp
  rw [ecs]
  refine Rep.agg cs.toList _ hl (fun i hi => ?_) (fun i hi => ?_)
  · match i, hi with
    | 0, _ => rfl
    | 1, _ => rfl
    | 2, _ => rfl
    | 3, _ => rfl
    | 4, _ => rfl
  · match i, hi with
    | 0, _ => exact rl
    | 1, _ =>
      show Rep _ _ _ (I k0)
      have : cs.toList.getD 1 undef = .int .i64 k0 := w0
      rw [this]; exact .sc _ rfl
    | 2, _ =>
      show Rep _ _ _ (I k1)
      have : cs.toList.getD 2 undef = .int .i64 k1 := w1
      rw [this]; exact .sc _ rfl
    | 3, _ =>
      show Rep _ _ _ (I k2)
      have : cs.toList.getD 3 undef = .int .i64 k2 := w2
      rw [this]; exact .sc _ rfl
    | 4, _ => exact ra

theorem cells_slice {t e : TypeId} {v : Value} {r : Reach} {base : Nat} (ht : P.underlying t = some (.slice e)) (h : Value.okWide P W r base t v) : Cell.okWide P W r base t v ∧ v.cells.toList = [v] := by
  unfold Value.okWide at h
  rw [ht] at h
  simp only at h
  refine ⟨h, ?_⟩
  unfold Cell.okWide at h
  rw [ht] at h
  cases v <;> first | rfl | (simp [Cell.ok, ht] at h)
theorem cells_int {t : TypeId} {k : IntKind} {v : Value} {r : Reach} {base : Nat} (ht : P.underlying t = some (.int k)) (h : Value.okWide P W r base t v) : v.cells.toList = [v] := by
  unfold Value.okWide at h
  rw [ht] at h
  simp only at h
  unfold Cell.okWide at h
  rw [ht] at h
  cases v <;> first | rfl | (simp [Cell.ok, ht] at h)

/-- A block of a witness's world. -/
def setCells (cs : List Value) : Obj → Obj
  | .cells _ t frozen => .cells cs.toArray t frozen
  | o => o

end
end Go.Av
