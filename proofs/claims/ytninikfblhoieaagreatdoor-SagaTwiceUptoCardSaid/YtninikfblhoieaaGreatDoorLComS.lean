/- What the laws' cards have in common: the table of words as the row lists it, a world that holds the three tables, what the bound on bulk gives, the types of the arguments. -/
import Derived.Test.YtninikfblhoieaaGreatDoorCards
import Derived.Test.YtninikfblhoieaaGreatDoorTie
import Derived.Test.YtninikfblhoieaaGreatDoorCE
set_option linter.all false

namespace Go.Proofs.YtninikfblhoieaaGreatDoor.com
open Go Go.Av Go.ChangeShapes Go.WideShapes Go.ChangeAt Go.RowKit

theorem own : ownKnob Tryz.prog.godebug = none := by kernel_rfl
theorem gW : Tryz.prog.globalNamed "redress/row.words" = some 0 := by kernel_rfl
theorem gWt : (Tryz.prog.globals[0]?).map (·.type) = some 202 := by kernel_rfl
theorem u69 : Tryz.prog.underlying 202 = some (.array 6 9) := by kernel_rfl
theorem u9 : Tryz.prog.underlying 9 = some .string := by kernel_rfl
theorem c9 : Tryz.prog.cellsOf 9 = 1 := by kernel_rfl
theorem c69 : Tryz.prog.cellsOf 202 = 6 := by kernel_rfl
theorem laidOut : laidOutB Tryz.prog = true := by kernel_rfl

def wordRows : List (List UInt8) := [[115, 107, 105, 112], [116, 104, 114, 111, 119], [121, 105, 101, 108, 100], [115, 107, 105, 112, 112], [116, 104, 114, 111, 119, 119], [121, 105, 101, 108, 100, 100]]

theorem words_cell {W : World} (h : laidMet Tryz.prog Rows.sagaLostRow.laid W) : ∀ i (hi : i < wordRows.length), W.cell? ⟨0, i, none⟩ = some (.string ⟨(wordRows[i]).toArray⟩) := by
 obtain ⟨ps, ⟨_, _, _, _, _, _, _, _, _, _, ⟨g', t', cs, fuel, p, q, hg', ht', hvar, hd, _, _⟩, _⟩, _⟩ := h
 obtain rfl := Option.some.inj (gW.symm.trans hg')
 obtain rfl := Option.some.inj (gWt.symm.trans ht')
 intro i hi
 have h1 := strs_of_trod (ss := wordRows) u69 u9 c9 c69 hd i hi
 have h2 := World.var?_cell gW hvar i
 rw [h2]
 simpa using h1

theorem glob {W : World} (h : laidMet Tryz.prog Rows.sagaLostRow.laid W) : ∀ g a, gΓ g = some a → Rep (startG W) W (.pointer (some ⟨g, 0, none⟩)) a := by
 intro g a hga
 match g, hga with
 | 0, hga =>
   have e : g0 = a := Option.some.inj hga
   subst e
   refine Rep.cp 0 0 0 _ (fun k => .string ⟨((wordRows.getD k [])).toArray⟩) (fun k hk => ?_) (fun k hk => ?_) (fun k hk => ?_) (.inr trivial)
   · match k, hk with
     | 0, _ => rfl
     | 1, _ => rfl
     | 2, _ => rfl
     | 3, _ => rfl
     | 4, _ => rfl
     | 5, _ => rfl
   · have hk' : k < wordRows.length := hk
     rw [Nat.zero_add, words_cell h k hk']
     simp [List.getD, hk']
   · match k, hk with
     | 0, _ => exact .sc _ rfl
     | 1, _ => exact .sc _ rfl
     | 2, _ => exact .sc _ rfl
     | 3, _ => exact .sc _ rfl
     | 4, _ => exact .sc _ rfl
     | 5, _ => exact .sc _ rfl

theorem u4 : Tryz.prog.underlying 4 = some .bool := by kernel_rfl
noncomputable def laidHeap (os : Os) : Array Obj :=
 let h0 := (World.holding Tryz.prog os ⟨#[], #[], []⟩).heap
 let h1 := h0.modify 0 (setCells (wordRows.map fun s => Value.string ⟨s.toArray⟩))
 let h2 := h1.modify 1 (setCells (Go.Pinned.utf8FirstZ.map fun z : Nat => Value.int .u8 (z : Int)))
 h2.modify 2 (setCells (([128, 191, 160, 191, 128, 159, 144, 191, 128, 143] ++ List.replicate 22 0).map fun z : Nat => Value.int .u8 (z : Int)))
noncomputable def laidWorld (os : Os) : World := { World.holding Tryz.prog os ⟨#[], #[], []⟩ with heap := laidHeap os }

theorem sum_bulk {H : Type} {α : Type} (m : α → Nat) : ∀ (l : List α) (elems : List (DataW H)), elems.length = l.length → (∀ i (h1 : i < l.length) (h2 : i < elems.length), m l[i] ≤ Rows.uptoBulk elems[i]) → (l.map m).sum ≤ Rows.uptoBulkAll elems := by
 intro l
 induction l with
 | nil => intro elems _ _; simp
 | cons x l ih =>
   intro elems hl h
   cases elems with
   | nil => simp at hl
   | cons y elems =>
     have h0 := h 0 (by simp) (by simp)
     have h1 := ih elems (by simpa using hl) (fun i h1 h2 => h (i + 1) (by simp; omega) (by simp; omega))
     simp only [List.map_cons, List.sum_cons, Rows.uptoBulkAll]
     simp only [List.getElem_cons_zero] at h0
     omega
theorem one_le {H : Type} (d : DataW H) : 1 ≤ Rows.uptoBulk d := by
 cases d with
 | lit l => cases l <;> simp [Rows.uptoBulk]
 | nil => simp [Rows.uptoBulk]
 | ptr d => simp [Rows.uptoBulk]
 | slice elems spare => simp [Rows.uptoBulk]
 | agg parts => simp [Rows.uptoBulk]
 | iface t d => simp [Rows.uptoBulk]
 | map entries => simp [Rows.uptoBulk]
 | held h => simp [Rows.uptoBulk]
theorem len_bulk {H : Type} (elems : List (DataW H)) : elems.length ≤ Rows.uptoBulkAll elems := by
 induction elems with
 | nil => simp
 | cons x l ih => have := one_le x; simp only [Rows.uptoBulkAll, List.length_cons]; omega
theorem le_sum {α : Type} (m : α → Nat) (l : List α) : ∀ x, x ∈ l → m x ≤ (l.map m).sum := by
 induction l with
 | nil => intro x h; simp at h
 | cons y l ih =>
   intro x h
   simp only [List.map_cons, List.sum_cons]
   rcases List.mem_cons.1 h with rfl | h
   · omega
   · have := ih x h; omega

theorem nodes_bulk {H : Type} {l : List Av.Node} {d : DataW H} (h : NodesD l d) : l.length ≤ Rows.uptoBulk d ∧ ∀ n, n ∈ l → n.name.size ≤ Rows.uptoBulk d := by
 rcases h with ⟨rfl, rfl⟩ | ⟨elems, sp, rfl, hl, hq⟩
 · exact ⟨by simp, fun n h => by simp at h⟩
 · have h1 := sum_bulk (fun n : Av.Node => n.name.size) l elems hl (fun i h1 h2 => by
    obtain ⟨a, b, c, e1, e2⟩ := hq i h1 h2
    rw [e1]
    simp only [Rows.uptoBulk, Rows.uptoBulkAll]
    rw [e2]
    simp; omega)
   have h2 := len_bulk elems
   simp only [Rows.uptoBulk]
   refine ⟨by omega, fun n hn => ?_⟩
   have h3 : n.name.size ≤ (l.map fun n : Av.Node => n.name.size).sum := le_sum (fun n : Av.Node => n.name.size) l n hn
   omega
theorem ints_bulk {H : Type} {l : List Int} {d : DataW H} (h : IntsD l d) : l.length ≤ Rows.uptoBulk d := by
 rcases h with ⟨rfl, rfl⟩ | ⟨elems, sp, rfl, hl, hq⟩
 · simp
 · have h2 := len_bulk elems
   simp only [Rows.uptoBulk]
   omega

theorem undN : Tryz.prog.underlying 70 = some (.struct #[⟨"Kind", 3, 0, false, "", "", 0⟩, ⟨"Name", 9, 1, false, "", "", 8⟩, ⟨"Sign", 3, 2, false, "", "", 24⟩]) := Tryz.underlying70
theorem cN : Tryz.prog.cellsOf 70 = 3 := by kernel_rfl
theorem q3 : Tryz.prog.cellsOf 3 = 1 := by kernel_rfl
theorem tP : Tryz.prog.underlying 22 = some (.slice 70) := Tryz.underlying22
set_option maxRecDepth 100000 in
theorem read_nodes {H : Type} {enc : TypeId × Value → H} {W : World} {spare : Nat → Bool} {held : Bool} {v : Value} {d : DataW H} {ps : List MemPlace} {r : Reach} {base : Nat} (hok : Value.okWide Tryz.prog W r base 22 v) (h : DataW.Trod enc Tryz.prog W 0 spare held 22 v d ps) :
 ∃ l : List Av.Node, Rep (startG W) W v (.lst 3 (l.map nd) .no) ∧ NodesD l d := by
 obtain ⟨m0, h0⟩ := h
 obtain ⟨ok0, cc0⟩ := cells_slice tP hok
 rw [cc0] at h0
 exact read_slice (W := W) (toAV := nd) (s := 3) (Q := fun el d => ∃ a b c, d = .agg [.lit (.int .i64 a), .lit (.string b), .lit (.int .i64 c)] ∧ b = el.name.data.toList) (by omega) tP cN
  (elem_node undN rfl rfl rfl rfl rfl rfl rfl q3 c9 q3 Tryz.underlying3 u9 Tryz.underlying3) ok0 h0
theorem c56 : Tryz.prog.cellsOf 56 = 2 := by kernel_rfl
set_option maxRecDepth 100000 in
theorem read_acts {H : Type} {enc : TypeId × Value → H} {W : World} {spare : Nat → Bool} {held : Bool} {v : Value} {d : DataW H} {ps : List MemPlace} {r : Reach} {base : Nat} (hok : Value.okWide Tryz.prog W r base 49 v) (h : DataW.Trod enc Tryz.prog W 0 spare held 49 v d ps) :
 ∃ l : List (Int × Int), Rep (startG W) W v (.lst 2 (l.map fun x => .agg [I x.1, I x.2]) .no) ∧ l.length ≤ Rows.uptoBulk d := by
 obtain ⟨m0, h0⟩ := h
 obtain ⟨ok0, cc0⟩ := cells_slice Tryz.underlying49 hok
 rw [cc0] at h0
 obtain ⟨l, h1, h2⟩ := read_slice (W := W) (toAV := fun x : Int × Int => .agg [I x.1, I x.2]) (s := 2) (Q := fun _ d => ∃ a b, d = .agg [.lit (.int .i64 a), .lit (.int .i64 b)]) (by omega) Tryz.underlying49 c56
  (elem_pair Tryz.underlying56 rfl rfl rfl rfl rfl q3 q3 Tryz.underlying3 Tryz.underlying3) ok0 h0
 refine ⟨l, h1, ?_⟩
 rcases h2 with ⟨_, rfl⟩ | ⟨elems, sp, rfl, hl, _⟩
 · simp
 · have h2 := len_bulk elems
   simp only [Rows.uptoBulk]
   omega
noncomputable def scTypes : ScTypes Tryz.prog 25 where
 fs := _
 f0 := _
 f1 := _
 f2 := _
 und := Tryz.underlying25
 h0 := rfl
 h1 := rfl
 h2 := rfl
 hs := rfl
 o0 := rfl
 o1 := rfl
 o2 := rfl
 c0 := by kernel_rfl
 c1 := by kernel_rfl
 c2 := by kernel_rfl
 ct := by kernel_rfl
 eI := 3
 tP := Tryz.underlying23
 tR := Tryz.underlying23
 cI := q3
 tI := Tryz.underlying3
 tB := Tryz.underlying3
 cell := by kernel_rfl
end Go.Proofs.YtninikfblhoieaaGreatDoor.com
