/- Own text C16 of this claim: see the text that holds the theorem. -/
import Derived.Test.YtddolbhaekekaaaGreatDoorC15
set_option linter.all false
set_option maxRecDepth 100000
namespace Go.Av
open Go Go.Proofs

theorem st_get {n : Nat} {H : Heap} {o off : Nat} {cs : List AV} {v : AV} {r : List AV} (h : H o = some (.cells cs)) (h1 : v.cells.length = n) (h2 : off + v.cells.length ≤ cs.length) (h3 : v.cells.all AV.single = true) (hr : splice cs off v.cells = r) :
    st n H (.ptr o off) v = some (H.upd o (.cells r)) := by
  have := st_upd_of (H := H) (o := o) h1 h2 h3 hr
  rw [Heap.upd_self h] at this
  rw [this]

def headI : List UInt8 → Int
  | [] => 0
  | b :: _ => b.toNat

theorem sllB_drop {l : List UInt8} {p : Perm} {a : Nat} (h : a ≤ l.length) : ∃ q, sll 1 (bytA l p) (some (I a)) none none = some (bytA (l.drop a) q) := by
  refine ⟨if p = .exact then .exact else .no, ?_⟩
  simp [sll, bound, h, List.take_of_length_le]
theorem sllB_take {l : List UInt8} {p : Perm} {a : Nat} (h : a ≤ l.length) : ∃ q, sll 1 (bytA l p) none (some (I a)) none = some (bytA (l.take a) q) := by
  refine ⟨if p = .exact ∧ a = l.length then .exact else .no, ?_⟩
  simp [sll, bound, h]

theorem cv_i64 (b : UInt8) : cv (.toInt .i64) (byteAV b) = some (I b.toNat) := by
  have hb : b.toNat < 256 := b.toNat_lt
  show some (AV.sc (.int .i64 (IntKind.wrap .i64 b.toNat))) = _
  rw [wrap_i64 (by omega) (by omega)]

theorem bytesOf_map (l : List UInt8) : bytesOf? (l.map byteAV) = some l := by
  induction l with
  | nil => rfl
  | cons b l ih =>
    show (bytesOf? (l.map byteAV)).map (UInt8.ofNat ((b.toNat : Int)).toNat :: ·) = _
    rw [ih]; simp
theorem cv_toStr (l : List UInt8) (p : Perm) : cv .toStr (bytA l p) = some (S ⟨l.toArray⟩) := by
  simp [cv, bytesOf_map]

theorem reader_next_ok (bs : List UInt8) (bad : Bool) (p : Perm) (o : Nat) (H : Heap) (h : H o = some (.cells [bytA bs p, B bad])) (hl : bs.length ≤ 1000000) :
    ACalls PP gΓ code_reader_next [.ptr o 0] H (fun r H' => ∃ q, r = I (headI bs) ∧ H' = H.upd o (.cells [bytA bs.tail q, B (bad || bs.isEmpty)])) := by
  refine code_reader_next_of ?_
  unfold W_code_reader_next
  simp only [nilE_ptr, fa_ptr, pureK_some, ld_ptr h, cutE_one, Nat.zero_add, get0, lnl_lst, List.length_map, bop_eql, condK_B, decide_eq_true_eq, decide_eq_false_iff_not]
  refine ⟨fun h1 => ?_, fun h1 => ?_⟩
  · have hb : bs = [] := List.eq_nil_of_length_eq_zero (by omega)
    subst hb
    rw [st_get (n := 1) (off := 1) (v := B true) (r := [bytA [] p, B true]) h rfl (by simp) rfl rfl]
    simp only [heapK_some]
    exact ret1_of _ (Heap.le_refl _) ⟨p, rfl, by simp⟩
  · match bs, h1, h, hl with
    | b :: bs, _, h, hl =>
      rw [ias_byt (by omega) (by simp)]
      obtain ⟨q, e⟩ := sllB_drop (l := b :: bs) (p := p) (a := 1) (by simp)
      have e1 : (I 1) = I ((1 : Nat) : Int) := rfl
      rw [e1, e]
      simp only [pureK_some, ld_cp, cutE_one, get0]
      rw [st_get (n := 1) (off := 0) (v := bytA ((b :: bs).drop 1) q) (r := [bytA bs q, B bad]) h rfl (by simp) rfl rfl]
      have e2 : (b :: bs)[(0 : Int).toNat]'(by simp) = b := rfl
      rw [e2, cv_i64]
      simp only [heapK_some, pureK_some]
      exact ret1_of _ (Heap.le_refl _) ⟨q, rfl, by simp⟩

def nameN (bs : List UInt8) : Nat := min (headI bs).toNat bs.tail.length

theorem headI_nonneg (bs : List UInt8) : 0 ≤ headI bs := by cases bs <;> simp [headI]

theorem minE_two (a b : Int) : minE [I a, I b] = some (I (min a b)) := by
  simp only [minE, foldE, min2E, Option.bind_some]
  by_cases h : b < a
  · rw [if_pos h, Int.min_def, if_neg (by omega)]
  · rw [if_neg h, Int.min_def, if_pos (by omega)]

theorem reader_name_ok (bs : List UInt8) (bad : Bool) (p : Perm) (o : Nat) (H : Heap) (h : H o = some (.cells [bytA bs p, B bad])) (hl : bs.length ≤ 1000000) :
    ACalls PP gΓ code_reader_name [.ptr o 0] H (fun r H' => ∃ q, r = S ⟨(bs.tail.take (nameN bs)).toArray⟩ ∧ H' = H.upd o (.cells [bytA (bs.tail.drop (nameN bs)) q, B (bad || bs.isEmpty)])) := by
  refine code_reader_name_of ?_
  unfold W_code_reader_name
  refine (reader_next_ok bs bad p o H h hl).mono ?_
  rintro r H1 ⟨q, rfl, rfl⟩
  have hn := headI_nonneg bs
  have e0 : min (headI bs) (bs.tail.length : Int) = ((nameN bs : Nat) : Int) := by unfold nameN; omega
  have hle : nameN bs ≤ bs.tail.length := by unfold nameN; omega
  simp only [nilE_ptr, fa_ptr, pureK_some, ld_upd, cutE_one, Nat.zero_add, get0, lnl_lst, List.length_map]
  rw [minE_two, e0]
  simp only [pureK_some]
  obtain ⟨q1, e1⟩ := sllB_take (l := bs.tail) (p := q) (a := nameN bs) hle
  obtain ⟨q2, e2⟩ := sllB_drop (l := bs.tail) (p := q) (a := nameN bs) hle
  rw [e1, e2]
  simp only [pureK_some]
  rw [cv_toStr]
  simp only [pureK_some]
  rw [st_upd_of (n := 1) (off := 0) (v := bytA (bs.tail.drop (nameN bs)) q2) (r := [bytA (bs.tail.drop (nameN bs)) q2, B (bad || bs.isEmpty)]) rfl (by simp) rfl rfl]
  simp only [heapK_some]
  exact ret1_of _ (Heap.le_refl _) ⟨q2, rfl, rfl⟩
end Go.Av
