/- Own text C19 of this claim: see the text that holds the theorem. -/
import Derived.Test.YtddolbhaekekaaaGreatDoorC18
set_option linter.all false
set_option maxRecDepth 100000
namespace Go.Av
open Go Go.Proofs

abbrev Rd (α : Type) := α × List UInt8 × Bool
def rdNext (bs : List UInt8) (bad : Bool) : Rd Int := (headI bs, bs.tail, bad || bs.isEmpty)
def rdName (bs : List UInt8) (bad : Bool) : Rd ByteArray := (⟨(bs.tail.take (nameN bs)).toArray⟩, bs.tail.drop (nameN bs), bad || bs.isEmpty)
def rdNode (bs : List UInt8) (bad : Bool) : Rd Node :=
  if (rdNext bs bad).1 = 1 then
    (⟨1, (rdName (rdNext bs bad).2.1 (rdNext bs bad).2.2).1, 0⟩, (rdName (rdNext bs bad).2.1 (rdNext bs bad).2.2).2)
  else if (rdNext bs bad).1 = 11 ∨ (rdNext bs bad).1 = 14 then
    (⟨(rdNext bs bad).1, emp, (rdNext (rdNext bs bad).2.1 (rdNext bs bad).2.2).1⟩, (rdNext (rdNext bs bad).2.1 (rdNext bs bad).2.2).2)
  else (⟨(rdNext bs bad).1, emp, 0⟩, (rdNext bs bad).2)
def rdMany {α : Type} (f : List UInt8 → Bool → Rd α) : Nat → List UInt8 → Bool → Rd (List α)
  | 0, bs, bad => ([], bs, bad)
  | _ + 1, bs, true => ([], bs, true)
  | n + 1, bs, false => ((f bs false).1 :: (rdMany f n (f bs false).2.1 (f bs false).2.2).1, (rdMany f n (f bs false).2.1 (f bs false).2.2).2)
def rdState (bs : List UInt8) : Rd St :=
  let a := rdNext bs false
  let l := rdMany rdNode a.1.toNat a.2.1 a.2.2
  let p := rdNext l.2.1 l.2.2
  let h := rdNext p.2.1 p.2.2
  let n := rdNext h.2.1 h.2.2
  let k := rdNext n.2.1 n.2.2
  let t := rdMany rdName k.1.toNat k.2.1 k.2.2
  (⟨l.1, p.1, h.1, n.1, t.1⟩, t.2)

theorem headI_byteOf {k : Int} (h0 : 0 ≤ k) (h : k < 256) (r : List UInt8) : headI (byteOf k :: r) = k := by
  show ((byteOf k).toNat : Int) = k
  unfold byteOf
  rw [UInt8.toNat_ofNat', Int.emod_eq_of_lt h0 h]; omega

theorem rdNext_cons {k : Int} (h0 : 0 ≤ k) (h : k < 256) (r : List UInt8) : rdNext (byteOf k :: r) false = (k, r, false) := by
  simp [rdNext, headI_byteOf h0 h]

theorem rdName_cons {s : ByteArray} (h : s.size < 256) (r : List UInt8) : rdName (nameB s ++ r) false = (s, r, false) := by
  have hl : s.data.toList.length = s.size := by simp
  have hn : nameN (nameB s ++ r) = s.data.toList.length := by
    unfold nameN nameB
    rw [List.cons_append, headI_byteOf (by omega) (by omega)]
    simp
  unfold rdName
  rw [hn]
  unfold nameB
  simp

def nodeFit (n : Node) : Prop := 0 ≤ n.kind ∧ n.kind < 256 ∧ (if n.kind = 1 then n.name.size < 256 ∧ n.sign = 0 else if n.kind = 11 ∨ n.kind = 14 then n.name = emp ∧ 0 ≤ n.sign ∧ n.sign < 256 else n.name = emp ∧ n.sign = 0)

theorem rdNode_cons {n : Node} (h : nodeFit n) (r : List UInt8) : rdNode (nodeB n ++ r) false = (n, r, false) := by
  obtain ⟨h0, h1, h2⟩ := h
  obtain ⟨k, s, g⟩ := n
  simp only at h0 h1 h2
  unfold rdNode nodeB
  simp only [List.cons_append]
  rw [rdNext_cons h0 h1]
  simp only
  by_cases e : k = 1
  · rw [if_pos e] at h2
    rw [if_pos e, if_pos e, rdName_cons h2.1]
    simp [e, h2.2]
  · rw [if_neg e] at h2
    rw [if_neg e, if_neg e]
    by_cases e2 : k = 11 ∨ k = 14
    · rw [if_pos e2] at h2
      rw [if_pos e2, if_pos e2, List.cons_append, rdNext_cons h2.2.1 h2.2.2]
      simp [h2.1]
    · rw [if_neg e2] at h2
      rw [if_neg e2, if_neg e2]
      simp [h2.1, h2.2]

theorem rdMany_flat {α : Type} {f : List UInt8 → Bool → Rd α} {g : α → List UInt8} (l : List α) (h : ∀ x, x ∈ l → ∀ r, f (g x ++ r) false = (x, r, false)) (r : List UInt8) : rdMany f l.length (l.flatMap g ++ r) false = (l, r, false) := by
  induction l with
  | nil => rfl
  | cons x l ih =>
    simp only [List.length_cons, rdMany, List.flatMap_cons, List.append_assoc]
    rw [h x (by simp)]
    simp only
    rw [ih (fun y hy => h y (by simp [hy]))]

def stFit (s : St) : Prop := s.l.length < 256 ∧ (∀ n, n ∈ s.l → nodeFit n) ∧ (0 ≤ s.pl ∧ s.pl < 256) ∧ (0 ≤ s.how ∧ s.how < 256) ∧ (0 ≤ s.n ∧ s.n < 256) ∧ s.a.length < 256 ∧ ∀ x, x ∈ s.a → x.size < 256

/-- What is written is read as it was, whatever is behind. -/
theorem rdState_enc {s : St} (h : stFit s) (r : List UInt8) : rdState (enc s ++ r) = (s, r, false) := by
  obtain ⟨h1, h2, h3, h4, h5, h6, h7⟩ := h
  have e : enc s ++ r = byteOf s.l.length :: (s.l.flatMap nodeB ++ (byteOf s.pl :: byteOf s.how :: byteOf s.n :: byteOf s.a.length :: (s.a.flatMap nameB ++ r))) := by simp [enc]
  rw [e]
  unfold rdState
  rw [rdNext_cons (by omega) (by omega)]
  simp only [Int.toNat_natCast]
  rw [rdMany_flat s.l (fun x hx r => rdNode_cons (h2 x hx) r)]
  simp only
  rw [rdNext_cons h3.1 h3.2]
  simp only
  rw [rdNext_cons h4.1 h4.2]
  simp only
  rw [rdNext_cons h5.1 h5.2]
  simp only
  rw [rdNext_cons (by omega) (by omega)]
  simp only [Int.toNat_natCast]
  rw [rdMany_flat s.a (fun x hx r => rdName_cons (h7 x hx) r)]

/-- The state of some bytes. -/
noncomputable def decode (b : List UInt8) : Option St :=
  if rightS (rdState b).1 = true ∧ (rdState b).2.2 = false ∧ enc (rdState b).1 = b then some (rdState b).1 else none

theorem right_fit {n : Node} (h : right n = true) : nodeFit n := by
  unfold right at h
  unfold nodeFit
  split at h
  · rename_i e
    simp only [Bool.and_eq_true, decide_eq_true_eq] at h
    have hn := h.2
    unfold named at hn
    simp only [Bool.and_eq_true, decide_eq_true_eq] at hn
    rw [if_pos e]
    exact ⟨by omega, by omega, by omega, h.1⟩
  · rename_i e
    split at h
    · rename_i e2
      simp only [Bool.and_eq_true, decide_eq_true_eq] at h
      rw [if_neg e, if_pos e2]
      exact ⟨by omega, by omega, h.1, by omega, by omega⟩
    · rename_i e2
      simp only [Bool.and_eq_true, decide_eq_true_eq] at h
      rw [if_neg e, if_neg e2]
      have ha := h.2
      unfold arity at ha
      exact ⟨by omega, by omega, h.1⟩

theorem rightS_fit {s : St} (h : rightS s = true) : stFit s := by
  unfold rightS at h
  simp only [Bool.and_eq_true, decide_eq_true_eq, Bool.not_eq_true'] at h
  obtain ⟨h1, _, h3, h4, h5, h6, h7, h8⟩ := h
  have hw := sortOn_whole h1
  unfold whole at hw
  simp only [Bool.and_eq_true, decide_eq_true_eq, List.all_eq_true] at hw
  refine ⟨by omega, fun n hn => right_fit (hw.2.1 n hn), by omega, by omega, by omega, by omega, fun x hx => ?_⟩
  have := List.any_eq_false.1 h8 x hx
  have hr : right ⟨1, x, 0⟩ = true := by simpa using this
  have := (right_fit hr).2.2
  simp at this
  exact this

theorem decode_enc {s : St} (h : rightS s = true) : decode (enc s) = some s := by
  have := rdState_enc (rightS_fit h) []
  rw [List.append_nil] at this
  unfold decode
  rw [this, if_pos ⟨h, rfl, rfl⟩]

theorem decode_spec {b : List UInt8} {s : St} (h : decode b = some s) : rightS s = true ∧ enc s = b := by
  unfold decode at h
  split at h
  · rename_i h2
    injection h with h; subst h
    exact ⟨h2.1, h2.2.2⟩
  · cases h

theorem decode_more {b c : List UInt8} {s : St} (h : decode b = some s) (hc : c ≠ []) : decode (b ++ c) = none := by
  obtain ⟨h1, h2⟩ := decode_spec h
  have := rdState_enc (rightS_fit h1) c
  rw [h2] at this
  unfold decode
  rw [this, if_neg]
  rintro ⟨_, _, h3⟩
  simp only at h3
  rw [h2] at h3
  have := congrArg List.length h3
  simp at this
  exact hc this

theorem decode_less {b : List UInt8} {s : St} (h : decode b = some s) (hb : b ≠ []) : decode (b.dropLast) = none := by
  cases e : decode b.dropLast with
  | none => rfl
  | some t =>
    have := decode_more e (c := [b.getLast hb]) (by simp)
    rw [List.dropLast_concat_getLast hb, h] at this
    cases this

theorem enc_inj {s t : St} (hs : rightS s = true) (ht : rightS t = true) : enc s = enc t ↔ s = t := by
  constructor
  · intro h
    have h1 := decode_enc hs
    rw [h, decode_enc ht] at h1
    injection h1 with h1; exact h1.symm
  · intro h; rw [h]

theorem enc_pos (s : St) : enc s ≠ [] := by simp [enc]
end Go.Av
