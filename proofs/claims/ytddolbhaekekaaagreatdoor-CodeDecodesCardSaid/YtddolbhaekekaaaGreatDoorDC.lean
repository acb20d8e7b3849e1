/- Own text DC of this claim: see the text that holds the theorem. -/
import Derived.Test.YtddolbhaekekaaaGreatDoorDB
set_option linter.all false
set_option maxRecDepth 100000
namespace Go.Av
open Go Go.Proofs

theorem encode_ok2 {s : St} (h : Fits s) (p q : Perm) (H : Heap) :
    ACalls PP gΓ code_Encode [stA s p q] H (fun r H' => ∃ v, r = .tup [v, B (rightS s)] ∧ H ≤ H' ∧ (rightS s = true → ∃ pv, v = bytA (enc s) pv) ∧ (rightS s = false → v = .lst 0 [] .exact)) := by
  refine (encode_ok h p q H).mono ?_
  rintro r H' (⟨h1, rfl, rfl⟩ | ⟨h1, v, rfl, pv, h2, hb⟩)
  · exact ⟨_, by rw [h1], Heap.le_refl _, fun h => by rw [h1] at h; (cases h), fun _ => rfl⟩
  · exact ⟨v, by rw [h1], hb.le, fun _ => ⟨pv, h2⟩, fun h => by rw [h1] at h; (cases h)⟩

structure Fits2 (s : St) : Prop extends Fits s where
  z : sizes s.a ≤ 1000000000000

theorem cut_st {H : Heap} {o : Nat} {s : St} {p q : Perm} (h : H o = some (.cells (stC s p q))) : ld (some true) 5 H (.ptr o 0) = some (stA s p q) := by rw [ld_ptr h]; rfl

theorem law19_CodeEncodes_ok (s : St) (p q : Perm) (hs : Fits2 s) : Pur law19_CodeEncodes [stA s p q] (B true) := by
  intro H
  refine law19_CodeEncodes_of ?_
  unfold W_law19_CodeEncodes
  refine allocK_st fun o1 h1 => ?_
  have hle : H ≤ H.upd o1 (.cells (stC s p q)) := by simp [h1]
  have g1 : (H.upd o1 (.cells (stC s p q))) o1 = some (.cells (stC s p q)) := Heap.upd_same _ _ _
  generalize H.upd o1 (.cells (stC s p q)) = HB at hle g1 ⊢
  rw [cut_st g1]
  simp only [pureK_some]
  refine (law19_few_ok s p q hs.l hs.a hs.z).run ?_
  rintro v ⟨b1, rfl, _⟩
  simp only [unE_not, pureK_some]
  cases b1 with
  | false => exact law19_alive_ok.run (ret1_of H hle ⟨rfl, rfl⟩)
  | true =>
  simp only [Bool.not_true, condK_f, cut_st g1, pureK_some]
  refine (law19_New_ok s p q).run ?_
  refine (encode_ok2 hs.toFits p q HB).mono ?_
  rintro r H1 ⟨v1, rfl, hl1, ht1, hf1⟩
  have k1 := hl1 _ _ g1
  simp only [extractE_tup, get0, get1, pureK_some, cut_st k1]
  refine (ref19_Encode_ok hs.toFits p q H1).mono ?_
  rintro r H2 ⟨v2, rfl, hl2, ht2, hf2⟩
  have m1 := hl2 _ _ k1
  have hle2 : H ≤ H2 := fun o x h => hl2 _ _ (hl1 _ _ (hle _ _ h))
  rw [show extractE (.tup [v2, B (rightS s)]) 0 = some v2 from rfl, show extractE (.tup [v2, B (rightS s)]) 1 = some (B (rightS s)) from rfl]
  simp only [pureK_some]
  refine ⟨_, law19_alive_ok.reads, ?_⟩
  rw [condK_t]
  have hsame : Pur ref16_Same [v1, v2] (B true) := by
    cases hr : rightS s with
    | true =>
      obtain ⟨q1, rfl⟩ := ht1 hr
      obtain ⟨q2, rfl⟩ := ht2 hr
      have len1 := enc_len hr
      have parts := rightS_parts hr
      have := ref16_Same_ok (enc s) (enc s) q1 q2 (by unfold small; omega)
      simpa using this
    | false =>
      rw [hf1 hr, hf2 hr]
      have := ref16_Same_ok [] [] .no .no (by unfold small; decide)
      exact Pur.args2 (a' := bytA [] .no) (b' := bytA [] .no) Weaker.empty Weaker.empty (by simpa using this)
  refine ⟨_, hsame.reads, ?_⟩
  rw [condK_t]
  simp only [bop_beql, beq_self_eq_true, pureK_some, condK_t, cut_st m1]
  refine ⟨_, (law19_New_ok s p q).reads, _, (right_ok hs.toFits p q).reads, ?_⟩
  refine (ref19_Right_ok hs.toFits p q).run ?_
  simp only [bop_beql, beq_self_eq_true, pureK_some]
  exact ret1_of H hle2 ⟨rfl, rfl⟩

end Go.Av
namespace Go.Av
open Go Go.Proofs

def atB (b : List UInt8) (k : Nat) : Int := match b[k]? with | some x => x.toNat | none => -1
def namedX (b : List UInt8) (k : Nat) : Option (ByteArray × Nat) :=
  if atB b k < 0 ∨ b.length < k + 1 + (atB b k).toNat then none else some (⟨((b.drop (k + 1)).take (atB b k).toNat).toArray⟩, k + 1 + (atB b k).toNat)
def nodeX (b : List UInt8) (k : Nat) : Option (Node × Nat) :=
  if atB b k = 1 then (namedX b (k + 1)).map fun x => (⟨1, x.1, 0⟩, x.2)
  else if atB b k = 11 ∨ atB b k = 14 then (if atB b (k + 1) < 0 then none else some (⟨atB b k, emp, atB b (k + 1)⟩, k + 2))
  else if atB b k < 0 then none else some (⟨atB b k, emp, 0⟩, k + 1)
def manyX {α : Type} (f : Nat → Option (α × Nat)) : Nat → Nat → Option (List α × Nat)
  | 0, k => some ([], k)
  | n + 1, k => match f k with
    | none => none
    | some (x, k') => (manyX f n k').map fun y => (x :: y.1, y.2)
noncomputable def refDecode (b : List UInt8) : Option St :=
  match manyX (nodeX b) (atB b 0).toNat 1 with
  | none => none
  | some (l, k) =>
    match manyX (namedX b) (atB b (k + 3)).toNat (k + 4) with
    | none => none
    | some (a, k') => if atB b (k + 3) < 0 ∨ k' ≠ b.length ∨ rightS ⟨l, atB b k, atB b (k + 1), atB b (k + 2), a⟩ = false then none else some ⟨l, atB b k, atB b (k + 1), atB b (k + 2), a⟩

theorem atB_get {b : List UInt8} {k : Nat} (h : k < b.length) : atB b k = b[k].toNat := by simp [atB, h]
theorem atB_none {b : List UInt8} {k : Nat} (h : b.length ≤ k) : atB b k = -1 := by simp [atB, h]
theorem atB_lt {b : List UInt8} {k : Nat} (h : 0 ≤ atB b k) : k < b.length := by
  rcases Nat.lt_or_ge k b.length with h1 | h1
  · exact h1
  · rw [atB_none h1] at h; omega
theorem atB_range (b : List UInt8) (k : Nat) : -1 ≤ atB b k ∧ atB b k ≤ 255 := by
  rcases Nat.lt_or_ge k b.length with h1 | h1
  · rw [atB_get h1]; have := b[k].toNat_lt; omega
  · rw [atB_none h1]; omega
theorem byteOf_toNat (x : UInt8) : byteOf x.toNat = x := by
  unfold byteOf
  have := x.toNat_lt
  have e : ((x.toNat : Int) % 256).toNat = x.toNat := by omega
  rw [e]; simp
theorem byteOf_atB {b : List UInt8} {k : Nat} (h : 0 ≤ atB b k) : b.drop k = byteOf (atB b k) :: b.drop (k + 1) := by
  have hl := atB_lt h
  rw [List.drop_eq_getElem_cons hl, atB_get hl, byteOf_toNat]
theorem drop_at {b r : List UInt8} {k : Nat} {x : UInt8} (h : b.drop k = x :: r) : k < b.length ∧ atB b k = x.toNat ∧ b.drop (k + 1) = r := by
  have hl : k < b.length := by
    rcases Nat.lt_or_ge k b.length with h1 | h1
    · exact h1
    · rw [List.drop_eq_nil_of_le h1] at h; cases h
  rw [List.drop_eq_getElem_cons hl] at h
  injection h with h1 h2
  exact ⟨hl, by rw [atB_get hl, h1], h2⟩

theorem namedX_spec {b : List UInt8} {k k' : Nat} {s : ByteArray} (h : namedX b k = some (s, k')) : b.drop k = nameB s ++ b.drop k' ∧ k < k' ∧ k' ≤ b.length := by
  unfold namedX at h
  split at h
  · cases h
  · rename_i h1
    injection h with h
    injection h with h2 h3
    subst h3
    have h0 : 0 ≤ atB b k := by omega
    have hsz : s.data.toList = (b.drop (k + 1)).take (atB b k).toNat := by rw [← h2]
    have hl : s.size = (atB b k).toNat := by
      have : s.data.toList.length = s.size := by simp
      rw [← this, hsz, List.length_take, List.length_drop]; omega
    refine ⟨?_, by omega, by omega⟩
    rw [byteOf_atB h0]
    unfold nameB
    rw [hsz, hl, show (((atB b k).toNat : Nat) : Int) = atB b k by omega]
    have : b.drop (k + 1 + (atB b k).toNat) = (b.drop (k + 1)).drop (atB b k).toNat := by rw [List.drop_drop]
    rw [this, List.cons_append, List.take_append_drop]

theorem nodeX_spec {b : List UInt8} {k k' : Nat} {x : Node} (h : nodeX b k = some (x, k')) : b.drop k = nodeB x ++ b.drop k' ∧ k < k' ∧ k' ≤ b.length := by
  unfold nodeX at h
  split at h
  · rename_i h1
    cases hn : namedX b (k + 1) with
    | none => rw [hn] at h; cases h
    | some y =>
      rw [hn] at h
      injection h with h
      injection h with h2 h3
      subst h2
      obtain ⟨g1, g2, g3⟩ := namedX_spec (s := y.1) (k' := y.2) hn
      rw [h3] at g1 g2 g3
      refine ⟨?_, by omega, g3⟩
      rw [byteOf_atB (by omega), h1, g1]; rfl
  · rename_i h1
    split at h
    · rename_i h2
      split at h
      · cases h
      · rename_i h3
        injection h with h
        injection h with h4 h5
        subst h4 h5
        have h0 : 0 ≤ atB b k := by omega
        have := atB_lt (b := b) (k := k + 1) (by omega)
        refine ⟨?_, by omega, by omega⟩
        rw [byteOf_atB h0, byteOf_atB (b := b) (k := k + 1) (by omega)]
        simp [nodeB, h1, h2]
    · rename_i h2
      split at h
      · cases h
      · rename_i h3
        injection h with h
        injection h with h4 h5
        subst h4 h5
        have h0 : 0 ≤ atB b k := by omega
        have := atB_lt h0
        refine ⟨?_, by omega, by omega⟩
        rw [byteOf_atB h0]
        simp [nodeB, h1, h2]

theorem manyX_spec {α : Type} {b : List UInt8} {f : Nat → Option (α × Nat)} {g : α → List UInt8} (hf : ∀ k x k', f k = some (x, k') → b.drop k = g x ++ b.drop k' ∧ k < k' ∧ k' ≤ b.length) :
    ∀ (n k : Nat) (l : List α) (k' : Nat), manyX f n k = some (l, k') → l.length = n ∧ b.drop k = l.flatMap g ++ b.drop k' ∧ k ≤ k' := by
  intro n
  induction n with
  | zero =>
    intro k l k' h
    injection h with h
    injection h with h1 h2
    subst h1 h2
    exact ⟨rfl, by simp, Nat.le_refl _⟩
  | succ n ih =>
    intro k l k' h
    simp only [manyX] at h
    cases hx : f k with
    | none => rw [hx] at h; cases h
    | some y =>
      obtain ⟨x, k1⟩ := y
      rw [hx] at h
      simp only at h
      cases hm : manyX f n k1 with
      | none => rw [hm] at h; cases h
      | some z =>
        rw [hm] at h
        injection h with h
        injection h with h1 h2
        subst h1 h2
        obtain ⟨g1, g2, g3⟩ := ih k1 z.1 z.2 hm
        obtain ⟨e1, e2, e3⟩ := hf k x k1 hx
        refine ⟨by simp [g1], ?_, by omega⟩
        rw [e1, g2]; simp

theorem namedX_enc {b r : List UInt8} {k : Nat} {s : ByteArray} (hs : s.size < 256) (h : b.drop k = nameB s ++ r) : namedX b k = some (s, k + (nameB s).length) := by
  unfold nameB at h
  rw [List.cons_append] at h
  obtain ⟨h1, h2, h3⟩ := drop_at h
  have hb : (byteOf s.size).toNat = s.size := by
    unfold byteOf
    rw [UInt8.toNat_ofNat', Int.emod_eq_of_lt (by omega) (by omega)]; omega
  rw [hb] at h2
  have hl : s.data.toList.length = s.size := by simp
  have hlen := congrArg List.length h3
  simp only [List.length_drop, List.length_append] at hlen
  unfold namedX
  rw [h2, if_neg (by omega), h3]
  have e : (((s.size : Nat) : Int)).toNat = s.data.toList.length := by omega
  rw [e, List.take_left, nameB_length]
  have : (⟨s.data.toList.toArray⟩ : ByteArray) = s := by simp
  rw [this, hl]
  congr 2; omega

theorem nodeX_enc {b r : List UInt8} {k : Nat} {x : Node} (hx : nodeFit x) (h : b.drop k = nodeB x ++ r) : nodeX b k = some (x, k + (nodeB x).length) := by
  obtain ⟨h0, h1, h2⟩ := hx
  have hb : ∀ n : Int, 0 ≤ n → n < 256 → ((byteOf n).toNat : Int) = n := fun n g1 g2 => by
    unfold byteOf
    rw [UInt8.toNat_ofNat', Int.emod_eq_of_lt g1 g2]; omega
  obtain ⟨kk, nm, sg⟩ := x
  simp only at h0 h1 h2
  unfold nodeB at h ⊢
  simp only at h ⊢
  rw [List.cons_append] at h
  obtain ⟨g1, g2, g3⟩ := drop_at h
  rw [hb kk h0 h1] at g2
  unfold nodeX
  rw [g2]
  by_cases e : kk = 1
  · rw [if_pos e] at h2 g3 ⊢
    rw [if_pos e]
    rw [namedX_enc h2.1 g3]
    simp only [Option.map_some, List.length_cons]
    rw [e, h2.2]
    congr 2; omega
  · rw [if_neg e] at h2 g3 ⊢
    rw [if_neg e]
    by_cases e2 : kk = 11 ∨ kk = 14
    · rw [if_pos e2] at h2 g3 ⊢
      rw [if_pos e2]
      obtain ⟨j1, j2, _⟩ := drop_at (r := r) (by simpa using g3)
      rw [hb sg h2.2.1 h2.2.2] at j2
      rw [j2, if_neg (by omega), h2.1]; rfl
    · rw [if_neg e2] at h2 g3 ⊢
      rw [if_neg e2, if_neg (by omega), h2.1, h2.2]; rfl

theorem manyX_enc {α : Type} {b : List UInt8} {f : Nat → Option (α × Nat)} {g : α → List UInt8} (l : List α) (hf : ∀ x, x ∈ l → ∀ k r, b.drop k = g x ++ r → f k = some (x, k + (g x).length)) :
    ∀ (k : Nat) (r : List UInt8), b.drop k = l.flatMap g ++ r → k ≤ b.length → manyX f l.length k = some (l, k + (l.flatMap g).length) := by
  induction l with
  | nil => intro k r _ _; rfl
  | cons x l ih =>
    intro k r h hk
    simp only [List.flatMap_cons, List.append_assoc] at h
    simp only [List.length_cons, manyX]
    rw [hf x (by simp) k _ h]
    simp only
    have hd : b.drop (k + (g x).length) = l.flatMap g ++ r := by
      rw [← List.drop_drop, h, List.drop_left]
    have hle : k + (g x).length ≤ b.length := by
      have := congrArg List.length h
      simp only [List.length_drop, List.length_append] at this
      omega
    rw [ih (fun y hy => hf y (by simp [hy])) _ r hd hle]
    simp [Nat.add_assoc]

theorem refDecode_spec {b : List UInt8} {s : St} (h : refDecode b = some s) : rightS s = true ∧ enc s = b := by
  unfold refDecode at h
  split at h
  · cases h
  · rename_i l k hm
    split at h
    · cases h
    · rename_i a k' ha
      split at h
      · cases h
      · rename_i hc
        injection h with h
        subst h
        have c1 : 0 ≤ atB b (k + 3) := by omega
        have c2 : k' = b.length := by
          rcases Classical.em (k' = b.length) with e | e
          · exact e
          · exact absurd (.inr (.inl e)) hc
        have c3 : rightS ⟨l, atB b k, atB b (k + 1), atB b (k + 2), a⟩ = true := by
          cases e : rightS ⟨l, atB b k, atB b (k + 1), atB b (k + 2), a⟩ with
          | true => rfl
          | false => exact absurd (.inr (.inr e)) hc
        refine ⟨c3, ?_⟩
        obtain ⟨l1, l2, _⟩ := manyX_spec (fun k x k' => nodeX_spec) _ _ _ _ hm
        obtain ⟨a1, a2, _⟩ := manyX_spec (fun k x k' => namedX_spec) _ _ _ _ ha
        have hk3 := atB_lt c1
        have g0 : 0 ≤ atB b 0 := by rw [atB_get (by omega)]; omega
        have gk : 0 ≤ atB b k := by rw [atB_get (by omega)]; omega
        have gk1 : 0 ≤ atB b (k + 1) := by rw [atB_get (by omega)]; omega
        have gk2 : 0 ≤ atB b (k + 2) := by rw [atB_get (by omega)]; omega
        rw [c2, List.drop_eq_nil_of_le (Nat.le_refl _), List.append_nil] at a2
        have e0 := byteOf_atB g0
        rw [List.drop_zero] at e0
        have key : b = byteOf (atB b 0) :: (l.flatMap nodeB ++ (byteOf (atB b k) :: byteOf (atB b (k + 1)) :: byteOf (atB b (k + 2)) :: byteOf (atB b (k + 3)) :: a.flatMap nameB)) := by
          have d1 : b.drop k = byteOf (atB b k) :: byteOf (atB b (k + 1)) :: byteOf (atB b (k + 2)) :: byteOf (atB b (k + 3)) :: a.flatMap nameB := by
            rw [byteOf_atB gk, byteOf_atB gk1, byteOf_atB gk2, byteOf_atB c1, a2]
          rw [d1] at l2
          exact e0.trans (congrArg (byteOf (atB b 0) :: ·) l2)
        refine Eq.trans ?_ key.symm
        unfold enc
        simp only
        rw [l1, a1, show (((atB b 0).toNat : Nat) : Int) = atB b 0 by omega, show (((atB b (k + 3)).toNat : Nat) : Int) = atB b (k + 3) by omega]
        simp

theorem refDecode_enc {s : St} (h : rightS s = true) : refDecode (enc s) = some s := by
  obtain ⟨f1, f2, f3, f4, f5, f6, f7⟩ := rightS_fit h
  have hb : ∀ n : Int, 0 ≤ n → n < 256 → ((byteOf n).toNat : Int) = n := fun n g1 g2 => by
    unfold byteOf
    rw [UInt8.toNat_ofNat', Int.emod_eq_of_lt g1 g2]; omega
  generalize he : enc s = b
  have e : b = byteOf s.l.length :: (s.l.flatMap nodeB ++ (byteOf s.pl :: byteOf s.how :: byteOf s.n :: byteOf s.a.length :: (s.a.flatMap nameB ++ []))) := by rw [← he]; simp [enc]
  have e' : b.drop 0 = byteOf s.l.length :: (s.l.flatMap nodeB ++ (byteOf s.pl :: byteOf s.how :: byteOf s.n :: byteOf s.a.length :: (s.a.flatMap nameB ++ []))) := e
  obtain ⟨p0, p1, p2⟩ := drop_at e'
  rw [hb _ (by omega) (by omega)] at p1
  have m1 := manyX_enc (f := nodeX b) s.l (fun x hx k r hd => nodeX_enc (f2 x hx) hd) 1 _ p2 (by omega)
  unfold refDecode
  rw [p1, Int.toNat_natCast, m1]
  simp only
  have hk : b.drop (1 + (s.l.flatMap nodeB).length) = byteOf s.pl :: byteOf s.how :: byteOf s.n :: byteOf s.a.length :: (s.a.flatMap nameB ++ []) := by
    rw [← List.drop_drop, p2, List.drop_left]
  generalize hK : 1 + (s.l.flatMap nodeB).length = K at hk ⊢
  obtain ⟨_, q1, q2⟩ := drop_at hk
  obtain ⟨_, r1, r2⟩ := drop_at q2
  obtain ⟨_, s1, s2⟩ := drop_at r2
  obtain ⟨t0, t1, t2⟩ := drop_at s2
  rw [hb _ f3.1 f3.2] at q1
  rw [hb _ f4.1 f4.2] at r1
  rw [hb _ f5.1 f5.2] at s1
  rw [hb _ (by omega) (by omega)] at t1
  have m2 := manyX_enc (f := namedX b) s.a (fun x hx k r hd => namedX_enc (f7 x hx) hd) (K + 4) [] t2 (by omega)
  rw [show K + 2 + 1 = K + 3 from rfl] at t1
  rw [show K + 1 + 1 = K + 2 from rfl] at s1
  rw [t1, Int.toNat_natCast, m2]
  simp only
  have hlen : K + 4 + (s.a.flatMap nameB).length = b.length := by
    have h1 := congrArg List.length t2
    simp only [List.length_drop, List.length_append, List.length_nil] at h1
    omega
  rw [q1, r1, s1, if_neg]
  rintro (g | g | g)
  · omega
  · exact g hlen
  · rw [h] at g; cases g

theorem refDecode_eq (b : List UInt8) : refDecode b = decode b := by
  cases e : refDecode b with
  | some s =>
    obtain ⟨h1, h2⟩ := refDecode_spec e
    rw [← h2, decode_enc h1]
  | none =>
    cases g : decode b with
    | none => rfl
    | some s =>
      obtain ⟨h1, h2⟩ := decode_spec g
      have := refDecode_enc h1
      rw [h2, e] at this
      cases this

end Go.Av
namespace Go.Av
open Go Go.Proofs

theorem sllB2 {l : List UInt8} {p : Perm} {a b : Nat} (h : a ≤ b) (h2 : b ≤ l.length) : ∃ q, sll 1 (bytA l p) (some (I a)) (some (I b)) none = some (bytA ((l.drop a).take (b - a)) q) := by
  refine ⟨if p = .exact ∧ b = l.length then .exact else .no, ?_⟩
  simp [sll, bound, h, h2, List.drop_take]

theorem ref19_at_ok (b : List UInt8) (p : Perm) (k : Nat) : Pur ref19_at [bytA b p, I k] (I (atB b k)) := by
  intro H
  refine ref19_at_of ?_
  unfold W_ref19_at
  simp only [bop_lss, bop_geq, lnl_lst, List.length_map, pureK_some, condK_B, decide_eq_true_eq, decide_eq_false_iff_not]
  refine ⟨fun h => by omega, fun _ => ⟨fun h => ret1_of H (Heap.le_refl _) ⟨by rw [atB_none (by omega)], rfl⟩, fun h => ?_⟩⟩
  have hk : k < b.length := by omega
  rw [ias_byt (by omega) (by omega)]
  simp only [pureK_some, ld_cp, cutE_one, get0, Int.toNat_natCast]
  rw [cv_i64]
  simp only [pureK_some]
  exact ret1_of H (Heap.le_refl _) ⟨by rw [atB_get hk], rfl⟩

def namedV (o : Option (ByteArray × Nat)) : AV := match o with | some x => .tup [S x.1, I x.2] | none => .tup [S emp, I (-1)]

theorem ref19_named_ok (b : List UInt8) (p : Perm) (k : Nat) (hb : b.length ≤ 1000000) (hk : k ≤ 2000000) : Pur ref19_named [bytA b p, I k] (namedV (namedX b k)) := by
  intro H
  refine ref19_named_of ?_
  unfold W_ref19_named
  refine (ref19_at_ok b p k).run ?_
  have hr := atB_range b k
  simp only [bop_lss, pureK_some, condK_B, decide_eq_true_eq, decide_eq_false_iff_not]
  refine ⟨fun h => ret1_of H (Heap.le_refl _) ⟨by simp [namedX, h, namedV], rfl⟩, fun h => ?_⟩
  have hkl := atB_lt (b := b) (k := k) (by omega)
  have e1 : (k : Int) + 1 = ((k + 1 : Nat) : Int) := by omega
  have e2 : ((k + 1 : Nat) : Int) + atB b k = ((k + 1 + (atB b k).toNat : Nat) : Int) := by omega
  simp only [bop_add (show -9223372036854775808 ≤ (k : Int) + 1 by omega) (show (k : Int) + 1 < 9223372036854775808 by omega), pureK_some, e1]
  simp only [bop_add (show -9223372036854775808 ≤ ((k + 1 : Nat) : Int) + atB b k by omega) (show ((k + 1 : Nat) : Int) + atB b k < 9223372036854775808 by omega), pureK_some, e2, lnl_lst, List.length_map, bop_gtr, condK_B, decide_eq_true_eq, decide_eq_false_iff_not]
  refine ⟨fun h2 => ret1_of H (Heap.le_refl _) ⟨?_, rfl⟩, fun h2 => ?_⟩
  · unfold namedX; rw [if_pos (.inr (by omega))]; rfl
  · obtain ⟨q, e3⟩ := sllB2 (l := b) (p := p) (a := k + 1) (b := k + 1 + (atB b k).toNat) (by omega) (by omega)
    rw [e3]
    simp only [pureK_some]
    rw [cv_toStr]
    simp only [pureK_some]
    refine ret1_of H (Heap.le_refl _) ⟨?_, rfl⟩
    unfold namedX
    rw [if_neg (by omega)]
    simp [namedV]

theorem ref19_node_ok (b : List UInt8) (p : Perm) (k : Nat) (hb : b.length ≤ 1000000) (hk : k ≤ 1000000) :
    PurR ref19_node [bytA b p, I k] (fun r => match nodeX b k with | some x => r = .tup [nd x.1, I x.2] | none => ∃ y : Node, r = .tup [nd y, I (-1)]) := by
  intro H
  refine ref19_node_of ?_
  unfold W_ref19_node
  intro o ho
  have hle : ∀ cs, H ≤ H.upd o (.cells cs) := fun cs => by simp [ho]
  refine (ref19_at_ok b p k).run ?_
  have hr := atB_range b k
  have ez : bld [(0, 1), (1, 1), (2, 1)] [I 0, S emp, I 0] [] = some (nd ⟨0, emp, 0⟩) := rfl
  have e1 : (k : Int) + 1 = ((k + 1 : Nat) : Int) := by omega
  have e2 : (k : Int) + 2 = ((k + 2 : Nat) : Int) := by omega
  have hadd := bop_add (bk := .plain) (a := k) (b := 1) (by omega) (by omega)
  have hadd2 := bop_add (bk := .plain) (a := k) (b := 2) (by omega) (by omega)
  rw [e1] at hadd
  rw [e2] at hadd2
  simp only [bop_eql, pureK_some]
  have sign : atB b k ≠ 1 → (atB b k = 11 ∨ atB b k = 14) → 
      ACalls PP gΓ ref19_at [bytA b p, I ((k + 1 : Nat) : Int)] (H.upd o (.cells [I 0, S emp, I 0])) fun x16 H17 =>
       pureK (bop .plain .lss x16 (I 0)) fun x18 =>
       condK x18 (
        pureK (bld [(0, 1), (1, 1), (2, 1)] [.sc (.int .i64 0), S emp, .sc (.int .i64 0)] []) fun x19 =>
        heapK (st 3 H17 (.ptr o 0) x19) fun H20 =>
        pureK (ld (some true) 3 H20 (.ptr o 0)) fun x21 =>
        ret1 H20 (fun r H' => (match nodeX b k with | some x => r = .tup [nd x.1, I x.2] | none => ∃ y : Node, r = .tup [nd y, I (-1)]) ∧ H' = H) (.tup [x21, I (-1)])
       ) (
        pureK (some (I ((k + 1 : Nat) : Int))) fun x22 =>
        ACalls PP gΓ ref19_at [bytA b p, x22] H17 fun x23 H24 =>
        pureK (bld [(0, 1), (1, 1), (2, 1)] [.sc (.int .i64 0), S emp, .sc (.int .i64 0)] [(0, I (atB b k)), (2, x23)]) fun x25 =>
        pureK (some (I ((k + 2 : Nat) : Int))) fun x26 =>
        heapK (st 3 H24 (.ptr o 0) x25) fun H27 =>
        pureK (ld (some true) 3 H27 (.ptr o 0)) fun x28 =>
        ret1 H27 (fun r H' => (match nodeX b k with | some x => r = .tup [nd x.1, I x.2] | none => ∃ y : Node, r = .tup [nd y, I (-1)]) ∧ H' = H) (.tup [x28, x26])
       ) := by
    intro h1 h2
    refine (ref19_at_ok b p (k + 1)).run ?_
    simp only [bop_lss, pureK_some, condK_B, decide_eq_true_eq, decide_eq_false_iff_not]
    refine ⟨fun h3 => ?_, fun h3 => ?_⟩
    · rw [ez]
      simp only [pureK_some]
      rw [st_nd3]
      simp only [heapK_some]
      rw [ld_nd (n := ⟨0, emp, 0⟩)]
      simp only [pureK_some]
      refine ret1_of H (hle _) ⟨?_, rfl⟩
      have : nodeX b k = none := by unfold nodeX; rw [if_neg h1, if_pos h2, if_pos h3]
      rw [this]; exact ⟨_, rfl⟩
    · refine (ref19_at_ok b p (k + 1)).run ?_
      rw [bld_02]
      simp only [pureK_some]
      rw [st_nd3]
      simp only [heapK_some]
      rw [ld_nd (n := ⟨atB b k, emp, atB b (k + 1)⟩)]
      simp only [pureK_some]
      refine ret1_of H (hle _) ⟨?_, rfl⟩
      have : nodeX b k = some (⟨atB b k, emp, atB b (k + 1)⟩, k + 2) := by unfold nodeX; rw [if_neg h1, if_pos h2, if_neg h3]
      rw [this]
  simp only [hadd, hadd2]
  by_cases h1 : atB b k = 1
  · simp only [h1, decide_true, condK_t, pureK_some]
    refine (ref19_named_ok b p (k + 1) hb (by omega)).run ?_
    cases hn : namedX b (k + 1) with
    | none =>
      simp only [namedV, extractE_tup, get0, get1, pureK_some]
      rw [bld_01]
      simp only [pureK_some]
      rw [st_nd3]
      simp only [heapK_some]
      rw [ld_nd (n := ⟨1, emp, 0⟩)]
      simp only [pureK_some]
      refine ret1_of H (hle _) ⟨?_, rfl⟩
      have : nodeX b k = none := by unfold nodeX; rw [if_pos h1, hn]; rfl
      rw [this]; exact ⟨_, rfl⟩
    | some x =>
      simp only [namedV, extractE_tup, get0, get1, pureK_some]
      rw [bld_01]
      simp only [pureK_some]
      rw [st_nd3]
      simp only [heapK_some]
      rw [ld_nd (n := ⟨1, x.1, 0⟩)]
      simp only [pureK_some]
      refine ret1_of H (hle _) ⟨?_, rfl⟩
      have : nodeX b k = some (⟨1, x.1, 0⟩, x.2) := by unfold nodeX; rw [if_pos h1, hn]; rfl
      rw [this]
  · simp only [decide_eq_false h1, condK_f]
    by_cases h11 : atB b k = 11
    · simp only [h11, decide_true, condK_t, pureK_some]
      have := sign h1 (.inl h11)
      simp only [pureK_some, h11] at this
      exact this
    · simp only [decide_eq_false h11, condK_f]
      by_cases h14 : atB b k = 14
      · simp only [h14, decide_true, condK_t, pureK_some]
        have := sign h1 (.inr h14)
        simp only [pureK_some, h14] at this
        exact this
      · simp only [decide_eq_false h14, condK_f]
        simp only [bop_lss, pureK_some, condK_B, decide_eq_true_eq, decide_eq_false_iff_not]
        have h2 : ¬ (atB b k = 11 ∨ atB b k = 14) := by omega
        refine ⟨fun h3 => ?_, fun h3 => ?_⟩
        · rw [ez]
          simp only [pureK_some]
          rw [st_nd3]
          simp only [heapK_some]
          rw [ld_nd (n := ⟨0, emp, 0⟩)]
          simp only [pureK_some]
          refine ret1_of H (hle _) ⟨?_, rfl⟩
          have : nodeX b k = none := by unfold nodeX; rw [if_neg h1, if_neg h2, if_pos h3]
          rw [this]; exact ⟨_, rfl⟩
        · rw [bld_0]
          simp only [pureK_some]
          rw [st_nd3]
          simp only [heapK_some]
          rw [ld_nd (n := ⟨atB b k, emp, 0⟩)]
          simp only [pureK_some]
          refine ret1_of H (hle _) ⟨?_, rfl⟩
          have : nodeX b k = some (⟨atB b k, emp, 0⟩, k + 1) := by unfold nodeX; rw [if_neg h1, if_neg h2, if_neg h3]
          rw [this]

/-- What the loops of the document's Decode keep. -/
structure DJ (H HX : Heap) (o1 os : Nat) (cs : List AV) : Prop where
  le : H ≤ HX
  os : HX os = .some (.cells cs)
  o1 : HX o1 = .some (.cells zeroC)
theorem DJ.keep {H HX HY : Heap} {o1 os : Nat} {cs : List AV} (h : DJ H HX o1 os cs) (hle : H ≤ HY) (hk : ∀ o cs, HX o = .some (.cells cs) → HY o = .some (.cells cs)) : DJ H HY o1 os cs := ⟨hle, hk _ _ h.os, hk _ _ h.o1⟩
theorem DJ.upd {H HX : Heap} {o1 os i : Nat} {x : AObj} {cs : List AV} (h : DJ H HX o1 os cs) (h1 : o1 ≠ i) (h3 : os ≠ i) (hi : H i = none) : DJ H (HX.upd i x) o1 os cs :=
  ⟨Heap.le_upd h.le hi, by rw [Heap.upd_ne _ _ h3]; exact h.os, by rw [Heap.upd_ne _ _ h1]; exact h.o1⟩
theorem DJ.ups {H HX : Heap} {o1 os : Nat} {cs ds : List AV} (h : DJ H HX o1 os cs) (h1 : o1 ≠ os) (hi : H os = none) : DJ H (HX.upd os (.cells ds)) o1 os ds :=
  ⟨Heap.le_upd h.le hi, Heap.upd_same _ _ _, by rw [Heap.upd_ne _ _ h1]; exact h.o1⟩

theorem manyX_bound {α : Type} {f : Nat → Option (α × Nat)} {L : Nat} (hf : ∀ k x k', f k = some (x, k') → k < k' ∧ k' ≤ L) : ∀ (n k : Nat) (l : List α) (k' : Nat), manyX f n k = some (l, k') → k ≤ L → k' ≤ L := by
  intro n
  induction n with
  | zero => intro k l k' h hk; injection h with h; injection h with _ h2; omega
  | succ n ih =>
    intro k l k' h hk
    simp only [manyX] at h
    cases hx : f k with
    | none => rw [hx] at h; cases h
    | some y =>
      obtain ⟨x, k1⟩ := y
      rw [hx] at h
      simp only at h
      cases hm : manyX f n k1 with
      | none => rw [hm] at h; cases h
      | some z =>
        rw [hm] at h
        injection h with h
        injection h with _ h2
        subst h2
        exact ih k1 z.1 z.2 hm (hf k x k1 hx).2

theorem manyX_all {α : Type} {f : Nat → Option (α × Nat)} {Q : α → Prop} (hf : ∀ k x k', f k = some (x, k') → Q x) : ∀ (n k : Nat) (l : List α) (k' : Nat), manyX f n k = some (l, k') → ∀ x, x ∈ l → Q x := by
  intro n
  induction n with
  | zero => intro k l k' h x hx; injection h with h; injection h with h1 _; subst h1; simp at hx
  | succ n ih =>
    intro k l k' h x hx
    simp only [manyX] at h
    cases hy : f k with
    | none => rw [hy] at h; cases h
    | some y =>
      obtain ⟨y, k1⟩ := y
      rw [hy] at h
      simp only at h
      cases hm : manyX f n k1 with
      | none => rw [hm] at h; cases h
      | some z =>
        rw [hm] at h
        injection h with h
        injection h with h1 _
        subst h1
        rcases List.mem_cons.1 hx with rfl | hx
        · exact hf k _ k1 hy
        · exact ih k1 z.1 z.2 hm x hx

theorem namedX_size {b : List UInt8} {k k' : Nat} {s : ByteArray} (h : namedX b k = some (s, k')) : s.size ≤ 255 := by
  have hr := atB_range b k
  unfold namedX at h
  split at h
  · cases h
  · injection h with h
    injection h with h1 _
    subst h1
    show ((b.drop (k + 1)).take (atB b k).toNat).toArray.size ≤ 255
    rw [List.size_toArray, List.length_take]; omega
theorem nodeX_size {b : List UInt8} {k k' : Nat} {x : Node} (h : nodeX b k = some (x, k')) : x.name.size ≤ 255 := by
  unfold nodeX at h
  split at h
  · cases hn : namedX b (k + 1) with
    | none => rw [hn] at h; cases h
    | some y =>
      rw [hn] at h
      injection h with h
      injection h with h1 _
      subst h1
      exact namedX_size (s := y.1) (k' := y.2) hn
  · split at h
    · split at h
      · cases h
      · injection h with h; injection h with h1 _; subst h1; show emp.size ≤ 255; decide
    · split at h
      · cases h
      · injection h with h; injection h with h1 _; subst h1; show emp.size ≤ 255; decide

theorem ref19_Decode_ok (b : List UInt8) (p : Perm) (hb : b.length ≤ 900000) : Pur ref19_Decode [bytA b p] (decV (refDecode b)) := by
  refine Pur.weaken (φ := fun r => Weaker r (decV (refDecode b))) (fun H => ?_) (fun r h => h)
  refine ref19_Decode_of ?_
  unfold W_ref19_Decode
  intro o1 f1 os f3
  simp only [upd_none_iff] at f3
  obtain ⟨n31', f3⟩ := f3
  have n31 : o1 ≠ os := fun e => n31' e.symm
  have hD0 : DJ H ((H.upd o1 (.cells zeroC)).upd os (.cells zeroC)) o1 os zeroC := ⟨by simp [f1, f3], Heap.upd_same _ _ _, by rw [Heap.upd_ne _ _ n31, Heap.upd_same]⟩
  generalize (H.upd o1 (.cells zeroC)).upd os (.cells zeroC) = H4 at hD0
  have fail : ∀ (HY : Heap) (cs : List AV), DJ H HY o1 os cs → refDecode b = none → pureK (bld [(0, 1), (1, 2), (3, 1), (4, 1)] [.lst 0 [] .exact, .sc (.int .i64 0), .sc (.int .i64 0), .sc (.int .i64 0), .lst 0 [] .exact] []) fun x24 =>
      heapK (st 5 HY (.ptr o1 0) x24) fun H25 => pureK (ld (some true) 5 H25 (.ptr o1 0)) fun x26 => ret1 H25 (fun r H' => Weaker r (decV (refDecode b)) ∧ H' = H) (.tup [x26, I 190]) := by
    intro HY cs hD hd
    rw [bld_zero]
    simp only [pureK_some]
    rw [st_get (n := 5) (off := 0) (v := .agg zeroC) (r := zeroC) hD.o1 rfl (by simp) rfl rfl]
    simp only [heapK_some, ld_upd, cutE_agg, List.length_cons, List.length_nil, List.drop_zero, List.take_succ_cons, List.take_zero, Nat.zero_add, Nat.reduceAdd, Nat.le_refl, if_true, pureK_some]
    refine ret1_of H (Heap.le_upd hD.le f1) ⟨?_, rfl⟩
    rw [hd]
    exact Weaker.tup2 zeroW (Weaker.refl _)
  have r0 := atB_range b 0
  have bN : ∀ k x k', nodeX b k = some (x, k') → k < k' ∧ k' ≤ b.length + 1 := fun k x k' h => by have := nodeX_spec h; omega
  have bA : ∀ k x k', namedX b k = some (x, k') → k < k' ∧ k' ≤ b.length + 5 := fun k x k' h => by have := namedX_spec h; omega
  refine ⟨fun vs HX n => ∃ (l : List Node) (lv : AV) (k j : Nat), vs = [bytA b p, .ptr o1 0, .ptr os 0, I k, I j] ∧ n = (atB b 0).toNat - j ∧ j ≤ (atB b 0).toNat ∧ k ≤ b.length + 1 ∧ l.length = j ∧
      manyX (nodeX b) (atB b 0).toNat 1 = (manyX (nodeX b) ((atB b 0).toNat - j) k).map (fun y => (l ++ y.1, y.2)) ∧ DJ H HX o1 os [lv, I 0, I 0, I 0, .lst 0 [] .exact] ∧ Acc H HX 3 (l.map nd) lv,
    ⟨_, H4, Heap.le_refl _, [], .lst 0 [] .exact, 1, 0, rfl, rfl, Nat.zero_le _, by omega, rfl, ?_, hD0, .inl ⟨rfl, rfl⟩⟩, ?_⟩
  · rw [Nat.sub_zero]; cases manyX (nodeX b) (atB b 0).toNat 1 <;> simp
  rintro vs HX n ⟨l, lv, k, j, rfl, rfl, hj, hk, hlj, hm, hD, hacc⟩
  simp only [nth_zero, nth_succ]
  refine (ref19_at_ok b p 0).run ?_
  simp only [bop_lss, pureK_some, condK_B, decide_eq_true_eq, decide_eq_false_iff_not]
  refine ⟨fun h => ?_, fun h => ?_⟩
  · obtain ⟨m, hmm⟩ : ∃ m, (atB b 0).toNat - j = m + 1 := ⟨(atB b 0).toNat - j - 1, by omega⟩
    rw [hmm] at hm
    simp only [manyX] at hm
    refine (ref19_node_ok b p k (by omega) (by omega)).run ?_
    intro r hr
    cases hx : nodeX b k with
    | none =>
      rw [hx] at hr hm
      obtain ⟨y, rfl⟩ := hr
      simp only [extractE_tup, get0, get1, pureK_some]
      intro ox fx
      rw [st_nd3]
      simp only [heapK_some, bop_lss, pureK_some, show decide ((-1 : Int) < 0) = true from rfl, condK_t]
      have hHx : H ox = none := le_none hD.le fx
      refine fail _ _ (hD.upd (fun e => by subst e; rw [hD.o1] at fx; cases fx) (fun e => by subst e; rw [hD.os] at fx; cases fx) hHx) ?_
      unfold refDecode
      rw [hm]; rfl
    | some y =>
      obtain ⟨x, k1⟩ := y
      rw [hx] at hr hm
      subst hr
      simp only [extractE_tup, get0, get1, pureK_some]
      have hk1 := bN k x k1 hx
      intro ox fx
      rw [st_nd3]
      simp only [heapK_some, bop_lss, pureK_some, show decide ((k1 : Int) < 0) = false by rw [decide_eq_false_iff_not]; omega, condK_f]
      have hHx : H ox = none := le_none hD.le fx
      have hD2 := hD.upd (x := .cells [I x.kind, S x.name, I x.sign]) (i := ox) (fun e => by subst e; rw [hD.o1] at fx; cases fx) (fun e => by subst e; rw [hD.os] at fx; cases fx) hHx
      have hA2 := hacc.upd (x := .cells [I x.kind, S x.name, I x.sign]) (o := ox) (fun m e => by rw [fx] at e; cases e)
      have hox : (HX.upd ox (.cells [I x.kind, S x.name, I x.sign])) ox = some (.cells [I x.kind, S x.name, I x.sign]) := Heap.upd_same _ _ _
      generalize HX.upd ox (.cells [I x.kind, S x.name, I x.sign]) = HZ at hD2 hA2 hox ⊢
      simp only [fa_ptr, pureK_some, Nat.zero_add, ld_ptr hD2.os, ld_ptr hox, cutE_one, get0]
      rw [cut_nd]
      have e3 : bsl 3 (.agg [I 0, S emp, I 0]) 1 [(0, nd x)] = some (.lst 3 [nd x] .exact) := rfl
      simp only [pureK_some]
      rw [e3]
      simp only [pureK_some]
      refine acc_app (ys := [nd x]) hA2 hD2.le rfl (by simp [maxApp]; omega) fun v' HW hA4 hle4 hk4 => ?_
      have hD4 := hD2.keep hle4 hk4
      rw [st_get (n := 1) (off := 0) (r := [v', I 0, I 0, I 0, .lst 0 [] .exact]) hD4.os (by rw [hA4.cells.1]; rfl) (by rw [hA4.cells.1]; simp) (by rw [hA4.cells.1]; simp [hA4.cells.2]) (by rw [hA4.cells.1]; rfl)]
      simp only [heapK_some]
      rw [bop_add (by omega) (by omega)]
      simp only [pureK_some]
      refine ⟨(atB b 0).toNat - (j + 1), _, by omega, Heap.le_refl _, l ++ [x], v', k1, j + 1, rfl, rfl, by omega, hk1.2, by simp [hlj], ?_, hD4.ups n31 f3, ?_⟩
      · rw [show (atB b 0).toNat - (j + 1) = m by omega, hm]
        simp only
        cases manyX (nodeX b) m k1 <;> simp
      · rw [List.map_append]; exact hA4.upd (cells_tok hD4.os)
  · have hj0 : (atB b 0).toNat - j = 0 := by omega
    rw [hj0] at hm
    simp only [manyX, Option.map_some, List.append_nil] at hm
    have sz1 := manyX_all (fun k x k' h => nodeX_size (x := x) (k' := k') h) _ _ _ _ hm
    have hl255 : l.length ≤ 255 := by omega
    refine (ref19_at_ok b p k).run ?_
    have e1 : (k : Int) + 1 = ((k + 1 : Nat) : Int) := by omega
    have e2 : (k : Int) + 2 = ((k + 2 : Nat) : Int) := by omega
    have e3 : (k : Int) + 3 = ((k + 3 : Nat) : Int) := by omega
    have e4 : (k : Int) + 4 = ((k + 4 : Nat) : Int) := by omega
    have a1 := bop_add (bk := .plain) (a := k) (b := 1) (by omega) (by omega)
    have a2 := bop_add (bk := .plain) (a := k) (b := 2) (by omega) (by omega)
    have a3 := bop_add (bk := .plain) (a := k) (b := 3) (by omega) (by omega)
    have a4 := bop_add (bk := .plain) (a := k) (b := 4) (by omega) (by omega)
    rw [e1] at a1
    rw [e2] at a2
    rw [e3] at a3
    rw [e4] at a4
    rw [a1]
    simp only [pureK_some]
    refine (ref19_at_ok b p (k + 1)).run ?_
    have eb : bld [(0, 1), (1, 1)] [.sc (.int .i64 0), .sc (.int .i64 0)] [(0, I (atB b k)), (1, I (atB b (k + 1)))] = some (.agg [I (atB b k), I (atB b (k + 1))]) := rfl
    rw [eb]
    simp only [fa_ptr, pureK_some, Nat.zero_add]
    rw [st_get (n := 2) (off := 1) (v := .agg [I (atB b k), I (atB b (k + 1))]) (r := [lv, I (atB b k), I (atB b (k + 1)), I 0, .lst 0 [] .exact]) hD.os rfl (by simp) rfl rfl]
    simp only [heapK_some]
    rw [a2]
    simp only [pureK_some]
    refine (ref19_at_ok b p (k + 2)).run ?_
    have hD1 := hD.ups n31 f3 (ds := [lv, I (atB b k), I (atB b (k + 1)), I 0, .lst 0 [] .exact])
    generalize HX.upd os (.cells [lv, I (atB b k), I (atB b (k + 1)), I 0, .lst 0 [] .exact]) = H5 at hD1 ⊢
    rw [st_get (n := 1) (off := 3) (r := [lv, I (atB b k), I (atB b (k + 1)), I (atB b (k + 2)), .lst 0 [] .exact]) hD1.os rfl (by simp) rfl rfl]
    simp only [heapK_some]
    rw [a3]
    simp only [pureK_some]
    refine (ref19_at_ok b p (k + 3)).run ?_
    have hD2 := hD1.ups n31 f3 (ds := [lv, I (atB b k), I (atB b (k + 1)), I (atB b (k + 2)), .lst 0 [] .exact])
    generalize H5.upd os (.cells [lv, I (atB b k), I (atB b (k + 1)), I (atB b (k + 2)), .lst 0 [] .exact]) = H6 at hD2 ⊢
    rw [a4]
    simp only [pureK_some]
    have r3 := atB_range b (k + 3)
    generalize hM : atB b (k + 3) = M at r3 ⊢
    have hlw : Weaker lv (rowA l .no) := hacc.weak
    have hls : lv.single = true := hacc.cells.2
    refine ⟨fun vs HX n => ∃ (a : List ByteArray) (av : AV) (k2 i : Nat), vs = [bytA b p, .ptr o1 0, .ptr os 0, I k2, I M, I i] ∧ n = M.toNat - i ∧ i ≤ M.toNat ∧ k2 ≤ b.length + 5 ∧ a.length = i ∧
        manyX (namedX b) M.toNat (k + 4) = (manyX (namedX b) (M.toNat - i) k2).map (fun y => (a ++ y.1, y.2)) ∧ DJ H HX o1 os [lv, I (atB b k), I (atB b (k + 1)), I (atB b (k + 2)), av] ∧ Acc H HX 1 (a.map fun s => S s) av,
      ⟨_, H6, Heap.le_refl _, [], .lst 0 [] .exact, k + 4, 0, rfl, rfl, Nat.zero_le _, by omega, rfl, ?_, hD2, .inl ⟨rfl, rfl⟩⟩, ?_⟩
    · rw [Nat.sub_zero]; cases manyX (namedX b) M.toNat (k + 4) <;> simp
    rintro vs HX n ⟨a, av, k2, i, rfl, rfl, hi, hk2, hai, hm2, hD, hacc⟩
    simp only [nth_zero, nth_succ, bop_lss, pureK_some, condK_B, decide_eq_true_eq, decide_eq_false_iff_not]
    refine ⟨fun h => ?_, fun h => ?_⟩
    · obtain ⟨m, hmm⟩ : ∃ m, M.toNat - i = m + 1 := ⟨M.toNat - i - 1, by omega⟩
      rw [hmm] at hm2
      simp only [manyX] at hm2
      refine (ref19_named_ok b p k2 (by omega) (by omega)).run ?_
      cases hx : namedX b k2 with
      | none =>
        rw [hx] at hm2
        simp only [namedV, extractE_tup, get0, get1, bop_lss, pureK_some, show decide ((-1 : Int) < 0) = true from rfl, condK_t]
        refine fail _ _ hD ?_
        unfold refDecode
        rw [hm]
        simp only
        rw [hM, hm2]; rfl
      | some y =>
        obtain ⟨x, k3⟩ := y
        rw [hx] at hm2
        have hk3 := bA k2 x k3 hx
        simp only [namedV, extractE_tup, get0, get1, bop_lss, pureK_some, show decide ((k3 : Int) < 0) = false by rw [decide_eq_false_iff_not]; omega, condK_f]
        simp only [fa_ptr, pureK_some, Nat.zero_add, ld_ptr hD.os, cutE_one, get4]
        have e5 : bsl 1 (S emp) 1 [(0, S x)] = some (.lst 1 [S x] .exact) := rfl
        rw [e5]
        simp only [pureK_some]
        refine acc_app (ys := [S x]) hacc hD.le rfl (by simp [maxApp]; omega) fun v' HW hA4 hle4 hk4 => ?_
        have hD4 := hD.keep hle4 hk4
        rw [st_get (n := 1) (off := 4) (r := [lv, I (atB b k), I (atB b (k + 1)), I (atB b (k + 2)), v']) hD4.os (by rw [hA4.cells.1]; rfl) (by rw [hA4.cells.1]; simp) (by rw [hA4.cells.1]; simp [hA4.cells.2]) (by rw [hA4.cells.1]; rfl)]
        simp only [heapK_some]
        rw [bop_add (by omega) (by omega)]
        simp only [pureK_some]
        refine ⟨M.toNat - (i + 1), _, by omega, Heap.le_refl _, a ++ [x], v', k3, i + 1, rfl, rfl, by omega, hk3.2, by simp [hai], ?_, hD4.ups n31 f3, ?_⟩
        · rw [show M.toNat - (i + 1) = m by omega, hm2]
          simp only
          cases manyX (namedX b) m k3 <;> simp
        · rw [List.map_append]; exact hA4.upd (cells_tok hD4.os)
    · have hi0 : M.toNat - i = 0 := by omega
      rw [hi0] at hm2
      simp only [manyX, Option.map_some, List.append_nil] at hm2
      have sz2 := manyX_all (fun k x k' h => namedX_size (s := x) (k' := k') h) _ _ _ _ hm2
      have ha255 : a.length ≤ 255 := by omega
      have hdec : refDecode b = if M < 0 ∨ k2 ≠ b.length ∨ rightS ⟨l, atB b k, atB b (k + 1), atB b (k + 2), a⟩ = false then none else some ⟨l, atB b k, atB b (k + 1), atB b (k + 2), a⟩ := by
        unfold refDecode
        rw [hm]
        simp only
        rw [hM, hm2]
      refine ⟨fun h1 => fail _ _ hD (by rw [hdec, if_pos (.inl h1)]), fun h1 => ?_⟩
      simp only [lnl_lst, List.length_map, bop_neq, pureK_some, condK_B, Bool.not_eq_true', Bool.not_eq_false', decide_eq_true_eq, decide_eq_false_iff_not]
      refine ⟨fun h2 => fail _ _ hD (by rw [hdec, if_pos (.inr (.inl (by omega)))]), fun h2 => ?_⟩
      have haw : Weaker av (txtA a .no) := hacc.weak
      have has : av.single = true := hacc.cells.2
      rw [ld_ptr hD.os]
      simp only [cutE_agg, List.length_cons, List.length_nil, List.drop_zero, List.take_succ_cons, List.take_zero, Nat.zero_add, Nat.reduceAdd, Nat.le_refl, if_true, pureK_some]
      have hfit : Fits ⟨l, atB b k, atB b (k + 1), atB b (k + 2), a⟩ := ⟨by show small l.length; unfold small; omega, fun x hx => by have := sz1 x hx; omega, by show small a.length; unfold small; omega, fun x hx => by have := sz2 x hx; omega⟩
      have hR : Pur ref19_Right [.agg [lv, I (atB b k), I (atB b (k + 1)), I (atB b (k + 2)), av]] (B (rightS ⟨l, atB b k, atB b (k + 1), atB b (k + 2), a⟩)) := fun H => ACalls.arg1 (stW (s := ⟨l, atB b k, atB b (k + 1), atB b (k + 2), a⟩) hlw haw) (ref19_Right_ok hfit .no .no H)
      refine hR.run ?_
      simp only [unE_not, pureK_some]
      cases hrr : rightS ⟨l, atB b k, atB b (k + 1), atB b (k + 2), a⟩ with
      | false =>
        rw [Bool.not_false, condK_t]
        exact fail _ _ hD (by rw [hdec, if_pos (.inr (.inr hrr))])
      | true =>
        rw [Bool.not_true, condK_f, ld_ptr hD.os]
        simp only [cutE_agg, List.length_cons, List.length_nil, List.drop_zero, List.take_succ_cons, List.take_zero, Nat.zero_add, Nat.reduceAdd, Nat.le_refl, if_true, pureK_some]
        rw [st_get (n := 5) (off := 0) (r := [lv, I (atB b k), I (atB b (k + 1)), I (atB b (k + 2)), av]) hD.o1 rfl (by simp) (by simp [hls, has]) rfl]
        simp only [heapK_some, ld_upd, cutE_agg, List.length_cons, List.length_nil, List.drop_zero, List.take_succ_cons, List.take_zero, Nat.zero_add, Nat.reduceAdd, Nat.le_refl, if_true, pureK_some]
        refine ret1_of H (Heap.le_upd hD.le f1) ⟨?_, rfl⟩
        rw [hdec, if_neg (by
          rintro (g | g | g)
          · exact h1 g
          · omega
          · rw [hrr] at g; cases g)]
        exact Weaker.tup2 (stW (s := ⟨l, atB b k, atB b (k + 1), atB b (k + 2), a⟩) hlw haw) (Weaker.refl _)

theorem law19_CodeDecodes_ok (b : List UInt8) (p : Perm) : Pur law19_CodeDecodes [bytA b p] (B true) := by
  intro H
  refine law19_CodeDecodes_of ?_
  unfold W_law19_CodeDecodes
  simp only [lnl_lst, List.length_map, pureK_some, bop_gtr, condK_B, decide_eq_true_eq, decide_eq_false_iff_not]
  refine ⟨fun _ => law19_alive_ok.run (ret1_of H (Heap.le_refl _) ⟨rfl, rfl⟩), fun hlen => ?_⟩
  have hb : b.length ≤ 3000 := by omega
  have hval : ∃ (s : St) (e : Int), decV (decode b) = .tup [stA s .no .no, I e] ∧ Fits s := by
    cases hd : decode b with
    | none => exact ⟨zeroSt, 190, rfl, zero_fits⟩
    | some s => exact ⟨s, 0, rfl, rightS_fits (decode_spec hd).1⟩
  obtain ⟨s, e, hv, hf⟩ := hval
  refine (code_Decode_ok b p (by omega)).run ?_
  rw [hv]
  rw [show extractE (.tup [stA s .no .no, I e]) 0 = some (stA s .no .no) from rfl, show extractE (.tup [stA s .no .no, I e]) 1 = some (I e) from rfl]
  simp only [pureK_some]
  intro o h
  rw [st_st rfl]
  simp only [heapK_some]
  have hle0 : H ≤ H.upd o (.cells (stC s .no .no)) := by simp [h]
  have g0 : (H.upd o (.cells (stC s .no .no))) o = some (.cells (stC s .no .no)) := Heap.upd_same _ _ _
  generalize H.upd o (.cells (stC s .no .no)) = HB at hle0 g0 ⊢
  refine (ref19_Decode_ok b p (by omega)).run ?_
  rw [refDecode_eq, hv]
  rw [show extractE (.tup [stA s .no .no, I e]) 0 = some (stA s .no .no) from rfl, show extractE (.tup [stA s .no .no, I e]) 1 = some (I e) from rfl]
  simp only [pureK_some]
  intro o2 h2
  rw [st_st rfl]
  simp only [heapK_some]
  have hle1 : H ≤ HB.upd o2 (.cells (stC s .no .no)) := Heap.le_upd hle0 (le_none hle0 h2)
  have m1 : (HB.upd o2 (.cells (stC s .no .no))) o = some (.cells (stC s .no .no)) := by
    rw [Heap.upd_ne _ _ (fun e => by subst e; rw [h2] at g0; cases g0)]; exact g0
  have m2 : (HB.upd o2 (.cells (stC s .no .no))) o2 = some (.cells (stC s .no .no)) := Heap.upd_same _ _ _
  generalize HB.upd o2 (.cells (stC s .no .no)) = HC at hle1 m1 m2 ⊢
  refine ⟨_, law19_alive_ok.reads, ?_⟩
  rw [condK_t, cut_st m1, cut_st m2]
  simp only [pureK_some]
  refine ⟨_, (law19_Old_ok s .no .no).reads, _, (ref19_Same_ok s s .no .no .no .no hf.l hf.a).reads, ?_⟩
  simp only [eq_self, decide_true, condK_t, bop_eql, pureK_some]
  exact ret1_of H hle1 ⟨rfl, rfl⟩

end Go.Av
