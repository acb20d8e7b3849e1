/- Own text C8 of this claim: see the text that holds the theorem. -/
import Derived.Test.YtddolbhaekekaaaGreatDoorC7
set_option linter.all false
set_option maxRecDepth 100000
namespace Go.Av
open Go Go.Proofs

def setL (f : Nat → Bool) : List AV := (List.range 256).map fun i => B (f i)
theorem setL_length (f : Nat → Bool) : (setL f).length = 256 := by simp [setL]
theorem setL_get (f : Nat → Bool) {i : Nat} (h : i < 256) : (setL f)[i]? = some (B (f i)) := by simp [setL, h]
abbrev U (b : UInt8) : AV := .sc (.int .u8 b.toNat)

theorem contains_ok (f : Nat → Bool) (b : UInt8) {H : Heap} {o : Nat} (hH : H o = some (.cells (setL f))) : ACalls PP gΓ strings_asciiSet_contains [.ptr o 0, U b] H (fun r H' => r = B (f b.toNat) ∧ H' = H) := by
  refine strings_asciiSet_contains_of ?_
  unfold W_strings_asciiSet_contains
  have hb : b.toNat < 256 := b.toNat_lt
  have e : iaa 256 1 (.ptr o 0) (U b) = some (.ptr o b.toNat) := by
    simp only [iaa]; rw [if_pos ⟨by omega, by omega⟩]; simp
  simp only [nilE_ptr, pureK_some]
  rw [e]
  simp only [pureK_some]
  rw [ld_ptr hH, cutE_one, setL_get f hb]
  simp

theorem ixs_S {s : ByteArray} {i : Nat} (h : i < s.size) : ixs (S s) (I i) = some (U s[i]) := by
  simp [ixs, h]
theorem sls_hi {s : ByteArray} {m : Nat} (h : m ≤ s.size) : sls (S s) none (some (I m)) none = some (S (s.extract 0 m)) := by
  simp [sls, bound, h]
theorem sls_lo {s : ByteArray} {m : Nat} (h : m ≤ s.size) : sls (S s) (some (I m)) none none = some (S (s.extract m s.size)) := by
  simp [sls, bound, h]

def small' (s : ByteArray) : Prop := s.size ≤ 1000000

theorem trimRight_ok (f : Nat → Bool) (s : ByteArray) (hs : small' s) {H : Heap} {o : Nat} (hH : H o = some (.cells (setL f))) :
    ACalls PP gΓ strings_trimRightASCII [S s, .ptr o 0] H (fun r H' => (∃ m, m ≤ s.size ∧ r = S (s.extract 0 m) ∧ (∀ i (h : i < s.size), m ≤ i → f s[i].toNat = true) ∧ (∀ h : m - 1 < s.size, m = 0 ∨ f s[m - 1].toNat = false)) ∧ H' = H) := by
  unfold small' at hs
  refine strings_trimRightASCII_of ?_
  unfold W_strings_trimRightASCII
  refine ⟨fun vs H' n => ∃ m, m ≤ s.size ∧ vs = [S (s.extract 0 m), .ptr o 0] ∧ H' = H ∧ n = m ∧ (∀ i (h : i < s.size), m ≤ i → f s[i].toNat = true), ⟨_, H, Heap.le_refl _, s.size, Nat.le_refl _, by rw [ByteArray.extract_zero_size], rfl, rfl, fun i h h2 => by omega⟩, ?_⟩
  rintro vs H' n ⟨m, hm, rfl, rfl, rfl, hin⟩
  have hsz : (s.extract 0 n).size = n := by rw [ByteArray.size_extract]; omega
  simp only [nth_zero, nth_succ, lns_S, hsz, bop_gtr, pureK_some, condK_B, decide_eq_true_eq, decide_eq_false_iff_not]
  refine ⟨fun h => ?_, fun h => ?_⟩
  · rw [bop_sub (by omega) (by omega)]
    have e1 : ((n : Int) - 1) = ((n - 1 : Nat) : Int) := by omega
    have hlt : n - 1 < (s.extract 0 n).size := by omega
    simp only [pureK_some]
    rw [e1, ixs_S hlt]
    have e2 : (s.extract 0 n)[n - 1] = s[n - 1]'(by omega) := by rw [ByteArray.getElem_extract]; simp
    rw [e2]
    simp only [pureK_some]
    refine (contains_ok f _ hH).then ?_
    simp only [unE_not, pureK_some, condK_B]
    refine ⟨fun h2 => ?_, fun h2 => ?_⟩
    · exact ret1_of H' (Heap.le_refl _) ⟨⟨n, hm, rfl, hin, fun _ => .inr (by simpa using h2)⟩, rfl⟩
    · rw [sls_hi (by omega)]
      simp only [pureK_some]
      refine ⟨n - 1, H', by omega, Heap.le_refl _, n - 1, by omega, ?_, rfl, rfl, fun i hi h3 => ?_⟩
      · rw [ByteArray.extract_extract]; congr 3; omega
      · by_cases e : i = n - 1
        · subst e; simpa using h2
        · exact hin i hi (by omega)
  · have : n = 0 := by omega
    subst this
    exact ret1_of H' (Heap.le_refl _) ⟨⟨0, hm, rfl, hin, fun _ => .inl rfl⟩, rfl⟩

theorem trimLeft_ok (f : Nat → Bool) (s : ByteArray) (hs : small' s) {H : Heap} {o : Nat} (hH : H o = some (.cells (setL f))) :
    ACalls PP gΓ strings_trimLeftASCII [S s, .ptr o 0] H (fun r H' => (∃ m, m ≤ s.size ∧ r = S (s.extract m s.size) ∧ (∀ i (h : i < s.size), i < m → f s[i].toNat = true) ∧ (∀ h : m < s.size, f s[m].toNat = false)) ∧ H' = H) := by
  unfold small' at hs
  refine strings_trimLeftASCII_of ?_
  unfold W_strings_trimLeftASCII
  refine ⟨fun vs H' n => ∃ m, m ≤ s.size ∧ vs = [S (s.extract m s.size), .ptr o 0] ∧ H' = H ∧ n = s.size - m ∧ (∀ i (h : i < s.size), i < m → f s[i].toNat = true), ⟨_, H, Heap.le_refl _, 0, Nat.zero_le _, by rw [ByteArray.extract_zero_size], rfl, rfl, fun i h h2 => by omega⟩, ?_⟩
  rintro vs H' n ⟨m, hm, rfl, rfl, rfl, hin⟩
  have hsz : (s.extract m s.size).size = s.size - m := by rw [ByteArray.size_extract]; omega
  simp only [nth_zero, nth_succ, lns_S, hsz, bop_gtr, pureK_some, condK_B, decide_eq_true_eq, decide_eq_false_iff_not]
  refine ⟨fun h => ?_, fun h => ?_⟩
  · have hlt : 0 < (s.extract m s.size).size := by omega
    have e0 : (I 0) = I ((0 : Nat) : Int) := rfl
    have e1 : (I 1) = I ((1 : Nat) : Int) := rfl
    rw [e0, ixs_S hlt]
    have e2 : (s.extract m s.size)[0] = s[m]'(by omega) := by rw [ByteArray.getElem_extract]; simp
    rw [e2]
    simp only [pureK_some]
    refine (contains_ok f _ hH).then ?_
    simp only [unE_not, pureK_some, condK_B]
    refine ⟨fun h2 => ?_, fun h2 => ?_⟩
    · exact ret1_of H' (Heap.le_refl _) ⟨⟨m, hm, rfl, hin, fun _ => by simpa using h2⟩, rfl⟩
    · rw [e1, sls_lo (by omega)]
      simp only [pureK_some]
      refine ⟨s.size - (m + 1), H', by omega, Heap.le_refl _, m + 1, by omega, ?_, rfl, rfl, fun i hi h3 => ?_⟩
      · rw [ByteArray.extract_extract, hsz]; congr 3; omega
      · by_cases e : i = m
        · subst e; simpa using h2
        · exact hin i hi (by omega)
  · have : m = s.size := by omega
    exact ret1_of H' (Heap.le_refl _) ⟨⟨m, hm, rfl, hin, fun h => by omega⟩, rfl⟩
end Go.Av
