/- Own text C14 of this claim: see the text that holds the theorem. -/
import Derived.Test.YtddolbhaekekaaaGreatDoorC13
set_option linter.all false
set_option maxRecDepth 100000
namespace Go.Av
open Go Go.Proofs

def sizes (l : List ByteArray) : Nat := (l.map ByteArray.size).sum
theorem sizes_take {l : List ByteArray} {k : Nat} (h : k < l.length) : sizes (l.take (k + 1)) = sizes (l.take k) + (l[k]).size := by
  unfold sizes
  rw [List.take_succ_eq_append_getElem h, List.map_append, List.sum_append]
  simp only [List.map_cons, List.map_nil, List.sum_cons, List.sum_nil, Nat.add_zero]
theorem sizes_le (l : List ByteArray) (k : Nat) : sizes (l.take k) ≤ sizes l := by
  unfold sizes
  have : l.map ByteArray.size = (l.take k).map ByteArray.size ++ (l.drop k).map ByteArray.size := by rw [← List.map_append, List.take_append_drop]
  rw [this, List.sum_append]; omega

theorem law19_few_ok (s : St) (p q : Perm) (hl : small s.l.length) (ha : small s.a.length) (hs : sizes s.a ≤ 1000000000000) :
    PurR law19_few [stA s p q] (fun r => ∃ b : Bool, r = B b ∧ (b = true → s.l.length ≤ 100 ∧ s.a.length ≤ 70 ∧ sizes s.a ≤ 1000)) := by
  intro H
  refine law19_few_of ?_
  unfold W_law19_few
  refine allocK_st fun o1 ho1 => ?_
  have hle : H ≤ H.upd o1 (.cells (stC s p q)) := by simp [ho1]
  simp only [fa_ptr, pureK_some, ld_upd, cutE_one, Nat.zero_add, get4, lnl_lst, List.length_map]
  refine ⟨fun vs H' n => ∃ k : Nat, vs = [.ptr o1 0, I (sizes (s.a.take k)), txtA s.a q, I s.a.length, I k] ∧ H' = H.upd o1 (.cells (stC s p q)) ∧ n = s.a.length - k ∧ k ≤ s.a.length, ⟨_, _, Heap.le_refl _, 0, rfl, rfl, rfl, Nat.zero_le _⟩, ?_⟩
  rintro vs H' n ⟨k, rfl, rfl, rfl, hk⟩
  simp only [nth_zero, nth_succ, bop_lss, pureK_some, condK_B, decide_eq_true_eq, decide_eq_false_iff_not]
  refine ⟨fun h => ?_, fun h => ?_⟩
  · have hk' : k < s.a.length := by omega
    have h1 := sizes_take hk'
    have h2 := sizes_le s.a (k + 1)
    rw [ias_txt (by omega) (by omega)]
    simp only [pureK_some, ld_cp, cutE_one, get0, lns_S, Int.toNat_natCast]
    rw [bop_add (by omega) (by omega)]
    simp only [pureK_some]
    rw [bop_add (by omega) (by omega)]
    simp only [pureK_some]
    refine ⟨s.a.length - (k + 1), _, by omega, Heap.le_refl _, k + 1, ?_, rfl, rfl, by omega⟩
    rw [h1]; rfl
  · have hk' : k = s.a.length := by omega
    subst hk'
    rw [List.take_length]
    simp only [fa_ptr, pureK_some, ld_upd, cutE_one, Nat.zero_add, get0, get4, lnl_lst, List.length_map, bop_leq, condK_B, decide_eq_true_eq, decide_eq_false_iff_not]
    refine ⟨fun h1 => ?_, fun h1 => ret1_of H hle ⟨⟨false, rfl, fun h => by cases h⟩, rfl⟩⟩
    refine (ref03_Depth_ok _ _ hl).run ?_
    rintro v ⟨d, rfl⟩
    simp only [fa_ptr, pureK_some, ld_upd, cutE_one, Nat.zero_add, get0, get4, lnl_lst, List.length_map, bop_leq, condK_B, decide_eq_true_eq, decide_eq_false_iff_not]
    refine ⟨fun h2 => ⟨fun h3 => ret1_of H hle ⟨⟨_, rfl, fun h4 => ?_⟩, rfl⟩, fun h3 => ret1_of H hle ⟨⟨false, rfl, fun h => by cases h⟩, rfl⟩⟩, fun h2 => ret1_of H hle ⟨⟨false, rfl, fun h => by cases h⟩, rfl⟩⟩
    have := of_decide_eq_true h4
    omega

/-! ### bytes -/
def byteOf (n : Int) : UInt8 := UInt8.ofNat (n % 256).toNat
theorem byteAV_byteOf (n : Int) : byteAV (byteOf n) = .sc (.int .u8 (n % 256)) := by
  unfold byteAV byteOf
  have h1 : 0 ≤ n % 256 := Int.emod_nonneg _ (by omega)
  have h2 : n % 256 < 256 := Int.emod_lt_of_pos _ (by omega)
  congr 2
  rw [UInt8.toNat_ofNat']
  omega
theorem cv_u8 (n : Int) : cv (.toInt .u8) (I n) = some (byteAV (byteOf n)) := by
  rw [byteAV_byteOf]
  rfl
theorem bsl_b (b : UInt8) : bsl 1 (.sc (.int .u8 0)) 1 [(0, byteAV b)] = some (bytA [b] .exact) := rfl
theorem bsl_b4 (a b c d : UInt8) : bsl 1 (.sc (.int .u8 0)) 4 [(0, byteAV a), (1, byteAV b), (2, byteAV c), (3, byteAV d)] = some (bytA [a, b, c, d] .exact) := rfl

/-- Bytes that are being written: what may be put behind them. -/
def Out (H0 H : Heap) (bs : List UInt8) (v : AV) : Prop := ∃ p, v = bytA bs p ∧ Bld H0 H p bs.length

theorem app_out {H0 H : Heap} {bs cs : List UInt8} {v y : AV} {K : AV → Heap → Prop} (h : Out H0 H bs v) (hy : appended 1 y = some (cs.map byteAV)) (hl : bs.length + cs.length ≤ maxApp) (k : ∀ v' H', Out H0 H' (bs ++ cs) v' → K v' H') : appK 1 v y H K := by
  obtain ⟨p, rfl, hb⟩ := h
  refine appK_bld (H0 := H0) (ys := cs.map byteAV) (by simpa using hb) (.inl rfl) hy (by simpa using hl) ?_
  intro p' H' hb'
  refine k _ _ ⟨p', by rw [← List.map_append], by simpa using hb'⟩

theorem appended_byt (l : List UInt8) (p : Perm) : appended 1 (bytA l p) = some (l.map byteAV) := by simp [appended]
theorem appended_S (s : ByteArray) : appended 1 (S s) = some (s.data.toList.map byteAV) := rfl

def nameB (s : ByteArray) : List UInt8 := byteOf s.size :: s.data.toList

theorem code_named_ok (bs : List UInt8) (s : ByteArray) (H0 H : Heap) (v : AV) (h : Out H0 H bs v) (hl : bs.length + s.size ≤ 1000000) :
    ACalls PP gΓ code_named [v, S s] H (fun r H' => Out H0 H' (bs ++ nameB s) r) := by
  refine code_named_of ?_
  unfold W_code_named
  simp only [lns_S, pureK_some]
  rw [cv_u8]
  simp only [pureK_some]
  rw [bsl_b]
  simp only [pureK_some]
  have hsz : s.data.toList.length = s.size := by simp
  refine app_out h (appended_byt _ _) (by simp [maxApp]; omega) fun v1 H1 h1 => ?_
  refine app_out h1 (appended_S s) (by simp [maxApp]; omega) fun v2 H2 h2 => ?_
  refine ret1_of H2 (Heap.le_refl _) ?_
  simpa [nameB] using h2
end Go.Av
