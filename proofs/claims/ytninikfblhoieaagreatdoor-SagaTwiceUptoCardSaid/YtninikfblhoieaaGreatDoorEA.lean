/- Own text EA of this claim: see the text that holds the theorem. -/
import Derived.Test.YtninikfblhoieaaGreatDoorDG
import Derived.Test.YtninikfblhoieaaGreatDoorSA
set_option linter.all false
set_option maxRecDepth 100000
namespace Go.Av
open Go Go.Proofs

def Src (H : Heap) (v : AV) (bs : List UInt8) : Prop := (∃ p, v = bytA bs p) ∨ ∃ o cap zs, v = .ms o 0 bs.length cap ∧ H o = some (.cells (bs.map byteAV ++ zs))
theorem Src.le {H H' : Heap} {v : AV} {bs : List UInt8} (h : Src H v bs) (hle : H ≤ H') : Src H' v bs := by
 rcases h with h | ⟨o, cap, zs, rfl, h⟩
 · exact .inl h
 · exact .inr ⟨o, cap, zs, rfl, hle _ _ h⟩
theorem Src.len {H : Heap} {v : AV} {bs : List UInt8} (h : Src H v bs) : lnl v = some (I bs.length) := by
 rcases h with ⟨p, rfl⟩ | ⟨o, cap, zs, rfl, h⟩
 · simp
 · rfl
theorem Src.get {H : Heap} {v : AV} {bs : List UInt8} (h : Src H v bs) {k : Nat} (hk : k < bs.length) : ∃ r, ias 1 v (I k) = some r ∧ ld (some false) 1 H r = some (byteAV bs[k]) := by
 rcases h with ⟨p, rfl⟩ | ⟨o, cap, zs, rfl, h⟩
 · have := ias_byt (p := p) (i := (k : Int)) (by omega) (by simpa using hk)
   exact ⟨_, this, rfl⟩
 · refine ⟨.ptr o k, ?_, ?_⟩
   · simp [ias]; omega
   · rw [ld_ptr h]
     simp only [cutE_one]
     rw [List.getElem?_append_left (by simpa using hk)]
     simp [hk]

abbrev u32 (n : Int) : AV := .sc (.int .u32 n)
abbrev u64 (n : Int) : AV := .sc (.int .u64 n)
theorem cv_u32 (x : UInt8) : cv (.toInt .u32) (byteAV x) = some (u32 x.toNat) := by
 have := x.toNat_lt
 show some (AV.sc (.int .u32 (IntKind.wrap .u32 (x.toNat : Int)))) = _
 rw [wrap_u32]
 have : ((x.toNat : Int)) % 4294967296 = x.toNat := by omega
 rw [this]
theorem bop_xor32 (bk : BK) (a b : Int) : bop bk .xor (u32 a) (u32 b) = some (u32 (xorU a b)) := rfl
theorem bop_and32 (bk : BK) (a b : Int) : bop bk .and (u32 a) (u32 b) = some (u32 (andU a b)) := rfl
theorem bop_shr32 (bk : BK) (a : Int) : bop bk .shr (u32 a) (u64 1) = some (u32 (a.fdiv (2 ^ 1))) := rfl
theorem unE_not32 (a : Int) : unE .xor (u32 a) = some (u32 (notU a)) := rfl
theorem unE_neg32 (a : Int) : unE .neg (u32 a) = some (u32 (IntKind.wrap .u32 (0 - a))) := rfl

def atU (s : Int) (bs : List UInt8) (k j : Nat) : Int := if j = 0 then (bs.take k).foldl byteU s else bitsU (xorU ((bs.take k).foldl byteU s) (bs.getD k 0).toNat) j

theorem atU_step (s : Int) (bs : List UInt8) {k j : Nat} (hk : k < bs.length) (hj : j < 8) :
 bitU (if j = 0 then xorU (atU s bs k j) (bs[k]).toNat else atU s bs k j) = if j + 1 = 8 then atU s bs (k + 1) 0 else atU s bs k (j + 1) := by
 have hg : bs.getD k 0 = bs[k] := by simp [List.getD_eq_getElem?_getD, hk]
 have h1 : bitU (if j = 0 then xorU (atU s bs k j) (bs[k]).toNat else atU s bs k j) = bitsU (xorU ((bs.take k).foldl byteU s) (bs.getD k 0).toNat) (j + 1) := by
  unfold atU
  by_cases h : j = 0
  · subst h; rw [hg]; simp [bitsU]
  · simp [h, bitsU]
 rw [h1]
 by_cases h8 : j + 1 = 8
 · rw [if_pos h8, h8]
   unfold atU
   rw [if_pos rfl, List.take_succ_eq_append_getElem hk, List.foldl_append, hg]; rfl
 · rw [if_neg h8]
   unfold atU
   rw [if_neg (by omega)]

theorem More_rest (s : Int) (bs : List UInt8) (v : AV) (H : Heap) (hs : Src H v bs) (hl : bs.length ≤ 1000000) (k j : Nat) (hk : k ≤ bs.length) (hj : j < 8) (h0 : k = bs.length → j = 0) (JP : List AV → Heap → Prop) (R : AV → Heap → Prop)
 (done : k = bs.length → R (u32 (notU (bs.foldl byteU s))) H) (next : k < bs.length → JP (if j + 1 = 8 then [u32 (atU s bs (k + 1) 0), v, I (k + 1 : Nat), I 0] else [u32 (atU s bs k (j + 1)), v, I k, I (j + 1 : Nat)]) H) :
 W_crc_More_rest (u32 (atU s bs k j)) v (I k) (I j) H JP R := by
 unfold W_crc_More_rest
 rw [hs.len]
 simp only [pureK_some, bop_eql, condK_B, decide_eq_true_eq, decide_eq_false_iff_not]
 refine ⟨fun h => ?_, fun h => ?_⟩
 · have hk' : k = bs.length := by omega
   have hj0 := h0 hk'
   subst hj0
   rw [unE_not32]
   simp only [pureK_some]
   refine ret1_of H (Heap.le_refl _) ?_
   have := done hk'
   unfold atU
   rw [if_pos rfl, hk', List.take_length]
   exact this
 · have hk' : k < bs.length := by omega
   have hst := atU_step s bs hk' hj
   have hn := next hk'
   have fin : ∀ x : Int, bitU x = (if j + 1 = 8 then atU s bs (k + 1) 0 else atU s bs k (j + 1)) →
    pureK (bop .plain .shr (u32 x) (.sc (.int .u64 1))) fun x9 => pureK (bop .plain .and (u32 x) (.sc (.int .u32 1))) fun x10 => pureK (unE .neg x10) fun x11 =>
    pureK (bop .plain .and (.sc (.int .u32 3988292384)) x11) fun x12 => pureK (bop .plain .xor x9 x12) fun x13 => pureK (bop .plain .add (I j) (I 1)) fun x14 => pureK (bop .plain .eql x14 (I 8)) fun x15 =>
    condK x15 (pureK (bop .plain .add (I k) (I 1)) fun x16 => JP [x13, v, x16, I 0] H) (JP [x13, v, I k, x14] H) := fun x hx => by
    rw [bop_shr32, bop_and32]
    simp only [pureK_some]
    rw [unE_neg32]
    simp only [pureK_some]
    rw [bop_and32]
    simp only [pureK_some]
    rw [bop_xor32]
    simp only [pureK_some]
    rw [bop_add (by omega) (by omega)]
    simp only [pureK_some, bop_eql, condK_B, decide_eq_true_eq, decide_eq_false_iff_not]
    have e : xorU (x.fdiv (2 ^ 1)) (andU 3988292384 (IntKind.wrap .u32 (0 - andU x 1))) = bitU x := rfl
    rw [e, hx]
    refine ⟨fun h8 => ?_, fun h8 => ?_⟩
    · have h8' : j + 1 = 8 := by omega
      rw [if_pos h8'] at hn ⊢
      rw [bop_add (by omega) (by omega)]
      simp only [pureK_some]
      have e1 : ((k : Int) + 1) = ((k + 1 : Nat) : Int) := by omega
      rw [e1]; exact hn
    · have h8' : ¬ j + 1 = 8 := by omega
      rw [if_neg h8'] at hn ⊢
      have e1 : ((j : Int) + 1) = ((j + 1 : Nat) : Int) := by omega
      rw [e1]; exact hn
   refine ⟨fun h1 => ?_, fun h1 => ?_⟩
   · have hj0 : j = 0 := by omega
     obtain ⟨r, er, el⟩ := hs.get hk'
     rw [er]
     simp only [pureK_some, el]
     rw [cv_u32]
     simp only [pureK_some]
     rw [bop_xor32]
     simp only [pureK_some]
     rw [if_pos hj0] at hst
     exact fin _ hst
   · have hj0 : j ≠ 0 := by omega
     rw [if_neg hj0] at hst
     exact fin _ hst

theorem crc_More_ok (s : Nat) (bs : List UInt8) (v : AV) (H : Heap) (hs : Src H v bs) (hl : bs.length ≤ 1000000) : AReads PP gΓ crc_More [u32 s, v] H (u32 (moreF s bs)) := by
 intro H' hle
 have hs' := hs.le hle
 refine crc_More_of ?_
 unfold W_crc_More
 refine ⟨fun vs HX n => ∃ k j, k ≤ bs.length ∧ j < 8 ∧ (k = bs.length → j = 0) ∧ HX = H' ∧ n = (bs.length - k) * 8 + (8 - j) ∧ vs = [u32 (atU (notU s) bs k j), v, I k, I j], ?_, ?_⟩
 · rw [unE_not32]
   simp only [pureK_some]
   have := More_rest (notU s) bs v H' hs' hl 0 0 (Nat.zero_le _) (by omega) (fun _ => rfl) (fun vs HX => ∃ (n : Nat) (H1 : Heap), H1 ≤ HX ∧ ∃ k j, k ≤ bs.length ∧ j < 8 ∧ (k = bs.length → j = 0) ∧ H1 = H' ∧ n = (bs.length - k) * 8 + (8 - j) ∧ vs = [u32 (atU (notU s) bs k j), v, I k, I j])
    (fun r H'' => r = u32 (moreF s bs) ∧ H'' = H') (fun _ => ⟨by rw [moreF_eq]; rfl, rfl⟩) (fun hlt => ⟨_, H', Heap.le_refl _, 0, 1, by omega, by omega, by omega, rfl, rfl, by rw [if_neg (by omega)]⟩)
   exact this
 · rintro vs H2 n ⟨k, j, hk, hj, h0, rfl, rfl, rfl⟩
   refine crc_More_sem (JP := fun vs HX => ∃ (n' : Nat) (H1 : Heap), n' < (bs.length - k) * 8 + (8 - j) ∧ H1 ≤ HX ∧ ∃ k j, k ≤ bs.length ∧ j < 8 ∧ (k = bs.length → j = 0) ∧ H1 = H2 ∧ n' = (bs.length - k) * 8 + (8 - j) ∧ vs = [u32 (atU (notU s) bs k j), v, I k, I j]) ?_
   refine More_rest (notU s) bs v H2 hs' hl k j hk hj h0 _ _ (fun _ => ⟨by rw [moreF_eq]; rfl, rfl⟩) (fun hlt => ?_)
   by_cases h8 : j + 1 = 8
   · rw [if_pos h8]
     exact ⟨(bs.length - (k + 1)) * 8 + 8, H2, by omega, Heap.le_refl _, k + 1, 0, by omega, by omega, fun _ => rfl, rfl, rfl, rfl⟩
   · rw [if_neg h8]
     exact ⟨(bs.length - k) * 8 + (8 - (j + 1)), H2, by omega, Heap.le_refl _, k, j + 1, by omega, by omega, fun h => by omega, rfl, rfl, rfl⟩

theorem crc_Sum_ok (bs : List UInt8) (v : AV) (H : Heap) (hs : Src H v bs) (hl : bs.length ≤ 1000000) : AReads PP gΓ crc_Sum [v] H (u32 (moreF 0 bs)) := by
 intro H' hle
 refine crc_Sum_of ?_
 unfold W_crc_Sum
 refine (crc_More_ok 0 bs v H' (hs.le hle) hl).run ?_
 exact ret1_of H' (Heap.le_refl _) ⟨rfl, rfl⟩

end Go.Av
namespace Go.Av
open Go Go.Proofs

theorem Rep.exact {G G2 : Ghost} {w w2 : World} {v : Value} {s o off n : Nat} {es : List AV} (h : Rep G w v (.lst s es .no)) (hm : Rep G2 w2 v (.ms o off n n)) (hn : es.length = n) : Rep G w v (.lst s es .exact) := by
 obtain ⟨rfl, _⟩ := hm.inv_ms
 rcases h.inv_lst with ⟨e, _⟩ | ⟨b, off, cap, vs, e, g1, g2, g3, g4, g5, g6, g7⟩
 · cases e
 · simp only [Value.slice.injEq] at e
   obtain ⟨e1, _, e3⟩ := e
   have hc : cap = es.length := by omega
   have := Rep.lst (G := G) (w := w) b off cap s es .exact vs g1 g2 g3 g4 g5 g6 hc
   rw [e1]
   subst hc
   rw [hn] at this
   exact this
theorem WRel.freezeE {Γ : Nat → Option AV} {G : Ghost} {H : Heap} {w : World} (hW : WRel Γ G H w) {o s n : Nat} {es : List AV} {v : Value} (hH : H o = some (.cells (es.flatMap AV.cells))) (hs : ∀ e, e ∈ es → e.cells.length = s)
 (hn : es.length = n) (hv : Rep G w v (.ms o 0 n n)) : ∃ G', Ext G w G' w ∧ WRel Γ G' (rem H (some o)) w ∧ Rep G' w v (.lst s es .exact) := by
 obtain ⟨G', h1, h2, h3⟩ := hW.freeze (zs := []) (by rw [List.append_nil]; exact hH) hs hn (Nat.le_refl _) hv
 exact ⟨G', h1, h2, h3.exact hv hn⟩
theorem ACalls.freezeE {f : FuncId} {args : List AV} {s : Nat} {es : List AV} {H : Heap} (hs : ∀ e, e ∈ es → e.cells.length = s)
 (h : ACalls PP gΓ f args H (fun r H' => ∃ o, r = .ms o 0 es.length es.length ∧ H o = none ∧ H' o = some (.cells (es.flatMap AV.cells)) ∧ H ≤ H')) :
 ACalls PP gΓ f args H (fun r H' => r = .lst s es .exact ∧ H' = H) := by
 intro G w vs hW hl hr
 refine (h G w vs hW hl hr).mono ?_
 rintro e w' ⟨v, G', r, H', rfl, x, hW', hrep, o, rfl, ho, hH, hle⟩
 obtain ⟨G2, x2, hW2, hr2⟩ := hW'.freezeE hH hs rfl hrep
 refine ⟨v, G2, _, H, rfl, x.trans x2, hW2.forget (fun i y hi => ?_), hr2, rfl, rfl⟩
 unfold rem
 have hne : i ≠ o := fun e => by subst e; rw [ho] at hi; cases hi
 simp only [hne, if_false]
 exact hle i y hi
theorem ACalls.freezeT {f : FuncId} {args : List AV} {s : Nat} {es : List AV} {a b : AV} {φ : AV → Prop} {H : Heap} (hs : ∀ e, e ∈ es → e.cells.length = s)
 (h : ACalls PP gΓ f args H (fun r H' => (φ r ∧ H ≤ H') ∨ ∃ o, φ (.tup [a, .lst s es .exact, b]) ∧ r = .tup [a, .ms o 0 es.length es.length, b] ∧ H o = none ∧ H' o = some (.cells (es.flatMap AV.cells)) ∧ H ≤ H')) :
 ACalls PP gΓ f args H (fun r H' => φ r ∧ H' = H) := by
 intro G w vs hW hl hr
 refine (h G w vs hW hl hr).mono ?_
 rintro e w' ⟨v, G', r, H', rfl, x, hW', hrep, hm⟩
 rcases hm with ⟨hφ, hle⟩ | ⟨o, hφ, rfl, ho, hH, hle⟩
 · exact ⟨v, G', r, H, rfl, x, hW'.forget hle, hrep, hφ, rfl⟩
 · cases hrep with
   | tup us cs hul hu =>
     have h1 := hu 1 (by simp)
     simp only [List.getD_cons_succ, List.getD_cons_zero] at h1
     obtain ⟨G2, x2, hW2, hr2⟩ := hW'.freezeE hH hs rfl h1
     refine ⟨_, G2, .tup [a, .lst s es .exact, b], H, rfl, x.trans x2, hW2.forget (fun i y hi => ?_), .tup us _ hul (fun i hi => ?_), hφ, rfl⟩
     · unfold rem
       have hne : i ≠ o := fun e => by subst e; rw [ho] at hi; cases hi
       simp only [hne, if_false]
       exact hle i y hi
     · have hi' : i < 3 := hi
       match i, hi' with
       | 0, _ => exact (hu 0 (by simp)).ext x2
       | 1, _ => exact hr2
       | 2, _ => exact (hu 2 (by simp)).ext x2

theorem byteAV_cells (l : List UInt8) : (l.map byteAV).flatMap AV.cells = l.map byteAV := byteAV_flat l
theorem mul8 {bk : BK} {k : Nat} (h : k ≤ 1000) : bop bk .mul (I 8) (I k) = some (I (8 * k : Nat)) := by
 rw [bop_mul (by omega) (by omega)]; rfl
theorem cv_u8n (n : Nat) : cv (.toInt .u8) (u64 n) = some (byteAV (UInt8.ofNat (n % 256))) := by
 show some (AV.sc (.int .u8 (IntKind.wrap .u8 (n : Int)))) = some (.sc (.int .u8 ((UInt8.ofNat (n % 256)).toNat : Int)))
 rw [wrap_u8]
 have : (UInt8.ofNat (n % 256)).toNat = n % 256 := by rw [UInt8.toNat_ofNat']; omega
 rw [this]; rfl
theorem cv_u64 (x : UInt8) : cv (.toInt .u64) (byteAV x) = some (u64 x.toNat) := by
 have := x.toNat_lt
 show some (AV.sc (.int .u64 (IntKind.wrap .u64 (x.toNat : Int)))) = _
 rw [wrap_u64 (by omega) (by omega)]
abbrev zb : AV := .sc (.int .u8 0)
theorem zb_eq : zb = byteAV 0 := rfl

theorem sla_ms {n o : Nat} : sla n 1 (.ptr o 0) none none none = some (.ms o 0 n n) := by
 unfold sla bound
 simp

theorem crc_Put_ok (n m : Nat) (hm : m ≤ 8) : Pur crc_Put [u64 n, I m] (bytA (putF n m) .exact) := by
 intro H
 refine ACalls.freezeE (s := 1) (fun e he => by obtain ⟨x, _, rfl⟩ := List.mem_map.1 he; rfl) ?_
 refine crc_Put_of ?_
 unfold W_crc_Put
 intro o1 ho1
 refine ⟨fun vs HX nn => ∃ k, k ≤ 8 ∧ nn = 8 - k ∧ HX = H.upd o1 (.cells ((putF n k ++ List.replicate (8 - k) 0).map byteAV)) ∧ vs = [u64 n, I m, .ptr o1 0, I k], ⟨8, _, Heap.le_refl _, 0, by omega, rfl, rfl, rfl⟩, ?_⟩
 rintro vs HX nn ⟨k, hk, rfl, rfl, rfl⟩
 simp only [nth_zero, nth_succ, bop_lss, pureK_some, condK_B, decide_eq_true_eq, decide_eq_false_iff_not]
 refine ⟨fun hlt => ?_, fun hge => ?_⟩
 · have hk' : k < 8 := by omega
   rw [mul8 (by omega)]
   simp only [pureK_some]
   rw [shr_step _ .u64 (by show 8 * k ≤ 64; omega)]
   simp only [pureK_some]
   rw [cv_u8n]
   have ei : iaa 8 1 (.ptr o1 0) (I k) = some (.ptr o1 k) := by simp [iaa]; omega
   rw [ei]
   simp only [pureK_some]
   have est : st 1 (H.upd o1 (.cells ((putF n k ++ List.replicate (8 - k) 0).map byteAV))) (.ptr o1 k) (byteAV (UInt8.ofNat (n / 2 ^ (8 * k) % 256))) = some (H.upd o1 (.cells ((putF n (k + 1) ++ List.replicate (8 - (k + 1)) 0).map byteAV))) := by
    rw [st_upd, if_pos (by simp [byteAV, putF_len]; omega)]
    have e1 : splice ((putF n k ++ List.replicate (8 - k) 0).map byteAV) k (byteAV (UInt8.ofNat (n / 2 ^ (8 * k) % 256))).cells = (spl (putF n k ++ List.replicate (8 - k) 0) k [UInt8.ofNat (n / 2 ^ (8 * k) % 256)]).map byteAV := by
     rw [spl_map]; rfl
    rw [e1]
    have e2 : spl (putF n k ++ List.replicate (8 - k) 0) k [UInt8.ofNat (n / 2 ^ (8 * k) % 256)] = putF n (k + 1) ++ List.replicate (8 - (k + 1)) 0 := by
     unfold spl
     have hl := putF_len n k
     rw [List.take_append_of_le_length (by omega), List.take_of_length_le (by omega), List.drop_append, List.drop_of_length_le (by simp [hl])]
     have : putF n (k + 1) = putF n k ++ [UInt8.ofNat (n / 2 ^ (8 * k) % 256)] := by simp [putF, List.range_succ]
     rw [this]
     simp [hl]
     omega
    rw [e2]
   rw [est]
   simp only [heapK_some]
   rw [bop_add (by omega) (by omega)]
   simp only [pureK_some]
   exact ⟨8 - (k + 1), _, by omega, Heap.le_refl _, k + 1, by omega, rfl, rfl, by simp⟩
 · have hk' : k = 8 := by omega
   subst hk'
   rw [minE_two]
   simp only [pureK_some]
   rw [maxE_two]
   have e0 : max (0 : Int) (min (m : Int) 8) = (m : Int) := by omega
   rw [e0]
   simp only [pureK_some]
   refine ⟨rfl, by omega, by simp [maxApp]; omega, fun o zs hz _ ho => ?_⟩
   rw [sla_ms]
   simp only [pureK_some]
   simp only [upd_none_iff] at ho
   have ecs : (H.upd o1 (.cells ((putF n 8 ++ List.replicate (8 - 8) 0).map byteAV))) = H.upd o1 (.cells ((putF n 8).map byteAV)) := by simp
   rw [ecs]
   have hz' : zs.length = m := by simpa using hz
   have hput : ((putF n 8).map byteAV).take m = (putF n m).map byteAV := by
    rw [← List.map_take]
    congr 1
    unfold putF
    rw [← List.map_take, List.take_range, Nat.min_eq_left hm]
   refine cpy_cells (m := 8) (xs := (putF n m).map byteAV) (Heap.upd_same _ _ _) rfl ?_ (by simp [hz']; omega) ?_
   · unfold srcCells
     simp only [Heap.upd_ne _ _ (Ne.symm ho.1), Heap.upd_same]
     rw [if_pos (by simp [putF_len]; omega)]
     have : min 8 ((m : Int).toNat) * 1 = m := by omega
     rw [this, List.drop_zero, hput]
   · have es : splice zs 0 ((putF n m).map byteAV) = (putF n m).map byteAV := by
      unfold splice
      rw [List.drop_of_length_le (by simp [putF_len, hz'])]; simp
     rw [es]
     simp only [Heap.upd_upd']
     refine ret1_of _ (Heap.le_refl _) ⟨o, ?_, ho.2, ?_, ?_⟩
     · simp [putF_len]
     · rw [Heap.upd_same, byteAV_cells]
     · exact Heap.le_upd (Heap.le_upd (Heap.le_refl _) ho1) ho.2

def pad8 (b : List UInt8) : List UInt8 := b.take 8 ++ List.replicate (8 - b.length) 0
theorem pad8_len (b : List UInt8) : (pad8 b).length = 8 := by simp [pad8]; omega
theorem pad8_getD (b : List UInt8) (i : Nat) (hi : i < 8) : (pad8 b).getD i 0 = b.getD i 0 := by
 unfold pad8
 simp only [List.getD_eq_getElem?_getD]
 by_cases h : i < b.length
 · rw [List.getElem?_append_left (by simp; omega), List.getElem?_take_of_lt hi]
 · rw [List.getElem?_append_right (by simp; omega), List.getElem?_eq_none (show b.length ≤ i by omega), List.getElem?_replicate]
   split <;> rfl

theorem crc_Get_ok (b : List UInt8) (p : Perm) : Pur crc_Get [bytA b p] (u64 (getF b)) := by
 intro H
 refine crc_Get_of ?_
 unfold W_crc_Get
 intro o1 ho1
 rw [sla_ms]
 simp only [pureK_some]
 refine cpy_cells (m := b.length) (xs := (b.take (min b.length 8)).map byteAV) (Heap.upd_same _ _ _) (by simp [srcLen]) ?_ (by simp; omega) ?_
 · show (if 1 = 1 ∨ b.map byteAV = [] then some (((b.map byteAV).take (min b.length 8)).flatMap AV.cells) else none) = _
   rw [if_pos (.inl rfl), ← List.map_take, byteAV_cells]
 · have es : splice [zb, zb, zb, zb, zb, zb, zb, zb] 0 ((b.take (min b.length 8)).map byteAV) = (pad8 b).map byteAV := by
    have : [zb, zb, zb, zb, zb, zb, zb, zb] = (List.replicate 8 (0 : UInt8)).map byteAV := rfl
    rw [this, ← spl_map]
    congr 1
    unfold spl pad8
    simp only [List.take_zero, List.nil_append, Nat.zero_add, List.drop_replicate, List.length_take]
    have : b.take (min b.length 8) = b.take 8 := by
     by_cases h : b.length ≤ 8
     · rw [Nat.min_eq_left h, List.take_length, List.take_of_length_le h]
     · rw [Nat.min_eq_right (by omega)]
    rw [this]
    congr 2; omega
   rw [es]
   simp only [Heap.upd_upd']
   have eld : ld (some true) 8 (H.upd o1 (.cells ((pad8 b).map byteAV))) (.ptr o1 0) = some (.agg ((pad8 b).map byteAV)) := by
    rw [ld_upd, cutE_agg, if_pos (by simp [pad8_len]), List.drop_zero, List.take_of_length_le (by simp [pad8_len])]
   rw [eld]
   simp only [pureK_some]
   refine ⟨fun vs HX nn => ∃ k, k ≤ 8 ∧ nn = 8 - k ∧ H ≤ HX ∧ vs = [u64 (getN b k), .agg ((pad8 b).map byteAV), I k], ⟨8, _, Heap.le_refl _, 0, by omega, rfl, by simp [ho1], rfl⟩, ?_⟩
   rintro vs HX nn ⟨k, hk, rfl, hle, rfl⟩
   simp only [nth_zero, nth_succ, bop_lss, pureK_some, condK_B, decide_eq_true_eq, decide_eq_false_iff_not]
   refine ⟨fun hlt => ?_, fun hge => ?_⟩
   · have hk' : k < 8 := by omega
     have ei : ixa 8 (some false) 1 (.agg ((pad8 b).map byteAV)) (I k) = some (byteAV (b.getD k 0)) := by
      simp only [ixa]
      rw [if_pos (by omega), cutE_one]
      have e := pad8_getD b k hk'
      have hl := pad8_len b
      have hk8 : k < (pad8 b).length := by omega
      rw [List.getD_eq_getElem?_getD, List.getElem?_eq_getElem hk8] at e
      simp only [Int.toNat_natCast, Nat.mul_one, List.getElem?_map, List.getElem?_eq_getElem hk8, Option.map_some]
      rw [← e]; rfl
     rw [ei]
     simp only [pureK_some]
     rw [cv_u64]
     simp only [pureK_some]
     rw [mul8 (by omega)]
     simp only [pureK_some]
     rw [shl_step _ (UInt8.toNat_lt _) hk']
     simp only [pureK_some]
     rw [or_step _ (getN_lt b k) (UInt8.toNat_lt _) hk']
     simp only [pureK_some]
     rw [bop_add (by omega) (by omega)]
     simp only [pureK_some]
     exact ⟨8 - (k + 1), _, by omega, Heap.le_refl _, k + 1, by omega, rfl, hle, by simp [getN]⟩
   · have hk' : k = 8 := by omega
     subst hk'
     exact ret1_of H hle ⟨by rw [getF_def], rfl⟩

end Go.Av
namespace Go.Av
open Go Go.Proofs

theorem sll_byt {l : List UInt8} {p : Perm} {a : Nat} (h : a ≤ l.length) : ∃ q, sll 1 (bytA l p) (some (I a)) none none = some (bytA (l.drop a) q) := by
 refine ⟨if p = .exact then .exact else .no, ?_⟩
 simp [sll, bound, h, List.take_of_length_le]
theorem sll_byt2 {l : List UInt8} {p : Perm} {a b : Nat} (h : a ≤ b) (h2 : b ≤ l.length) : ∃ q, sll 1 (bytA l p) (some (I a)) (some (I b)) none = some (bytA ((l.take b).drop a) q) := by
 refine ⟨if p = .exact ∧ b = l.length then .exact else .no, ?_⟩
 simp [sll, bound, h, h2]
theorem sll_byt0 {l : List UInt8} {p : Perm} {b : Nat} (h2 : b ≤ l.length) : ∃ q, sll 1 (bytA l p) none (some (I b)) none = some (bytA (l.take b) q) := by
 refine ⟨if p = .exact ∧ b = l.length then .exact else .no, ?_⟩
 simp [sll, bound, h2]
theorem cv_len64 {n : Nat} (h : n < 18446744073709551616) : cv (.toInt .u64) (I n) = some (u64 n) := by
 show some (AV.sc (.int .u64 (IntKind.wrap .u64 (n : Int)))) = _
 rw [wrap_u64 (by omega) (by omega)]
theorem cv_u32_64 {n : Nat} (h : n < 4294967296) : cv (.toInt .u64) (u32 n) = some (u64 n) := by
 show some (AV.sc (.int .u64 (IntKind.wrap .u64 (n : Int)))) = _
 rw [wrap_u64 (by omega) (by omega)]

theorem crc_Frame_ok (n : Nat) (data : List UInt8) (q : Perm) (hd : data.length ≤ 2048) : Pur crc_Frame [u64 n, bytA data q] (.tup [bytA (frameF n data) .no, B true]) := by
 refine Pur.weaken (φ := fun r => Weaker r (.tup [bytA (frameF n data) .no, B true])) (fun H => ?_) (fun r h => h)
 refine crc_Frame_of ?_
 unfold W_crc_Frame
 simp only [lnl_lst, pureK_some, List.length_map, bop_gtr, condK_B, decide_eq_true_eq, decide_eq_false_iff_not]
 refine ⟨fun h => by omega, fun _ => ?_⟩
 refine (crc_Put_ok n 8 (by omega)).run ?_
 rw [cv_len64 (by omega)]
 simp only [pureK_some]
 refine (crc_Put_ok data.length 4 (by omega)).run ?_
 refine appK_bld (H0 := H) (ys := (putF data.length 4).map byteAV) (.inl ⟨rfl, rfl⟩) (.inl rfl) rfl (by simp [putF_len, maxApp]) fun p1 H1 hb1 => ?_
 have e1 : (putF n 8).map byteAV ++ (putF data.length 4).map byteAV = (headF n data.length).map byteAV := by simp [headF]
 rw [e1] at hb1 ⊢
 have hhl := headF_len n data.length
 refine (crc_Sum_ok (headF n data.length) _ H1 (.inl ⟨p1, rfl⟩) (by omega)).run ?_
 refine (crc_More_ok _ data _ H1 (.inl ⟨q, rfl⟩) (by omega)).run ?_
 rw [cv_u32_64 (moreF_lt _ _)]
 simp only [pureK_some]
 refine (crc_Put_ok _ 4 (by omega)).run ?_
 refine appK_bld (H0 := H) (ys := (putF (moreF (moreF 0 (headF n data.length)) data) 4).map byteAV) hb1 (.inl rfl) rfl (by simp [putF_len, maxApp, hhl]) fun p2 H2 hb2 => ?_
 rw [← List.map_append] at hb2 ⊢
 refine appK_bld (H0 := H) (ys := data.map byteAV) hb2 (.inl rfl) (by simp [appended]) (by simp [putF_len, maxApp, hhl]; omega) fun p3 H3 hb3 => ?_
 rw [← List.map_append] at hb3 ⊢
 exact ret1_of H hb3.le ⟨Weaker.tup2 Weaker.lst (Weaker.refl _), rfl⟩

def openV (x : Option (Nat × List UInt8)) : AV := match x with
 | none => .tup [u64 0, .lst 0 [] .exact, B false]
 | some (n, data) => .tup [u64 n, bytA data .exact, B true]

theorem crc_Open_var (b : List UInt8) (p : Perm) (hb : b.length ≤ 1000000) (n S0 X Y Z : Nat) (hg : getF ((b.take 12).drop 8) = n) (hS : moreF 0 (b.take 12) = S0) (hX : moreF S0 ((b.drop 16).take n) = X) (hX4 : X < 4294967296) (hY : getF ((b.take 16).drop 12) = Y) (hZ : getF (b.take 8) = Z) : Pur crc_Open [bytA b p] (openV (openF b)) := by
 intro H
 refine ACalls.freezeT (s := 1) (es := ((b.drop 16).take n).map byteAV) (a := u64 Z) (b := B true) (φ := fun r => r = openV (openF b)) (fun e he => by obtain ⟨x, _, rfl⟩ := List.mem_map.1 he; rfl) ?_
 refine crc_Open_of ?_
 unfold W_crc_Open
 simp only [lnl_lst, pureK_some, List.length_map, bop_lss, condK_B, decide_eq_true_eq, decide_eq_false_iff_not]
 refine ⟨fun h => ?_, fun h => ?_⟩
 · refine ret1_of H (Heap.le_refl _) (.inl ⟨?_, Heap.le_refl _⟩)
   unfold openF; rw [if_pos (by omega)]; rfl
 · have hl : ¬ b.length < 16 := by omega
   obtain ⟨q1, e1⟩ := sll_byt2 (l := b) (p := p) (a := 8) (b := 12) (by omega) (by omega)
   have e1' : sll 1 (bytA b p) (some (I 8)) (some (I 12)) none = some (bytA ((b.take 12).drop 8) q1) := e1
   rw [e1']
   simp only [pureK_some]
   refine (crc_Get_ok _ q1).run ?_
   rw [hg]
   have hnone : (2048 < n ∨ b.length - 16 < n) → openF b = none := fun h2 => by
    unfold openF; rw [if_neg hl, hg, if_pos h2]
   rw [bop_gtr, pureK_some, condK_B]
   rw [decide_eq_true_eq, decide_eq_false_iff_not]
   refine ⟨fun h2 => ret1_of H (Heap.le_refl _) (.inl ⟨by rw [hnone (.inl (by omega))]; rfl, Heap.le_refl _⟩), fun h2 => ?_⟩
   rw [bop_sub (by omega) (by omega)]
   simp only [pureK_some]
   have e2 : (b.length : Int) - 16 = ((b.length - 16 : Nat) : Int) := by omega
   rw [e2, cv_len64 (by omega)]
   rw [pureK_some, bop_gtr, pureK_some, condK_B, decide_eq_true_eq, decide_eq_false_iff_not]
   refine ⟨fun h3 => ret1_of H (Heap.le_refl _) (.inl ⟨by rw [hnone (.inr (by omega))]; rfl, Heap.le_refl _⟩), fun h3 => ?_⟩
   refine ⟨rfl, by omega, by simp [maxApp]; omega, fun o zs hz _ ho => ?_⟩
   obtain ⟨q2, e3⟩ := sll_byt (l := b) (p := p) (a := 16) (by omega)
   have e3' : sll 1 (bytA b p) (some (I 16)) none none = some (bytA (b.drop 16) q2) := e3
   rw [e3']
   simp only [pureK_some]
   have hdl : ((b.drop 16).take n).length = n := by simp; omega
   refine cpy_lst_take (Heap.upd_same _ _ _) (.inl rfl) (by simp; omega) (by rw [hz]; simp) ?_
   have hdata : (((b.drop 16).map byteAV).take (n : Int).toNat).flatMap AV.cells = ((b.drop 16).take n).map byteAV := by
    rw [Int.toNat_natCast, ← List.map_take, byteAV_cells]
   rw [hdata]
   have hz' : zs.length = n := by simpa using hz
   have esp : splice zs 0 (((b.drop 16).take n).map byteAV) = ((b.drop 16).take n).map byteAV := by
    unfold splice
    have hdz : zs.drop (0 + (((b.drop 16).take n).map byteAV).length) = [] := List.drop_of_length_le (by rw [hz', List.length_map, hdl]; omega)
    rw [hdz]; simp
   rw [esp]
   simp only [Heap.upd_upd', Int.toNat_natCast]
   have gO : (H.upd o (.cells (((b.drop 16).take n).map byteAV))) o = some (.cells (((b.drop 16).take n).map byteAV)) := Heap.upd_same _ _ _
   have hle : H ≤ H.upd o (.cells (((b.drop 16).take n).map byteAV)) := by simp [ho]
   generalize H.upd o (.cells (((b.drop 16).take n).map byteAV)) = H2 at gO hle ⊢
   obtain ⟨q3, e4⟩ := sll_byt0 (l := b) (p := p) (b := 12) (by omega)
   have e4' : sll 1 (bytA b p) none (some (I 12)) none = some (bytA (b.take 12) q3) := e4
   rw [e4']
   simp only [pureK_some]
   refine ⟨_, crc_Sum_ok (b.take 12) _ H2 (.inl ⟨q3, rfl⟩) (by simp; omega), ?_⟩
   rw [hS]
   refine ⟨_, crc_More_ok _ ((b.drop 16).take n) _ H2 (.inr ⟨o, n, [], by rw [hdl], by rw [List.append_nil]; exact gO⟩) (by omega), ?_⟩
   rw [hX, cv_u32_64 hX4]
   simp only [pureK_some]
   obtain ⟨q5, e5⟩ := sll_byt2 (l := b) (p := p) (a := 12) (b := 16) (by omega) (by omega)
   have e5' : sll 1 (bytA b p) (some (I 12)) (some (I 16)) none = some (bytA ((b.take 16).drop 12) q5) := e5
   rw [e5']
   simp only [pureK_some]
   refine ⟨_, (crc_Get_ok _ q5).reads, ?_⟩
   rw [hY]
   have hopen : openF b = if X = Y then some (Z, (b.drop 16).take n) else none := by
    unfold openF
    rw [if_neg hl, hg, if_neg (by omega), hS, hX, hY, hZ]
   simp only [bop_neq, pureK_some, condK_B]
   refine ⟨fun h4 => ?_, fun h4 => ?_⟩
   · have : ¬ X = Y := fun e => by rw [e] at h4; simp at h4
     exact ret1_of H2 (Heap.le_refl _) (.inl ⟨by rw [hopen, if_neg this]; rfl, hle⟩)
   · have : X = Y := by
      have h5 : decide ((X : Int) = (Y : Int)) = true := by simpa using h4
      have := of_decide_eq_true h5
      omega
     obtain ⟨q6, e6⟩ := sll_byt0 (l := b) (p := p) (b := 8) (by omega)
     have e6' : sll 1 (bytA b p) none (some (I 8)) none = some (bytA (b.take 8) q6) := e6
     rw [e6']
     simp only [pureK_some]
     refine (crc_Get_ok _ q6).run ?_
     rw [hZ]
     refine ret1_of H2 (Heap.le_refl _) (.inr ⟨o, by rw [hopen, if_pos this]; rfl, ?_, ho, ?_, hle⟩)
     · rw [hdl]
     · rw [byteAV_cells]; exact gO

theorem crc_Open_ok (b : List UInt8) (p : Perm) (hb : b.length ≤ 1000000) : Pur crc_Open [bytA b p] (openV (openF b)) :=
 crc_Open_var b p hb _ _ _ _ _ rfl rfl rfl (moreF_lt _ _) rfl rfl

end Go.Av
namespace Go.Av
open Go Go.Proofs

theorem st_at {n : Nat} {H : Heap} {o off : Nat} {cs : List AV} {v : AV} (h : H o = some (.cells cs)) (hv : v.cells.length = n) (hle : off + n ≤ cs.length) (hs : v.cells.all AV.single = true) :
 st n H (.ptr o off) v = some (H.upd o (.cells (splice cs off v.cells))) := by
 unfold st
 simp only [h]
 rw [if_pos (by simp only [hv, hs]; simp; omega)]
@[simp] theorem lnl_ms (o off len cap : Nat) : lnl (.ms o off len cap) = some (I len) := rfl
theorem bop_addw {bk : BK} {a b : Int} : bop bk .add (I a) (I b) = some (I (IntKind.wrap .i64 (a + b))) := by simp [bop, intE]
theorem bop_subw {bk : BK} {a b : Int} : bop bk .sub (I a) (I b) = some (I (IntKind.wrap .i64 (a - b))) := by simp [bop, intE]

def SameBut (ids : List Nat) (H H' : Heap) : Prop := ∀ o, o ∉ ids → H' o = H o
theorem SameBut.refl (ids : List Nat) (H : Heap) : SameBut ids H H := fun _ _ => rfl
theorem SameBut.trans {ids : List Nat} {H1 H2 H3 : Heap} (h : SameBut ids H1 H2) (k : SameBut ids H2 H3) : SameBut ids H1 H3 := fun o ho => (k o ho).trans (h o ho)
theorem SameBut.more {ids ids' : List Nat} {H H' : Heap} (h : SameBut ids H H') (hs : ∀ o, o ∈ ids → o ∈ ids') : SameBut ids' H H' := fun o ho => h o fun k => ho (hs o k)
theorem SameBut.upd {ids : List Nat} {H H' : Heap} (h : SameBut ids H H') {o : Nat} (ho : o ∈ ids) (x : AObj) : SameBut ids H (H'.upd o x) := fun i hi => by
 rw [Heap.upd_ne _ _ (fun e => hi (by rw [e]; exact ho))]; exact h i hi

def diskCells (bl : Nat) (d : DK) : List AV := [.ms bl 0 d.nb d.nb, I d.many, B d.cut, I d.left]
structure DiskAt (H : Heap) (dk bl : Nat) (d : DK) : Prop where
 hd : H dk = some (.cells (diskCells bl d))
 hb : H bl = some (.cells (d.bytes.map byteAV))
 ok : d.ok
 ne : dk ≠ bl
theorem DiskAt.le {H H' : Heap} {dk bl : Nat} {d : DK} (h : DiskAt H dk bl d) (hle : H ≤ H') : DiskAt H' dk bl d := ⟨hle _ _ h.hd, hle _ _ h.hb, h.ok, h.ne⟩
theorem DiskAt.keep {H H' : Heap} {dk bl : Nat} {d : DK} (h : DiskAt H dk bl d) (hk : ∀ o x, H o = some x → (∀ n, x ≠ .tok n) → H' o = some x) : DiskAt H' dk bl d :=
 ⟨hk _ _ h.hd (fun n e => by cases e), hk _ _ h.hb (fun n e => by cases e), h.ok, h.ne⟩

theorem disk_Blocks_ok {H : Heap} {dk bl : Nat} {d : DK} (h : DiskAt H dk bl d) : AReads PP gΓ disk_Disk_Blocks [.ptr dk 0] H (I d.nb) := by
 intro H' hle
 refine disk_Disk_Blocks_of ?_
 unfold W_disk_Disk_Blocks
 simp only [nilE_ptr, pureK_some, fa_ptr, ld_ptr (h.le hle).hd, diskCells, cutE_one, Nat.zero_add, get0, lnl_ms]
 exact ret1_of H' (Heap.le_refl _) ⟨rfl, rfl⟩
theorem disk_has_ok {H : Heap} {dk bl : Nat} {d : DK} (h : DiskAt H dk bl d) (k : Int) : AReads PP gΓ disk_Disk_has [.ptr dk 0, I k] H (B (decide (0 ≤ k) && decide (k < d.nb))) := by
 intro H' hle
 refine disk_Disk_has_of ?_
 unfold W_disk_Disk_has
 simp only [bop_geq, pureK_some, condK_B, decide_eq_true_eq, decide_eq_false_iff_not]
 refine ⟨fun h0 => ?_, fun h0 => ?_⟩
 · simp only [nilE_ptr, pureK_some, fa_ptr, ld_ptr (h.le hle).hd, diskCells, cutE_one, Nat.zero_add, get0, lnl_ms]
   simp only [pureK_some, bop_lss]
   exact ret1_of H' (Heap.le_refl _) ⟨by simp [h0], rfl⟩
 · exact ret1_of H' (Heap.le_refl _) ⟨by simp [h0], rfl⟩
theorem disk_Down_ok {H : Heap} {dk bl : Nat} {d : DK} (h : DiskAt H dk bl d) : AReads PP gΓ disk_Disk_Down [.ptr dk 0] H (B d.down) := by
 intro H' hle
 refine disk_Disk_Down_of ?_
 unfold W_disk_Disk_Down
 simp only [nilE_ptr, pureK_some, fa_ptr, ld_ptr (h.le hle).hd, diskCells, cutE_one, Nat.zero_add, get2, get3, condK_B, bop_leq]
 refine ⟨fun h0 => ?_, fun h0 => ?_⟩
 · exact ret1_of H' (Heap.le_refl _) ⟨by simp [DK.down, h0], rfl⟩
 · exact ret1_of H' (Heap.le_refl _) ⟨by simp [DK.down, h0], rfl⟩
theorem disk_Up_ok {H : Heap} {dk bl : Nat} {d : DK} (h : DiskAt H dk bl d) :
 ACalls PP gΓ disk_Disk_Up [.ptr dk 0] H (fun r H' => r = .tup [] ∧ DiskAt H' dk bl { d with cut := false } ∧ SameBut [dk] H H') := by
 refine disk_Disk_Up_of ?_
 unfold W_disk_Disk_Up
 simp only [nilE_ptr, pureK_some, fa_ptr, Nat.zero_add]
 rw [st_at (n := 1) h.hd rfl (by simp [diskCells]) rfl]
 simp only [heapK_some]
 refine ret1_of _ (Heap.le_refl _) ⟨rfl, ⟨?_, ?_, h.ok, h.ne⟩, (SameBut.refl _ _).upd (by simp) _⟩
 · rw [Heap.upd_same]; rfl
 · rw [Heap.upd_ne _ _ (Ne.symm h.ne)]; exact h.hb

theorem ld_block {H : Heap} {bl k : Nat} {b : List UInt8} (h : H bl = some (.cells (b.map byteAV))) (hk : 16 * k + 16 ≤ b.length) : ld (some true) 16 H (.ptr bl (k * 16)) = some (.agg (((b.drop (16 * k)).take 16).map byteAV)) := by
 rw [ld_ptr h, cutE_agg, if_pos (by simp; omega), ← List.map_drop, ← List.map_take, Nat.mul_comm]

theorem disk_Read_ok {H : Heap} {dk bl : Nat} {d : DK} (h : DiskAt H dk bl d) {k : Nat} (hk : k < d.nb) : AReads PP gΓ disk_Disk_Read [.ptr dk 0, I k] H (bytA ((d.bytes.drop (16 * k)).take 16) .exact) := by
 intro H' hle
 have h' := h.le hle
 refine ACalls.freezeE (s := 1) (fun e he => by obtain ⟨x, _, rfl⟩ := List.mem_map.1 he; rfl) ?_
 have hbl := h.ok.1
 have hlen : ((d.bytes.drop (16 * k)).take 16).length = 16 := by simp; omega
 refine disk_Disk_Read_of ?_
 unfold W_disk_Disk_Read
 refine (disk_has_ok h' k).run ?_
 have e0 : (decide (0 ≤ (k : Int)) && decide ((k : Int) < d.nb)) = true := by simp; omega
 rw [e0]
 simp only [unE_not, pureK_some, condK_B]
 refine ⟨fun e => (by cases e), fun _ => ?_⟩
 simp only [nilE_ptr, pureK_some, fa_ptr, ld_ptr h'.hd, diskCells, cutE_one, Nat.zero_add, get0, lnl_ms]
 have ei : ias 16 (.ms bl 0 d.nb d.nb) (I k) = some (.ptr bl (k * 16)) := by simp [ias]; omega
 rw [ei]
 simp only [pureK_some]
 rw [ld_block h'.hb (by omega)]
 simp only [pureK_some]
 generalize hB : (d.bytes.drop (16 * k)).take 16 = B16 at hlen ⊢
 intro o ho
 rw [st_at (Heap.upd_same _ _ _) (by simp [hlen]) (by simp) (by simp [byteAV])]
 simp only [heapK_some, Heap.upd_upd']
 rw [sla_ms]
 simp only [pureK_some]
 refine ret1_of _ (Heap.le_refl _) ⟨o, by simp [hlen], ho, ?_, by simp [ho]⟩
 rw [Heap.upd_same, byteAV_cells]
 congr 2
 unfold splice
 rw [List.drop_of_length_le (by simp [hlen])]
 simp

theorem disk_Write_ok {H : Heap} {dk bl : Nat} {d : DK} (h : DiskAt H dk bl d) (k : Int) (b : List UInt8) (p : Perm) :
 ACalls PP gΓ disk_Disk_Write [.ptr dk 0, I k, bytA b p] H (fun r H' => r = I (writeD d k b).2 ∧ DiskAt H' dk bl (writeD d k b).1 ∧ SameBut [dk, bl] H H') := by
 have hbl := h.ok.1
 refine disk_Disk_Write_of ?_
 unfold W_disk_Disk_Write
 refine (disk_has_ok h k).run ?_
 simp only [unE_not, pureK_some, condK_B]
 have bad : (¬ (0 ≤ k ∧ k < d.nb) ∨ 16 < b.length) → writeD d k b = (d, 1) := fun hb => by unfold writeD; rw [if_pos hb]
 refine ⟨fun hno => ?_, fun hin => ?_⟩
 · have : ¬ (0 ≤ k ∧ k < d.nb) := by
    simp at hno; omega
   rw [bad (.inl this)]
   exact ret1_of H (Heap.le_refl _) ⟨rfl, h, SameBut.refl _ _⟩
 · have hin' : 0 ≤ k ∧ k < d.nb := by
    simp at hin; omega
   simp only [lnl_lst, pureK_some, List.length_map, bop_gtr, condK_B, decide_eq_true_eq, decide_eq_false_iff_not]
   refine ⟨fun hlong => ?_, fun hshort => ?_⟩
   · rw [bad (.inr (by omega))]
     exact ret1_of H (Heap.le_refl _) ⟨rfl, h, SameBut.refl _ _⟩
   · refine (disk_Down_ok h).run ?_
     simp only [condK_B]
     refine ⟨fun hd => ?_, fun hd => ?_⟩
     · have : writeD d k b = (d, 170) := by unfold writeD; rw [if_neg (by omega), if_pos hd]
       rw [this]
       exact ret1_of H (Heap.le_refl _) ⟨rfl, h, SameBut.refl _ _⟩
     · have hw : writeD d k b = ({ d with bytes := spl d.bytes (16 * k.toNat) (pad16 b), many := IntKind.wrap .i64 (d.many + 1), left := IntKind.wrap .i64 (d.left - 1) }, 0) := by
        unfold writeD; rw [if_neg (by omega), if_neg (by simp [hd])]
       rw [hw]
       have hpl := pad16_len (b := b) (by omega)
       intro o ho
       have hod : dk ≠ o := fun e => by subst e; rw [h.hd] at ho; cases ho
       have hob : bl ≠ o := fun e => by subst e; rw [h.hb] at ho; cases ho
       rw [sla_ms]
       simp only [pureK_some]
       refine cpy_lst (Heap.upd_same _ _ _) (.inl rfl) (by simp; omega) (by simp; omega) ?_
       have esp : splice (List.replicate 16 zb) 0 ((b.map byteAV).flatMap AV.cells) = (pad16 b).map byteAV := by
        rw [byteAV_cells, show List.replicate 16 zb = (List.replicate 16 (0 : UInt8)).map byteAV from rfl, ← spl_map]
        congr 1
        unfold spl pad16
        rw [List.drop_replicate]; simp only [List.take_zero, List.nil_append, Nat.zero_add]
       rw [esp]
       simp only [Heap.upd_upd']
       have g12d : (H.upd o (.cells ((pad16 b).map byteAV))) dk = some (.cells (diskCells bl d)) := by rw [Heap.upd_ne _ _ hod]; exact h.hd
       have g12b : (H.upd o (.cells ((pad16 b).map byteAV))) bl = some (.cells (d.bytes.map byteAV)) := by rw [Heap.upd_ne _ _ hob]; exact h.hb
       have g12o : (H.upd o (.cells ((pad16 b).map byteAV))) o = some (.cells ((pad16 b).map byteAV)) := Heap.upd_same _ _ _
       have hle : H ≤ H.upd o (.cells ((pad16 b).map byteAV)) := by simp [ho]
       generalize H.upd o (.cells ((pad16 b).map byteAV)) = H12 at g12d g12b g12o hle ⊢
       simp only [nilE_ptr, pureK_some, fa_ptr, Nat.zero_add, ld_ptr g12d, diskCells, cutE_one, Nat.zero_add, get0, lnl_ms]
       have eld : ld (some true) 16 H12 (.ptr o 0) = some (.agg ((pad16 b).map byteAV)) := by
        rw [ld_ptr g12o, cutE_agg, if_pos (by simp [hpl]), List.drop_zero, List.take_of_length_le (by simp [hpl])]
       rw [eld]
       have ei : ias 16 (.ms bl 0 d.nb d.nb) (I k) = some (.ptr bl (k.toNat * 16)) := by simp [ias]; omega
       rw [ei]
       simp only [pureK_some]
       rw [st_at g12b (by simp [hpl]) (by simp; omega) (by simp [byteAV])]
       have e2 : splice (d.bytes.map byteAV) (k.toNat * 16) (AV.cells (.agg ((pad16 b).map byteAV))) = (spl d.bytes (16 * k.toNat) (pad16 b)).map byteAV := by
        rw [spl_map, Nat.mul_comm]; rfl
       rw [e2]
       simp only [heapK_some]
       have g18d : (H12.upd bl (.cells ((spl d.bytes (16 * k.toNat) (pad16 b)).map byteAV))) dk = some (.cells (diskCells bl d)) := by rw [Heap.upd_ne _ _ h.ne]; exact g12d
       rw [ld_ptr g18d]
       simp only [diskCells, cutE_one, get1, pureK_some]
       rw [bop_addw]
       simp only [pureK_some]
       rw [st_at (n := 1) g18d rfl (by simp [diskCells]) rfl]
       simp only [heapK_some]
       rw [ld_upd]
       have e3 : splice (diskCells bl d) 1 (AV.cells (I (IntKind.wrap .i64 (d.many + 1)))) = [.ms bl 0 d.nb d.nb, I (IntKind.wrap .i64 (d.many + 1)), B d.cut, I d.left] := rfl
       rw [e3]
       simp only [cutE_one, get3, pureK_some]
       rw [bop_subw]
       simp only [pureK_some]
       rw [st_at (n := 1) (Heap.upd_same _ _ _) rfl (by simp) rfl]
       simp only [heapK_some, Heap.upd_upd']
       have e4 : splice [.ms bl 0 d.nb d.nb, I (IntKind.wrap .i64 (d.many + 1)), B d.cut, I d.left] 3 (AV.cells (I (IntKind.wrap .i64 (d.left - 1)))) = [.ms bl 0 d.nb d.nb, I (IntKind.wrap .i64 (d.many + 1)), B d.cut, I (IntKind.wrap .i64 (d.left - 1))] := rfl
       rw [e4]
       refine ret1_of ((H.upd bl (.cells ((spl d.bytes (16 * k.toNat) (pad16 b)).map byteAV))).upd dk (.cells [.ms bl 0 d.nb d.nb, I (IntKind.wrap .i64 (d.many + 1)), B d.cut, I (IntKind.wrap .i64 (d.left - 1))])) (Heap.upd_le_upd (Heap.upd_le_upd hle)) ⟨rfl, ⟨?_, ?_, ?_, h.ne⟩, ((SameBut.refl _ _).upd (by simp) _).upd (by simp) _⟩
       · rw [Heap.upd_same]; rfl
       · rw [Heap.upd_ne _ _ (Ne.symm h.ne), Heap.upd_same]
       · exact ⟨by rw [spl_len _ _ _ (by rw [hpl]; omega)]; exact h.ok.1, h.ok.2⟩

theorem disk_New_ok (n : Int) (H : Heap) : ACalls PP gΓ disk_New [I n] H (fun r H' => ((n < 1 ∨ 1024 < n) ∧ r = .tup [.sc (.pointer none), I 1] ∧ H' = H) ∨ (1 ≤ n ∧ n ≤ 1024) ∧ ∃ dk bl, r = .tup [.ptr dk 0, I 0] ∧ H dk = none ∧ H bl = none ∧ DiskAt H' dk bl (emptyD n.toNat) ∧ SameBut [dk, bl] H H') := by
 refine disk_New_of ?_
 unfold W_disk_New
 simp only [bop_lss, pureK_some, condK_B, decide_eq_true_eq, decide_eq_false_iff_not, bop_gtr]
 refine ⟨fun h => ret1_of H (Heap.le_refl _) (.inl ⟨.inl h, rfl, rfl⟩), fun h => ⟨fun h2 => ret1_of H (Heap.le_refl _) (.inl ⟨.inr h2, rfl, rfl⟩), fun h2 => ?_⟩⟩
 refine ⟨rfl, by omega, by simp [maxApp]; omega, fun bl zs hz hzv hbl => ?_⟩
 have e1 : bld [(0, 1), (1, 1), (2, 1), (3, 1)] [.lst 0 [] .exact, .sc (.int .i64 0), B false, .sc (.int .i64 0)] [(0, .ms bl 0 n.toNat n.toNat)] = some (.agg [.ms bl 0 n.toNat n.toNat, I 0, B false, I 0]) := rfl
 show pureK (bld _ _ _) _
 rw [e1]
 simp only [pureK_some, cells_agg, allocK_some]
 refine ⟨rfl, fun dk hdk => ?_⟩
 simp only [upd_none_iff] at hdk
 have hzs : zs = (List.replicate (16 * n.toNat) (0 : UInt8)).map byteAV := by
  refine List.ext_getElem (by rw [hz]; simp; omega) fun i h1 h2 => ?_
  have hi : i < n.toNat * 16 := by omega
  have := hzv i hi
  have hm : i % 16 < 16 := Nat.mod_lt _ (by decide)
  have e : (List.replicate 16 zb).getD (i % 16) .dead = zb := by
   rw [List.getD_eq_getElem?_getD, List.getElem?_replicate, if_pos hm]; rfl
  rw [e] at this
  rw [List.getD_eq_getElem?_getD, List.getElem?_eq_getElem h1] at this
  simp only [Option.getD_some] at this
  rw [this]; simp [zb_eq]
 refine ret1_of _ (Heap.le_refl _) (.inr ⟨⟨by omega, by omega⟩, dk, bl, rfl, hdk.2, hbl, ⟨?_, ?_, ⟨by simp [emptyD], by show 1 ≤ n.toNat; omega, by show n.toNat ≤ 1024; omega⟩, hdk.1⟩, ((SameBut.refl _ _).upd (by simp) _).upd (by simp) _⟩)
 · rw [Heap.upd_same]; rfl
 · rw [Heap.upd_ne _ _ (Ne.symm hdk.1), Heap.upd_same, hzs]; rfl

end Go.Av
namespace Go.Av
open Go Go.Proofs

structure StoreAt (H : Heap) (st dk bl : Nat) (d : DK) : Prop where
 hs : H st = some (.cells [.ptr dk 0])
 disk : DiskAt H dk bl d
 h3 : 3 ≤ d.half
 n1 : st ≠ dk
 n2 : st ≠ bl
theorem StoreAt.le {H H' : Heap} {st dk bl : Nat} {d : DK} (h : StoreAt H st dk bl d) (hle : H ≤ H') : StoreAt H' st dk bl d := ⟨hle _ _ h.hs, h.disk.le hle, h.h3, h.n1, h.n2⟩
theorem StoreAt.keep {H H' : Heap} {st dk bl : Nat} {d : DK} (h : StoreAt H st dk bl d) (hk : ∀ o x, H o = some x → (∀ n, x ≠ .tok n) → H' o = some x) : StoreAt H' st dk bl d :=
 ⟨hk _ _ h.hs (fun n e => by cases e), h.disk.keep hk, h.h3, h.n1, h.n2⟩
theorem StoreAt.next {H H' : Heap} {st dk bl : Nat} {d d' : DK} (h : StoreAt H st dk bl d) (hd : DiskAt H' dk bl d') (hn : d'.nb = d.nb) (hsb : SameBut [dk, bl] H H') : StoreAt H' st dk bl d' :=
 ⟨by rw [hsb st (by simp [h.n1, h.n2])]; exact h.hs, hd, by rw [half_of hn]; exact h.h3, h.n1, h.n2⟩

theorem quo2 {bk : BK} {n : Nat} (h : n ≤ 1000000) : bop bk .quo (I n) (I 2) = some (I (n / 2 : Nat)) := by
 show intE .quo .i64 (n : Int) .i64 2 = _
 simp only [intE, if_true]
 have e : (n : Int).tdiv 2 = ((n / 2 : Nat) : Int) := rfl
 rw [if_neg (by decide), e, wrap_i64 (by omega) (by omega)]
theorem half_ok {H : Heap} {st dk bl : Nat} {d : DK} (h : StoreAt H st dk bl d) : AReads PP gΓ slots_Store_half [.ptr st 0] H (I d.half) := by
 intro H' hle
 have hn := h.disk.ok.2.2
 refine slots_Store_half_of ?_
 unfold W_slots_Store_half
 simp only [nilE_ptr, pureK_some, fa_ptr, ld_ptr (h.le hle).hs, cutE_one, Nat.zero_add, get0]
 refine (disk_Blocks_ok (h.le hle).disk).run ?_
 rw [quo2 (by omega)]
 simp only [pureK_some]
 exact ret1_of H' (Heap.le_refl _) ⟨rfl, rfl⟩
theorem half_le {d : DK} (h : d.ok) : d.half ≤ 512 := by have := h.2.2; unfold DK.half; omega
theorem Room_ok {H : Heap} {st dk bl : Nat} {d : DK} (h : StoreAt H st dk bl d) : AReads PP gΓ slots_Store_Room [.ptr st 0] H (I d.room) := by
 intro H' hle
 have hn := half_le h.disk.ok
 have h3 := h.h3
 refine slots_Store_Room_of ?_
 unfold W_slots_Store_Room
 refine (half_ok (h.le hle)).run ?_
 rw [bop_sub (by omega) (by omega)]
 simp only [pureK_some]
 rw [bop_mul (by omega) (by omega)]
 simp only [pureK_some]
 rw [minE_two]
 simp only [pureK_some]
 refine ret1_of H' (Heap.le_refl _) ⟨?_, rfl⟩
 unfold DK.room
 congr 2
 omega
theorem slots_New_ok {H : Heap} {dk bl : Nat} {d : DK} (h : DiskAt H dk bl d) :
 ACalls PP gΓ slots_New [.ptr dk 0] H (fun r H' => (d.half < 3 ∧ r = .tup [.sc (.pointer none), I 1] ∧ H' = H) ∨ 3 ≤ d.half ∧ ∃ st, r = .tup [.ptr st 0, I 0] ∧ H st = none ∧ H' = H.upd st (.cells [.ptr dk 0])) := by
 have hn := h.ok.2.2
 refine slots_New_of ?_
 unfold W_slots_New
 have e : bop .ptr .eql (.ptr dk 0) (.sc (.pointer none)) = some (B false) := rfl
 rw [e]
 simp only [pureK_some, condK_B]
 refine ⟨fun e => (by cases e), fun _ => ?_⟩
 refine (disk_Blocks_ok h).run ?_
 rw [quo2 (by omega)]
 simp only [pureK_some, bop_lss, condK_B, decide_eq_true_eq, decide_eq_false_iff_not]
 have eh : d.half = d.nb / 2 := rfl
 refine ⟨fun h3 => ret1_of H (Heap.le_refl _) (.inl ⟨by omega, rfl, rfl⟩), fun h3 => ?_⟩
 have e2 : bld [(0, 1)] [.sc (.pointer none)] [(0, .ptr dk 0)] = some (.agg [.ptr dk 0]) := rfl
 rw [e2]
 simp only [pureK_some, cells_agg, allocK_some]
 refine ⟨rfl, fun st hst => ?_⟩
 exact ret1_of _ (Heap.le_refl _) (.inr ⟨by omega, st, rfl, hst, rfl⟩)

theorem mul16 {bk : BK} {k : Nat} (h : k ≤ 1000000) : bop bk .mul (I k) (I 16) = some (I (k * 16 : Nat)) := by
 rw [bop_mul (by omega) (by omega)]; rfl

theorem Save_ok {H : Heap} {st dk bl : Nat} {d : DK} (h : StoreAt H st dk bl d) (n : Nat) (data : List UInt8) (q : Perm) (hdl : data.length ≤ 1000000) :
 ACalls PP gΓ slots_Store_Save [.ptr st 0, u64 n, bytA data q] H (fun r H' => r = I (saveD d n data).2 ∧ DiskAt H' dk bl (saveD d n data).1 ∧ (saveD d n data).1.nb = d.nb ∧ SameBut [dk, bl] H H') := by
 have hhl := half_le h.disk.ok
 have hnb : 2 * d.half ≤ d.nb := by unfold DK.half; omega
 have h3 := h.h3
 refine slots_Store_Save_of ?_
 unfold W_slots_Store_Save
 simp only [bop_eql, pureK_some, condK_B, decide_eq_true_eq, decide_eq_false_iff_not]
 refine ⟨fun h0 => ?_, fun h0 => ?_⟩
 · have : saveD d n data = (d, 1) := by unfold saveD; rw [if_pos (by omega)]
   rw [this]
   exact ret1_of H (Heap.le_refl _) ⟨rfl, h.disk, rfl, SameBut.refl _ _⟩
 · have hn0 : n ≠ 0 := fun e => h0 (by rw [e]; rfl)
   simp only [lnl_lst, pureK_some, List.length_map]
   refine (Room_ok h).run ?_
   simp only [bop_gtr, pureK_some, condK_B, decide_eq_true_eq, decide_eq_false_iff_not]
   refine ⟨fun hl => ?_, fun hl => ?_⟩
   · have : saveD d n data = (d, 181) := by unfold saveD; rw [if_neg hn0, if_pos (by omega)]
     rw [this]
     exact ret1_of H (Heap.le_refl _) ⟨rfl, h.disk, rfl, SameBut.refl _ _⟩
   · have hroom : data.length ≤ d.room := by omega
     have hsave : saveD d n data = if (writesD d (n % 2 * d.half) (frameF n data) 0 (pieces (frameF n data))).2 = 0 then writeD (writesD d (n % 2 * d.half) (frameF n data) 0 (pieces (frameF n data))).1 (n % 2 * d.half + d.half - 1 : Nat) (putF n 8)
      else writesD d (n % 2 * d.half) (frameF n data) 0 (pieces (frameF n data)) := by
      unfold saveD; rw [if_neg hn0, if_neg (by omega)]
     obtain ⟨p1, p2, p3⟩ := room_fit (n := n) h3 hroom
     have hfl := frameF_len n data
     have erem : bop .plain .rem (u64 n) (u64 2) = some (u64 (n % 2 : Nat)) := by
      show intE .rem .u64 (n : Int) .u64 2 = _
      simp only [intE, if_true]
      rw [if_neg (by decide)]
      congr 3
     rw [erem]
     simp only [pureK_some]
     have ecv : cv (.toInt .i64) (u64 (n % 2 : Nat)) = some (I (n % 2 : Nat)) := by
      show some (AV.sc (.int .i64 (IntKind.wrap .i64 ((n % 2 : Nat) : Int)))) = _
      rw [wrap_i64 (by omega) (by omega)]
     rw [ecv]
     simp only [pureK_some]
     refine (half_ok h).run ?_
     have hm : n % 2 = 0 ∨ n % 2 = 1 := by omega
     have hmul : n % 2 * d.half ≤ 512 := by rcases hm with e | e <;> rw [e] <;> omega
     have hfit : n % 2 * d.half + d.half ≤ d.nb := by rcases hm with e | e <;> rw [e] <;> omega
     have emul : bop .plain .mul (I (n % 2 : Nat)) (I d.half) = some (I (n % 2 * d.half : Nat)) := by
      have e : ((n % 2 : Nat) : Int) * (d.half : Int) = ((n % 2 * d.half : Nat) : Int) := by rw [Int.natCast_mul]
      rw [bop_mul (by rw [e]; omega) (by rw [e]; omega), e]
     rw [emul]
     simp only [pureK_some]
     refine (crc_Frame_ok n data q p3).run ?_
     simp only [extractE_tup, get0, get1, pureK_some]
     generalize n % 2 * d.half = from' at *
     generalize hf : frameF n data = f at *
     have hP : (f.length + 15) / 16 = pieces f := rfl
     have hPle : pieces f ≤ 512 := by omega
     refine ⟨fun vs HX nn => ∃ k e, k ≤ pieces f ∧ nn = pieces f - k ∧ vs = [.ptr st 0, u64 n, I from', bytA f .no, I k] ∧ DiskAt HX dk bl e ∧ e.nb = d.nb ∧ SameBut [dk, bl] H HX ∧ writesD d from' f 0 (pieces f) = writesD e from' f k (pieces f - k),
      ⟨_, H, Heap.le_refl _, 0, d, Nat.zero_le _, rfl, rfl, h.disk, rfl, SameBut.refl _ _, rfl⟩, ?_⟩
     rintro vs HX nn ⟨k, e, hk, rfl, rfl, hD, hen, hsb, hw⟩
     have hS : StoreAt HX st dk bl e := h.next hD hen hsb
     simp only [nth_zero, nth_succ]
     rw [mul16 (by omega)]
     simp only [pureK_some, lnl_lst, List.length_map, bop_lss, condK_B, decide_eq_true_eq, decide_eq_false_iff_not]
     refine ⟨fun hlt => ?_, fun hge => ?_⟩
     · have hk' : k < pieces f := by omega
       simp only [nilE_ptr, pureK_some, fa_ptr, ld_ptr hS.hs, cutE_one, Nat.zero_add, get0]
       rw [bop_add (by omega) (by omega)]
       simp only [pureK_some]
       rw [bop_add (by omega) (by omega)]
       simp only [pureK_some]
       have e1 : ((k : Int) + 1) = ((k + 1 : Nat) : Int) := by omega
       rw [e1, mul16 (by omega)]
       simp only [pureK_some]
       rw [minE_two]
       simp only [pureK_some]
       have e2 : min (f.length : Int) ((k + 1) * 16 : Nat) = (min f.length ((k + 1) * 16) : Nat) := by omega
       rw [e2]
       obtain ⟨q2, e3⟩ := sll_byt2 (l := f) (p := .no) (a := k * 16) (b := min f.length ((k + 1) * 16)) (by omega) (by omega)
       rw [e3]
       simp only [pureK_some]
       have e4 : ((from' : Int) + (k : Int)) = ((from' + k : Nat) : Int) := by omega
       rw [e4]
       refine (disk_Write_ok hD ((from' + k : Nat) : Int) (piece f k) q2).mono ?_
       rintro r H1 ⟨rfl, hD1, hsb1⟩
       have hwo := writeD_ok hD.ok ((from' + k : Nat) : Int) (piece f k)
       have hw2 : writesD e from' f k (pieces f - k) = if (writeD e (from' + k : Nat) (piece f k)).2 = 0 then writesD (writeD e (from' + k : Nat) (piece f k)).1 from' f (k + 1) (pieces f - (k + 1)) else writeD e (from' + k : Nat) (piece f k) := by
        rw [show pieces f - k = (pieces f - (k + 1)) + 1 by omega]; rfl
       rw [hw2] at hw
       generalize writeD e ((from' + k : Nat) : Int) (piece f k) = D at *
       simp only [bop_neq, pureK_some, condK_B]
       refine ⟨fun hne => ?_, fun heq => ?_⟩
       · have hne' : ¬ D.2 = 0 := by simpa using hne
         rw [if_neg hne'] at hw
         refine ret1_of H1 (Heap.le_refl _) ?_
         rw [hsave, hw, if_neg hne']
         exact ⟨rfl, hD1, hwo.2.1.trans hen, hsb.trans hsb1⟩
       · have heq' : D.2 = 0 := by simpa using heq
         rw [if_pos heq'] at hw
         exact ⟨pieces f - (k + 1), H1, by omega, Heap.le_refl _, k + 1, D.1, by omega, rfl, rfl, hD1, hwo.2.1.trans hen, hsb.trans hsb1, hw⟩
     · have hk' : k = pieces f := by omega
       subst hk'
       rw [Nat.sub_self] at hw
       simp only [nilE_ptr, pureK_some, fa_ptr, ld_ptr hS.hs, cutE_one, Nat.zero_add, get0]
       refine ⟨_, half_ok hS, ?_⟩
       have eh : e.half = d.half := half_of hen
       rw [eh, bop_add (by omega) (by omega)]
       simp only [pureK_some]
       rw [bop_sub (by omega) (by omega)]
       simp only [pureK_some]
       refine ⟨_, (crc_Put_ok n 8 (by omega)).reads, ?_⟩
       have e4 : ((from' : Int) + (d.half : Int) - 1) = ((from' + d.half - 1 : Nat) : Int) := by omega
       rw [e4]
       refine (disk_Write_ok hD ((from' + d.half - 1 : Nat) : Int) (putF n 8) .exact).mono ?_
       rintro r H1 ⟨rfl, hD1, hsb1⟩
       have hwo := writeD_ok hD.ok ((from' + d.half - 1 : Nat) : Int) (putF n 8)
       have hw' : writesD d from' f 0 (pieces f) = (e, 0) := hw
       refine ret1_of H1 (Heap.le_refl _) ?_
       rw [hsave, hw', if_pos rfl]
       exact ⟨rfl, hD1, hwo.2.1.trans hen, hsb.trans hsb1⟩

def slotV (x : Option (Nat × List UInt8)) : AV := match x with
 | none => .tup [u64 0, .lst 0 [] .exact, B false]
 | some (n, data) => .tup [u64 n, bytA data .exact, B true]

theorem take_more (b : List UInt8) (a m : Nat) : (b.drop a).take (m + 16) = (b.drop a).take m ++ (b.drop (a + m)).take 16 := by
 rw [List.take_add, List.drop_drop]

theorem Slot_ok {H : Heap} {st dk bl : Nat} {d : DK} (h : StoreAt H st dk bl d) {k : Nat} (hk : k < 2) : ACalls PP gΓ slots_Store_Slot [.ptr st 0, I k] H (fun r H' => r = slotV (slotD d k) ∧ H' = H) := by
 have hhl := half_le h.disk.ok
 have hnb : 2 * d.half ≤ d.nb := by unfold DK.half; omega
 have h3 := h.h3
 have hbl := h.disk.ok.1
 refine slots_Store_Slot_of ?_
 unfold W_slots_Store_Slot
 simp only [bop_lss, pureK_some, condK_B, decide_eq_true_eq, decide_eq_false_iff_not, bop_geq]
 refine ⟨fun h0 => absurd h0 (by omega), fun _ => ⟨fun h0 => absurd h0 (by omega), fun _ => ?_⟩⟩
 refine (half_ok h).run ?_
 have hm : k = 0 ∨ k = 1 := by omega
 have hmul : k * d.half ≤ 512 := by rcases hm with e | e <;> rw [e] <;> omega
 have hfit : k * d.half + d.half ≤ d.nb := by rcases hm with e | e <;> rw [e] <;> omega
 have emul : bop .plain .mul (I k) (I d.half) = some (I (k * d.half : Nat)) := by
  have e : (k : Int) * (d.half : Int) = ((k * d.half : Nat) : Int) := by rw [Int.natCast_mul]
  rw [bop_mul (by rw [e]; omega) (by rw [e]; omega), e]
 rw [emul]
 simp only [pureK_some]
 refine (half_ok h).run ?_
 rw [bop_sub (by omega) (by omega)]
 simp only [pureK_some]
 have hsb : slotB d k = (d.bytes.drop (16 * (k * d.half))).take (16 * (d.half - 1)) := rfl
 have htb : tailB d k = (d.bytes.drop (16 * (k * d.half + d.half - 1))).take 16 := rfl
 have hsl : (slotB d k).length = 16 * (d.half - 1) := by rw [hsb]; exact cut_len _ _ _ (by omega)
 have hsd : slotD d k = match openF (slotB d k) with | some (n, data) => if n = 0 ∨ getF (tailB d k) ≠ n then none else some (n, data) | none => none := rfl
 rw [hsd]
 generalize hSB : slotB d k = SB at *
 generalize hTB : tailB d k = TB at *
 generalize k * d.half = from' at *
 have hcut : ∀ j, ((d.bytes.drop (16 * from')).take (16 * j)).length ≤ 16 * j := fun j => by simp; omega
 refine ⟨fun vs HX nn => ∃ j v, j ≤ d.half - 1 ∧ nn = d.half - 1 - j ∧ vs = [.ptr st 0, v, I from', I (d.half - 1 : Int), I j] ∧ H ≤ HX ∧ StoreAt HX st dk bl d ∧ Acc H HX 1 (((d.bytes.drop (16 * from')).take (16 * j)).map byteAV) v,
  ⟨_, H, Heap.le_refl _, 0, _, Nat.zero_le _, rfl, rfl, Heap.le_refl _, h, .inl ⟨by simp, rfl⟩⟩, ?_⟩
 rintro vs HX nn ⟨j, v, hj, rfl, rfl, hle, hS, hacc⟩
 simp only [nth_zero, nth_succ, bop_lss, pureK_some, condK_B, decide_eq_true_eq, decide_eq_false_iff_not]
 refine ⟨fun hlt => ?_, fun hge => ?_⟩
 · have hj' : j < d.half - 1 := by omega
   simp only [nilE_ptr, pureK_some, fa_ptr, ld_ptr hS.hs, cutE_one, Nat.zero_add, get0]
   rw [bop_add (by omega) (by omega)]
   simp only [pureK_some]
   have e4 : ((from' : Int) + (j : Int)) = ((from' + j : Nat) : Int) := by omega
   rw [e4]
   refine (disk_Read_ok hS.disk (k := from' + j) (by omega)).run ?_
   refine acc_app2 hacc hle (ys := ((d.bytes.drop (16 * (from' + j))).take 16).map byteAV) rfl (by have := hcut j; simp only [List.length_map]; simp [maxApp]; omega) fun v2 H2 hacc2 hle2 hkeep => ?_
   rw [bop_add (by omega) (by omega)]
   simp only [pureK_some]
   have e1 : ((j : Int) + 1) = ((j + 1 : Nat) : Int) := by omega
   refine ⟨d.half - 1 - (j + 1), H2, by omega, Heap.le_refl _, j + 1, v2, by omega, rfl, by rw [e1], hle2, hS.keep hkeep, ?_⟩
   have e5 : (d.bytes.drop (16 * from')).take (16 * (j + 1)) = (d.bytes.drop (16 * from')).take (16 * j) ++ (d.bytes.drop (16 * (from' + j))).take 16 := by
    rw [show 16 * (j + 1) = 16 * j + 16 by omega, take_more, show 16 * from' + 16 * j = 16 * (from' + j) by omega]
   rw [e5, List.map_append]; exact hacc2
 · have hj' : j = d.half - 1 := by omega
   subst hj'
   rw [← hsb] at hacc
   have hv : ∃ t, v = bytA SB (.tok t) := by
    rcases hacc with ⟨e, _⟩ | ⟨t, e, _⟩
    · rw [List.map_eq_nil_iff.1 e] at hsl
      simp only [List.length_nil] at hsl; omega
    · exact ⟨t, e⟩
   obtain ⟨t, rfl⟩ := hv
   refine (crc_Open_ok SB _ (by omega)).run ?_
   have tail : ∀ (ok : Bool) (K : AV → Heap → Prop), K (bytA TB .exact) HX → (pureK (nilE (.ptr st 0)) fun x32 => pureK (fa 0 x32) fun x33 => pureK (ld (some false) 1 HX x33) fun x34 => ∃ x35, AReads PP gΓ slots_Store_half [.ptr st 0] HX x35 ∧
    pureK (bop .plain .add (I from') x35) fun x36 => pureK (bop .plain .sub x36 (I 1)) fun x37 => ACalls PP gΓ disk_Disk_Read [x34, x37] HX K) := fun ok K hK => by
    simp only [nilE_ptr, pureK_some, fa_ptr, ld_ptr hS.hs, cutE_one, Nat.zero_add, get0]
    refine ⟨_, half_ok hS, ?_⟩
    rw [bop_add (by omega) (by omega)]
    simp only [pureK_some]
    rw [bop_sub (by omega) (by omega)]
    simp only [pureK_some]
    have e4 : ((from' : Int) + (d.half : Int) - 1) = ((from' + d.half - 1 : Nat) : Int) := by omega
    rw [e4]
    refine (disk_Read_ok hS.disk (k := from' + d.half - 1) (by omega)).run ?_
    rw [← htb]; exact hK
   have htl : TB.length = 16 := by rw [htb]; exact cut_len _ _ _ (by omega)
   cases ho : openF SB with
   | none =>
     simp only [openV, extractE_tup, get0, get1, get2, pureK_some]
     refine tail true _ ?_
     simp only [unE_not, pureK_some, condK_B]
     exact ⟨fun _ => ret1_of H hle ⟨rfl, rfl⟩, fun e => (by cases e)⟩
   | some x =>
     obtain ⟨n, data⟩ := x
     simp only [openV, extractE_tup, get0, get1, get2, pureK_some]
     refine tail true _ ?_
     simp only [unE_not, pureK_some, condK_B]
     refine ⟨fun e => (by cases e), fun _ => ?_⟩
     simp only [bop_eql, pureK_some, condK_B, decide_eq_true_eq, decide_eq_false_iff_not]
     refine ⟨fun h0 => ?_, fun h0 => ?_⟩
     · rw [if_pos (.inl (by omega))]
       exact ret1_of H hle ⟨rfl, rfl⟩
     · have hn0 : n ≠ 0 := fun e => h0 (by rw [e]; rfl)
       obtain ⟨q6, e6⟩ := sll_byt0 (l := TB) (p := .exact) (b := 8) (by omega)
       have e6' : sll 1 (bytA TB .exact) none (some (I 8)) none = some (bytA (TB.take 8) q6) := e6
       rw [e6']
       simp only [pureK_some]
       refine (crc_Get_ok _ q6).run ?_
       rw [getF_take8]
       simp only [bop_neq, pureK_some, condK_B]
       refine ⟨fun hne => ?_, fun heq => ?_⟩
       · have : getF TB ≠ n := fun e => by rw [e] at hne; simp at hne
         rw [if_pos (.inr this)]
         exact ret1_of H hle ⟨rfl, rfl⟩
       · have : getF TB = n := by
          have h5 : decide ((getF TB : Int) = (n : Int)) = true := by simpa using heq
          have := of_decide_eq_true h5
          omega
         rw [if_neg (by simp [hn0, this])]
         exact ret1_of H hle ⟨rfl, rfl⟩

def lastV (x : Option (Nat × List UInt8)) : AV := match x with
 | none => .tup [u64 0, .lst 0 [] .exact, I 180]
 | some (n, data) => .tup [u64 n, bytA data .exact, I 0]
def curV (x : Option (Nat × List UInt8)) : AV × AV := match x with
 | none => (u64 0, .lst 0 [] .exact)
 | some (n, data) => (u64 n, bytA data .exact)
noncomputable def uptoD (d : DK) : Nat → Option (Nat × List UInt8)
 | 0 => none
 | 1 => slotD d 0
 | _ => lastD d

theorem Last_ok {H : Heap} {st dk bl : Nat} {d : DK} (h : StoreAt H st dk bl d) : ACalls PP gΓ slots_Store_Last [.ptr st 0] H (fun r H' => r = lastV (lastD d) ∧ H' = H) := by
 refine slots_Store_Last_of ?_
 unfold W_slots_Store_Last
 have pos : ∀ k x, uptoD d k = some x → x.1 ≠ 0 := fun k x hx => by
  match k, hx with
  | 0, hx => cases hx
  | 1, hx => exact (slotD_tail (n := x.1) (data := x.2) hx).2
  | (k + 2), hx =>
    have hx' : laterD (slotD d 0) (slotD d 1) = some x := hx
    cases h0 : slotD d 0 with
    | none => rw [h0] at hx'; exact (slotD_tail (n := x.1) (data := x.2) hx').2
    | some y =>
      cases h1 : slotD d 1 with
      | none => rw [h0, h1] at hx'; injection hx' with hx'; subst hx'; exact (slotD_tail (n := y.1) (data := y.2) h0).2
      | some z =>
        rw [h0, h1] at hx'
        unfold laterD at hx'
        simp only at hx'
        split at hx'
        · injection hx' with hx'; subst hx'; exact (slotD_tail (n := z.1) (data := z.2) h1).2
        · injection hx' with hx'; subst hx'; exact (slotD_tail (n := y.1) (data := y.2) h0).2
 have step : ∀ k, k < 2 → uptoD d (k + 1) = laterD (uptoD d k) (slotD d k) := fun k hk => by
  have : k = 0 ∨ k = 1 := by omega
  rcases this with rfl | rfl
  · show slotD d 0 = laterD none (slotD d 0); rfl
  · rfl
 refine ⟨fun vs HX nn => ∃ k, k ≤ 2 ∧ nn = 2 - k ∧ HX = H ∧ vs = [.ptr st 0, (curV (uptoD d k)).1, (curV (uptoD d k)).2, I k], ⟨2, H, Heap.le_refl _, 0, by omega, rfl, rfl, rfl⟩, ?_⟩
 rintro vs HX nn ⟨k, hk, rfl, rfl, rfl⟩
 simp only [nth_zero, nth_succ, bop_lss, pureK_some, condK_B, decide_eq_true_eq, decide_eq_false_iff_not]
 refine ⟨fun hlt => ?_, fun hge => ?_⟩
 · have hk' : k < 2 := by omega
   have hst := step k hk'
   have e1 : ((k : Int) + 1) = ((k + 1 : Nat) : Int) := by omega
   refine (Slot_ok h hk').mono ?_
   rintro r H1 ⟨rfl, rfl⟩
   cases hs : slotD d k with
   | none =>
     rw [hs] at hst
     simp only [slotV, extractE_tup, get0, get1, get2, pureK_some, condK_B]
     refine ⟨fun e => (by cases e), fun _ => ?_⟩
     rw [bop_add (by omega) (by omega)]
     simp only [pureK_some]
     refine ⟨2 - (k + 1), H1, by omega, Heap.le_refl _, k + 1, by omega, rfl, rfl, ?_⟩
     have : laterD (uptoD d k) none = uptoD d k := by cases uptoD d k <;> rfl
     rw [hst, this, e1]
   | some x =>
     obtain ⟨n, data⟩ := x
     rw [hs] at hst
     simp only [slotV, extractE_tup, get0, get1, get2, pureK_some, condK_B]
     refine ⟨fun _ => ?_, fun e => (by cases e)⟩
     have hn0 := (slotD_tail hs).2
     cases hu : uptoD d k with
     | none =>
       rw [hu] at hst
       simp only [curV, bop_gtr, pureK_some, condK_B, decide_eq_true_eq, decide_eq_false_iff_not]
       refine ⟨fun _ => ?_, fun e => absurd (by omega) e⟩
       rw [bop_add (by omega) (by omega)]
       simp only [pureK_some]
       refine ⟨2 - (k + 1), H1, by omega, Heap.le_refl _, k + 1, by omega, rfl, rfl, ?_⟩
       rw [hst, e1]; rfl
     | some y =>
       obtain ⟨m, out⟩ := y
       rw [hu] at hst
       simp only [curV, bop_gtr, pureK_some, condK_B, decide_eq_true_eq, decide_eq_false_iff_not]
       refine ⟨fun hgt => ?_, fun hle => ?_⟩
       · rw [bop_add (by omega) (by omega)]
         simp only [pureK_some]
         refine ⟨2 - (k + 1), H1, by omega, Heap.le_refl _, k + 1, by omega, rfl, rfl, ?_⟩
         have : laterD (some (m, out)) (some (n, data)) = some (n, data) := by unfold laterD; simp only; rw [if_pos (by omega)]
         rw [hst, this, e1]
       · rw [bop_add (by omega) (by omega)]
         simp only [pureK_some]
         refine ⟨2 - (k + 1), H1, by omega, Heap.le_refl _, k + 1, by omega, rfl, rfl, ?_⟩
         have : laterD (some (m, out)) (some (n, data)) = some (m, out) := by unfold laterD; simp only; rw [if_neg (by omega)]
         rw [hst, this, e1]
 · have hk' : k = 2 := by omega
   subst hk'
   have hl : uptoD d 2 = lastD d := rfl
   have hp := pos 2
   rw [hl] at hp ⊢
   cases hx : lastD d with
   | none =>
     simp only [curV, bop_eql, pureK_some, condK_B]
     exact ⟨fun _ => ret1_of HX (Heap.le_refl _) ⟨rfl, rfl⟩, fun e => (by cases e)⟩
   | some x =>
     obtain ⟨n, data⟩ := x
     have := hp _ hx
     simp only [curV, bop_eql, pureK_some, condK_B, decide_eq_true_eq, decide_eq_false_iff_not]
     exact ⟨fun e => absurd (by omega) this, fun _ => ret1_of HX (Heap.le_refl _) ⟨rfl, rfl⟩⟩

end Go.Av
