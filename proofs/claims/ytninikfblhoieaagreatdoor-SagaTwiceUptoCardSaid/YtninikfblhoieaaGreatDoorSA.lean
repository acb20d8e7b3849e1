/- Own text SA of this claim: see the text that holds the theorem. -/
import Derived.Test.YtninikfblhoieaaGreatDoorAv16
set_option linter.all false
/- Numbers as bytes, bytes as numbers. -/
namespace Go.Av
open Go

theorem wrap_u64 {n : Int} (h1 : 0 ≤ n) (h2 : n < 18446744073709551616) : IntKind.wrap .u64 n = n := by
 show (if (false && decide (n % 18446744073709551616 ≥ 9223372036854775808)) = true then n % 18446744073709551616 - 18446744073709551616 else n % 18446744073709551616) = n
 rw [if_neg (by simp)]; omega
theorem wrap_u8 (n : Int) : IntKind.wrap .u8 n = n % 256 := by
 show (if (false && decide (n % 256 ≥ 128)) = true then n % 256 - 256 else n % 256) = n % 256
 rw [if_neg (by simp)]
theorem wrap_u32 (n : Int) : IntKind.wrap .u32 n = n % 4294967296 := by
 show (if (false && decide (n % 4294967296 ≥ 2147483648)) = true then n % 4294967296 - 4294967296 else n % 4294967296) = n % 4294967296
 rw [if_neg (by simp)]
theorem or_step (bk : BK) {n x k : Nat} (hn : n < 2 ^ (8 * k)) (hx : x < 256) (hk : k < 8) :
 bop bk .or (.sc (.int .u64 n)) (.sc (.int .u64 (x * 2 ^ (8 * k) : Nat))) = some (.sc (.int .u64 (n + x * 2 ^ (8 * k) : Nat))) := by
 have h8 : (2 : Nat) ^ (8 * k) * 256 ≤ 2 ^ 64 := by
  rw [show (256 : Nat) = 2 ^ 8 from rfl, ← Nat.pow_add]; exact Nat.pow_le_pow_right (by decide) (by omega)
 have hpos : 0 < (2 : Nat) ^ (8 * k) := Nat.two_pow_pos _
 have hm : x * 2 ^ (8 * k) + 2 ^ (8 * k) ≤ 2 ^ 64 := by
  have : x * 2 ^ (8 * k) + 2 ^ (8 * k) = (x + 1) * 2 ^ (8 * k) := by rw [Nat.add_mul, Nat.one_mul]
  rw [this, Nat.mul_comm]
  exact Nat.le_trans (Nat.mul_le_mul_left _ (by omega)) h8
 have e := Nat.shiftLeft_add_eq_or_of_lt hn x
 rw [Nat.shiftLeft_eq] at e
 have e64 : (2 : Nat) ^ 64 = 18446744073709551616 := by decide
 generalize hX : x * 2 ^ (8 * k) = X at *
 have ho : (BitVec.ofInt 64 (n : Int) ||| BitVec.ofInt 64 (X : Int)).toNat = n + X := by
  rw [BitVec.toNat_or, BitVec.ofInt_natCast, BitVec.ofInt_natCast, BitVec.toNat_ofNat, BitVec.toNat_ofNat, Nat.mod_eq_of_lt (by omega), Nat.mod_eq_of_lt (by omega), Nat.or_comm, ← e]; omega
 show intE .or .u64 _ .u64 _ = _
 simp only [intE, if_true]
 have : (BitVec.ofInt IntKind.u64.bits (n : Int) ||| BitVec.ofInt IntKind.u64.bits (X : Int)).toNat = n + X := ho
 rw [this, wrap_u64 (by omega) (by omega)]

theorem shl_step (bk : BK) {x k : Nat} (hx : x < 256) (hk : k < 8) :
 bop bk .shl (.sc (.int .u64 x)) (I (8 * k : Nat)) = some (.sc (.int .u64 (x * 2 ^ (8 * k) : Nat))) := by
 have h8 : (2 : Nat) ^ (8 * k) * 256 ≤ 2 ^ 64 := by
  rw [show (256 : Nat) = 2 ^ 8 from rfl, ← Nat.pow_add]; exact Nat.pow_le_pow_right (by decide) (by omega)
 have hpos : 0 < (2 : Nat) ^ (8 * k) := Nat.two_pow_pos _
 have hm : x * 2 ^ (8 * k) < 2 ^ 64 := by
  rw [Nat.mul_comm]
  exact Nat.lt_of_lt_of_le (Nat.mul_lt_mul_of_pos_left hx hpos) h8
 have e64 : (2 : Nat) ^ 64 = 18446744073709551616 := by decide
 show intE .shl .u64 (x : Int) .i64 ((8 * k : Nat) : Int) = _
 simp only [intE]
 rw [if_pos (by omega)]
 have e : min ((8 * k : Nat) : Int).toNat IntKind.u64.bits = 8 * k := by
  have : IntKind.u64.bits = 64 := rfl
  rw [this]; omega
 rw [e]
 have e2 : (x : Int) * 2 ^ (8 * k) = ((x * 2 ^ (8 * k) : Nat) : Int) := by simp
 rw [e2, wrap_u64 (by omega) (by omega)]

theorem shr_step (bk : BK) (kk : IntKind) {n k : Nat} (hk : 8 * k ≤ kk.bits) :
 bop bk .shr (.sc (.int kk n)) (I (8 * k : Nat)) = some (.sc (.int kk (n / 2 ^ (8 * k) : Nat))) := by
 show intE .shr kk (n : Int) .i64 ((8 * k : Nat) : Int) = _
 simp only [intE]
 rw [if_pos (by omega)]
 have e : min ((8 * k : Nat) : Int).toNat kk.bits = 8 * k := by omega
 rw [e]
 have e2 : (2 : Int) ^ (8 * k) = ((2 ^ (8 * k) : Nat) : Int) := by simp
 rw [e2, Int.fdiv_eq_ediv_of_nonneg _ (Int.natCast_nonneg _)]
 rfl

def putF (n m : Nat) : List UInt8 := (List.range m).map fun k => UInt8.ofNat (n / 2 ^ (8 * k) % 256)
theorem putF_len (n m : Nat) : (putF n m).length = m := by simp [putF]
def getN (b : List UInt8) : Nat → Nat
 | 0 => 0
 | k + 1 => getN b k + (b.getD k 0).toNat * 2 ^ (8 * k)
theorem getF_ex : ∃ f : List UInt8 → Nat, ∀ b, f b = getN b 8 := ⟨_, fun _ => rfl⟩
noncomputable def getF : List UInt8 → Nat := Classical.choose getF_ex
theorem getF_def (b : List UInt8) : getF b = getN b 8 := Classical.choose_spec getF_ex b
theorem getN_lt (b : List UInt8) : ∀ k, getN b k < 2 ^ (8 * k) := by
 intro k
 induction k with
 | zero => simp [getN]
 | succ k ih =>
   unfold getN
   have h1 : (b.getD k 0).toNat < 256 := UInt8.toNat_lt _
   have h2 : (2 : Nat) ^ (8 * (k + 1)) = 2 ^ (8 * k) * 256 := by rw [show 8 * (k + 1) = 8 * k + 8 by omega, Nat.pow_add]
   have h3 : (b.getD k 0).toNat * 2 ^ (8 * k) ≤ 255 * 2 ^ (8 * k) := Nat.mul_le_mul_right _ (by omega)
   omega
theorem getN_put (n : Nat) (b : List UInt8) (m : Nat) (h : ∀ k, k < m → b.getD k 0 = UInt8.ofNat (n / 2 ^ (8 * k) % 256)) : ∀ k, k ≤ m → getN b k = n % 2 ^ (8 * k) := by
 intro k
 induction k with
 | zero => intro _; simp [getN, Nat.mod_one]
 | succ k ih =>
   intro hk
   unfold getN
   rw [ih (by omega), h k (by omega)]
   have h2 : (2 : Nat) ^ (8 * (k + 1)) = 2 ^ (8 * k) * 256 := by rw [show 8 * (k + 1) = 8 * k + 8 by omega, Nat.pow_add]
   rw [h2, Nat.mod_mul]
   have : (UInt8.ofNat (n / 2 ^ (8 * k) % 256)).toNat = n / 2 ^ (8 * k) % 256 := by
    rw [UInt8.toNat_ofNat']; omega
   rw [this, Nat.mul_comm (2 ^ (8 * k))]
theorem getN_zero (b : List UInt8) (m : Nat) (h : b.length ≤ m) : ∀ k, m ≤ k → getN b k = getN b m := by
 intro k
 induction k with
 | zero => intro h2; have : m = 0 := by omega
           subst this; rfl
 | succ k ih =>
   intro h2
   by_cases e : m = k + 1
   · rw [e]
   · have h0 : b.getD k 0 = 0 := by simp [List.getD_eq_getElem?_getD, List.getElem?_eq_none (show b.length ≤ k by omega)]
     have : getN b (k + 1) = getN b k := by
      show getN b k + (b.getD k 0).toNat * 2 ^ (8 * k) = getN b k
      rw [h0]; simp
     rw [this, ih (by omega)]
theorem putF_getD (n m k : Nat) (h : k < m) : (putF n m).getD k 0 = UInt8.ofNat (n / 2 ^ (8 * k) % 256) := by
 simp [putF, List.getD_eq_getElem?_getD, h]
theorem get_put8 (n : Nat) (h : n < 18446744073709551616) (r : List UInt8) : getF (putF n 8 ++ r) = n := by
 have := getN_put n (putF n 8 ++ r) 8 (fun k hk => by
  rw [List.getD_eq_getElem?_getD, List.getElem?_append_left (by rw [putF_len]; exact hk), ← List.getD_eq_getElem?_getD, putF_getD n 8 k hk]) 8 (Nat.le_refl _)
 rw [getF_def]
 rw [this]
 exact Nat.mod_eq_of_lt h
theorem get_put4 (n : Nat) (h : n < 4294967296) : getF (putF n 4) = n := by
 have := getN_put n (putF n 4) 4 (fun k hk => putF_getD n 4 k hk) 4 (Nat.le_refl _)
 rw [getF_def]
 rw [getN_zero _ 4 (by rw [putF_len]; exact Nat.le_refl _) 8 (by omega), this]
 exact Nat.mod_eq_of_lt h
theorem getF_take8 (b : List UInt8) : getF (b.take 8) = getF b := by
 have : ∀ k, k ≤ 8 → getN (b.take 8) k = getN b k := by
  intro k
  induction k with
  | zero => intro _; rfl
  | succ k ih =>
    intro hk
    unfold getN
    rw [ih (by omega)]
    have : (b.take 8).getD k 0 = b.getD k 0 := by
     simp only [List.getD_eq_getElem?_getD]; rw [List.getElem?_take_of_lt (by omega)]
    rw [this]
 rw [getF_def, getF_def]; exact this 8 (Nat.le_refl _)

end Go.Av
/- Sums, frames, a disk's bytes, slots: plain. -/
namespace Go.Av
open Go

def xorU (a b : Int) : Int := IntKind.wrap .u32 (BitVec.ofInt 32 a ^^^ BitVec.ofInt 32 b).toNat
def andU (a b : Int) : Int := IntKind.wrap .u32 (BitVec.ofInt 32 a &&& BitVec.ofInt 32 b).toNat
def notU (a : Int) : Int := IntKind.wrap .u32 (BitVec.ofInt 32 4294967295 ^^^ BitVec.ofInt 32 a).toNat
def bitU (s : Int) : Int := xorU (s.fdiv (2 ^ 1)) (andU 3988292384 (IntKind.wrap .u32 (0 - andU s 1)))
def bitsU (s : Int) : Nat → Int
 | 0 => s
 | n + 1 => bitU (bitsU s n)
def byteU (s : Int) (x : UInt8) : Int := bitsU (xorU s x.toNat) 8
def moreU (s : Int) (b : List UInt8) : Int := notU (b.foldl byteU (notU s))
theorem wrap_u32_range (n : Int) : 0 ≤ IntKind.wrap .u32 n ∧ IntKind.wrap .u32 n < 4294967296 := by rw [wrap_u32]; omega
theorem moreU_range (s : Int) (b : List UInt8) : 0 ≤ moreU s b ∧ moreU s b < 4294967296 := wrap_u32_range _
theorem moreF_ex : ∃ f : Nat → List UInt8 → Nat, ∀ s b, f s b = (moreU s b).toNat := ⟨fun s b => (moreU s b).toNat, fun _ _ => rfl⟩
noncomputable def moreF : Nat → List UInt8 → Nat := Classical.choose moreF_ex
theorem moreF_def (s : Nat) (b : List UInt8) : moreF s b = (moreU s b).toNat := Classical.choose_spec moreF_ex s b
theorem moreF_eq (s : Nat) (b : List UInt8) : ((moreF s b : Nat) : Int) = moreU s b := by have := moreU_range s b; rw [moreF_def]; omega
theorem moreF_lt (s : Nat) (b : List UInt8) : moreF s b < 4294967296 := by have := moreU_range s b; rw [moreF_def]; omega

def headF (n len : Nat) : List UInt8 := putF n 8 ++ putF len 4
noncomputable def frameF (n : Nat) (data : List UInt8) : List UInt8 := headF n data.length ++ putF (moreF (moreF 0 (headF n data.length)) data) 4 ++ data
noncomputable def openF (b : List UInt8) : Option (Nat × List UInt8) :=
 if b.length < 16 then none
 else if 2048 < getF ((b.take 12).drop 8) ∨ b.length - 16 < getF ((b.take 12).drop 8) then none
 else if moreF (moreF 0 (b.take 12)) ((b.drop 16).take (getF ((b.take 12).drop 8))) = getF ((b.take 16).drop 12) then some (getF (b.take 8), (b.drop 16).take (getF ((b.take 12).drop 8)))
 else none
theorem headF_len (n len : Nat) : (headF n len).length = 12 := by simp [headF, putF_len]
theorem frameF_len (n : Nat) (data : List UInt8) : (frameF n data).length = 16 + data.length := by simp [frameF, headF_len, putF_len]; omega
theorem open_frame (n : Nat) (data r : List UInt8) (hn : n < 18446744073709551616) (hd : data.length ≤ 2048) : openF (frameF n data ++ r) = some (n, data) := by
 have hl := frameF_len n data
 have e12 : (frameF n data ++ r).take 12 = headF n data.length := by
  unfold frameF
  rw [List.append_assoc, List.append_assoc, List.take_append_of_le_length (by rw [headF_len]; exact Nat.le_refl _), List.take_of_length_le (by rw [headF_len]; exact Nat.le_refl _)]
 have e8 : (headF n data.length).drop 8 = putF data.length 4 := by
  unfold headF; rw [List.drop_append_of_le_length (by rw [putF_len]; exact Nat.le_refl _), List.drop_of_length_le (by rw [putF_len]; exact Nat.le_refl _)]; rfl
 have eg : getF (((frameF n data ++ r).take 12).drop 8) = data.length := by rw [e12, e8]; exact get_put4 _ (by omega)
 have e16 : ((frameF n data ++ r).take 16).drop 12 = putF (moreF (moreF 0 (headF n data.length)) data) 4 := by
  unfold frameF
  rw [List.append_assoc, List.take_append_of_le_length (by simp [headF_len, putF_len]), List.take_of_length_le (by simp [headF_len, putF_len]),
   List.drop_append_of_le_length (by rw [headF_len]; exact Nat.le_refl _), List.drop_of_length_le (by rw [headF_len]; exact Nat.le_refl _)]; rfl
 have ed : ((frameF n data ++ r).drop 16).take data.length = data := by
  unfold frameF
  rw [List.append_assoc, List.drop_append_of_le_length (by simp [headF_len, putF_len]), List.drop_of_length_le (by simp [headF_len, putF_len]), List.nil_append,
   List.take_append_of_le_length (Nat.le_refl _), List.take_length]
 have et8 : getF ((frameF n data ++ r).take 8) = n := by
  rw [getF_take8]
  unfold frameF headF
  rw [List.append_assoc, List.append_assoc, List.append_assoc]
  exact get_put8 n hn _
 unfold openF
 rw [if_neg (by simp [hl]; omega), eg, if_neg (by simp [hl]; omega), ed, e12, e16, get_put4 _ (moreF_lt _ _), if_pos rfl, et8]

structure DK where
 bytes : List UInt8
 nb : Nat
 many : Int
 cut : Bool
 left : Int
def DK.ok (d : DK) : Prop := d.bytes.length = 16 * d.nb ∧ 1 ≤ d.nb ∧ d.nb ≤ 1024
def spl (b : List UInt8) (off : Nat) (xs : List UInt8) : List UInt8 := b.take off ++ xs ++ b.drop (off + xs.length)
theorem spl_len (b : List UInt8) (off : Nat) (xs : List UInt8) (h : off + xs.length ≤ b.length) : (spl b off xs).length = b.length := by
 simp [spl]; omega
theorem spl_getD (b : List UInt8) (off : Nat) (xs : List UInt8) (h : off + xs.length ≤ b.length) (i : Nat) : (spl b off xs).getD i 0 = if off ≤ i ∧ i < off + xs.length then xs.getD (i - off) 0 else b.getD i 0 := by
 unfold spl
 simp only [List.getD_eq_getElem?_getD]
 by_cases h1 : i < off
 · rw [if_neg (by omega), List.append_assoc, List.getElem?_append_left (by simp; omega), List.getElem?_take_of_lt h1]
 · by_cases h2 : i < off + xs.length
   · rw [if_pos ⟨by omega, h2⟩, List.getElem?_append_left (by simp; omega), List.getElem?_append_right (by simp; omega)]
     simp [Nat.min_eq_left (show off ≤ b.length by omega)]
   · rw [if_neg (by omega), List.getElem?_append_right (by simp; omega), List.getElem?_drop]
     congr 2; simp; omega
theorem spl_map (b : List UInt8) (off : Nat) (xs : List UInt8) : (spl b off xs).map byteAV = splice (b.map byteAV) off (xs.map byteAV) := by
 simp [spl, splice, List.map_take, List.map_drop]
def pad16 (b : List UInt8) : List UInt8 := b ++ List.replicate (16 - b.length) 0
theorem pad16_len {b : List UInt8} (h : b.length ≤ 16) : (pad16 b).length = 16 := by simp [pad16]; omega
theorem pad16_getD (b : List UInt8) (i : Nat) : (pad16 b).getD i 0 = b.getD i 0 := by
 unfold pad16
 simp only [List.getD_eq_getElem?_getD]
 by_cases h : i < b.length
 · rw [List.getElem?_append_left h]
 · rw [List.getElem?_append_right (by omega), List.getElem?_eq_none (show b.length ≤ i by omega)]
   by_cases h2 : i - b.length < 16 - b.length
   · simp [h2]
   · rw [List.getElem?_eq_none (by simp; omega)]
def DK.down (d : DK) : Bool := d.cut && decide (d.left ≤ 0)
def writeD (d : DK) (k : Int) (b : List UInt8) : DK × Int :=
 if ¬ (0 ≤ k ∧ k < d.nb) ∨ 16 < b.length then (d, 1)
 else if d.down then (d, 170)
 else ({ d with bytes := spl d.bytes (16 * k.toNat) (pad16 b), many := IntKind.wrap .i64 (d.many + 1), left := IntKind.wrap .i64 (d.left - 1) }, 0)
theorem writeD_ok {d : DK} (h : d.ok) (k : Int) (b : List UInt8) : (writeD d k b).1.ok ∧ (writeD d k b).1.nb = d.nb ∧ (writeD d k b).1.cut = d.cut := by
 unfold writeD
 split
 · exact ⟨h, rfl, rfl⟩
 · rename_i h1
   split
   · exact ⟨h, rfl, rfl⟩
   · refine ⟨⟨?_, h.2⟩, rfl, rfl⟩
     show (spl _ _ _).length = 16 * d.nb
     rw [spl_len _ _ _ (by rw [pad16_len (by omega), h.1]; omega), h.1]
def DK.half (d : DK) : Nat := d.nb / 2
def DK.room (d : DK) : Nat := min 2048 ((d.half - 2) * 16)
def piece (f : List UInt8) (k : Nat) : List UInt8 := (f.take (min f.length ((k + 1) * 16))).drop (k * 16)
def pieces (f : List UInt8) : Nat := (f.length + 15) / 16
noncomputable def writesD (d : DK) (at' : Nat) (f : List UInt8) : Nat → Nat → DK × Int
 | _, 0 => (d, 0)
 | k, n + 1 => if (writeD d (at' + k : Nat) (piece f k)).2 = 0 then writesD (writeD d (at' + k : Nat) (piece f k)).1 at' f (k + 1) n else writeD d (at' + k : Nat) (piece f k)
noncomputable def saveD (d : DK) (n : Nat) (data : List UInt8) : DK × Int :=
 if n = 0 then (d, 1)
 else if d.room < data.length then (d, 181)
 else if (writesD d (n % 2 * d.half) (frameF n data) 0 (pieces (frameF n data))).2 = 0 then writeD (writesD d (n % 2 * d.half) (frameF n data) 0 (pieces (frameF n data))).1 (n % 2 * d.half + d.half - 1 : Nat) (putF n 8)
 else writesD d (n % 2 * d.half) (frameF n data) 0 (pieces (frameF n data))
def slotB (d : DK) (k : Nat) : List UInt8 := (d.bytes.drop (16 * (k * d.half))).take (16 * (d.half - 1))
def tailB (d : DK) (k : Nat) : List UInt8 := (d.bytes.drop (16 * (k * d.half + d.half - 1))).take 16
noncomputable def slotD (d : DK) (k : Nat) : Option (Nat × List UInt8) :=
 match openF (slotB d k) with
 | some (n, data) => if n = 0 ∨ getF (tailB d k) ≠ n then none else some (n, data)
 | none => none
def laterD (a b : Option (Nat × List UInt8)) : Option (Nat × List UInt8) :=
 match a, b with
 | none, b => b
 | some x, none => some x
 | some x, some y => if x.1 < y.1 then some y else some x
noncomputable def lastD (d : DK) : Option (Nat × List UInt8) := laterD (slotD d 0) (slotD d 1)

end Go.Av
/- What is saved is what a slot holds; a save that is cut changes no slot that was read. -/
namespace Go.Av
open Go

theorem getD_ext8 {a b : List UInt8} (hl : a.length = b.length) (h : ∀ i, i < a.length → a.getD i 0 = b.getD i 0) : a = b := by
 refine List.ext_getElem hl (fun i h1 h2 => ?_)
 have := h i h1
 simpa [List.getD_eq_getElem?_getD, h1, h2] using this
theorem cut_getD (b : List UInt8) (a m i : Nat) (h : i < m) : ((b.drop a).take m).getD i 0 = b.getD (a + i) 0 := by
 simp only [List.getD_eq_getElem?_getD]
 rw [List.getElem?_take_of_lt h, List.getElem?_drop]
theorem cut_len (b : List UInt8) (a m : Nat) (h : a + m ≤ b.length) : ((b.drop a).take m).length = m := by simp; omega
theorem piece_len (f : List UInt8) (k : Nat) : (piece f k).length ≤ 16 := by simp [piece]; omega
theorem piece_getD (f : List UInt8) (k i : Nat) (h1 : i < 16) (h2 : k * 16 + i < f.length) : (piece f k).getD i 0 = f.getD (k * 16 + i) 0 := by
 unfold piece
 simp only [List.getD_eq_getElem?_getD]
 rw [List.getElem?_drop, List.getElem?_take_of_lt (by omega)]

theorem half_of {a b : DK} (h : a.nb = b.nb) : a.half = b.half := by unfold DK.half; rw [h]
theorem writeD_in {d : DK} (h : d.ok) {k : Nat} {b : List UInt8} (hk : k < d.nb) (hb : b.length ≤ 16) :
 ((writeD d k b).2 = 170 ∧ (writeD d k b).1 = d ∧ d.cut = true) ∨ ((writeD d k b).2 = 0 ∧ (writeD d k b).1.bytes = spl d.bytes (16 * k) (pad16 b)) := by
 unfold writeD
 rw [if_neg (by omega)]
 cases hd : d.down with
 | true =>
   rw [if_pos rfl]
   refine .inl ⟨rfl, rfl, ?_⟩
   unfold DK.down at hd
   cases hc : d.cut with
   | true => rfl
   | false => rw [hc] at hd; cases hd
 | false => rw [if_neg (by simp)]; exact .inr ⟨rfl, by simp⟩

theorem writesD_spec (f : List UInt8) (a : Nat) : ∀ (n k : Nat) (d : DK), d.ok → a + k + n ≤ d.nb →
 (writesD d a f k n).1.ok ∧ (writesD d a f k n).1.nb = d.nb ∧ (writesD d a f k n).1.cut = d.cut ∧
 (∀ i, i < 16 * (a + k) ∨ 16 * (a + k + n) ≤ i → (writesD d a f k n).1.bytes.getD i 0 = d.bytes.getD i 0) ∧
 ((writesD d a f k n).2 = 170 ∧ d.cut = true ∨ (writesD d a f k n).2 = 0 ∧ ∀ j, 16 * k ≤ j → j < 16 * (k + n) → j < f.length → (writesD d a f k n).1.bytes.getD (16 * a + j) 0 = f.getD j 0) := by
 intro n
 induction n with
 | zero => intro k d h _; exact ⟨h, rfl, rfl, fun _ _ => rfl, .inr ⟨rfl, fun j h1 h2 => by omega⟩⟩
 | succ n ih =>
   intro k d h hb
   have hw := writeD_ok h (a + k : Nat) (piece f k)
   have hpl := piece_len f k
   unfold writesD
   rcases writeD_in h (k := a + k) (b := piece f k) (by omega) hpl with ⟨e, e2, hc⟩ | ⟨e, e2⟩
   · rw [e, if_neg (by decide), e2, e]
     exact ⟨h, rfl, rfl, fun _ _ => rfl, .inl ⟨rfl, hc⟩⟩
   · rw [e, if_pos rfl]
     have hfit : 16 * (a + k) + (pad16 (piece f k)).length ≤ d.bytes.length := by rw [pad16_len hpl, h.1]; omega
     obtain ⟨g1, g2, g3, g4, g5⟩ := ih (k + 1) (writeD d (a + k : Nat) (piece f k)).1 hw.1 (by rw [hw.2.1]; omega)
     refine ⟨g1, g2.trans hw.2.1, g3.trans hw.2.2, fun i hi => ?_, ?_⟩
     · rw [g4 i (by omega), e2, spl_getD _ _ _ hfit, if_neg (by rw [pad16_len hpl]; omega)]
     · rcases g5 with ⟨g5, g6⟩ | ⟨g5, g6⟩
       · exact .inl ⟨g5, hw.2.2 ▸ g6⟩
       · refine .inr ⟨g5, fun j h1 h2 h3 => ?_⟩
         by_cases hj : 16 * (k + 1) ≤ j
         · exact g6 j hj (by omega) h3
         · rw [g4 _ (by omega), e2, spl_getD _ _ _ hfit, if_pos (by rw [pad16_len hpl]; omega), pad16_getD, piece_getD f k _ (by omega) (by omega)]
           congr 1; omega

theorem room_fit {d : DK} (h3 : 3 ≤ d.half) {n : Nat} {data : List UInt8} (hr : data.length ≤ d.room) : pieces (frameF n data) ≤ d.half - 1 ∧ (frameF n data).length ≤ 16 * pieces (frameF n data) ∧ data.length ≤ 2048 := by
 unfold pieces DK.room at *
 rw [frameF_len]; omega

theorem slotB_eq {d d' : DK} (hh : d'.nb = d.nb) {k : Nat} (h : ∀ i, 16 * (k * d.half) ≤ i → i < 16 * (k * d.half + d.half) → d'.bytes.getD i 0 = d.bytes.getD i 0) (hl : d'.bytes.length = d.bytes.length) (h1 : 1 ≤ d.half) :
 slotB d' k = slotB d k ∧ tailB d' k = tailB d k := by
 have e : d'.half = d.half := half_of hh
 unfold slotB tailB
 rw [e]
 refine ⟨getD_ext8 (by simp [hl]) fun i hi => ?_, getD_ext8 (by simp [hl]) fun i hi => ?_⟩
 · have : i < 16 * (d.half - 1) := by simp at hi; omega
   rw [cut_getD _ _ _ _ this, cut_getD _ _ _ _ this]
   exact h _ (by omega) (by omega)
 · have : i < 16 := by simp at hi; omega
   rw [cut_getD _ _ _ _ this, cut_getD _ _ _ _ this]
   exact h _ (by omega) (by omega)

theorem saveD_spec {d : DK} (h : d.ok) (h3 : 3 ≤ d.half) {n : Nat} {data : List UInt8} (hn : n ≠ 0) (hn2 : n < 18446744073709551616) (hr : data.length ≤ d.room) :
 (saveD d n data).1.ok ∧ (saveD d n data).1.nb = d.nb ∧ (saveD d n data).1.cut = d.cut ∧
 (∀ k, k < 2 → k ≠ n % 2 → slotB (saveD d n data).1 k = slotB d k ∧ tailB (saveD d n data).1 k = tailB d k) ∧
 ((saveD d n data).2 = 170 ∧ d.cut = true ∧ tailB (saveD d n data).1 (n % 2) = tailB d (n % 2) ∨ (saveD d n data).2 = 0 ∧ slotD (saveD d n data).1 (n % 2) = some (n, data) ∧ getF (tailB (saveD d n data).1 (n % 2)) = n) := by
 obtain ⟨p1, p2, p3⟩ := room_fit (n := n) h3 hr
 have hnb : 2 * d.half ≤ d.nb := by unfold DK.half; omega
 have hm : n % 2 = 0 ∨ n % 2 = 1 := by omega
 have hbase : n % 2 * d.half + d.half ≤ d.nb := by rcases hm with e | e <;> rw [e] <;> omega
 obtain ⟨w1, w2, w3, w4, w5⟩ := writesD_spec (frameF n data) (n % 2 * d.half) (pieces (frameF n data)) 0 d h (by omega)
 have oth : ∀ k, k < 2 → k ≠ n % 2 → ∀ i, 16 * (k * d.half) ≤ i → i < 16 * (k * d.half + d.half) → i < 16 * (n % 2 * d.half) ∨ 16 * (n % 2 * d.half + d.half) ≤ i := fun k hk hne i h1 h2 => by
  rcases hm with e | e
  · have : k = 1 := by omega
    subst this; rw [e]; omega
  · have : k = 0 := by omega
    subst this; rw [e]; omega
 unfold saveD
 rw [if_neg hn, if_neg (by omega)]
 rcases w5 with ⟨e, hc⟩ | ⟨e, hj⟩
 · rw [e, if_neg (by decide)]
   refine ⟨w1, w2, w3, fun k hk hne => slotB_eq w2 (fun i h1 h2 => w4 i (by have := oth k hk hne i h1 h2; omega)) (by rw [w1.1, h.1, w2]) (by omega), .inl ⟨e, hc, ?_⟩⟩
   have e2 : (writesD d (n % 2 * d.half) (frameF n data) 0 (pieces (frameF n data))).1.half = d.half := half_of w2
   unfold tailB
   rw [e2]
   refine getD_ext8 (by simp [w1.1, h.1, w2]) fun i hi => ?_
   have : i < 16 := by simp at hi; omega
   rw [cut_getD _ _ _ _ this, cut_getD _ _ _ _ this]
   exact w4 _ (by omega)
 · rw [e, if_pos rfl]
   generalize hd1 : (writesD d (n % 2 * d.half) (frameF n data) 0 (pieces (frameF n data))).1 = d1 at *
   have hpl : (putF n 8).length ≤ 16 := by rw [putF_len]; decide
   have hk8 : n % 2 * d.half + d.half - 1 < d1.nb := by rw [w2]; omega
   obtain ⟨v1, v2, v3⟩ := writeD_ok w1 (n % 2 * d.half + d.half - 1 : Nat) (putF n 8)
   have eh : d1.half = d.half := half_of w2
   rcases writeD_in w1 hk8 hpl with ⟨e1, e2, hc⟩ | ⟨e1, e2⟩
   · rw [e1, e2]
     refine ⟨w1, w2, w3, fun k hk hne => slotB_eq w2 (fun i h1 h2 => w4 i (by have := oth k hk hne i h1 h2; omega)) (by rw [w1.1, h.1, w2]) (by omega), .inl ⟨rfl, w3 ▸ hc, ?_⟩⟩
     unfold tailB
     rw [eh]
     refine getD_ext8 (by simp [w1.1, h.1, w2]) fun i hi => ?_
     have : i < 16 := by simp at hi; omega
     rw [cut_getD _ _ _ _ this, cut_getD _ _ _ _ this]
     exact w4 _ (by omega)
   · have eh2 : (writeD d1 (n % 2 * d.half + d.half - 1 : Nat) (putF n 8)).1.half = d.half := half_of (v2.trans w2)
     have hfit : 16 * (n % 2 * d.half + d.half - 1) + (pad16 (putF n 8)).length ≤ d1.bytes.length := by rw [pad16_len hpl, w1.1]; omega
     have hget : ∀ i, (writeD d1 (n % 2 * d.half + d.half - 1 : Nat) (putF n 8)).1.bytes.getD i 0 = if 16 * (n % 2 * d.half + d.half - 1) ≤ i ∧ i < 16 * (n % 2 * d.half + d.half) then (pad16 (putF n 8)).getD (i - 16 * (n % 2 * d.half + d.half - 1)) 0 else d1.bytes.getD i 0 := fun i => by
      rw [e2, spl_getD _ _ _ hfit, pad16_len hpl]
      have : 16 * (n % 2 * d.half + d.half - 1) + 16 = 16 * (n % 2 * d.half + d.half) := by omega
      rw [this]
     generalize (writeD d1 (n % 2 * d.half + d.half - 1 : Nat) (putF n 8)) = D at *
     have htail : getF (tailB D.1 (n % 2)) = n := by
      have := getN_put n (tailB D.1 (n % 2)) 8 (fun k hk => by
       unfold tailB
       rw [eh2, cut_getD _ _ _ _ (by omega), hget, if_pos (by omega), pad16_getD, show 16 * (n % 2 * d.half + d.half - 1) + k - 16 * (n % 2 * d.half + d.half - 1) = k by omega, putF_getD n 8 k hk]) 8 (Nat.le_refl _)
      rw [getF_def, this]
      exact Nat.mod_eq_of_lt hn2
     refine ⟨v1, v2.trans w2, v3.trans w3, fun k hk hne => slotB_eq (v2.trans w2) (fun i h1 h2 => ?_) (by rw [v1.1, h.1, v2, w2]) (by omega), .inr ⟨e1, ?_, htail⟩⟩
     · have := oth k hk hne i h1 h2
       rw [hget, if_neg (by omega)]
       exact w4 i (by omega)
     · have hsl : (slotB D.1 (n % 2)).length = 16 * (d.half - 1) := by
        unfold slotB; rw [eh2]; exact cut_len _ _ _ (by rw [v1.1, v2, w2]; omega)
       have hpre : (slotB D.1 (n % 2)).take (frameF n data).length = frameF n data := by
        refine getD_ext8 (by rw [List.length_take, hsl]; omega) fun i hi => ?_
        have hi' : i < (frameF n data).length := by simp at hi; omega
        have e : ((slotB D.1 (n % 2)).take (frameF n data).length).getD i 0 = (slotB D.1 (n % 2)).getD i 0 := by
         simp only [List.getD_eq_getElem?_getD]; rw [List.getElem?_take_of_lt hi']
        rw [e]
        unfold slotB
        rw [eh2, cut_getD _ _ _ _ (by omega), hget, if_neg (by omega)]
        exact hj i (by omega) (by omega) hi'
       have hall : slotB D.1 (n % 2) = frameF n data ++ (slotB D.1 (n % 2)).drop (frameF n data).length := by
        conv => lhs; rw [← List.take_append_drop (frameF n data).length (slotB D.1 (n % 2))]
        rw [hpre]
       unfold slotD
       rw [hall, open_frame n data _ hn2 p3]
       simp only
       rw [if_neg (by rw [htail]; simp [hn])]

structure Kept (d : DK) (n : Nat) (data : List UInt8) : Prop where
 ok : d.ok
 h3 : 3 ≤ d.half
 has : slotD d (n % 2) = some (n, data)
 old : getF (tailB d ((n + 1) % 2)) < n
 room : data.length ≤ d.room
theorem slotD_tail {d : DK} {k n : Nat} {data : List UInt8} (h : slotD d k = some (n, data)) : getF (tailB d k) = n ∧ n ≠ 0 := by
 unfold slotD at h
 split at h
 · split at h
   · cases h
   · rename_i h2
     simp only [Option.some.injEq, Prod.mk.injEq] at h
     obtain ⟨rfl, rfl⟩ := h
     have h3 := fun e => h2 (.inl e)
     have h4 : getF (tailB d k) = _ := Classical.byContradiction fun e => h2 (.inr e)
     exact ⟨h4, h3⟩
 · cases h
theorem Kept.last {d : DK} {n : Nat} {data : List UInt8} (h : Kept d n data) : lastD d = some (n, data) := by
 have h1 := h.has
 have h2 := h.old
 have hm : n % 2 = 0 ∧ (n + 1) % 2 = 1 ∨ n % 2 = 1 ∧ (n + 1) % 2 = 0 := by omega
 unfold lastD
 rcases hm with ⟨e, e2⟩ | ⟨e, e2⟩
 · rw [e] at h1; rw [e2] at h2
   rw [h1]
   cases hs : slotD d 1 with
   | none => rfl
   | some x => obtain ⟨m, y⟩ := x
               have := (slotD_tail hs).1
               unfold laterD; simp only; rw [if_neg (by omega)]
 · rw [e] at h1; rw [e2] at h2
   rw [h1]
   cases hs : slotD d 0 with
   | none => rfl
   | some x => obtain ⟨m, y⟩ := x
               have := (slotD_tail hs).1
               unfold laterD; simp only; rw [if_pos (by omega)]
theorem slotD_eq {d d' : DK} {k : Nat} (h1 : slotB d' k = slotB d k) (h2 : tailB d' k = tailB d k) : slotD d' k = slotD d k := by
 unfold slotD; rw [h1, h2]
theorem Kept.save {d : DK} {n : Nat} {data data' : List UInt8} (h : Kept d n data) (hn : n + 1 < 18446744073709551616) (hr : data'.length ≤ d.room) :
 ((saveD d (n + 1) data').2 = 170 ∧ d.cut = true ∧ Kept (saveD d (n + 1) data').1 n data) ∨ ((saveD d (n + 1) data').2 = 0 ∧ Kept (saveD d (n + 1) data').1 (n + 1) data') := by
 obtain ⟨s1, s2, s3, s4, s5⟩ := saveD_spec h.ok h.h3 (n := n + 1) (by omega) hn hr
 obtain ⟨o1, o2⟩ := s4 (n % 2) (by omega) (by omega)
 have eh : (saveD d (n + 1) data').1.half = d.half := half_of s2
 have er : (saveD d (n + 1) data').1.room = d.room := by unfold DK.room; rw [eh]
 rcases s5 with ⟨e, hc, ht⟩ | ⟨e, hs, ht⟩
 · exact .inl ⟨e, hc, s1, by rw [eh]; exact h.h3, (slotD_eq o1 o2).trans h.has, by rw [ht]; exact h.old, by rw [er]; exact h.room⟩
 · refine .inr ⟨e, s1, by rw [eh]; exact h.h3, hs, ?_, by rw [er]; exact hr⟩
   rw [show (n + 1 + 1) % 2 = n % 2 by omega, o2, (slotD_tail h.has).1]
   omega
def emptyD (nb : Nat) : DK := ⟨List.replicate (16 * nb) 0, nb, 0, false, 0⟩
theorem zero_getF {b : List UInt8} (h : ∀ k, k < 8 → b.getD k 0 = 0) : getF b = 0 := by
 have : ∀ k, k ≤ 8 → getN b k = 0 := by
  intro k
  induction k with
  | zero => intro _; rfl
  | succ k ih => intro hk; unfold getN; rw [ih (by omega), h k (by omega)]; simp
 rw [getF_def]; exact this 8 (Nat.le_refl _)
theorem first_save {nb : Nat} {data : List UInt8} (h1 : 6 ≤ nb) (h2 : nb ≤ 1024) (hr : data.length ≤ (emptyD nb).room) : (saveD (emptyD nb) 1 data).2 = 0 ∧ Kept (saveD (emptyD nb) 1 data).1 1 data := by
 have hok : (emptyD nb).ok := ⟨by simp [emptyD], by show 1 ≤ nb; omega, h2⟩
 have h3 : 3 ≤ (emptyD nb).half := by show 3 ≤ nb / 2; omega
 obtain ⟨s1, s2, s3, s4, s5⟩ := saveD_spec hok h3 (n := 1) (by omega) (by omega) hr
 rcases s5 with ⟨_, hc, _⟩ | ⟨e, hs, ht⟩
 · cases hc
 · have eh : (saveD (emptyD nb) 1 data).1.half = (emptyD nb).half := half_of s2
   refine ⟨e, s1, by rw [eh]; exact h3, hs, ?_, by unfold DK.room at *; rw [eh]; exact hr⟩
   rw [show (1 + 1) % 2 = 0 from rfl, (s4 0 (by omega) (by omega)).2]
   rw [zero_getF (fun k hk => ?_)]
   · omega
   · unfold tailB
     rw [cut_getD _ _ _ _ (by omega)]
     simp only [emptyD, List.getD_eq_getElem?_getD, List.getElem?_replicate]
     split <;> rfl

end Go.Av
