/- What each operation does to abstract values; the predicate transformer over the translated code. -/
import Derived.Test.YtninikfblhoieaaGreatDoorAv2
import Derived.RangeFuncSeq
set_option linter.all false

namespace Go.Av
open Go Go.RowKit

structure Env where
 P : Program
 Γ : Nat → Option AV
 n : Nat
 live : Nat → Option (List Nat)
 turns : Nat → Bool
 defs : List Deferred

abbrev Tm := Nat → AV
def Tm.upd (T : Tm) (i : Nat) (a : AV) : Tm := fun j => bif Nat.beq j i then a else T j
def nth : List AV → Nat → AV
 | l, 0 => l.headD .dead
 | l, k + 1 => nth l.tail k
def Tm.of (live : List Nat) (vs : List AV) : Tm := fun j =>
 match live with
 | [] => .dead
 | l :: live => bif Nat.beq j l then vs.headD .dead else Tm.of live vs.tail j

def ofConst : Value → AV
 | .slice none 0 0 => .lst 0 [] .exact
 | v => bif plain v then .sc v else .dead

def ev (E : Env) (T : Tm) : Operand → AV
 | .tmp t => T t
 | .const v => ofConst v
 | .global g => (E.Γ g).getD .dead
 | .func f => .fn (.func f) [] []

def intE (op : BinOp) (k : IntKind) (a : Int) (k' : IntKind) (b : Int) : Option AV :=
 match op with
 | .shl => if 0 ≤ b then some (.sc (.int k (k.wrap (a * 2 ^ (min b.toNat k.bits))))) else none
 | .shr => if 0 ≤ b then some (.sc (.int k (a.fdiv (2 ^ (min b.toNat k.bits))))) else none
 | _ =>
   if k = k' then
    match op with
    | .add => some (.sc (.int k (k.wrap (a + b))))
    | .sub => some (.sc (.int k (k.wrap (a - b))))
    | .mul => some (.sc (.int k (k.wrap (a * b))))
    | .quo => if b = 0 then none else some (.sc (.int k (k.wrap (a.tdiv b))))
    | .rem => if b = 0 then none else some (.sc (.int k (a.tmod b)))
    | .and => some (.sc (.int k (k.wrap (BitVec.ofInt k.bits a &&& BitVec.ofInt k.bits b).toNat)))
    | .or => some (.sc (.int k (k.wrap (BitVec.ofInt k.bits a ||| BitVec.ofInt k.bits b).toNat)))
    | .xor => some (.sc (.int k (k.wrap (BitVec.ofInt k.bits a ^^^ BitVec.ofInt k.bits b).toNat)))
    | .andNot => some (.sc (.int k (k.wrap (BitVec.ofInt k.bits a &&& ~~~(BitVec.ofInt k.bits b)).toNat)))
    | .eql => some (B (decide (a = b)))
    | .neq => some (B (!decide (a = b)))
    | .lss => some (B (decide (a < b)))
    | .leq => some (B (decide (a ≤ b)))
    | .gtr => some (B (decide (b < a)))
    | .geq => some (B (decide (b ≤ a)))
    | _ => none
   else none

def strE (op : BinOp) (a b : ByteArray) : Option AV :=
 match op with
 | .add => if a.size + b.size ≤ 4611686018427387904 then some (S (a ++ b)) else none
 | .eql => some (B (decide (a = b)))
 | .neq => some (B (!decide (a = b)))
 | .lss => some (B (Op.bytesLess a.toList b.toList))
 | .leq => some (B (Op.bytesLess a.toList b.toList || decide (a = b)))
 | .gtr => some (B (!(Op.bytesLess a.toList b.toList || decide (a = b))))
 | .geq => some (B (!Op.bytesLess a.toList b.toList))
 | _ => none

inductive FK where
 | int
 | str
 | bool
 deriving DecidableEq

def cellEq (k : FK) (x y : AV) : Option Bool :=
 match k, x, y with
 | .int, .sc (.int k a), .sc (.int k' b) => if k = k' then some (decide (a = b)) else none
 | .str, .sc (.string a), .sc (.string b) => some (decide (a = b))
 | .bool, .sc (.bool a), .sc (.bool b) => some (a == b)
 | _, _, _ => none

def cellsEq : List FK → List AV → List AV → Option Bool
 | [], [], [] => some true
 | k :: ks, a :: as, b :: bs =>
   match cellEq k a b, cellsEq ks as bs with
   | some x, some y => some (x && y)
   | _, _ => none
 | _, _, _ => none

def cmpE (op : BinOp) (r : Option Bool) : Option AV :=
 match op, r with
 | .eql, some b => some (B b)
 | .neq, some b => some (B (!b))
 | _, _ => none

def isNilIface : Operand → Bool
 | .const .nilIface => true
 | _ => false

def fkOf (P : Program) (t : TypeId) : Option FK :=
 match P.underlying t with
 | some .bool => some .bool
 | some (.int _) => some .int
 | some .string => some .str
 | _ => none
def flatFrom (P : Program) (n : Nat) : List Field → Option (List FK)
 | [] => some []
 | f :: r =>
   match f.name != "_" && f.offset == n, fkOf P f.type, flatFrom P (n + 1) r with
   | true, some k, some ks => some (k :: ks)
   | _, _, _ => none
def flat (P : Program) (t : TypeId) : Option (List FK) :=
 match P.underlying t with
 | some (.struct fs) => if !P.stoodInHeld t && !P.eqGuardType P.depth t then flatFrom P 0 fs.toList else none
 | _ => none

def isSliceT (P : Program) (t : TypeId) : Bool := match P.underlying t with | some (.slice _) => true | _ => false
def isByteT (P : Program) (t : TypeId) : Bool := match P.underlying t with | some (.int .u8) => true | _ => false

inductive BK where
 | plain
 | bool
 | flat (ks : List FK)
 | iface (nilc : Bool)
 | ptr
 | slice (nilc : Bool)

def isNilSlice : Operand → Bool
 | .const (.slice none _ _) => true
 | _ => false

def bkOf (P : Program) (t : TypeId) (x y : Operand) : BK :=
 match P.underlying t with
 | some .bool => .bool
 | some (.struct _) => match flat P t with | some ks => .flat ks | none => .plain
 | some (.interface _) => .iface (isNilIface x || isNilIface y)
 | some (.pointer _) => .ptr
 | some (.slice _) => .slice (isNilSlice y)
 | _ => .plain

def bop (k : BK) (op : BinOp) (a b : AV) : Option AV :=
 match a, b with
 | .sc (.int k a), .sc (.int k' b) => intE op k a k' b
 | .sc (.string a), .sc (.string b) => strE op a b
 | .sc (.bool a), .sc (.bool b) => match k with | .bool => cmpE op (some (a == b)) | _ => none
 | .agg xs, .agg ys => match k with | .flat ks => cmpE op (cellsEq ks xs ys) | _ => none
 | .sc .nilIface, .sc .nilIface => match k with | .iface true => cmpE op (some true) | _ => none
 | .ifc _ _, .sc .nilIface | .sc .nilIface, .ifc _ _ => match k with | .iface _ => cmpE op (some false) | _ => none
 | .sc (.pointer none), .sc (.pointer none) => match k with | .ptr => cmpE op (some true) | _ => none
 | .ptr _ _, .sc (.pointer none) | .sc (.pointer none), .ptr _ _ => match k with | .ptr => cmpE op (some false) | _ => none
 | .cp _ _, .sc (.pointer none) | .sc (.pointer none), .cp _ _ => match k with | .ptr => cmpE op (some false) | _ => none
 | .lst _ (_ :: _) _, .lst _ _ _ => match k with | .slice true => cmpE op (some false) | _ => none
 | _, _ => none

def binE (P : Program) (op : BinOp) (t : TypeId) (x y : Operand) (a b : AV) : Option AV := bop (bkOf P t x y) op a b

def unE (op : UnOp) (a : AV) : Option AV :=
 match op, a with
 | .not, .sc (.bool b) => some (B (!b))
 | .neg, .sc (.int k n) => some (.sc (.int k (k.wrap (0 - n))))
 | .xor, .sc (.int k n) => some (.sc (.int k (k.wrap (BitVec.ofInt k.bits (if k.signed then -1 else k.max) ^^^ BitVec.ofInt k.bits n).toNat)))
 | _, _ => none

def pickE (c a b : AV) : Option AV :=
 match c with
 | .sc (.bool c) => some (bif c then a else b)
 | _ => none

def hasT (P : Program) (t : TypeId) : Bool := (P.info? t).isSome

def splice (cs : List AV) (off : Nat) (xs : List AV) : List AV := cs.take off ++ xs ++ cs.drop (off + xs.length)

def fillE (place : Nat → Option (Nat × Nat)) (cs : List AV) : List (Nat × AV) → Option (List AV)
 | [] => some cs
 | (i, v) :: rest =>
   match place i with
   | none => none
   | some (off, size) =>
     if v.cells.length = size && off + size ≤ cs.length && v.cells.all AV.single then fillE place (splice cs off v.cells) rest else none

def zeroCells (P : Program) (t : TypeId) : Option (List AV) :=
 match (P.info? t).bind (·.zero) with
 | some z => some (z.cells.toList.map ofConst)
 | none => none

def bld (places : List (Nat × Nat)) (z : List AV) (parts : List (Nat × AV)) : Option AV := (fillE (fun i => places[i]?) z parts).map AV.agg

def buildE (P : Program) (t : TypeId) (parts : List (Nat × AV)) : Option AV :=
 match zeroCells P t, P.underlying t with
 | some z, some (.struct fs) =>
   bif z.all AV.single && fs.toList.all (fun f => hasT P f.type) then bld (fs.toList.map fun f => (f.offset, P.cellsOf f.type)) z parts else none
 | some z, some (.array n e) =>
   bif z.all AV.single && hasT P e then bld ((List.range n).map fun i => (i * P.cellsOf e, P.cellsOf e)) z parts else none
 | _, _ => none

def aggD : TypeDesc → Bool
 | .struct _ | .array _ _ => true
 | _ => false
def kindT (P : Program) (t : TypeId) : Option Bool := (P.underlying t).map aggD

def setAll (es : List AV) : List (Nat × AV) → List AV
 | [] => es
 | (i, v) :: r => setAll (es.set i v) r

def elemZero (P : Program) (e : TypeId) : Option AV :=
 (zeroCells P e).bind fun z => match kindT P e, z with | some true, z => some (.agg z) | some false, [c] => some c | _, _ => none

def bsl (s : Nat) (z : AV) (n : Nat) (parts : List (Nat × AV)) : Option AV :=
 if parts.all (fun p => decide (p.1 < n) && p.2.cells.length == s && p.2.cells.all AV.single) then some (.lst s (setAll (List.replicate n z) parts) .exact) else none

def bslOk (P : Program) (e : TypeId) (n : Nat) (z : AV) : Bool :=
 decide (n * P.cellsOf e ≤ 16777216) && z.cells.length == P.cellsOf e && z.cells.all AV.single && decide (0 < P.cellsOf e) && hasT P e

def buildSliceE (P : Program) (t : TypeId) (n : Nat) (parts : List (Nat × AV)) : Option AV :=
 match P.underlying t with
 | some (.slice e) =>
   match elemZero P e with
   | some z => bif bslOk P e n z then bsl (P.cellsOf e) z n parts else none
   | none => none
 | _ => none

def cutE (cs : List AV) (off : Nat) (agg : Option Bool) (n : Nat) : Option AV :=
 match agg with
 | some true => if off + n ≤ cs.length then some (.agg ((cs.drop off).take n)) else none
 | some false => cs[off]?
 | none => none

def ld (k : Option Bool) (n : Nat) (H : Heap) (p : AV) : Option AV :=
 match p with
 | .cp cs off => cutE cs off k n
 | .ptr o off =>
   match H o with
   | some (.cells cs) => cutE cs off k n
   | _ => none
 | _ => none

def loadE (P : Program) (H : Heap) (t : TypeId) (p : AV) : Option AV := ld (kindT P t) (P.cellsOf t) H p

def st (n : Nat) (H : Heap) (p v : AV) : Option Heap :=
 match p with
 | .ptr o off =>
   match H o with
   | some (.cells cs) =>
     if v.cells.length = n && off + v.cells.length ≤ cs.length && v.cells.all AV.single then some (H.upd o (.cells (splice cs off v.cells))) else none
   | _ => none
 | _ => none

def heapK (x : Option Heap) (K : Heap → Prop) : Prop :=
 match x with
 | some H => K H
 | none => False

def storeE (P : Program) (H : Heap) (t : TypeId) (p v : AV) : Option Heap := bif hasT P t then st (P.cellsOf t) H p v else none

def nilE : AV → Option AV
 | .ptr o off => some (.ptr o off)
 | .cp cs off => some (.cp cs off)
 | .fn (.func f) a b => some (.fn (.func f) a b)
 | _ => none

def fa (n : Nat) (p : AV) : Option AV :=
 match p with
 | .ptr o off => some (.ptr o (off + n))
 | .cp cs off => some (.cp cs (off + n))
 | _ => none

def faE (P : Program) (t : TypeId) (p : AV) (i : Nat) : Option AV :=
 match P.underlying t with
 | some (.struct fs) =>
   match fs[i]? with
   | some f => bif Nat.beq (P.cellsOf f.type) 0 then none else fa f.offset p
   | none => none
 | _ => none

def fld (off : Nat) (k : Option Bool) (n : Nat) (x : AV) : Option AV :=
 match x with
 | .agg cs => cutE cs off k n
 | _ => none

def fieldE (P : Program) (t : TypeId) (x : AV) (i : Nat) : Option AV :=
 match P.underlying t with
 | some (.struct fs) =>
   match fs[i]? with
   | some f => fld f.offset (kindT P f.type) (P.cellsOf f.type) x
   | none => none
 | _ => none

def ias (s : Nat) (x ix : AV) : Option AV :=
 match ix with
 | .sc (.int _ i) =>
   match x with
   | .lst s' es _ => if 0 ≤ i && s' == s then (es[i.toNat]?).map fun v => .cp v.cells 0 else none
   | .ms o off len _ => if 0 ≤ i ∧ i < len then some (.ptr o (off + i.toNat * s)) else none
   | _ => none
 | _ => none

def iaa (n s : Nat) (x ix : AV) : Option AV :=
 match ix with
 | .sc (.int _ i) =>
   match x with
   | .ptr o off => if 0 ≤ i ∧ i < n then some (.ptr o (off + i.toNat * s)) else none
   | .cp cs off => if 0 ≤ i ∧ i < n then some (.cp cs (off + i.toNat * s)) else none
   | _ => none
 | _ => none

def iaE (P : Program) (t : TypeId) (x ix : AV) : Option AV :=
 match P.underlying t with
 | some (.slice e) => bif hasT P e then ias (P.cellsOf e) x ix else none
 | some (.array n e) => bif hasT P e then iaa n (P.cellsOf e) x ix else none
 | _ => none

def ixs (x ix : AV) : Option AV :=
 match ix with
 | .sc (.int _ i) =>
   match x with
   | .sc (.string s) => if h : 0 ≤ i ∧ i.toNat < s.size then some (.sc (.int .u8 (s[i.toNat]'h.2).toNat)) else none
   | _ => none
 | _ => none

def ixa (n : Nat) (k : Option Bool) (s : Nat) (x ix : AV) : Option AV :=
 match ix with
 | .sc (.int _ i) =>
   match x with
   | .agg cs => if 0 ≤ i ∧ i < n then cutE cs (i.toNat * s) k s else none
   | _ => none
 | _ => none

def ixE (P : Program) (t : TypeId) (x ix : AV) : Option AV :=
 match P.underlying t with
 | some .string => ixs x ix
 | some (.array n e) => ixa n (kindT P e) (P.cellsOf e) x ix
 | _ => none

def bound (d : Nat) : Option AV → Option Nat
 | none => some d
 | some (.sc (.int _ i)) => if 0 ≤ i then some i.toNat else none
 | some _ => none

def sls (x : AV) (lo hi mx : Option AV) : Option AV :=
 match x with
 | .sc (.string s) =>
   match bound 0 lo, bound s.size hi, mx with
   | some l, some h, none => if l ≤ h ∧ h ≤ s.size then some (S (s.extract l h)) else none
   | _, _, _ => none
 | _ => none

def sll (s : Nat) (x : AV) (lo hi mx : Option AV) : Option AV :=
 match x with
 | .lst s' es p =>
   match bound 0 lo, bound es.length hi with
   | some l, some h =>
     if (s' = s ∨ es = []) ∧ l ≤ h ∧ h ≤ es.length then
      match mx with
      | none => some (.lst s ((es.take h).drop l) (if p = .exact ∧ h = es.length then .exact else .no))
      | some m => match bound 0 (some m) with
        | some m => if m = h then some (.lst s ((es.take h).drop l) .exact) else none
        | none => none
     else none
   | _, _ => none
 | .room s' t k =>
   match lo, bound k hi, mx with
   | none, some 0, none => if s' = s then some (.lst s [] (.tok t)) else none
   | _, _, _ => none
 | .ms o off len cap =>
   match bound 0 lo, bound len hi with
   | some l, some h =>
     match (match mx with | none => some cap | some m => bound 0 (some m)) with
     | some m => if l ≤ h ∧ h ≤ m ∧ m ≤ cap then some (.ms o (if m = l then off else off + l * s) (h - l) (m - l)) else none
     | none => none
   | _, _ => none
 | _ => none

def sla (n s : Nat) (x : AV) (lo hi mx : Option AV) : Option AV :=
 match bound 0 lo, bound n hi with
 | some l, some h =>
   if l ≤ h ∧ h ≤ n then
    match x, mx with
    | .ptr o off, none => some (.ms o (if n = l then off else off + l * s) (h - l) (n - l))
    | .cp cs 0, none => if s = 1 ∧ cs.length = n then some (.lst 1 ((cs.take h).drop l) .no) else none
    | _, _ => none
   else none
 | _, _ => none

def sliceE (P : Program) (t : TypeId) (x : AV) (lo hi mx : Option AV) : Option AV :=
 match P.underlying t with
 | some .string => sls x lo hi mx
 | some (.slice e) => bif hasT P e then sll (P.cellsOf e) x lo hi mx else none
 | some (.array n e) => bif hasT P e then sla n (P.cellsOf e) x lo hi mx else none
 | _ => none

def extractE (t : AV) (i : Nat) : Option AV :=
 match t with
 | .tup vs => vs[i]?
 | _ => none

def bytesOf? : List AV → Option (List UInt8)
 | [] => some []
 | .sc (.int .u8 n) :: r => (bytesOf? r).map (UInt8.ofNat n.toNat :: ·)
 | _ => none

def byteAV (b : UInt8) : AV := .sc (.int .u8 b.toNat)

inductive CK where
 | toInt (k : IntKind)
 | toFloat (k : FloatKind)
 | toStr
 | str
 | none

def ckOf (P : Program) (src dst : TypeId) : CK :=
 match P.underlying src, P.underlying dst with
 | some (.slice e), some .string => bif isByteT P e then .toStr else .none
 | some .string, some .string => .str
 | some _, some (.int k) => .toInt k
 | some _, some (.float k) => .toFloat k
 | _, _ => .none

def cv (c : CK) (x : AV) : Option AV :=
 match c, x with
 | .toInt k, .sc (.int _ n) => some (.sc (.int k (k.wrap n)))
 | .toFloat k, .sc (.int _ n) => some (.sc (.float k (k.nearest n)))
 | .toStr, .lst s es _ => if s = 1 ∨ es = [] then (bytesOf? es).map fun l => S ⟨l.toArray⟩ else Option.none
 | .str, .sc (.string s) => some (S s)
 | _, _ => Option.none

def convE (P : Program) (src dst : TypeId) (x : AV) : Option AV := cv (ckOf P src dst) x

def lns (x : AV) : Option AV := match x with | .sc (.string s) => some (I s.size) | _ => none
def lnl (x : AV) : Option AV := match x with | .lst _ es _ => some (I es.length) | .ms _ _ len _ => some (I len) | .room _ _ k => some (I k) | _ => none
def cpl (x : AV) : Option AV := match x with | .lst _ es .exact => some (I es.length) | .ms _ _ _ cap => some (I cap) | _ => none

def lenE (P : Program) (t : TypeId) (x : AV) : Option AV :=
 match P.underlying t with
 | some .string => lns x
 | some (.slice _) => lnl x
 | some (.array n _) => some (I n)
 | _ => none

def capE (P : Program) (t : TypeId) (x : AV) : Option AV :=
 match P.underlying t with
 | some (.slice _) => cpl x
 | _ => none

def max2E (x y : AV) : Option AV :=
 match x, y with
 | .sc (.int k a), .sc (.int _ b) => some (.sc (.int k (if b > a then b else a)))
 | _, _ => none
def min2E (x y : AV) : Option AV :=
 match x, y with
 | .sc (.int k a), .sc (.int _ b) => some (.sc (.int k (if b < a then b else a)))
 | _, _ => none
def foldE (f : AV → AV → Option AV) : AV → List AV → Option AV
 | x, [] => some x
 | x, y :: r => (f x y).bind fun z => foldE f z r
def maxE : List AV → Option AV
 | x :: r => foldE max2E x r
 | [] => none
def minE : List AV → Option AV
 | x :: r => foldE min2E x r
 | [] => none

def biE (P : Program) (b : Builtin) (ts : Array TypeId) (xs : List AV) : Option AV :=
 match b with
 | .len => match ts[0]?, xs with | some t, x :: _ => lenE P t x | _, _ => none
 | .cap => match ts[0]?, xs with | some t, x :: _ => capE P t x | _, _ => none
 | .max => maxE xs
 | .min => minE xs
 | _ => none

def mifE (P : Program) (t : TypeId) (x : AV) : Option AV :=
 match P.underlying t with
 | some (.interface _) | none => none
 | _ => some (.ifc t x)

def roE (E : Env) (T : Tm) (H : Heap) : Op → Option AV
 | .move x | .assign x => some (ev E T x)
 | .pick c a b => pickE (ev E T c) (ev E T a) (ev E T b)
 | .build t ps => buildE E.P t (ps.toList.map fun p => (p.1, ev E T p.2))
 | .buildSlice t n ps => buildSliceE E.P t n (ps.toList.map fun p => (p.1, ev E T p.2))
 | .load t a => loadE E.P H t (ev E T a)
 | .nilCheck x => nilE (ev E T x)
 | .binOp op t x y _ => binE E.P op t x y (ev E T x) (ev E T y)
 | .unOp op _ x => unE op (ev E T x)
 | .convert s d x => convE E.P s d (ev E T x)
 | .slice t x lo hi mx => bif mx.isSome && hi.isNone then none else sliceE E.P t (ev E T x) (lo.map (ev E T)) (hi.map (ev E T)) (mx.map (ev E T))
 | .fieldAddr t x i => faE E.P t (ev E T x) i
 | .field t x i => fieldE E.P t (ev E T x) i
 | .indexAddr t x i => iaE E.P t (ev E T x) (ev E T i)
 | .index t x i => ixE E.P t (ev E T x) (ev E T i)
 | .extract t i => extractE (ev E T t) i
 | .makeInterface t x => mifE E.P t (ev E T x)
 | .makeFunc fn a b => some (.fn fn (a.toList.map (ev E T)) (b.toList.map (ev E T)))
 | .call { callee := .builtin b, args, argTypes } => biE E.P b argTypes (args.toList.map (ev E T))
 | _ => none

def isRo : Op → Bool
 | .move _ | .assign _ | .pick .. | .build .. | .buildSlice .. | .load .. | .nilCheck _ | .binOp .. | .unOp .. | .convert .. | .slice .. | .fieldAddr .. | .field .. | .indexAddr .. | .index ..
 | .extract .. | .makeInterface .. | .makeFunc .. => true
 | .call { callee := .builtin b, .. } => match b with | .len | .cap | .max | .min => true | _ => false
 | _ => false

def pureK (x : Option AV) (K : AV → Prop) : Prop :=
 match x with
 | some r => K r
 | none => False

def condK (c : AV) (A B : Prop) : Prop :=
 match c with
 | .sc (.bool b) => match b with | true => A | false => B
 | _ => False

def ACalls (P : Program) (Γ : Nat → Option AV) (f : FuncId) (args : List AV) (H : Heap) (R : AV → Heap → Prop) : Prop :=
 ∀ (G : Ghost) (w : World) (vs : List Value), WRel Γ G H w → vs.length = args.length → (∀ i, i < args.length → Rep G w (vs.getD i undef) (args.getD i .dead)) →
   Calls P f vs.toArray w fun e w' => ∃ v G' r H', e = .returned v ∧ Ext G w G' w' ∧ WRel Γ G' H' w' ∧ Rep G' w' v r ∧ R r H'

def AReads (P : Program) (Γ : Nat → Option AV) (f : FuncId) (args : List AV) (H : Heap) (r : AV) : Prop :=
 ∀ H', H ≤ H' → ACalls P Γ f args H' fun r' H'' => r' = r ∧ H'' = H'

def enters (P : Program) (f : FuncId) : Bool :=
 match P.funcs[f]? with
 | some fn => !(fn.name == "runtime.NumGoroutine") && fn.body.isSome
 | none => false

def callN (E : Env) (f : AV) (args : List AV) (H : Heap) (K : AV → Heap → Prop) : Prop :=
 match f with
 | .fn (.func f) first captured => bif enters E.P f then ACalls E.P E.Γ f (first ++ args ++ captured) H K else False
 | _ => False

def readK (E : Env) (f : AV) (args : List AV) (H : Heap) (K : AV → Prop) : Prop :=
 match f with
 | .fn (.func f) first captured => bif enters E.P f then ∃ r, AReads E.P E.Γ f (first ++ args ++ captured) H r ∧ K r else False
 | _ => False

def allocP (cs : List AV) (H : Heap) (K : Nat → Heap → Prop) : Prop := ∀ o, H o = none → K o (H.upd o (.cells cs))

def allocK (cs : Option (List AV)) (H : Heap) (K : AV → Heap → Prop) : Prop :=
 match cs with
 | some cs => bif cs.all AV.single then allocP cs H (fun o H' => K (.ptr o 0) H') else False
 | none => False

def maxApp : Nat := 1073741824

def appended (s : Nat) : AV → Option (List AV)
 | .lst s' ys _ => if s' = s ∨ ys = [] then some ys else none
 | .sc (.string b) => if s = 1 then some (b.data.toList.map byteAV) else none
 | _ => none

def appS (s : Nat) (es : List AV) (p : Perm) (y : AV) (H : Heap) (K : AV → Heap → Prop) : Prop :=
 match p, y with
 | .exact, .ms o off len _ =>
   match H o with
   | some (.cells cs) => es = [] ∧ s = 1 ∧ off + len ≤ cs.length ∧ 0 < len ∧ len ≤ maxApp ∧ K (.lst s ((cs.drop off).take len) .no) H
   | _ => False
 | _, _ => False

def appK1 (s : Nat) (x y : AV) (H : Heap) (K : AV → Heap → Prop) : Prop :=
 match x with
 | .lst s1 es p =>
   match appended s y with
   | some ys =>
     (s1 = s ∨ es = []) ∧ es.length + ys.length ≤ maxApp ∧
     match p with
     | .no => False
     | .exact => K (.lst s (es ++ ys) .no) H ∨ (∀ t, H t = none → K (.lst s (es ++ ys) (.tok t)) (H.upd t (.tok (es.length + ys.length)))) ∨ (ys = [] ∧ K (.lst s es .exact) H) ∨
        (∃ t l, H t = some (.tok l) ∧ l < es.length + ys.length ∧ ys ≠ [] ∧ K (.lst s (es ++ ys) (.tok t)) (H.upd t (.tok (es.length + ys.length))))
     | .tok t => s1 = s ∧ H t = some (.tok es.length) ∧ K (.lst s (es ++ ys) (.tok t)) (H.upd t (.tok (es.length + ys.length)))
   | none => appS s es p y H K
 | _ => False

def appM (s : Nat) (x y : AV) (H : Heap) (K : AV → Heap → Prop) : Prop :=
 match x with
 | .lst s1 es .exact =>
   match appended s y with
   | some ys =>
     (s1 = s ∨ es = []) ∧ 0 < ys.length ∧ es.length + ys.length ≤ maxApp ∧
       ∀ o cap zs, H o = none → es.length + ys.length ≤ cap → zs.length = (cap - (es.length + ys.length)) * s →
         K (.ms o 0 (es.length + ys.length) cap) (H.upd o (.cells ((es ++ ys).flatMap AV.cells ++ zs)))
   | none => False
 | .ms o off len cap =>
   match appended s y, H o with
   | some ys, some (.cells cs) =>
     off + cap * s ≤ cs.length ∧ len ≤ cap ∧ 0 < ys.length ∧ len + ys.length ≤ maxApp ∧
      (len + ys.length ≤ cap → K (.ms o off (len + ys.length) cap) (H.upd o (.cells (splice cs (off + len * s) (ys.flatMap AV.cells))))) ∧
      (¬ len + ys.length ≤ cap → ∀ o2 cap2 zs, H o2 = none → len + ys.length ≤ cap2 → zs.length = (cap2 - (len + ys.length)) * s →
        K (.ms o2 0 (len + ys.length) cap2) (H.upd o2 (.cells ((cs.drop off).take (len * s) ++ ys.flatMap AV.cells ++ zs))))
   | _, _ => False
 | _ => False

def appK (s : Nat) (x y : AV) (H : Heap) (K : AV → Heap → Prop) : Prop := appK1 s x y H K ∨ appM s x y H K

def growK (s : Nat) (x y : AV) (H : Heap) (K : AV → Heap → Prop) : Prop :=
 match x, y with
 | .lst _ [] .exact, .sc (.int .i64 n) => 0 < n ∧ n ≤ maxApp ∧ ∀ t, H t = none → K (.room s t n.toNat) (H.upd t (.tok 0))
 | _, _ => False

def appOk (P : Program) (e : TypeId) : Bool :=
 hasT P e && decide (0 < P.cellsOf e) && (decide (P.bytesOf e ≤ 1024) && decide (0 < P.bytesOf e)) && (match zeroCells P e with | some z => z.length == P.cellsOf e && z.all AV.single | none => false)

def appendK (P : Program) (ts : Array TypeId) (x y : AV) (H : Heap) (K : AV → Heap → Prop) : Prop :=
 match ts[0]?, ts[1]? with
 | some t, some u =>
   match P.underlying t, P.underlying u with
   | some (.slice e), some (.int _) => bif appOk P e then growK (P.cellsOf e) x y H K else False
   | some (.slice e), some _ => bif appOk P e then appK (P.cellsOf e) x y H K else False
   | _, _ => False
 | _, _ => False

def mget (k : Int) : List (Int × AV) → Option AV
 | [] => none
 | (n, v) :: r => if n = k then some v else mget k r
def mset (k : Int) (x : AV) : List (Int × AV) → List (Int × AV)
 | [] => [(k, x)]
 | (n, v) :: r => if n = k then (k, x) :: r else (n, v) :: mset k x r

def okR (ok : Bool) (v : AV) (b : Bool) : AV := match ok with | true => .tup [v, B b] | false => v

def lk (z : AV) (ok : Bool) (x i : AV) (H : Heap) : Option AV :=
 match x, i with
 | .mp o, .sc (.int .i64 k) =>
   match H o with
   | some (.map es) => some (okR ok ((mget k es).getD z) (mget k es).isSome)
   | _ => none
 | _, _ => none

def intKeys (P : Program) (t : TypeId) : Option TypeId :=
 match P.underlying t with
 | some (.map kt et) => match P.underlying kt with
   | some (.int .i64) => some et
   | _ => none
 | _ => none

def zeroA (P : Program) (t : TypeId) : Option AV := ((P.info? t).bind (·.zero)).map ofConst

def lookE (P : Program) (t : TypeId) (ok : Bool) (x i : AV) (H : Heap) : Option AV :=
 match intKeys P t with
 | some et => match zeroA P et with
   | some z => lk z ok x i H
   | none => none
 | none => none

def mu (x k v : AV) (H : Heap) : Option Heap :=
 match x, k with
 | .mp o, .sc (.int .i64 n) =>
   match H o with
   | some (.map es) => some (H.upd o (.map (mset n v es)))
   | _ => none
 | _, _ => none

def muE (P : Program) (t : TypeId) (x k v : AV) (H : Heap) : Option Heap :=
 match intKeys P t with
 | some _ => mu x k v H
 | none => none

def newMapK (H : Heap) (K : AV → Heap → Prop) : Prop := ∀ o, H o = none → K (.mp o) (H.upd o (.map []))

def mks (s : Nat) (zc : List AV) (x y : AV) (H : Heap) (K : AV → Heap → Prop) : Prop :=
 match x, y with
 | .sc (.int _ n), .sc (.int _ m) => n = m ∧ 0 ≤ n ∧ n ≤ maxApp ∧ ∀ o (zs : List AV), zs.length = n.toNat * s → (∀ i, i < n.toNat * s → zs.getD i .dead = zc.getD (i % s) .dead) → H o = none → K (.ms o 0 n.toNat n.toNat) (H.upd o (.cells zs))
 | _, _ => False

def mksK (P : Program) (t : TypeId) (x y : AV) (H : Heap) (K : AV → Heap → Prop) : Prop :=
 match P.underlying t with
 | some (.slice e) => bif appOk P e then (match zeroCells P e with | some zc => mks (P.cellsOf e) zc x y H K | none => False) else False
 | _ => False

def srcLen : AV → Option Nat
 | .lst _ es _ => some es.length
 | .ms _ _ len _ => some len
 | _ => none
def srcCells (s n : Nat) (H : Heap) : AV → Option (List AV)
 | .lst s' es _ => if s' = s ∨ es = [] then some ((es.take n).flatMap AV.cells) else none
 | .ms o off _ _ =>
   match H o with
   | some (.cells cs) => if off + n * s ≤ cs.length then some ((cs.drop off).take (n * s)) else none
   | _ => none
 | _ => none

def cpy (s : Nat) (x y : AV) (H : Heap) (K : AV → Heap → Prop) : Prop :=
 match x with
 | .ms o off len _ =>
   match H o, srcLen y with
   | some (.cells cs), some m =>
     match srcCells s (min m len) H y with
     | some xs => off + min m len * s ≤ cs.length ∧ K (I (min m len : Nat)) (H.upd o (.cells (splice cs off xs)))
     | none => False
   | _, _ => False
 | _ => False

def cpyK (P : Program) (ts : Array TypeId) (x y : AV) (H : Heap) (K : AV → Heap → Prop) : Prop :=
 match ts[0]? with
 | some t =>
   match P.underlying t with
   | some (.slice e) => bif appOk P e then cpy (P.cellsOf e) x y H K else False
   | _ => False
 | none => False

def cpx (x y : AV) : Option AV :=
 match x, y with
 | .sc (.float k a), .sc (.float k' b) => if k = k' then some (.sc (.complex k a b)) else none
 | _, _ => none

def hwK (E : Env) (T : Tm) (H : Heap) (o : Op) (K : AV → Heap → Prop) : Prop :=
 match o with
 | .alloc t => allocK (zeroCells E.P t) H K
 | .box _ x => allocK (some (ev E T x).cells) H K
 | .store t a x =>
   heapK (storeE E.P H t (ev E T a) (ev E T x)) fun H' => K .dead H'
 | .call { callee := .value f, args, argTypes := _ } => callN E (ev E T f) (args.toList.map (ev E T)) H K
 | .call { callee := .builtin .append, args, argTypes } =>
   match args.toList with
   | [x, y] => appendK E.P argTypes (ev E T x) (ev E T y) H K
   | _ => False
 | .call { callee := .builtin .copy, args, argTypes } =>
   match args.toList with
   | [x, y] => cpyK E.P argTypes (ev E T x) (ev E T y) H K
   | _ => False
 | _ => False

def opK (E : Env) (T : Tm) (H : Heap) (o : Op) (K : AV → Heap → Prop) : Prop :=
 bif isRo o then pureK (roE E T H o) (fun r => K r H) else hwK E T H o K

def AYield (P : Program) (Γ : Nat → Option AV) (o : Nat) (args : List AV) (H : Heap) (R : AV → Heap → Prop) : Prop :=
 ∀ (G : Ghost) (w : World) (vs : List Value) (n : Nat), WRel Γ G H w → vs.length = args.length → (∀ i, i < args.length → Rep G w (vs.getD i undef) (args.getD i .dead)) →
   YieldAt Fence.wide n P (G.loc o) vs.toArray w fun e w' => ∃ v G' r H', e = .returned v ∧ Ext G w G' w' ∧ WRel Γ G' H' w' ∧ Rep G' w' v r ∧ R r H'

def callK (E : Env) (f : AV) (args : List AV) (H : Heap) (K : AV → Heap → Prop) : Prop :=
 match f with
 | .fn (.func f) first captured => bif enters E.P f then ACalls E.P E.Γ f (first ++ args ++ captured) H K else False
 | .yl o => AYield E.P E.Γ o args H K
 | _ => False

def hwY (E : Env) (T : Tm) (H : Heap) (o : Op) (K : AV → Heap → Prop) : Prop :=
 match o with
 | .call { callee := .value f, args, argTypes := _ } => callK E (ev E T f) (args.toList.map (ev E T)) H K
 | .makeMap _ none => newMapK H K
 | .insert t m k v => heapK (muE E.P t (ev E T m) (ev E T k) (ev E T v) H) fun H' => K .dead H'
 | .mapUpdate t m k v => heapK (muE E.P t (ev E T m) (ev E T k) (ev E T v) H) fun H' => K .dead H'
 | .lookup t x i ok => pureK (lookE E.P t ok (ev E T x) (ev E T i) H) fun r => K r H
 | .makeSlice t l c => mksK E.P t (ev E T l) (ev E T c) H K
 | .call { callee := .builtin .complex, args, argTypes := _ } =>
   match args.toList with
   | [x, y] => pureK (cpx (ev E T x) (ev E T y)) fun r => K r H
   | _ => False
 | o => hwK E T H o K

def nilCmp (P : Program) (o : Op) : Option Operand :=
 match o with
 | .binOp .eql t x y _ => bif isNilSlice y && isSliceT P t then some x else none
 | _ => none
def nilK (x : AV) (K : AV → Prop) : Prop :=
 match x with
 | .lst _ [] _ => K (B true) ∧ K (B false)
 | .lst _ (_ :: _) _ => K (B false)
 | .ms _ _ _ _ => K (B false)
 | _ => False

def opY (E : Env) (T : Tm) (H : Heap) (o : Op) (K : AV → Heap → Prop) : Prop :=
 match nilCmp E.P o with
 | some x => nilK (ev E T x) (fun r => K r H)
 | none => bif isRo o then pureK (roE E T H o) (fun r => K r H) else hwY E T H o K

def putK (E : Env) (T : Tm) (d : Option Tmp) (r : AV) (K : Tm → Prop) : Prop :=
 match d with
 | none => K T
 | some d => bif Nat.blt d E.n then K (T.upd d r) else False

def unK (c : AV) (S : Prop) : Prop :=
 match c with
 | .tup [] => S
 | _ => False

def addO (d : Option Tmp) (sk : List Nat) : List Nat :=
 match d with
 | some d => d :: sk
 | none => sk

def opsK (E : Env) (all : Array Oper) : List Oper → List Nat → Tm → Heap → (Tm → Heap → Prop) → Prop
 | [], _, T, H, K => K T H
 | o :: rest, sk, T, H, K =>
   match o.guard with
   | none => opK E T H o.op fun r H' => putK E T o.dst r fun T' => opsK E all rest sk T' H' K
   | some (j, want) =>
     match (all[j]?).bind (·.dst) with
     | none => False
     | some d => bif sk.any (Nat.beq d) then unK (T d) (putK E T o.dst (.tup []) fun T' => opsK E all rest (addO o.dst sk) T' H K) else condK (T d)
        (bif want then opK E (T.upd d (B true)) H o.op fun r H' => putK E (T.upd d (B true)) o.dst r fun T' => opsK E all rest sk T' H' K
          else putK E (T.upd d (B true)) o.dst (.tup []) fun T' => opsK E all rest (addO o.dst sk) T' H K)
        (bif want then putK E (T.upd d (B false)) o.dst (.tup []) fun T' => opsK E all rest (addO o.dst sk) T' H K
          else opK E (T.upd d (B false)) H o.op fun r H' => putK E (T.upd d (B false)) o.dst r fun T' => opsK E all rest sk T' H' K)

def opsY (E : Env) (all : Array Oper) : List Oper → List Nat → Tm → Heap → (Tm → Heap → Prop) → Prop
 | [], _, T, H, K => K T H
 | o :: rest, sk, T, H, K =>
   match o.guard with
   | none => opY E T H o.op fun r H' => putK E T o.dst r fun T' => opsY E all rest sk T' H' K
   | some (j, want) =>
     match (all[j]?).bind (·.dst) with
     | none => False
     | some d => bif sk.any (Nat.beq d) then unK (T d) (putK E T o.dst (.tup []) fun T' => opsY E all rest (addO o.dst sk) T' H K) else condK (T d)
        (bif want then opY E (T.upd d (B true)) H o.op fun r H' => putK E (T.upd d (B true)) o.dst r fun T' => opsY E all rest sk T' H' K
          else putK E (T.upd d (B true)) o.dst (.tup []) fun T' => opsY E all rest (addO o.dst sk) T' H K)
        (bif want then putK E (T.upd d (B false)) o.dst (.tup []) fun T' => opsY E all rest (addO o.dst sk) T' H K
          else opY E (T.upd d (B false)) H o.op fun r H' => putK E (T.upd d (B false)) o.dst r fun T' => opsY E all rest sk T' H' K)


end Go.Av
