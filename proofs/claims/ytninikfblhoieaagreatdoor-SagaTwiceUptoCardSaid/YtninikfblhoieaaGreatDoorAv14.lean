/- Regions whose order is drawn: what is read and made ahead of the tail comes to the same in every order. -/
import Derived.Test.YtninikfblhoieaaGreatDoorAv13
set_option linter.all false

namespace Go.Av
open Go Go.RowKit

variable {E : Env} {Γ : Nat → Option AV} {G : Ghost} {H H' : Heap} {w : World} {a : Act} {T : Tm} {P : Program}

def isAlloc : Op → Bool
 | .alloc _ => true
 | _ => false

def nameOf : Op → Option (FuncId × Array Operand)
 | .call { callee := .value (.func f), args, argTypes := _ } => some (f, args)
 | _ => none

def isSt : Op → Bool
 | .store .. => true
 | _ => false
def isMk (E : Env) (o : Op) : Bool := match nameOf o with | some (f, _) => E.turns f | none => isSt o

abbrev Mk := (Nat → AV) → Option (List AV) → Prop

def rem (H : Heap) : Option Nat → Heap
 | none => H
 | some p => fun o => if o = p then none else H o

def mapOf : List AV → Option Nat
 | [_, .lst 0 [] .exact, .mp q, _] => some q
 | _ => none
def addM (H : Heap) : Option Nat → Heap
 | none => H
 | some q => H.upd q (.map [])

def objOf (cs : List AV) : AObj :=
 match cs with
 | [.dead, .sc (.int .i64 n)] => .tok n.toNat
 | cs => .cells cs
theorem objOf_single {cs : List AV} (h : cs.all AV.single = true) : objOf cs = .cells cs := by
 unfold objOf
 split
 · simp [AV.single] at h
 · rfl
theorem objOf_ne_map (cs : List AV) : objOf cs ≠ .map [] := by
 unfold objOf
 split <;> (intro e; cases e)

def Made (fp : Option Nat) (H H' : Heap) (r : AV) (rf : Nat → AV) (ob : Option (List AV)) : Prop :=
 match ob with
 | none => r = rf 0 ∧ H' = H
 | some cs => match fp with
   | none => ∃ p, H p = none ∧ r = rf p ∧ (∀ q, mapOf cs = some q → H q = none ∧ p ≠ q) ∧ H' = (addM H (mapOf cs)).upd p (objOf cs)
   | some p => r = rf p ∧ H' = H.upd p (objOf cs)

def MkVal (φ : Mk) (v : AV) : Prop := v = .dead ∨ ∀ rf ob p, φ rf ob → rf p = v

def AMakes (P : Program) (Γ : Nat → Option AV) (f : FuncId) (args : List AV) (H : Heap) (fp : Option Nat) (φ : Mk) : Prop :=
 ∀ H', rem H fp ≤ H' → (∀ p, fp = some p → H' p = H p) → ACalls P Γ f args H' fun r H'' => ∃ rf ob, φ rf ob ∧ Made fp H' H'' r rf ob

def StMakes (n : Nat) (H : Heap) (fp : Option Nat) (a v : AV) (φ : Mk) : Prop :=
 ∃ p off cs, fp = some p ∧ a = .ptr p off ∧ st n H a v = some (H.upd p (.cells cs)) ∧ objOf cs = .cells cs ∧ φ = fun rf ob => rf = (fun _ => .dead) ∧ ob = some cs
def StMk (P : Program) (t : TypeId) (H : Heap) (fp : Option Nat) (a v : AV) (φ : Mk) : Prop := bif hasT P t then StMakes (P.cellsOf t) H fp a v φ else False

def madeK (fp : Option Nat) (H : Heap) (rf : Nat → AV) (ob : Option (List AV)) (K : AV → Heap → Prop) : Prop :=
 match ob with
 | none => K (rf 0) H
 | some cs => match fp with
   | none => ∀ p, H p = none → (∀ q, mapOf cs = some q → H q = none ∧ p ≠ q) → K (rf p) ((addM H (mapOf cs)).upd p (objOf cs))
   | some p => K (rf p) (H.upd p (objOf cs))

def isAp : Op → Bool
 | .call { callee := .builtin .append, .. } => true
 | _ => false
def updφ (φ : Nat → Mk) (i : Nat) (x : Mk) : Nat → Mk := fun j => bif Nat.beq j i then x else φ j
def MadeA (H H' : Heap) (r : AV) (rf : Nat → AV) (ob : Option (List AV)) : Prop :=
 match ob with
 | none => r = rf 0 ∧ H' = H
 | some cs => ∃ p, H p = none ∧ r = rf p ∧ H' = H.upd p (objOf cs)
def ApMk (E : Env) (T : Tm) (H : Heap) (o : Op) (φ : Mk) : Prop := ∀ H', H ≤ H' → opK E T H' o fun r H'' => ∃ rf ob, φ rf ob ∧ MadeA H' H'' r rf ob
def ApK (s : Nat) (x y : AV) (H : Heap) (φ : Mk) : Prop := ∀ H', H ≤ H' → appK s x y H' fun r H'' => ∃ rf ob, φ rf ob ∧ MadeA H' H'' r rf ob
def madeA (H : Heap) (rf : Nat → AV) (ob : Option (List AV)) (K : AV → Heap → Prop) : Prop :=
 match ob with
 | none => K (rf 0) H
 | some cs => ∀ p, H p = none → K (rf p) (H.upd p (objOf cs))

def isCall : Op → Bool
 | .call { callee := .value _, .. } => true
 | _ => false

def roK (E : Env) (T : Tm) (H : Heap) (o : Op) (K : AV → Prop) : Prop :=
 bif isRo o then pureK (roE E T H o) K else
 match o with
 | .call { callee := .value f, args, argTypes := _ } => readK E (ev E T f) (args.toList.map (ev E T)) H K
 | _ => False

def dstAt (ops : Array Oper) (i : Nat) : Option Tmp := (ops[i]?).bind (·.dst)

def dIdx (ops : Array Oper) : Nat → Nat → Option Nat
 | 0, _ => none
 | m + 1, s => match dstAt ops m with
   | some d => bif Nat.beq d s then some m else dIdx ops m s
   | none => dIdx ops m s

def isLt (ops : Array Oper) (m : Nat) (o : Op) : Bool :=
 match o with
 | .build _ xs => xs.toList.any fun p => match p.2 with
   | .tmp s => (match dIdx ops m s with | some k => (match ops[k]? with | some o' => isAp o'.op | none => false) | none => false)
   | _ => false
 | _ => false
def restr (ops : Array Oper) (bef : Array Nat) (m i : Nat) (T : Tm) : Tm := fun s =>
 match dIdx ops m s with
 | none => T s
 | some k => bif (bef.getD i 0).testBit k then T s else .dead

def isOb (E : Env) (o : Op) : Bool := isAlloc o || isAp o || isMk E o
def ltK (E : Env) (ops : Array Oper) (bef : Array Nat) (m i : Nat) (T : Tm) (φ : Nat → Mk) : List (Nat × Operand) → List (Nat × AV) → (List (Nat × AV) → Prop) → Prop
 | [], acc, K => K acc
 | (n, x) :: xs, acc, K =>
   match x with
   | .tmp s =>
     match dIdx ops m s with
     | none => ltK E ops bef m i T φ xs (acc ++ [(n, T s)]) K
     | some k =>
       match ops[k]? with
       | none => False
       | some o' =>
         bif isAp o'.op && (bef.getD i 0).testBit k then ∀ v, (∃ rf ob p, φ k rf ob ∧ v = rf p) → ltK E ops bef m i T φ xs (acc ++ [(n, v)]) K
         else bif isOb E o'.op || isLt ops m o'.op then False
         else ltK E ops bef m i T φ xs (acc ++ [(n, T s)]) K
   | x => ltK E ops bef m i T φ xs (acc ++ [(n, ev E T x)]) K
def LtF (E : Env) (ops : Array Oper) (bef : Array Nat) (m i : Nat) (T : Tm) (φ : Nat → Mk) (o : Op) : Prop :=
 match o with
 | .build t xs => ltK E ops bef m i T φ xs.toList [] fun acc => ∃ r, buildE E.P t acc = some r
 | _ => False
theorem ltK_use {ops : Array Oper} {bef : Array Nat} {m i : Nat} {T Tv : Tm} {φ φ' : Nat → Mk} {K : List (Nat × AV) → Prop} (h0 : ∀ s, dIdx ops m s = none → Tv s = T s)
 (h1 : ∀ s k o', dIdx ops m s = some k → ops[k]? = some o' → isAp o'.op = true → (bef.getD i 0).testBit k = true → ∃ rf ob p, φ' k rf ob ∧ Tv s = rf p)
 (h2 : ∀ s k o', dIdx ops m s = some k → ops[k]? = some o' → isOb E o'.op = false → isLt ops m o'.op = false → Tv s = T s) (hφ : ∀ k, (bef.getD i 0).testBit k = true → φ k = φ' k) :
 ∀ (xs : List (Nat × Operand)) (acc : List (Nat × AV)), ltK E ops bef m i T φ xs acc K → K (acc ++ xs.map fun p => (p.1, ev E Tv p.2)) := by
 intro xs
 induction xs with
 | nil => intro acc h; simpa [ltK] using h
 | cons y xs ih =>
   obtain ⟨n, x⟩ := y
   intro acc h
   have fin : ∀ v, ev E Tv x = v → K ((acc ++ [(n, v)]) ++ xs.map fun p => (p.1, ev E Tv p.2)) → K (acc ++ ((n, x) :: xs).map fun p => (p.1, ev E Tv p.2)) := fun v hv hk => by
    rw [List.map_cons, hv]
    rwa [List.append_assoc] at hk
   unfold ltK at h
   split at h
   · rename_i s
     split at h
     · rename_i hs
       exact fin (T s) (h0 s hs) (ih _ h)
     · rename_i k hk
       split at h
       · exact h.elim
       · rename_i o' ho'
         cases hap : isAp o'.op && (bef.getD i 0).testBit k with
         | true =>
           rw [hap] at h
           simp only [Bool.and_eq_true] at hap
           obtain ⟨rf, ob, p, q1, q2⟩ := h1 s k o' hk ho' hap.1 hap.2
           exact fin (Tv s) rfl (ih _ (h (Tv s) ⟨rf, ob, p, by rw [hφ k hap.2]; exact q1, q2⟩))
         | false =>
           rw [hap] at h
           simp only [cond_false] at h
           cases hob : isOb E o'.op || isLt ops m o'.op with
           | true => rw [hob] at h; exact h.elim
           | false =>
             rw [hob] at h
             simp only [cond_false] at h
             simp only [Bool.or_eq_false_iff] at hob
             exact fin (T s) (h2 s k o' hk ho' hob.1 hob.2) (ih _ h)
   · rename_i hx
     refine fin _ ?_ (ih _ h)
     cases x <;> first | rfl | exact absurd rfl (hx _)

def drawS (E : Env) (ops : Array Oper) (bef : Array Nat) (m : Nat) (H : Heap) (fp : Option Nat) : List Nat → List Nat → Tm → (Nat → Mk) → (List Nat → Tm → (Nat → Mk) → Prop) → Prop
 | [], sk, T, φ, K => K sk T φ
 | i :: is, sk, T, φ, K =>
   match ops[i]? with
   | none => False
   | some o =>
     bif isAlloc o.op then putK E T o.dst .dead fun T' => drawS E ops bef m H fp is sk T' φ K
     else
     bif isAp o.op then ∃ φ', ApMk E (restr ops bef m i T) (rem H fp) o.op φ' ∧ putK E T o.dst .dead fun T' => drawS E ops bef m H fp is sk T' (updφ φ i φ') K
     else
     bif isLt ops m o.op then LtF E ops bef m i (restr ops bef m i T) φ o.op ∧ putK E T o.dst .dead fun T' => drawS E ops bef m H fp is sk T' φ K
     else
     bif isMk E o.op then
      match nameOf o.op with
      | some (f, args) => bif enters E.P f then ∃ φ' v, AMakes E.P E.Γ f (args.toList.map (ev E (restr ops bef m i T))) H fp φ' ∧ MkVal φ' v ∧ putK E T o.dst v fun T' => drawS E ops bef m H fp is sk T' (updφ φ i φ') K else False
      | none =>
        match o.op with
        | .store t a x => ∃ φ', StMk E.P t H fp (ev E (restr ops bef m i T) a) (ev E (restr ops bef m i T) x) φ' ∧ putK E T o.dst .dead fun T' => drawS E ops bef m H fp is sk T' (updφ φ i φ') K
        | _ => False
     else
     match o.guard with
     | none => roK E (restr ops bef m i T) (rem H fp) o.op fun r => putK E T o.dst r fun T' => drawS E ops bef m H fp is sk T' φ K
     | some (j, want) =>
       match dstAt ops j with
       | none => False
       | some d => bif sk.any (Nat.beq d) then unK (restr ops bef m i T d) (putK E T o.dst (.tup []) fun T' => drawS E ops bef m H fp is (addO o.dst sk) T' φ K) else condK (restr ops bef m i T d)
          (bif want then roK E ((restr ops bef m i T).upd d (B true)) (rem H fp) o.op fun r => putK E (T.upd d (B true)) o.dst r fun T' => drawS E ops bef m H fp is sk T' φ K
            else putK E (T.upd d (B true)) o.dst (.tup []) fun T' => drawS E ops bef m H fp is (addO o.dst sk) T' φ K)
          (bif want then putK E (T.upd d (B false)) o.dst (.tup []) fun T' => drawS E ops bef m H fp is (addO o.dst sk) T' φ K
            else roK E ((restr ops bef m i T).upd d (B false)) (rem H fp) o.op fun r => putK E (T.upd d (B false)) o.dst r fun T' => drawS E ops bef m H fp is sk T' φ K)

def drawA (E : Env) (ops : Array Oper) (bef : Array Nat) (m : Nat) (fp : Option Nat) (φ : Nat → Mk) : List Nat → Tm → Heap → (Tm → Heap → Prop) → Prop
 | [], T, H, K => K T H
 | i :: is, T, H, K =>
   match ops[i]? with
   | none => False
   | some o =>
     match o.op with
     | .alloc t => allocK (zeroCells E.P t) H fun p H' => putK E T o.dst p fun T' => drawA E ops bef m fp φ is T' H' K
     | _ =>
       bif isAp o.op then ∀ rf ob, φ i rf ob → madeA H rf ob fun v H' => putK E T o.dst v fun T' => drawA E ops bef m fp φ is T' H' K
       else bif isLt ops m o.op then pureK (roE E (restr ops bef m i T) H o.op) fun v => putK E T o.dst v fun T' => drawA E ops bef m fp φ is T' H K
       else bif isMk E o.op then ∀ rf ob, φ i rf ob → madeK fp H rf ob fun v H' => putK E T o.dst v fun T' => drawA E ops bef m fp φ is T' H' K
       else drawA E ops bef m fp φ is T H K

def tailFrom (bef : Array Nat) : Nat → Nat
 | 0 => 0
 | k + 1 => if bef.getD k 0 = 2 ^ k - 1 then tailFrom bef k else k + 1

def maskOf (bef : Array Nat) (es : List Edge) : Nat := es.foldl (fun s e => if Region.binds .any e then s ||| 2 ^ e.on ||| bef.getD e.on 0 else s) 0

def edgesOk (i : Nat) (es : List Edge) : Bool := es.all fun e => !Region.binds .any e || Nat.blt e.on i

def zOk (E : Env) (t : TypeId) : Bool := match zeroCells E.P t with | some cs => cs.all AV.single | none => false

def drawOk (E : Env) (ops : Array Oper) (bef : Array Nat) (m : Nat) : Bool :=
 (List.range ops.size).all (fun i => match ops[i]? with | some o => Nat.beq (bef.getD i 0) (maskOf bef o.after.toList) && edgesOk i o.after.toList | none => false) &&
 (List.range m).all (fun i => match ops[i]? with
   | some o => (isRo o.op || isCall o.op || (isAlloc o.op && o.guard.isNone) || isSt o.op || isAp o.op) && (match o.guard with | some (j, _) => (bef.getD i 0).testBit j | none => true) &&
      (match o.dst with | some d => (match dIdx ops m d with | some k => Nat.beq k i | none => false) | none => true) && (!(isMk E o.op || isAp o.op || isLt ops m o.op) || o.guard.isNone) && (match o.op with | .alloc t => zOk E t | _ => true)
   | none => false) &&
 decide (((List.range m).filter (fun i => match ops[i]? with | some o => isMk E o.op | none => false)).length ≤ 1)

def hasMk (E : Env) (ops : Array Oper) (m : Nat) : Bool := (ops.toList.take m).any fun o => isMk E o.op

def drawK (E : Env) (ops : Array Oper) (T : Tm) (H : Heap) (K : Tm → Heap → Prop) : Prop :=
 let bef := Region.before ops
 let m := tailFrom bef ops.size
 bif drawOk E ops bef m then
  bif hasMk E ops m then ∃ fp : Option Nat, (∀ p, fp = some p → H p ≠ none) ∧ drawS E ops bef m H fp (List.range m) [] T (fun _ _ _ => False) fun sk T φ => drawA E ops bef m fp φ (List.range m) T H fun T H => opsK E ops (ops.toList.drop m) sk T H K
  else drawS E ops bef m H none (List.range m) [] T (fun _ _ _ => False) fun sk T φ => drawA E ops bef m none φ (List.range m) T H fun T H => opsK E ops (ops.toList.drop m) sk T H K
 else False

theorem ap_cls {o : Op} (h : isAp o = true) : isAlloc o = false ∧ isMk E o = false ∧ isRo o = false ∧ ∀ ops m, isLt ops m o = false := by
 unfold isAp at h
 split at h
 · exact ⟨rfl, rfl, rfl, fun _ _ => rfl⟩
 · cases h
theorem lt_cls {ops : Array Oper} {m : Nat} {o : Op} (h : isLt ops m o = true) : isAlloc o = false ∧ isMk E o = false ∧ isAp o = false ∧ ∃ t xs, o = .build t xs := by
 unfold isLt at h
 split at h
 · exact ⟨rfl, rfl, rfl, _, _, rfl⟩
 · cases h
theorem lt_ob {ops : Array Oper} {m : Nat} {o : Op} (h : isLt ops m o = true) : isOb E o = false := by
 obtain ⟨h1, h2, h3, _⟩ := lt_cls (E := E) h
 unfold isOb; rw [h1, h2, h3]; rfl
theorem alloc_ob {o : Op} (h : isAlloc o = true) : isOb E o = true := by unfold isOb; rw [h]; rfl
theorem ap_ob {o : Op} (h : isAp o = true) : isOb E o = true := by unfold isOb; rw [h]; simp
theorem mk_ob {o : Op} (h : isMk E o = true) : isOb E o = true := by unfold isOb; rw [h]; simp
theorem ob_not {o : Op} (h1 : isAlloc o = false) (h2 : isAp o = false) (h3 : isMk E o = false) : isOb E o = false := by unfold isOb; rw [h1, h2, h3]; rfl
theorem not_ob {o : Op} (h : isOb E o = false) : isAlloc o = false ∧ isAp o = false ∧ isMk E o = false := by
 unfold isOb at h
 simp only [Bool.or_eq_false_iff] at h
 exact ⟨h.1.1, h.1.2, h.2⟩
theorem lt_heap {ops : Array Oper} {m : Nat} {o : Op} (h : isLt ops m o = true) (T : Tm) (H H' : Heap) : roE E T H o = roE E T H' o := by
 obtain ⟨_, _, _, t, xs, rfl⟩ := lt_cls (E := E) h
 rfl
theorem updφ_same (φ : Nat → Mk) (i : Nat) (x : Mk) : updφ φ i x i = x := by unfold updφ; simp
theorem updφ_ne (φ : Nat → Mk) {i j : Nat} (x : Mk) (h : j ≠ i) : updφ φ i x j = φ j := by unfold updφ; rw [beq_ne h]; rfl

theorem testBit_mask {bef : Array Nat} {j : Nat} : ∀ (es : List Edge) (s : Nat), (es.foldl (fun s e => if Region.binds .any e then s ||| 2 ^ e.on ||| bef.getD e.on 0 else s) s).testBit j = true →
 s.testBit j = true ∨ ∃ e, e ∈ es ∧ Region.binds .any e = true ∧ (j = e.on ∨ (bef.getD e.on 0).testBit j = true) := by
 intro es
 induction es with
 | nil => intro s h; exact .inl h
 | cons e es ih =>
   intro s h
   simp only [List.foldl_cons] at h
   rcases ih _ h with h | ⟨e', he', h1, h2⟩
   · split at h
     · rename_i hb
       simp only [Nat.testBit_or, Bool.or_eq_true] at h
       rcases h with (h | h) | h
       · exact .inl h
       · right
         refine ⟨e, by simp, hb, .inl ?_⟩
         rw [Nat.testBit_two_pow] at h
         exact (of_decide_eq_true h).symm
       · exact .inr ⟨e, by simp, hb, .inr h⟩
     · exact .inl h
   · exact .inr ⟨e', by simp [he'], h1, h2⟩

theorem tailFrom_spec (bef : Array Nat) : ∀ n, tailFrom bef n ≤ n ∧ ∀ i, tailFrom bef n ≤ i → i < n → bef.getD i 0 = 2 ^ i - 1 := by
 intro n
 induction n with
 | zero => exact ⟨Nat.le_refl _, fun i _ h => by omega⟩
 | succ k ih =>
   simp only [tailFrom]
   split
   · rename_i h
     refine ⟨by omega, fun i h1 h2 => ?_⟩
     by_cases e : i = k
     · subst e; exact h
     · exact ih.2 i h1 (by omega)
   · exact ⟨Nat.le_refl _, fun i h1 h2 => by omega⟩

def Exec1 (E : Env) (T : Tm) (H : Heap) (o : Op) (r : AV) : Prop :=
 (isRo o = true ∧ roE E T H o = some r) ∨
 (∃ f args ts g first captured, o = .call { callee := .value f, args, argTypes := ts } ∧ ev E T f = .fn (.func g) first captured ∧ enters E.P g = true ∧ AReads E.P E.Γ g (first ++ args.toList.map (ev E T) ++ captured) H r)

def Step1 (E : Env) (ops : Array Oper) (T : Tm) (H : Heap) (o : Oper) (r : AV) : Prop :=
 match o.guard with
 | none => Exec1 E T H o.op r
 | some (j, want) => ∃ d, dstAt ops j = some d ∧ ((T d = .tup [] ∧ r = .tup []) ∨ ∃ b, T d = B b ∧ ((b = want ∧ Exec1 E T H o.op r) ∨ (b ≠ want ∧ r = .tup [])))

theorem roK_exec {o : Op} {K : AV → Prop} (h : roK E T H o K) : ∃ r, Exec1 E T H o r ∧ K r := by
 unfold roK at h
 cases hr : isRo o with
 | true =>
   rw [hr] at h
   simp only [cond_true] at h
   unfold pureK at h
   split at h <;> try (exact h.elim)
   rename_i r he
   exact ⟨r, .inl ⟨hr, he⟩, h⟩
 | false =>
   rw [hr] at h
   simp only [cond_false] at h
   split at h <;> try (exact h.elim)
   rename_i f args ts
   unfold readK at h
   split at h <;> try (exact h.elim)
   rename_i g first captured hf
   cases he : enters E.P g with
   | false => rw [he] at h; exact h.elim
   | true =>
   rw [he] at h
   obtain ⟨r, h1, h2⟩ := h
   exact ⟨r, .inr ⟨f, args, ts, g, first, captured, rfl, hf, he, h1⟩, h2⟩

def updO (T : Tm) (d : Option Tmp) (r : AV) : Tm := match d with | some d => T.upd d r | none => T

theorem putK_upd {d : Option Tmp} {r : AV} {K : Tm → Prop} (h : putK E T d r K) : K (updO T d r) ∧ ∀ x, d = some x → x < E.n := by
 unfold putK at h
 cases d with
 | none => exact ⟨h, by intro x h; cases h⟩
 | some d =>
   simp only at h
   cases hd : Nat.blt d E.n with
   | false => rw [hd] at h; exact h.elim
   | true => rw [hd] at h; exact ⟨h, fun x e => by injection e with e; subst e; simpa using hd⟩

def MkStep (E : Env) (T : Tm) (H : Heap) (fp : Option Nat) (o : Op) (φ : Mk) : Prop :=
 (∃ f args, nameOf o = some (f, args) ∧ enters E.P f = true ∧ AMakes E.P E.Γ f (args.toList.map (ev E T)) H fp φ) ∨ ∃ t a x, o = .store t a x ∧ StMk E.P t H fp (ev E T a) (ev E T x) φ

def OneP (E : Env) (ops : Array Oper) (bef : Array Nat) (m : Nat) (H : Heap) (fp : Option Nat) (i : Nat) (o : Oper) (r : AV) (T : Tm) (φ φ' : Nat → Mk) : Prop :=
 (isAlloc o.op = true ∧ r = .dead ∧ φ' = φ) ∨
 (isAp o.op = true ∧ r = .dead ∧ ∃ x, φ' = updφ φ i x ∧ ApMk E (restr ops bef m i T) (rem H fp) o.op x) ∨
 (isLt ops m o.op = true ∧ r = .dead ∧ φ' = φ ∧ LtF E ops bef m i (restr ops bef m i T) φ o.op) ∨
 (isAlloc o.op = false ∧ isMk E o.op = true ∧ ∃ x, φ' = updφ φ i x ∧ MkVal x r ∧ MkStep E (restr ops bef m i T) H fp o.op x) ∨
 (isOb E o.op = false ∧ isLt ops m o.op = false ∧ φ' = φ ∧ Step1 E ops (restr ops bef m i T) (rem H fp) o r)
def Plan (E : Env) (ops : Array Oper) (bef : Array Nat) (m : Nat) (H : Heap) (fp : Option Nat) (K : Tm → (Nat → Mk) → Prop) : List Nat → List AV → Tm → (Nat → Mk) → Prop
 | [], [], T, φ => K T φ
 | i :: is, r :: rs, T, φ => ∃ φ', (∃ o, ops[i]? = some o ∧ (∀ x, o.dst = some x → x < E.n) ∧ OneP E ops bef m H fp i o r T φ φ') ∧ Plan E ops bef m H fp K is rs (updO T (dstAt ops i) r) φ'
 | _, _, _, _ => False

theorem restr_val {ops : Array Oper} {bef : Array Nat} {m i d : Nat} {b : Bool} (h : restr ops bef m i T d = B b) : T d = B b := by
 unfold restr at h
 split at h
 · exact h
 · rename_i k _
   cases hb : (bef.getD i 0).testBit k with
   | true => rw [hb] at h; exact h
   | false => rw [hb] at h; cases h

theorem plan_of {ops : Array Oper} {bef : Array Nat} {m : Nat} {fp : Option Nat} {K : List Nat → Tm → (Nat → Mk) → Prop} : ∀ (is sk : List Nat) (T : Tm) (φ : Nat → Mk), drawS E ops bef m H fp is sk T φ K → ∃ rs, Plan E ops bef m H fp (fun T φ => ∃ sk, K sk T φ) is rs T φ := by
 intro is
 induction is with
 | nil => intro sk T φ h; exact ⟨[], sk, h⟩
 | cons i is ih =>
   intro sk T φ h
   unfold drawS at h
   split at h <;> try (exact h.elim)
   rename_i o ho
   have hdst : dstAt ops i = o.dst := by simp [dstAt, ho]
   cases hal : isAlloc o.op with
   | true =>
     rw [hal] at h
     simp only [cond_true] at h
     obtain ⟨h1, h2⟩ := putK_upd h
     obtain ⟨rs, hrs⟩ := ih _ _ _ h1
     exact ⟨.dead :: rs, φ, ⟨o, ho, h2, .inl ⟨hal, rfl, rfl⟩⟩, by rw [hdst]; exact hrs⟩
   | false =>
     rw [hal] at h
     simp only [cond_false] at h
     cases hap : isAp o.op with
     | true =>
       rw [hap] at h
       simp only [cond_true] at h
       obtain ⟨φ', h0, h⟩ := h
       obtain ⟨h1, h2⟩ := putK_upd h
       obtain ⟨rs, hrs⟩ := ih _ _ _ h1
       exact ⟨.dead :: rs, _, ⟨o, ho, h2, .inr (.inl ⟨hap, rfl, φ', rfl, h0⟩)⟩, by rw [hdst]; exact hrs⟩
     | false =>
     rw [hap] at h
     simp only [cond_false] at h
     cases hlt : isLt ops m o.op with
     | true =>
       rw [hlt] at h
       simp only [cond_true] at h
       obtain ⟨h0, h⟩ := h
       obtain ⟨h1, h2⟩ := putK_upd h
       obtain ⟨rs, hrs⟩ := ih _ _ _ h1
       exact ⟨.dead :: rs, φ, ⟨o, ho, h2, .inr (.inr (.inl ⟨hlt, rfl, rfl, h0⟩))⟩, by rw [hdst]; exact hrs⟩
     | false =>
     rw [hlt] at h
     simp only [cond_false] at h
     cases hmk : isMk E o.op with
     | true =>
       rw [hmk] at h
       simp only [cond_true] at h
       split at h
       · rename_i f args hname
         cases hen : enters E.P f with
         | false => rw [hen] at h; exact h.elim
         | true =>
         rw [hen] at h
         simp only [cond_true] at h
         obtain ⟨φ', v, h0, hv, h⟩ := h
         obtain ⟨h1, h2⟩ := putK_upd h
         obtain ⟨rs, hrs⟩ := ih _ _ _ h1
         exact ⟨v :: rs, _, ⟨o, ho, h2, .inr (.inr (.inr (.inl ⟨hal, hmk, φ', rfl, hv, .inl ⟨f, args, hname, hen, h0⟩⟩)))⟩, by rw [hdst]; exact hrs⟩
       · split at h <;> try (exact h.elim)
         rename_i t a x hop
         obtain ⟨φ', h0, h⟩ := h
         obtain ⟨h1, h2⟩ := putK_upd h
         obtain ⟨rs, hrs⟩ := ih _ _ _ h1
         exact ⟨.dead :: rs, _, ⟨o, ho, h2, .inr (.inr (.inr (.inl ⟨hal, hmk, φ', rfl, .inl rfl, .inr ⟨t, a, x, hop, h0⟩⟩)))⟩, by rw [hdst]; exact hrs⟩
     | false =>
     rw [hmk] at h
     simp only [cond_false] at h
     split at h
     · rename_i hg
       obtain ⟨r, h1, h2⟩ := roK_exec h
       obtain ⟨h3, h4⟩ := putK_upd h2
       obtain ⟨rs, hrs⟩ := ih _ _ _ h3
       exact ⟨r :: rs, φ, ⟨o, ho, h4, .inr (.inr (.inr (.inr ⟨ob_not hal hap hmk, hlt, rfl, by unfold Step1; rw [hg]; exact h1⟩)))⟩, by rw [hdst]; exact hrs⟩
     · rename_i j want hg
       split at h <;> try (exact h.elim)
       rename_i d hd
       have fin : ∀ b, restr ops bef m i T d = B b → (bif want then (if b = true then True else False) else (if b = false then True else False)) → roK E (restr ops bef m i T) (rem H fp) o.op (fun r => putK E T o.dst r fun T' => drawS E ops bef m H fp is sk T' φ K) → ∃ rs, Plan E ops bef m H fp (fun T φ => ∃ sk, K sk T φ) (i :: is) rs T φ := by
        intro b hb hw h
        obtain ⟨r, h1, h2⟩ := roK_exec h
        obtain ⟨h3, h4⟩ := putK_upd h2
        obtain ⟨rs, hrs⟩ := ih _ _ _ h3
        refine ⟨r :: rs, φ, ⟨o, ho, h4, .inr (.inr (.inr (.inr ⟨ob_not hal hap hmk, hlt, rfl, ?_⟩)))⟩, by rw [hdst]; exact hrs⟩
        unfold Step1; rw [hg]
        exact ⟨d, hd, .inr ⟨b, hb, .inl ⟨by cases want <;> cases b <;> simp_all, h1⟩⟩⟩
       have fout : ∀ b, restr ops bef m i T d = B b → b ≠ want → putK E T o.dst (.tup []) (fun T' => drawS E ops bef m H fp is (addO o.dst sk) T' φ K) → ∃ rs, Plan E ops bef m H fp (fun T φ => ∃ sk, K sk T φ) (i :: is) rs T φ := by
        intro b hb hw h
        obtain ⟨h3, h4⟩ := putK_upd h
        obtain ⟨rs, hrs⟩ := ih _ _ _ h3
        refine ⟨.tup [] :: rs, φ, ⟨o, ho, h4, .inr (.inr (.inr (.inr ⟨ob_not hal hap hmk, hlt, rfl, ?_⟩)))⟩, by rw [hdst]; exact hrs⟩
        unfold Step1; rw [hg]
        exact ⟨d, hd, .inr ⟨b, hb, .inr ⟨hw, rfl⟩⟩⟩
       cases hsk : sk.any (Nat.beq d) with
       | true =>
         rw [hsk] at h
         obtain ⟨hu, h⟩ := unK_cases h
         obtain ⟨h3, h4⟩ := putK_upd h
         obtain ⟨rs, hrs⟩ := ih _ _ _ h3
         refine ⟨.tup [] :: rs, φ, ⟨o, ho, h4, .inr (.inr (.inr (.inr ⟨ob_not hal hap hmk, hlt, rfl, ?_⟩)))⟩, by rw [hdst]; exact hrs⟩
         unfold Step1; rw [hg]
         exact ⟨d, hd, .inl ⟨hu, rfl⟩⟩
       | false =>
       rw [hsk] at h
       simp only [cond_false] at h
       rcases condK_cases h with ⟨hb, h⟩ | ⟨hb, h⟩
       · rw [upd_same hb, upd_same (restr_val hb)] at h
         cases want with
         | true => exact fin true hb (by simp) h
         | false => exact fout true hb (by simp) h
       · rw [upd_same hb, upd_same (restr_val hb)] at h
         cases want with
         | true => exact fout false hb (by simp) h
         | false => exact fin false hb (by simp) h


theorem dIdx_spec {ops : Array Oper} : ∀ {m s k : Nat}, dIdx ops m s = some k → k < m ∧ dstAt ops k = some s := by
 intro m
 induction m with
 | zero => intro s k h; cases h
 | succ m ih =>
   intro s k h
   unfold dIdx at h
   split at h
   · rename_i d hd
     cases hb : Nat.beq d s with
     | true =>
       rw [hb] at h
       injection h with h; subst h
       have := Nat.eq_of_beq_eq_true hb
       subst this
       exact ⟨by omega, hd⟩
     | false => rw [hb] at h; have := ih h; exact ⟨by omega, this.2⟩
   · have := ih h; exact ⟨by omega, this.2⟩

structure DrawFacts (E : Env) (ops : Array Oper) (bef : Array Nat) (m : Nat) : Prop where
 bound : m ≤ ops.size
 befs : ∀ i o, ops[i]? = some o → bef.getD i 0 = maskOf bef o.after.toList ∧ ∀ e, e ∈ o.after.toList → Region.binds .any e = true → e.on < i
 tail : ∀ i, m ≤ i → i < ops.size → bef.getD i 0 = 2 ^ i - 1
 guard : ∀ i o j want, i < m → ops[i]? = some o → o.guard = some (j, want) → (bef.getD i 0).testBit j = true
 dst : ∀ i d, i < m → dstAt ops i = some d → dIdx ops m d = some i
 allocg : ∀ i o, i < m → ops[i]? = some o → isAlloc o.op = true → o.guard = none
 mkg : ∀ i o, i < m → ops[i]? = some o → (isMk E o.op = true ∨ isAp o.op = true ∨ isLt ops m o.op = true) → o.guard = none
 zero : ∀ i o t, i < m → ops[i]? = some o → o.op = .alloc t → ∃ cs, zeroCells E.P t = some cs ∧ cs.all AV.single = true
 one : ∀ i j o o', i < m → j < m → ops[i]? = some o → ops[j]? = some o' → isMk E o.op = true → isMk E o'.op = true → i = j

theorem isAlloc_op' {o : Op} (h : isAlloc o = true) : ∃ t, o = .alloc t := by
 cases o <;> first | exact ⟨_, rfl⟩ | cases h

theorem drawFacts {ops : Array Oper} (h : drawOk E ops (Region.before ops) (tailFrom (Region.before ops) ops.size) = true) : DrawFacts E ops (Region.before ops) (tailFrom (Region.before ops) ops.size) := by
 generalize hb : Region.before ops = bef at h ⊢
 have htl := tailFrom_spec bef ops.size
 generalize hm : tailFrom bef ops.size = m at h htl ⊢
 unfold drawOk at h
 simp only [Bool.and_eq_true, decide_eq_true_eq, List.all_eq_true, List.mem_range] at h
 obtain ⟨⟨h1, h2⟩, h3⟩ := h
 have hlt : ∀ {i o}, ops[i]? = some o → i < ops.size := fun h => (Array.getElem?_eq_some_iff.1 h).1
 refine ⟨htl.1, fun i o ho => ?_, htl.2, fun i o j want hi ho hg => ?_, fun i d hi hd => ?_, fun i o hi ho ha => ?_, fun i o hi ho ha => ?_, fun i o t hi ho ha => ?_, fun i j o o' hi hj ho ho' ha ha' => ?_⟩
 · have := h1 i (hlt ho)
   simp only [ho, Bool.and_eq_true] at this
   refine ⟨Nat.eq_of_beq_eq_true this.1, fun e he hbd => ?_⟩
   have h4 := this.2
   unfold edgesOk at h4
   rw [List.all_eq_true] at h4
   have := h4 e he
   simp only [hbd, Bool.not_true, Bool.false_or] at this
   simpa using this
 · have := h2 i hi
   simp only [ho, hg, Bool.and_eq_true] at this
   exact this.1.1.1.2
 · have := h2 i hi
   unfold dstAt at hd
   cases ho : ops[i]? with
   | none => simp [ho] at hd
   | some o =>
     simp only [ho, Option.bind_some] at hd
     simp only [ho, hd, Bool.and_eq_true] at this
     have h4 := this.1.1.2
     split at h4
     · rename_i k hk
       rw [hk, Nat.eq_of_beq_eq_true h4]
     · cases h4
 · have := h2 i hi
   simp only [ho, Bool.and_eq_true, Bool.or_eq_true] at this
   obtain ⟨t, ht⟩ := isAlloc_op' ha
   rcases this.1.1.1.1 with (((h5 | h5) | h5) | h5) | h5
   · rw [ht] at h5; cases h5
   · rw [ht] at h5; cases h5
   · exact Option.isNone_iff_eq_none.1 h5.2
   · rw [ht] at h5; cases h5
   · rw [ht] at h5; cases h5
 · have := h2 i hi
   simp only [ho, Bool.and_eq_true] at this
   have h4 := this.1.2
   rw [Bool.or_eq_true] at h4
   rcases h4 with h5 | h5
   · rw [Bool.not_eq_true', Bool.or_eq_false_iff, Bool.or_eq_false_iff] at h5
     rcases ha with ha | ha | ha
     · rw [ha] at h5; cases h5.1.1
     · rw [ha] at h5; cases h5.1.2
     · rw [ha] at h5; cases h5.2
   · exact Option.isNone_iff_eq_none.1 h5
 · have := h2 i hi
   simp only [ho, ha, Bool.and_eq_true] at this
   have h5 := this.2
   unfold zOk at h5
   split at h5
   · rename_i cs hcs; exact ⟨cs, hcs, h5⟩
   · cases h5
 · generalize hf : (List.range m).filter (fun i => match ops[i]? with | some o => isMk E o.op | none => false) = f at h3
   have mi : i ∈ f := by rw [← hf, List.mem_filter]; exact ⟨List.mem_range.2 hi, by simp only [ho]; exact ha⟩
   have mj : j ∈ f := by rw [← hf, List.mem_filter]; exact ⟨List.mem_range.2 hj, by simp only [ho']; exact ha'⟩
   match f, h3, mi, mj with
   | [x], _, mi, mj => simp at mi mj; rw [mi, mj]

theorem plan_at {ops : Array Oper} {bef : Array Nat} {m : Nat} {fp : Option Nat} {K : Tm → (Nat → Mk) → Prop} : ∀ (len k : Nat) (rs : List AV) (T : Tm) (φ : Nat → Mk), Plan E ops bef m H fp K (List.range' k len) rs T φ →
 ∃ (Tc : Nat → Tm) (r : Nat → AV) (φc : Nat → Nat → Mk), Tc k = T ∧ φc k = φ ∧ K (Tc (k + len)) (φc (k + len)) ∧ ∀ i, k ≤ i → i < k + len → ∃ o, ops[i]? = some o ∧ (∀ x, o.dst = some x → x < E.n) ∧ Tc (i + 1) = updO (Tc i) (dstAt ops i) (r i) ∧ OneP E ops bef m H fp i o (r i) (Tc i) (φc i) (φc (i + 1)) := by
 intro len
 induction len with
 | zero =>
   intro k rs T φ h
   cases rs with
   | nil => exact ⟨fun _ => T, fun _ => .dead, fun _ => φ, rfl, rfl, h, fun i h1 h2 => by omega⟩
   | cons => exact h.elim
 | succ len ih =>
   intro k rs T φ h
   rw [List.range'_succ] at h
   cases rs with
   | nil => exact h.elim
   | cons r0 rs =>
     obtain ⟨φ', ⟨o, h1, h2, h3⟩, h4⟩ := h
     obtain ⟨Tc, r, φc, e1, e1', e2, e3⟩ := ih (k + 1) rs _ _ h4
     refine ⟨fun i => if i ≤ k then T else Tc i, fun i => if i = k then r0 else r i, fun i => if i ≤ k then φ else φc i, by simp, by simp, ?_, fun i hi1 hi2 => ?_⟩
     · simp only [if_neg (show ¬ k + (len + 1) ≤ k by omega)]; rw [show k + (len + 1) = k + 1 + len by omega]; exact e2
     · by_cases e : i = k
       · subst e
         refine ⟨o, h1, h2, ?_, ?_⟩
         · simp only [if_neg (show ¬ i + 1 ≤ i by omega), if_pos (Nat.le_refl i), if_true]; exact e1
         · simp only [if_neg (show ¬ i + 1 ≤ i by omega), if_pos (Nat.le_refl i), if_true, e1']; exact h3
       · obtain ⟨o', g1, g2, g3, g4⟩ := e3 i (by omega) (by omega)
         refine ⟨o', g1, g2, ?_, ?_⟩
         · simp only [if_neg (show ¬ i + 1 ≤ k by omega), if_neg (show ¬ i ≤ k by omega), if_neg e]; exact g3
         · simp only [if_neg (show ¬ i + 1 ≤ k by omega), if_neg (show ¬ i ≤ k by omega), if_neg e]; exact g4

theorem Tc_val {ops : Array Oper} {bef : Array Nat} {m : Nat} {Tc : Nat → Tm} {r : Nat → AV} (hf : DrawFacts E ops bef m) (hc : ∀ i, i < m → Tc (i + 1) = updO (Tc i) (dstAt ops i) (r i)) (s : Nat) : ∀ i, i ≤ m →
 Tc i s = match dIdx ops m s with | none => Tc 0 s | some j => if j < i then r j else Tc 0 s := by
 intro i
 induction i with
 | zero => intro _; split <;> simp
 | succ i ih =>
   intro hi
   rw [hc i (by omega)]
   have hi' := ih (by omega)
   by_cases hd : dstAt ops i = some s
   · rw [hf.dst i s (by omega) hd]
     rw [hd]
     simp only [updO]
     show (bif Nat.beq s s then r i else Tc i s) = _
     simp
   · have e : updO (Tc i) (dstAt ops i) (r i) s = Tc i s := by
      cases h : dstAt ops i with
      | none => rfl
      | some d =>
        have : ¬ s = d := fun e => by subst e; exact hd h
        show (bif Nat.beq s d then r i else Tc i s) = _
        rw [beq_ne this]; rfl
     rw [e, hi']
     split
     · rfl
     · rename_i j hj
       have hne : j ≠ i := fun e => by subst e; exact hd (dIdx_spec hj).2
       by_cases h : j < i
       · rw [if_pos h, if_pos (by omega)]
       · rw [if_neg h, if_neg (by omega)]


def Tof (ops : Array Oper) (m : Nat) (T0 : Tm) (X : Array Bool) (val : Nat → AV) : Tm := fun s =>
 match dIdx ops m s with
 | none => T0 s
 | some j => if X.getD j false = true then val j else .dead

def Tful (ops : Array Oper) (m : Nat) (T0 : Tm) (val : Nat → AV) : Tm := fun s =>
 match dIdx ops m s with
 | none => T0 s
 | some j => val j

def MkDone (E : Env) (H : Heap) (fp : Option Nat) (φ : Mk) (o : Op) (v : AV) (ob : Option (Nat × List AV)) (mq : Option Nat) : Prop :=
 (∃ t cs p, o = .alloc t ∧ zeroCells E.P t = some cs ∧ ob = some (p, cs) ∧ v = .ptr p 0 ∧ H p = none) ∨
 (isAp o = true ∧ ∃ rf ob', φ rf ob' ∧ match ob' with
   | none => ob = none ∧ v = rf 0
   | some cs => ∃ p, ob = some (p, cs) ∧ v = rf p ∧ H p = none) ∨
 (isAlloc o = false ∧ isMk E o = true ∧ ∃ rf ob', φ rf ob' ∧ match ob' with
   | none => ob = none ∧ v = rf 0 ∧ mq = none
   | some cs => ∃ p, ob = some (p, cs) ∧ v = rf p ∧ match fp with | none => H p = none ∧ mq = mapOf cs ∧ ∀ q, mapOf cs = some q → H q = none ∧ p ≠ q | some q => p = q ∧ mq = none)

structure Grown (H HX : Heap) (obs : Nat → Option (Nat × List AV)) : Prop where
 here : ∀ i p cs, obs i = some (p, cs) → HX p = some (objOf cs)
 off : ∀ o, (∀ i cs, obs i ≠ some (o, cs)) → HX o = H o
 inj : ∀ i j p cs cs', obs i = some (p, cs) → obs j = some (p, cs') → i = j

structure Phase1 (E : Env) (ops : Array Oper) (bef : Array Nat) (m : Nat) (T0 : Tm) (H : Heap) (fp : Option Nat) (φ : Nat → Mk) (r : Nat → AV) (G0 : Ghost) (w0 : World) (X : Array Bool) (a : Act) (w : World) : Prop where
 lt : ∀ i, X.getD i false = true → i < m
 state : ∃ (G : Ghost) (val : Nat → AV) (HX : Heap) (obs : Nat → Option (Nat × List AV)) (mq : Option Nat), Ext G0 w0 G w ∧ WRel E.Γ G HX w ∧ rem H fp ≤ HX ∧ TRel E G w a (Tof ops m T0 X val) ∧
  (∀ j o, j < m → ops[j]? = some o → isOb E o.op = false → isLt ops m o.op = false → val j = r j) ∧ Grown (addM H mq) HX obs ∧
  (∀ i, X.getD i false = false → obs i = none) ∧
  (∀ i o, i < m → ops[i]? = some o → isOb E o.op = false → obs i = none) ∧
  (∀ i o, i < m → ops[i]? = some o → isOb E o.op = true → X.getD i false = true → MkDone E H fp (φ i) o.op (val i) (obs i) mq) ∧
  (∀ i o, i < m → ops[i]? = some o → isLt ops m o.op = true → X.getD i false = true → roE E (restr ops bef m i (Tful ops m T0 val)) H o.op = some (val i)) ∧
  (∀ q, mq = some q → H q = none ∧ HX q = some (.map [])) ∧
  (mq ≠ none → ∃ i o, i < m ∧ ops[i]? = some o ∧ isAlloc o.op = false ∧ isMk E o.op = true ∧ X.getD i false = true)

def Phase2 (E : Env) (ops : Array Oper) (m : Nat) (K : Tm → Heap → Prop) (G0 : Ghost) (w0 : World) (X : Array Bool) (a : Act) (w : World) : Prop :=
 ∃ k, m ≤ k ∧ k ≤ ops.size ∧ (∀ i, i < ops.size → (X.getD i false = true ↔ i < k)) ∧
   ∃ sk G T HX, Ext G0 w0 G w ∧ WRel E.Γ G HX w ∧ TRel E G w a T ∧ opsK E ops (ops.toList.drop k) sk T HX K

theorem Grown.unique {H A B' : Heap} {obs : Nat → Option (Nat × List AV)} (h1 : Grown H A obs) (h2 : Grown H B' obs) : A = B' := by
 funext o
 by_cases e : ∃ i cs, obs i = some (o, cs)
 · obtain ⟨i, cs, e⟩ := e
   rw [h1.here _ _ _ e, h2.here _ _ _ e]
 · rw [h1.off o (fun i cs h => e ⟨i, cs, h⟩), h2.off o (fun i cs h => e ⟨i, cs, h⟩)]

theorem Grown.add {H A : Heap} {obs : Nat → Option (Nat × List AV)} (h : Grown H A obs) {i p : Nat} {cs : List AV} (hi : obs i = none) (hp : ∀ j cs', obs j ≠ some (p, cs')) :
 Grown H (A.upd p (objOf cs)) (fun j => if j = i then some (p, cs) else obs j) := by
 refine ⟨fun j q ds hj => ?_, fun o ho => ?_, fun j k q ds es hj hk => ?_⟩
 · by_cases e : j = i
   · simp only [if_pos e, Option.some.injEq, Prod.mk.injEq] at hj
     rw [← hj.1, ← hj.2]; exact Heap.upd_same _ _ _
   · simp only [if_neg e] at hj
     have hne : q ≠ p := fun e2 => by subst e2; exact hp j ds hj
     rw [Heap.upd_ne _ _ hne]; exact h.here _ _ _ hj
 · have hne : o ≠ p := fun e => by subst e; exact ho i cs (by simp)
   rw [Heap.upd_ne _ _ hne]
   refine h.off o fun j ds hj => ho j ds ?_
   have : j ≠ i := fun e => by subst e; rw [hi] at hj; cases hj
   simp only [if_neg this]; exact hj
 · by_cases e1 : j = i <;> by_cases e2 : k = i
   · rw [e1, e2]
   · simp only [if_pos e1, Option.some.injEq, Prod.mk.injEq] at hj
     simp only [if_neg e2] at hk
     rw [hj.1] at hp; exact absurd hk (hp _ _)
   · simp only [if_pos e2, Option.some.injEq, Prod.mk.injEq] at hk
     simp only [if_neg e1] at hj
     rw [hk.1] at hp; exact absurd hj (hp _ _)
   · simp only [if_neg e1] at hj
     simp only [if_neg e2] at hk
     exact h.inj _ _ _ _ _ hj hk

theorem Grown.none (H : Heap) : Grown H H (fun _ => none) := ⟨fun i p cs h => (by cases h), fun o _ => rfl, fun i j p cs cs' h => (by cases h)⟩

theorem isAlloc_op {o : Op} (h : isAlloc o = true) : ∃ t, o = .alloc t := by
 cases o <;> first | exact ⟨_, rfl⟩ | cases h

theorem mk_sound {o : Oper} {φ : Mk} {fp : Option Nat} {HX : Heap} {K : Act → World → Prop} {Q : Exit → Act → World → Prop} (hW : WRel E.Γ G HX w) (hle : rem H fp ≤ HX) (hfp : ∀ p, fp = some p → HX p = H p) (hT : TRel E G w a T) (h : MkStep E T H fp o.op φ)
 (hn : ∀ v w' G' r HX' rf ob, Ext G w G' w' → WRel E.Γ G' HX' w' → Rep G' w' v r → φ rf ob → Made fp HX HX' r rf ob → K (a.put o.dst v) w') : o.wp E.P a w K Q := by
 rcases h with ⟨f, args, hname, hen, hmk⟩ | ⟨t, pa, x, hop, hst⟩
 rotate_left
 · unfold StMk at hst
   cases ht : hasT E.P t with
   | false => rw [ht] at hst; exact hst.elim
   | true =>
   rw [ht] at hst
   obtain ⟨p, off, cs, e1, e2, e3, eo, rfl⟩ := hst
   have h1 := hfp p e1
   have e4 : st (E.P.cellsOf t) HX (ev E T pa) (ev E T x) = some (HX.upd p (.cells cs)) := by
    rw [e2] at e3 ⊢
    unfold st at e3 ⊢
    simp only at e3 ⊢
    rw [h1]
    split at e3 <;> try (cases e3; done)
    rename_i cs0 hcs0
    split at e3 <;> try (cases e3; done)
    rename_i hk
    injection e3 with e3
    have e5 := congrFun e3 p
    rw [Heap.upd_same, Heap.upd_same] at e5
    simp only [Option.some.injEq, AObj.cells.injEq] at e5
    simp only [hk, if_true, e5]
   have : opK E T HX o.op (fun r' H'' => ∃ rf ob, (rf = (fun _ => .dead) ∧ ob = some cs) ∧ Made fp HX H'' r' rf ob) := by
    unfold opK
    rw [hop]
    show heapK (storeE E.P HX t (ev E T pa) (ev E T x)) _
    unfold storeE
    rw [ht, e4]
    refine ⟨_, _, ⟨rfl, rfl⟩, ?_⟩
    unfold Made
    rw [e1]
    exact ⟨rfl, by rw [eo]⟩
   refine op_sound hW hT this ?_
   rintro v w' G' r' H1 x hW' hr ⟨rf, ob, h1, h2⟩
   exact hn v w' G' r' H1 rf ob x hW' hr h1 h2
 have hop : ∃ ts, o.op = .call { callee := .value (.func f), args := args, argTypes := ts } := by
  unfold nameOf at hname
  split at hname
  · rename_i f' args' ts heq
    injection hname with h1
    injection h1 with h1 h2
    subst h1 h2
    exact ⟨_, heq⟩
  · cases hname
 obtain ⟨ts, hop⟩ := hop
 have : opK E T HX o.op (fun r' H'' => ∃ rf ob, φ rf ob ∧ Made fp HX H'' r' rf ob) := by
  unfold opK
  rw [hop]
  show callN E (ev E T (.func f)) (args.toList.map (ev E T)) HX _
  unfold callN
  simp only [ev, hen, cond_true, List.nil_append, List.append_nil]
  exact hmk HX hle hfp
 refine op_sound hW hT this ?_
 rintro v w' G' r' H1 x hW' hr ⟨rf, ob, h1, h2⟩
 exact hn v w' G' r' H1 rf ob x hW' hr h1 h2

def upTo (k : Nat) (obs : Nat → Option (Nat × List AV)) : Nat → Option (Nat × List AV) := fun i => if i < k then obs i else none

theorem upTo_succ_none {k : Nat} {obs : Nat → Option (Nat × List AV)} (h : obs k = none) : upTo (k + 1) obs = upTo k obs := by
 funext i
 unfold upTo
 by_cases e : i = k
 · subst e; simp [h]
 · by_cases e2 : i < k
   · rw [if_pos (by omega), if_pos e2]
   · rw [if_neg (by omega), if_neg e2]
theorem upTo_succ_some {k : Nat} {obs : Nat → Option (Nat × List AV)} {x : Nat × List AV} (h : obs k = some x) : upTo (k + 1) obs = fun j => if j = k then some x else upTo k obs j := by
 funext i
 unfold upTo
 by_cases e : i = k
 · subst e; simp [h]
 · rw [if_neg e]
   by_cases e2 : i < k
   · rw [if_pos (by omega), if_pos e2]
   · rw [if_neg (by omega), if_neg e2]

noncomputable def mqAt (E : Env) (ops : Array Oper) (k : Nat) (mq : Option Nat) : Option Nat :=
 @ite _ (∃ i o, i < k ∧ ops[i]? = some o ∧ isAlloc o.op = false ∧ isMk E o.op = true) (Classical.propDecidable _) mq none
theorem mqAt_yes {ops : Array Oper} {k : Nat} {mq : Option Nat} (h : ∃ i o, i < k ∧ ops[i]? = some o ∧ isAlloc o.op = false ∧ isMk E o.op = true) : mqAt E ops k mq = mq := by
 unfold mqAt; exact @if_pos _ (Classical.propDecidable _) h _ _ _
theorem mqAt_no {ops : Array Oper} {k : Nat} {mq : Option Nat} (h : ¬ ∃ i o, i < k ∧ ops[i]? = some o ∧ isAlloc o.op = false ∧ isMk E o.op = true) : mqAt E ops k mq = none := by
 unfold mqAt; exact @if_neg _ (Classical.propDecidable _) h _ _ _
theorem mqAt_same {ops : Array Oper} {k : Nat} {mq : Option Nat} {o : Oper} (ho : ops[k]? = some o) (h : isAlloc o.op = true ∨ isMk E o.op = false) : mqAt E ops (k + 1) mq = mqAt E ops k mq := by
 by_cases e : ∃ i o, i < k ∧ ops[i]? = some o ∧ isAlloc o.op = false ∧ isMk E o.op = true
 · rw [mqAt_yes e]
   obtain ⟨i, o', h1, h2⟩ := e
   exact mqAt_yes ⟨i, o', by omega, h2⟩
 · rw [mqAt_no e]
   refine mqAt_no fun ⟨i, o', h1, h2, h3, h4⟩ => e ⟨i, o', ?_, h2, h3, h4⟩
   have : i ≠ k := fun e2 => by
    subst e2
    rw [ho] at h2; injection h2 with h2; subst h2
    rcases h with h | h
    · rw [h] at h3; cases h3
    · rw [h] at h4; cases h4
   omega
theorem mqAt_sub {ops : Array Oper} {k : Nat} {mq : Option Nat} {q : Nat} (h : mqAt E ops k mq = some q) : mq = some q := by
 by_cases e : ∃ i o, i < k ∧ ops[i]? = some o ∧ isAlloc o.op = false ∧ isMk E o.op = true
 · rwa [mqAt_yes e] at h
 · rw [mqAt_no e] at h; cases h
theorem addM_none {H : Heap} {mq : Option Nat} {p : Nat} (hp : ∀ q, mq = some q → p ≠ q) : addM H mq p = H p := by
 cases mq with
 | none => rfl
 | some q => exact Heap.upd_ne _ _ (hp q rfl)

theorem Tful_put {ops : Array Oper} {bef : Array Nat} {m k : Nat} {T T0 : Tm} {val : Nat → AV} (hf : DrawFacts E ops bef m) {o : Oper} (ho : ops[k]? = some o) (hkm : k < m)
 (h1 : ∀ s, dIdx ops m s = none → T s = T0 s) (h2 : ∀ s j oj, dIdx ops m s = some j → ops[j]? = some oj → (j < k ∨ (isOb E oj.op = false ∧ isLt ops m oj.op = false)) → T s = val j) :
 (∀ s, dIdx ops m s = none → updO T o.dst (val k) s = T0 s) ∧ (∀ s j oj, dIdx ops m s = some j → ops[j]? = some oj → (j < k + 1 ∨ (isOb E oj.op = false ∧ isLt ops m oj.op = false)) → updO T o.dst (val k) s = val j) := by
 have hdk : dstAt ops k = o.dst := by simp [dstAt, ho]
 have hu : ∀ s, updO T o.dst (val k) s = if o.dst = some s then val k else T s := fun s => by
  cases hod : o.dst with
  | none => rfl
  | some d =>
    show (bif Nat.beq s d then val k else T s) = _
    by_cases e : s = d
    · subst e; simp
    · rw [beq_ne e, if_neg (fun h => e (by injection h with h; exact h.symm))]; rfl
 refine ⟨fun s hs => ?_, fun s j oj hj hoj hc => ?_⟩
 · rw [hu s, if_neg]
   · exact h1 s hs
   · intro h
     have := hf.dst k s hkm (by rw [hdk]; exact h)
     rw [hs] at this; cases this
 · rw [hu s]
   by_cases hs : o.dst = some s
   · have := hf.dst k s hkm (by rw [hdk]; exact hs)
     rw [hj] at this
     injection this with this
     rw [if_pos hs, this]
   · rw [if_neg hs]
     refine h2 s j oj hj hoj ?_
     rcases hc with hc | hc
     · by_cases e : j = k
       · exfalso
         have := (dIdx_spec hj).2
         rw [e, hdk] at this; exact hs this
       · exact .inl (by omega)
     · exact .inr hc

theorem drawA_run {ops : Array Oper} {bef : Array Nat} {m : Nat} (hf : DrawFacts E ops bef m) (hbl : ∀ i, i < ops.size → ∀ j, (bef.getD i 0).testBit j = true → j < i) {φ : Nat → Mk} {fp : Option Nat} {obs : Nat → Option (Nat × List AV)} {val : Nat → AV} {T0 : Tm} {HX : Heap} {K : Tm → Heap → Prop} {mq : Option Nat} (hg : Grown (addM H mq) HX obs) (hmq : ∀ q, mq = some q → H q = none ∧ HX q = some (.map []))
 (hdone : ∀ i o, i < m → ops[i]? = some o → isOb E o.op = true → MkDone E H fp (φ i) o.op (val i) (obs i) mq)
 (hno : ∀ i o, i < m → ops[i]? = some o → isOb E o.op = false → obs i = none)
 (hlate : ∀ i o, i < m → ops[i]? = some o → isLt ops m o.op = true → roE E (restr ops bef m i (Tful ops m T0 val)) H o.op = some (val i)) :
 ∀ (len k : Nat) (T : Tm) (Hk : Heap), k + len = m → Grown (addM H (mqAt E ops k mq)) Hk (upTo k obs) →
   (∀ s, dIdx ops m s = none → T s = T0 s) → (∀ s j oj, dIdx ops m s = some j → ops[j]? = some oj → (j < k ∨ (isOb E oj.op = false ∧ isLt ops m oj.op = false)) → T s = val j) →
   drawA E ops bef m fp φ (List.range' k len) T Hk K → ∃ T' Hm, K T' Hm ∧ Grown (addM H (mqAt E ops m mq)) Hm (upTo m obs) ∧ (∀ s, dIdx ops m s = none → T' s = T0 s) ∧ (∀ s j, dIdx ops m s = some j → T' s = val j) := by
 intro len
 induction len with
 | zero =>
   intro k T Hk hk hgk hT1 hT2 h
   have : k = m := by omega
   subst this
   refine ⟨T, Hk, h, hgk, hT1, fun s j hj => ?_⟩
   have hjm := (dIdx_spec hj).1
   have := hf.bound
   exact hT2 s j ops[j] hj (Array.getElem?_eq_getElem (by omega)) (.inl hjm)
 | succ len ih =>
   intro k T Hk hk hgk hT1 hT2 h
   rw [List.range'_succ] at h
   unfold drawA at h
   split at h <;> try (exact h.elim)
   rename_i o ho
   have hkm : k < m := by omega
   have hdk : dstAt ops k = o.dst := by simp [dstAt, ho]
   have step : ∀ (H1 : Heap), Grown (addM H (mqAt E ops (k + 1) mq)) H1 (upTo (k + 1) obs) → putK E T o.dst (val k) (fun T' => drawA E ops bef m fp φ (List.range' (k + 1) len) T' H1 K) → ∃ T' Hm, K T' Hm ∧ Grown (addM H (mqAt E ops m mq)) Hm (upTo m obs) ∧ (∀ s, dIdx ops m s = none → T' s = T0 s) ∧ (∀ s j, dIdx ops m s = some j → T' s = val j) := by
    intro H1 hg1 hp
    obtain ⟨hp1, _⟩ := putK_upd hp
    obtain ⟨t1, t2⟩ := Tful_put (val := val) hf ho hkm hT1 hT2
    exact ih (k + 1) _ H1 (by omega) hg1 t1 t2 hp1
   have fresh : ∀ p cs, obs k = some (p, cs) → H p = none → Hk p = none := fun p cs hob hp => by
    rw [hgk.off p, addM_none (fun q hq e => by
     subst e
     have := (hmq _ (mqAt_sub hq)).2
     rw [hg.here _ _ _ hob] at this; exact objOf_ne_map _ (Option.some.inj this)), hp]
    intro i ds hi
    unfold upTo at hi
    split at hi
    · have := hg.inj i k p ds cs hi hob; omega
    · cases hi
   have grow : ∀ (HB HY : Heap) p cs, Grown HB HY (upTo k obs) → obs k = some (p, cs) → Grown HB (HY.upd p (objOf cs)) (upTo (k + 1) obs) := fun HB HY p cs hgy hob => by
    rw [upTo_succ_some hob]
    refine hgy.add (by simp [upTo]) (fun i ds hi => ?_)
    unfold upTo at hi
    split at hi
    · have := hg.inj i k p ds cs hi hob; omega
    · cases hi
   cases hal : isAlloc o.op with
   | true =>
     obtain ⟨t, ht⟩ := isAlloc_op hal
     rw [ht] at h
     simp only at h
     rcases hdone k o hkm ho (alloc_ob hal) with ⟨t', cs, p, e1, e2, e3, e4, e5⟩ | ⟨e1, _⟩ | ⟨e1, _⟩
     · rw [ht] at e1
       injection e1 with e1
       subst e1
       unfold allocK at h
       rw [e2] at h
       simp only at h
       cases hs : cs.all AV.single with
       | false => rw [hs] at h; exact h.elim
       | true =>
       rw [hs] at h
       have hp := h p (fresh p cs e3 e5)
       exact step _ (by rw [mqAt_same ho (.inl hal)]; exact grow _ _ p cs hgk e3) (by rw [e4, objOf_single hs]; exact hp)
     · rw [(ap_cls (E := E) e1).1] at hal; cases hal
     · rw [hal] at e1; cases e1
   | false =>
     have h' : (bif isAp o.op then ∀ rf ob, φ k rf ob → madeA Hk rf ob fun v H' => putK E T o.dst v fun T' => drawA E ops bef m fp φ (List.range' (k + 1) len) T' H' K
      else bif isLt ops m o.op then pureK (roE E (restr ops bef m k T) Hk o.op) fun v => putK E T o.dst v fun T' => drawA E ops bef m fp φ (List.range' (k + 1) len) T' Hk K
      else bif isMk E o.op then ∀ rf ob, φ k rf ob → madeK fp Hk rf ob fun v H' => putK E T o.dst v fun T' => drawA E ops bef m fp φ (List.range' (k + 1) len) T' H' K else drawA E ops bef m fp φ (List.range' (k + 1) len) T Hk K) := by
      cases hop : o.op <;> rw [hop] at h hal <;> first | exact h | cases hal
     cases hap : isAp o.op with
     | true =>
       rw [hap] at h'
       simp only [cond_true] at h'
       obtain ⟨c1, c2, _, _⟩ := ap_cls (E := E) hap
       rcases hdone k o hkm ho (ap_ob hap) with ⟨t', cs, p, e1, _⟩ | ⟨_, rf, ob, hφ, hm⟩ | ⟨_, e1, _⟩
       · rw [e1] at hal; cases hal
       · have hk2 := h' rf ob hφ
         unfold madeA at hk2
         cases ob with
         | none =>
           simp only at hm hk2
           exact step Hk (by rw [upTo_succ_none hm.1, mqAt_same ho (.inr c2)]; exact hgk) (by rw [hm.2]; exact hk2)
         | some cs =>
           simp only at hm hk2
           obtain ⟨p, e1, e2, e3⟩ := hm
           exact step _ (by rw [mqAt_same ho (.inr c2)]; exact grow _ _ p cs hgk e1) (by rw [e2]; exact hk2 p (fresh p cs e1 e3))
       · rw [c2] at e1; cases e1
     | false =>
     rw [hap] at h'
     simp only [cond_false] at h'
     cases hlt : isLt ops m o.op with
     | true =>
       rw [hlt] at h'
       simp only [cond_true] at h'
       obtain ⟨_, c2, _, _⟩ := lt_cls (E := E) hlt
       have hob := hno k o hkm ho (lt_ob hlt)
       have hr := hlate k o hkm ho hlt
       have hb := hf.bound
       have eT : restr ops bef m k T = restr ops bef m k (Tful ops m T0 val) := by
        funext s
        unfold restr
        cases hd : dIdx ops m s with
        | none =>
          simp only
          rw [hT1 s hd]
          unfold Tful; rw [hd]
        | some j =>
          simp only
          cases hbt : (bef.getD k 0).testBit j with
          | false => rfl
          | true =>
            simp only [cond_true]
            have hjk := hbl k (by omega) j hbt
            rw [hT2 s j ops[j] hd (Array.getElem?_eq_getElem (by omega)) (.inl hjk)]
            unfold Tful; rw [hd]
       rw [eT, lt_heap hlt _ Hk H, hr] at h'
       exact step Hk (by rw [upTo_succ_none hob, mqAt_same ho (.inr c2)]; exact hgk) h'
     | false =>
     rw [hlt] at h'
     simp only [cond_false] at h'
     cases hmk : isMk E o.op with
     | false =>
       rw [hmk] at h'
       simp only [cond_false] at h'
       have hob := hno k o hkm ho (ob_not hal hap hmk)
       refine ih (k + 1) T Hk (by omega) (by rw [upTo_succ_none hob, mqAt_same ho (.inr hmk)]; exact hgk) hT1 (fun s j oj hj hoj hc => ?_) h'
       refine hT2 s j oj hj hoj ?_
       rcases hc with hc | hc
       · by_cases e : j = k
         · subst e
           rw [ho] at hoj; injection hoj with hoj; subst hoj
           exact .inr ⟨ob_not hal hap hmk, hlt⟩
         · exact .inl (by omega)
       · exact .inr hc
     | true =>
       rw [hmk] at h'
       simp only [cond_true] at h'
       rcases hdone k o hkm ho (mk_ob hmk) with ⟨t', cs, p, e1, _⟩ | ⟨e1, _⟩ | ⟨_, _, rf, ob, hφ, hm⟩
       · rw [e1] at hal; cases hal
       · rw [hap] at e1; cases e1
       · have hk2 := h' rf ob hφ
         have hq1 : mqAt E ops (k + 1) mq = mq := mqAt_yes ⟨k, o, by omega, ho, hal, hmk⟩
         have hq0 : mqAt E ops k mq = none := mqAt_no fun ⟨i, o', h1, h2, h3, h4⟩ => by
          have := hf.one i k o' o (by omega) hkm h2 ho h4 hmk; omega
         unfold madeK at hk2
         cases ob with
         | none =>
           simp only at hm hk2
           refine step Hk (by rw [upTo_succ_none hm.1, hq1, hm.2.2]; rw [hq0] at hgk; exact hgk) (by rw [hm.2.1]; exact hk2)
         | some cs =>
           simp only at hm hk2
           obtain ⟨p, e1, e2, e3⟩ := hm
           cases fp with
           | none =>
             simp only at e3 hk2
             obtain ⟨e3, e4, e5⟩ := e3
             have hkn : ∀ q, mapOf cs = some q → Hk q = none := fun q hq => by
              rw [hq0] at hgk
              rw [hgk.off q]
              · exact (e5 q hq).1
              · intro i ds hi
                unfold upTo at hi
                split at hi
                · have := (hmq q (by rw [e4]; exact hq)).2
                  rw [hg.here _ _ _ hi] at this; exact absurd (Option.some.inj this) (objOf_ne_map _)
                · cases hi
             refine step _ ?_ (by rw [e2]; exact hk2 p (fresh p cs e1 e3) (fun q hq => ⟨hkn q hq, (e5 q hq).2⟩))
             refine grow _ _ p cs ?_ e1
             rw [hq1, e4]
             rw [hq0] at hgk
             cases hmo : mapOf cs with
             | none => exact hgk
             | some q =>
               refine ⟨fun i p' cs' hi => ?_, fun o' ho' => ?_, hgk.inj⟩
               · have hne : p' ≠ q := fun e => by
                  subst e
                  have := hgk.here _ _ _ hi
                  rw [hkn p' hmo] at this; cases this
                 show (Hk.upd q (.map [])) p' = _
                 rw [Heap.upd_ne _ _ hne]; exact hgk.here _ _ _ hi
               · show (Hk.upd q (.map [])) o' = (H.upd q (.map [])) o'
                 unfold Heap.upd
                 split
                 · rfl
                 · exact hgk.off o' ho'
           | some q =>
             simp only at e3 hk2
             obtain ⟨e3, e4⟩ := e3
             subst e3
             exact step _ (by rw [hq1, e4]; rw [hq0] at hgk; exact grow _ _ p cs hgk e1) (by rw [e2]; exact hk2)

theorem bef_lt {ops : Array Oper} {bef : Array Nat} {m : Nat} (hf : DrawFacts E ops bef m) : ∀ i, i < ops.size → ∀ j, (bef.getD i 0).testBit j = true → j < i := by
 intro i
 induction i using Nat.strongRecOn with
 | _ i ih =>
   intro hi j hj
   obtain ⟨h1, h2⟩ := hf.befs i ops[i] (Array.getElem?_eq_getElem hi)
   rw [h1] at hj
   rcases testBit_mask _ _ hj with h | ⟨e, he, hbd, h⟩
   · simp at h
   · have hlt := h2 e he hbd
     rcases h with rfl | h
     · exact hlt
     · have := ih e.on hlt (by omega) j h
       omega

theorem to_phase2 {ops : Array Oper} {bef : Array Nat} {m : Nat} {T0 : Tm} {fp : Option Nat} {φ : Nat → Mk} {r : Nat → AV} {Tc : Nat → Tm} {G0 : Ghost} {w0 : World} {X : Array Bool} {sk : List Nat} {K : Tm → Heap → Prop} (hf : DrawFacts E ops bef m)
 (hc0 : Tc 0 = T0) (hc : ∀ i, i < m → Tc (i + 1) = updO (Tc i) (dstAt ops i) (r i))
 (hK : drawA E ops bef m fp φ (List.range m) (Tc m) H fun T H => opsK E ops (ops.toList.drop m) sk T H K) (h : Phase1 E ops bef m T0 H fp φ r G0 w0 X a w) (hall : ∀ i, i < m → X.getD i false = true) : Phase2 E ops m K G0 w0 X a w := by
 obtain ⟨G, val, HX, obs, mq, x, hW, hle, hT, hval, hg, hno1, hno2, hdone, hlate, hmq, hmk0⟩ := h.state
 refine ⟨m, Nat.le_refl _, hf.bound, fun i hi => ⟨h.lt i, hall i⟩, ?_⟩
 rw [List.range_eq_range'] at hK
 have h0 : upTo 0 obs = fun _ => none := by funext i; simp [upTo]
 have hTm := fun s => Tc_val hf hc s m (Nat.le_refl _)
 rw [hc0] at hTm
 obtain ⟨T', Hm, h1, h2, h3, h4⟩ := drawA_run (T0 := T0) hf (bef_lt hf) hg hmq (fun i o hi ho hm => hdone i o hi ho hm (hall i hi)) hno2 (fun i o hi ho hm => hlate i o hi ho hm (hall i hi)) m 0 (Tc m) H (by omega)
  (by rw [h0, mqAt_no (fun ⟨i, o, hi, _⟩ => by omega)]; exact Grown.none H) (fun s hs => by have := hTm s; simp only [hs] at this; exact this)
  (fun s j oj hj hoj hc2 => by
    have := hTm s
    simp only [hj] at this
    rw [if_pos (dIdx_spec hj).1] at this
    rcases hc2 with hc2 | ⟨c1, c2⟩
    · omega
    · rw [this, hval j oj (dIdx_spec hj).1 hoj c1 c2]) hK
 have hqm : mqAt E ops m mq = mq := by
  cases hq : mq with
  | none => unfold mqAt; split <;> rfl
  | some q =>
    obtain ⟨i, o, h1, h2, h3, h4, _⟩ := hmk0 (by rw [hq]; simp)
    exact mqAt_yes ⟨i, o, h1, h2, h3, h4⟩
 rw [hqm] at h2
 have hm : upTo m obs = obs := by
  funext i
  unfold upTo
  split
  · rfl
  · cases hx : X.getD i false with
    | true => have := h.lt i hx; omega
    | false => exact (hno1 i hx).symm
 rw [hm] at h2
 have := h2.unique hg
 subst this
 refine ⟨sk, G, T', Hm, x, hW, ?_, h1⟩
 refine ⟨hT.size, hT.defers, fun s => ?_⟩
 have hrs := hT.rep s
 unfold Tof at hrs
 cases hd : dIdx ops m s with
 | none => simp only [hd] at hrs; rw [h3 s hd]; exact hrs
 | some j =>
   simp only [hd] at hrs
   rw [if_pos (hall j (dIdx_spec hd).1)] at hrs
   rw [h4 s j hd]; exact hrs

theorem yielded_of {ops : Array Oper} {j d : Nat} {b : Bool} (hd : dstAt ops j = some d) (hT : TRel E G w a T) (hb : T d = B b) : yielded ops a.tmps j = some b := by
 have hrep := hT.rep d
 rw [hb] at hrep
 have hv := rep_bool_inv hrep
 have hlt : d < a.tmps.size := by
  rcases Nat.lt_or_ge d a.tmps.size with h | h
  · exact h
  · rw [Array.getD_eq_getD_getElem?, Array.getElem?_eq_none h] at hv; cases hv
 unfold dstAt at hd
 simp only [yielded, hd, Option.bind_some]
 rw [Array.getElem?_eq_getElem hlt]
 have e2 : a.tmps[d] = .bool b := by rw [← hv]; simp [Array.getD_eq_getD_getElem?, hlt]
 rw [e2]

theorem exec1_sound {o : Oper} {r : AV} {HX : Heap} {K : Act → World → Prop} {Q : Exit → Act → World → Prop} (hW : WRel E.Γ G HX w) (hle : H ≤ HX) (hT : TRel E G w a T) (h : Exec1 E T H o.op r)
 (hn : ∀ v w' G', Ext G w G' w' → WRel E.Γ G' HX w' → Rep G' w' v r → K (a.put o.dst v) w') : o.wp E.P a w K Q := by
 rcases h with ⟨_, h⟩ | ⟨f, args, ts, g, first, captured, hop, hf, hen, hrd⟩
 · obtain ⟨v, w', G', e1, e2, e3, e4⟩ := ro_sound hW hle hT h
   unfold Oper.wp
   rw [e1]
   exact hn v w' G' e2 e3 e4
 · have hc : callN E (ev E T f) (args.toList.map (ev E T)) HX (fun r' H'' => r' = r ∧ H'' = HX) := by
    unfold callN
    rw [hf]
    simp only [hen, cond_true]
    exact hrd HX hle
   have : opK E T HX o.op (fun r' H'' => r' = r ∧ H'' = HX) := by
    unfold opK
    rw [hop]
    exact hc
   refine op_sound hW hT this ?_
   rintro v w' G' r' H1 x hW' hr ⟨rfl, rfl⟩
   exact hn v w' G' x hW' hr

theorem step1_sound {ops : Array Oper} {i : Nat} {o : Oper} {r : AV} {HX : Heap} {K : Act → World → Prop} {Q : Exit → Act → World → Prop} (ho : ops[i]? = some o) (hW : WRel E.Γ G HX w) (hle : H ≤ HX) (hT : TRel E G w a T) (h : Step1 E ops T H o r)
 (hn : ∀ v w' G', Ext G w G' w' → WRel E.Γ G' HX w' → Rep G' w' v r → K (a.put o.dst v) w') : wpOp E.P ops Q i K a w := by
 unfold wpOp
 simp only [ho]
 unfold Step1 at h
 split at h
 · rename_i hg
   simp only [Region.wanted, hg, if_true]
   exact .inl (exec1_sound hW hle hT h hn)
 · rename_i j want hg
   obtain ⟨d, hd, ⟨hu, rfl⟩ | ⟨b, hb, h⟩⟩ := h
   · have hrep := hT.rep d
     rw [hu] at hrep
     simp only [Region.wanted, hg, yielded_un hd (rep_undef_inv hrep)]
     rw [if_neg (by simp)]
     exact hn undef w G (Ext.refl _ _) hW (rep_undef G w)
   have hy := yielded_of hd hT hb
   simp only [Region.wanted, hg, hy]
   rcases h with ⟨rfl, h⟩ | ⟨hne, rfl⟩
   · rw [if_pos (by simp)]
     exact .inl (exec1_sound hW hle hT h hn)
   · rw [if_neg (by simpa using hne)]
     exact hn undef w G (Ext.refl _ _) hW (rep_undef G w)

theorem getD_set {X : Array Bool} {i j : Nat} (hi : i < X.size) : (X.setIfInBounds i true).getD j false = if j = i then true else X.getD j false := by
 simp only [Array.getD_eq_getD_getElem?]
 by_cases e : j = i
 · subst e; simp [hi]
 · rw [if_neg e, Array.getElem?_setIfInBounds_ne (fun h => e h.symm)]

def Down (bef : Array Nat) (X : Array Bool) : Prop := ∀ i, X.getD i false = true → ∀ j, (bef.getD i 0).testBit j = true → X.getD j false = true

theorem ready_bef {ops : Array Oper} {bef : Array Nat} {m i : Nat} {X : Array Bool} (hf : DrawFacts E ops bef m) (hX : X.size = ops.size) (hd : Down bef X) (hr : i ∈ Region.ready .any ops X) :
 i < ops.size ∧ X.getD i false = false ∧ ∀ j, (bef.getD i 0).testBit j = true → X.getD j false = true := by
 unfold Region.ready at hr
 rw [List.mem_filter, List.mem_range] at hr
 obtain ⟨hi, hr⟩ := hr
 simp only [Array.getElem?_eq_getElem hi, Option.map_some, Option.getD_some, Bool.and_eq_true, Bool.not_eq_true'] at hr
 refine ⟨hi, ?_, fun j hj => ?_⟩
 · have h1 := hr.1
   simp only [Array.getD_eq_getD_getElem?, Array.getElem?_eq_getElem (show i < X.size by omega), Option.getD_some] at h1 ⊢
   exact h1
 · have hall := hr.2
   rw [Array.all_eq_true'] at hall
   have hb := (hf.befs i ops[i] (Array.getElem?_eq_getElem hi)).1
   rw [hb] at hj
   rcases testBit_mask _ _ hj with h | ⟨e, he, hbd, h⟩
   · simp at h
   · have hl := hall e (by simpa using he)
     simp only [hbd, Bool.not_true, Bool.false_or] at hl
     rcases h with rfl | h
     · exact hl
     · exact hd _ hl j h

theorem down_set {bef : Array Nat} {X : Array Bool} {i : Nat} (hi : i < X.size) (hd : Down bef X) (hb : ∀ j, (bef.getD i 0).testBit j = true → X.getD j false = true) : Down bef (X.setIfInBounds i true) := by
 intro k hk j hj
 rw [getD_set hi] at hk ⊢
 split
 · rfl
 · split at hk
   · rename_i e; subst e; exact hb j hj
   · exact hd k hk j hj

theorem exists_ready {ops : Array Oper} {bef : Array Nat} {m : Nat} {X : Array Bool} (hf : DrawFacts E ops bef m) (hX : X.size = ops.size) {i : Nat} (hi : i < ops.size) (hx : X.getD i false = false) : Region.ready .any ops X ≠ [] := by
 induction i using Nat.strongRecOn with
 | _ i ih =>
   by_cases h : ∃ k, k < i ∧ X.getD k false = false
   · obtain ⟨k, hk, hxk⟩ := h; exact ih k hk (by omega) hxk
   · intro hnil
     have : i ∈ Region.ready .any ops X := by
      unfold Region.ready
      rw [List.mem_filter, List.mem_range]
      refine ⟨hi, ?_⟩
      simp only [Array.getElem?_eq_getElem hi, Option.map_some, Option.getD_some, Bool.and_eq_true, Bool.not_eq_true']
      constructor
      · simp only [Array.getD_eq_getD_getElem?, Array.getElem?_eq_getElem (show i < X.size by omega), Option.getD_some] at hx ⊢
        exact hx
      · rw [Array.all_eq_true']
        intro e he
        cases hbd : Region.binds .any e with
        | false => rfl
        | true =>
          have hlt := (hf.befs i ops[i] (Array.getElem?_eq_getElem hi)).2 e (by simpa using he) hbd
          cases hxe : X.getD e.on false with
          | true => rfl
          | false => exact absurd ⟨e.on, hlt, hxe⟩ h
     rw [hnil] at this
     cases this


def unl (X : Array Bool) (n : Nat) : Nat := ((List.range n).filter fun i => !X.getD i false).length

theorem unl_set {X : Array Bool} {i n : Nat} (hi : i < n) (hs : i < X.size) (hx : X.getD i false = false) : unl (X.setIfInBounds i true) n < unl X n := by
 unfold unl
 have hsub : ((List.range n).filter fun j => !(X.setIfInBounds i true).getD j false) = ((List.range n).filter fun j => !X.getD j false).filter (fun j => j != i) := by
  rw [List.filter_filter]
  apply List.filter_congr
  intro j _
  rw [getD_set hs]
  by_cases e : j = i
  · subst e; simp
  · simp [e]
 rw [hsub]
 have hmem : i ∈ (List.range n).filter fun j => !X.getD j false := by
  rw [List.mem_filter, List.mem_range]; exact ⟨hi, by rw [hx]; rfl⟩
 generalize (List.range n).filter (fun j => !X.getD j false) = l at hmem
 induction l with
 | nil => cases hmem
 | cons x l ih =>
   simp only [List.filter_cons]
   by_cases e : x = i
   · subst e
     simp only [bne_self_eq_false, Bool.false_eq_true, if_false, List.length_cons]
     have := List.length_filter_le (fun j => j != x) l
     omega
   · have : (x != i) = true := by simpa using e
     rw [if_pos this]
     simp only [List.length_cons]
     have := ih (by simpa [Ne.symm e] using hmem)
     omega

theorem any_sound {ops : Array Oper} {bef : Array Nat} {m : Nat} {sk : List Nat} {T0 : Tm} {r : Nat → AV} {Tc : Nat → Tm} {G0 : Ghost} {w0 : World} {K : Tm → Heap → Prop} {Q : Exit → Act → World → Prop} {fp : Option Nat} {φ : Nat → Mk} (hf : DrawFacts E ops bef m) (hfp : ∀ p, fp = some p → H p ≠ none)
 (hc0 : Tc 0 = T0) (hplan : ∀ i, i < m → ∃ o, ops[i]? = some o ∧ (∀ x, o.dst = some x → x < E.n) ∧ Tc (i + 1) = updO (Tc i) (dstAt ops i) (r i) ∧
   ((isAlloc o.op = true ∧ r i = .dead) ∨ (isAp o.op = true ∧ r i = .dead ∧ ApMk E (restr ops bef m i (Tc i)) (rem H fp) o.op (φ i)) ∨ (isLt ops m o.op = true ∧ r i = .dead ∧ ∃ φ', (∀ k, (bef.getD i 0).testBit k = true → φ' k = φ k) ∧ LtF E ops bef m i (restr ops bef m i (Tc i)) φ' o.op) ∨
     (isAlloc o.op = false ∧ isMk E o.op = true ∧ MkVal (φ i) (r i) ∧ MkStep E (restr ops bef m i (Tc i)) H fp o.op (φ i)) ∨
     (isOb E o.op = false ∧ isLt ops m o.op = false ∧ Step1 E ops (restr ops bef m i (Tc i)) (rem H fp) o (r i))))
 (hK : drawA E ops bef m fp φ (List.range m) (Tc m) H fun T H => opsK E ops (ops.toList.drop m) sk T H K)
 (hQ : ∀ G a w T H, Ext G0 w0 G w → WRel E.Γ G H w → TRel E G w a T → K T H → Q .normal a w) :
 ∀ (fuel : Nat) (X : Array Bool) (a : Act) (w : World), X.size = ops.size → Down bef X → unl X ops.size ≤ fuel → (Phase1 E ops bef m T0 H fp φ r G0 w0 X a w ∨ Phase2 E ops m K G0 w0 X a w) → wpAny E.P .any ops Q fuel X a w := by
 have hcs : ∀ i, i < m → Tc (i + 1) = updO (Tc i) (dstAt ops i) (r i) := fun i hi => by obtain ⟨_, _, _, h, _⟩ := hplan i hi; exact h
 have hdead : ∀ i o, i < m → ops[i]? = some o → (isAlloc o.op = true ∨ isAp o.op = true ∨ isLt ops m o.op = true) → r i = .dead := fun i o hi ho ha => by
  obtain ⟨o', ho', _, _, h⟩ := hplan i hi
  rw [ho] at ho'; injection ho' with ho'; subst ho'
  rcases h with h | h | h | h | h
  · exact h.2
  · exact h.2.1
  · exact h.2.1
  · rcases ha with ha | ha | ha
    · rw [h.1] at ha; cases ha
    · have := (ap_cls (E := E) ha).2.1; rw [h.2.1] at this; cases this
    · have := (lt_cls (E := E) ha).2.1; rw [h.2.1] at this; cases this
  · obtain ⟨h1, h2, h3⟩ := not_ob h.1
    rcases ha with ha | ha | ha
    · rw [h1] at ha; cases ha
    · rw [h2] at ha; cases ha
    · rw [h.2.1] at ha; cases ha
 have hmval : ∀ i o, i < m → ops[i]? = some o → isMk E o.op = true → isAlloc o.op = false → MkVal (φ i) (r i) := fun i o hi ho ha ha2 => by
  obtain ⟨o', ho', _, _, h⟩ := hplan i hi
  rw [ho] at ho'; injection ho' with ho'; subst ho'
  rcases h with h | h | h | h | h
  · rw [h.1] at ha2; cases ha2
  · have := (ap_cls (E := E) h.1).2.1; rw [ha] at this; cases this
  · have := (lt_cls (E := E) h.1).2.1; rw [ha] at this; cases this
  · exact h.2.2.1
  · have := (not_ob h.1).2.2; rw [ha] at this; cases this
 have hdst : ∀ i o, i < m → ops[i]? = some o → ∀ x, o.dst = some x → x < E.n := fun i o hi ho => by
  obtain ⟨o', ho', h, _⟩ := hplan i hi
  rw [ho] at ho'; injection ho' with ho'; subst ho'; exact h
 -- nothing is ready: all is done
 have hend : ∀ X a w, X.size = ops.size → Region.ready .any ops X = [] → (Phase1 E ops bef m T0 H fp φ r G0 w0 X a w ∨ Phase2 E ops m K G0 w0 X a w) → Q .normal a w := by
  intro X a w hX hnil h
  have hall : ∀ i, i < ops.size → X.getD i false = true := fun i hi => by
   cases hx : X.getD i false with
   | true => rfl
   | false => exact absurd hnil (exists_ready hf hX hi hx)
  have h2 : Phase2 E ops m K G0 w0 X a w := by
   rcases h with h | h
   · exact to_phase2 hf hc0 hcs hK h (fun i hi => hall i (Nat.lt_of_lt_of_le hi hf.bound))
   · exact h
  obtain ⟨k, hk1, hk2, hk3, sk, G, T, HX, x, hW, hT, hops⟩ := h2
  have hkn : k = ops.size := by
   rcases Nat.lt_or_ge k ops.size with hlt | hge
   · have := (hk3 k hlt).1 (hall k hlt); omega
   · omega
  subst hkn
  rw [List.drop_eq_nil_of_le (by simp)] at hops
  exact hQ G a w T HX x hW hT hops
 intro fuel
 induction fuel with
 | zero =>
   intro X a w hX hd hu h
   have hnil : Region.ready .any ops X = [] := by
    cases hr : Region.ready .any ops X with
    | nil => rfl
    | cons i l =>
      obtain ⟨hi, hx, _⟩ := ready_bef hf hX hd (by rw [hr]; simp : i ∈ Region.ready .any ops X)
      have := unl_set hi (by omega) hx
      omega
   exact ⟨hnil, hend X a w hX hnil h⟩
 | succ fuel ih =>
   intro X a w hX hd hu h
   refine ⟨fun hnil => hend X a w hX hnil h, fun i hi => ?_⟩
   obtain ⟨hlt, hx, hbef⟩ := ready_bef hf hX hd hi
   have hset : ∀ j, (X.setIfInBounds i true).getD j false = if j = i then true else X.getD j false := fun j => getD_set (by omega)
   have next : ∀ a' w', (Phase1 E ops bef m T0 H fp φ r G0 w0 (X.setIfInBounds i true) a' w' ∨ Phase2 E ops m K G0 w0 (X.setIfInBounds i true) a' w') → wpAny E.P .any ops Q fuel (X.setIfInBounds i true) a' w' := fun a' w' h' =>
    ih _ a' w' (by rw [Array.size_setIfInBounds]; exact hX) (down_set (by omega) hd hbef) (by have := unl_set hlt (by omega) hx; omega) h'
   -- an operation of the tail
   have tail : Phase2 E ops m K G0 w0 X a w → wpOp E.P ops Q i (wpAny E.P .any ops Q fuel (X.setIfInBounds i true)) a w := by
    rintro ⟨k, hk1, hk2, hk3, sk, G, T, HX, x, hW, hT, hops⟩
    have hki : k ≤ i := by
     rcases Nat.lt_or_ge i k with h1 | h1
     · have := (hk3 i hlt).2 h1; rw [hx] at this; cases this
     · exact h1
    have hik : i = k := by
     rcases Nat.lt_or_ge k i with h1 | h1
     · have hb := hf.tail i (by omega) hlt
       have : X.getD k false = true := hbef k (by rw [hb, Nat.testBit_two_pow_sub_one]; simpa using h1)
       have := (hk3 k (by omega)).1 this
       omega
     · omega
    subst hik
    have hdrop : ops.toList.drop i = ops[i] :: ops.toList.drop (i + 1) := by
     rw [List.drop_eq_getElem_cons (by simpa using hlt)]; simp
    rw [hdrop] at hops
    have ph2 : ∀ sk G' a' w' T' H', Ext G w G' w' → WRel E.Γ G' H' w' → TRel E G' w' a' T' → opsK E ops (ops.toList.drop (i + 1)) sk T' H' K → Phase2 E ops m K G0 w0 (X.setIfInBounds i true) a' w' := fun sk G' a' w' T' H' x' hW' hT' ho' => by
     refine ⟨i + 1, by omega, by omega, fun j hj => ?_, sk, G', T', H', x.trans x', hW', hT', ho'⟩
     rw [hset]
     split
     · rename_i e; subst e; simp
     · rename_i e; rw [hk3 j hj]; omega
    unfold wpOp
    simp only [Array.getElem?_eq_getElem hlt]
    unfold opsK at hops
    have go : ∀ (T : Tm), TRel E G w a T → opK E T HX ops[i].op (fun r H' => putK E T ops[i].dst r fun T' => opsK E ops (ops.toList.drop (i + 1)) sk T' H' K) → ops[i].wp E.P a w (wpAny E.P .any ops Q fuel (X.setIfInBounds i true)) Q := by
     intro T hT h
     refine op_sound hW hT h ?_
     intro v w' G' r H1 x' hW' hr hp
     obtain ⟨T', hT', hk⟩ := putK_sound (hT.ext x') hr hp
     exact next _ _ (.inr (ph2 _ G' _ w' T' H1 x' hW' hT' hk))
    have skip : ∀ (T : Tm), TRel E G w a T → putK E T ops[i].dst (.tup []) (fun T' => opsK E ops (ops.toList.drop (i + 1)) (addO ops[i].dst sk) T' HX K) → wpAny E.P .any ops Q fuel (X.setIfInBounds i true) (a.put ops[i].dst undef) w := by
     intro T hT h
     obtain ⟨T', hT', hk⟩ := putK_sound hT (rep_undef G w) h
     exact next _ _ (.inr (ph2 _ G _ w T' HX (Ext.refl _ _) hW hT' hk))
    cases hg : ops[i].guard with
    | none =>
      simp only [hg] at hops
      simp only [Region.wanted, hg, if_true]
      exact .inl (go T hT hops)
    | some gw =>
      obtain ⟨j, want⟩ := gw
      simp only [hg] at hops
      split at hops <;> try (exact hops.elim)
      rename_i d hdj
      cases hsk : sk.any (Nat.beq d) with
      | true =>
        rw [hsk] at hops
        obtain ⟨hu, hops⟩ := unK_cases hops
        have hrep := hT.rep d
        rw [hu] at hrep
        simp only [Region.wanted, hg, yielded_un hdj (rep_undef_inv hrep)]
        rw [if_neg (by simp)]
        exact skip T hT hops
      | false =>
      rw [hsk] at hops
      simp only [cond_false] at hops
      rcases condK_cases hops with ⟨hb, hops⟩ | ⟨hb, hops⟩
      · rw [upd_same hb] at hops
        simp only [Region.wanted, hg, yielded_of (ops := ops) (j := j) hdj hT hb]
        cases want with
        | true => simp only [cond_true] at hops; rw [if_pos (by simp)]; exact .inl (go T hT hops)
        | false => simp only [cond_false] at hops; rw [if_neg (by simp)]; exact skip T hT hops
      · rw [upd_same hb] at hops
        simp only [Region.wanted, hg, yielded_of (ops := ops) (j := j) hdj hT hb]
        cases want with
        | true => simp only [cond_true] at hops; rw [if_neg (by simp)]; exact skip T hT hops
        | false => simp only [cond_false] at hops; rw [if_pos (by simp)]; exact .inl (go T hT hops)
   rcases h with h | h
   case inr => exact tail h
   rcases Nat.lt_or_ge i m with him | him
   case inr =>
    -- all ahead of the tail is done
    have hb := hf.tail i him hlt
    refine tail (to_phase2 hf hc0 hcs hK h fun j hj => hbef j ?_)
    rw [hb, Nat.testBit_two_pow_sub_one]; simp; omega
   obtain ⟨o, ho, hdo, hTi, hstep⟩ := hplan i him
   obtain ⟨G, val, HX, obs, mq, x, hW, hle, hT, hval, hg, hno1, hno2, hdone, hlate, hmq, hmk0⟩ := h.state
   have hdi : dstAt ops i = o.dst := by simp [dstAt, ho]
   -- the slots behind it
   have slots : ∀ (G' : Ghost) (w' : World) (v : Value) (val' : Nat → AV), Ext G w G' w' → (∀ j, j ≠ i → val' j = val j) → Rep G' w' v (val' i) → TRel E G' w' (a.put o.dst v) (Tof ops m T0 (X.setIfInBounds i true) val') := by
    intro G' w' v val' x' hv hr
    have hT' := hT.ext x'
    have hdd : ∀ d, o.dst = some d → dIdx ops m d = some i := fun d e => hf.dst i d him (by rw [hdi]; exact e)
    have old : ∀ s, o.dst ≠ some s → Rep G' w' (a.tmps.getD s undef) (Tof ops m T0 (X.setIfInBounds i true) val' s) := by
     intro s hs
     have := hT'.rep s
     unfold Tof at this ⊢
     split
     · rename_i hn; simp only [hn] at this; exact this
     · rename_i j hj
       simp only [hj] at this
       have hne : j ≠ i := fun e => by
        subst e
        have := (dIdx_spec hj).2
        rw [hdi] at this; exact hs this
       rw [hset, if_neg hne, hv j hne]; exact this
    cases hod : o.dst with
    | none => exact ⟨hT'.size, hT'.defers, fun s => old s (by rw [hod]; simp)⟩
    | some d =>
      have hput := hT'.put (v := v) (r := val' i) (hdo d hod) hr
      refine ⟨hput.size, hput.defers, fun s => ?_⟩
      by_cases e : s = d
      · subst e
        have h1 := hput.rep s
        have h2 : (Tof ops m T0 X val).upd s (val' i) s = val' i := by
         show (bif Nat.beq s s then val' i else _) = _; simp
        rw [h2] at h1
        have h3 : Tof ops m T0 (X.setIfInBounds i true) val' s = val' i := by
         unfold Tof
         rw [hdd s hod]
         simp only [hset, if_true]
        rw [h3]; exact h1
      · have h1 := old s (fun h => by rw [hod] at h; injection h with h; exact e h.symm)
        have h2 : (a.put (some d) v).tmps.getD s undef = a.tmps.getD s undef := by
         show (a.tmps.setIfInBounds d v).getD s undef = _
         simp only [Array.getD_eq_getD_getElem?, Array.getElem?_setIfInBounds_ne (fun h => e h.symm)]
        rw [h2]; exact h1
   have hlt' : ∀ j, (X.setIfInBounds i true).getD j false = true → j < m := fun j hj => by
    rw [hset] at hj
    split at hj
    · rename_i e; subst e; exact him
    · exact h.lt j hj
   have hTr : TRel E G w a (restr ops bef m i (Tc i)) := by
    refine ⟨hT.size, hT.defers, fun s => ?_⟩
    have hrs := hT.rep s
    have htv := Tc_val hf hcs s i (by omega)
    rw [hc0] at htv
    unfold restr
    unfold Tof at hrs
    split
    · rename_i hn; rw [htv]; simp only [hn] at hrs ⊢; exact hrs
    · rename_i j hj
      simp only [hj] at hrs htv
      cases hb : (bef.getD i 0).testBit j with
      | false => exact .dead _
      | true =>
        simp only [cond_true]
        rw [if_pos (hbef j hb)] at hrs
        have hji : j < i := bef_lt hf i hlt j hb
        rw [htv, if_pos hji]
        have hjm := (dIdx_spec hj).1
        obtain ⟨oj, hoj, _, _, _⟩ := hplan j hjm
        by_cases hda : isAlloc oj.op = true ∨ isAp oj.op = true ∨ isLt ops m oj.op = true
        · rw [hdead j oj hjm hoj hda]; exact .dead _
        have haj : isAlloc oj.op = false := by cases e : isAlloc oj.op with
         | false => rfl
         | true => exact absurd (.inl e) hda
        have hapj : isAp oj.op = false := by cases e : isAp oj.op with
         | false => rfl
         | true => exact absurd (.inr (.inl e)) hda
        have hltj : isLt ops m oj.op = false := by cases e : isLt ops m oj.op with
         | false => rfl
         | true => exact absurd (.inr (.inr e)) hda
        cases hmj : isMk E oj.op with
        | true =>
          rcases hmval j oj hjm hoj hmj haj with e | e
          · rw [e]; exact .dead _
          · rcases hdone j oj hjm hoj (mk_ob hmj) (hbef j hb) with ⟨t, cs, q, e1, _⟩ | ⟨e1, _⟩ | ⟨_, _, rf, ob', hφ, hm⟩
            · rw [e1] at haj; cases haj
            · rw [hapj] at e1; cases e1
            · have : val j = r j := by
               cases ob' with
               | none => simp only at hm; rw [hm.2.1]; exact e _ _ _ hφ
               | some cs => simp only at hm; obtain ⟨p, _, h2, _⟩ := hm; rw [h2]; exact e _ _ _ hφ
              rw [this] at hrs; exact hrs
        | false => rw [hval j oj hjm hoj (ob_not haj hapj hmj) hltj] at hrs; exact hrs
   -- the slots that a late one looks at
   have hTf : restr ops bef m i (Tof ops m T0 X val) = restr ops bef m i (Tful ops m T0 val) := by
    funext s
    unfold restr
    cases hd : dIdx ops m s with
    | none => simp only [Tof, Tful, hd]
    | some j =>
      simp only
      cases hbt : (bef.getD i 0).testBit j with
      | false => rfl
      | true => simp only [cond_true, Tof, Tful, hd]; rw [if_pos (hbef j hbt)]
   have hTr2 : TRel E G w a (restr ops bef m i (Tof ops m T0 X val)) := by
    refine ⟨hT.size, hT.defers, fun s => ?_⟩
    unfold restr
    split
    · exact hT.rep s
    · rename_i j hj
      cases hb : (bef.getD i 0).testBit j with
      | false => exact .dead _
      | true => simp only [cond_true]; exact hT.rep s
   have hobi : obs i = none := hno1 i hx
   -- behind it
   have after : ∀ (G' : Ghost) (w' : World) (v : Value) (rv : AV) (HX' : Heap) (ob : Option (Nat × List AV)) (mq' : Option Nat), Ext G w G' w' → WRel E.Γ G' HX' w' → Rep G' w' v rv → rem H fp ≤ HX' →
    Grown (addM H mq') HX' (fun j => if j = i then ob else obs j) → (isOb E o.op = false → ob = none ∧ (isLt ops m o.op = false → rv = r i)) → (isOb E o.op = true → MkDone E H fp (φ i) o.op rv ob mq') →
    (isLt ops m o.op = true → roE E (restr ops bef m i (Tful ops m T0 val)) H o.op = some rv) →
    (mq' = mq ∨ (isAlloc o.op = false ∧ isMk E o.op = true)) → (∀ q, mq' = some q → H q = none ∧ HX' q = some (.map [])) →
    wpAny E.P .any ops Q fuel (X.setIfInBounds i true) (a.put o.dst v) w' := by
    intro G' w' v rv HX' ob mq' x' hW' hr hle' hg' hpl hmk hltv hmm hmq'
    have hold : ∀ j oj, j < m → ops[j]? = some oj → j ≠ i → X.getD j false = true → ∀ v ob, MkDone E H fp (φ j) oj.op v ob mq → MkDone E H fp (φ j) oj.op v ob mq' := by
     intro j oj hjm hoj hji hxj v ob hd
     rcases hmm with e | ⟨e1, e2⟩
     · rw [e]; exact hd
     · rcases hd with hd | hd | ⟨h1, h2, _⟩
       · exact .inl hd
       · exact .inr (.inl hd)
       · exact absurd (hf.one j i oj o hjm him hoj ho h2 e2) hji
    have hTful : ∀ j oj, j < m → ops[j]? = some oj → (j = i ∨ X.getD j false = true) → restr ops bef m j (Tful ops m T0 fun q => if q = i then rv else val q) = restr ops bef m j (Tful ops m T0 val) := by
     intro j oj hjm hoj hxj
     funext s
     unfold restr
     cases hd2 : dIdx ops m s with
     | none => simp only [Tful, hd2]
     | some q =>
       simp only
       cases hbt : (bef.getD j 0).testBit q with
       | false => rfl
       | true =>
         have hne : q ≠ i := fun e => by
          rcases hxj with e2 | e2
          · have := bef_lt hf i hlt q (by rw [← e2]; exact hbt); omega
          · have := hd j e2 q hbt
            rw [e, hx] at this; cases this
         simp only [cond_true, Tful, hd2, if_neg hne]
    refine next _ _ (.inl ⟨hlt', G', fun j => if j = i then rv else val j, HX', fun j => if j = i then ob else obs j, mq', x.trans x', hW', hle', slots G' w' v _ x' (fun j hj => by simp [hj]) (by simpa using hr), fun j oj hjm hoj haj hmj => ?_, hg', fun j hj => ?_, fun j oj hjm hoj haj => ?_, fun j oj hjm hoj hm hj => ?_, fun j oj hjm hoj hm hj => ?_, hmq', fun hne => ?_⟩)
    · by_cases e : j = i
      · subst e
        rw [ho] at hoj; injection hoj with hoj; subst hoj
        simp only [if_true]; exact (hpl haj).2 hmj
      · simp only [if_neg e]; exact hval j oj hjm hoj haj hmj
    · rw [hset] at hj
      by_cases e : j = i
      · subst e; simp at hj
      · rw [if_neg e] at hj; simp only [if_neg e]; exact hno1 j hj
    · by_cases e : j = i
      · subst e
        rw [ho] at hoj; injection hoj with hoj; subst hoj
        simp only [if_true]; exact (hpl haj).1
      · simp only [if_neg e]; exact hno2 j oj hjm hoj haj
    · rw [hset] at hj
      by_cases e : j = i
      · subst e
        rw [ho] at hoj; injection hoj with hoj; subst hoj
        simp only [if_true]; exact hmk hm
      · rw [if_neg e] at hj; simp only [if_neg e]; exact hold j oj hjm hoj e hj _ _ (hdone j oj hjm hoj hm hj)
    · rw [hset] at hj
      by_cases e : j = i
      · subst e
        rw [ho] at hoj; injection hoj with hoj; subst hoj
        rw [hTful j o hjm ho (.inl rfl)]
        simp only [if_true]; exact hltv hm
      · rw [if_neg e] at hj
        rw [hTful j oj hjm hoj (.inr hj)]
        simp only [if_neg e]; exact hlate j oj hjm hoj hm hj
    · rcases hmm with e | ⟨e1, e2⟩
      · rw [e] at hne
        obtain ⟨j, oj, h1, h2, h3, h4, h5⟩ := hmk0 hne
        refine ⟨j, oj, h1, h2, h3, h4, ?_⟩
        rw [hset]; split
        · rfl
        · exact h5
      · exact ⟨i, o, him, ho, e1, e2, by rw [hset]; simp⟩
   have same : (fun j => if j = i then none else obs j) = obs := by
    funext j
    split
    · rename_i e; rw [e, hobi]
    · rfl
   have notIn : ∀ p, HX p = none → (∀ j cs', obs j ≠ some (p, cs')) ∧ H p = none := fun p hp => by
    have h1 : ∀ j cs', obs j ≠ some (p, cs') := fun j cs' e => by rw [hg.here _ _ _ e] at hp; cases hp
    refine ⟨h1, ?_⟩
    have h2 := hg.off p (fun j cs' => h1 j cs')
    rw [addM_none (fun q hq e => by subst e; rw [(hmq _ hq).2] at hp; cases hp)] at h2
    rw [← h2]; exact hp
   have mqUp : ∀ (p : Nat) (cs : List AV), HX p = none → ∀ q, mq = some q → H q = none ∧ (HX.upd p (objOf cs)) q = some (.map []) := fun p cs hp q hq => by
    refine ⟨(hmq q hq).1, ?_⟩
    rw [Heap.upd_ne _ _ (fun e => by subst e; rw [(hmq _ hq).2] at hp; cases hp)]
    exact (hmq q hq).2
   have mqNone : isAlloc o.op = false → isMk E o.op = true → mq = none := fun h3 h4 => by
    cases hq : mq with
    | none => rfl
    | some q =>
      obtain ⟨j, oj, g1, g2, g3, g4, g5⟩ := hmk0 (by rw [hq]; simp)
      have := hf.one j i oj o g1 him g2 ho g4 h4
      subst this
      rw [hx] at g5; cases g5
   have remNone : ∀ p, H p = none → rem H fp p = none := fun p hp => by
    unfold rem
    split
    · exact hp
    · split
      · rfl
      · exact hp
   rcases hstep with ⟨ha, _⟩ | ⟨hap, _, hstep⟩ | ⟨hlt2, _, φ', hφ', hstep⟩ | ⟨ha, hmk, _, hstep⟩ | ⟨hob, hlt2, hstep⟩
   · -- a new variable
     obtain ⟨t, hop⟩ := isAlloc_op ha
     have hgd : o.guard = none := hf.allocg i o him ho ha
     obtain ⟨cs, hz, hs⟩ := hf.zero i o t him ho hop
     have hop' : opK E (Tof ops m T0 X val) HX o.op (fun r' H'' => ∃ p, r' = .ptr p 0 ∧ HX p = none ∧ H'' = HX.upd p (.cells cs)) := by
      unfold opK
      rw [hop]
      have : allocK (zeroCells E.P t) HX (fun r' H'' => ∃ p, r' = AV.ptr p 0 ∧ HX p = none ∧ H'' = HX.upd p (.cells cs)) := by
       unfold allocK
       rw [hz]
       simp only [hs, cond_true]
       exact fun p hp => ⟨p, rfl, hp, rfl⟩
      exact this
     unfold wpOp
     simp only [ho, Region.wanted, hgd, if_true]
     refine .inl (op_sound hW hT hop' ?_)
     rintro v w' G' r' H1 x' hW' hr ⟨p, rfl, hp, rfl⟩
     obtain ⟨hp1, hp2⟩ := notIn p hp
     rw [← objOf_single hs] at hW'
     exact after G' w' v _ _ (some (p, cs)) mq x' hW' hr (Heap.le_upd hle (remNone p hp2)) (hg.add hobi hp1) (fun h => by rw [alloc_ob ha] at h; cases h) (fun _ => .inl ⟨t, cs, p, hop, hz, rfl, rfl, hp2⟩) (fun h => by rw [(lt_cls (E := E) h).1] at ha; cases ha) (.inl rfl) (mqUp p cs hp)
   · -- an append
     obtain ⟨c1, c2, c3, c4⟩ := ap_cls (E := E) hap
     have hgd : o.guard = none := hf.mkg i o him ho (.inr (.inl hap))
     unfold wpOp
     simp only [ho, Region.wanted, hgd, if_true]
     refine .inl (op_sound hW hTr (hstep HX hle) ?_)
     rintro v w' G' rv H1 x' hW' hr ⟨rf, ob, hφ, hmade⟩
     unfold MadeA at hmade
     cases ob with
     | none =>
       simp only at hmade
       obtain ⟨e1, e2⟩ := hmade
       subst e2
       exact after G' w' v rv _ none mq x' hW' hr hle (by rw [same]; exact hg) (fun h => by rw [ap_ob hap] at h; cases h) (fun _ => .inr (.inl ⟨hap, rf, none, hφ, rfl, e1⟩)) (fun h => by rw [c4] at h; cases h) (.inl rfl) hmq
     | some cs =>
       simp only at hmade
       obtain ⟨p, hp, e1, e2⟩ := hmade
       subst e2
       obtain ⟨hp1, hp2⟩ := notIn p hp
       exact after G' w' v rv _ (some (p, cs)) mq x' hW' hr (Heap.le_upd hle (remNone p hp2)) (hg.add hobi hp1) (fun h => by rw [ap_ob hap] at h; cases h) (fun _ => .inr (.inl ⟨hap, rf, some cs, hφ, p, rfl, e1, hp2⟩)) (fun h => by rw [c4] at h; cases h) (.inl rfl) (mqUp p cs hp)
   · -- what is put together of appends
     obtain ⟨_, _, c3, t, xs, hbd⟩ := lt_cls (E := E) hlt2
     have hgd : o.guard = none := hf.mkg i o him ho (.inr (.inr hlt2))
     unfold wpOp
     simp only [ho, Region.wanted, hgd, if_true]
     rw [hbd] at hstep
     have hbuild := ltK_use (E := E) (Tv := restr ops bef m i (Tof ops m T0 X val)) (φ' := φ) (fun s hs => by
      have htv := Tc_val hf hcs s i (by omega)
      rw [hc0] at htv
      simp only [hs] at htv
      simp only [restr, Tof, hs, htv])
      (fun s k o' hk ho' h1 h2 => by
        have hkm := (dIdx_spec hk).1
        have e : restr ops bef m i (Tof ops m T0 X val) s = val k := by
         unfold restr
         simp only [hk, h2, cond_true, Tof]
         rw [if_pos (hbef k h2)]
        rw [e]
        rcases hdone k o' hkm ho' (ap_ob h1) (hbef k h2) with ⟨t', cs, p, e1, _⟩ | ⟨_, rf, ob, hφ, hm⟩ | ⟨_, e1, _⟩
        · have := (ap_cls (E := E) h1).1; rw [e1] at this; cases this
        · cases ob with
          | none => simp only at hm; exact ⟨rf, _, 0, hφ, hm.2⟩
          | some cs => simp only at hm; obtain ⟨p, _, e2, _⟩ := hm; exact ⟨rf, _, p, hφ, e2⟩
        · have := (ap_cls (E := E) h1).2.1; rw [e1] at this; cases this)
      (fun s k o' hk ho' h1 h2 => by
        have hkm := (dIdx_spec hk).1
        unfold restr
        simp only [hk]
        cases hb : (bef.getD i 0).testBit k with
        | false => rfl
        | true =>
          simp only [cond_true, Tof, hk]
          rw [if_pos (hbef k hb), hval k o' hkm ho' h1 h2]
          have htv := Tc_val hf hcs s i (by omega)
          simp only [hk] at htv
          rw [htv, if_pos (bef_lt hf i hlt k hb)])
      hφ' _ _ hstep
     rw [List.nil_append] at hbuild
     obtain ⟨rv, hrv⟩ := hbuild
     have hro : ∀ HZ, roE E (restr ops bef m i (Tof ops m T0 X val)) HZ o.op = some rv := fun HZ => by rw [hbd]; exact hrv
     have hopk : opK E (restr ops bef m i (Tof ops m T0 X val)) HX o.op (fun r' H'' => r' = rv ∧ H'' = HX) := by
      unfold opK
      have hir : isRo o.op = true := by rw [hbd]; rfl
      rw [hir]
      simp only [cond_true]
      rw [hro]
      exact ⟨rfl, trivial⟩
     refine .inl (op_sound hW hTr2 hopk ?_)
     rintro v w' G' rv' H1 x' hW' hr ⟨rfl, rfl⟩
     exact after G' w' v _ _ none mq x' hW' hr hle (by rw [same]; exact hg) (fun _ => ⟨rfl, fun h => by rw [hlt2] at h; cases h⟩) (fun h => by rw [lt_ob hlt2] at h; cases h) (fun _ => by rw [← hTf]; exact hro H) (.inl rfl) hmq
   · -- the maker
     have hgd : o.guard = none := hf.mkg i o him ho (.inl hmk)
     have hnlt : ∀ x, isLt ops m o.op = true → roE E (restr ops bef m i (Tful ops m T0 val)) H o.op = some x := fun x h => by have := (lt_cls (E := E) h).2.1; rw [hmk] at this; cases this
     have hfp' : ∀ p, fp = some p → HX p = H p := fun p hp => by
      have hq0 := mqNone ha hmk
      rw [hq0] at hg
      refine hg.off p fun j cs' hj => ?_
      have hjm : j < m ∧ X.getD j false = true := by
       cases hxj : X.getD j false with
       | true => exact ⟨h.lt j hxj, rfl⟩
       | false => rw [hno1 j hxj] at hj; cases hj
      obtain ⟨oj, hoj, _, _, _⟩ := hplan j hjm.1
      have hji : j ≠ i := fun e => by subst e; rw [hx] at hjm; cases hjm.2
      cases hob : isOb E oj.op with
      | false => rw [hno2 j oj hjm.1 hoj hob] at hj; cases hj
      | true =>
        rcases hdone j oj hjm.1 hoj hob hjm.2 with ⟨t, cs, q, _, _, e1, _, e2⟩ | ⟨_, rf, ob, _, hm⟩ | ⟨_, e1, _⟩
        · rw [hj] at e1; injection e1 with e1; injection e1 with e1 _; subst e1; exact hfp p hp e2
        · cases ob with
          | none => simp only at hm; rw [hj] at hm; cases hm.1
          | some cs =>
            simp only at hm
            obtain ⟨q, e1, _, e2⟩ := hm
            rw [hj] at e1; injection e1 with e1; injection e1 with e1 _; subst e1; exact hfp p hp e2
        · exact hji (hf.one j i oj o hjm.1 him hoj ho e1 hmk)
     unfold wpOp
     simp only [ho, Region.wanted, hgd, if_true]
     refine .inl (mk_sound hW hle hfp' hTr hstep ?_)
     intro v w' G' rv HX' rf ob x' hW' hr hφ hmade
     unfold Made at hmade
     cases ob with
     | none =>
       simp only at hmade
       obtain ⟨e1, e2⟩ := hmade
       subst e2
       exact after G' w' v rv _ none none x' hW' hr hle (by rw [same]; rw [mqNone ha hmk] at hg; exact hg) (fun h => by rw [mk_ob hmk] at h; cases h) (fun _ => .inr (.inr ⟨ha, hmk, rf, none, hφ, rfl, e1, rfl⟩)) (hnlt _) (.inr ⟨ha, hmk⟩) (fun q hq => by cases hq)
     | some cs =>
       cases hfpc : fp with
       | none =>
         rw [hfpc] at hmade
         simp only at hmade
         obtain ⟨p, hp, e1, e3, e2⟩ := hmade
         subst e2
         obtain ⟨hp1, hp2⟩ := notIn p hp
         have hg0 := hg
         rw [mqNone ha hmk] at hg0
         have hg1 : Grown (addM H (mapOf cs)) (addM HX (mapOf cs)) obs := by
          cases hmo : mapOf cs with
          | none => exact hg0
          | some q =>
            obtain ⟨hq1, hq2⟩ := notIn q (e3 q hmo).1
            refine ⟨fun j p' cs' hj => ?_, fun o' ho' => ?_, hg0.inj⟩
            · have hne : p' ≠ q := fun e => by subst e; exact hq1 _ _ hj
              show (HX.upd q (.map [])) p' = _
              rw [Heap.upd_ne _ _ hne]; exact hg0.here _ _ _ hj
            · show (HX.upd q (.map [])) o' = (H.upd q (.map [])) o'
              unfold Heap.upd
              split
              · rfl
              · exact hg0.off o' ho'
         have hle1 : rem H fp ≤ addM HX (mapOf cs) := by
          cases hmo : mapOf cs with
          | none => exact hle
          | some q => exact Heap.le_upd hle (remNone q (notIn q (e3 q hmo).1).2)
         have hmqn : ∀ q, mapOf cs = some q → H q = none ∧ ((addM HX (mapOf cs)).upd p (objOf cs)) q = some (.map []) := fun q hq => by
          refine ⟨(notIn q (e3 q hq).1).2, ?_⟩
          rw [Heap.upd_ne _ _ (Ne.symm (e3 q hq).2), hq]
          exact Heap.upd_same _ _ _
         exact after G' w' v rv _ (some (p, cs)) (mapOf cs) x' hW' hr (Heap.le_upd hle1 (remNone p hp2)) (hg1.add hobi hp1) (fun h => by rw [mk_ob hmk] at h; cases h) (fun _ => .inr (.inr ⟨ha, hmk, rf, some cs, hφ, p, rfl, e1, by rw [hfpc]; exact ⟨hp2, rfl, fun q hq => ⟨(hmqn q hq).1, (e3 q hq).2⟩⟩⟩)) (hnlt _) (.inr ⟨ha, hmk⟩) hmqn
       | some q =>
         rw [hfpc] at hmade
         simp only at hmade
         obtain ⟨e1, e2⟩ := hmade
         subst e2
         have hq := hfp' q hfpc
         have hnot : ∀ j cs', obs j ≠ some (q, cs') := fun j cs' hj => by
          have hjm : j < m ∧ X.getD j false = true := by
           cases hxj : X.getD j false with
           | true => exact ⟨h.lt j hxj, rfl⟩
           | false => rw [hno1 j hxj] at hj; cases hj
          obtain ⟨oj, hoj, _, _, _⟩ := hplan j hjm.1
          have hji : j ≠ i := fun e => by subst e; rw [hx] at hjm; cases hjm.2
          cases hob : isOb E oj.op with
          | false => rw [hno2 j oj hjm.1 hoj hob] at hj; cases hj
          | true =>
            rcases hdone j oj hjm.1 hoj hob hjm.2 with ⟨t, cs, q', _, _, e1, _, e2⟩ | ⟨_, rf, ob, _, hm⟩ | ⟨_, e1, _⟩
            · rw [hj] at e1; injection e1 with e1; injection e1 with e1 _; subst e1; exact hfp q hfpc e2
            · cases ob with
              | none => simp only at hm; rw [hj] at hm; cases hm.1
              | some cs =>
                simp only at hm
                obtain ⟨q', e1, _, e2⟩ := hm
                rw [hj] at e1; injection e1 with e1; injection e1 with e1 _; subst e1; exact hfp q hfpc e2
            · exact hji (hf.one j i oj o hjm.1 him hoj ho e1 hmk)
         have hrq : rem H fp q = none := by rw [hfpc]; simp [rem]
         exact after G' w' v rv _ (some (q, cs)) none x' hW' hr (Heap.le_upd hle hrq) (by rw [mqNone ha hmk] at hg; exact hg.add hobi hnot) (fun h => by rw [mk_ob hmk] at h; cases h) (fun _ => .inr (.inr ⟨ha, hmk, rf, some cs, hφ, q, rfl, e1, by rw [hfpc]; exact ⟨rfl, rfl⟩⟩)) (hnlt _) (.inr ⟨ha, hmk⟩) (fun q hq => by cases hq)
   · -- what reads
     refine step1_sound ho hW hle hTr hstep ?_
     intro v w' G' x' hW' hr
     exact after G' w' v (r i) HX none mq x' hW' hr hle (by rw [same]; exact hg) (fun _ => ⟨rfl, fun _ => rfl⟩) (fun h => by rw [hob] at h; cases h) (fun h => by rw [hlt2] at h; cases h) (.inl rfl) hmq


theorem rem_le (H : Heap) (fp : Option Nat) : rem H fp ≤ H := by
 intro o c h
 unfold rem at h
 split at h
 · exact h
 · split at h
   · cases h
   · exact h

theorem draw_go (hm : E.P.follows .mixedOrders = true) (id : Nat) (ops : Array Oper) {bef : Array Nat} {m : Nat} (hf : DrawFacts E ops bef m) {fp : Option Nat} (hfp : ∀ p, fp = some p → H p ≠ none) {Q : Post} {φ0 : Nat → Mk}
 (h : drawS E ops bef m H fp (List.range m) [] T φ0 fun sk T φ => drawA E ops bef m fp φ (List.range m) T H fun T H => opsK E ops (ops.toList.drop m) sk T H (Q .normal)) : sem E (.region id ops true) T H Q := by
 intro G a w hW hT
 obtain ⟨rs, hrs⟩ := plan_of _ _ _ _ h
 rw [List.range_eq_range'] at hrs
 obtain ⟨Tc, r, φc, e1, e1', ⟨sk, e2⟩, e3⟩ := plan_at _ _ _ _ _ hrs
 rw [Nat.zero_add, ← List.range_eq_range'] at e2
 have hlast : ∀ i, i < m → ∀ d, i + 1 + d ≤ m → φc (i + 1 + d) i = φc (i + 1) i := by
  intro i hi d
  induction d with
  | zero => intro _; rfl
  | succ d ih =>
    intro hd
    obtain ⟨o', ho', _, _, hs⟩ := e3 (i + 1 + d) (Nat.zero_le _) (by omega)
    rw [show i + 1 + (d + 1) = i + 1 + d + 1 by omega, ← ih (by omega)]
    rcases hs with hs | ⟨_, _, x, hs, _⟩ | hs | ⟨_, _, x, hs, _⟩ | hs
    · rw [hs.2.2]
    · rw [hs, updφ_ne _ _ (by omega)]
    · rw [hs.2.2.1]
    · rw [hs, updφ_ne _ _ (by omega)]
    · rw [hs.2.2.1]
 have hfin : ∀ i, i < m → φc m i = φc (i + 1) i := fun i hi => by
  have := hlast i hi (m - (i + 1)) (by omega)
  rwa [show i + 1 + (m - (i + 1)) = m by omega] at this
 have hWd := hW.drew
 have hx := Ext.drew G w
 refine wp_region_any hm ?_
 have hrep : ∀ i, (Array.replicate ops.size false).getD i false = false := fun i => by
  simp only [Array.getD_eq_getD_getElem?, Array.getElem?_replicate]; split <;> rfl
 refine any_sound (E := E) (G0 := G) (w0 := w) (r := r) (φ := φc m) (fp := fp) hf hfp e1 (fun i hi => ?_) e2 (fun G' a' w' T' H' x hW' hT' hq => ⟨G', T', H', x, hW', hT', hq⟩)
  ops.size (Array.replicate ops.size false) a w.drew (by simp) ?_ ?_ (.inl ⟨?_, G, r, H, fun _ => none, none, hx, hWd, rem_le H fp, ?_, fun _ _ _ _ _ _ => rfl, Grown.none H, fun _ _ => rfl, fun _ _ _ _ _ => rfl, fun i o _ _ _ h => ?_, fun i o _ _ _ h => ?_, fun q hq => (by cases hq), fun h => absurd rfl h⟩)
 · obtain ⟨o, ho, h1, h2, hs⟩ := e3 i (Nat.zero_le _) (by omega)
   refine ⟨o, ho, h1, h2, ?_⟩
   rcases hs with hs | ⟨c1, c2, x, hs, c3⟩ | hs | ⟨c1, c2, x, hs, c3, c4⟩ | hs
   · exact .inl ⟨hs.1, hs.2.1⟩
   · have e : φc m i = x := by rw [hfin i hi, hs, updφ_same]
     exact .inr (.inl ⟨c1, c2, by rw [e]; exact c3⟩)
   · refine .inr (.inr (.inl ⟨hs.1, hs.2.1, φc i, fun k hk => ?_, hs.2.2.2⟩))
     have hki := bef_lt hf i (by have := hf.bound; omega) k hk
     rw [hfin k (by omega)]
     have := hlast k (by omega) (i - (k + 1)) (by omega)
     rwa [show k + 1 + (i - (k + 1)) = i by omega] at this
   · have e : φc m i = x := by rw [hfin i hi, hs, updφ_same]
     exact .inr (.inr (.inr (.inl ⟨c1, c2, by rw [e]; exact c3, by rw [e]; exact c4⟩)))
   · exact .inr (.inr (.inr (.inr ⟨hs.1, hs.2.1, hs.2.2.2⟩)))
 · intro i hi; rw [hrep] at hi; cases hi
 · unfold unl
   exact Nat.le_trans (List.length_filter_le _ _) (by simp)
 · intro i hi; rw [hrep] at hi; cases hi
 · refine ⟨hT.size, hT.defers, fun s => ?_⟩
   unfold Tof
   split
   · exact (hT.rep s).ext hx
   · rw [hrep]; exact .dead _
 · rw [hrep] at h; cases h
 · rw [hrep] at h; cases h

theorem draw_sound (hm : E.P.follows .mixedOrders = true) (id : Nat) (ops : Array Oper) (T : Tm) (H : Heap) (Q : Post) (h : drawK E ops T H (Q .normal)) : sem E (.region id ops true) T H Q := by
 unfold drawK at h
 simp only at h
 cases hok : drawOk E ops (Region.before ops) (tailFrom (Region.before ops) ops.size) with
 | false => rw [hok] at h; exact h.elim
 | true =>
   rw [hok] at h
   simp only [cond_true] at h
   have hf := drawFacts hok
   cases hh : hasMk E ops (tailFrom (Region.before ops) ops.size) with
   | true =>
     rw [hh] at h
     simp only [cond_true] at h
     obtain ⟨fp, hfp, h⟩ := h
     exact draw_go hm id ops hf hfp h
   | false =>
     rw [hh] at h
     simp only [cond_false] at h
     exact draw_go hm id ops hf (fun p e => by cases e) h

theorem awp_sem (hm : E.P.follows .mixedOrders = true) (c : Code) (T : Tm) (H : Heap) (Q : Post) (h : awp E (drawK E) c T H Q) : sem E c T H Q :=
 awp_sound (draw := drawK E) (fun id ops T H Q => draw_sound hm id ops T H Q) c T H Q h

theorem ACalls.of_awp {f : FuncId} {fn : Func} {c : Code} {args : List AV} {R : AV → Heap → Prop} (hm : E.P.follows .mixedOrders = true) (hf : E.P.funcs[f]? = some fn) (hb : fn.body = some c) (hn : E.n = fn.ntmps)
 (h : awp E (drawK E) c (fun j => args.getD j .dead) H (retK E.P fn.results.toList R)) (hds : E.defs = [] := by rfl) : ACalls E.P E.Γ f args H R :=
 ACalls.of_sem hf hb hn hds (awp_sem hm c _ H _ h)

theorem ACalls.of_K {f : FuncId} {fn : Func} {c : Code} {args : List AV} {R : AV → Heap → Prop} {W : Prop} (hm : E.P.follows .mixedOrders = true) (hf : E.P.funcs[f]? = some fn) (hb : fn.body = some c) (hn : E.n = fn.ntmps)
 (hk : awp E (drawK E) c (fun j => args.getD j .dead) H (retK E.P fn.results.toList R) = W) (h : W) (hds : E.defs = [] := by rfl) : ACalls E.P E.Γ f args H R :=
 ACalls.of_awp hm hf hb hn (hk ▸ h) hds

end Go.Av
