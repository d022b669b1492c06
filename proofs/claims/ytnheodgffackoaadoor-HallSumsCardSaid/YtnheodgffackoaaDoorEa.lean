/- The engine, first part: abstract values, abstract heaps, and what the operations of a function come to over them. -/
import Derived.Test.YtnheodgffackoaaDoorBase
namespace Go.Proofs.YtnheodgffackoaaDoor.E
set_option linter.unusedSimpArgs false
set_option linter.unusedVariables false
open Go

/-- An abstract value: what is known of a value; objects are numbered. -/
inductive AV where
  | any | undef
  | int (k : IntKind) (n : Int)
  | bl (b : Bool)
  | bool (b : Bool)
  | str (s : ByteArray)
  | nilptr
  | ptr (id ix fld : Nat)
  | glob (g fld : Nat)
  | nilslice
  | empty
  | eslice
  | slice (id off len : Nat)
  | nilfunc
  | func (fn : Fn) (first captured : List AV)
  | niliface
  | iface (t : TypeId) (v : AV)
  | agg (cs : List AV)
  | tuple (vs : List AV)
  | nilmap
  | map (id : Nat)
  | raw (v : Value)

mutual
def AV.ren (r : Nat → Nat) : AV → AV
  | .ptr id ix fld => .ptr (r id) ix fld
  | .slice id off len => .slice (r id) off len
  | .map id => .map (r id)
  | .func fn fs cs => .func fn (renL r fs) (renL r cs)
  | .iface t v => .iface t (v.ren r)
  | .agg cs => .agg (renL r cs)
  | .tuple cs => .tuple (renL r cs)
  | v => v
def renL (r : Nat → Nat) : List AV → List AV
  | [] => []
  | v :: vs => v.ren r :: renL r vs
end

/-- Kinds of elements: flat data, each in so many cells; or any values of one cell. -/
inductive K where
  | int (k : IntKind)
  | bool
  | unit
  | pair (a b : K)
  | raw
@[reducible] def ty : K → Type
  | .int _ => Int
  | .bool => Bool
  | .unit => Unit
  | .pair a b => ty a × ty b
  | .raw => Value
def K.size : K → Nat
  | .int _ => 1
  | .bool => 1
  | .unit => 0
  | .pair a b => Nat.add a.size b.size
  | .raw => 1
def app : List AV → List AV → List AV
  | [], l => l
  | v :: l, l' => v :: app l l'
def enc : (k : K) → ty k → List AV
  | .int k, x => [.int k x]
  | .bool, x => [.bool x]
  | .unit, _ => []
  | .pair a b, x => app (enc a x.1) (enc b x.2)
  | .raw, x => [.raw x]
def kindEq (j k : IntKind) : Bool := match j, k with
  | .i8, .i8 | .i16, .i16 | .i32, .i32 | .i64, .i64 | .u8, .u8 | .u16, .u16 | .u32, .u32 | .u64, .u64 => true
  | _, _ => false
/-- An element off the front of a row of cells. -/
def decp : (k : K) → List AV → Option (ty k × List AV)
  | .int k, .int j x :: l => match kindEq j k with
    | true => some (x, l)
    | false => none
  | .bool, .bool x :: l => some (x, l)
  | .bool, .bl x :: l => some (x, l)
  | .unit, l => some ((), l)
  | .pair a b, l => match decp a l with
    | some (x, l) => match decp b l with
      | some (y, l) => some ((x, y), l)
      | none => none
    | none => none
  | .raw, .raw x :: l => some (x, l)
  | .raw, .nilptr :: l => some (.pointer none, l)
  | .raw, .nilslice :: l => some (.slice none 0 0, l)
  | _, _ => none
def dec (k : K) (l : List AV) : Option (ty k) := match decp k l with
  | some (x, []) => some x
  | _ => none
def dfl : (k : K) → ty k
  | .int _ => (0 : Int)
  | .bool => false
  | .unit => ()
  | .pair a b => (dfl a, dfl b)
  | .raw => undef
def kEq : K → K → Bool
  | .int j, .int k => kindEq j k
  | .bool, .bool => true
  | .unit, .unit => true
  | .pair a b, .pair c d => match kEq a c with
    | true => kEq b d
    | false => false
  | .raw, .raw => true
  | _, _ => false

theorem kindEq_eq {j k : IntKind} (h : kindEq j k = true) : j = k := by cases j <;> cases k <;> first | rfl | cases h
theorem kEq_eq : ∀ {a b : K}, kEq a b = true → a = b
  | .int j, .int k, h => by rw [kindEq_eq h]
  | .bool, .bool, _ => rfl
  | .unit, .unit, _ => rfl
  | .raw, .raw, _ => rfl
  | .pair a b, .pair c d, h => by
    simp only [kEq] at h
    split at h
    · rename_i h1; rw [kEq_eq h1, kEq_eq h]
    · cases h
def kCast {a b : K} (h : kEq a b = true) (xs : List (ty a)) : List (ty b) := (kEq_eq h) ▸ xs
/-- A row of elements of one kind, as one of another kind; where it can be, just as it is. -/
def castT : (j k : K) → List (ty j) → Option (List (ty k))
  | .int a, .int b, xs => match kindEq a b with
    | true => some xs
    | false => none
  | .bool, .bool, xs => some xs
  | .raw, .raw, xs => some xs
  | .pair (.int a) (.int c), .pair (.int b) (.int d), xs => match kindEq a b, kindEq c d with
    | true, true => some xs
    | _, _ => none
  | j, k, xs => match h : kEq j k with
    | true => some (kCast h xs)
    | false => none

/-- Are two keys one? -/
def keyEq : (k : K) → ty k → ty k → Bool
  | .int _, a, b => (a : Int) == b
  | .bool, a, b => (a : Bool) == b
  | .unit, _, _ => true
  | .pair a b, x, y => match keyEq a x.1 y.1 with
    | true => keyEq b x.2 y.2
    | false => false
  | .raw, _, _ => false
/-- An entry of a map: its key, what is there, and when it came. -/
abbrev Ent (kk vk : K) := ty kk × ty vk × Nat
section
variable {kk vk : K}
def mget (x : ty kk) : List (Ent kk vk) → Option (ty vk)
  | [] => none
  | e :: es => match keyEq kk x e.1 with
    | true => some e.2.1
    | false => mget x es
def mput (x : ty kk) (y : ty vk) (born : Nat) : List (Ent kk vk) → List (Ent kk vk)
  | [] => [(x, y, born)]
  | e :: es => match keyEq kk x e.1 with
    | true => (x, y, e.2.2) :: es
    | false => e :: mput x y born es
def mdel (x : ty kk) : List (Ent kk vk) → List (Ent kk vk)
  | [] => []
  | e :: es => match keyEq kk x e.1 with
    | true => es
    | false => e :: mdel x es
/-- When a key's entry came; if it isn't there: when it comes. -/
def mborn (x : ty kk) (born : Nat) : List (Ent kk vk) → Nat
  | [] => born
  | e :: es => match keyEq kk x e.1 with
    | true => e.2.2
    | false => mborn x born es
/-- The entry that came then has something else. -/
def mset (b : Int) (y : ty vk) : List (Ent kk vk) → List (Ent kk vk)
  | [] => []
  | e :: es => match (e.2.2 : Int) == b with
    | true => (e.1, y, e.2.2) :: es
    | false => e :: mset b y es
def mclock (x : ty kk) (c : Nat) (es : List (Ent kk vk)) : Nat := match mget x es with
  | some _ => c
  | none => c + 1
def mhas (x : ty kk) (es : List (Ent kk vk)) : Bool := (mget x es).isSome
end

/-- Where an object lies: its block, from which cell on, how many cells an element has, how many elements there is room for. -/
structure Loc where
  blk : Nat
  base : Nat
  sz : Nat
  room : Nat
inductive AObj where
  | gone
  | cells (cs : List AV)
  | tab (own : Bool) (k : K) (xs : List (ty k))
  | row (sz : Nat) (cs : List AV)
  | map (kk vk : K) (clock : Nat) (es : List (Ent kk vk))
  /-- A row of elements of one cell each: the k-th one is known; the others are as the predicate says. -/
  | mix (k : Nat) (P : List Value → List Value → Prop) (v : AV)
  /-- An iterator over a map, that has handed out entries of such births. -/
  | iter (id c : Nat) (seen : List Nat)
  /-- So, and one entry more, which of some isn't known. -/
  | iterX (id c : Nat) (seen bs : List Nat)
  /-- What lies in many blocks. -/
  | big (Q : World → Nat → Nat → Nat → Nat → Prop)
  /-- It owns nothing, and lies where another object does. -/
  | link (id : Nat)
  /-- What lies in many blocks, with other objects in sight; a number tells it from others. -/
  | box (tag : Nat) (ids : List Nat) (P : List Loc → World → Nat → Prop)

def isBig : AObj → Bool
  | .big _ => true
  | .box _ _ _ => true
  | _ => false
def isBigQ : AObj → Bool
  | .big _ => true
  | _ => false
def isBox (tag : Nat) : AObj → Bool
  | .box t _ _ => Nat.beq t tag
  | _ => false
def look {β : Type _} (d : β) : List (Nat × β) → Nat → β
  | [], _ => d
  | (i, b) :: l, j => match Nat.beq i j with
    | true => b
    | false => look d l j

structure Hp where
  n : Nat
  l : List (Nat × AObj)
def Hp.get (h : Hp) (i : Nat) : AObj := look .gone h.l i
def Hp.set (h : Hp) (i : Nat) (o : AObj) : Hp := ⟨h.n, (i, o) :: h.l⟩
def Hp.new (h : Hp) (o : AObj) : Hp := ⟨Nat.succ h.n, (h.n, o) :: h.l⟩
def hpFrom (i : Nat) : List AObj → List (Nat × AObj)
  | [] => []
  | o :: os => (i, o) :: hpFrom (Nat.succ i) os
def len {β : Type _} : List β → Nat
  | [] => 0
  | _ :: l => Nat.succ (len l)
def hp (os : List AObj) : Hp := ⟨len os, hpFrom 0 os⟩

/-- What the engine knows of the program: it; what package variables hold, for ever. -/
structure Env where
  P : Program
  gc : List (Nat × List AV)
  /-- Types of structs that are compared cell by cell. -/
  eqs : List TypeId
  eqOk : ∀ t, t ∈ eqs → P.stoodInHeld t = false ∧ P.eqGuardType P.depth t = false

abbrev Tm := List (Nat × AV)

def ofCell : Value → AV
  | .int k n => .int k n
  | .bool b => .bl b
  | .string s => .str s
  | .pointer none => .nilptr
  | .slice none 0 0 => .nilslice
  | .map none => .nilmap
  | .nilFunc => .nilfunc
  | .nilIface => .niliface
  | v => .raw v
def lmap {β γ : Type _} (f : β → γ) : List β → List γ
  | [] => []
  | x :: l => f x :: lmap f l
def ofVal : Value → AV
  | .agg cs => .agg (lmap ofCell cs.toList)
  | v => ofCell v
def lookO {β : Type _} : List (Nat × β) → Nat → Option β
  | [], _ => none
  | (i, b) :: l, j => match Nat.beq i j with
    | true => some b
    | false => lookO l j
def opv (E : Env) (tm : Tm) : Operand → AV
  | .tmp t => look .any tm t
  | .const v => ofVal v
  | .global g => .glob g 0
  | .func f => .func (.func f) [] []

def nth : List AV → Nat → Option AV
  | [], _ => none
  | v :: _, 0 => some v
  | _ :: l, i + 1 => nth l i
def setn : List AV → Nat → List AV → Option (List AV)
  | l, _, [] => some l
  | [], _, _ :: _ => none
  | _ :: l, 0, v :: vs => match setn l 0 vs with
    | some l' => some (v :: l')
    | none => none
  | u :: l, i + 1, v :: vs => match setn l i (v :: vs) with
    | some l' => some (u :: l')
    | none => none
/-- n values from one on. -/
def take? : List AV → Nat → Option (List AV)
  | _, 0 => some []
  | [], _ + 1 => none
  | v :: l, n + 1 => match take? l n with
    | some l' => some (v :: l')
    | none => none
def cutn : List AV → Nat → Nat → Option (List AV)
  | l, 0, n => take? l n
  | [], _ + 1, _ => none
  | _ :: l, i + 1, n => cutn l i n

abbrev QR := Option (AV × List Prop)

def isAggO (P : Program) (t : TypeId) : Option Bool :=
  match P.underlying t with
  | some (.struct _) => some true
  | some (.array _ _) => some true
  | some _ => some false
  | none => none
def sizeO (P : Program) (t : TypeId) : Option Nat :=
  match P.info? t with
  | some i => some i.size
  | none => none
def zeroO (P : Program) (t : TypeId) : Option Value :=
  match P.info? t with
  | some i => i.zero
  | none => none
def bytesO (P : Program) (t : TypeId) : Option Nat :=
  match P.info? t with
  | some i => some i.bytes
  | none => none

def rdCells (H : Hp) (id ix fld n : Nat) : Option (List AV × List Prop) :=
  match H.get id with
  | .gone => none
  | .cells cs => match ix with
    | 0 => match cutn cs fld n with
      | some l => some (l, [])
      | none => none
    | _ => none
  | .tab _ k xs => match cutn (enc k (xs.getD ix (dfl k))) fld n with
    | some l => some (l, [ix < xs.length])
    | none => none
  | .row sz cs => match cutn cs (Nat.add (Nat.mul ix sz) fld) n with
    | some l => some (l, [])
    | none => none
  | .map _ _ _ _ => none
  | .mix k _ v => match fld, n with
    | 0, 1 => some ([v], [ix = k])
    | _, _ => none
  | .iter _ _ _ => none
  | .iterX _ _ _ _ => none
  | .big _ => none
  | .link _ => none
  | .box _ _ _ => none

/-- A table of bytes. -/
def bytesA : List AV → Option (List Int)
  | [] => some []
  | .int .u8 n :: l => match bytesA l with
    | some r => some (n :: r)
    | none => none
  | _ => none
def evLoad (E : Env) (H : Hp) (t : TypeId) : AV → QR
  | .ptr id ix fld => match isAggO E.P t with
    | some true => match sizeO E.P t with
      | some n => match rdCells H id ix fld n with
        | some (l, cs) => some (.agg l, cs)
        | none => none
      | none => none
    | some false => match rdCells H id ix fld 1 with
      | some (l, cs) => match l with
        | [v] => some (v, cs)
        | _ => none
      | none => none
    | none => none
  | .glob g fld => match lookO E.gc g with
    | none => none
    | some cs => match isAggO E.P t with
      | some true => match sizeO E.P t with
        | some n => match cutn cs fld n with
          | some l => some (.agg l, [])
          | none => none
        | none => none
      | some false => match bytesA cs with
        | some l => some (.int .u8 (l.getD fld 0), [fld < l.length])
        | none => match nth cs fld with
          | some v => some (v, [])
          | none => none
      | none => none
  | _ => none

def evInt (op : BinOp) (k : IntKind) (a b : Int) : QR :=
  match op with
  | .add => some (.int k (k.wrap (a + b)), [])
  | .sub => some (.int k (k.wrap (a - b)), [])
  | .mul => some (.int k (k.wrap (a * b)), [])
  | .quo => some (.int k (k.wrap (a.tdiv b)), [b ≠ 0])
  | .rem => some (.int k (a.tmod b), [b ≠ 0])
  | .and => some (.int k (k.wrap (BitVec.ofInt k.bits a &&& BitVec.ofInt k.bits b).toNat), [])
  | .or => some (.int k (k.wrap (BitVec.ofInt k.bits a ||| BitVec.ofInt k.bits b).toNat), [])
  | .xor => some (.int k (k.wrap (BitVec.ofInt k.bits a ^^^ BitVec.ofInt k.bits b).toNat), [])
  | .andNot => some (.int k (k.wrap (BitVec.ofInt k.bits a &&& ~~~ BitVec.ofInt k.bits b).toNat), [])
  | .eql => some (.bool (a == b), [])
  | .neq => some (.bool (a != b), [])
  | .lss => some (.bool (decide (a < b)), [])
  | .leq => some (.bool (decide (a ≤ b)), [])
  | .gtr => some (.bool (decide (a > b)), [])
  | .geq => some (.bool (decide (a ≥ b)), [])
  | _ => none

/-- Equality of two scalars of a type. -/
def eqScal (P : Program) (t : TypeId) : AV → AV → Option Bool
  | .int j a, .int k b => match P.underlying t with
    | some (.int _) => match kindEq j k with
      | true => some (a == b)
      | false => none
    | _ => none
  | .bool a, .bool b | .bool a, .bl b | .bl a, .bool b | .bl a, .bl b => match P.underlying t with
    | some .bool => some (a == b)
    | _ => none
  | _, _ => none
/-- Equality of two structs whose fields are all scalars. -/
def eqFields (P : Program) (i : Nat) : List Field → List AV → List AV → Option Bool
  | [], [], [] => some true
  | f :: fs, a :: us, b :: vs => match eqScal P f.type a b with
    | some e => match Nat.beq f.offset i with
      | true => match f.name == "_" with
        | true => none
        | false => match eqFields P (Nat.succ i) fs us vs with
          | some r => some (e && r)
          | none => none
      | false => none
    | none => none
  | _, _, _ => none
def isConst : Operand → Bool
  | .const _ => true
  | _ => false
def memN : List Nat → Nat → Bool
  | [], _ => false
  | i :: l, j => match Nat.beq i j with
    | true => true
    | false => memN l j
def cellsAt (P : Program) (t : TypeId) (l : List AV) (off : Nat) : Option (List AV) := match isAggO P t with
  | some true => match sizeO P t with
    | some n => cutn l off n
    | none => none
  | some false => match nth l off with
    | some v => some [v]
    | none => none
  | none => none
/-- Equality of two structs, field by field; structs within them, too. -/
def eqFs (P : Program) (f : TypeId → List AV → List AV → Option Bool) : List Field → List AV → List AV → Option Bool
  | [], _, _ => some true
  | g :: gs, us, vs => match g.name == "_" with
    | true => none
    | false => match cellsAt P g.type us g.offset, cellsAt P g.type vs g.offset with
      | some a, some b => match f g.type a b with
        | some e => match eqFs P f gs us vs with
          | some r => some (e && r)
          | none => none
        | none => none
      | _, _ => none
def eqC (P : Program) (es : List TypeId) : Nat → TypeId → List AV → List AV → Option Bool
  | 0, _, _, _ => none
  | n + 1, t, us, vs => match P.underlying t with
    | some (.struct fs) => match memN es t with
      | true => eqFs P (eqC P es n) fs.toList us vs
      | false => none
    | _ => match us, vs with
      | [a], [b] => eqScal P t a b
      | _, _ => none
def evEq (P : Program) (es : List TypeId) (t : TypeId) (x y : Operand) : AV → AV → Option AV
  | .bl a, .bl b => match P.underlying t with
    | some .bool => some (.bl (a == b))
    | _ => none
  | .bool a, .bl b | .bl a, .bool b | .bool a, .bool b => match P.underlying t with
    | some .bool => some (.bool (a == b))
    | _ => none
  | .agg us, .agg bs => match P.underlying t with
    | some (.struct fs) => match memN es t with
      | true => match eqFields P 0 fs.toList us bs with
        | some r => some (.bool r)
        | none => match eqC P es 5 t us bs with
          | some r => some (.bool r)
          | none => none
      | false => none
    | _ => none
  | .nilptr, .nilptr => match P.underlying t with
    | some (.pointer _) => some (.bl true)
    | _ => none
  | .ptr _ _ _, .nilptr | .nilptr, .ptr _ _ _ => match P.underlying t with
    | some (.pointer _) => some (.bl false)
    | _ => none
  | .nilmap, .nilmap => match P.underlying t with
    | some (.map _ _) => some (.bl true)
    | _ => none
  | .map _, .nilmap | .nilmap, .map _ => match P.underlying t with
    | some (.map _ _) => some (.bl false)
    | _ => none
  | .nilfunc, .nilfunc => match P.underlying t with
    | some (.func _ _ _) => some (.bl true)
    | _ => none
  | .func _ _ _, .nilfunc | .nilfunc, .func _ _ _ => match P.underlying t with
    | some (.func _ _ _) => some (.bl false)
    | _ => none
  | .nilslice, .nilslice => match P.underlying t with
    | some (.slice _) => some (.bl true)
    | _ => none
  | .niliface, .niliface => match P.underlying t with
    | some (.interface _) => match isConst x with
      | true => some (.bl true)
      | false => match isConst y with
        | true => some (.bl true)
        | false => none
    | _ => none
  | .iface _ _, .niliface | .niliface, .iface _ _ => match P.underlying t with
    | some (.interface _) => some (.bl false)
    | _ => none
  | _, _ => none
def notV : AV → Option AV
  | .bl b => some (.bl (!b))
  | .bool b => some (.bool (!b))
  | _ => none
/-- Pointers, as values: is it one, and nil? -/
def isP : Value → Bool
  | .pointer _ => true
  | _ => false
def nilP : Value → Bool
  | .pointer none => true
  | _ => false
def evBin (E : Env) (op : BinOp) (t : TypeId) (x y : Operand) (a b : AV) : QR :=
  match a, b with
  | .int j m, .int k n => match op with
    | .shl => some (.int j (j.wrap (m * 2 ^ min n.toNat j.bits)), [0 ≤ n])
    | .shr => some (.int j (m.fdiv (2 ^ min n.toNat j.bits)), [0 ≤ n])
    | op => match kindEq j k with
      | true => evInt op j m n
      | false => none
  | .slice _ _ n, .nilslice => match E.P.underlying t, op with
    | some (.slice _), .eql => some (.bl false, [0 < n])
    | some (.slice _), .neq => some (.bl true, [0 < n])
    | _, _ => none
  | .raw u, .nilptr => match E.P.underlying t, op with
    | some (.pointer _), .eql => some (.bool (nilP u), [isP u = true])
    | some (.pointer _), .neq => some (.bool (!nilP u), [isP u = true])
    | _, _ => none
  | .eslice, .nilslice => match E.P.underlying t, op with
    | some (.slice _), .eql => some (.bl false, [])
    | some (.slice _), .neq => some (.bl true, [])
    | _, _ => none
  | a, b => match op with
    | .eql => match evEq E.P E.eqs t x y a b with
      | some v => some (v, [])
      | none => none
    | .neq => match evEq E.P E.eqs t x y a b with
      | some v => match notV v with
        | some v => some (v, [])
        | none => none
      | none => none
    | _ => none
def evUn (op : UnOp) (a : AV) : QR :=
  match op, a with
  | .neg, .int k n => some (.int k (k.wrap (0 - n)), [])
  | .xor, .int k n => some (.int k (k.wrap (BitVec.ofInt k.bits (if k.signed then -1 else k.max) ^^^ BitVec.ofInt k.bits n).toNat), [])
  | .not, .bl b => some (.bl (!b), [])
  | .not, .bool b => some (.bool (!b), [])
  | _, _ => none
def evPick : AV → AV → AV → QR
  | .bl true, a, _ => some (a, [])
  | .bl false, _, b => some (b, [])
  | .bool c, .int j m, .int k n => match kindEq j k with
    | true => some (.int j (if c then m else n), [])
    | false => none
  | .bool c, .bool a, .bool b | .bool c, .bool a, .bl b | .bool c, .bl a, .bool b | .bool c, .bl a, .bl b => some (.bool (if c then a else b), [])
  | _, _, _ => none
/-- A slice's bound: what it is us a number, and that it is one that may be. -/
def bound (m : Nat) : AV → Option (Nat × Prop)
  | .int _ i => some (i.toNat, 0 ≤ i ∧ i ≤ m)
  | _ => none
def elemO (P : Program) (t : TypeId) : Option TypeId := match P.underlying t with
  | some (.slice e) => some e
  | _ => none
def szObj : AObj → Option Nat
  | .tab _ k _ => some k.size
  | .row sz _ => some sz
  | .mix _ _ _ => some 1
  | _ => none
def sizeFits (E : Env) (H : Hp) (t : TypeId) (id : Nat) : Bool :=
  match elemO E.P t with
  | some e => match sizeO E.P e with
    | some n => match szObj (H.get id) with
      | some m => Nat.beq n m
      | none => false
    | none => false
  | none => false
def evSlice (E : Env) (H : Hp) (t : TypeId) (x : AV) (lo hi mx : Option AV) : QR :=
  match x with
  | .slice id off n => match sizeFits E H t id with
    | false => none
    | true => match lo, hi, mx with
      | none, none, none => some (.slice id off n, [])
      | some l, none, none => match bound n l with
        | some (l, c) => some (.slice id (off + l) (n - l), [c])
        | none => none
      | none, some h, none => match bound n h with
        | some (h, c) => some (.slice id off h, [c])
        | none => none
      | some l, some h, none => match bound n h with
        | some (h, c) => match bound h l with
          | some (l, c') => some (.slice id (off + l) (h - l), [c, c'])
          | none => none
        | none => none
      | none, some (.int _ 0), some (.int _ 0) => some (.empty, [])
      | none, some h, some m => match bound n m with
        | some (m, c) => match bound m h with
          | some (h, c') => some (.slice id off h, [c, c'])
          | none => none
        | none => none
      | _, _, _ => none
  | _ => none
def fieldO (P : Program) (s : TypeId) (f : Nat) : Option Field := match P.underlying s with
  | some (.struct fs) => match fs[f]? with
    | some f => some f
    | none => none
  | _ => none
def partA (P : Program) (t : TypeId) (cs : List AV) (off : Nat) : Option AV := match isAggO P t with
  | some true => match sizeO P t with
    | some n => match cutn cs off n with
      | some l => some (.agg l)
      | none => none
    | none => none
  | some false => nth cs off
  | none => none
def evField (P : Program) (s : TypeId) (f : Nat) : AV → QR
  | .agg cs => match fieldO P s f with
    | some g => match partA P g.type cs g.offset with
      | some v => some (v, [])
      | none => none
    | none => none
  | _ => none
def evFieldAddr (P : Program) (s : TypeId) (f : Nat) : AV → QR
  | .ptr id ix fld => match fieldO P s f with
    | some g => match sizeO P g.type with
      | some 0 => none
      | some _ => some (.ptr id ix (Nat.add fld g.offset), [])
      | none => none
    | none => none
  | .glob b fld => match fieldO P s f with
    | some g => match sizeO P g.type with
      | some 0 => none
      | some _ => some (.glob b (Nat.add fld g.offset), [])
      | none => none
    | none => none
  | _ => none
def evIndexAddr (E : Env) (H : Hp) (t : TypeId) (x i : AV) : QR :=
  match x, i with
  | .slice id off n, .int _ i => match sizeFits E H t id with
    | true => some (.ptr id (i.toNat + off) 0, [0 ≤ i ∧ i < n])
    | false => none
  | .ptr id ix fld, .int _ i => match E.P.underlying t with
    | some (.array n e) => match sizeO E.P e with
      | some m => some (.ptr id ix (Nat.add fld (Nat.mul i.toNat m)), [0 ≤ i ∧ i < n])
      | none => none
    | _ => none
  | .glob g fld, .int _ i => match E.P.underlying t with
    | some (.array n e) => match sizeO E.P e with
      | some 1 => some (.glob g (Nat.add fld i.toNat), [0 ≤ i ∧ i < n])
      | some m => some (.glob g (Nat.add fld (Nat.mul i.toNat m)), [0 ≤ i ∧ i < n])
      | none => none
    | _ => none
  | _, _ => none
def evIndex (P : Program) (t : TypeId) (x i : AV) : QR :=
  match x, i with
  | .agg cs, .int _ i => match P.underlying t with
    | some (.array n e) => match sizeO P e with
      | some m => match partA P e cs (Nat.mul i.toNat m) with
        | some v => some (v, [0 ≤ i ∧ i < n])
        | none => none
      | none => none
    | _ => none
  | _, _ => none
def evConvert (P : Program) (s d : TypeId) (x : AV) : QR :=
  match x with
  | .int _ n => match P.underlying s, P.underlying d with
    | some _, some (.int k) => some (.int k (k.wrap n), [])
    | _, _ => none
  | _ => none
def evNilCheck (x : AV) : QR := match x with
  | .ptr id ix fld => some (.ptr id ix fld, [])
  | .glob g fld => some (.glob g fld, [])
  | .func (.func f) fs cs => some (.func (.func f) fs cs, [])
  | .iface t v => some (.iface t v, [])
  | _ => none
def evLen (P : Program) (t : TypeId) (x : AV) : QR := match P.underlying t, x with
  | some (.slice _), .slice _ _ n => some (.int .i64 n, [])
  | some (.slice _), .nilslice => some (.int .i64 0, [])
  | some (.slice _), .empty => some (.int .i64 0, [])
  | some (.slice _), .eslice => some (.int .i64 0, [])
  | some (.array n _), _ => some (.int .i64 n, [])
  | some (.map _ _), .nilmap => some (.int .i64 0, [])
  | _, _ => none
def evFold (f : Int → Int → Int) : AV → List AV → QR
  | v, [] => some (v, [])
  | .int k a, .int j b :: l => match kindEq k j with
    | true => evFold f (.int k (f a b)) l
    | false => none
  | _, _ => none
def min2 (x y : Int) : Int := if y < x then y else x
def max2 (x y : Int) : Int := if y > x then y else x
def evBuiltin (E : Env) (b : Builtin) (ts : Array TypeId) (args : List AV) : QR :=
  match b, args with
  | .len, [x] => match ts[0]? with
    | some t => evLen E.P t x
    | none => none
  | .min, .int k a :: l => evFold min (.int k a) l
  | .max, .int k a :: l => evFold max (.int k a) l
  | _, _ => none
/-- A value of one cell, and what is to hold for it to be one. -/
def scal : AV → Option (List Prop)
  | .any | .undef | .agg _ | .tuple _ => none
  | .raw v => some [v.oneCell' = true]
  | _ => some []
def app2 : List Prop → List Prop → List Prop
  | [], l => l
  | v :: l, l' => v :: app2 l l'
def scals : List AV → Option (List Prop)
  | [] => some []
  | v :: l => match scal v with
    | some p => match scals l with
      | some q => some (app2 p q)
      | none => none
    | none => none
def cellsO : AV → Option (List AV × List Prop)
  | .agg cs => match scals cs with
    | some p => some (cs, p)
    | none => none
  | v => match scal v with
    | some p => some ([v], p)
    | none => none

def fillA (place : Nat → Option (Nat × Nat)) (cells : List AV) : List (Nat × AV) → Option (List AV × List Prop)
  | [] => some (cells, [])
  | (i, v) :: rest => match place i with
    | none => none
    | some (off, size) => match cellsO v with
      | some (vs, p) => match Nat.beq (len vs) size with
        | true => match Nat.ble (Nat.add off size) (len cells) with
          | true => match setn cells off vs with
            | some cells => match fillA place cells rest with
              | some (r, q) => some (r, app2 p q)
              | none => none
            | none => none
          | false => none
        | false => none
      | none => none
def placesO (P : Program) : List Field → Option (List (Nat × Nat))
  | [] => some []
  | f :: fs => match sizeO P f.type with
    | some n => match placesO P fs with
      | some l => some ((f.offset, n) :: l)
      | none => none
    | none => none
def nthG {β : Type _} : List β → Nat → Option β
  | [], _ => none
  | v :: _, 0 => some v
  | _ :: l, i + 1 => nthG l i
def evBuild (E : Env) (t : TypeId) (parts : List (Nat × AV)) : QR :=
  match zeroO E.P t with
  | some (.agg z) => match E.P.underlying t with
    | some (.struct fs) => match placesO E.P fs.toList with
      | some pl => match fillA (nthG pl) (lmap ofCell z.toList) parts with
        | some (l, p) => some (.agg l, p)
        | none => none
      | none => none
    | some (.array _ e) => match sizeO E.P e with
      | some n => match fillA (fun i => some (Nat.mul i n, n)) (lmap ofCell z.toList) parts with
        | some (l, p) => some (.agg l, p)
        | none => none
      | none => none
    | _ => none
  | _ => none
def evTypeAssert (P : Program) (asserted : TypeId) (ok : Bool) : AV → QR
  | .iface t v => match P.underlying asserted with
    | some (.interface _) => none
    | some _ => match Nat.beq t asserted with
      | true => some (match ok with | true => .tuple [v, .bl true] | false => v, [])
      | false => match ok with
        | true => match zeroO P asserted with
          | some z => some (.tuple [ofVal z, .bl false], [])
          | none => none
        | false => none
    | none => none
  | _ => none
def omap {β γ : Type _} (f : β → γ) : Option β → Option γ
  | some x => some (f x)
  | none => none
def decAll (k : K) : List (List AV) → Option (List (ty k))
  | [] => some []
  | l :: ls => match dec k l with
    | some a => match decAll k ls with
      | some us => some (a :: us)
      | none => none
    | none => none
/-- How the elements of a type are kept. -/
def kOf (P : Program) : Nat → TypeId → Option K
  | 0, _ => none
  | n + 1, t => match P.underlying t with
    | some (.int k) => some (.int k)
    | some .bool => some .bool
    | some (.struct fs) => kFields P (kOf P n) fs.toList
    | some (.pointer _) => some .raw
    | some (.slice _) => some .raw
    | some (.map _ _) => some .raw
    | some (.func _ _ _) => some .raw
    | some (.interface _) => some .raw
    | _ => none
where kFields (P : Program) (f : TypeId → Option K) : List Field → Option K
  | [] => none
  | [g] => f g.type
  | g :: gs => match f g.type with
    | some a => match kFields P f gs with
      | some b => some (.pair a b)
      | none => none
    | none => none
/-- How the keys and elements of a map's type are kept. -/
def kVal (P : Program) (t : TypeId) : Option K := match P.underlying t with
  | some (.struct fs) => match fs.toList with
    | [] => some .unit
    | [_] => none
    | _ => kOf P 5 t
  | _ => kOf P 5 t
def aggK : K → Bool
  | .pair _ _ => true
  | .unit => true
  | _ => false
/-- An element as a value. -/
def valA : (k : K) → ty k → AV
  | .int k, x => .int k x
  | .bool, x => .bool x
  | .raw, x => .raw x
  | .unit, _ => .agg []
  | .pair a b, x => .agg (enc (.pair a b) x)
def decA (k : K) (v : AV) : Option (ty k) := match aggK k with
  | true => match v with
    | .agg cs => dec k cs
    | _ => none
  | false => dec k [v]
def intTy (P : Program) (t : TypeId) (k : IntKind) : Bool := match P.underlying t with
  | some (.int j) => kindEq j k
  | _ => false
def nameOk (f : Field) : Bool := match f.name == "_" with
  | true => false
  | false => true
def both (a b : Bool) : Bool := match a with
  | true => b
  | false => false
/-- Keys of the type are compared as those of the kind. -/
def keyOk (E : Env) (t : TypeId) : K → Bool
  | .int k => intTy E.P t k
  | .pair (.int a) (.int b) => match E.P.underlying t with
    | some (.struct fs) => match fs.toList with
      | [f, g] => both (memN E.eqs t) (both (nameOk f) (both (nameOk g) (both (Nat.beq f.offset 0) (both (Nat.beq g.offset 1) (both (intTy E.P f.type a) (intTy E.P g.type b))))))
      | _ => false
    | _ => false
  | _ => false
def zeroK (P : Program) (vk : K) (et : TypeId) : Option (ty vk) := match zeroO P et with
  | some z => decA vk (ofVal z)
  | none => none
def lookRes (vk : K) (y : ty vk) (ok b : Bool) : AV := match ok with
  | true => .tuple [valA vk y, .bool b]
  | false => valA vk y
/-- A key of a map's type, where the map is nil. -/
def nilKey (E : Env) (kt : TypeId) (x : AV) : Bool := match kVal E.P kt with
  | some kk => match keyOk E kt kk with
    | true => (decA kk x).isSome
    | false => false
  | none => false
def evLookup (E : Env) (H : Hp) (t : TypeId) (m x : AV) (ok : Bool) : QR := match E.P.underlying t with
  | some (.map kt et) => match m with
    | .nilmap => match nilKey E kt x, zeroO E.P et with
      | true, some z => match ok with
        | true => some (.tuple [ofVal z, .bl false], [])
        | false => some (ofVal z, [])
      | _, _ => none
    | .map id => match H.get id with
      | .map kk vk _ es => match keyOk E kt kk, decA kk x, zeroK E.P vk et with
        | true, some k, some z => some (lookRes vk ((mget k es).getD z) ok (mhas k es), [])
        | _, _, _ => none
      | _ => none
    | _ => none
  | _ => none
/-- A quiet operation: it reads at most. -/
def evQ (E : Env) (o : Op) (tm : Tm) (H : Hp) : QR :=
  match o with
  | .move x => some (opv E tm x, [])
  | .assign x => some (opv E tm x, [])
  | .pick c a b => evPick (opv E tm c) (opv E tm a) (opv E tm b)
  | .load t x => evLoad E H t (opv E tm x)
  | .nilCheck x => evNilCheck (opv E tm x)
  | .binOp op t x y _ => evBin E op t x y (opv E tm x) (opv E tm y)
  | .unOp op _ x => evUn op (opv E tm x)
  | .convert s d x => evConvert E.P s d (opv E tm x)
  | .slice t x lo hi mx => evSlice E H t (opv E tm x) (omap (opv E tm) lo) (omap (opv E tm) hi) (omap (opv E tm) mx)
  | .fieldAddr s x f => evFieldAddr E.P s f (opv E tm x)
  | .field s x f => evField E.P s f (opv E tm x)
  | .indexAddr t x i => evIndexAddr E H t (opv E tm x) (opv E tm i)
  | .index t x i => evIndex E.P t (opv E tm x) (opv E tm i)
  | .makeInterface t x => match E.P.underlying t with
    | some (.interface _) => none
    | some _ => some (.iface t (opv E tm x), [])
    | none => none
  | .makeFunc fn fs cs => some (.func fn (lmap (opv E tm) fs.toList) (lmap (opv E tm) cs.toList), [])
  | .extract t i => match opv E tm t with
    | .tuple vs => match nth vs i with
      | some v => some (v, [])
      | none => none
    | _ => none
  | .build t ps => evBuild E t (lmap (fun p => (p.1, opv E tm p.2)) ps.toList)
  | .typeAssert x _ t ok => evTypeAssert E.P t ok (opv E tm x)
  | .call ⟨.builtin b, args, ts⟩ => evBuiltin E b ts (lmap (opv E tm) args.toList)
  | _ => none

abbrev LR := Option (AV × Hp × List Prop)


def evStore (E : Env) (H : Hp) (t : TypeId) (p x : AV) : LR :=
  match p with
  | .ptr id ix fld => match cellsO x with
    | some (vs, ps) => match sizeO E.P t with
      | some n => match and (Nat.beq (len vs) n) (Nat.ble 1 n) with
        | true => match H.get id with
          | .cells cs => match ix with
            | 0 => match setn cs fld vs with
              | some cs' => some (.undef, H.set id (.cells cs'), ps)
              | none => none
            | _ => none
          | .tab true k xs => match setn (enc k (xs.getD ix (dfl k))) fld vs with
            | some l => match dec k l with
              | some y => some (.undef, H.set id (.tab true k (xs.set ix y)), (ix < xs.length) :: ps)
              | none => none
            | none => none
          | .row sz cs => match setn cs (Nat.add (Nat.mul ix sz) fld) vs with
            | some cs' => some (.undef, H.set id (.row sz cs'), ps)
            | none => none
          | _ => none
        | false => none
      | none => none
    | none => none
  | _ => none
def isCells : AObj → Bool
  | .cells _ => true
  | _ => false
/-- Pointers to cells: is it one cell? -/
def ptrEq (H : Hp) (i a f j b g : Nat) : Option Bool := match Nat.beq i j with
  | true => match Nat.beq a 0, Nat.beq b 0, Nat.beq f g with
    | true, true, true => some true
    | _, _, _ => none
  | false => match isCells (H.get i), isCells (H.get j) with
    | true, true => some false
    | _, _ => none
/-- Are two pointers one? -/
def evPtrEq (E : Env) (H : Hp) (op : BinOp) (t : TypeId) (a b : AV) : LR := match a, b with
  | .ptr i a f, .ptr j b g => match E.P.underlying t with
    | some (.pointer e) => match sizeO E.P e with
      | some 0 => none
      | some _ => match ptrEq H i a f j b g, op with
        | some r, .eql => some (.bl r, H, [])
        | some r, .neq => some (.bl (!r), H, [])
        | _, _ => none
      | none => none
    | _ => none
  | _, _ => none
def evMapLen (E : Env) (H : Hp) (t : TypeId) (m : AV) : LR := match E.P.underlying t, m with
  | some (.map _ _), .map id => match H.get id with
    | .map _ _ _ es => some (.int .i64 es.length, H, [])
    | _ => none
  | _, _ => none
/-- A map's entry is written. -/
def evMapPut (E : Env) (H : Hp) (t : TypeId) (m x y : AV) : LR := match E.P.underlying t, m with
  | some (.map kt _), .map id => match H.get id with
    | .map kk vk c es => match keyOk E kt kk, decA kk x, decA vk y with
      | true, some k, some v => some (.undef, H.set id (.map kk vk (mclock k c es) (mput k v c es)), [])
      | _, _, _ => none
    | _ => none
  | _, _ => none
def evMapDel (E : Env) (H : Hp) (t : TypeId) (m x : AV) : LR := match E.P.underlying t, m with
  | some (.map kt _), .nilmap => match nilKey E kt x with
    | true => some (.tuple [], H, [])
    | false => none
  | some (.map kt _), .map id => match H.get id with
    | .map kk vk c es => match keyOk E kt kk, decA kk x with
      | true, some k => some (.tuple [], H.set id (.map kk vk c (mdel k es)), [])
      | _, _ => none
    | _ => none
  | _, _ => none
def evMapEntry (E : Env) (H : Hp) (t : TypeId) (m x : AV) : LR := match E.P.underlying t, m with
  | some (.map kt et), .map id => match H.get id with
    | .map kk vk c es => match keyOk E kt kk, decA kk x, zeroK E.P vk et with
      | true, some k, some z => some (.tuple [valA vk ((mget k es).getD z), .int .i64 (mborn k c es)], H.set id (.map kk vk (mclock k c es) (mput k ((mget k es).getD z) c es)), [])
      | _, _, _ => none
    | _ => none
  | _, _ => none
def evMakeMap (E : Env) (H : Hp) (t : TypeId) : LR := match E.P.underlying t with
  | some (.map kt et) => match kVal E.P kt, kVal E.P et with
    | some kk, some vk => some (.map H.n, H.new (.map kk vk 0 []), [])
    | _, _ => none
  | _ => none
def evEntryStore (H : Hp) (m x y : AV) : LR := match m, x with
  | .map id, .int _ b => match H.get id with
    | .map kk vk c es => match decA vk y with
      | some v => some (.undef, H.set id (.map kk vk c (mset b v es)), [∃ e, e ∈ es ∧ (e.2.2 : Int) = b])
      | none => none
    | _ => none
  | _, _ => none
/-- The kind of a slice type's elements, if it is of the size that the program says; how many bytes each. -/
def kSlice (P : Program) (t : TypeId) : Option (K × Nat × TypeId) := match elemO P t with
  | some e => match kOf P 5 e with
    | some k => match sizeO P e with
      | some n => match Nat.beq n k.size with
        | true => match bytesO P e with
          | some b => match zeroO P e with
            | some z => match cellsO (ofVal z) with
              | some (zs, []) => match Nat.beq (len zs) n with
                | true => some (k, b, e)
                | false => none
              | _ => none
            | none => none
          | none => none
        | false => none
      | none => none
    | none => none
  | none => none
/-- The parts of a slice's literal, in order, each there. -/
def partsInOrder (i : Nat) : List (Nat × AV) → Option (List (List AV) × List Prop)
  | [] => some ([], [])
  | (j, v) :: l => match Nat.beq j i with
    | true => match cellsO v with
      | some (cs, p) => match partsInOrder (Nat.succ i) l with
        | some (r, q) => some (cs :: r, app2 p q)
        | none => none
      | none => none
    | false => none
/-- What a slice's elements are; the flag says that all of its object is meant. -/
def content (H : Hp) (full : Bool) (k : K) : AV → Option (List (ty k) × List Prop × Option Nat × Nat)
  | .nilslice => some ([], [], none, 0)
  | .empty => some ([], [], none, 0)
  | .eslice => some ([], [], none, 0)
  | .slice id off n => match H.get id with
    | .tab own k' xs => match castT k' k xs with
      | some zs => match full with
        | true => some (zs, [off = 0, n = xs.length], (match own with | true => some id | false => none), n)
        | false => some ((zs.drop off).take n, [off + n ≤ xs.length], (match own with | true => some id | false => none), n)
      | none => none
    | _ => none
  | _ => none
/-- A value without cells is stored. -/
def evStore0 (E : Env) (H : Hp) (t : TypeId) (p x : AV) : LR := match sizeO E.P t with
  | some 0 => match p, cellsO x with
    | .ptr _ _ _, some ([], ps) => some (.undef, H, ps)
    | _, _ => none
  | _ => none
def allLen (n : Nat) : List (List AV) → Bool
  | [] => true
  | l :: ls => match Nat.beq (len l) n with
    | true => allLen n ls
    | false => false
def flat2 : List (List AV) → List AV
  | [] => []
  | l :: ls => app l (flat2 ls)
/-- append: onto a slice that is the call's own (it is consumed), of another one's elements. -/
def evAppend (E : Env) (H : Hp) (fx fy : Bool) (t : TypeId) (x y : AV) : LR :=
  match kSlice E.P t with
  | some (k, by_, _) => match Nat.ble by_ 4096, content H fx k x, content H fy k y with
    | true, some (xs, cs, ox, n), some (ys, ds, _, m) => match x, ox with
      | .slice id _ _, some _ => some (.slice H.n 0 (n + m), (H.set id .gone).new (.tab true k (xs ++ ys)), app2 cs (app2 ds [n + m ≤ 17179869184]))
      | .slice _ _ _, none => none
      | .eslice, _ => none
      | _, _ => some (.slice H.n 0 m, H.new (.tab true k ys), app2 cs (app2 ds [m ≤ 17179869184]))
    | _, _, _ => none
  | none => none
/-- A loud operation: it writes, or makes memory. The flags: of a slice that is appended to, or of what is appended, all is meant. -/
def evL0 (E : Env) (o : Op) (fx fy : Bool) (tm : Tm) (H : Hp) : LR :=
  match o with
  | .alloc t => match zeroO E.P t with
    | some z => match cellsO (ofVal z) with
      | some (cs, ps) => some (.ptr H.n 0 0, H.new (.cells cs), ps)
      | none => none
    | none => none
  | .box _ x => match cellsO (opv E tm x) with
    | some (cs, ps) => some (.ptr H.n 0 0, H.new (.cells cs), ps)
    | none => none
  | .store t p x => match evStore0 E H t (opv E tm p) (opv E tm x) with
    | some r => some r
    | none => evStore E H t (opv E tm p) (opv E tm x)
  | .binOp op t x y _ => evPtrEq E H op t (opv E tm x) (opv E tm y)
  | .lookup t x i ok => match evLookup E H t (opv E tm x) (opv E tm i) ok with
    | some (v, cs) => some (v, H, cs)
    | none => none
  | .call ⟨.builtin .len, args, ts⟩ => match lmap (opv E tm) args.toList, ts.toList with
    | [m], [t] => evMapLen E H t m
    | _, _ => none
  | .makeMap t none => evMakeMap E H t
  | .mapUpdate t m x y => evMapPut E H t (opv E tm m) (opv E tm x) (opv E tm y)
  | .insert t m x y => evMapPut E H t (opv E tm m) (opv E tm x) (opv E tm y)
  | .mapEntry t m x => evMapEntry E H t (opv E tm m) (opv E tm x)
  | .entryStore _ m x y => evEntryStore H (opv E tm m) (opv E tm x) (opv E tm y)
  | .call ⟨.builtin .delete, args, ts⟩ => match lmap (opv E tm) args.toList, ts.toList with
    | [m, x], t :: _ => evMapDel E H t m x
    | _, _ => none
  | .buildSlice t n ps => match kSlice E.P t with
    | some (k, _, _) => match partsInOrder 0 (lmap (fun p => (p.1, opv E tm p.2)) ps.toList) with
      | some (ls, ps) => match Nat.beq (len ls) n with
        | true => match Nat.ble (Nat.mul n k.size) 16777216 with
          | true => match decAll k ls with
            | some xs => some (.slice H.n 0 n, H.new (.tab true k xs), ps)
            | none => match allLen k.size ls with
              | true => some (.slice H.n 0 n, H.new (.row k.size (flat2 ls)), ps)
              | false => none
          | false => none
        | false => none
      | none => none
    | none => none
  | .makeSlice t n m => match kSlice E.P t with
    | some (k, by_, e) => match zeroO E.P e with
      | some z => match cellsO (ofVal z) with
        | some (zs, ps) => match dec k zs with
          | some y => match Nat.ble by_ 4096, opv E tm n, opv E tm m with
            | true, .int _ a, .int _ b => some (.slice H.n 0 a.toNat, H.new (.tab true k (List.replicate b.toNat y)), (0 ≤ a) :: (a ≤ b) :: (b ≤ 17179869184) :: ps)
            | _, _, _ => none
          | none => none
        | none => none
      | none => none
    | none => none
  | .call ⟨.builtin .append, args, ts⟩ => match lmap (opv E tm) args.toList, ts.toList with
    | [s, x], [t, t'] => match Nat.beq t t' with
      | true => evAppend E H fx fy t s x
      | false => none
    | _, _ => none
  | .call ⟨.builtin .copy, args, ts⟩ => match lmap (opv E tm) args.toList, ts.toList with
    | [s, x], [t, _] => match kSlice E.P t with
      | some (k, _, _) => match content H false k s, content H fy k x with
        | some (_, cs, some id, n), some (ys, ds, _, m) => match s, H.get id with
          | .slice _ off _, .tab true k' xs => match castT k k' ys with
            | some zs => some (.int .i64 (min m n : Nat), H.set id (.tab true k' (xs.take off ++ zs.take (min m n) ++ xs.drop (off + min m n))), app2 cs ds)
            | none => none
          | _, _ => none
        | _, _ => none
      | none => none
    | _, _ => none
  | _ => none

/-- A store into a row of which one element is known. -/
def evStoreX (E : Env) (H : Hp) (t : TypeId) (p x : AV) : LR := match p with
  | .ptr id ix fld => match fld, scal x, sizeO E.P t with
    | 0, some ps, some 1 => match H.get id with
      | .mix k P _ => some (.undef, H.set id (.mix k P x), (ix = k) :: ps)
      | _ => none
    | _, _, _ => none
  | _ => none
/-- append: onto a row of known values, or of which one is known, one value that lies in a row of its own. -/
def evAppendX (E : Env) (H : Hp) (t : TypeId) (s x : AV) : LR := match kSlice E.P t with
  | some (.raw, by_, _) => match Nat.ble by_ 4096, x with
    | true, .slice idy 0 1 => match H.get idy with
      | .row 1 [v] => match scal v, s with
        | some ps, .slice id off n => match H.get id with
          | .tab true .raw us => some (.slice H.n 0 (n + 1), ((H.set idy .gone).set id .gone).new (.mix us.length (fun a b => a = us ∧ b = []) v), (off = 0) :: (n = us.length) :: (n + 1 ≤ 17179869184) :: ps)
          | .mix k P u => some (.slice H.n 0 (n + 1), ((H.set idy .gone).set id .gone).new (.mix k (fun a b => ∃ b' z, P a b' ∧ b = b' ++ [z]) u), (off = 0) :: (∀ a b, P a b → a.length = k → n = k + 1 + b.length) :: (n + 1 ≤ 17179869184) :: ps)
          | _ => none
        | _, _ => none
      | _ => none
    | _, _ => none
  | _ => none
def evRange (E : Env) (H : Hp) (t : TypeId) (x : AV) : LR := match E.P.underlying t, x with
  | some (.map _ _), .map id => match H.get id with
    | .map _ _ c _ => some (.ptr H.n 0 0, H.new (.iter id c []), [])
    | _ => none
  | _, _ => none
/-- The next entry of a map, if the flag says that one is left. -/
def evNext (H : Hp) (fx : Bool) (x : AV) : LR := match x with
  | .ptr i 0 0 => match H.get i with
    | .iter id c seen => match H.get id with
      | .map _ _ c' es => match fx with
        | true => some (.tuple [.bl true, .any, .any], H.set i (.iterX id c seen (es.map (·.2.2))), [c' = c, ∀ e ∈ es, e.2.2 < c, ∃ e ∈ es, e.2.2 ∉ seen])
        | false => some (.tuple [.bl false], H, [c' = c, ∀ e ∈ es, e.2.2 < c, ∀ e ∈ es, e.2.2 ∈ seen])
      | _ => none
    | _ => none
  | _ => none
def lastB : List Nat → Nat
  | [] => 0
  | [b] => b
  | _ :: l => lastB l
/-- The key, and the value, of the entry that came then. -/
def keyB {kk vk : K} (b : Nat) : List (Ent kk vk) → ty kk
  | [] => dfl kk
  | e :: es => if e.2.2 = b then e.1 else keyB b es
def valB {kk vk : K} (b : Nat) : List (Ent kk vk) → ty vk
  | [] => dfl vk
  | e :: es => if e.2.2 = b then e.2.1 else valB b es
def evEntry (H : Hp) (x : AV) : LR := match x with
  | .ptr i 0 0 => match H.get i with
    | .iter id c seen => match H.get id with
      | .map kk vk c' es => some (.tuple [valA kk (keyB (lastB seen) es), valA vk (valB (lastB seen) es)], H, [c' = c, seen ≠ [], ∃ e ∈ es, e.2.2 = lastB seen])
      | _ => none
    | _ => none
  | _ => none
/-- clear: of a part of a row. -/
def evClear (E : Env) (H : Hp) (t : TypeId) (x : AV) : LR := match kSlice E.P t with
  | some (k, _, e) => match zeroO E.P e with
    | some z => match cellsO (ofVal z) with
      | some (zs, ps) => match dec k zs, x with
        | some y, .slice id off n => match H.get id with
          | .tab true k' xs => match castT k k' [y] with
            | some ys => some (.tuple [], H.set id (.tab true k' (xs.take off ++ List.replicate n (ys.headD (dfl k')) ++ xs.drop (off + n))), (off + n ≤ xs.length) :: ps)
            | none => none
          | _ => none
        | _, _ => none
      | none => none
    | none => none
  | none => none
/-- Further loud operations. -/
def evX (E : Env) (o : Op) (fx : Bool) (tm : Tm) (H : Hp) : LR :=
  match o with
  | .store t p x => evStoreX E H t (opv E tm p) (opv E tm x)
  | .range t x => evRange E H t (opv E tm x)
  | .next it false => evNext H fx (opv E tm it)
  | .entry it => evEntry H (opv E tm it)
  | .call ⟨.builtin .append, args, ts⟩ => match lmap (opv E tm) args.toList, ts.toList with
    | [s, x], [t, t'] => match Nat.beq t t' with
      | true => evAppendX E H t s x
      | false => none
    | _, _ => none
  | .call ⟨.builtin .clear, args, ts⟩ => match lmap (opv E tm) args.toList, ts.toList with
    | [x], [t] => evClear E H t x
    | _, _ => none
  | _ => none
def evL (E : Env) (o : Op) (fx fy : Bool) (tm : Tm) (H : Hp) : LR := match evL0 E o fx fy tm H with
  | some r => some r
  | none => evX E o fx tm H

end Go.Proofs.YtnheodgffackoaaDoor.E
