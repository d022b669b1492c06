/- The engine, seventh part: runs of code over abstract states. -/
import Derived.Test.YtnheodgffackoaaDoorEt
import Derived.Orders
namespace Go.Proofs.YtnheodgffackoaaDoor.E
set_option linter.unusedSimpArgs false
set_option linter.unusedVariables false
open Go

/-- What a run is told: of the operation that fills a slot, what its result is held to be, and whether all of a slice is meant; which way a branch goes; that a loop is entered, or gone round; by which contract a call is taken; where to stop. -/
inductive Hint (E : Env) where
  | s (t : Nat) (d : Option Bool) (fx fy : Bool)
  | b (d : Bool)
  | l
  | c (T : TriI E)
  | k (t : Nat) (T : TriI E)
  | stop
  | upto (i : Nat)
inductive Hd where
  | none
  | seq (ops : Array Oper) (rest : List Nat)
  | any (ops : Array Oper) (L : List Nat)
structure Cfg where
  hd : Hd
  todo : List Item
  tm : Tm
  H : Hp

def nthG? {β : Type _} (a : Array β) (i : Nat) : Option β := nthG a.toList i
def isCall : Op → Bool
  | .call ⟨.builtin _, _, _⟩ => false
  | .call _ => true
  | _ => false
def bindsE (e : Edge) : Bool := match e.ground with
  | .textOnly _ | .gcOnly _ => false
  | _ => true
def predsIn (L : List Nat) : List Edge → Bool
  | [] => true
  | e :: es => match bindsE e with
    | true => match memN L e.on with
      | true => predsIn L es
      | false => false
    | false => predsIn L es
/-- Is an operation not among some, but all ahead of it are? -/
def readyO (L : List Nat) (i : Nat) (o : Oper) : Bool := match memN L i with
  | true => false
  | false => predsIn L o.after.toList
def othersWait (L : List Nat) (j i : Nat) : List Oper → Bool
  | [] => true
  | o :: os => match Nat.beq i j with
    | true => othersWait L j (Nat.succ i) os
    | false => match readyO L i o with
      | true => false
      | false => othersWait L j (Nat.succ i) os
def tmpsOf : List Operand → List Nat
  | [] => []
  | .tmp t :: l => t :: tmpsOf l
  | _ :: l => tmpsOf l
/-- The slots that an operation looks at. -/
def looks (ops : Array Oper) (o : Oper) : List Nat :=
  match o.guard with
  | none => tmpsOf o.op.operands.toList
  | some (g, _) => match nthG? ops g with
    | some og => match og.dst with
      | some t => t :: tmpsOf o.op.operands.toList
      | none => tmpsOf o.op.operands.toList
    | none => tmpsOf o.op.operands.toList
def dstIs (o : Oper) (t : Nat) : Bool := match o.dst with
  | some d => Nat.beq d t
  | none => false
/-- All that is ahead of some operations, through others. -/
def predsL : List Edge → List Nat
  | [] => []
  | e :: es => match bindsE e with
    | true => e.on :: predsL es
    | false => predsL es
def appN : List Nat → List Nat → List Nat
  | [], l => l
  | i :: l, l' => i :: appN l l'
def newOnes (S : List Nat) : List Nat → List Nat
  | [] => S
  | j :: l => match memN S j with
    | true => newOnes S l
    | false => newOnes (j :: S) l
def cloD (ops : Array Oper) : Nat → List Nat → List Nat
  | 0, S => S
  | n + 1, S => match memN S n with
    | true => match nthG? ops n with
      | some o => cloD ops n (newOnes S (predsL o.after.toList))
      | none => cloD ops n S
    | false => cloD ops n S
/-- A new value of a slot is of no matter to those of L that may still be on their way. -/
def apartL (ops : Array Oper) (d : Nat) (done : List Nat) : List Nat → Bool
  | [] => true
  | i :: l => match memN done i with
    | true => apartL ops d done l
    | false => match nthG? ops i with
      | none => apartL ops d done l
      | some o => match memN (looks ops o) d with
        | true => false
        | false => match dstIs o d with
          | true => false
          | false => apartL ops d done l
/-- None of those of L that may still be on their way gives what an operation looks at. -/
def freeOf (ops : Array Oper) (ts : List Nat) (done : List Nat) : List Nat → Bool
  | [] => true
  | i :: l => match memN done i with
    | true => freeOf ops ts done l
    | false => match nthG? ops i with
      | none => freeOf ops ts done l
      | some o => match o.dst with
        | none => freeOf ops ts done l
        | some d => match memN ts d with
          | true => false
          | false => freeOf ops ts done l
def isLoad : Op → Bool
  | .load _ _ | .slice _ _ _ _ _ | .indexAddr _ _ _ => true
  | _ => false
/-- Those of L that may still be on their way read what they read before. -/
def stillL (E : Env) (ops : Array Oper) (tm : Tm) (H H' : Hp) (done : List Nat) : List Nat → List Prop
  | [] => []
  | i :: l => match memN done i with
    | true => stillL E ops tm H H' done l
    | false => match nthG? ops i with
      | none => stillL E ops tm H H' done l
      | some o => match isLoad o.op with
        | true => (evQ E o.op tm H' = evQ E o.op tm H) :: stillL E ops tm H H' done l
        | false => stillL E ops tm H H' done l
/-- Is an operation's guard met? -/
def evG (ops : Array Oper) (tm : Tm) (o : Oper) : Option Bool := match o.guard with
  | none => some true
  | some (g, want) => match nthG? ops g with
    | none => some false
    | some og => match og.dst with
      | none => some false
      | some t => match look .any tm t with
        | .bl b => match b, want with
          | true, true => some true
          | false, false => some true
          | _, _ => some false
        | .undef => some false
        | _ => none
def putT (nt : Nat) (tm : Tm) (dst : Option Nat) (v : AV) : Option Tm := match dst with
  | none => some tm
  | some d => match Nat.ble (Nat.succ d) nt with
    | true => some ((d, v) :: tm)
    | false => none
/-- A result that is held to be so. -/
def decide1 (d : Option Bool) (v : AV) : Option (AV × List Prop) := match d with
  | none => some (v, [])
  | some d => match v with
    | .bool b => some (.bl d, [b = d])
    | _ => none
def rangeN : Nat → List Nat → List Nat
  | 0, l => l
  | n + 1, l => rangeN n (n :: l)
def edgesDown (i : Nat) : List Oper → Bool
  | [] => true
  | o :: os => match allBelow i (predsL o.after.toList) with
    | true => edgesDown (Nat.succ i) os
    | false => false
where allBelow (i : Nat) : List Nat → Bool
  | [] => true
  | j :: l => match Nat.ble (Nat.succ j) i with
    | true => allBelow i l
    | false => false
def noSel : List Oper → Bool
  | [] => true
  | o :: os => match o.op with
    | .select _ _ => false
    | _ => noSel os
def exitE (id : Nat) : List Item → Option (List Item)
  | .inBlock id' :: k => match Nat.beq id' id with
    | true => some k
    | false => exitE id k
  | _ :: k => exitE id k
  | [] => none
def andB : List Bool → Bool
  | [] => true
  | b :: l => match b with
    | true => andB l
    | false => false
/-- Is anything told of the operation that fills a slot, ahead of the next branch? -/
def hasHint {E : Env} : List (Hint E) → Nat → Bool
  | .s j _ _ _ :: r, i => match Nat.beq j i with
    | true => true
    | false => hasHint r i
  | .c _ :: r, i => hasHint r i
  | .k _ _ :: r, i => hasHint r i
  | _, _ => false
/-- What is told of it; the rest. -/
def takeHint {E : Env} : List (Hint E) → Nat → Option Bool × Bool × Bool × List (Hint E)
  | .s j d fx fy :: r, i => match Nat.beq j i with
    | true => (d, fx, fy, r)
    | false => match takeHint r i with
      | (d', a, b, r') => (d', a, b, .s j d fx fy :: r')
  | .c T :: r, i => match takeHint r i with
    | (d', a, b, r') => (d', a, b, .c T :: r')
  | .k t T :: r, i => match takeHint r i with
    | (d', a, b, r') => (d', a, b, .k t T :: r')
  | h, _ => (none, true, true, h)
def firstHint {E : Env} (h : List (Hint E)) (t : Option Nat) : Option Bool × Bool × Bool × List (Hint E) := match t with
  | some i => match hasHint h i with
    | true => takeHint h i
    | false => (none, true, true, h)
  | none => (none, true, true, h)
def keyIs (t : Nat) : Option Nat → Bool
  | some i => Nat.beq t i
  | none => false
/-- The contract for the call that fills a slot; the rest. -/
def keyed {E : Env} (dst : Option Nat) : List (Hint E) → Option (TriI E × List (Hint E))
  | .k t T :: r => match keyIs t dst with
    | true => some (T, r)
    | false => match keyed dst r with
      | some (T', r') => some (T', .k t T :: r')
      | none => none
  | .c T :: r => match keyed dst r with
    | some (T', r') => some (T', .c T :: r')
    | none => none
  | .s j d fx fy :: r => match keyed dst r with
    | some (T', r') => some (T', .s j d fx fy :: r')
    | none => none
  | _ => none
/-- The contract that comes next; the rest. -/
def nextCall {E : Env} : List (Hint E) → Option (TriI E × List (Hint E))
  | .c T :: r => some (T, r)
  | .k t T :: r => match nextCall r with
    | some (T', r') => some (T', .k t T :: r')
    | none => none
  | .s j d fx fy :: r => match nextCall r with
    | some (T, r') => some (T, .s j d fx fy :: r')
    | none => none
  | _ => none
def firstCall {E : Env} (h : List (Hint E)) (dst : Option Nat) : Option (TriI E × List (Hint E)) := match keyed dst h with
  | some x => some x
  | none => nextCall h

abbrev SR (E : Env) := Option (List (Cfg × List (Hint E) × List Prop))
/-- One operation in its place, quiet or loud; no call. -/
def evOp (E : Env) (o : Oper) (fx fy : Bool) (tm : Tm) (H : Hp) : LR := match evQ E o.op tm H with
  | some (v, cs) => some (v, H, cs)
  | none => evL E o.op fx fy tm H
/-- One operation in its place; a call by the contract that is told. -/
def evAny {E : Env} (h : List (Hint E)) (o : Oper) (tm : Tm) (H : Hp) : Option (AV × Hp × List Prop × List (Hint E)) := match isCall o.op with
  | true => match firstCall h o.dst with
    | some (T, h) => match evCall T o.op tm H with
      | some (v, H, cs) => some (v, H, cs, h)
      | none => none
    | none => none
  | false => match firstHint h o.dst with
    | (d, fx, fy, h) => match evOp E o fx fy tm H with
      | none => none
      | some (v, H, cs) => match decide1 d v with
        | none => none
        | some (v, cs') => some (v, H, app2 cs cs', h)
def stSeq (E : Env) (nt : Nat) (h : List (Hint E)) (c : Cfg) (ops : Array Oper) (i : Nat) (rest : List Nat) : SR E := match nthG? ops i with
  | none => none
  | some o => match evG ops c.tm o with
    | none => none
    | some false => match putT nt c.tm o.dst .undef with
      | some tm => some [({ c with hd := .seq ops rest, tm := tm }, h, [])]
      | none => none
    | some true => match evAny h o c.tm c.H with
      | none => none
      | some (v, H, cs, h) => match putT nt c.tm o.dst v with
        | none => none
        | some tm => some [({ c with hd := .seq ops rest, tm := tm, H := H }, h, cs)]
def allIn (L : List Nat) : Nat → Bool
  | 0 => true
  | n + 1 => match memN L n with
    | true => allIn L n
    | false => false
def quietB : Builtin → Bool
  | .len | .min | .max => true
  | _ => false
def quietOp : Op → Bool
  | .move _ | .assign _ | .pick _ _ _ | .load _ _ | .nilCheck _ | .binOp _ _ _ _ _ | .unOp _ _ _ | .convert _ _ _ | .slice _ _ _ _ _ | .fieldAddr _ _ _ | .field _ _ _
  | .indexAddr _ _ _ | .index _ _ _ | .makeInterface _ _ | .makeFunc _ _ _ | .extract _ _ | .build _ _ | .typeAssert _ _ _ _ => true
  | .call ⟨.builtin b, _, _⟩ => quietB b
  | _ => false
/-- The first quiet one that is ready. -/
def pickO (L : List Nat) (i : Nat) : List Oper → Option Nat
  | [] => none
  | o :: os => match quietOp o.op with
    | false => pickO L (Nat.succ i) os
    | true => match readyO L i o with
      | true => some i
      | false => pickO L (Nat.succ i) os
/-- All that are ready. -/
def readyAll (L : List Nat) (i : Nat) : List Oper → List Nat
  | [] => []
  | o :: os => match readyO L i o with
    | true => i :: readyAll L (Nat.succ i) os
    | false => readyAll L (Nat.succ i) os
/-- A call by a contract that speaks of no object. -/
def evPure {E : Env} (T : TriI E) (o : Op) (tm : Tm) : Option (AV × List Prop) := match T.os, T.os' with
  | [], [] => match calledA T tm o with
    | some (vs, c0) => match uL 0 [] T.args vs with
      | some ([], cs) => some (T.v.ren (rn []), app2 c0 (app2 cs []))
      | _ => none
    | none => none
  | _, _ => none
/-- The first call of that kind that is ready, by a contract told for its slot. -/
def pickC {E : Env} (h : List (Hint E)) (tm : Tm) (ops : Array Oper) (L : List Nat) (i : Nat) : List Oper → Option (Nat × AV × List Prop × List (Hint E))
  | [] => none
  | o :: os => match isCall o.op with
    | false => pickC h tm ops L (Nat.succ i) os
    | true => match readyO L i o with
      | false => pickC h tm ops L (Nat.succ i) os
      | true => match evG ops tm o, keyed o.dst h with
        | some true, some (T, h') => match evPure T o.op tm with
          | some (v, cs) => some (i, v, cs, h')
          | none => pickC h tm ops L (Nat.succ i) os
        | _, _ => pickC h tm ops L (Nat.succ i) os
/-- One that is ready is done now. -/
def stOne (E : Env) (nt : Nat) (h : List (Hint E)) (c : Cfg) (ops : Array Oper) (L : List Nat) (j : Nat) : Option (Cfg × List (Hint E) × List Prop) := match nthG? ops j with
  | none => none
  | some o => match evG ops c.tm o with
    | none => none
    | some false => match cloD ops (Nat.succ j) [j] with
      | done => match andB [(match o.dst with | some t => apartL ops t done L | none => true), freeOf ops (looks ops o) done L] with
        | false => none
        | true => match putT nt c.tm o.dst .undef with
          | none => none
          | some tm => some ({ c with hd := .any ops (j :: L), tm := tm }, h, [])
    | some true => match cloD ops (Nat.succ j) [j] with
      | done => match andB [(match o.dst with | some t => apartL ops t done L | none => true), freeOf ops (looks ops o) done L] with
        | false => none
        | true => match evAny h o c.tm c.H with
          | none => none
          | some (v, H, cs, h) => match putT nt c.tm o.dst v with
            | none => none
            | some tm => some ({ c with hd := .any ops (j :: L), tm := tm, H := H }, h, app2 cs (stillL E ops c.tm c.H H done L))
/-- Whichever is ready is done: all ways. -/
def stEach (E : Env) (nt : Nat) (h : List (Hint E)) (c : Cfg) (ops : Array Oper) (L : List Nat) : List Nat → SR E
  | [] => some []
  | j :: l => match stOne E nt h c ops L j with
    | none => none
    | some x => match stEach E nt h c ops L l with
      | none => none
      | some xs => some (x :: xs)
def stFork (E : Env) (nt : Nat) (h : List (Hint E)) (c : Cfg) (ops : Array Oper) (L : List Nat) : SR E := match readyAll L 0 ops.toList with
  | [] => none
  | l => stEach E nt h c ops L l
def stAny (E : Env) (nt : Nat) (h : List (Hint E)) (c : Cfg) (ops : Array Oper) (L : List Nat) : SR E := match allIn L (len ops.toList) with
  | true => some [({ c with hd := .none }, h, [])]
  | false => match pickO L 0 ops.toList with
    | none => match pickC h c.tm ops L 0 ops.toList with
      | none => stFork E nt h c ops L
      | some (i, _, _, _) => match nthG? ops i with
        | none => none
        | some o => match readyO L i o with
          | false => none
          | true => match evG ops c.tm o, keyed o.dst h, o.dst with
            | some true, some (T, h'), some t => match evPure T o.op c.tm with
              | some (v, cs) => match andB [apartL ops t [] L, freeOf ops (looks ops o) (predsL o.after.toList) L, (match memN (looks ops o) t with | true => false | false => true), Nat.ble (Nat.succ t) nt] with
                | true => some [({ c with hd := .any ops (i :: L), tm := (t, v) :: c.tm }, h', cs)]
                | false => stFork E nt h c ops L
              | none => stFork E nt h c ops L
            | _, _, _ => stFork E nt h c ops L
    | some i => match nthG? ops i with
      | none => none
      | some o => match readyO L i o with
        | false => none
        | true => match evG ops c.tm o with
          | none => none
          | some false => match o.dst with
            | none => none
            | some t => match andB [apartL ops t [] L, freeOf ops (looks ops o) (predsL o.after.toList) L, (match memN (looks ops o) t with | true => false | false => true), Nat.ble (Nat.succ t) nt] with
              | true => some [({ c with hd := .any ops (i :: L), tm := (t, .undef) :: c.tm }, h, [])]
              | false => stFork E nt h c ops L
          | some true => match evQ E o.op c.tm c.H, o.dst with
            | some (v, cs), some t => match andB [apartL ops t [] L, freeOf ops (looks ops o) (predsL o.after.toList) L, (match memN (looks ops o) t with | true => false | false => true), Nat.ble (Nat.succ t) nt] with
              | true => match firstHint h o.dst with
                | (d, _, _, h) => match decide1 d v with
                  | none => none
                  | some (v, cs') => some [({ c with hd := .any ops (i :: L), tm := (t, v) :: c.tm }, h, app2 cs cs')]
              | false => stFork E nt h c ops L
            | _, _ => stFork E nt h c ops L
def stCode (E : Env) (h : List (Hint E)) (cfg : Cfg) (k : List Item) : Code → SR E
  | .skip | .label _ => some [({ cfg with todo := k }, h, [])]
  | .seq a b => some [({ cfg with todo := .code a :: .code b :: k }, h, [])]
  | .cond x t e => match opv E cfg.tm x with
    | .bl true => some [({ cfg with todo := .code t :: k }, h, [])]
    | .bl false => some [({ cfg with todo := .code e :: k }, h, [])]
    | .bool b => match h with
      | .b true :: h => some [({ cfg with todo := .code t :: k }, h, [b = true])]
      | .b false :: h => some [({ cfg with todo := .code e :: k }, h, [b = false])]
      | _ => none
    | _ => none
  | .block id c => some [({ cfg with todo := .code c :: .inBlock id :: k }, h, [])]
  | .loop c => match h with
    | .l :: h => some [({ cfg with todo := .code c :: .inLoop c :: k }, h, [])]
    | _ => none
  | .exit id => match exitE id k with
    | some k' => some [({ cfg with todo := k' }, h, [])]
    | none => none
  | .region _ ops false => some [({ cfg with hd := .seq ops (rangeN (len ops.toList) []), todo := k }, h, [])]
  | .region _ ops true => match andB [edgesDown 0 ops.toList, noSel ops.toList] with
    | true => some [({ cfg with hd := .any ops [], todo := k }, h, [])]
    | false => none
  | _ => none
def st (E : Env) (nt : Nat) (h : List (Hint E)) (cfg : Cfg) : SR E := match cfg.hd with
  | .none => match cfg.todo with
    | .code c :: k => stCode E h cfg k c
    | .inBlock _ :: k => some [({ cfg with todo := k }, h, [])]
    | .inLoop c :: k => match h with
      | .l :: h => some [({ cfg with todo := .code c :: .inLoop c :: k }, h, [])]
      | _ => none
    | _ => none
  | .seq _ [] => some [({ cfg with hd := .none }, h, [])]
  | .seq ops (i :: rest) => stSeq E nt h cfg ops i rest
  | .any ops L => stAny E nt h cfg ops L
abbrev Wk (E : Env) := List (List (Hint E) × Cfg × List Prop)
def pushAll {E : Env} (cs : List Prop) (w : Wk E) : List (Cfg × List (Hint E) × List Prop) → Wk E
  | [] => w
  | (c, h, ds) :: l => (h, c, app2 ds cs) :: pushAll cs w l
def atRegion (i : Nat) (c : Cfg) : Bool := match c.hd with
  | .none => match c.todo with
    | .code (.region j _ _) :: _ => Nat.beq j i
    | _ => false
  | _ => false
def atStop {E : Env} (c : Cfg) : List (Hint E) → Bool
  | .stop :: _ => true
  | .upto i :: _ => atRegion i c
  | _ => false
def ends {E : Env} : Wk E → List (Cfg × List Prop)
  | [] => []
  | (_, c, cs) :: w => (c, cs) :: ends w
/-- So many steps, or until it stops, on all ways: at a call, at a loop's head, at the end. -/
def evW (E : Env) (nt : Nat) : Nat → Wk E → List (Cfg × List Prop)
  | 0, w => ends w
  | _ + 1, [] => []
  | n + 1, (h, c, cs) :: w => match atStop c h with
    | true => (c, cs) :: evW E nt n w
    | false => match st E nt h c with
      | none => (c, cs) :: evW E nt n w
      | some [] => (c, cs) :: evW E nt n w
      | some (o :: outs) => evW E nt n (pushAll cs w (o :: outs))
def ev (E : Env) (nt n : Nat) (h : List (Hint E)) (c : Cfg) : List (Cfg × List Prop) := evW E nt n [(h, c, [])]

end Go.Proofs.YtnheodgffackoaaDoor.E
