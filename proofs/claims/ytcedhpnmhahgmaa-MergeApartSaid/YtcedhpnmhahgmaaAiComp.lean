/- Part of a proof for one law: an interpreter over what is known of values, and that it is right. -/
import Derived.Test.YtcedhpnmhahgmaaAiCore
namespace Go.AI
/-! ## From the program's code to ours -/
variable (P : Program)
def flat : Value → Option AVal
  | .bool b => some (.bool b)
  | .int k n => some (.int k n)
  | .string s => some (.str s)
  | .pointer none => some .pnil
  | .slice none 0 0 => some .snil
  | .map none => some .mnil
  | .nilFunc => some .fnil
  | _ => none
def mapO {α β : Type} (f : α → Option β) : List α → Option (List β)
  | [] => some []
  | x :: l => match f x with
    | none => none
    | some y => match mapO f l with
      | none => none
      | some ys => some (y :: ys)
def ofValue : Value → Option AVal
  | .agg cs => (mapO flat cs.toList).map .agg
  | .tuple vs => (mapO flat vs.toList).map .tuple
  | .func (.func f) first captured => if first.toList.isEmpty && captured.toList.isEmpty then some (.fn (.ofNat f) [] []) else none
  | v => flat v
def cOpd : Operand → Option AOpd
  | .tmp t => some (.t (.ofNat t))
  | .const v => (ofValue v).map .c
  | .global _ => none
  | .func f => some (.c (.fn (.ofNat f) [] []))
def cOpds (l : List Operand) : Option (List AOpd) := mapO cOpd l
def cOptO : Option Operand → Option (Option AOpd)
  | none => some none
  | some x => (cOpd x).map some
def isAggT (t : TypeId) : Option Bool :=
  match P.underlying t with
  | some (.struct _) | some (.array _ _) => some true
  | some _ => some false
  | none => none
def sizeT (t : TypeId) : Option Nat := (P.info? t).map (·.size)
def zeroT (t : TypeId) : Option AVal := ((P.info? t).bind (·.zero)).bind ofValue
def zeroCT (t : TypeId) : Option (List AVal) := (zeroT P t).bind AVal.cellsC
def cellT (t : TypeId) : Option CT :=
  match P.underlying t with
  | some .bool => some .b
  | some (.int _) => some .i
  | some (.pointer _) => some .p
  | some (.slice _) => some .s
  | some (.map _ _) => some .m
  | some (.func _ _ _) => some .f
  | _ => none
/-- the cells by which two values of a type are held against each other -/
def fLeaves (rec : TypeId → Nat → Option (List (Nat × CT))) (off n : Nat) (f : Field) : Option (List (Nat × CT)) :=
  match sizeT P f.type with
  | none => none
  | some m => if f.name = "_" ∨ m = 0 ∨ f.offset + m > n then none else rec f.type (off + f.offset)
def leavesF : Nat → TypeId → Nat → Option (List (Nat × CT))
  | 0, _, _ => none
  | d + 1, t, off =>
    match P.underlying t with
    | some (.struct fields) => if P.stoodInHeld t then none else
      match sizeT P t with
      | none => none
      | some n => match mapO (fLeaves P (leavesF d) off n) fields.toList with
        | none => none
        | some ls => some ls.flatten
    | _ => match cellT P t with
      | none => none
      | some c => some [(off, c)]
def leavesT (t : TypeId) : Option ET :=
  match isAggT P t with
  | some true => (leavesF P 12 t 0).map .agg
  | some false => (cellT P t).map .cell
  | none => none
def keyCT : CT → Bool
  | .b | .i => true
  | _ => false
def keyT (t : TypeId) : Option KT :=
  match isAggT P t, sizeT P t with
  | some true, some n => match leavesF P 12 t 0 with
    | some l => if l.map (·.1) = List.range n ∧ l.all (fun x => keyCT x.2) ∧ n ≠ 0 then some (.agg (l.map (·.2))) else none
    | none => none
  | some false, _ => match cellT P t with
    | some c => if keyCT c then some (.cell c) else none
    | none => none
  | _, _ => none
def cParts (place : Nat → Option (Nat × Nat)) : List (Nat × Operand) → Option (List (Nat × Nat × AOpd))
  | [] => some []
  | (i, x) :: l => match place i with
    | none => none
    | some (off, size) => match cOpd x with
      | none => none
      | some x => (cParts place l).map (⟨off, size, x⟩ :: ·)
def placesT : List Field → Option (List (Nat × Nat))
  | [] => some []
  | f :: fs => match sizeT P f.type with
    | none => none
    | some n => (placesT fs).map ((f.offset, n) :: ·)
def fieldT (s : TypeId) (f : Nat) : Option Field :=
  match P.underlying s with
  | some (.struct fields) => fields[f]?
  | _ => none
def cGuard (ops : Array Oper) (o : Oper) : Option (Option (Pos × Bool)) :=
  match o.guard with
  | none => some none
  | some (j, want) => match (ops[j]?).bind (·.dst) with
    | none => none
    | some t => some (some (.ofNat t, want))
inductive AOp where
  | p (o : POp)
  | r (o : ROp)
  | h (o : HOp)
  | c (f : AOpd) (args : List AOpd)
def cEq (neg : Bool) (t : TypeId) (x y : Operand) : Option AOp :=
  if P.eqGuardType P.depth t || (sizeT P t == some 0) then none else
  match leavesT P t, cOpd x, cOpd y with
  | some l, some x, some y => some (.p (.eq neg l x y))
  | _, _, _ => none
def cBuiltin (b : Builtin) (args : List AOpd) (t0 t1 : Option TypeDesc) : Option AOp :=
  match b, args, t0 with
  | .len, [x], some (.slice _) => some (.p (.lenS x))
  | .len, [_], some (.array n _) => some (.p (.lenC n))
  | .len, [x], some (.map _ _) => some (.r (.lenM x))
  | .cap, [x], some (.slice _) => some (.p (.capS x))
  | .max, x :: xs, _ => some (.p (.mx true x xs))
  | .min, x :: xs, _ => some (.p (.mx false x xs))
  | .append, [s, x], some (.slice elem) => match t1 with
    | some (.slice _) => match sizeT P elem, zeroT P elem with
      | some n, some z => if (z.cellsC.map lenL) = some n ∧ n ≠ 0 then some (.h (.append n (P.bytesOf elem) elem s x)) else none
      | _, _ => none
    | _ => none
  | .copy, [d, s], some (.slice elem) => match t1 with
    | some (.slice _) => (sizeT P elem).map fun n => .h (.copy n d s)
    | _ => none
  | .clear, [x], some (.slice elem) => match sizeT P elem, zeroCT P elem with
    | some n, some z => if lenL z = n then some (.h (.clear z x)) else none
    | _, _ => none
  | .delete, [m, k], some (.map kt _) => (keyT P kt).map fun l => .h (.delete m k l)
  | _, _, _ => none
def cOp (op : Op) : Option AOp :=
  match op with
  | .move x | .assign x => (cOpd x).map fun x => .p (.mov x)
  | .pick c a b => match cOpd c, cOpd a, cOpd b with
    | some c, some a, some b => some (.p (.pick c a b))
    | _, _, _ => none
  | .alloc t => (zeroCT P t).map fun z => .p (.new z t)
  | .box t x => (cOpd x).map fun x => .p (.box x t)
  | .build t parts => match zeroCT P t with
    | none => none
    | some z => match P.underlying t with
      | some (.struct fields) => match placesT P fields.toList with
        | none => none
        | some pl => (cParts (fun i => pl[i]?) parts.toList).map fun ps => .p (.build z ps)
      | some (.array _ elem) => match sizeT P elem with
        | none => none
        | some n => (cParts (fun i => some (i * n, n)) parts.toList).map fun ps => .p (.build z ps)
      | _ => none
  | .buildSlice t len parts => match P.underlying t with
    | some (.slice elem) => match sizeT P elem, zeroCT P elem with
      | some n, some z => if len * n > 16777216 ∨ lenL z ≠ n ∨ n = 0 then none else
        (cParts (fun i => some (i * n, n)) parts.toList).map fun ps => .p (.bslice (rep z len) len ps elem)
      | _, _ => none
    | _ => none
  | .load t a => match isAggT P t, sizeT P t, cOpd a with
    | some true, some n, some a => some (.r (.loadA a n))
    | some false, _, some a => some (.r (.loadC a))
    | _, _, _ => none
  | .store t a x => match sizeT P t, cOpd a, cOpd x with
    | some n, some a, some x => some (.h (.store a x n))
    | _, _, _ => none
  | .nilCheck x => (cOpd x).map fun x => .p (.nilck x)
  | .binOp op t x y _ => match op with
    | .eql => cEq P false t x y
    | .neq => cEq P true t x y
    | op => match cOpd x, cOpd y with
      | some x, some y => some (.p (.bin op x y))
      | _, _ => none
  | .unOp op _ x => (cOpd x).map fun x => .p (.un op x)
  | .convert src dst x => match P.underlying src, P.underlying dst, cOpd x with
    | some (.int _), some (.int k), some x => some (.p (.conv k x))
    | _, _, _ => none
  | .makeFunc fn first captured => match fn, cOpds first.toList, cOpds captured.toList with
    | .func f, some a, some c => some (.p (.mkfn (.ofNat f) a c))
    | _, _, _ => none
  | .makeMap _ none => some (.p .mkmap)
  | .makeSlice t l c => match P.underlying t with
    | some (.slice elem) => match sizeT P elem, zeroCT P elem, cOpd l, cOpd c with
      | some n, some z, some l, some c => if lenL z ≠ n ∨ n = 0 then none else some (.p (.mkslice z (P.bytesOf elem) elem l c))
      | _, _, _, _ => none
    | _ => none
  | .slice t x lo hi mx => match P.underlying t with
    | some (.slice elem) => match sizeT P elem, cOpd x, cOptO lo, cOptO hi, cOptO mx with
      | some n, some x, some lo, some hi, some mx => if mx.isSome && hi.isNone then none else some (.p (.slc n x lo hi mx))
      | _, _, _, _, _ => none
    | _ => none
  | .fieldAddr s x f => match fieldT P s f, cOpd x with
    | some fd, some x => match sizeT P fd.type with
      | some (_ + 1) => some (.p (.faddr x fd.offset))
      | _ => none
    | _, _ => none
  | .field t x f => match fieldT P t f, cOpd x with
    | some fd, some x => match isAggT P fd.type, sizeT P fd.type with
      | some true, some n => some (.p (.fld x fd.offset (some n)))
      | some false, _ => some (.p (.fld x fd.offset none))
      | _, _ => none
    | _, _ => none
  | .indexAddr t x ix => match P.underlying t, cOpd x, cOpd ix with
    | some (.slice elem), some x, some ix => (sizeT P elem).map fun n => .p (.iaddr n x ix)
    | some (.array len elem), some x, some ix => (sizeT P elem).map fun n => .p (.iaddrA len n x ix)
    | _, _, _ => none
  | .index t x ix => match P.underlying t, cOpd x, cOpd ix with
    | some (.array len elem), some x, some ix => match sizeT P elem, isAggT P elem with
      | some n, some b => some (.p (.idxA len n b x ix))
      | _, _ => none
    | some .string, some x, some ix => some (.p (.idxS x ix))
    | _, _, _ => none
  | .lookup t m k ok => match P.underlying t, cOpd m, cOpd k with
    | some (.map kt et), some m, some k => match keyT P kt, zeroT P et with
      | some l, some z => some (.r (.look m k l z ok))
      | _, _ => none
    | _, _, _ => none
  | .mapUpdate t m k x | .insert t m k x => match P.underlying t, cOpd m, cOpd k, cOpd x with
    | some (.map kt _), some m, some k, some x => (keyT P kt).map fun l => .h (.mset m k x l)
    | _, _, _, _ => none
  | .mapEntry t m k => match P.underlying t, cOpd m, cOpd k with
    | some (.map kt et), some m, some k => match keyT P kt, zeroT P et with
      | some l, some z => some (.h (.ment m k l z))
      | _, _ => none
    | _, _, _ => none
  | .entryStore _ m s x => match cOpd m, cOpd s, cOpd x with
    | some m, some s, some x => some (.h (.mstore m s x))
    | _, _, _ => none
  | .extract t ix => (cOpd t).map fun t => .p (.extr t ix)
  | .call { callee, args, argTypes } => match cOpds args.toList with
    | none => none
    | some as => match callee with
      | .builtin b => cBuiltin P b as ((argTypes[0]?).bind (P.underlying ·)) ((argTypes[1]?).bind (P.underlying ·))
      | .value f => (cOpd f).map fun f => .c f as
      | .invoke _ _ => none
  | _ => none
def dstOk (N : Nat) : Option Nat → Bool
  | none => true
  | some d => Nat.blt d N
def cIns (N : Nat) (ops : Array Oper) (o : Oper) : Option AIns :=
  let d := o.dst.map Pos.ofNat
  if !dstOk N o.dst then none else
  match cGuard ops o with
  | none => none
  | some g => match cOp P o.op with
    | none => some (.pure d g .bad)
    | some (.p op) => some (.pure d g op)
    | some (.r op) => some (.read d g op)
    | some (.h op) => some (.write d g op)
    | some (.c f as) => some (.call d g f as)
def AIns.heavy : AIns → Bool
  | .write .. | .call .. => true
  | _ => false
def pairAll (b : Array Nat) : List Nat → Bool
  | [] => true
  | i :: r => r.all (fun j => (b.getD j 0).testBit i) && pairAll b r
/-- how many heavies must lie ahead of an operation; how many may -/
def lowOf (b : Array Nat) (hs : List Nat) (i : Nat) : Nat := (hs.filter fun j => (b.getD i 0).testBit j).length
def highOf (b : Array Nat) (hs : List Nat) (i : Nat) : Nat := (hs.filter fun j => !(b.getD j 0).testBit i).length
def lightsI (b : Array Nat) (hs : List Nat) (ins : List (AIns × Nat)) (j : Nat) : List (AIns × Nat) :=
  ins.filter fun x => !x.1.heavy && lowOf b hs x.2 == j
def lightsAt (b : Array Nat) (hs : List Nat) (ins : List (AIns × Nat)) (j : Nat) : List (AIns × Nat) :=
  (lightsI b hs ins j).map fun x => (x.1, highOf b hs x.2)
def cPhases (b : Array Nat) (hs : List Nat) (ins : List (AIns × Nat)) : Nat → List (AIns × Nat) → List Phase
  | j, [] => [⟨lightsAt b hs ins j, none⟩]
  | j, x :: rest => ⟨lightsAt b hs ins j, some x.1⟩ :: cPhases b hs ins (j + 1) rest
/-- the order in which the operations are looked at -/
def cOrd (b : Array Nat) (hs : List Nat) (ins : List (AIns × Nat)) : Nat → List (AIns × Nat) → List (AIns × Nat)
  | j, [] => lightsI b hs ins j
  | j, x :: rest => lightsI b hs ins j ++ x :: cOrd b hs ins (j + 1) rest
def memN (n : Nat) : List Nat → Bool
  | [] => false
  | m :: l => Nat.beq n m || memN n l
def nodupN : List Nat → Bool
  | [] => true
  | m :: l => !memN m l && nodupN l
/-- what an operation looks at, what it writes -/
def opdT : AOpd → List Pos
  | .t p => [p]
  | .c _ => []
def readsP : POp → List Pos
  | .mov x | .box x _ | .nilck x | .un _ x | .conv _ x | .faddr x _ | .fld x _ _ | .extr x _ | .lenS x | .capS x => opdT x
  | .pick c a b => opdT c ++ opdT a ++ opdT b
  | .build _ ps | .bslice _ _ ps _ => ps.flatMap fun x => opdT x.2.2
  | .bin _ x y | .eq _ _ x y | .iaddr _ x y | .iaddrA _ _ x y | .idxA _ _ _ x y | .idxS x y | .mkslice _ _ _ x y => opdT x ++ opdT y
  | .mkfn _ a c => (a ++ c).flatMap opdT
  | .slc _ x lo hi mx => opdT x ++ (lo.toList ++ hi.toList ++ mx.toList).flatMap opdT
  | .mx _ x xs => opdT x ++ xs.flatMap opdT
  | .new .. | .mkmap | .lenC _ | .bad => []
def readsR : ROp → List Pos
  | .loadC a | .loadA a _ | .lenM a => opdT a
  | .look m k _ _ _ => opdT m ++ opdT k
def readsH : HOp → List Pos
  | .store a x _ | .append _ _ _ a x | .copy _ a x | .ment a x _ _ | .delete a x _ => opdT a ++ opdT x
  | .mset m k x _ | .mstore m k x => opdT m ++ opdT k ++ opdT x
  | .clear _ x => opdT x
def gT : Option (Pos × Bool) → List Pos
  | none => []
  | some (p, _) => [p]
def AIns.reads : AIns → List Pos
  | .pure _ g op => gT g ++ readsP op
  | .read _ g op => gT g ++ readsR op
  | .write _ g op => gT g ++ readsH op
  | .call _ g f as => gT g ++ (opdT f ++ as.flatMap opdT)
def AIns.dst : AIns → Option Pos
  | .pure d _ _ | .read d _ _ | .write d _ _ | .call d _ _ _ => d
def memP (p : Pos) : List Pos → Bool
  | [] => false
  | q :: r => Pos.beq p q || memP p r
/-- do two operations leave each other's temporaries alone? -/
def apartI (x y : AIns) : Bool :=
  (match x.dst with
   | none => true
   | some d => !memP d y.reads && (match y.dst with | none => true | some e => !Pos.beq d e)) &&
  (match y.dst with
   | none => true
   | some e => !memP e x.reads)
def maskOf (b : Array Nat) (after : Array Edge) : Nat :=
  after.toList.foldl (fun s e => if Region.binds .any e then s ||| 2 ^ e.on ||| b.getD e.on 0 else s) 0
def edgesOk (b : Array Nat) : List (Oper × Nat) → Bool
  | [] => true
  | (o, i) :: r => Nat.beq (b.getD i 0) (maskOf b o.after) && (o.after.toList.all fun e => !Region.binds .any e || Nat.blt e.on i) && edgesOk b r
def apartAll (b : Array Nat) : List (AIns × Nat) → Bool
  | [] => true
  | (x, i) :: r => (r.all fun y => (b.getD y.2 0).testBit i || apartI x y.1) && apartAll b r
def drawOk (ops : Array Oper) (b : Array Nat) (hs : List Nat) (ord : List (AIns × Nat)) : Bool :=
  pairAll b hs && edgesOk b ops.toList.zipIdx && apartAll b ord && nodupN (ord.map (·.2)) && (List.range ops.size).all fun i => memN i (ord.map (·.2))
def cDraw (N : Nat) (ops : Array Oper) : Option ACode :=
  match mapO (cIns P N ops) ops.toList with
  | none => none
  | some l =>
    let ins := l.zipIdx
    let b := Region.before ops
    let hv := ins.filter fun x => x.1.heavy
    let hs := hv.map (·.2)
    if drawOk ops b hs (cOrd b hs ins 0 hv) then some (.draw (cPhases b hs ins 0 hv)) else none
def cCode (N : Nat) : Code → Option ACode
  | .skip | .label _ => some .skip
  | .exit id => some (.exit id)
  | .ret => some .ret
  | .seq a b => match cCode N a, cCode N b with
    | some a, some b => some (.seq a b)
    | _, _ => none
  | .cond c a b => match cOpd c, cCode N a, cCode N b with
    | some c, some a, some b => some (.cond c a b)
    | _, _, _ => none
  | .block id a => (cCode N a).map (.block id)
  | .loop a => (cCode N a).map .loop
  | .scope a => cCode N a
  | .region _ ops false => (mapO (cIns P N ops) ops.toList).map .reg
  | .region _ ops true => cDraw P N ops
  | .rangeFunc f params assign body => match params.toList.all (fun p => Nat.blt p N), cOpd f, cCode N assign, cCode N body with
    | true, some f, some a, some b => some (.range f (params.toList.map Pos.ofNat) a b)
    | _, _, _, _ => none
  | .goto _ | .refuse _ => none
def cRes : List ResultVar → Option (List ARes)
  | [] => some []
  | .tmp t :: r => (cRes r).map (.tmp (.ofNat t) :: ·)
  | .cell a t :: r => match isAggT P t, sizeT P t with
    | some true, some n => (cRes r).map (.agg (.ofNat a) n :: ·)
    | some false, _ => (cRes r).map (.cell (.ofNat a) :: ·)
    | _, _ => none
def cFunc (f : FuncId) : Option AFunc :=
  match P.funcs[f]? with
  | none => none
  | some fn => if fn.name = "runtime.NumGoroutine" then none else match fn.body with
    | none => none
    | some c => match cCode P fn.ntmps c, cRes P fn.results.toList with
      | some c, some rs => some (.code c rs)
      | _, _ => none
end Go.AI
