/- Part of a proof for one law: an interpreter over what is known of values, and that it is right. -/
import Derived.Calls
namespace Go.AI

/-! ## Places and trees -/
inductive Pos where
  | h
  | o (p : Pos)
  | i (p : Pos)
  deriving DecidableEq
namespace Pos
def toNat : Pos → Nat
  | .h => 0
  | .o p => 2 * p.toNat + 1
  | .i p => 2 * p.toNat + 2
def succ : Pos → Pos
  | .h => .o .h
  | .o p => .i p
  | .i p => .o p.succ
def ofNatF : Nat → Nat → Pos
  | 0, _ => .h
  | _ + 1, 0 => .h
  | k + 1, n + 1 => if n % 2 = 0 then .o (ofNatF k (n / 2)) else .i (ofNatF k (n / 2))
def ofNat (n : Nat) : Pos := ofNatF n n
def beq : Pos → Pos → Bool
  | .h, .h => true
  | .o p, .o q => beq p q
  | .i p, .i q => beq p q
  | _, _ => false
end Pos
inductive PT (α : Type) where
  | lf
  | nd (l : PT α) (v : Option α) (r : PT α)
namespace PT
variable {α : Type}
def get : Pos → PT α → Option α
  | _, .lf => none
  | .h, .nd _ v _ => v
  | .o p, .nd l _ _ => get p l
  | .i p, .nd _ _ r => get p r
def sing : Pos → α → PT α
  | .h, x => .nd .lf (some x) .lf
  | .o p, x => .nd (sing p x) none .lf
  | .i p, x => .nd .lf none (sing p x)
def set : Pos → α → PT α → PT α
  | p, x, .lf => sing p x
  | .h, x, .nd l _ r => .nd l (some x) r
  | .o p, x, .nd l v r => .nd (set p x l) v r
  | .i p, x, .nd l v r => .nd l v (set p x r)
end PT

/-! ## Values -/
inductive AVal where
  | bool (b : Bool)
  | int (k : IntKind) (n : Int)
  | str (s : ByteArray)
  | pnil
  | ptr (b : Pos) (o : Nat)
  | snil
  /-- es = 0: the capacity is cap; else it is at least cap, and goes to the end of the block, in elements of es cells -/
  | slice (b : Pos) (o len cap : Nat) (es : Nat)
  | mnil
  | map (r : Pos)
  | fn (f : Pos) (first captured : List AVal)
  | yield (l : Pos)
  | fnil
  | agg (cs : List AVal)
  | tuple (vs : List AVal)
  | sym (i : Nat)
  deriving Inhabited
def AVal.undef : AVal := .tuple []
/-- the cells of a value that may lie in memory -/
def AVal.cellsC : AVal → Option (List AVal)
  | .agg cs => some cs
  | .tuple _ => none
  | v => some [v]

inductive AOpd where
  | t (p : Pos)
  | c (v : AVal)

/-! ## Code -/
/-- what kind of cell -/
inductive CT where
  | b | i | p | s | m | f
/-- how two values of a type are held against each other: one cell; which cells -/
inductive ET where
  | cell (c : CT)
  | agg (l : List (Nat × CT))
/-- likewise, keys of maps: each cell -/
inductive KT where
  | cell (c : CT)
  | agg (l : List CT)
inductive POp where
  | mov (x : AOpd)
  | pick (c a b : AOpd)
  | new (z : List AVal) (t : TypeId)
  | box (x : AOpd) (t : TypeId)
  | build (z : List AVal) (parts : List (Nat × Nat × AOpd))
  | bslice (z : List AVal) (len : Nat) (parts : List (Nat × Nat × AOpd)) (t : TypeId)
  | nilck (x : AOpd)
  | bin (op : BinOp) (x y : AOpd)
  | eq (neg : Bool) (t : ET) (x y : AOpd)
  | un (op : UnOp) (x : AOpd)
  | conv (k : IntKind) (x : AOpd)
  | mkfn (f : Pos) (first captured : List AOpd)
  | mkmap
  | mkslice (z : List AVal) (bytes : Nat) (t : TypeId) (l c : AOpd)
  | slc (size : Nat) (x : AOpd) (lo hi mx : Option AOpd)
  | faddr (x : AOpd) (off : Nat)
  | fld (x : AOpd) (off : Nat) (agg : Option Nat)
  | iaddr (size : Nat) (x i : AOpd)
  | iaddrA (len size : Nat) (x i : AOpd)
  | idxA (len size : Nat) (agg : Bool) (x i : AOpd)
  | idxS (x i : AOpd)
  | extr (x : AOpd) (i : Nat)
  | lenS (x : AOpd)
  | lenC (n : Nat)
  | capS (x : AOpd)
  | mx (isMax : Bool) (x : AOpd) (xs : List AOpd)
  | bad
inductive ROp where
  | loadC (a : AOpd)
  | loadA (a : AOpd) (n : Nat)
  | look (m k : AOpd) (ka : KT) (z : AVal) (ok : Bool)
  | lenM (m : AOpd)
inductive HOp where
  | store (a x : AOpd) (n : Nat)
  | mset (m k x : AOpd) (ka : KT)
  | ment (m k : AOpd) (ka : KT) (z : AVal)
  | mstore (m s x : AOpd)
  | append (size bytes : Nat) (t : TypeId) (s x : AOpd)
  | copy (size : Nat) (d s : AOpd)
  | clear (z : List AVal) (x : AOpd)
  | delete (m k : AOpd) (ka : KT)
inductive AIns where
  | pure (dst : Option Pos) (g : Option (Pos × Bool)) (op : POp)
  | read (dst : Option Pos) (g : Option (Pos × Bool)) (op : ROp)
  | write (dst : Option Pos) (g : Option (Pos × Bool)) (op : HOp)
  | call (dst : Option Pos) (g : Option (Pos × Bool)) (f : AOpd) (args : List AOpd)
structure Phase where
  lights : List (AIns × Nat)
  next : Option AIns
inductive ACode where
  | skip
  | exit (id : Nat)
  | ret
  | seq (a b : ACode)
  | cond (c : AOpd) (a b : ACode)
  | block (id : Nat) (a : ACode)
  | loop (a : ACode)
  | reg (l : List AIns)
  | draw (ph : List Phase)
  | range (f : AOpd) (params : List Pos) (assign body : ACode)

/-! ## Memory -/
structure AEntry where
  key : AVal
  val : AVal
  born : Nat
inductive AExit where
  | normal
  | exit (id : Nat)
  | ret
inductive LSt where
  | ready
  | busy
  | done
  | gone
structure ALoop where
  state : LSt
  pending : AExit
  tmps : PT AVal
  params : List Pos
  assign : ACode
  body : ACode
inductive AObj where
  | cells (cs : List AVal) (elem : TypeId)
  | map (es : List AEntry) (clock : Nat)
  | loop (l : ALoop)
  | defd (taken : Bool)
  | dead
structure AHeap where
  objs : PT AObj
  next : Pos
def AHeap.get : AHeap → Pos → Option AObj
  | ⟨t, _⟩, b => t.get b
def AHeap.set : AHeap → Pos → AObj → AHeap
  | ⟨t, n⟩, b, o => ⟨t.set b o, n⟩
def AHeap.new : AHeap → AObj → AHeap
  | ⟨t, n⟩, o => ⟨t.set n o, n.succ⟩

inductive PRes where
  | fail
  | val (v : AVal)
  | new (o : AObj) (k : Pos → AVal)
inductive ORes where
  | fail
  | ok (v : AVal) (h : AHeap)
inductive IRes where
  | fail
  | ok (tm : PT AVal) (h : AHeap)
inductive Res where
  | fail
  | ok (e : AExit) (tm : PT AVal) (ds : List Pos) (h : AHeap)

inductive Goal where
  | fn (f : Pos) (args : List AVal)
  | yield (l : Pos) (args : List AVal)
inductive ARes where
  | tmp (t : Pos)
  | cell (t : Pos)
  | agg (t : Pos) (n : Nat)
inductive AFunc where
  | code (c : ACode) (rs : List ARes)
  | intr (f : List AVal → AHeap → ORes)

structure Env where
  fns : PT AFunc
  bin : BinOp → AVal → AVal → Option AVal
  conv : IntKind → AVal → Option AVal

/-! ## small words -/
def nth {α : Type} : List α → Nat → Option α
  | [], _ => none
  | x :: l, n => match n with
    | 0 => some x
    | n + 1 => nth l n
def evO (tm : PT AVal) : AOpd → AVal
  | .t p => match tm.get p with
    | some v => v
    | none => .undef
  | .c v => v
def evs (tm : PT AVal) : List AOpd → List AVal
  | [] => []
  | x :: l => evO tm x :: evs tm l
def evOpt (tm : PT AVal) : Option AOpd → Option AVal
  | none => none
  | some x => some (evO tm x)
def putT (d : Option Pos) (v : AVal) (tm : PT AVal) : PT AVal :=
  match d with
  | some d => tm.set d v
  | none => tm
def lenL : List AVal → Nat
  | [] => 0
  | _ :: l => (lenL l).succ
def takeL {α : Type} : Nat → List α → List α
  | n, l => match n with
    | 0 => []
    | n + 1 => match l with
      | [] => []
      | x :: l => x :: takeL n l
def dropL {α : Type} : Nat → List α → List α
  | n, l => match n with
    | 0 => l
    | n + 1 => match l with
      | [] => []
      | _ :: l => dropL n l
def rep (z : List AVal) : Nat → List AVal
  | 0 => []
  | n + 1 => z ++ rep z n

/-! ## numbers -/
def wrapF (k : IntKind) (n : Int) : Int :=
  match n with
  | .ofNat m => match k with
    | .i64 => if Nat.blt m 9223372036854775808 then .ofNat m else k.wrap n
    | .u8 => if Nat.blt m 256 then .ofNat m else k.wrap n
    | .u64 => if Nat.blt m 18446744073709551616 then .ofNat m else k.wrap n
    | k => k.wrap n
  | .negSucc m => match k with
    | .i64 => if Nat.blt m 9223372036854775808 then .negSucc m else k.wrap n
    | k => k.wrap n
def eqI : Int → Int → Bool
  | .ofNat a, .ofNat b => Nat.beq a b
  | .negSucc a, .negSucc b => Nat.beq a b
  | _, _ => false
def ltI : Int → Int → Bool
  | .ofNat a, .ofNat b => Nat.blt a b
  | .negSucc a, .negSucc b => Nat.blt b a
  | .negSucc _, .ofNat _ => true
  | .ofNat _, .negSucc _ => false
def leI : Int → Int → Bool
  | .ofNat a, .ofNat b => Nat.ble a b
  | .negSucc a, .negSucc b => Nat.ble b a
  | .negSucc _, .ofNat _ => true
  | .ofNat _, .negSucc _ => false
def eqK : IntKind → IntKind → Bool
  | .i64, .i64 | .u8, .u8 | .u64, .u64 | .i8, .i8 | .i16, .i16 | .i32, .i32 | .u16, .u16 | .u32, .u32 => true
  | _, _ => false
def intBin (op : BinOp) (k : IntKind) (a b : Int) : Option AVal :=
  match op with
  | .add => some (.int k (wrapF k (Int.add a b)))
  | .sub => some (.int k (wrapF k (Int.sub a b)))
  | .mul => some (.int k (wrapF k (Int.mul a b)))
  | .quo => if eqI b 0 then none else some (.int k (wrapF k (a.tdiv b)))
  | .rem => if eqI b 0 then none else some (.int k (a.tmod b))
  | .and => some (.int k (k.wrap (BitVec.ofInt k.bits a &&& BitVec.ofInt k.bits b).toNat))
  | .or => some (.int k (k.wrap (BitVec.ofInt k.bits a ||| BitVec.ofInt k.bits b).toNat))
  | .xor => some (.int k (k.wrap (BitVec.ofInt k.bits a ^^^ BitVec.ofInt k.bits b).toNat))
  | .lss => some (.bool (ltI a b))
  | .leq => some (.bool (leI a b))
  | .gtr => some (.bool (ltI b a))
  | .geq => some (.bool (leI b a))
  | _ => none
def shiftA (op : BinOp) (k : IntKind) (x y : Int) : Option AVal :=
  match y with
  | .negSucc _ => none
  | .ofNat y =>
    match op with
    | .shl => some (.int k (k.wrap (x * 2 ^ (min y k.bits))))
    | .shr => some (.int k (x.fdiv (2 ^ (min y k.bits))))
    | _ => none
def isShift : BinOp → Bool
  | .shl | .shr => true
  | _ => false
variable (E : Env)
def binA (op : BinOp) (x y : AVal) : Option AVal :=
  match x, y with
  | .int k a, .int k' b => if isShift op then shiftA op k a b else if eqK k k' then intBin op k a b else none
  | x, y => E.bin op x y
def eqB (a b : Bool) : Bool :=
  match a with
  | true => b
  | false => match b with
    | true => false
    | false => true
/-- two cells: the same? -/
def cellEq (t : CT) (x y : AVal) : Option Bool :=
  match t with
  | .i => match x with
    | .int k a => match y with
      | .int k' b => match eqK k k' with
        | true => some (eqI a b)
        | false => none
      | y => symEq (.int k a) y
    | x => symEq x y
  | .b => match x with
    | .bool a => match y with
      | .bool b => some (eqB a b)
      | _ => none
    | _ => none
  | .p => match x with
    | .pnil => match y with
      | .pnil => some true
      | .ptr _ _ => some false
      | _ => none
    | .ptr _ _ => match y with
      | .pnil => some false
      | _ => none
    | _ => none
  | .s => match x with
    | .snil => match y with
      | .snil => some true
      | .slice .. => some false
      | _ => none
    | .slice .. => match y with
      | .snil => some false
      | _ => none
    | _ => none
  | .m => match x with
    | .mnil => match y with
      | .mnil => some true
      | .map _ => some false
      | _ => none
    | .map _ => match y with
      | .mnil => some false
      | _ => none
    | _ => none
  | .f => match x with
    | .fnil => match y with
      | .fnil => some true
      | .fn .. => some false
      | .yield _ => some false
      | _ => none
    | .fn .. | .yield _ => match y with
      | .fnil => some false
      | _ => none
    | _ => none
where
  symEq (x y : AVal) : Option Bool :=
    match (match x with | .sym i => (match y with | .sym j => Nat.beq i j | _ => false) | _ => false) with
    | true => some true
    | false => match E.bin .eql x y with
      | some (.bool b) => some b
      | _ => none
def leavesEq (xs ys : List AVal) : List (Nat × CT) → Option Bool
  | [] => some true
  | ⟨i, t⟩ :: r => match nth xs i with
    | none => none
    | some x => match nth ys i with
      | none => none
      | some y => match cellEq E t x y with
        | none => none
        | some true => leavesEq xs ys r
        | some false => some false
def eqA (t : ET) (x y : AVal) : Option Bool :=
  match t with
  | .cell c => cellEq E c x y
  | .agg l => match x with
    | .agg xs => match y with
      | .agg ys => leavesEq E xs ys l
      | _ => none
    | _ => none
def unA (op : UnOp) (x : AVal) : Option AVal :=
  match x with
  | .bool b => match op with
    | .not => some (.bool (match b with | true => false | false => true))
    | _ => none
  | .int k n => match op with
    | .neg => some (.int k (wrapF k (Int.sub 0 n)))
    | _ => none
  | _ => none
def convA (k : IntKind) (x : AVal) : Option AVal :=
  match x with
  | .int _ n => some (.int k (wrapF k n))
  | .sym i => E.conv k (.sym i)
  | _ => none

/-! ## operations that touch no memory -/
def ofOpt : Option AVal → PRes
  | none => .fail
  | some v => .val v
def asNat : AVal → Option Nat
  | .int _ (.ofNat n) => some n
  | _ => none
def boundA (x : Option AVal) (dflt y : Nat) : Option Nat :=
  match x with
  | none => some dflt
  | some v => match asNat v with
    | none => none
    | some i => match Nat.ble i y with
      | true => some i
      | false => none
def fillA (tm : PT AVal) (cells : List AVal) : List (Nat × Nat × AOpd) → Option (List AVal)
  | [] => some cells
  | ⟨off, size, x⟩ :: rest =>
    match (evO tm x).cellsC with
    | none => none
    | some cs => match Nat.beq (lenL cs) size with
      | true => match Nat.ble (Nat.add off size) (lenL cells) with
        | true => fillA tm (takeL off cells ++ (cs ++ dropL (Nat.add off size) cells)) rest
        | false => none
      | false => none
def oPick (c a b : AVal) : PRes :=
  match c with
  | .bool true => .val a
  | .bool false => .val b
  | _ => .fail
def oBox (x : AVal) (t : TypeId) : PRes :=
  match x.cellsC with
  | some cs => .new (.cells cs t) fun id => .ptr id 0
  | none => .fail
def oBuild (tm : PT AVal) (z : List AVal) (parts : List (Nat × Nat × AOpd)) : PRes :=
  match fillA tm z parts with
  | some cs => .val (.agg cs)
  | none => .fail
def oBslice (tm : PT AVal) (z : List AVal) (len : Nat) (parts : List (Nat × Nat × AOpd)) (t : TypeId) : PRes :=
  match fillA tm z parts with
  | some cs => .new (.cells cs t) fun id => .slice id 0 len len 0
  | none => .fail
def oNil (x : AVal) : PRes :=
  match x with
  | .ptr b o => .val (.ptr b o)
  | .fn f a c => .val (.fn f a c)
  | .yield l => .val (.yield l)
  | _ => .fail
def oEq (neg : Bool) (t : ET) (x y : AVal) : PRes :=
  match eqA E t x y with
  | some b => .val (.bool (match neg with | true => (match b with | true => false | false => true) | false => b))
  | none => .fail
def oSlc (size : Nat) (x : AVal) (lo hi mx : Option AVal) : PRes :=
  match x with
  | .slice b o len cap es =>
    match mx with
    | some _ => match boundA mx 0 cap with
      | none => .fail
      | some m => match boundA hi 0 m with
        | none => .fail
        | some h => match boundA lo 0 h with
          | none => .fail
          | some l => .val (.slice b (Nat.add o (Nat.mul l size)) (Nat.sub h l) (Nat.sub m l) 0)
    | none => match boundA hi len cap with
      | none => .fail
      | some h => match boundA lo 0 h with
        | none => .fail
        | some l => match es with
          | 0 => .val (.slice b (Nat.add o (Nat.mul l size)) (Nat.sub h l) (Nat.sub cap l) 0)
          | e + 1 => match Nat.beq (Nat.succ e) size with
            | true => .val (.slice b (Nat.add o (Nat.mul l size)) (Nat.sub h l) (Nat.sub cap l) (Nat.succ e))
            | false => .fail
  | .snil => match boundA mx 0 0 with
    | none => .fail
    | some _ => match boundA hi 0 0 with
      | none => .fail
      | some _ => match boundA lo 0 0 with
        | none => .fail
        | some _ => .val .snil
  | _ => .fail
def oFaddr (x : AVal) (off : Nat) : PRes :=
  match x with
  | .ptr b o => .val (.ptr b (Nat.add o off))
  | _ => .fail
def oFld (x : AVal) (off : Nat) (agg : Option Nat) : PRes :=
  match x with
  | .agg cs => match agg with
    | none => ofOpt (nth cs off)
    | some n => .val (.agg (takeL n (dropL off cs)))
  | _ => .fail
def oIaddr (size : Nat) (x i : AVal) : PRes :=
  match x with
  | .slice b o len _ _ => match asNat i with
    | some i => match Nat.blt i len with
      | true => .val (.ptr b (Nat.add o (Nat.mul i size)))
      | false => .fail
    | none => .fail
  | _ => .fail
def oIaddrA (len size : Nat) (x i : AVal) : PRes :=
  match x with
  | .ptr b o => match asNat i with
    | some i => match Nat.blt i len with
      | true => .val (.ptr b (Nat.add o (Nat.mul i size)))
      | false => .fail
    | none => .fail
  | _ => .fail
def oIdxA (len size : Nat) (agg : Bool) (x i : AVal) : PRes :=
  match x with
  | .agg cs => match asNat i with
    | some i => match Nat.blt i len with
      | true => match agg with
        | true => .val (.agg (takeL size (dropL (Nat.mul i size) cs)))
        | false => ofOpt (nth cs (Nat.mul i size))
      | false => .fail
    | none => .fail
  | _ => .fail
def oIdxS (x i : AVal) : PRes :=
  match x with
  | .str s => match asNat i with
    | some i => match nth s.data.toList i with
      | some c => .val (.int .u8 (.ofNat c.toNat))
      | none => .fail
    | none => .fail
  | _ => .fail
def oExtr (x : AVal) (i : Nat) : PRes :=
  match x with
  | .tuple vs => ofOpt (nth vs i)
  | _ => .fail
def oLen (x : AVal) : PRes :=
  match x with
  | .slice _ _ n _ _ => .val (.int .i64 (.ofNat n))
  | .snil => .val (.int .i64 (.ofNat 0))
  | _ => .fail
def oCap (x : AVal) : PRes :=
  match x with
  | .slice _ _ _ c 0 => .val (.int .i64 (.ofNat c))
  | .snil => .val (.int .i64 (.ofNat 0))
  | _ => .fail
def pickI (isMax : Bool) (a b : Int) : Int :=
  match (match isMax with | true => ltI a b | false => ltI b a) with
  | true => b
  | false => a
def maxA (isMax : Bool) : AVal → List AVal → PRes
  | x, [] => .val x
  | x, y :: r => match x with
    | .int k a => match y with
      | .int k' b => match eqK k k' with
        | true => maxA isMax (.int k (pickI isMax a b)) r
        | false => .fail
      | _ => .fail
    | _ => .fail
def oMkslice (z : List AVal) (bytes : Nat) (t : TypeId) (l c : AVal) : PRes :=
  match asNat l with
  | some l => match asNat c with
    | some c => match Nat.ble l c with
      | true => match Nat.ble c 16777216 with
        | true => match Nat.ble (Nat.mul c bytes) 1099511627776 with
          | true => .new (.cells (rep z c) t) fun id => .slice id 0 l c 0
          | false => .fail
        | false => .fail
      | false => .fail
    | none => .fail
  | none => .fail
def pRun (tm : PT AVal) : POp → PRes
  | .mov x => .val (evO tm x)
  | .pick c a b => oPick (evO tm c) (evO tm a) (evO tm b)
  | .new z t => .new (.cells z t) fun id => .ptr id 0
  | .box x t => oBox (evO tm x) t
  | .build z parts => oBuild tm z parts
  | .bslice z len parts t => oBslice tm z len parts t
  | .nilck x => oNil (evO tm x)
  | .bin op x y => ofOpt (binA E op (evO tm x) (evO tm y))
  | .eq neg t x y => oEq E neg t (evO tm x) (evO tm y)
  | .un op x => ofOpt (unA op (evO tm x))
  | .conv k x => ofOpt (convA E k (evO tm x))
  | .mkfn f first captured => .val (.fn f (evs tm first) (evs tm captured))
  | .mkmap => .new (.map [] 0) fun id => .map id
  | .mkslice z bytes t l c => oMkslice z bytes t (evO tm l) (evO tm c)
  | .slc size x lo hi mx => oSlc size (evO tm x) (evOpt tm lo) (evOpt tm hi) (evOpt tm mx)
  | .faddr x off => oFaddr (evO tm x) off
  | .fld x off agg => oFld (evO tm x) off agg
  | .iaddr size x i => oIaddr size (evO tm x) (evO tm i)
  | .iaddrA len size x i => oIaddrA len size (evO tm x) (evO tm i)
  | .idxA len size agg x i => oIdxA len size agg (evO tm x) (evO tm i)
  | .idxS x i => oIdxS (evO tm x) (evO tm i)
  | .extr x i => oExtr (evO tm x) i
  | .lenS x => oLen (evO tm x)
  | .lenC n => .val (.int .i64 (.ofNat n))
  | .capS x => oCap (evO tm x)
  | .mx isMax x xs => maxA isMax (evO tm x) (evs tm xs)
  | .bad => .fail

/-! ## what reads -/
/-- two keys: the same? -/
def keyCells : List CT → List AVal → List AVal → Option Bool
  | [], [], [] => some true
  | t :: ts, x :: xs, y :: ys => match cellEq E t x y with
    | none => none
    | some true => keyCells ts xs ys
    | some false => some false
  | _, _, _ => none
def keyA (t : KT) (x y : AVal) : Option Bool :=
  match t with
  | .cell c => cellEq E c x y
  | .agg l => match x with
    | .agg xs => match y with
      | .agg ys => keyCells E l xs ys
      | _ => none
    | _ => none
def lenC : List CT → Nat
  | [] => 0
  | _ :: l => Nat.succ (lenC l)
/-- may it be a key at all? -/
def keyOk (t : KT) (x : AVal) : Bool :=
  match t with
  | .cell _ => true
  | .agg l => match x with
    | .agg xs => Nat.beq (lenL xs) (lenC l)
    | _ => false
def findIn (t : KT) (x : AVal) : List AEntry → Nat → Option (Option (Nat × AVal))
  | [], _ => some none
  | e :: es, i => match keyA E t x e.key with
    | some true => some (some (i, e.val))
    | some false => findIn t x es (Nat.succ i)
    | none => none
def findA (t : KT) (x : AVal) (es : List AEntry) : Option (Option (Nat × AVal)) :=
  match keyOk t x with
  | true => findIn E t x es 0
  | false => none
def rLoadC (h : AHeap) (a : AVal) : Option AVal :=
  match a with
  | .ptr b o => match h.get b with
    | some (.cells cs _) => nth cs o
    | _ => none
  | _ => none
def rLoadA (h : AHeap) (a : AVal) (n : Nat) : Option AVal :=
  match a with
  | .ptr b o => match h.get b with
    | some (.cells cs _) => match takeL n (dropL o cs) with
      | l => match Nat.beq (lenL l) n with
        | true => some (.agg l)
        | false => none
    | _ => none
  | _ => none
def lookOut (ok : Bool) (v : AVal) (b : Bool) : AVal :=
  match ok with
  | true => .tuple [v, .bool b]
  | false => v
def rLook (h : AHeap) (m k : AVal) (ka : KT) (z : AVal) (ok : Bool) : Option AVal :=
  match m with
  | .mnil => match keyOk ka k with
    | true => some (lookOut ok z false)
    | false => none
  | .map r => match h.get r with
    | some (.map es _) => match findA E ka k es with
      | some (some (_, v)) => some (lookOut ok v true)
      | some none => some (lookOut ok z false)
      | none => none
    | _ => none
  | _ => none
def lenE : List AEntry → Nat
  | [] => 0
  | _ :: l => Nat.succ (lenE l)
def rLenM (h : AHeap) (m : AVal) : Option AVal :=
  match m with
  | .mnil => some (.int .i64 (.ofNat 0))
  | .map r => match h.get r with
    | some (.map es _) => some (.int .i64 (.ofNat (lenE es)))
    | _ => none
  | _ => none
def rRun (tm : PT AVal) (h : AHeap) : ROp → Option AVal
  | .loadC a => rLoadC h (evO tm a)
  | .loadA a n => rLoadA h (evO tm a) n
  | .look m k ka z ok => rLook E h (evO tm m) (evO tm k) ka z ok
  | .lenM m => rLenM h (evO tm m)

/-! ## what writes -/
def storeA (h : AHeap) (b : Pos) (o : Nat) (vs : List AVal) : Option AHeap :=
  match h.get b with
  | some (.cells cs e) => match Nat.ble (Nat.add o (lenL vs)) (lenL cs) with
    | true => some (h.set b (.cells (takeL o cs ++ (vs ++ dropL (Nat.add o (lenL vs)) cs)) e))
    | false => none
  | _ => none
def upd (f : AEntry → AEntry) : List AEntry → Nat → List AEntry
  | [], _ => []
  | e :: es, i => match i with
    | 0 => f e :: es
    | i + 1 => e :: upd f es i
def setKV (k v : AVal) : AEntry → AEntry
  | ⟨_, _, n⟩ => ⟨k, v, n⟩
def setK (k : AVal) : AEntry → AEntry
  | ⟨_, v, n⟩ => ⟨k, v, n⟩
def setV (v : AVal) : AEntry → AEntry
  | ⟨k, _, n⟩ => ⟨k, v, n⟩
def ofH (v : AVal) : Option AHeap → ORes
  | none => .fail
  | some h => .ok v h
def wStore (h : AHeap) (a v : AVal) (n : Nat) : ORes :=
  match a with
  | .ptr b o => match v.cellsC with
    | none => .fail
    | some cs => match Nat.beq (lenL cs) n with
      | true => ofH .undef (storeA h b o cs)
      | false => .fail
  | _ => .fail
def wMset (h : AHeap) (m k v : AVal) (ka : KT) : ORes :=
  match m with
  | .map r => match h.get r with
    | some (.map es clock) => match findA E ka k es with
      | some (some (i, _)) => .ok .undef (h.set r (.map (upd (setKV k v) es i) clock))
      | some none => .ok .undef (h.set r (.map (es ++ [⟨k, v, clock⟩]) (Nat.succ clock)))
      | none => .fail
    | _ => .fail
  | _ => .fail
def bornAt : List AEntry → Nat → Nat
  | es, i => match nth es i with
    | some e => e.born
    | none => 0
def wMent (h : AHeap) (m k : AVal) (ka : KT) (z : AVal) : ORes :=
  match m with
  | .map r => match h.get r with
    | some (.map es clock) => match findA E ka k es with
      | some (some (i, v)) => .ok (.tuple [v, .int .i64 (.ofNat (bornAt es i))]) (h.set r (.map (upd (setK k) es i) clock))
      | some none => .ok (.tuple [z, .int .i64 (.ofNat clock)]) (h.set r (.map (es ++ [⟨k, z, clock⟩]) (Nat.succ clock)))
      | none => .fail
    | _ => .fail
  | _ => .fail
def findBorn (n : Nat) : List AEntry → Nat → Option Nat
  | [], _ => none
  | e :: es, i => match Nat.beq e.born n with
    | true => some i
    | false => findBorn n es (Nat.succ i)
def wMstore (h : AHeap) (m s v : AVal) : ORes :=
  match m with
  | .map r => match asNat s with
    | some n => match h.get r with
      | some (.map es clock) => match findBorn n es 0 with
        | some i => .ok .undef (h.set r (.map (upd (setV v) es i) clock))
        | none => .fail
      | _ => .fail
    | none => .fail
  | _ => .fail
/-- the cells that an argument of append, copy has -/
def cellsA (h : AHeap) (size n : Nat) (x : AVal) : Option (List AVal) :=
  match x with
  | .snil => if Nat.beq n 0 then some [] else none
  | .slice b o _ _ _ => match h.get b with
    | some (.cells cs _) => match takeL (Nat.mul n size) (dropL o cs) with
      | l => match Nat.beq (lenL l) (Nat.mul n size) with
        | true => some l
        | false => none
    | _ => none
  | _ => none
def lenA : AVal → Option Nat
  | .snil => some 0
  | .slice _ _ n _ _ => some n
  | _ => none
def roomy (n bytes : Nat) : Bool := Nat.ble (Nat.add (Nat.mul n bytes) n) 1099511627776
def growA (h : AHeap) (size bytes : Nat) (s : AVal) (len n : Nat) (new : List AVal) (k : List AVal → ORes) : ORes :=
  match cellsA h size len s with
  | none => .fail
  | some old => match roomy (Nat.add len n) bytes with
    | true => k (old ++ new)
    | false => .fail
def wAppend (h : AHeap) (size bytes : Nat) (t : TypeId) (s x : AVal) : ORes :=
  match lenA x with
  | none => .fail
  | some n => match n with
    | 0 => (match lenA s with | some _ => .ok s h | none => .fail)
    | n' + 1 => match cellsA h size (Nat.succ n') x with
      | none => .fail
      | some new => match s with
        | .snil => match roomy (Nat.succ n') bytes with
          | true => .ok (.slice h.next 0 (Nat.succ n') (Nat.succ n') size) (h.new (.cells new t))
          | false => .fail
        | .slice b o len cap es => match Nat.ble (Nat.add len (Nat.succ n')) cap with
          | true => ofH (.slice b o (Nat.add len (Nat.succ n')) cap es) (storeA h b (Nat.add o (Nat.mul len size)) new)
          | false => match es with
            | 0 => growA h size bytes (.slice b o len cap 0) len (Nat.succ n') new fun cs =>
                .ok (.slice h.next 0 (Nat.add len (Nat.succ n')) (Nat.add len (Nat.succ n')) size) (h.new (.cells cs t))
            | e + 1 => match Nat.beq (Nat.succ e) size with
              | false => .fail
              | true => growA h size bytes (.slice b o len cap (Nat.succ e)) len (Nat.succ n') new fun cs =>
                  match h.set b .dead with
                  | h => .ok (.slice h.next 0 (Nat.add len (Nat.succ n')) (Nat.add len (Nat.succ n')) size) (h.new (.cells cs t))
        | _ => .fail
def minN (a b : Nat) : Nat :=
  match Nat.ble a b with
  | true => a
  | false => b
def wCopy (h : AHeap) (size : Nat) (d s : AVal) : ORes :=
  match lenA d with
  | none => .fail
  | some dl => match lenA s with
    | none => .fail
    | some sl => match minN sl dl with
      | n => match cellsA h size n s with
        | none => .fail
        | some cs => match d with
          | .slice b o _ _ _ => ofH (.int .i64 (.ofNat n)) (storeA h b o cs)
          | _ => .ok (.int .i64 (.ofNat 0)) h
def wClear (h : AHeap) (z : List AVal) (x : AVal) : ORes :=
  match x with
  | .snil => .ok (.tuple []) h
  | .slice b o len _ _ => match len with
    | 0 => .ok (.tuple []) h
    | n + 1 => ofH (.tuple []) (storeA h b o (rep z (Nat.succ n)))
  | _ => .fail
def eraseAt : List AEntry → Nat → List AEntry
  | [], _ => []
  | e :: es, i => match i with
    | 0 => es
    | i + 1 => e :: eraseAt es i
def wDelete (h : AHeap) (m k : AVal) (ka : KT) : ORes :=
  match m with
  | .mnil => match keyOk ka k with
    | true => .ok (.tuple []) h
    | false => .fail
  | .map r => match h.get r with
    | some (.map es clock) => match findA E ka k es with
      | some (some (i, _)) => .ok (.tuple []) (h.set r (.map (eraseAt es i) clock))
      | some none => .ok (.tuple []) h
      | none => .fail
    | _ => .fail
  | _ => .fail
def hRun (tm : PT AVal) (h : AHeap) : HOp → ORes
  | .store a x n => wStore h (evO tm a) (evO tm x) n
  | .mset m k x ka => wMset E h (evO tm m) (evO tm k) (evO tm x) ka
  | .ment m k ka z => wMent E h (evO tm m) (evO tm k) ka z
  | .mstore m s x => wMstore h (evO tm m) (evO tm s) (evO tm x)
  | .append size bytes t s x => wAppend h size bytes t (evO tm s) (evO tm x)
  | .copy size d s => wCopy h size (evO tm d) (evO tm s)
  | .clear z x => wClear h z (evO tm x)
  | .delete m k ka => wDelete E h (evO tm m) (evO tm k) ka

/-! ## rows of operations -/
def wantedA (tm : PT AVal) (g : Option (Pos × Bool)) : Option Bool :=
  match g with
  | none => some true
  | some (p, want) => match tm.get p with
    | some (.bool b) => some (match want with | true => b | false => (match b with | true => false | false => true))
    | some (.sym _) => none
    | _ => some false
def goalOf (f : AVal) (args : List AVal) : Option Goal :=
  match f with
  | .fn f first captured => some (.fn f (first ++ args ++ captured))
  | .yield l => some (.yield l args)
  | _ => none
def bindO (d : Option Pos) (tm : PT AVal) : ORes → IRes
  | .fail => .fail
  | .ok v h => .ok (putT d v tm) h
def bindP (d : Option Pos) (tm : PT AVal) (h : AHeap) : PRes → IRes
  | .fail => .fail
  | .val v => .ok (putT d v tm) h
  | .new o k => .ok (putT d (k h.next) tm) (h.new o)
def bindR (d : Option Pos) (tm : PT AVal) (h : AHeap) : Option AVal → IRes
  | none => .fail
  | some v => .ok (putT d v tm) h
def guardI (d : Option Pos) (g : Option (Pos × Bool)) (tm : PT AVal) (h : AHeap) (r : IRes) : IRes :=
  match wantedA tm g with
  | none => .fail
  | some true => r
  | some false => .ok (putT d .undef tm) h
def callO (call : Goal → AHeap → ORes) (f : AVal) (args : List AVal) (h : AHeap) : ORes :=
  match goalOf f args with
  | none => .fail
  | some g => call g h
def insRun (call : Goal → AHeap → ORes) (tm : PT AVal) (h : AHeap) : AIns → IRes
  | .pure d g op => guardI d g tm h (bindP d tm h (pRun E tm op))
  | .read d g op => guardI d g tm h (bindR d tm h (rRun E tm h op))
  | .write d g op => guardI d g tm h (bindO d tm (hRun E tm h op))
  | .call d g f args => guardI d g tm h (bindO d tm (callO call (evO tm f) (evs tm args) h))
def regRun (call : Goal → AHeap → ORes) : List AIns → PT AVal → AHeap → IRes
  | [], tm, h => .ok tm h
  | x :: l, tm, h => match insRun E call tm h x with
    | .fail => .fail
    | .ok tm h => regRun call l tm h

/-! ## regions that draw their order -/
structure Watch where
  upTo : Nat
  tm : PT AVal
  op : ROp
  res : AVal
def sameFlat (x y : AVal) : Bool :=
  match x, y with
  | .bool a, .bool b => a == b
  | .int k a, .int k' b => eqK k k' && eqI a b
  | .pnil, .pnil | .snil, .snil | .mnil, .mnil | .fnil, .fnil => true
  | .ptr a b, .ptr a' b' => Pos.beq a a' && Nat.beq b b'
  | .slice a b c d e, .slice a' b' c' d' e' => Pos.beq a a' && Nat.beq b b' && Nat.beq c c' && Nat.beq d d' && Nat.beq e e'
  | .map a, .map b => Pos.beq a b
  | .yield a, .yield b => Pos.beq a b
  | .sym i, .sym j => Nat.beq i j
  | _, _ => false
def sameFlats : List AVal → List AVal → Bool
  | [], [] => true
  | x :: xs, y :: ys => sameFlat x y && sameFlats xs ys
  | _, _ => false
def sameVal (x y : AVal) : Bool :=
  match x, y with
  | .fn f a c, .fn g a' c' => Pos.beq f g && sameFlats a a' && sameFlats c c'
  | x, y => sameFlat x y
def sameList : List AVal → List AVal → Bool
  | [], [] => true
  | x :: xs, y :: ys => sameVal x y && sameList xs ys
  | _, _ => false
def sameRes (x y : AVal) : Bool :=
  match x, y with
  | .agg a, .agg b => sameList a b
  | .tuple a, .tuple b => sameList a b
  | a, b => sameVal a b
def checkWatch (j : Nat) (h : AHeap) : List Watch → Bool
  | [] => true
  | w :: ws => match (match Nat.ble j w.upTo with
      | true => (match rRun E w.tm h w.op with | some v => sameRes v w.res | none => false)
      | false => true) with
    | true => checkWatch j h ws
    | false => false
inductive LRes where
  | fail
  | ok (ws : List Watch) (tm : PT AVal) (h : AHeap)
def lightsRun : List (AIns × Nat) → List Watch → PT AVal → AHeap → LRes
  | [], ws, tm, h => .ok ws tm h
  | ⟨x, up⟩ :: l, ws, tm, h =>
    match x with
    | .pure d g op => match guardI d g tm h (bindP d tm h (pRun E tm op)) with
      | .fail => .fail
      | .ok tm h => lightsRun l ws tm h
    | .read d g op => match wantedA tm g with
      | none => .fail
      | some false => lightsRun l ws (putT d .undef tm) h
      | some true => match rRun E tm h op with
        | none => .fail
        | some v => lightsRun l (⟨up, tm, op, v⟩ :: ws) (putT d v tm) h
    | _ => .fail
def drawRun (call : Goal → AHeap → ORes) : Nat → List Phase → List Watch → PT AVal → AHeap → IRes
  | _, [], _, tm, h => .ok tm h
  | j, ⟨ls, nx⟩ :: ph, ws, tm, h =>
    match lightsRun E ls ws tm h with
    | .fail => .fail
    | .ok ws tm h => match checkWatch E j h ws with
      | false => .fail
      | true => match nx with
        | none => drawRun call (Nat.succ j) ph ws tm h
        | some x => match insRun E call tm h x with
          | .fail => .fail
          | .ok tm h => drawRun call (Nat.succ j) ph ws tm h

/-! ## code -/
def loopN (body : PT AVal → List Pos → AHeap → Res) : Nat → PT AVal → List Pos → AHeap → Res
  | 0, _, _, _ => .fail
  | n + 1, tm, ds, h => match body tm ds h with
    | .ok .normal tm ds h => loopN body n tm ds h
    | r => r
def thenR (r : Res) (k : PT AVal → List Pos → AHeap → Res) : Res :=
  match r with
  | .ok .normal tm ds h => k tm ds h
  | r => r
def blockR (id : Nat) (r : Res) : Res :=
  match r with
  | .ok (.exit j) tm ds h => match Nat.beq j id with
    | true => .ok .normal tm ds h
    | false => .ok (.exit j) tm ds h
  | r => r
def ofI (ds : List Pos) : IRes → Res
  | .fail => .fail
  | .ok tm h => .ok .normal tm ds h
def condR (c : AVal) (a b : Res) : Res :=
  match c with
  | .bool true => a
  | .bool false => b
  | _ => .fail
def endLoop (l : Pos) (tm : PT AVal) (ds : List Pos) (h : AHeap) : Res :=
  match h.get l with
  | some (.loop ⟨st, pd, t, ps, as, bd⟩) => match st with
    | .busy => .fail
    | _ => .ok pd tm ds (h.set l (.loop ⟨.gone, pd, t, ps, as, bd⟩))
  | _ => .fail
def isLoop (h : AHeap) (l : Pos) : Bool :=
  match h.get l with
  | some (.loop _) => true
  | _ => false
def enterR (call : Goal → AHeap → ORes) (f : AOpd) (params : List Pos) (assign body : ACode) (tm : PT AVal) (ds : List Pos) (h : AHeap) : Res :=
  match callO call (evO tm f) [.yield h.next] (h.new (.loop ⟨.ready, .normal, tm, params, assign, body⟩)) with
  | .fail => .fail
  | .ok _ h' => endLoop h.next tm ds h'
def rangeR (call : Goal → AHeap → ORes) (rd : Option Pos) (f : AOpd) (params : List Pos) (assign body : ACode) (tm : PT AVal) (ds : List Pos) (h : AHeap) : Res :=
  match rd with
  | none => enterR call f params assign body tm (h.next :: ds) (h.new (.defd false))
  | some l => match isLoop h l with
    | true => enterR call f params assign body tm ds h
    | false => .fail
def exec (call : Goal → AHeap → ORes) (fuel : Nat) (rd : Option Pos) : ACode → PT AVal → List Pos → AHeap → Res
  | .skip, tm, ds, h => .ok .normal tm ds h
  | .exit id, tm, ds, h => .ok (.exit id) tm ds h
  | .ret, tm, ds, h => .ok .ret tm ds h
  | .seq a b, tm, ds, h => thenR (exec call fuel rd a tm ds h) (exec call fuel rd b)
  | .cond c a b, tm, ds, h => condR (evO tm c) (exec call fuel rd a tm ds h) (exec call fuel rd b tm ds h)
  | .block id a, tm, ds, h => blockR id (exec call fuel rd a tm ds h)
  | .loop a, tm, ds, h => loopN (exec call fuel rd a) fuel tm ds h
  | .reg l, tm, ds, h => ofI ds (regRun E call l tm h)
  | .draw ph, tm, ds, h => ofI ds (drawRun E call 0 ph [] tm h)
  | .range f params assign body, tm, ds, h => rangeR call rd f params assign body tm ds h

def takeD : List Pos → AHeap → Option AHeap
  | [], h => some h
  | d :: ds, h => match h.get d with
    | some (.defd false) => takeD ds (h.set d (.defd true))
    | _ => none
def resOne (tm : PT AVal) (h : AHeap) : ARes → Option AVal
  | .tmp t => some (evO tm (.t t))
  | .cell t => rLoadC h (evO tm (.t t))
  | .agg t n => rLoadA h (evO tm (.t t)) n
def resAll (tm : PT AVal) (h : AHeap) : List ARes → Option (List AVal)
  | [] => some []
  | r :: rs => match resOne tm h r with
    | none => none
    | some v => match resAll tm h rs with
      | none => none
      | some vs => some (v :: vs)
def resVal : List AVal → AVal
  | [v] => v
  | vs => .tuple vs
def retOf (rs : List ARes) (tm : PT AVal) (ds : List Pos) (h : AHeap) : ORes :=
  match takeD ds h with
  | none => .fail
  | some h => match resAll tm h rs with
    | none => .fail
    | some vs => .ok (resVal vs) h
def setAll : Pos → List AVal → PT AVal → PT AVal
  | _, [], tm => tm
  | p, v :: vs, tm => setAll p.succ vs (tm.set p v)
def setPs : List Pos → List AVal → PT AVal → PT AVal
  | t :: ts, v :: vs, tm => setPs ts vs (tm.set t v)
  | _, _, tm => tm
def lenP : List Pos → Nat
  | [] => 0
  | _ :: l => Nat.succ (lenP l)
def runFn (rs : List ARes) (r : Res) : ORes :=
  match r with
  | .ok .normal tm ds h => retOf rs tm ds h
  | .ok .ret tm ds h => retOf rs tm ds h
  | _ => .fail
def endRound (l : Pos) (e : AExit) (h : AHeap) : ORes :=
  match h.get l with
  | some (.loop ⟨_, _, t, ps, as, bd⟩) => match e with
    | .normal => .ok (.bool true) (h.set l (.loop ⟨.ready, .normal, t, ps, as, bd⟩))
    | e => .ok (.bool false) (h.set l (.loop ⟨.done, e, t, ps, as, bd⟩))
  | _ => .fail
def beginRound (l : Pos) (h : AHeap) : Option AHeap :=
  match h.get l with
  | some (.loop ⟨.ready, pd, t, ps, as, bd⟩) => some (h.set l (.loop ⟨.busy, pd, t, ps, as, bd⟩))
  | _ => none
def roundR (call : Goal → AHeap → ORes) (fuel : Nat) (l : Pos) (args : List AVal) (h : AHeap) : ORes :=
  match h.get l with
  | some (.loop ⟨_, _, t, ps, as, bd⟩) => match Nat.beq (lenL args) (lenP ps) with
    | false => .fail
    | true => match exec E call fuel (some l) as (setPs ps args t) [] h with
      | .ok .normal tm ds h => match beginRound l h with
        | none => .fail
        | some h => match exec E call fuel (some l) bd tm ds h with
          | .ok e _ _ h => endRound l e h
          | .fail => .fail
      | _ => .fail
  | _ => .fail
def goalRun (call : Goal → AHeap → ORes) (fuel : Nat) (g : Goal) (h : AHeap) : ORes :=
  match g with
  | .fn f args => match E.fns.get f with
    | some (.code c rs) => runFn rs (exec E call fuel none c (setAll .h args .lf) [] h)
    | some (.intr k) => k args h
    | none => .fail
  | .yield l args => roundR E call fuel l args h
/-- depth: how deep calls may be; fuel: how many rounds a loop may have -/
def callA (fuel : Nat) : Nat → Goal → AHeap → ORes
  | 0, _, _ => .fail
  | n + 1, g, h => goalRun E (callA fuel n) fuel g h
end Go.AI
