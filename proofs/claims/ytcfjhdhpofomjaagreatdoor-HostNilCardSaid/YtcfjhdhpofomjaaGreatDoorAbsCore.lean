/- The abstract machine: a deterministic evaluator over compiled code of the program's functions. -/
import Derived.Orders
set_option linter.unusedSectionVars false
set_option linter.unusedSimpArgs false
set_option linter.unusedVariables false
set_option linter.constructorNameAsVariable false
namespace Go.Abs
noncomputable section

/-- No capacity is known. -/
def UNK : Nat := 18446744073709551616

/-- A number as a road through a binary tree: 0; 2 p + 1; 2 p + 2. -/
inductive Pth where
  | z
  | l (p : Pth)
  | r (p : Pth)
  deriving Inhabited, DecidableEq
def Pth.inc : Pth → Pth
  | .z => .l .z
  | .l p => .r p
  | .r p => .l p.inc

inductive AV where
  | b (x : Bool)
  | i (k : IntKind) (n : Int)
  | s (len n : Nat)
  | np
  | p (blk : Pth) (off : Nat)
  | ns
  | sl (blk : Pth) (off len cap : Nat)
  | nf
  | fn (f : Nat) (first captured : List AV)
  | ni
  | nm
  | agg (l : List AV)
  | tup (l : List AV)
  /-- A value of one cell of which nothing is known: what the environment says. -/
  | q (i : Nat)
  /-- The yield of the loop that ranges over this function. -/
  | yi
  deriving Inhabited

/- A map from numbers to values: a binary trie. -/
inductive T (α : Type) where
  | e
  | n (l : T α) (v : Option α) (r : T α)
  deriving Inhabited

namespace T
variable {α : Type}
def getP (p : Pth) (t : T α) : Option α :=
  Pth.rec (motive := fun _ => T α → Option α)
    (fun t => T.rec (motive := fun _ => Option α) none (fun _ v _ _ _ => v) t)
    (fun _ ih t => T.rec (motive := fun _ => Option α) none (fun l _ _ _ _ => ih l) t)
    (fun _ ih t => T.rec (motive := fun _ => Option α) none (fun _ _ r _ _ => ih r) t) p t
/-- A node whose left (right) child is forced. -/
def mkl (v : Option α) (r c : T α) : T α := T.rec (motive := fun _ => T α) (.n .e v r) (fun a b d _ _ => .n (.n a b d) v r) c
def mkr (l : T α) (v : Option α) (c : T α) : T α := T.rec (motive := fun _ => T α) (.n l v .e) (fun a b d _ _ => .n l v (.n a b d)) c
def putP (v : α) (p : Pth) (t : T α) : T α :=
  Pth.rec (motive := fun _ => T α → T α)
    (fun t => T.rec (motive := fun _ => T α) (.n .e (some v) .e) (fun l _ r _ _ => .n l (some v) r) t)
    (fun _ ih t => T.rec (motive := fun _ => T α) (mkl none .e (ih .e)) (fun l x r _ _ => mkl x r (ih l)) t)
    (fun _ ih t => T.rec (motive := fun _ => T α) (mkr .e none (ih .e)) (fun l x r _ _ => mkr l x (ih r)) t) p t
def get (t : T α) (i : Nat) : Option α :=
  T.rec (motive := fun _ => Nat → Option α) (fun _ => none)
    (fun _ v _ ihl ihr i => Bool.rec (motive := fun _ => Option α)
      (Bool.rec (motive := fun _ => Option α) (ihr (Nat.pred (Nat.div i 2))) (ihl (Nat.div i 2)) (Nat.beq (Nat.mod i 2) 1)) v (Nat.beq i 0)) t i
def set (v : α) (f : Nat) (t : T α) (i : Nat) : T α :=
  Nat.rec (motive := fun _ => T α → Nat → T α) (fun t _ => t)
    (fun _ ih t i => Bool.rec (motive := fun _ => T α)
      (Bool.rec (motive := fun _ => T α)
        (T.rec (motive := fun _ => T α) (mkr .e none (ih .e (Nat.pred (Nat.div i 2)))) (fun l x r _ _ => mkr l x (ih r (Nat.pred (Nat.div i 2)))) t)
        (T.rec (motive := fun _ => T α) (mkl none .e (ih .e (Nat.div i 2))) (fun l x r _ _ => mkl x r (ih l (Nat.div i 2))) t)
        (Nat.beq (Nat.mod i 2) 1))
      (T.rec (motive := fun _ => T α) (.n .e (some v) .e) (fun l _ r _ _ => .n l (some v) r) t) (Nat.beq i 0)) f t i
def put (t : T α) (i : Nat) (v : α) : T α := set v (Nat.succ i) t i
end T

structure Blk where
  cells : T AV
  size : Nat
  stride : Nat
  root : Option Pth      -- none: itself
  ver : Nat              -- its place in its family
  tipv : Nat             -- of a root: the newest member's place; members below 'low' are not read any more
  low : Nat

structure Hp where
  m : T Blk
  nx : Pth

inductive AX where
  | t (n : Pth)
  | c (v : AV)

inductive AOp where
  | mov (x : AX)
  | pick (c a b : AX)
  | bin (op : BinOp) (x y : AX)
  | binb (neg : Bool) (x y : AX)
  | cmpn (c : Nat) (neg : Bool) (x y : AX)
  | eqa (neg : Bool) (cs : List Nat) (x y : AX)
  | un (op : UnOp) (x : AX)
  | conv (k : IntKind) (x : AX)
  | ids (x : AX)
  | bts (x : AX)
  | stb (stride : Nat) (x : AX)
  | fld (x : AX) (off : Nat)
  | idx (x i : AX) (stride : Nat)
  | idxa (x i : AX) (stride len : Nat)
  | ld1 (x : AX)
  | ldn (x : AX) (n : Nat)
  | st (x v : AX) (n : Nat)
  | alloc (cells : List AV) (stride : Nat)
  | box (v : AX) (stride : Nat)
  | build (zero : List AV) (parts : List (Nat × Nat × AX))
  | bslice (zero : List AV) (len stride : Nat) (parts : List (Nat × Nat × AX))
  | mkslice (zero : List AV) (stride bytes : Nat) (l c : AX)
  | slc (x : AX) (stride : Nat) (lo hi mx : Option AX)
  | slca (x : AX) (n stride : Nat) (lo hi mx : Option AX)
  | slcs (x : AX) (lo hi : Option AX)
  | fieldv (x : AX) (off size : Nat) (isAgg : Bool)
  | indexs (x i : AX)
  | indexv (x i : AX) (len size : Nat) (isAgg : Bool)
  | ext (x : AX) (ix : Nat)
  | mkfn (f : Nat) (first captured : List AX)
  | nilck (x : AX)
  | call (f : Nat) (args : List AX)
  | callv (x : AX) (args : List AX)
  | len (x : AX)
  | lens (x : AX)
  | lenc (n : Nat)
  | cap (x : AX)
  | append (stride bytes : Nat) (s x : AX)
  | copy (stride : Nat) (d s : AX)
  | minmax (isMax : Bool) (args : List AX)
  | arrp (x : AX) (n : Nat)
  | bad

inductive AOper where
  | o (dst : Pth) (op : AOp)
  | n (op : AOp)
  | g (dst : Pth) (op : AOp) (tmp : Pth) (want : Bool)
  | gn (op : AOp) (tmp : Pth) (want : Bool)
  | c (dst : Pth) (op : AOp)                               -- does the operation still come to the same?
  | cg (dst : Pth) (op : AOp) (tmp : Pth) (want : Bool)

inductive ACode where
  | skip
  | ops (l : List AOper)
  | seq (a b : ACode)
  | cond (c : AX) (a b : ACode)
  | block (id : Nat) (c : ACode)
  | loop (c : ACode)
  | exit (id : Nat)
  | ret
  | range (x : AX) (ps : List Pth) (assign body : ACode)
  | bad

inductive ARes where
  | t (n : Pth)
  | cell (a : Pth) (n : Nat) (isAgg : Bool)

inductive AExt where
  | countStr
  | indexByteStr

/- Results of an operation. -/
inductive Rv where
  | no
  | ok (v : AV) (h : Hp)

/-- A round of a loop; functions, given the round that their yield makes. -/
abbrev YF := List AV → Hp → Rv
structure Cl where
  it : Nat → Bool → YF → Nat → List AV → Hp → Rv
  lv : Nat
  yl : YF
def noY : YF := fun _ _ => .no
def Cl.fn (c : Cl) (f : Nat) (l : List AV) (h : Hp) : Rv := c.it c.lv false noY f l h

inductive AFn where
  | code (ntmps : Nat) (body : ACode) (res : List ARes)
  | ext (x : AExt)
  | fn (g : List AV → Hp → Rv)
  | opt (na : Nat) (body : ACode) (res : List ARes)

def bEq : Bool → Bool → Bool
  | true, true | false, false => true
  | _, _ => false
/- Results of code. -/
inductive R where
  | no
  | go (t : T AV) (h : Hp)
  | ret (t : T AV) (h : Hp)
  | exit (id : Nat) (t : T AV) (h : Hp)

def forceN {β : Type} (n : Nat) (k : Nat → β) : β := Nat.rec (motive := fun _ => β) (k 0) (fun m _ => k (Nat.succ m)) n
/-- A short if. -/
def cnd {β : Type} (c : Bool) (a b : β) : β := Bool.rec (motive := fun _ => β) b a c
def onO {α β : Type} (x : Option α) (d : β) (k : α → β) : β := Option.rec (motive := fun _ => β) d k x

def ax (tm : T AV) (x : AX) : Option AV := AX.rec (motive := fun _ => Option AV) (fun n => T.getP n tm) (fun v => some v) x
def axs (tm : T AV) (l : List AX) : Option (List AV) :=
  List.rec (motive := fun _ => Option (List AV)) (some [])
    (fun x _ ih => onO (ax tm x) none fun v => onO ih none fun l => some (v :: l)) l

def look (h : Hp) (b : Pth) : Option Blk :=
  onO (T.getP b h.m) none fun B => onO B.root
    (cnd (Nat.ble B.low B.ver) (some B) none)
    (fun q => onO (T.getP q h.m) none fun Q => cnd (Nat.ble Q.low B.ver) (some B) none)

def readB (B : Blk) (off : Nat) : Option AV := cnd (Nat.blt off B.size) (T.get B.cells off) none
def readBN (B : Blk) (off n : Nat) : Option (List AV) :=
  Nat.rec (motive := fun _ => Nat → Option (List AV)) (fun _ => some [])
    (fun _ ih off => onO (readB B off) none fun v => onO (ih (Nat.succ off)) none fun l => some (v :: l)) n off
def readN (h : Hp) (b : Pth) (off n : Nat) : Option (List AV) := onO (look h b) none fun B => readBN B off n
def cellsOf : AV → List AV
  | .agg l => l
  | v => [v]
/-- The number of a string's bytes. -/
def strN : List UInt8 → Nat
  | [] => 0
  | c :: r => c.toNat + 256 * strN r
mutual
/-- Is no yield in it? -/
def AV.pur : AV → Bool
  | .yi => false
  | .fn _ a c => cnd (purL a) (purL c) false
  | .agg l | .tup l => purL l
  | _ => true
def purL : List AV → Bool
  | [] => true
  | v :: r => cnd v.pur (purL r) false
end
/-- Values of one cell. -/
def AV.one : AV → Bool
  | .agg _ | .tup _ | .yi => false
  | .fn _ a c => cnd (purL a) (purL c) false
  | _ => true
def ones : List AV → Bool
  | [] => true
  | v :: r => cnd v.one (ones r) false
def setL (l : List AV) (c : T AV) (off : Nat) : T AV :=
  List.rec (motive := fun _ => T AV → Nat → T AV) (fun c _ => c)
    (fun v _ ih c off => T.rec (motive := fun _ => T AV) (ih .e (Nat.succ off)) (fun a b d _ _ => ih (.n a b d) (Nat.succ off)) (T.put c off v)) l c off
def forceT (t : T AV) (k : T AV → Hp) : Hp := T.rec (motive := fun _ => Hp) (k .e) (fun a b d _ _ => k (.n a b d)) t
def forceM (t : T Blk) (nx : Pth) : Hp := T.rec (motive := fun _ => Hp) ⟨.e, nx⟩ (fun a b d _ _ => ⟨.n a b d, nx⟩) t
/-- Writes cells through a block that is the newest of its family; the elder ones are not read any more. -/
def writeL (h : Hp) (b : Pth) (off n : Nat) (vs : List AV) : Option Hp :=
  onO (T.getP b h.m) none fun B => cnd (Nat.ble (Nat.add off n) B.size)
    (onO B.root
      (cnd (Nat.beq B.tipv B.ver)
        (some (forceT (setL vs B.cells off) fun c => forceM (T.putP { B with cells := c, low := B.ver } b h.m) h.nx)) none)
      (fun q => onO (T.getP q h.m) none fun Q => cnd (Nat.beq Q.tipv B.ver)
        (some (forceT (setL vs B.cells off) fun c => forceM (T.putP { Q with low := B.ver } q (T.putP { B with cells := c } b h.m)) h.nx)) none))
    none

def ofL (l : List AV) : T AV := setL l .e 0
def newBlk (h : Hp) (cells : T AV) (size stride : Nat) : Hp :=
  forceT cells fun cells => forceN size fun size => forceM (T.putP { cells, size, stride, root := none, ver := 0, tipv := 0, low := 0 } h.nx h.m) h.nx.inc

/- Integers. -/
def limK : IntKind → Nat
  | .i8 => 128 | .i16 => 32768 | .i32 => 2147483648 | .i64 => 9223372036854775808
  | .u8 => 256 | .u16 => 65536 | .u32 => 4294967296 | .u64 => 18446744073709551616
def rawI (k : IntKind) (n : Int) : Option AV :=
  Int.rec (motive := fun _ => Option AV) (fun m => forceN m fun m => some (.i k (.ofNat m))) (fun m => forceN m fun m => some (.i k (.negSucc m))) n
def forceI (k : IntKind) (n : Int) : Option AV :=
  Int.rec (motive := fun _ => Option AV)
    (fun m => cnd (Nat.blt m (limK k)) (forceN m fun m => some (.i k (.ofNat m))) (rawI k (k.wrap (.ofNat m))))
    (fun m => rawI k (k.wrap (.negSucc m))) n
def kindEq : IntKind → IntKind → Bool
  | .i8, .i8 | .i16, .i16 | .i32, .i32 | .i64, .i64 | .u8, .u8 | .u16, .u16 | .u32, .u32 | .u64, .u64 => true
  | _, _ => false
def intEq : Int → Int → Bool
  | .ofNat a, .ofNat b => Nat.beq a b
  | .negSucc a, .negSucc b => Nat.beq a b
  | _, _ => false
def intLt : Int → Int → Bool
  | .ofNat a, .ofNat b => Nat.blt a b
  | .negSucc a, .negSucc b => Nat.blt b a
  | .ofNat _, .negSucc _ => false
  | .negSucc _, .ofNat _ => true
def bitsI (k : IntKind) (f : Nat → Nat → Nat) (x y : Int) : Option AV :=
  forceI k (.ofNat (f (x % ((2 ^ k.bits : Nat) : Int)).toNat (y % ((2 ^ k.bits : Nat) : Int)).toNat))
def addI (k : IntKind) (x y : Int) : Option AV := forceI k (Int.add x y)
def subI (k : IntKind) (x y : Int) : Option AV := forceI k (Int.sub x y)
def mulI (k : IntKind) (x y : Int) : Option AV := forceI k (Int.mul x y)
def quoI (k : IntKind) (x y : Int) : Option AV := cnd (intEq y (.ofNat 0)) none (forceI k (Int.tdiv x y))
def remI (k : IntKind) (x y : Int) : Option AV := cnd (intEq y (.ofNat 0)) none (rawI k (Int.tmod x y))
def binI (op : BinOp) (k : IntKind) (x y : Int) : Option AV :=
  match op with
  | .add => addI k x y
  | .sub => subI k x y
  | .mul => mulI k x y
  | .eql => some (.b (intEq x y))
  | .neq => some (.b (!intEq x y))
  | .lss => some (.b (intLt x y))
  | .leq => some (.b (!intLt y x))
  | .gtr => some (.b (intLt y x))
  | .geq => some (.b (!intLt x y))
  | .quo => quoI k x y
  | .rem => remI k x y
  | .and => bitsI k Nat.land x y
  | .or => bitsI k Nat.lor x y
  | .xor => bitsI k Nat.xor x y
  | .andNot => bitsI k (fun a b => Nat.land a (Nat.sub (Nat.sub (Nat.pow 2 k.bits) 1) b)) x y
  | _ => none
def shlI (k : IntKind) (x : Int) (n : Nat) : Option AV := forceI k (Int.mul x (.ofNat (Nat.pow 2 (Nat.min n k.bits))))
def shrI (k : IntKind) (x : Int) (n : Nat) : Option AV := rawI k (Int.fdiv x (.ofNat (Nat.pow 2 (Nat.min n k.bits))))
def shiftI (f : IntKind → Int → Nat → Option AV) (k : IntKind) (x y : Int) : Option AV :=
  Int.rec (motive := fun _ => Option AV) (fun n => f k x n) (fun _ => none) y
/- Strings: a length and a number, the first byte the least. -/
def strLt : Nat → Nat → Nat → Nat → Nat → Bool
  | 0, _, _, _, _ => false
  | f + 1, la, a, lb, b => cnd (Nat.beq lb 0) false (cnd (Nat.beq la 0) true
      (cnd (Nat.beq (Nat.mod a 256) (Nat.mod b 256)) (strLt f (Nat.pred la) (Nat.div a 256) (Nat.pred lb) (Nat.div b 256)) (Nat.blt (Nat.mod a 256) (Nat.mod b 256))))
def catS (la a lb b : Nat) : Option AV :=
  forceN (Nat.add la lb) fun l => cnd (Nat.blt l 4611686018427387904) (forceN (Nat.add a (Nat.mul b (Nat.pow 256 la))) fun n => some (.s l n)) none
def strEq (la a lb b : Nat) : Bool := cnd (Nat.beq la lb) (Nat.beq a b) false
def strLe (la a lb b : Nat) : Bool := cnd (strLt (Nat.succ la) la a lb b) true (strEq la a lb b)
def binS (op : BinOp) (la a lb b : Nat) : Option AV :=
  match op with
  | .add => catS la a lb b
  | .eql => some (.b (strEq la a lb b))
  | .neq => some (.b (!strEq la a lb b))
  | .lss => some (.b (strLt (Nat.succ la) la a lb b))
  | .gtr => some (.b (!strLe la a lb b))
  | .leq => some (.b (strLe la a lb b))
  | .geq => some (.b (!strLt (Nat.succ la) la a lb b))
  | _ => none
/-- Equality of flat aggregates: of bools (0), ints (1), strings (2). -/
def eqFlat (c : Nat) (x y : AV) : Option Bool :=
  match c, x, y with
  | 0, .b x, .b y => some (bEq x y)
  | 1, .i k x, .i j y => cnd (kindEq k j) (some (intEq x y)) none
  | 2, .s l n, .s l' n' => some (strEq l n l' n')
  | _, _, _ => none
def eqFlats : List Nat → List AV → List AV → Option Bool
  | [], [], [] => some true
  | c :: cs, x :: r, y :: r' => onO (eqFlat c x y) none fun b => cnd b (eqFlats cs r r') (some false)
  | _, _, _ => none
/-- A comparison with nil: of pointers (0), slices (1), functions (2). -/
def isNilCmp (c : Nat) (x y : AV) : Option Bool :=
  match c, x, y with
  | 0, .np, .np => some true
  | 0, .np, .p _ _ => some false
  | 0, .p _ _, .np => some false
  | 1, .ns, .ns => some true
  | 1, .ns, .sl .. => some false
  | 1, .sl .., .ns => some false
  | 2, .nf, .nf => some true
  | 2, .nf, .fn .. => some false
  | 2, .fn .., .nf => some false
  | _, _, _ => none
def binII (op : BinOp) (k : IntKind) (a : Int) (k' : IntKind) (b : Int) : Option AV :=
  match op with
  | .shl => shiftI shlI k a b
  | .shr => shiftI shrI k a b
  | op => cnd (kindEq k k') (binI op k a b) none
def forceB : Option AV → Option AV
  | some (.b true) => some (.b true)
  | some (.b false) => some (.b false)
  | x => x
def binV (op : BinOp) (x y : AV) : Option AV :=
  match x, y with
  | .i k a, .i k' b => forceB (binII op k a k' b)
  | .s la a, .s lb b => forceB (binS op la a lb b)
  | _, _ => none
def boolV (x : Bool) : AV := cnd x (.b true) (.b false)
def binbV (neg : Bool) (x y : AV) : Option AV :=
  match x, y with
  | .b a, .b c => some (boolV (cnd neg (!bEq a c) (bEq a c)))
  | _, _ => none
def unV (op : UnOp) (x : AV) : Option AV :=
  match op, x with
  | .not, .b true => some (.b false)
  | .not, .b false => some (.b true)
  | .neg, .i k n => forceI k (Int.neg n)
  | _, _ => none

def listGet : List AV → Nat → Option AV
  | [], _ => none
  | v :: r, i => cnd (Nat.beq i 0) (some v) (listGet r (Nat.pred i))
def listTake : List AV → Nat → List AV
  | [], _ => []
  | v :: r, i => cnd (Nat.beq i 0) [] (v :: listTake r (Nat.pred i))
def listDrop : List AV → Nat → List AV
  | [], _ => []
  | v :: r, i => cnd (Nat.beq i 0) (v :: r) (listDrop r (Nat.pred i))
def partOf (l : List AV) (off size : Nat) (isAgg : Bool) : Option AV :=
  cnd isAgg (some (.agg (listTake (listDrop l off) size))) (listGet l off)
def listLen : List AV → Nat
  | [] => 0
  | _ :: r => Nat.succ (listLen r)
/-- Lays the parts over the cells. -/
def fillL (tm : T AV) : List (Nat × Nat × AX) → List AV → Option (List AV)
  | [], cells => some cells
  | (off, size, x) :: r, cells => onO (ax tm x) none fun v =>
      cnd (Nat.beq (listLen (cellsOf v)) size) (cnd (Nat.ble (Nat.add off size) (listLen cells))
        (fillL tm r (listTake cells off ++ (cellsOf v ++ listDrop cells (Nat.add off size)))) none) none
def repL (z : List AV) : Nat → List AV
  | 0 => []
  | n + 1 => z ++ repL z n

/-- An index or a bound. -/
def asN : AV → Option Nat
  | .i _ (.ofNat n) => some n
  | _ => none
def axN (tm : T AV) (x : AX) : Option Nat := onO (ax tm x) none asN
def bnd (tm : T AV) (x : Option AX) (d : Nat) : Option Nat := onO x (some d) (axN tm)

def bytesOf : Nat → Nat → List AV
  | 0, _ => []
  | l + 1, n => forceN (Nat.mod n 256) fun c => .i .u8 (.ofNat c) :: bytesOf l (Nat.div n 256)
def toStr : List AV → Option (Nat × Nat)
  | [] => some (0, 0)
  | .i .u8 (.ofNat c) :: r => cnd (Nat.blt c 256) (onO (toStr r) none fun x => some (Nat.succ x.1, Nat.add c (Nat.mul 256 x.2))) none
  | _ => none

def onP (v : Option AV) (k : Pth → Nat → Rv) : Rv :=
  match v with
  | some (.p b o) => k b o
  | _ => .no
def onS (v : Option AV) (k : Nat → Nat → Rv) : Rv :=
  match v with
  | some (.s l n) => k l n
  | _ => .no
def onSl (v : Option AV) (k : Pth → Nat → Nat → Nat → Rv) : Rv :=
  match v with
  | some (.sl b o l c) => k b o l c
  | _ => .no
def onAgg (v : Option AV) (k : List AV → Rv) : Rv :=
  match v with
  | some (.agg l) => k l
  | _ => .no
def rv (h : Hp) (x : Option AV) : Rv := onO x .no fun v => .ok v h

/-- The cells of the old slice and the new ones in a family of their own. -/
def growL (h : Hp) (stride : Nat) (B : Blk) (off len need : Nat) (xs : List AV) : Rv :=
  onO (readBN B off (Nat.mul len stride)) .no fun old => .ok (.sl h.nx 0 need UNK) (newBlk h (ofL (old ++ xs)) (Nat.mul need stride) stride)
/-- The cells of the new member. -/
def memCells (B : Blk) (stride off len e : Nat) (xs : List AV) : Option (T AV) :=
  cnd (Nat.beq off 0) (some (setL xs B.cells e)) (onO (readBN B off (Nat.mul len stride)) none fun old => some (ofL (old ++ xs)))
def rootOf (h : Hp) (b : Pth) (B : Blk) : Option (Pth × Blk) :=
  onO B.root (some (b, B)) fun q => onO (T.getP q h.m) none fun Q => some (q, Q)
def member (h : Hp) (stride need cap : Nat) (q : Pth) (Q : Blk) (cells : T AV) (keep : Bool) : Rv :=
  forceN (Nat.mul need stride) fun size => forceN (Nat.succ Q.tipv) fun v =>
    .ok (.sl h.nx 0 need cap)
      (forceT cells fun cells => forceM (T.putP { Q with tipv := v, low := cnd keep Q.low v } q
        (T.putP { cells, size, stride, root := some q, ver := v, tipv := 0, low := 0 } h.nx h.m)) h.nx.inc)
def stayL (h : Hp) (stride : Nat) (b : Pth) (B : Blk) (off len cap need : Nat) (xs : List AV) : Rv :=
  forceN (Nat.add off (Nat.mul len stride)) fun e => cnd (Nat.ble e B.size)
    (onO (memCells B stride off len e xs) .no fun cells => onO (rootOf h b B) .no fun x =>
      cnd (Nat.beq x.2.tipv B.ver) (member h stride need cap x.1 x.2 cells (Nat.beq e B.size)) .no) .no
def appSl (h : Hp) (stride : Nat) (b : Pth) (off len cap k : Nat) (xs : List AV) : Rv :=
  onO (look h b) .no fun B => cnd (Nat.beq B.stride stride)
    (forceN (Nat.add len k) fun need => cnd (Nat.blt cap need) (growL h stride B off len need xs) (stayL h stride b B off len cap need xs)) .no
def appendL (h : Hp) (stride : Nat) (s : AV) (k : Nat) (xs : List AV) : Rv :=
  match s with
  | .ns => cnd (Nat.beq k 0) (.ok .ns h) (.ok (.sl h.nx 0 k UNK) (newBlk h (ofL xs) (Nat.mul k stride) stride))
  | .sl b off len cap => cnd (Nat.beq k 0) (.ok (.sl b off len cap) h) (appSl h stride b off len cap k xs)
  | _ => .no

def cellsFor (h : Hp) (stride : Nat) (v : AV) : Option (Nat × List AV) :=
  match v with
  | .ns => some (0, [])
  | .s l n => cnd (Nat.beq stride 1) (some (l, bytesOf l n)) none
  | .sl b off len _ => cnd (Nat.beq len 0) (some (0, [])) (onO (readN h b off (Nat.mul len stride)) none fun l => some (len, l))
  | _ => none

def sliceK (b : Pth) (off stride lo hi top c : Nat) : Option AV :=
  cnd (Nat.ble hi top) (cnd (Nat.ble lo hi)
    (forceN (Nat.sub hi lo) fun n => cnd (Nat.beq c UNK) (forceN (Nat.add off (Nat.mul lo stride)) fun o => some (.sl b o n UNK))
      (forceN (Nat.sub c lo) fun c' => cnd (Nat.beq c' 0) (some (.sl b off n c')) (forceN (Nat.add off (Nat.mul lo stride)) fun o => some (.sl b o n c')))) none) none
def sliceV (b : Pth) (off len cap stride : Nat) (lo hi mx : Option Nat) : Option AV :=
  match mx, hi with
  | some m, some hi => cnd (Nat.ble m (cnd (Nat.beq cap UNK) len cap)) (cnd (Nat.blt m UNK) (sliceK b off stride (onO lo 0 id) hi m m) none) none
  | some _, none => none
  | none, hi => sliceK b off stride (onO lo 0 id) (onO hi len id) (cnd (Nat.beq cap UNK) len cap) cap
def optN (tm : T AV) : Option AX → Option (Option Nat)
  | none => some none
  | some x => onO (axN tm x) none fun n => some (some n)
def optN3 (tm : T AV) (lo hi mx : Option AX) (k : Option Nat → Option Nat → Option Nat → Rv) : Rv :=
  onO (optN tm lo) .no fun lo => onO (optN tm hi) .no fun hi => onO (optN tm mx) .no fun mx => k lo hi mx
def isZ : Option Nat → Bool
  | none => true
  | some n => Nat.beq n 0
def isN : Option Nat → Option Nat → Bool
  | none, _ => true
  | some m, some _ => Nat.beq m 0
  | some _, none => false

def minmaxL (isMax : Bool) : AV → List AV → Option AV
  | v, [] => some v
  | .i k a, .i k' b :: r => cnd (kindEq k k') (cnd (cnd isMax (intLt a b) (intLt b a)) (minmaxL isMax (.i k b) r) (minmaxL isMax (.i k a) r)) none
  | _, _ => none

section ops
variable (tm : T AV) (h : Hp)
def oMov (x : AX) : Rv := rv h (ax tm x)
def oPick (c a b : AX) : Rv :=
  match ax tm c with
  | some (.b x) => cnd x (rv h (ax tm a)) (rv h (ax tm b))
  | _ => .no
def oBin (op : BinOp) (x y : AX) : Rv := onO (ax tm x) .no fun a => onO (ax tm y) .no fun b => rv h (binV op a b)
def oBinb (neg : Bool) (x y : AX) : Rv := onO (ax tm x) .no fun a => onO (ax tm y) .no fun b => rv h (binbV neg a b)
def oCmpn (c : Nat) (neg : Bool) (x y : AX) : Rv := onO (ax tm x) .no fun a => onO (ax tm y) .no fun b =>
  onO (isNilCmp c a b) .no fun r => .ok (boolV (cnd neg (!r) r)) h
def oIds (x : AX) : Rv := onS (ax tm x) fun l n => .ok (.s l n) h
def oEqa (neg : Bool) (cs : List Nat) (x y : AX) : Rv := onAgg (ax tm x) fun a => onAgg (ax tm y) fun b => onO (eqFlats cs a b) .no fun r => .ok (boolV (cnd neg (!r) r)) h
def oUn (op : UnOp) (x : AX) : Rv := onO (ax tm x) .no fun a => rv h (unV op a)
def oConv (k : IntKind) (x : AX) : Rv :=
  match ax tm x with
  | some (.i _ n) => rv h (forceI k n)
  | _ => .no
def btsL (l : List AV) : Rv := onO (toStr l) .no fun s => forceN s.1 fun l => forceN s.2 fun n => .ok (.s l n) h
def oBts (x : AX) : Rv :=
  match ax tm x with
  | some .ns => .ok (.s 0 0) h
  | some (.sl b off len _) => cnd (Nat.beq len 0) (.ok (.s 0 0) h) (onO (readN h b off len) .no fun l => btsL h l)
  | _ => .no
def oStb (stride : Nat) (x : AX) : Rv := onS (ax tm x) fun l n => cnd (Nat.blt l 4611686018427387904) (.ok (.sl h.nx 0 l UNK) (newBlk h (ofL (bytesOf l n)) l stride)) .no
def oFld (x : AX) (off : Nat) : Rv := onP (ax tm x) fun b o => forceN (Nat.add o off) fun o => .ok (.p b o) h
def oIdx (x i : AX) (stride : Nat) : Rv := onSl (ax tm x) fun b o len _ => onO (axN tm i) .no fun i =>
  cnd (Nat.blt i len) (forceN (Nat.add o (Nat.mul i stride)) fun o => .ok (.p b o) h) .no
def oIdxa (x i : AX) (stride len : Nat) : Rv := onP (ax tm x) fun b o => onO (axN tm i) .no fun i =>
  cnd (Nat.blt i len) (forceN (Nat.add o (Nat.mul i stride)) fun o => .ok (.p b o) h) .no
def oLd1 (x : AX) : Rv := onP (ax tm x) fun b o => onO (look h b) .no fun B => rv h (readB B o)
def oLdn (x : AX) (n : Nat) : Rv := onP (ax tm x) fun b o => onO (readN h b o n) .no fun l => .ok (.agg l) h
def oSt (x v : AX) (n : Nat) : Rv := onP (ax tm x) fun b o => onO (ax tm v) .no fun v =>
  cnd (Nat.beq (listLen (cellsOf v)) n) (cnd (ones (cellsOf v)) (onO (writeL h b o n (cellsOf v)) .no fun h => .ok (.tup []) h) .no) .no
def oAlloc (cells : List AV) (stride : Nat) : Rv := .ok (.p h.nx 0) (newBlk h (ofL cells) (listLen cells) stride)
def oBox (v : AX) (stride : Nat) : Rv := onO (ax tm v) .no fun v => cnd (ones (cellsOf v)) (.ok (.p h.nx 0) (newBlk h (ofL (cellsOf v)) (listLen (cellsOf v)) stride)) .no
def oBuild (zero : List AV) (parts : List (Nat × Nat × AX)) : Rv := onO (fillL tm parts zero) .no fun l => .ok (.agg l) h
def oBslice (zero : List AV) (len stride : Nat) (parts : List (Nat × Nat × AX)) : Rv :=
  onO (fillL tm parts (repL zero len)) .no fun l => cnd (ones l) (.ok (.sl h.nx 0 len len) (newBlk h (ofL l) (listLen l) stride)) .no
def oMkslice (zero : List AV) (stride bytes : Nat) (l c : AX) : Rv := onO (axN tm l) .no fun l => onO (axN tm c) .no fun c =>
  cnd (Nat.ble l c) (cnd (Nat.ble (Nat.mul c bytes) 281474976710656) (cnd (Nat.blt c 4611686018427387904) (.ok (.sl h.nx 0 l c) (newBlk h (ofL (repL zero c)) (listLen (repL zero c)) stride)) .no) .no) .no
def oSlc (x : AX) (stride : Nat) (lo hi mx : Option AX) : Rv :=
  match ax tm x with
  | some (.sl b o len cap) => onO (T.getP b h.m) .no fun B => cnd (Nat.beq B.stride stride) (optN3 tm lo hi mx fun lo hi mx => rv h (sliceV b o len cap stride lo hi mx)) .no
  | some .ns => optN3 tm lo hi mx fun lo hi mx => cnd (isZ lo) (cnd (isZ hi) (cnd (isN mx hi) (.ok .ns h) .no) .no) .no
  | _ => .no
def oSlca (x : AX) (n stride : Nat) (lo hi mx : Option AX) : Rv :=
  onP (ax tm x) fun b o => onO (T.getP b h.m) .no fun B => cnd (Nat.beq B.stride stride) (cnd (Nat.ble (Nat.add o (Nat.mul n stride)) B.size) (cnd (Nat.blt n UNK)
    (optN3 tm lo hi mx fun lo hi mx => rv h (sliceV b o n n stride lo hi mx)) .no) .no) .no
def oSlcs (x : AX) (lo hi : Option AX) : Rv := onS (ax tm x) fun l n => onO (bnd tm lo 0) .no fun a => onO (bnd tm hi l) .no fun b =>
  cnd (Nat.ble b l) (cnd (Nat.ble a b) (forceN (Nat.sub b a) fun m => forceN (Nat.mod (Nat.div n (Nat.pow 256 a)) (Nat.pow 256 m)) fun n => .ok (.s m n) h) .no) .no
def oFieldv (x : AX) (off size : Nat) (isAgg : Bool) : Rv := onAgg (ax tm x) fun l => rv h (partOf l off size isAgg)
def oIndexs (x i : AX) : Rv := onS (ax tm x) fun l n => onO (axN tm i) .no fun i =>
  cnd (Nat.blt i l) (forceN (Nat.mod (Nat.div n (Nat.pow 256 i)) 256) fun c => .ok (.i .u8 (.ofNat c)) h) .no
def oIndexv (x i : AX) (len size : Nat) (isAgg : Bool) : Rv := onAgg (ax tm x) fun l => onO (axN tm i) .no fun i =>
  cnd (Nat.blt i len) (rv h (partOf l (Nat.mul i size) size isAgg)) .no
def oExt (x : AX) (ix : Nat) : Rv :=
  match ax tm x with
  | some (.tup l) => rv h (listGet l ix)
  | _ => .no
def oMkfn (f : Nat) (first captured : List AX) : Rv := onO (axs tm first) .no fun a => onO (axs tm captured) .no fun b => .ok (.fn f a b) h
def oNilck (x : AX) : Rv :=
  match ax tm x with
  | some (.p b o) => .ok (.p b o) h
  | some (.fn f a b) => .ok (.fn f a b) h
  | _ => .no
def oCall (call : Cl) (f : Nat) (args : List AX) : Rv := onO (axs tm args) .no fun l => call.fn f l h
def oCallv (call : Cl) (x : AX) (args : List AX) : Rv :=
  match ax tm x with
  | some (.fn f a b) => onO (axs tm args) .no fun l => call.fn f (a ++ (l ++ b)) h
  | some .yi => onO (axs tm args) .no fun l => call.yl l h
  | _ => .no
def oLen (x : AX) : Rv :=
  match ax tm x with
  | some .ns => .ok (.i .i64 (.ofNat 0)) h
  | some (.sl _ _ len _) => .ok (.i .i64 (.ofNat len)) h
  | _ => .no
def oLens (x : AX) : Rv := onS (ax tm x) fun l _ => .ok (.i .i64 (.ofNat l)) h
def oCap (x : AX) : Rv :=
  match ax tm x with
  | some .ns => .ok (.i .i64 (.ofNat 0)) h
  | some (.sl _ _ _ cap) => cnd (Nat.beq cap UNK) .no (.ok (.i .i64 (.ofNat cap)) h)
  | _ => .no
def lenOk (bytes : Nat) (r : Rv) : Rv :=
  match r with
  | .ok (.sl b o len cap) h => cnd (Nat.ble (Nat.mul len bytes) 1099511627776) (cnd (Nat.blt len 4611686018427387904) (.ok (.sl b o len cap) h) .no) .no
  | r => r
def oAppend (stride bytes : Nat) (s x : AX) : Rv := onO (ax tm s) .no fun s => onO (ax tm x) .no fun x =>
  onO (cellsFor h stride x) .no fun c => lenOk bytes (appendL h stride s c.1 c.2)
def copyTo (stride : Nat) (b : Pth) (o len k : Nat) (l : List AV) : Rv :=
  forceN (Nat.min k len) fun n => cnd (Nat.beq n 0) (.ok (.i .i64 (.ofNat 0)) h)
    (onO (writeL h b o (Nat.mul n stride) (listTake l (Nat.mul n stride))) .no fun h => .ok (.i .i64 (.ofNat n)) h)
def oCopy (stride : Nat) (d s : AX) : Rv := onO (ax tm s) .no fun s => onO (cellsFor h stride s) .no fun c =>
  match ax tm d with
  | some .ns => .ok (.i .i64 (.ofNat 0)) h
  | some (.sl b o len _) => copyTo h stride b o len c.1 c.2
  | _ => .no
def oMinmax (isMax : Bool) (args : List AX) : Rv :=
  match axs tm args with
  | some (v :: r) => rv h (minmaxL isMax v r)
  | _ => .no
def oArrp (x : AX) (n : Nat) : Rv := onSl (ax tm x) fun b o len _ => cnd (Nat.ble n len) (.ok (.p b o) h) .no
end ops

def evOp (call : Cl) (o : AOp) (tm : T AV) (h : Hp) : Rv :=
  match o with
  | .mov x => oMov tm h x
  | .pick c a b => oPick tm h c a b
  | .bin op x y => oBin tm h op x y
  | .binb neg x y => oBinb tm h neg x y
  | .cmpn c neg x y => oCmpn tm h c neg x y
  | .eqa neg cs x y => oEqa tm h neg cs x y
  | .un op x => oUn tm h op x
  | .conv k x => oConv tm h k x
  | .ids x => oIds tm h x
  | .bts x => oBts tm h x
  | .stb stride x => oStb tm h stride x
  | .fld x off => oFld tm h x off
  | .idx x i stride => oIdx tm h x i stride
  | .idxa x i stride len => oIdxa tm h x i stride len
  | .ld1 x => oLd1 tm h x
  | .ldn x n => oLdn tm h x n
  | .st x v n => oSt tm h x v n
  | .alloc cells stride => oAlloc h cells stride
  | .box v stride => oBox tm h v stride
  | .build zero parts => oBuild tm h zero parts
  | .bslice zero len stride parts => oBslice tm h zero len stride parts
  | .mkslice zero stride bytes l c => oMkslice tm h zero stride bytes l c
  | .slc x stride lo hi mx => oSlc tm h x stride lo hi mx
  | .slca x n stride lo hi mx => oSlca tm h x n stride lo hi mx
  | .slcs x lo hi => oSlcs tm h x lo hi
  | .fieldv x off size isAgg => oFieldv tm h x off size isAgg
  | .indexs x i => oIndexs tm h x i
  | .indexv x i len size isAgg => oIndexv tm h x i len size isAgg
  | .ext x ix => oExt tm h x ix
  | .mkfn f first captured => oMkfn tm h f first captured
  | .nilck x => oNilck tm h x
  | .call f args => oCall tm h call f args
  | .callv x args => oCallv tm h call x args
  | .len x => oLen tm h x
  | .lens x => oLens tm h x
  | .lenc n => .ok (.i .i64 (.ofNat n)) h
  | .cap x => oCap tm h x
  | .append stride bytes s x => oAppend tm h stride bytes s x
  | .copy stride d s => oCopy tm h stride d s
  | .minmax isMax args => oMinmax tm h isMax args
  | .arrp x n => oArrp tm h x n
  | .bad => .no

/-- On with temporaries that are forced. -/
def withT (t : T AV) (h : Hp) (k : T AV → Hp → R) : R := T.rec (motive := fun _ => R) (k .e h) (fun a b d _ _ => k (.n a b d) h) t
def onR (r : Rv) (k : AV → Hp → R) : R := Rv.rec (motive := fun _ => R) .no k r
def wanted (tm : T AV) (g : Pth) (want : Bool) : Option Bool :=
  match T.getP g tm with
  | some (.b x) => some (bEq x want)
  | some (.q _) => none
  | some _ => some false
  | none => none

/-- Equality of values, where it is seen. -/
def pEq : Pth → Pth → Bool
  | .z, .z => true
  | .l a, .l b => pEq a b
  | .r a, .r b => pEq a b
  | _, _ => false
def avEq1 : AV → AV → Bool
  | .b x, .b y => bEq x y
  | .i k x, .i j y => cnd (kindEq k j) (intEq x y) false
  | .s l n, .s l' n' => cnd (Nat.beq l l') (Nat.beq n n') false
  | .np, .np => true
  | .p b o, .p b' o' => cnd (Nat.beq o o') (pEq b b') false
  | .ns, .ns => true
  | .sl b o l c, .sl b' o' l' c' => cnd (Nat.beq o o') (cnd (Nat.beq l l') (cnd (Nat.beq c c') (pEq b b') false) false) false
  | .nf, .nf => true
  | .ni, .ni => true
  | .nm, .nm => true
  | .q i, .q j => Nat.beq i j
  | _, _ => false
def avEqs : List AV → List AV → Bool
  | [], [] => true
  | x :: r, y :: r' => cnd (avEq1 x y) (avEqs r r') false
  | _, _ => false
def avEq : AV → AV → Bool
  | .agg l, .agg l' => avEqs l l'
  | .tup l, .tup l' => avEqs l l'
  | x, y => avEq1 x y
def chk (call : Cl) (k : T AV → Hp → R) (tm : T AV) (h : Hp) (d : Pth) (op : AOp) : R :=
  onR (evOp call op tm h) fun v _ => onO (T.getP d tm) .no fun u => cnd (avEq v u) (k tm h) .no
def evOper (call : Cl) (k : T AV → Hp → R) (tm : T AV) (h : Hp) (o : AOper) : R :=
  AOper.rec (motive := fun _ => R)
    (fun d op => onR (evOp call op tm h) fun v h => withT (T.putP v d tm) h k)
    (fun op => onR (evOp call op tm h) fun _ h => k tm h)
    (fun d op g want => onO (wanted tm g want) .no fun w => cnd w (onR (evOp call op tm h) fun v h => withT (T.putP v d tm) h k) (withT (T.putP (.tup []) d tm) h k))
    (fun op g want => onO (wanted tm g want) .no fun w => cnd w (onR (evOp call op tm h) fun _ h => k tm h) (k tm h))
    (fun d op => chk call k tm h d op)
    (fun d op g want => onO (wanted tm g want) .no fun w => cnd w (chk call k tm h d op) (k tm h)) o
def evOps (call : Cl) (l : List AOper) (tm : T AV) (h : Hp) : R :=
  List.rec (motive := fun _ => T AV → Hp → R) (fun tm h => .go tm h) (fun o _ ih tm h => evOper call ih tm h o) l tm h

def onGo (r : R) (k : T AV → Hp → R) : R := R.rec (motive := fun _ => R) .no k (fun t h => .ret t h) (fun i t h => .exit i t h) r
def onExit (id : Nat) (r : R) : R :=
  R.rec (motive := fun _ => R) .no (fun t h => .go t h) (fun t h => .ret t h) (fun i t h => cnd (Nat.beq i id) (.go t h) (.exit i t h)) r
def onB (v : Option AV) (a b : R) : R :=
  match v with
  | some (.b x) => cnd x a b
  | _ => .no
def loopN (body : T AV → Hp → R) (f : Nat) (tm : T AV) (h : Hp) : R :=
  Nat.rec (motive := fun _ => T AV → Hp → R) (fun _ _ => .no) (fun _ ih tm h => onGo (body tm h) ih) f tm h

/- Ranges over functions: a jump that is pending stands at the reserved place: 0: none; 64 c + the loop's level: c = 1: ret; n + 2: exit n. -/
def pendOf (h : Hp) : Nat := onO (T.getP .z h.m) 0 fun B => B.size
def setPend (c : Nat) (h : Hp) : Hp := forceM (T.putP { cells := .e, size := c, stride := 1, root := none, ver := 0, tipv := 0, low := 0 } .z h.m) h.nx
def isPend (h : Hp) (r : Rv) : Rv := cnd (Nat.beq (pendOf h) 0) r .no
def pendCode (lv c : Nat) : Nat := Nat.add (Nat.mul 64 c) lv
def roundOut (lv : Nat) (r : R) : Rv :=
  R.rec (motive := fun _ => Rv) .no (fun _ h => isPend h (.ok (.b true) h)) (fun _ h => isPend h (.ok (.b false) (setPend (pendCode lv 1) h)))
    (fun id _ h => isPend h (.ok (.b false) (setPend (pendCode lv (Nat.add id 2)) h))) r
def goOnly (r : R) (k : T AV → Hp → Rv) : Rv := R.rec (motive := fun _ => Rv) .no k (fun _ _ => .no) (fun _ _ _ => .no) r
def setTm (ps : List Pth) (args : List AV) (tm : T AV) : Option (T AV) :=
  List.rec (motive := fun _ => List AV → T AV → Option (T AV))
    (fun args tm => List.rec (motive := fun _ => Option (T AV)) (some tm) (fun _ _ _ => none) args)
    (fun p _ ih args tm => List.rec (motive := fun _ => Option (T AV)) none (fun v r _ => T.rec (motive := fun _ => Option (T AV)) (ih r .e) (fun a b d _ _ => ih r (.n a b d)) (T.putP v p tm)) args) ps args tm
def roundF (lv : Nat) (assign body : T AV → Hp → R) (ps : List Pth) (tm : T AV) : YF := fun args h =>
  cnd (purL args) (isPend h (onO (setTm ps args tm) .no fun tm => goOnly (assign tm h) fun tm h => roundOut lv (body tm h))) .no
def outJump (tm : T AV) (h : Hp) (c : Nat) : R :=
  Nat.rec (motive := fun _ => R) .no (fun c _ => Nat.rec (motive := fun _ => R) (.ret tm (setPend 0 h)) (fun id _ => .exit id tm (setPend 0 h)) c) c
def outPend (lv : Nat) (tm : T AV) (h : Hp) (p : Nat) : R := cnd (Nat.beq p 0) (.go tm h) (cnd (Nat.beq (Nat.mod p 64) lv) (outJump tm h (Nat.div p 64)) .no)
def rangeOut (lv : Nat) (tm : T AV) (r : Rv) : R := onR r fun _ h => outPend lv tm h (pendOf h)
def lnilR (l : List AV) (r : R) : R := List.rec (motive := fun _ => R) r (fun _ _ _ => .no) l
def evRange (call : Cl) (assign body : T AV → Hp → R) (x : AX) (ps : List Pth) (tm : T AV) (h : Hp) : R :=
  match ax tm x with
  | some (.fn f a caps) => lnilR a (cnd (purL caps) (cnd (Nat.blt call.lv 64) (cnd (Nat.beq (pendOf h) 0) (rangeOut call.lv tm (call.it (Nat.succ call.lv) true (roundF call.lv assign body ps tm) f (.yi :: caps) h)) .no) .no) .no)
  | _ => .no

def evCode (call : Cl) (fuel : Nat) (c : ACode) : T AV → Hp → R :=
  ACode.rec (motive := fun _ => T AV → Hp → R)
    (fun tm h => .go tm h)
    (fun l tm h => evOps call l tm h)
    (fun _ _ iha ihb tm h => onGo (iha tm h) ihb)
    (fun c _ _ iha ihb tm h => onB (ax tm c) (iha tm h) (ihb tm h))
    (fun id _ ih tm h => onExit id (ih tm h))
    (fun _ ih tm h => loopN ih fuel tm h)
    (fun id tm h => .exit id tm h)
    (fun tm h => .ret tm h)
    (fun x ps _ _ iha ihb tm h => evRange call iha ihb x ps tm h)
    (fun _ _ => .no) c

def resV (tm : T AV) (h : Hp) : ARes → Option AV
  | .t n => T.getP n tm
  | .cell a n isAgg => match T.getP a tm with
    | some (.p b o) => cnd isAgg (onO (readN h b o n) none fun l => some (.agg l)) (onO (look h b) none fun B => readB B o)
    | _ => none
def resL (tm : T AV) (h : Hp) : List ARes → Option (List AV)
  | [] => some []
  | x :: r => onO (resV tm h x) none fun v => onO (resL tm h r) none fun l => some (v :: l)
def results (tm : T AV) (h : Hp) (l : List ARes) : Rv :=
  match resL tm h l with
  | some [v] => .ok v h
  | some l => .ok (.tup l) h
  | none => .no

/-- How often a byte stands in a string; where it stands first. -/
def countS : Nat → Nat → Nat → Nat → Nat
  | 0, _, _, acc => acc
  | l + 1, n, c, acc => cnd (Nat.beq (Nat.mod n 256) c) (countS l (Nat.div n 256) c (Nat.succ acc)) (countS l (Nat.div n 256) c acc)
def findS : Nat → Nat → Nat → Nat → Option Nat
  | 0, _, _, _ => none
  | l + 1, n, c, i => cnd (Nat.beq (Nat.mod n 256) c) (some i) (findS l (Nat.div n 256) c (Nat.succ i))
def evExt (x : AExt) (args : List AV) (h : Hp) : Rv :=
  match x with
  | .countStr => match args with
    | [.s l n, .i .u8 (.ofNat c)] => cnd (Nat.ble c 255) (forceN (countS l n c 0) fun r => .ok (.i .i64 (.ofNat r)) h) .no
    | _ => .no
  | .indexByteStr => match args with
    | [.s l n, .i .u8 (.ofNat c)] => cnd (Nat.ble c 255) (match findS l n c 0 with
      | some i => forceN i fun i => .ok (.i .i64 (.ofNat i)) h
      | none => .ok (.i .i64 (.negSucc 0)) h) .no
    | _ => .no

/-- Arguments into temporaries. -/
def argsT (l : List AV) (p : Pth) (tm : T AV) : T AV :=
  List.rec (motive := fun _ => Pth → T AV → T AV) (fun _ tm => tm)
    (fun v _ ih p tm => T.rec (motive := fun _ => T AV) (ih p.inc .e) (fun a b d _ _ => ih p.inc (.n a b d)) (T.putP v p tm)) l p tm
def fin (res : List ARes) (r : R) : Rv :=
  R.rec (motive := fun _ => Rv) .no (fun tm h => results tm h res) (fun tm h => results tm h res) (fun _ _ _ => .no) r
def callN (tbl : Nat → Option AFn) (fuel n : Nat) : Nat → Bool → YF → Nat → List AV → Hp → Rv :=
  Nat.rec (motive := fun _ => Nat → Bool → YF → Nat → List AV → Hp → Rv) (fun _ _ _ _ _ _ => .no)
    (fun _ ih lv ra yl f args h => onO (tbl f) .no fun fn => AFn.rec (motive := fun _ => Rv)
      (fun _ body res => fin res (evCode ⟨ih, lv, yl⟩ fuel body (argsT args .z .e) h))
      (fun x => cnd ra .no (evExt x args h)) (fun g => cnd ra .no (g args h)) (fun na body res => cnd (Nat.ble na (listLen args)) (fin res (evCode ⟨ih, lv, yl⟩ fuel body (argsT args .z .e) h)) .no) fn) n

end
end Go.Abs
