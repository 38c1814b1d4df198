/- The program's functions, compiled for the abstract machine. -/
import Derived.Test.YtcfjhdhpofomjaaGreatDoorAbsCore
set_option linter.unusedSectionVars false
set_option linter.unusedSimpArgs false
set_option linter.unusedVariables false
set_option linter.constructorNameAsVariable false
namespace Go.Abs
noncomputable section

mutual
def avOf : Value → Option AV
  | .bool x => some (.b x)
  | .int k n => some (.i k n)
  | .string s => some (.s s.data.toList.length (strN s.data.toList))
  | .pointer none => some .np
  | .slice none 0 0 => some .ns
  | .nilFunc => some .nf
  | .nilIface => some .ni
  | .map none => some .nm
  | .agg ⟨l⟩ => (avsOf l).map .agg
  | .tuple ⟨l⟩ => (avsOf l).map .tup
  | _ => none
def avsOf : List Value → Option (List AV)
  | [] => some []
  | v :: r => match avOf v, avsOf r with
    | some a, some l => some (a :: l)
    | _, _ => none
end
def pth : Nat → Pth
  | 0 => .z
  | n + 1 => (pth n).inc
def axOf : Operand → Option AX
  | .tmp t => some (.t (pth t))
  | .const v => (avOf v).map .c
  | .func f => some (.c (.fn f [] []))
  | .global _ => none
def axsOf : List Operand → Option (List AX)
  | [] => some []
  | x :: r => match axOf x, axsOf r with
    | some a, some l => some (a :: l)
    | _, _ => none
def axO : Option Operand → Option (Option AX)
  | none => some none
  | some x => (axOf x).map some

def optL : Option AX → List AX
  | none => []
  | some x => [x]
def reads : AOp → List AX
  | .mov x | .un _ x | .conv _ x | .ids x | .bts x | .stb _ x | .fld x _ | .ld1 x | .ldn x _ | .box x _ | .fieldv x _ _ _ | .ext x _ | .nilck x | .len x | .lens x | .cap x | .arrp x _ => [x]
  | .pick c x y => [c, x, y]
  | .bin _ x y | .binb _ x y | .cmpn _ _ x y | .eqa _ _ x y | .idx x y _ | .idxa x y _ _ | .st x y _ | .mkslice _ _ _ x y | .indexs x y | .indexv x y _ _ _ | .append _ _ x y | .copy _ x y => [x, y]
  | .alloc .. | .lenc _ | .bad => []
  | .build _ ps | .bslice _ _ _ ps => ps.map (·.2.2)
  | .slc x _ l h m | .slca x _ _ l h m => x :: (optL l ++ optL h ++ optL m)
  | .slcs x l h => x :: (optL l ++ optL h)
  | .mkfn _ f c => f ++ c
  | .call _ l | .minmax _ l => l
  | .callv x l => x :: l

/-- 0: the heap does not matter; 1: it is read; 2: one block is laid; 3: all others. -/
def kindOf : AOp → Nat
  | .mov _ | .pick .. | .bin .. | .binb .. | .cmpn .. | .eqa .. | .un .. | .conv .. | .ids _ | .fld .. | .idx .. | .idxa .. | .build .. | .slcs .. | .fieldv .. | .indexs .. | .indexv .. | .ext .. | .mkfn .. | .nilck _ | .len _ | .lens _ | .lenc _
  | .cap _ | .minmax .. | .arrp .. => 0
  | .ld1 _ | .ldn .. | .slc .. | .slca .. => 1
  | .alloc .. | .box .. | .bslice .. | .mkslice .. => 2
  | _ => 3

def isMake : Op → Bool
  | .alloc _ | .box .. | .buildSlice .. | .makeSlice .. => true
  | _ => false
section
variable (P : Program)
def sz (t : TypeId) : Option Nat := (P.info? t).map (·.size)
def by_ (t : TypeId) : Option Nat := (P.info? t).map (·.bytes)
def zeroOf (t : TypeId) : Option (List AV) := do
  let l ← avsOf (← (← P.info? t).zero).cells.toList
  match ones l && Nat.beq (listLen l) (← P.info? t).size with
  | true => some l
  | false => none
def isAggT (t : TypeId) : Option Bool := do
  match ← P.underlying t with
  | .struct _ | .array _ _ => some true
  | _ => some false
def strideOf (t : TypeId) : Option Nat := do
  match ← P.underlying t with
  | .array _ e => sz P e
  | _ => sz P t
def partsS (fs : Array Field) : List (Nat × Operand) → Option (List (Nat × Nat × AX))
  | [] => some []
  | (i, x) :: r => do
    let f ← fs[i]?
    some ((f.offset, ← sz P f.type, ← axOf x) :: (← partsS fs r))
def partsA (size : Nat) : List (Nat × Operand) → Option (List (Nat × Nat × AX))
  | [] => some []
  | (i, x) :: r => do some ((i * size, size, ← axOf x) :: (← partsA size r))
/-- Fields that are flat, without blanks, one behind the other: which they are. -/
def flatK : List Field → Nat → Option (List Nat)
  | [], _ => some []
  | f :: r, i => match f.name != "_" && Nat.beq f.offset i with
    | true => do
      let k ← match ← P.underlying f.type with
        | .bool => some 0
        | .int _ => some 1
        | .string => some 2
        | _ => none
      some (k :: (← flatK r (i + 1)))
    | false => none
def compOp (o : Oper) : Option AOp :=
  match o.op with
  | .move x | .assign x => do some (.mov (← axOf x))
  | .pick c a b => do some (.pick (← axOf c) (← axOf a) (← axOf b))
  | .alloc t => do some (.alloc (← zeroOf P t) (← strideOf P t))
  | .box t x => do some (.box (← axOf x) (← strideOf P t))
  | .build t parts => do
    match ← P.underlying t with
    | .struct fs => match fs.toList.all fun f => (sz P f.type).isSome with
      | true => some (.build (← zeroOf P t) (← partsS P fs parts.toList))
      | false => none
    | .array _ e => some (.build (← zeroOf P t) (← partsA (← sz P e) parts.toList))
    | _ => none
  | .buildSlice t len parts => do
    match ← P.underlying t with
    | .slice e => if len * (← sz P e) > 2 ^ 24 then none else some (.bslice (← zeroOf P e) len (← sz P e) (← partsA (← sz P e) parts.toList))
    | _ => none
  | .load t x => do
    match ← isAggT P t with
    | true => some (.ldn (← axOf x) (← sz P t))
    | false => some (.ld1 (← axOf x))
  | .store t x v => do some (.st (← axOf x) (← axOf v) (← sz P t))
  | .nilCheck x => do some (.nilck (← axOf x))
  | .binOp op t x y _ => do
    match ← P.underlying t, op with
    | .struct fs, .eql => match !P.stoodInHeld t && !P.eqGuardType P.depth t with
      | true => some (.eqa false (← flatK P fs.toList 0) (← axOf x) (← axOf y))
      | false => none
    | .struct fs, .neq => match !P.stoodInHeld t && !P.eqGuardType P.depth t with
      | true => some (.eqa true (← flatK P fs.toList 0) (← axOf x) (← axOf y))
      | false => none
    | .int _, op => some (.bin op (← axOf x) (← axOf y))
    | .string, op => some (.bin op (← axOf x) (← axOf y))
    | .bool, .eql => some (.binb false (← axOf x) (← axOf y))
    | .bool, .neq => some (.binb true (← axOf x) (← axOf y))
    | .pointer _, .eql => some (.cmpn 0 false (← axOf x) (← axOf y))
    | .pointer _, .neq => some (.cmpn 0 true (← axOf x) (← axOf y))
    | .slice _, .eql => some (.cmpn 1 false (← axOf x) (← axOf y))
    | .slice _, .neq => some (.cmpn 1 true (← axOf x) (← axOf y))
    | .func .., .eql => some (.cmpn 2 false (← axOf x) (← axOf y))
    | .func .., .neq => some (.cmpn 2 true (← axOf x) (← axOf y))
    | _, _ => none
  | .unOp op _ x => do some (.un op (← axOf x))
  | .convert src dst x => do
    match ← P.underlying src, ← P.underlying dst with
    | .int _, .int k => some (.conv k (← axOf x))
    | .string, .string => some (.ids (← axOf x))
    | .slice e, .string => match ← P.underlying e with
      | .int .u8 => some (.bts (← axOf x))
      | _ => none
    | .string, .slice e => match ← P.underlying e with
      | .int .u8 => some (.stb 1 (← axOf x))
      | _ => none
    | _, _ => none
  | .sliceToArrayPointer t x => do
    match ← P.underlying t with
    | .array (n + 1) _ => some (.arrp (← axOf x) (n + 1))
    | _ => none
  | .makeFunc (.func f) first captured => do some (.mkfn f (← axsOf first.toList) (← axsOf captured.toList))
  | .makeSlice t l c => do
    match ← P.underlying t with
    | .slice e => some (.mkslice (← zeroOf P e) (← sz P e) (← by_ P e) (← axOf l) (← axOf c))
    | _ => none
  | .slice t x lo hi mx => do
    match ← P.underlying t with
    | .slice e => some (.slc (← axOf x) (← sz P e) (← axO lo) (← axO hi) (← axO mx))
    | .array n e => some (.slca (← axOf x) n (← sz P e) (← axO lo) (← axO hi) (← axO mx))
    | .string => match mx with
      | none => some (.slcs (← axOf x) (← axO lo) (← axO hi))
      | some _ => none
    | _ => none
  | .fieldAddr t x f => do
    match ← P.underlying t with
    | .struct fs => match fs[f]? with
      | some g => if (← sz P g.type) = 0 then none else some (.fld (← axOf x) g.offset)
      | none => none
    | _ => none
  | .field t x f => do
    match ← P.underlying t with
    | .struct fs => match fs[f]? with
      | some g => some (.fieldv (← axOf x) g.offset (← sz P g.type) (← isAggT P g.type))
      | none => none
    | _ => none
  | .indexAddr t x i => do
    match ← P.underlying t with
    | .slice e => some (.idx (← axOf x) (← axOf i) (← sz P e))
    | .array n e => some (.idxa (← axOf x) (← axOf i) (← sz P e) n)
    | _ => none
  | .index t x i => do
    match ← P.underlying t with
    | .string => some (.indexs (← axOf x) (← axOf i))
    | .array n e => some (.indexv (← axOf x) (← axOf i) n (← sz P e) (← isAggT P e))
    | _ => none
  | .extract x i => do some (.ext (← axOf x) i)
  | .call { callee := .value (.func f), args, .. } => do some (.call f (← axsOf args.toList))
  | .call { callee := .value x, args, .. } => do some (.callv (← axOf x) (← axsOf args.toList))
  | .call { callee := .builtin .len, args, argTypes } => do
    match ← P.underlying (← argTypes[0]?) with
    | .string => some (.lens (← axOf (← args[0]?)))
    | .slice _ => some (.len (← axOf (← args[0]?)))
    | .array n _ => do
      let _ ← args[0]?
      some (.lenc n)
    | .pointer a => match ← P.underlying a with
      | .array n _ => do
        let _ ← args[0]?
        some (.lenc n)
      | _ => none
    | _ => none
  | .call { callee := .builtin .cap, args, argTypes } => do
    match ← P.underlying (← argTypes[0]?) with
    | .slice _ => some (.cap (← axOf (← args[0]?)))
    | _ => none
  | .call { callee := .builtin .append, args, argTypes } => do
    match ← P.underlying (← argTypes[0]?) with
    | .slice e => match ← P.underlying (← argTypes[1]?) with
      | .slice _ | .string => match zeroOf P e, args.size, argTypes.size with
        | some _, 2, 2 => some (.append (← sz P e) (← by_ P e) (← axOf (← args[0]?)) (← axOf (← args[1]?)))
        | _, _, _ => none
      | _ => none
    | _ => none
  | .call { callee := .builtin .copy, args, argTypes } => do
    match ← P.underlying (← argTypes[0]?) with
    | .slice e => some (.copy (← sz P e) (← axOf (← args[0]?)) (← axOf (← args[1]?)))
    | _ => none
  | .call { callee := .builtin .min, args, .. } => do some (.minmax false (← axsOf args.toList))
  | .call { callee := .builtin .max, args, .. } => do some (.minmax true (← axsOf args.toList))
  | _ => none

def compOper (nt : Nat) (ops : Array Oper) (o : Oper) : Option AOper :=
  match o.guard with
  | none => match o.dst with
    | none => some (.n ((compOp P o).getD .bad))
    | some d => match Nat.blt d nt with
      | true => some (.o (pth d) ((compOp P o).getD .bad))
      | false => none
  | some (j, want) => match (ops[j]?).bind (·.dst) with
    | none => none
    | some g => match o.dst with
      | none => some (.gn ((compOp P o).getD .bad) (pth g) want)
      | some d => match Nat.blt d nt with
        | true => some (.g (pth d) ((compOp P o).getD .bad) (pth g) want)
        | false => none

def compOpers (nt : Nat) (ops : Array Oper) : List Nat → Option (List AOper)
  | [] => some []
  | i :: r => do some ((← compOper P nt ops (← ops[i]?)) :: (← compOpers nt ops r))
section
variable (nt : Nat) (ops : Array Oper)
def opAt (i : Nat) : AOp := match ops[i]? with
  | some o => (compOp P o).getD .bad
  | none => .bad
def isMakeAt (i : Nat) : Bool := match ops[i]? with
  | some o => isMake o.op
  | none => false
def afterOf (i : Nat) : List Nat := match ops[i]? with
  | some o => (o.after.toList.filter (Region.binds .any)).map (·.on)
  | none => []
/-- All that stands before: with what has been found, and what is left to look at. -/
def closeL : Nat → List Nat → List Nat → List Nat
  | 0, acc, _ => acc
  | _ + 1, acc, [] => acc
  | f + 1, acc, j :: r => if acc.contains j then closeL f acc r else closeL f (j :: acc) (afterOf ops j ++ r)
def ancOf (n i : Nat) : List Nat := closeL ops (n * n + n + 1) [] (afterOf ops i)
def dstOf (i : Nat) : Option Nat := (ops[i]?).bind (·.dst)
def guardOf (i : Nat) : Option (Nat × Bool) := (ops[i]?).bind (·.guard)
/-- The temporary that a guard asks. -/
def gtmp (i : Nat) : Option Nat := match guardOf ops i with
  | some (j, _) => dstOf ops j
  | none => none
def axT : List AX → List Pth
  | [] => []
  | .t n :: r => n :: axT r
  | .c _ :: r => axT r
def readsOf (i : Nat) : List Pth := axT (reads (opAt P ops i)) ++ (match gtmp ops i with
  | some g => [pth g]
  | none => [])
def kindAt (i : Nat) : Nat := kindOf (opAt P ops i)
def readyD (D : List Nat) : List Nat := (List.range ops.size).filter fun i => !D.contains i && (afterOf ops i).all D.contains
def okStep (D : List Nat) (i : Nat) : Bool :=
  !D.contains i && decide (i < ops.size) && (afterOf ops i).all D.contains &&
  D.all (fun q => match dstOf ops q with
    | some d => !(readsOf P ops i).contains (pth d) || (ancOf ops ops.size i).contains q
    | none => true) &&
  D.all (fun q => kindAt P ops q == 3 || match dstOf ops i with
    | some d => !(readsOf P ops q).contains (pth d) && dstOf ops q != some d
    | none => true) &&
  (if kindAt P ops i == 3 then readyD ops D == [i] else ((match dstOf ops i with
    | some d => !(readsOf P ops i).contains (pth d)
    | none => false) && (kindAt P ops i != 2 || isMakeAt ops i)))
/-- The loads taken ahead that may not have been made yet come to the same still. -/
def chksOf (i : Nat) : List Nat → List AOper
  | [] => []
  | q :: D => if kindAt P ops q == 1 && !(ancOf ops ops.size i).contains q then
      (match dstOf ops q, gtmp ops q, guardOf ops q with
      | some d, some g, some (_, want) => [.cg (pth d) (opAt P ops q) (pth g) want]
      | some d, _, _ => [.c (pth d) (opAt P ops q)]
      | none, _, _ => []) ++ chksOf i D
    else chksOf i D
def compDraw : List Nat → List Nat → Option (List AOper)
  | D, [] => if (List.range ops.size).all D.contains then some [] else none
  | D, i :: rest => if okStep P ops D i then do
      let x ← compOper P nt ops (← ops[i]?)
      let l ← compDraw (i :: D) rest
      some (x :: ((if kindAt P ops i == 3 then chksOf P ops i D else []) ++ l))
    else none
/-- An order: what may be taken ahead first. -/
def findOrd : Nat → List Nat → List Nat
  | 0, _ => []
  | f + 1, D =>
    let rs := readyD ops D
    match rs.find? (fun i => kindAt P ops i != 3) with
    | some i => i :: findOrd f (i :: D)
    | none => match rs with
      | i :: _ => i :: findOrd f (i :: D)
      | [] => []
def compRegion : Option ACode :=
  match compDraw P nt ops [] (findOrd P ops ops.size []) with
  | some l => some (.ops l)
  | none => some .bad
end
def compCode (nt : Nat) : Code → Option ACode
  | .skip => some .skip
  | .region _ ops true => compRegion P nt ops
  | .region _ ops false => do some (.ops (← compOpers P nt ops (List.range ops.size)))
  | .seq a b => do
    match ← compCode nt a, ← compCode nt b with
    | .skip, c => some c
    | c, .skip => some c
    | c, d => some (.seq c d)
  | .cond c a b => do some (.cond (← axOf c) (← compCode nt a) (← compCode nt b))
  | .block id c => do some (.block id (← compCode nt c))
  | .loop c => do some (.loop (← compCode nt c))
  | .exit id => some (.exit id)
  | .ret => some .ret
  | .rangeFunc x ps a c => match ps.toList.all fun p => Nat.blt p nt with
    | true => do some (.range (← axOf x) (ps.toList.map pth) (← compCode nt a) (← compCode nt c))
    | false => none
  | _ => some .bad
def compRes : List ResultVar → Option (List ARes)
  | [] => some []
  | .tmp t :: r => do some (.t (pth t) :: (← compRes r))
  | .cell a t :: r => do some (.cell (pth a) (← sz P t) (← isAggT P t) :: (← compRes r))
def comp (fn : Func) : Option AFn :=
  match fn.body with
  | some c => do some (.code fn.ntmps (← compCode P fn.ntmps c) (← compRes P fn.results.toList))
  | none => none
end
end
end Go.Abs
