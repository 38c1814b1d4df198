/- The abstract machine once more, shaped for the kernel: dispatch by recursors whose branches are closed. -/
import Derived.Test.YtcfjhdhpofomjaaGreatDoorAbsT
set_option linter.unusedSectionVars false
set_option linter.unusedSimpArgs false
set_option linter.unusedVariables false
set_option linter.constructorNameAsVariable false
namespace Go.Abs
noncomputable section
namespace F
abbrev CT := Cl
abbrev OpT := T AV → Hp → CT → Rv
def oV : Option AV → (AV → Rv) → Rv := Option.rec (motive := fun _ => (AV → Rv) → Rv) (fun _ => .no) (fun v k => k v)
def oB : Option Blk → (Blk → Rv) → Rv := Option.rec (motive := fun _ => (Blk → Rv) → Rv) (fun _ => .no) (fun v k => k v)
def bR : Bool → Rv → Rv := Bool.rec (motive := fun _ => Rv → Rv) (fun _ => .no) (fun r => r)
def bI : Bool → Rv → Rv → Rv := Bool.rec (motive := fun _ => Rv → Rv → Rv) (fun _ b => b) (fun a _ => a)
def rvF : Option AV → Hp → Rv := Option.rec (motive := fun _ => Hp → Rv) (fun _ => .no) (fun v h => .ok v h)
def hK : Hp → (T Blk → Pth → Rv) → Rv := Hp.rec (motive := fun _ => (T Blk → Pth → Rv) → Rv) (fun m nx k => k m nx)
def fN : Nat → (Nat → Rv) → Rv := Nat.rec (motive := fun _ => (Nat → Rv) → Rv) (fun k => k 0) (fun m _ k => k (Nat.succ m))
/- Tries. -/
section
variable (α : Type)
end
def gzA : T AV → Option AV := T.rec (motive := fun _ => Option AV) none (fun _ v _ _ _ => v)
def glA : T AV → (T AV → Option AV) → Option AV := T.rec (motive := fun _ => (T AV → Option AV) → Option AV) (fun _ => none) (fun l _ _ _ _ ih => ih l)
def grA : T AV → (T AV → Option AV) → Option AV := T.rec (motive := fun _ => (T AV → Option AV) → Option AV) (fun _ => none) (fun _ _ r _ _ ih => ih r)
def getA : Pth → T AV → Option AV := Pth.rec (motive := fun _ => T AV → Option AV) gzA (fun _ ih t => glA t ih) (fun _ ih t => grA t ih)
def gzB : T Blk → Option Blk := T.rec (motive := fun _ => Option Blk) none (fun _ v _ _ _ => v)
def glB : T Blk → (T Blk → Option Blk) → Option Blk := T.rec (motive := fun _ => (T Blk → Option Blk) → Option Blk) (fun _ => none) (fun l _ _ _ _ ih => ih l)
def grB : T Blk → (T Blk → Option Blk) → Option Blk := T.rec (motive := fun _ => (T Blk → Option Blk) → Option Blk) (fun _ => none) (fun _ _ r _ _ ih => ih r)
def getB : Pth → T Blk → Option Blk := Pth.rec (motive := fun _ => T Blk → Option Blk) gzB (fun _ ih t => glB t ih) (fun _ ih t => grB t ih)
def mklA : T AV → Option AV → T AV → T AV := T.rec (motive := fun _ => Option AV → T AV → T AV) (fun v r => .n .e v r) (fun a b d _ _ v r => .n (.n a b d) v r)
def mkrA : T AV → T AV → Option AV → T AV := T.rec (motive := fun _ => T AV → Option AV → T AV) (fun l v => .n l v .e) (fun a b d _ _ l v => .n l v (.n a b d))
def pzA : T AV → AV → T AV := T.rec (motive := fun _ => AV → T AV) (fun v => .n .e (some v) .e) (fun l _ r _ _ v => .n l (some v) r)
def plA : T AV → AV → (AV → T AV → T AV) → T AV := T.rec (motive := fun _ => AV → (AV → T AV → T AV) → T AV) (fun v ih => mklA (ih v .e) none .e) (fun l x r _ _ v ih => mklA (ih v l) x r)
def prA : T AV → AV → (AV → T AV → T AV) → T AV := T.rec (motive := fun _ => AV → (AV → T AV → T AV) → T AV) (fun v ih => mkrA (ih v .e) .e none) (fun l x r _ _ v ih => mkrA (ih v r) l x)
def putA : Pth → AV → T AV → T AV := Pth.rec (motive := fun _ => AV → T AV → T AV) (fun v t => pzA t v) (fun _ ih v t => plA t v ih) (fun _ ih v t => prA t v ih)
def mklB : T Blk → Option Blk → T Blk → T Blk := T.rec (motive := fun _ => Option Blk → T Blk → T Blk) (fun v r => .n .e v r) (fun a b d _ _ v r => .n (.n a b d) v r)
def mkrB : T Blk → T Blk → Option Blk → T Blk := T.rec (motive := fun _ => T Blk → Option Blk → T Blk) (fun l v => .n l v .e) (fun a b d _ _ l v => .n l v (.n a b d))
def pzB : T Blk → Blk → T Blk := T.rec (motive := fun _ => Blk → T Blk) (fun v => .n .e (some v) .e) (fun l _ r _ _ v => .n l (some v) r)
def plB : T Blk → Blk → (Blk → T Blk → T Blk) → T Blk := T.rec (motive := fun _ => Blk → (Blk → T Blk → T Blk) → T Blk) (fun v ih => mklB (ih v .e) none .e) (fun l x r _ _ v ih => mklB (ih v l) x r)
def prB : T Blk → Blk → (Blk → T Blk → T Blk) → T Blk := T.rec (motive := fun _ => Blk → (Blk → T Blk → T Blk) → T Blk) (fun v ih => mkrB (ih v .e) .e none) (fun l x r _ _ v ih => mkrB (ih v r) l x)
def putB : Pth → Blk → T Blk → T Blk := Pth.rec (motive := fun _ => Blk → T Blk → T Blk) (fun v t => pzB t v) (fun _ ih v t => plB t v ih) (fun _ ih v t => prB t v ih)
/- The cells of a block. -/
def cGet : T AV → Nat → Option AV := T.rec (motive := fun _ => Nat → Option AV) (fun _ => none)
  (fun _ v _ ihl ihr i => Bool.rec (motive := fun _ => Option AV) (Bool.rec (motive := fun _ => Option AV) (ihr (Nat.pred (Nat.div i 2))) (ihl (Nat.div i 2)) (Nat.beq (Nat.mod i 2) 1)) v (Nat.beq i 0))
def slA : T AV → AV → Nat → (AV → T AV → Nat → T AV) → T AV := T.rec (motive := fun _ => AV → Nat → (AV → T AV → Nat → T AV) → T AV)
  (fun v i ih => mklA (ih v .e (Nat.div i 2)) none .e) (fun l x r _ _ v i ih => mklA (ih v l (Nat.div i 2)) x r)
def srA : T AV → AV → Nat → (AV → T AV → Nat → T AV) → T AV := T.rec (motive := fun _ => AV → Nat → (AV → T AV → Nat → T AV) → T AV)
  (fun v i ih => mkrA (ih v .e (Nat.pred (Nat.div i 2))) .e none) (fun l x r _ _ v i ih => mkrA (ih v r (Nat.pred (Nat.div i 2))) l x)
def cSet : Nat → AV → T AV → Nat → T AV := Nat.rec (motive := fun _ => AV → T AV → Nat → T AV) (fun _ t _ => t)
  (fun _ ih v t i => Bool.rec (motive := fun _ => T AV) (Bool.rec (motive := fun _ => T AV) (srA t v i ih) (slA t v i ih) (Nat.beq (Nat.mod i 2) 1)) (pzA t v) (Nat.beq i 0))
def lkT : T AV → Nat → (T AV → Nat → T AV) → T AV := T.rec (motive := fun _ => Nat → (T AV → Nat → T AV) → T AV) (fun o ih => ih .e o) (fun a b d _ _ o ih => ih (.n a b d) o)
def setLF : List AV → T AV → Nat → T AV := List.rec (motive := fun _ => T AV → Nat → T AV) (fun c _ => c) (fun v _ ih c off => lkT (cSet (Nat.succ off) v c off) (Nat.succ off) ih)
def fT : T AV → (T AV → Rv) → Rv := T.rec (motive := fun _ => (T AV → Rv) → Rv) (fun k => k .e) (fun a b d _ _ k => k (.n a b d))
def fM : T Blk → Pth → (Hp → Rv) → Rv := T.rec (motive := fun _ => Pth → (Hp → Rv) → Rv) (fun nx k => k ⟨.e, nx⟩) (fun a b d _ _ nx k => k ⟨.n a b d, nx⟩)
/- Lists. -/
def lenF : List AV → Nat := List.rec (motive := fun _ => Nat) 0 (fun _ _ ih => Nat.succ ih)
def nthF : List AV → Nat → Option AV := List.rec (motive := fun _ => Nat → Option AV) (fun _ => none) (fun v _ ih i => Bool.rec (motive := fun _ => Option AV) (ih (Nat.pred i)) (some v) (Nat.beq i 0))
def takeF : List AV → Nat → List AV := List.rec (motive := fun _ => Nat → List AV) (fun _ => []) (fun v _ ih i => Bool.rec (motive := fun _ => List AV) (v :: ih (Nat.pred i)) [] (Nat.beq i 0))
def dropF : List AV → Nat → List AV := List.rec (motive := fun _ => Nat → List AV) (fun _ => []) (fun v r ih i => Bool.rec (motive := fun _ => List AV) (ih (Nat.pred i)) (v :: r) (Nat.beq i 0))
def appF : List AV → List AV → List AV := List.rec (motive := fun _ => List AV → List AV) (fun l => l) (fun v _ ih l => v :: ih l)
def bcF : Nat → List AV → List AV := Nat.rec (motive := fun _ => List AV → List AV) (fun l => .i .u8 (.ofNat 0) :: l) (fun m _ l => .i .u8 (.ofNat (Nat.succ m)) :: l)
def bytesF : Nat → Nat → List AV := Nat.rec (motive := fun _ => Nat → List AV) (fun _ => []) (fun _ ih n => bcF (Nat.mod n 256) (ih (Nat.div n 256)))
def repF (z : List AV) : Nat → List AV := Nat.rec (motive := fun _ => List AV) [] (fun _ ih => appF z ih)
def oneF : AV → Bool := AV.rec (motive_1 := fun _ => Bool) (motive_2 := fun _ => PUnit)
 (fun _ => true) (fun _ _ => true) (fun _ _ => true) true (fun _ _ => true) true (fun _ _ _ _ => true) true (fun _ a c _ _ => cnd (purL a) (purL c) false) true true (fun _ _ => false) (fun _ _ => false) (fun _ => true) (false) ⟨⟩ (fun _ _ _ _ => ⟨⟩)
def onesF : List AV → Bool := List.rec (motive := fun _ => Bool) true (fun v _ ih => Bool.rec (motive := fun _ => Bool) false ih (oneF v))
def cellsF : AV → List AV := AV.rec (motive_1 := fun _ => List AV) (motive_2 := fun _ => PUnit)
 (fun x => [.b x]) (fun k n => [.i k n]) (fun l n => [.s l n]) ([.np]) (fun b o => [.p b o]) ([.ns]) (fun b o l c => [.sl b o l c]) ([.nf]) (fun f a c _ _ => [.fn f a c]) ([.ni]) ([.nm]) (fun l _ => l) (fun l _ => [.tup l]) (fun i => [.q i]) ([.yi]) ⟨⟩ (fun _ _ _ _ => ⟨⟩)
def axF : AX → T AV → Option AV := AX.rec (motive := fun _ => T AV → Option AV) getA (fun v _ => some v)
def axsF : List AX → T AV → (List AV → Rv) → Rv := List.rec (motive := fun _ => T AV → (List AV → Rv) → Rv) (fun _ k => k []) (fun x _ ih tm k => oV (axF x tm) fun v => ih tm fun l => k (v :: l))
def kB : AV → (Bool → Rv) → Rv := AV.rec (motive_1 := fun _ => (Bool → Rv) → Rv) (motive_2 := fun _ => PUnit)
 (fun x k => k x) (fun _ _ _ => .no) (fun _ _ _ => .no) (fun _ => .no) (fun _ _ _ => .no) (fun _ => .no) (fun _ _ _ _ _ => .no) (fun _ => .no) (fun _ _ _ _ _ _ => .no) (fun _ => .no) (fun _ => .no) (fun _ _ _ => .no) (fun _ _ _ => .no) (fun _ _ => .no) (fun _ => .no) ⟨⟩ (fun _ _ _ _ => ⟨⟩)
def kI : AV → (IntKind → Int → Rv) → Rv := AV.rec (motive_1 := fun _ => (IntKind → Int → Rv) → Rv) (motive_2 := fun _ => PUnit)
 (fun _ _ => .no) (fun j n k => k j n) (fun _ _ _ => .no) (fun _ => .no) (fun _ _ _ => .no) (fun _ => .no) (fun _ _ _ _ _ => .no) (fun _ => .no) (fun _ _ _ _ _ _ => .no) (fun _ => .no) (fun _ => .no) (fun _ _ _ => .no) (fun _ _ _ => .no) (fun _ _ => .no) (fun _ => .no) ⟨⟩ (fun _ _ _ _ => ⟨⟩)
def kS : AV → (Nat → Nat → Rv) → Rv := AV.rec (motive_1 := fun _ => (Nat → Nat → Rv) → Rv) (motive_2 := fun _ => PUnit)
 (fun _ _ => .no) (fun _ _ _ => .no) (fun l n k => k l n) (fun _ => .no) (fun _ _ _ => .no) (fun _ => .no) (fun _ _ _ _ _ => .no) (fun _ => .no) (fun _ _ _ _ _ _ => .no) (fun _ => .no) (fun _ => .no) (fun _ _ _ => .no) (fun _ _ _ => .no) (fun _ _ => .no) (fun _ => .no) ⟨⟩ (fun _ _ _ _ => ⟨⟩)
def kP : AV → (Pth → Nat → Rv) → Rv := AV.rec (motive_1 := fun _ => (Pth → Nat → Rv) → Rv) (motive_2 := fun _ => PUnit)
 (fun _ _ => .no) (fun _ _ _ => .no) (fun _ _ _ => .no) (fun _ => .no) (fun b o k => k b o) (fun _ => .no) (fun _ _ _ _ _ => .no) (fun _ => .no) (fun _ _ _ _ _ _ => .no) (fun _ => .no) (fun _ => .no) (fun _ _ _ => .no) (fun _ _ _ => .no) (fun _ _ => .no) (fun _ => .no) ⟨⟩ (fun _ _ _ _ => ⟨⟩)
def kSl : AV → (Pth → Nat → Nat → Nat → Rv) → Rv := AV.rec (motive_1 := fun _ => (Pth → Nat → Nat → Nat → Rv) → Rv) (motive_2 := fun _ => PUnit)
 (fun _ _ => .no) (fun _ _ _ => .no) (fun _ _ _ => .no) (fun _ => .no) (fun _ _ _ => .no) (fun _ => .no) (fun b o l c k => k b o l c) (fun _ => .no) (fun _ _ _ _ _ _ => .no) (fun _ => .no) (fun _ => .no) (fun _ _ _ => .no) (fun _ _ _ => .no) (fun _ _ => .no) (fun _ => .no) ⟨⟩ (fun _ _ _ _ => ⟨⟩)
def kAgg : AV → (List AV → Rv) → Rv := AV.rec (motive_1 := fun _ => (List AV → Rv) → Rv) (motive_2 := fun _ => PUnit)
 (fun _ _ => .no) (fun _ _ _ => .no) (fun _ _ _ => .no) (fun _ => .no) (fun _ _ _ => .no) (fun _ => .no) (fun _ _ _ _ _ => .no) (fun _ => .no) (fun _ _ _ _ _ _ => .no) (fun _ => .no) (fun _ => .no) (fun l _ k => k l) (fun _ _ _ => .no) (fun _ _ => .no) (fun _ => .no) ⟨⟩ (fun _ _ _ _ => ⟨⟩)
def kTup : AV → (List AV → Rv) → Rv := AV.rec (motive_1 := fun _ => (List AV → Rv) → Rv) (motive_2 := fun _ => PUnit)
 (fun _ _ => .no) (fun _ _ _ => .no) (fun _ _ _ => .no) (fun _ => .no) (fun _ _ _ => .no) (fun _ => .no) (fun _ _ _ _ _ => .no) (fun _ => .no) (fun _ _ _ _ _ _ => .no) (fun _ => .no) (fun _ => .no) (fun _ _ _ => .no) (fun l _ k => k l) (fun _ _ => .no) (fun _ => .no) ⟨⟩ (fun _ _ _ _ => ⟨⟩)
def intN : Int → (Nat → Rv) → Rv := Int.rec (motive := fun _ => (Nat → Rv) → Rv) (fun n k => k n) (fun _ _ => .no)
def kN : AV → (Nat → Rv) → Rv := AV.rec (motive_1 := fun _ => (Nat → Rv) → Rv) (motive_2 := fun _ => PUnit)
 (fun _ _ => .no) (fun _ n k => intN n k) (fun _ _ _ => .no) (fun _ => .no) (fun _ _ _ => .no) (fun _ => .no) (fun _ _ _ _ _ => .no) (fun _ => .no) (fun _ _ _ _ _ _ => .no) (fun _ => .no) (fun _ => .no) (fun _ _ _ => .no) (fun _ _ _ => .no) (fun _ _ => .no) (fun _ => .no) ⟨⟩ (fun _ _ _ _ => ⟨⟩)
/- Integers. -/
def knd : IntKind → Nat := IntKind.rec (motive := fun _ => Nat) 0 1 2 3 4 5 6 7
def limF : IntKind → Nat := IntKind.rec (motive := fun _ => Nat) 128 32768 2147483648 9223372036854775808 256 65536 4294967296 18446744073709551616
def okI (m : Nat) (k : IntKind) (h : Hp) : Rv := fN m fun m => .ok (.i k (.ofNat m)) h
def okB : Bool → Hp → Rv := Bool.rec (motive := fun _ => Hp → Rv) (fun h => .ok (.b false) h) (fun h => .ok (.b true) h)
def natI (m : Nat) (k : IntKind) (h : Hp) : Rv := bI (Nat.blt m (limF k)) (okI m k h) (rvF (rawI k (k.wrap (.ofNat m))) h)
def intI : Int → IntKind → Hp → Rv := Int.rec (motive := fun _ => IntKind → Hp → Rv) natI (fun m k h => rvF (rawI k (k.wrap (.negSucc m))) h)
abbrev BT := Int → IntKind → Hp → Rv
/-- Two numbers that are not negative; else the slow road. -/
def nn2 : Int → Int → (Nat → Nat → Rv) → Rv → Rv := Int.rec (motive := fun _ => Int → (Nat → Nat → Rv) → Rv → Rv)
  (fun a y => Int.rec (motive := fun _ => (Nat → Nat → Rv) → Rv → Rv) (fun b k _ => k a b) (fun _ _ d => d) y) (fun _ _ _ d => d)
def kAdd (x y : Int) (k : IntKind) (h : Hp) : Rv := nn2 x y (fun a b => natI (Nat.add a b) k h) (rvF (forceI k (Int.add x y)) h)
def kSub (x y : Int) (k : IntKind) (h : Hp) : Rv := nn2 x y (fun a b => bI (Nat.ble b a) (natI (Nat.sub a b) k h) (rvF (forceI k (Int.sub x y)) h)) (rvF (forceI k (Int.sub x y)) h)
def kMul (x y : Int) (k : IntKind) (h : Hp) : Rv := nn2 x y (fun a b => natI (Nat.mul a b) k h) (rvF (forceI k (Int.mul x y)) h)
def kQuo (x y : Int) (k : IntKind) (h : Hp) : Rv := nn2 x y (fun a b => bI (Nat.beq b 0) .no (natI (Nat.div a b) k h)) (rvF (quoI k x y) h)
def kRem (x y : Int) (k : IntKind) (h : Hp) : Rv := nn2 x y (fun a b => bI (Nat.beq b 0) .no (fN (Nat.mod a b) fun m => .ok (.i k (.ofNat m)) h)) (rvF (remI k x y) h)
def eqZ : Int → Int → Bool := Int.rec (motive := fun _ => Int → Bool) (fun a y => Int.rec (motive := fun _ => Nat → Bool) (fun b a => Nat.beq a b) (fun _ _ => false) y a) (fun a y => Int.rec (motive := fun _ => Nat → Bool) (fun _ _ => false) (fun b a => Nat.beq a b) y a)
def ltZ : Int → Int → Bool := Int.rec (motive := fun _ => Int → Bool) (fun a y => Int.rec (motive := fun _ => Nat → Bool) (fun b a => Nat.blt a b) (fun _ _ => false) y a) (fun a y => Int.rec (motive := fun _ => Nat → Bool) (fun _ _ => true) (fun b a => Nat.blt b a) y a)
def notF : Bool → Bool := Bool.rec (motive := fun _ => Bool) true false
def slowI (op : BinOp) (x y : Int) (k : IntKind) (h : Hp) : Rv := rvF (forceB (binI op k x y)) h
def iOp : BinOp → Int → IntKind → Int → IntKind → Hp → Rv := BinOp.rec (motive := fun _ => Int → IntKind → Int → IntKind → Hp → Rv)
  (fun x k y k' h => bR (Nat.beq (knd k) (knd k')) (kAdd x y k h))
  (fun x k y k' h => bR (Nat.beq (knd k) (knd k')) (kSub x y k h))
  (fun x k y k' h => bR (Nat.beq (knd k) (knd k')) (kMul x y k h))
  (fun x k y k' h => bR (Nat.beq (knd k) (knd k')) (kQuo x y k h))
  (fun x k y k' h => bR (Nat.beq (knd k) (knd k')) (kRem x y k h))
  (fun x k y k' h => bR (Nat.beq (knd k) (knd k')) (nn2 x y (fun a b => natI (Nat.land (a % 2 ^ k.bits) (b % 2 ^ k.bits)) k h) (rvF (forceB (binI .and k x y)) h)))
  (fun x k y k' h => bR (Nat.beq (knd k) (knd k')) (nn2 x y (fun a b => natI (Nat.lor (a % 2 ^ k.bits) (b % 2 ^ k.bits)) k h) (rvF (forceB (binI .or k x y)) h)))
  (fun x k y k' h => bR (Nat.beq (knd k) (knd k')) (slowI .xor x y k h))
  (fun x k y _ h => rvF (forceB (shiftI shlI k x y)) h)
  (fun x k y _ h => rvF (forceB (shiftI shrI k x y)) h)
  (fun x k y k' h => bR (Nat.beq (knd k) (knd k')) (slowI .andNot x y k h))
  (fun x k y k' h => bR (Nat.beq (knd k) (knd k')) (okB (eqZ x y) h))
  (fun x k y k' h => bR (Nat.beq (knd k) (knd k')) (okB (notF (eqZ x y)) h))
  (fun x k y k' h => bR (Nat.beq (knd k) (knd k')) (okB (ltZ x y) h))
  (fun x k y k' h => bR (Nat.beq (knd k) (knd k')) (okB (notF (ltZ y x)) h))
  (fun x k y k' h => bR (Nat.beq (knd k) (knd k')) (okB (ltZ y x) h))
  (fun x k y k' h => bR (Nat.beq (knd k) (knd k')) (okB (notF (ltZ x y)) h))
def strLtF : Nat → Nat → Nat → Nat → Nat → Bool := Nat.rec (motive := fun _ => Nat → Nat → Nat → Nat → Bool) (fun _ _ _ _ => false)
  (fun _ ih la a lb b => Bool.rec (motive := fun _ => Bool) (Bool.rec (motive := fun _ => Bool) (Bool.rec (motive := fun _ => Bool) (Nat.blt (Nat.mod a 256) (Nat.mod b 256)) (ih (Nat.pred la) (Nat.div a 256) (Nat.pred lb) (Nat.div b 256)) (Nat.beq (Nat.mod a 256) (Nat.mod b 256))) true (Nat.beq la 0)) false (Nat.beq lb 0))
def strEqF (la a lb b : Nat) : Bool := Bool.rec (motive := fun _ => Bool) false (Nat.beq a b) (Nat.beq la lb)
def strLeF (la a lb b : Nat) : Bool := Bool.rec (motive := fun _ => Bool) (strEqF la a lb b) true (strLtF (Nat.succ la) la a lb b)
def catF (la a lb b : Nat) (h : Hp) : Rv := fN (Nat.add la lb) fun l => bR (Nat.blt l 4611686018427387904) (fN (Nat.add a (Nat.mul b (Nat.pow 256 la))) fun n => .ok (.s l n) h)
def sOp : BinOp → Nat → Nat → Nat → Nat → Hp → Rv := BinOp.rec (motive := fun _ => Nat → Nat → Nat → Nat → Hp → Rv)
  catF (fun _ _ _ _ _ => .no) (fun _ _ _ _ _ => .no) (fun _ _ _ _ _ => .no) (fun _ _ _ _ _ => .no) (fun _ _ _ _ _ => .no) (fun _ _ _ _ _ => .no) (fun _ _ _ _ _ => .no) (fun _ _ _ _ _ => .no) (fun _ _ _ _ _ => .no) (fun _ _ _ _ _ => .no) (fun la a lb b h => okB (strEqF la a lb b) h) (fun la a lb b h => okB (notF (strEqF la a lb b)) h) (fun la a lb b h => okB (strLtF (Nat.succ la) la a lb b) h) (fun la a lb b h => okB (strLeF la a lb b) h) (fun la a lb b h => okB (notF (strLeF la a lb b)) h) (fun la a lb b h => okB (notF (strLtF (Nat.succ la) la a lb b)) h)
def kBI : AV → Int → IntKind → BinOp → Hp → Rv := AV.rec (motive_1 := fun _ => Int → IntKind → BinOp → Hp → Rv) (motive_2 := fun _ => PUnit)
 (fun _ _ _ _ _ => .no) (fun k' m n k op h => iOp op n k m k' h) (fun _ _ _ _ _ _ => .no) (fun _ _ _ _ => .no) (fun _ _ _ _ _ _ => .no) (fun _ _ _ _ => .no) (fun _ _ _ _ _ _ _ _ => .no) (fun _ _ _ _ => .no) (fun _ _ _ _ _ _ _ _ _ => .no) (fun _ _ _ _ => .no) (fun _ _ _ _ => .no) (fun _ _ _ _ _ _ => .no) (fun _ _ _ _ _ _ => .no) (fun _ _ _ _ _ => .no) (fun _ _ _ _ => .no) ⟨⟩ (fun _ _ _ _ => ⟨⟩)
def kBS : AV → Nat → Nat → BinOp → Hp → Rv := AV.rec (motive_1 := fun _ => Nat → Nat → BinOp → Hp → Rv) (motive_2 := fun _ => PUnit)
 (fun _ _ _ _ _ => .no) (fun _ _ _ _ _ _ => .no) (fun lb b la a op h => sOp op la a lb b h) (fun _ _ _ _ => .no) (fun _ _ _ _ _ _ => .no) (fun _ _ _ _ => .no) (fun _ _ _ _ _ _ _ _ => .no) (fun _ _ _ _ => .no) (fun _ _ _ _ _ _ _ _ _ => .no) (fun _ _ _ _ => .no) (fun _ _ _ _ => .no) (fun _ _ _ _ _ _ => .no) (fun _ _ _ _ _ _ => .no) (fun _ _ _ _ _ => .no) (fun _ _ _ _ => .no) ⟨⟩ (fun _ _ _ _ => ⟨⟩)
def kBin : AV → AV → BinOp → Hp → Rv := AV.rec (motive_1 := fun _ => AV → BinOp → Hp → Rv) (motive_2 := fun _ => PUnit)
 (fun _ _ _ _ => .no) (fun k n b op h => kBI b n k op h) (fun l n b op h => kBS b l n op h) (fun _ _ _ => .no) (fun _ _ _ _ _ => .no) (fun _ _ _ => .no) (fun _ _ _ _ _ _ _ => .no) (fun _ _ _ => .no) (fun _ _ _ _ _ _ _ _ => .no) (fun _ _ _ => .no) (fun _ _ _ => .no) (fun _ _ _ _ _ => .no) (fun _ _ _ _ _ => .no) (fun _ _ _ _ => .no) (fun _ _ _ => .no) ⟨⟩ (fun _ _ _ _ => ⟨⟩)
def npY : AV → (Bool → Rv) → Rv := AV.rec (motive_1 := fun _ => (Bool → Rv) → Rv) (motive_2 := fun _ => PUnit)
 (fun _ _ => .no) (fun _ _ _ => .no) (fun _ _ _ => .no) (fun k => k true) (fun _ _ k => k false) (fun _ => .no) (fun _ _ _ _ _ => .no) (fun _ => .no) (fun _ _ _ _ _ _ => .no) (fun _ => .no) (fun _ => .no) (fun _ _ _ => .no) (fun _ _ _ => .no) (fun _ _ => .no) (fun _ => .no) ⟨⟩ (fun _ _ _ _ => ⟨⟩)
def pY : AV → (Bool → Rv) → Rv := AV.rec (motive_1 := fun _ => (Bool → Rv) → Rv) (motive_2 := fun _ => PUnit)
 (fun _ _ => .no) (fun _ _ _ => .no) (fun _ _ _ => .no) (fun k => k false) (fun _ _ _ => .no) (fun _ => .no) (fun _ _ _ _ _ => .no) (fun _ => .no) (fun _ _ _ _ _ _ => .no) (fun _ => .no) (fun _ => .no) (fun _ _ _ => .no) (fun _ _ _ => .no) (fun _ _ => .no) (fun _ => .no) ⟨⟩ (fun _ _ _ _ => ⟨⟩)
def nilP : AV → AV → (Bool → Rv) → Rv := AV.rec (motive_1 := fun _ => AV → (Bool → Rv) → Rv) (motive_2 := fun _ => PUnit)
 (fun _ _ _ => .no) (fun _ _ _ _ => .no) (fun _ _ _ _ => .no) (npY) (fun _ _ => pY) (fun _ _ => .no) (fun _ _ _ _ _ _ => .no) (fun _ _ => .no) (fun _ _ _ _ _ _ _ => .no) (fun _ _ => .no) (fun _ _ => .no) (fun _ _ _ _ => .no) (fun _ _ _ _ => .no) (fun _ _ _ => .no) (fun _ _ => .no) ⟨⟩ (fun _ _ _ _ => ⟨⟩)
def nsY : AV → (Bool → Rv) → Rv := AV.rec (motive_1 := fun _ => (Bool → Rv) → Rv) (motive_2 := fun _ => PUnit)
 (fun _ _ => .no) (fun _ _ _ => .no) (fun _ _ _ => .no) (fun _ => .no) (fun _ _ _ => .no) (fun k => k true) (fun _ _ _ _ k => k false) (fun _ => .no) (fun _ _ _ _ _ _ => .no) (fun _ => .no) (fun _ => .no) (fun _ _ _ => .no) (fun _ _ _ => .no) (fun _ _ => .no) (fun _ => .no) ⟨⟩ (fun _ _ _ _ => ⟨⟩)
def slY : AV → (Bool → Rv) → Rv := AV.rec (motive_1 := fun _ => (Bool → Rv) → Rv) (motive_2 := fun _ => PUnit)
 (fun _ _ => .no) (fun _ _ _ => .no) (fun _ _ _ => .no) (fun _ => .no) (fun _ _ _ => .no) (fun k => k false) (fun _ _ _ _ _ => .no) (fun _ => .no) (fun _ _ _ _ _ _ => .no) (fun _ => .no) (fun _ => .no) (fun _ _ _ => .no) (fun _ _ _ => .no) (fun _ _ => .no) (fun _ => .no) ⟨⟩ (fun _ _ _ _ => ⟨⟩)
def nilS : AV → AV → (Bool → Rv) → Rv := AV.rec (motive_1 := fun _ => AV → (Bool → Rv) → Rv) (motive_2 := fun _ => PUnit)
 (fun _ _ _ => .no) (fun _ _ _ _ => .no) (fun _ _ _ _ => .no) (fun _ _ => .no) (fun _ _ _ _ => .no) (nsY) (fun _ _ _ _ => slY) (fun _ _ => .no) (fun _ _ _ _ _ _ _ => .no) (fun _ _ => .no) (fun _ _ => .no) (fun _ _ _ _ => .no) (fun _ _ _ _ => .no) (fun _ _ _ => .no) (fun _ _ => .no) ⟨⟩ (fun _ _ _ _ => ⟨⟩)
def nfY : AV → (Bool → Rv) → Rv := AV.rec (motive_1 := fun _ => (Bool → Rv) → Rv) (motive_2 := fun _ => PUnit)
 (fun _ _ => .no) (fun _ _ _ => .no) (fun _ _ _ => .no) (fun _ => .no) (fun _ _ _ => .no) (fun _ => .no) (fun _ _ _ _ _ => .no) (fun k => k true) (fun _ _ _ _ _ k => k false) (fun _ => .no) (fun _ => .no) (fun _ _ _ => .no) (fun _ _ _ => .no) (fun _ _ => .no) (fun _ => .no) ⟨⟩ (fun _ _ _ _ => ⟨⟩)
def fnY : AV → (Bool → Rv) → Rv := AV.rec (motive_1 := fun _ => (Bool → Rv) → Rv) (motive_2 := fun _ => PUnit)
 (fun _ _ => .no) (fun _ _ _ => .no) (fun _ _ _ => .no) (fun _ => .no) (fun _ _ _ => .no) (fun _ => .no) (fun _ _ _ _ _ => .no) (fun k => k false) (fun _ _ _ _ _ _ => .no) (fun _ => .no) (fun _ => .no) (fun _ _ _ => .no) (fun _ _ _ => .no) (fun _ _ => .no) (fun _ => .no) ⟨⟩ (fun _ _ _ _ => ⟨⟩)
def nilF : AV → AV → (Bool → Rv) → Rv := AV.rec (motive_1 := fun _ => AV → (Bool → Rv) → Rv) (motive_2 := fun _ => PUnit)
 (fun _ _ _ => .no) (fun _ _ _ _ => .no) (fun _ _ _ _ => .no) (fun _ _ => .no) (fun _ _ _ _ => .no) (fun _ _ => .no) (fun _ _ _ _ _ _ => .no) (nfY) (fun _ _ _ _ _ => fnY) (fun _ _ => .no) (fun _ _ => .no) (fun _ _ _ _ => .no) (fun _ _ _ _ => .no) (fun _ _ _ => .no) (fun _ _ => .no) ⟨⟩ (fun _ _ _ _ => ⟨⟩)
def nilK : Nat → AV → AV → (Bool → Rv) → Rv := Nat.rec (motive := fun _ => AV → AV → (Bool → Rv) → Rv) nilP (fun c _ => Nat.rec (motive := fun _ => AV → AV → (Bool → Rv) → Rv) nilS (fun c _ => Nat.rec (motive := fun _ => AV → AV → (Bool → Rv) → Rv) nilF (fun _ _ _ _ _ => .no) c) c)
def negB : Bool → Bool → Bool := Bool.rec (motive := fun _ => Bool → Bool) (fun r => r) notF
def eqBB : Bool → Bool → Bool := Bool.rec (motive := fun _ => Bool → Bool) notF (fun b => b)
def eqKB (x y : AV) (k : Bool → Rv) : Rv := kB x fun a => kB y fun b => k (eqBB a b)
def eqKI (x y : AV) (k : Bool → Rv) : Rv := kI x fun j a => kI y fun j' b => bR (Nat.beq (knd j) (knd j')) (k (eqZ a b))
def eqKS (x y : AV) (k : Bool → Rv) : Rv := kS x fun l a => kS y fun l' b => k (strEqF l a l' b)
def eqK1 : Nat → AV → AV → (Bool → Rv) → Rv := Nat.rec (motive := fun _ => AV → AV → (Bool → Rv) → Rv) eqKB (fun c _ => Nat.rec (motive := fun _ => AV → AV → (Bool → Rv) → Rv) eqKI (fun c _ => Nat.rec (motive := fun _ => AV → AV → (Bool → Rv) → Rv) eqKS (fun _ _ _ _ _ => .no) c) c)
def lnil : List AV → Rv → Rv := List.rec (motive := fun _ => Rv → Rv) (fun r => r) (fun _ _ _ _ => .no)
def lcons : List AV → (AV → List AV → Rv) → Rv := List.rec (motive := fun _ => (AV → List AV → Rv) → Rv) (fun _ => .no) (fun v l _ k => k v l)
def eqKs : List Nat → List AV → List AV → (Bool → Rv) → Rv := List.rec (motive := fun _ => List AV → List AV → (Bool → Rv) → Rv) (fun x y k => lnil x (lnil y (k true)))
  (fun c _ ih x y k => lcons x fun u x => lcons y fun v y => eqK1 c u v fun b => bI b (ih x y k) (k false))
def bcK : Bool → Bool → AV → AV → Hp → Rv := fun neg _ x y h => kB x fun a => kB y fun b => okB (negB neg (eqBB a b)) h
/- Memory. -/
def lkQ : Blk → Nat → Rv → Rv := Blk.rec (motive := fun _ => Nat → Rv → Rv) (fun _ _ _ _ _ _ low ver r => bR (Nat.ble low ver) r)
def lkR : Option Pth → T Blk → Nat → Nat → Rv → Rv := Option.rec (motive := fun _ => T Blk → Nat → Nat → Rv → Rv) (fun _ ver low r => bR (Nat.ble low ver) r) (fun q m ver _ r => oB (getB q m) fun Q => lkQ Q ver r)
def lkB : Blk → T Blk → (Blk → Rv) → Rv := Blk.rec (motive := fun _ => T Blk → (Blk → Rv) → Rv) (fun cells size stride root ver tipv low m k => lkR root m ver low (k ⟨cells, size, stride, root, ver, tipv, low⟩))
def lookF (h : Hp) (b : Pth) (k : Blk → Rv) : Rv := hK h fun m _ => oB (getB b m) fun B => lkB B m k
def rdB : Blk → Nat → (AV → Rv) → Rv := Blk.rec (motive := fun _ => Nat → (AV → Rv) → Rv) (fun cells size _ _ _ _ _ off k => bR (Nat.blt off size) (oV (cGet cells off) k))
def rdNs : Nat → T AV → Nat → Nat → (List AV → Rv) → Rv := Nat.rec (motive := fun _ => T AV → Nat → Nat → (List AV → Rv) → Rv) (fun _ _ _ k => k [])
  (fun _ ih c s o k => bR (Nat.blt o s) (oV (cGet c o) fun v => ih c s (Nat.succ o) fun l => k (v :: l)))
def rdBN : Blk → Nat → Nat → (List AV → Rv) → Rv := Blk.rec (motive := fun _ => Nat → Nat → (List AV → Rv) → Rv) (fun cells size _ _ _ _ _ off n k => rdNs n cells size off k)
def ld1F (h : Hp) (b : Pth) (o : Nat) (k : AV → Rv) : Rv := lookF h b fun B => rdB B o k
def rdN (h : Hp) (b : Pth) (o n : Nat) (k : List AV → Rv) : Rv := lookF h b fun B => rdBN B o n k
def wrQ : Blk → T Blk → Pth → Pth → Pth → T AV → Nat → Nat → Nat → Nat → Option Pth → Nat → Nat → (Hp → Rv) → Rv := Blk.rec (motive := fun _ => T Blk → Pth → Pth → Pth → T AV → Nat → Nat → Nat → Nat → Option Pth → Nat → Nat → (Hp → Rv) → Rv)
  (fun qc qs qst qr qv qt _ m nx b q c size stride ver tipv root low _ k => bR (Nat.beq qt ver) (fM (putB q ⟨qc, qs, qst, qr, qv, qt, ver⟩ (putB b ⟨c, size, stride, root, ver, tipv, low⟩ m)) nx k))
def wrR : Option Pth → T Blk → Pth → Pth → T AV → Nat → Nat → Nat → Nat → Nat → List AV → Nat → (Hp → Rv) → Rv := Option.rec (motive := fun _ => T Blk → Pth → Pth → T AV → Nat → Nat → Nat → Nat → Nat → List AV → Nat → (Hp → Rv) → Rv)
  (fun m nx b cells size stride ver tipv _ vs off k => bR (Nat.beq tipv ver) (fT (setLF vs cells off) fun c => fM (putB b ⟨c, size, stride, none, ver, tipv, ver⟩ m) nx k))
  (fun q m nx b cells size stride ver tipv low vs off k => oB (getB q m) fun Q => fT (setLF vs cells off) fun c => wrQ Q m nx b q c size stride ver tipv (some q) low off k)
def wrB : Blk → T Blk → Pth → Pth → Nat → Nat → List AV → (Hp → Rv) → Rv := Blk.rec (motive := fun _ => T Blk → Pth → Pth → Nat → Nat → List AV → (Hp → Rv) → Rv)
  (fun cells size stride root ver tipv low m nx b off n vs k => bR (Nat.ble (Nat.add off n) size) (wrR root m nx b cells size stride ver tipv low vs off k))
def wrF (h : Hp) (b : Pth) (off n : Nat) (vs : List AV) (k : Hp → Rv) : Rv := hK h fun m nx => oB (getB b m) fun B => wrB B m nx b off n vs k
def incF : Pth → Pth := Pth.rec (motive := fun _ => Pth) (.l .z) (fun p _ => .r p) (fun _ ih => .l ih)
def ofLF (l : List AV) : T AV := setLF l .e 0
def nbF (cells : T AV) (size stride : Nat) (h : Hp) (k : Pth → Hp → Rv) : Rv :=
  fT cells fun cells => fN size fun size => hK h fun m nx => fM (putB nx ⟨cells, size, stride, none, 0, 0, 0⟩ m) (incF nx) fun h => k nx h
/- Operations. -/
def fMov (x : AX) : OpT := fun tm h _ => rvF (axF x tm) h
def fPick (c a b : AX) : OpT := fun tm h _ => oV (axF c tm) fun v => kB v fun x => bI x (rvF (axF a tm) h) (rvF (axF b tm) h)
def fBin (op : BinOp) (x y : AX) : OpT := fun tm h _ => oV (axF x tm) fun a => oV (axF y tm) fun b => kBin a b op h
def fBinb (neg : Bool) (x y : AX) : OpT := fun tm h _ => oV (axF x tm) fun a => oV (axF y tm) fun b => kB a fun a => kB b fun b => okB (negB neg (eqBB a b)) h
def fCmpn (c : Nat) (neg : Bool) (x y : AX) : OpT := fun tm h _ => oV (axF x tm) fun a => oV (axF y tm) fun b => nilK c a b fun r => okB (negB neg r) h
def fEqa (neg : Bool) (cs : List Nat) (x y : AX) : OpT := fun tm h _ => oV (axF x tm) fun a => kAgg a fun a => oV (axF y tm) fun b => kAgg b fun b => eqKs cs a b fun r => okB (negB neg r) h
def uNeg (v : AV) (h : Hp) : Rv := kI v fun k n => rvF (forceI k (Int.neg n)) h
def uNot (v : AV) (h : Hp) : Rv := kB v fun b => okB (notF b) h
def unF : UnOp → AV → Hp → Rv := UnOp.rec (motive := fun _ => AV → Hp → Rv) uNeg (fun _ _ => .no) uNot (fun _ _ => .no)
def fUn (op : UnOp) (x : AX) : OpT := fun tm h _ => oV (axF x tm) fun a => unF op a h
def fConv (k : IntKind) (x : AX) : OpT := fun tm h _ => oV (axF x tm) fun a => kI a fun _ n => intI n k h
def fIds (x : AX) : OpT := fun tm h _ => oV (axF x tm) fun a => kS a fun l n => .ok (.s l n) h
def fFld (x : AX) (off : Nat) : OpT := fun tm h _ => oV (axF x tm) fun a => kP a fun b o => fN (Nat.add o off) fun o => .ok (.p b o) h
def fIdx (x i : AX) (stride : Nat) : OpT := fun tm h _ => oV (axF x tm) fun a => kSl a fun b o len _ => oV (axF i tm) fun i => kN i fun i => bR (Nat.blt i len) (fN (Nat.add o (Nat.mul i stride)) fun o => .ok (.p b o) h)
def fIdxa (x i : AX) (stride len : Nat) : OpT := fun tm h _ => oV (axF x tm) fun a => kP a fun b o => oV (axF i tm) fun i => kN i fun i => bR (Nat.blt i len) (fN (Nat.add o (Nat.mul i stride)) fun o => .ok (.p b o) h)
def fLd1 (x : AX) : OpT := fun tm h _ => oV (axF x tm) fun a => kP a fun b o => ld1F h b o fun v => .ok v h
def fLdn (x : AX) (n : Nat) : OpT := fun tm h _ => oV (axF x tm) fun a => kP a fun b o => rdN h b o n fun l => .ok (.agg l) h
def unit : Hp → Rv := fun h => .ok (.tup []) h
def stN (l : List AV) (n : Nat) (b : Pth) (o : Nat) (h : Hp) : Rv := bR (Nat.beq (lenF l) n) (bR (onesF l) (wrF h b o n l unit))
def fSt (x v : AX) (n : Nat) : OpT := fun tm h _ => oV (axF x tm) fun a => kP a fun b o => oV (axF v tm) fun v => stN (cellsF v) n b o h
def fAlloc (cells : List AV) (stride : Nat) : OpT := fun _ h _ => nbF (ofLF cells) (lenF cells) stride h fun b h => .ok (.p b 0) h
def fBox (v : AX) (stride : Nat) : OpT := fun tm h _ => oV (axF v tm) fun v => bR (onesF (cellsF v)) (nbF (ofLF (cellsF v)) (lenF (cellsF v)) stride h fun b h => .ok (.p b 0) h)
def fill1 (l : List AV) (off size : Nat) (c : List AV) (r : List AV → Rv) : Rv := bR (Nat.beq (lenF l) size) (bR (Nat.ble (Nat.add off size) (lenF c)) (r (appF (takeF c off) (appF l (dropF c (Nat.add off size))))))
def fillF : List (Nat × Nat × AX) → T AV → List AV → (List AV → Rv) → Rv := List.rec (motive := fun _ => T AV → List AV → (List AV → Rv) → Rv) (fun _ c k => k c)
  (fun p _ ih tm c k => Prod.rec (motive := fun _ => Rv) (fun off q => Prod.rec (motive := fun _ => Rv) (fun size x => oV (axF x tm) fun v => fill1 (cellsF v) off size c fun c => ih tm c k) q) p)
def fBuild (zero : List AV) (parts : List (Nat × Nat × AX)) : OpT := fun tm h _ => fillF parts tm zero fun l => .ok (.agg l) h
def fBslice (zero : List AV) (len stride : Nat) (parts : List (Nat × Nat × AX)) : OpT := fun tm h _ => fillF parts tm (repF zero len) fun l => bR (onesF l) (nbF (ofLF l) (lenF l) stride h fun b h => .ok (.sl b 0 len len) h)
def takeK : List AV → Nat → (List AV → Rv) → Rv := List.rec (motive := fun _ => Nat → (List AV → Rv) → Rv) (fun _ k => k []) (fun v _ ih i k => bI (Nat.beq i 0) (k []) (ih (Nat.pred i) fun l => k (v :: l)))
def fFieldv (x : AX) (off size : Nat) (isAgg : Bool) : OpT := fun tm h _ => oV (axF x tm) fun a => kAgg a fun l => bI isAgg (takeK (dropF l off) size fun l => .ok (.agg l) h) (rvF (nthF l off) h)
def fIndexs (x i : AX) : OpT := fun tm h _ => oV (axF x tm) fun a => kS a fun l n => oV (axF i tm) fun i => kN i fun i => bR (Nat.blt i l) (fN (Nat.mod (Nat.div n (Nat.pow 256 i)) 256) fun c => .ok (.i .u8 (.ofNat c)) h)
def fIndexv (x i : AX) (len size : Nat) (isAgg : Bool) : OpT := fun tm h _ => oV (axF x tm) fun a => kAgg a fun l => oV (axF i tm) fun i => kN i fun i => bR (Nat.blt i len) (bI isAgg (takeK (dropF l (Nat.mul i size)) size fun l => .ok (.agg l) h) (rvF (nthF l (Nat.mul i size)) h))
def fExt (x : AX) (ix : Nat) : OpT := fun tm h _ => oV (axF x tm) fun a => kTup a fun l => rvF (nthF l ix) h
def fMkfn (f : Nat) (first captured : List AX) : OpT := fun tm h _ => axsF first tm fun a => axsF captured tm fun b => .ok (.fn f a b) h
def kNilck : AV → Hp → Rv := AV.rec (motive_1 := fun _ => Hp → Rv) (motive_2 := fun _ => PUnit)
 (fun _ _ => .no) (fun _ _ _ => .no) (fun _ _ _ => .no) (fun _ => .no) (fun b o h => .ok (.p b o) h) (fun _ => .no) (fun _ _ _ _ _ => .no) (fun _ => .no) (fun f a c _ _ h => .ok (.fn f a c) h) (fun _ => .no) (fun _ => .no) (fun _ _ _ => .no) (fun _ _ _ => .no) (fun _ _ => .no) (fun _ => .no) ⟨⟩ (fun _ _ _ _ => ⟨⟩)
def kFn : AV → (Nat → List AV → List AV → Rv) → Rv → Rv := AV.rec (motive_1 := fun _ => (Nat → List AV → List AV → Rv) → Rv → Rv) (motive_2 := fun _ => PUnit)
 (fun _ _ _ => .no) (fun _ _ _ _ => .no) (fun _ _ _ _ => .no) (fun _ _ => .no) (fun _ _ _ _ => .no) (fun _ _ => .no) (fun _ _ _ _ _ _ => .no) (fun _ _ => .no) (fun f a c _ _ k _ => k f a c) (fun _ _ => .no) (fun _ _ => .no) (fun _ _ _ _ => .no) (fun _ _ _ _ => .no) (fun _ _ _ => .no) (fun _ r => r) ⟨⟩ (fun _ _ _ _ => ⟨⟩)
def kLen : AV → Hp → Rv := AV.rec (motive_1 := fun _ => Hp → Rv) (motive_2 := fun _ => PUnit)
 (fun _ _ => .no) (fun _ _ _ => .no) (fun _ _ _ => .no) (fun _ => .no) (fun _ _ _ => .no) (fun h => .ok (.i .i64 (.ofNat 0)) h) (fun _ _ l _ h => .ok (.i .i64 (.ofNat l)) h) (fun _ => .no) (fun _ _ _ _ _ _ => .no) (fun _ => .no) (fun _ => .no) (fun _ _ _ => .no) (fun _ _ _ => .no) (fun _ _ => .no) (fun _ => .no) ⟨⟩ (fun _ _ _ _ => ⟨⟩)
def fNilck (x : AX) : OpT := fun tm h _ => oV (axF x tm) fun a => kNilck a h
def fCall (f : Nat) (args : List AX) : OpT := fun tm h call => axsF args tm fun l => call.fn f l h
def fCallv (x : AX) (args : List AX) : OpT := fun tm h call => oV (axF x tm) fun v => kFn v (fun f a b => axsF args tm fun l => call.fn f (appF a (appF l b)) h) (axsF args tm fun l => call.yl l h)
def fLen (x : AX) : OpT := fun tm h _ => oV (axF x tm) fun a => kLen a h
def fLens (x : AX) : OpT := fun tm h _ => oV (axF x tm) fun a => kS a fun l _ => .ok (.i .i64 (.ofNat l)) h
/- append -/
def growF (h : Hp) (stride : Nat) (B : Blk) (off len need : Nat) (xs : List AV) : Rv :=
  rdBN B off (Nat.mul len stride) fun old => nbF (ofLF (appF old xs)) (Nat.mul need stride) stride h fun b h => .ok (.sl b 0 need UNK) h
def memF (cells : T AV) (size stride off len e : Nat) (xs : List AV) (k : T AV → Rv) : Rv :=
  bI (Nat.beq off 0) (k (setLF xs cells e)) (rdNs (Nat.mul len stride) cells size off fun old => k (ofLF (appF old xs)))
def mbQ : Blk → T Blk → Pth → Pth → Nat → Nat → Nat → Nat → Bool → T AV → Rv := Blk.rec (motive := fun _ => T Blk → Pth → Pth → Nat → Nat → Nat → Nat → Bool → T AV → Rv)
  (fun qc qs qst qr qv qt ql m nx q need cap stride ver keep cells => bR (Nat.beq qt ver) (fN (Nat.mul need stride) fun size => fN (Nat.succ qt) fun v => fT cells fun cells =>
    fM (putB q ⟨qc, qs, qst, qr, qv, v, cnd keep ql v⟩ (putB nx ⟨cells, size, stride, some q, v, 0, 0⟩ m)) (incF nx) fun h => .ok (.sl nx 0 need cap) h))
def rtF : Option Pth → T Blk → Pth → Blk → (Pth → Blk → Rv) → Rv := Option.rec (motive := fun _ => T Blk → Pth → Blk → (Pth → Blk → Rv) → Rv) (fun _ b B k => k b B) (fun q m _ _ k => oB (getB q m) fun Q => k q Q)
def apB : Blk → T Blk → Pth → Pth → Nat → Nat → Nat → Nat → Nat → List AV → Hp → Rv := Blk.rec (motive := fun _ => T Blk → Pth → Pth → Nat → Nat → Nat → Nat → Nat → List AV → Hp → Rv)
  (fun cells size st root ver tipv low m nx b stride off len cap kk xs h => bR (Nat.beq st stride) (fN (Nat.add len kk) fun need => bI (Nat.blt cap need) (growF h stride ⟨cells, size, st, root, ver, tipv, low⟩ off len need xs)
    (fN (Nat.add off (Nat.mul len stride)) fun e => bR (Nat.ble e size) (memF cells size stride off len e xs fun c => rtF root m b ⟨cells, size, st, root, ver, tipv, low⟩ fun q Q => mbQ Q m nx q need cap stride ver (Nat.beq e size) c))))
def apSl (h : Hp) (stride : Nat) (b : Pth) (off len cap k : Nat) (xs : List AV) : Rv := lookF h b fun B => hK h fun m nx => apB B m nx b stride off len cap k xs h
def apF : AV → Hp → Nat → Nat → List AV → Rv := AV.rec (motive_1 := fun _ => Hp → Nat → Nat → List AV → Rv) (motive_2 := fun _ => PUnit)
 (fun _ _ _ _ _ => .no) (fun _ _ _ _ _ _ => .no) (fun _ _ _ _ _ _ => .no) (fun _ _ _ _ => .no) (fun _ _ _ _ _ _ => .no) (fun h stride k xs => bI (Nat.beq k 0) (.ok .ns h) (nbF (ofLF xs) (Nat.mul k stride) stride h fun b h => .ok (.sl b 0 k UNK) h)) (fun b off len cap h stride k xs => bI (Nat.beq k 0) (.ok (.sl b off len cap) h) (apSl h stride b off len cap k xs)) (fun _ _ _ _ => .no) (fun _ _ _ _ _ _ _ _ _ => .no) (fun _ _ _ _ => .no) (fun _ _ _ _ => .no) (fun _ _ _ _ _ _ => .no) (fun _ _ _ _ _ _ => .no) (fun _ _ _ _ _ => .no) (fun _ _ _ _ => .no) ⟨⟩ (fun _ _ _ _ => ⟨⟩)
def cfF : AV → Hp → Nat → (Nat → List AV → Rv) → Rv := AV.rec (motive_1 := fun _ => Hp → Nat → (Nat → List AV → Rv) → Rv) (motive_2 := fun _ => PUnit)
 (fun _ _ _ _ => .no) (fun _ _ _ _ _ => .no) (fun l n _ stride k => bR (Nat.beq stride 1) (k l (bytesF l n))) (fun _ _ _ => .no) (fun _ _ _ _ _ => .no) (fun _ _ k => k 0 []) (fun b off len _ h stride k => bI (Nat.beq len 0) (k 0 []) (rdN h b off (Nat.mul len stride) fun l => k len l)) (fun _ _ _ => .no) (fun _ _ _ _ _ _ _ _ => .no) (fun _ _ _ => .no) (fun _ _ _ => .no) (fun _ _ _ _ _ => .no) (fun _ _ _ _ _ => .no) (fun _ _ _ _ => .no) (fun _ _ _ => .no) ⟨⟩ (fun _ _ _ _ => ⟨⟩)
def lokV : AV → Hp → Nat → Rv := AV.rec (motive_1 := fun _ => Hp → Nat → Rv) (motive_2 := fun _ => PUnit)
 (fun x h _ => .ok (.b x) h) (fun k n h _ => .ok (.i k n) h) (fun l n h _ => .ok (.s l n) h) (fun h _ => .ok .np h) (fun b o h _ => .ok (.p b o) h) (fun h _ => .ok .ns h) (fun b o len cap h bytes => bR (Nat.ble (Nat.mul len bytes) 1099511627776) (bR (Nat.blt len 4611686018427387904) (.ok (.sl b o len cap) h))) (fun h _ => .ok .nf h) (fun f a c _ _ h _ => .ok (.fn f a c) h) (fun h _ => .ok .ni h) (fun h _ => .ok .nm h) (fun l _ h _ => .ok (.agg l) h) (fun l _ h _ => .ok (.tup l) h) (fun i h _ => .ok (.q i) h) (fun h _ => .ok .yi h) ⟨⟩ (fun _ _ _ _ => ⟨⟩)
def lokF : Rv → Nat → Rv := Rv.rec (motive := fun _ => Nat → Rv) (fun _ => .no) (fun v h bytes => lokV v h bytes)
def fAppend (stride bytes : Nat) (s x : AX) : OpT := fun tm h _ => oV (axF s tm) fun s => oV (axF x tm) fun x => cfF x h stride fun k xs => lokF (apF s h stride k xs) bytes
def fOp : AOp → OpT := AOp.rec (motive := fun _ => OpT) fMov fPick fBin fBinb fCmpn fEqa fUn fConv fIds
  (fun x tm h _ => oBts tm h x) (fun stride x tm h _ => oStb tm h stride x) fFld fIdx fIdxa fLd1 fLdn fSt fAlloc fBox fBuild fBslice
  (fun zero stride bytes l c tm h _ => oMkslice tm h zero stride bytes l c) (fun x stride lo hi mx tm h _ => oSlc tm h x stride lo hi mx)
  (fun x n stride lo hi mx tm h _ => oSlca tm h x n stride lo hi mx) (fun x lo hi tm h _ => oSlcs tm h x lo hi) fFieldv fIndexs fIndexv fExt fMkfn fNilck fCall fCallv fLen fLens
  (fun n _ h _ => .ok (.i .i64 (.ofNat n)) h) (fun x tm h _ => oCap tm h x) fAppend (fun stride d s tm h _ => oCopy tm h stride d s) (fun isMax args tm h _ => oMinmax tm h isMax args) (fun x n tm h _ => oArrp tm h x n) (fun _ _ _ => .no)
/- Code. -/
abbrev RT := T AV → Hp → R
def rK : Rv → (AV → Hp → R) → R := Rv.rec (motive := fun _ => (AV → Hp → R) → R) (fun _ => .no) (fun v h k => k v h)
def wT : T AV → Hp → RT → R := T.rec (motive := fun _ => Hp → RT → R) (fun h k => k .e h) (fun a b d _ _ h k => k (.n a b d) h)
def oR : Option AV → (AV → R) → R := Option.rec (motive := fun _ => (AV → R) → R) (fun _ => .no) (fun v k => k v)
def bRR : Bool → R → R := Bool.rec (motive := fun _ => R → R) (fun _ => .no) (fun r => r)
def bIR : Bool → R → R → R := Bool.rec (motive := fun _ => R → R → R) (fun _ b => b) (fun a _ => a)
def wnV : AV → Bool → R → R → R := AV.rec (motive_1 := fun _ => Bool → R → R → R) (motive_2 := fun _ => PUnit)
 (fun x want a b => bIR (eqBB x want) a b) (fun _ _ _ _ b => b) (fun _ _ _ _ b => b) (fun _ _ b => b) (fun _ _ _ _ b => b) (fun _ _ b => b) (fun _ _ _ _ _ _ b => b) (fun _ _ b => b) (fun _ _ _ _ _ _ _ b => b) (fun _ _ b => b) (fun _ _ b => b) (fun _ _ _ _ b => b) (fun _ _ _ _ b => b) (fun _ _ _ _ => .no) (fun _ _ b => b) ⟨⟩ (fun _ _ _ _ => ⟨⟩)
def wnF (tm : T AV) (g : Pth) (want : Bool) (a b : R) : R := oR (getA g tm) fun v => wnV v want a b
def chkF (op : AOp) (d : Pth) (call : CT) (k : RT) (tm : T AV) (h : Hp) : R := rK (fOp op tm h call) fun v _ => oR (getA d tm) fun u => bRR (avEq v u) (k tm h)
def fOper : AOper → CT → RT → RT := AOper.rec (motive := fun _ => CT → RT → RT)
  (fun d op call k tm h => rK (fOp op tm h call) fun v h => wT (putA d v tm) h k)
  (fun op call k tm h => rK (fOp op tm h call) fun _ h => k tm h)
  (fun d op g want call k tm h => wnF tm g want (rK (fOp op tm h call) fun v h => wT (putA d v tm) h k) (wT (putA d (.tup []) tm) h k))
  (fun op g want call k tm h => wnF tm g want (rK (fOp op tm h call) fun _ h => k tm h) (k tm h))
  (fun d op call k tm h => chkF op d call k tm h)
  (fun d op g want call k tm h => wnF tm g want (chkF op d call k tm h) (k tm h))
def fOps : List AOper → CT → RT := List.rec (motive := fun _ => CT → RT) (fun _ tm h => .go tm h) (fun o _ ih call tm h => fOper o call (ih call) tm h)
def goK : R → RT → R := R.rec (motive := fun _ => RT → R) (fun _ => .no) (fun t h k => k t h) (fun t h _ => .ret t h) (fun i t h _ => .exit i t h)
def exK : R → Nat → R := R.rec (motive := fun _ => Nat → R) (fun _ => .no) (fun t h _ => .go t h) (fun t h _ => .ret t h) (fun i t h id => bIR (Nat.beq i id) (.go t h) (.exit i t h))
def brB : Bool → RT → RT → RT := Bool.rec (motive := fun _ => RT → RT → RT) (fun _ b => b) (fun a _ => a)
def brV : AV → RT → RT → RT := AV.rec (motive_1 := fun _ => RT → RT → RT) (motive_2 := fun _ => PUnit)
 (brB) (fun _ _ _ _ _ _ => .no) (fun _ _ _ _ _ _ => .no) (fun _ _ _ _ => .no) (fun _ _ _ _ _ _ => .no) (fun _ _ _ _ => .no) (fun _ _ _ _ _ _ _ _ => .no) (fun _ _ _ _ => .no) (fun _ _ _ _ _ _ _ _ _ => .no) (fun _ _ _ _ => .no) (fun _ _ _ _ => .no) (fun _ _ _ _ _ _ => .no) (fun _ _ _ _ _ _ => .no) (fun _ _ _ _ _ => .no) (fun _ _ _ _ => .no) ⟨⟩ (fun _ _ _ _ => ⟨⟩)
def brO : Option AV → RT → RT → RT := Option.rec (motive := fun _ => RT → RT → RT) (fun _ _ _ _ => .no) brV
def loopF : Nat → RT → RT := Nat.rec (motive := fun _ => RT → RT) (fun _ _ _ => .no) (fun _ ih body tm h => goK (body tm h) (ih body))
def fCode : ACode → CT → Nat → RT := ACode.rec (motive := fun _ => CT → Nat → RT)
  (fun _ _ tm h => .go tm h) (fun l call _ => fOps l call) (fun _ _ iha ihb call fuel tm h => goK (iha call fuel tm h) (ihb call fuel))
  (fun c _ _ iha ihb call fuel tm h => brO (axF c tm) (iha call fuel) (ihb call fuel) tm h) (fun id _ ih call fuel tm h => exK (ih call fuel tm h) id)
  (fun _ ih call fuel => loopF fuel (ih call fuel)) (fun id _ _ tm h => .exit id tm h) (fun _ _ tm h => .ret tm h) (fun x ps _ _ iha ihb call fuel tm h => evRange call (iha call fuel) (ihb call fuel) x ps tm h) (fun _ _ _ _ => .no)
def resF : ARes → T AV → Hp → Option AV := ARes.rec (motive := fun _ => T AV → Hp → Option AV) (fun n tm _ => getA n tm) (fun a n isAgg tm h => resV tm h (.cell a n isAgg))
def resK : List ARes → T AV → Hp → (List AV → Rv) → Rv := List.rec (motive := fun _ => T AV → Hp → (List AV → Rv) → Rv) (fun _ _ k => k []) (fun x _ ih tm h k => oV (resF x tm h) fun v => ih tm h fun l => k (v :: l))
def ok2 : List AV → AV → Hp → Rv := List.rec (motive := fun _ => AV → Hp → Rv) (fun v h => .ok v h) (fun u r _ v h => .ok (.tup (v :: u :: r)) h)
def ok1 : List AV → Hp → Rv := List.rec (motive := fun _ => Hp → Rv) (fun h => .ok (.tup []) h) (fun v r _ h => ok2 r v h)
def finK : R → List ARes → Rv := R.rec (motive := fun _ => List ARes → Rv) (fun _ => .no) (fun tm h res => resK res tm h fun l => ok1 l h) (fun tm h res => resK res tm h fun l => ok1 l h) (fun _ _ _ _ => .no)
def wA : T AV → Pth → (Pth → T AV → T AV) → T AV := T.rec (motive := fun _ => Pth → (Pth → T AV → T AV) → T AV) (fun p k => k p .e) (fun a b d _ _ p k => k p (.n a b d))
def argF : List AV → Pth → T AV → T AV := List.rec (motive := fun _ => Pth → T AV → T AV) (fun _ tm => tm) (fun v _ ih p tm => wA (putA p v tm) (incF p) ih)
def fnA : AFn → Bool → CT → Nat → List AV → Hp → Rv := AFn.rec (motive := fun _ => Bool → CT → Nat → List AV → Hp → Rv) (fun _ body res _ call fuel args h => finK (fCode body call fuel (argF args .z .e) h) res) (fun x ra _ _ args h => cnd ra .no (evExt x args h)) (fun g ra _ _ args h => cnd ra .no (g args h)) (fun na body res _ call fuel args h => bR (Nat.ble na (lenF args)) (finK (fCode body call fuel (argF args .z .e) h) res))
def fnO : Option AFn → Bool → CT → Nat → List AV → Hp → Rv := Option.rec (motive := fun _ => Bool → CT → Nat → List AV → Hp → Rv) (fun _ _ _ _ _ => .no) fnA
def callF (tbl : Nat → Option AFn) (fuel : Nat) : Nat → Nat → Bool → YF → Nat → List AV → Hp → Rv := Nat.rec (motive := fun _ => Nat → Bool → YF → Nat → List AV → Hp → Rv) (fun _ _ _ _ _ _ => .no) (fun _ ih lv ra yl f args h => fnO (tbl f) ra ⟨ih, lv, yl⟩ fuel args h)

/- The same machine. -/
theorem oV_eq (x : Option AV) (k : AV → Rv) : oV x k = onO x .no k := by cases x <;> rfl
theorem oB_eq (x : Option Blk) (k : Blk → Rv) : oB x k = onO x .no k := by cases x <;> rfl
theorem bR_eq (c : Bool) (r : Rv) : bR c r = cnd c r .no := by cases c <;> rfl
theorem bI_eq (c : Bool) (a b : Rv) : bI c a b = cnd c a b := by cases c <;> rfl
theorem rvF_eq (x : Option AV) (h : Hp) : rvF x h = rv h x := by cases x <;> rfl
theorem hK_eq (h : Hp) (k : T Blk → Pth → Rv) : hK h k = k h.m h.nx := rfl
theorem fN_eq (n : Nat) (k : Nat → Rv) : fN n k = k n := by cases n <;> rfl
theorem getA_eq : ∀ (p : Pth) (t : T AV), getA p t = T.getP p t
  | .z, t => by cases t <;> rfl
  | .l p, .e => rfl
  | .r p, .e => rfl
  | .l p, .n l v r => getA_eq p l
  | .r p, .n l v r => getA_eq p r
theorem getB_eq : ∀ (p : Pth) (t : T Blk), getB p t = T.getP p t
  | .z, t => by cases t <;> rfl
  | .l p, .e => rfl
  | .r p, .e => rfl
  | .l p, .n l v r => getB_eq p l
  | .r p, .n l v r => getB_eq p r
theorem mklA_eq (v : Option AV) (r c : T AV) : mklA c v r = .n c v r := by cases c <;> rfl
theorem mkrA_eq (v : Option AV) (l c : T AV) : mkrA c l v = .n l v c := by cases c <;> rfl
theorem mklB_eq (v : Option Blk) (r c : T Blk) : mklB c v r = .n c v r := by cases c <;> rfl
theorem mkrB_eq (v : Option Blk) (l c : T Blk) : mkrB c l v = .n l v c := by cases c <;> rfl
theorem putA_eq (v : AV) : ∀ (p : Pth) (t : T AV), putA p v t = T.putP v p t
  | .z, t => by cases t <;> rfl
  | .l p, .e => by rw [T.putP_l_e, T.mkl_eq, ← putA_eq v p .e]; exact mklA_eq _ _ _
  | .r p, .e => by rw [T.putP_r_e, T.mkr_eq, ← putA_eq v p .e]; exact mkrA_eq _ _ _
  | .l p, .n l x r => by rw [T.putP_l_n, T.mkl_eq, ← putA_eq v p l]; exact mklA_eq _ _ _
  | .r p, .n l x r => by rw [T.putP_r_n, T.mkr_eq, ← putA_eq v p r]; exact mkrA_eq _ _ _
theorem putB_eq (v : Blk) : ∀ (p : Pth) (t : T Blk), putB p v t = T.putP v p t
  | .z, t => by cases t <;> rfl
  | .l p, .e => by rw [T.putP_l_e, T.mkl_eq, ← putB_eq v p .e]; exact mklB_eq _ _ _
  | .r p, .e => by rw [T.putP_r_e, T.mkr_eq, ← putB_eq v p .e]; exact mkrB_eq _ _ _
  | .l p, .n l x r => by rw [T.putP_l_n, T.mkl_eq, ← putB_eq v p l]; exact mklB_eq _ _ _
  | .r p, .n l x r => by rw [T.putP_r_n, T.mkr_eq, ← putB_eq v p r]; exact mkrB_eq _ _ _
theorem cGet_eq (t : T AV) (i : Nat) : cGet t i = T.get t i := rfl
theorem cSet_eq (v : AV) : ∀ (f : Nat) (t : T AV) (i : Nat), cSet f v t i = T.set v f t i
  | 0, t, i => rfl
  | f + 1, t, i => by
    show Bool.rec (motive := fun _ => T AV) (Bool.rec (motive := fun _ => T AV) (srA t v i (cSet f)) (slA t v i (cSet f)) (Nat.beq (Nat.mod i 2) 1)) (pzA t v) (Nat.beq i 0) = _
    have e1 : srA t v i (cSet f) = T.rec (motive := fun _ => T AV) (T.mkr .e none (T.set v f .e (Nat.pred (Nat.div i 2)))) (fun l x r _ _ => T.mkr l x (T.set v f r (Nat.pred (Nat.div i 2)))) t := by
      cases t with
      | e => exact (mkrA_eq _ _ _).trans (by rw [cSet_eq v f]; exact (T.mkr_eq _ _ _).symm)
      | n l x r => exact (mkrA_eq _ _ _).trans (by rw [cSet_eq v f]; exact (T.mkr_eq _ _ _).symm)
    have e2 : slA t v i (cSet f) = T.rec (motive := fun _ => T AV) (T.mkl none .e (T.set v f .e (Nat.div i 2))) (fun l x r _ _ => T.mkl x r (T.set v f l (Nat.div i 2))) t := by
      cases t with
      | e => exact (mklA_eq _ _ _).trans (by rw [cSet_eq v f]; exact (T.mkl_eq _ _ _).symm)
      | n l x r => exact (mklA_eq _ _ _).trans (by rw [cSet_eq v f]; exact (T.mkl_eq _ _ _).symm)
    rw [e1, e2]
    cases t <;> rfl
theorem lkT_eq (t : T AV) (o : Nat) (ih : T AV → Nat → T AV) : lkT t o ih = ih t o := by cases t <;> rfl
theorem setL_cons (v : AV) (r : List AV) (c : T AV) (off : Nat) : setL (v :: r) c off = setL r (T.put c off v) (Nat.succ off) := by
  show T.rec (motive := fun _ => T AV) (setL r .e (Nat.succ off)) (fun a b d _ _ => setL r (.n a b d) (Nat.succ off)) (T.put c off v) = _
  cases T.put c off v <;> rfl
theorem setLF_eq : ∀ (l : List AV) (c : T AV) (off : Nat), setLF l c off = setL l c off
  | [], c, off => rfl
  | v :: r, c, off => by
    show lkT (cSet (Nat.succ off) v c off) (Nat.succ off) (setLF r) = _
    rw [lkT_eq, setL_cons, setLF_eq r, cSet_eq]; rfl
theorem fT_eq (t : T AV) (k : T AV → Rv) : fT t k = k t := by cases t <;> rfl
theorem fM_eq (t : T Blk) (nx : Pth) (k : Hp → Rv) : fM t nx k = k ⟨t, nx⟩ := by cases t <;> rfl
theorem forceT_eq' (t : T AV) (k : T AV → Hp) : forceT t k = k t := by cases t <;> rfl
theorem forceM_eq' (t : T Blk) (nx : Pth) : forceM t nx = ⟨t, nx⟩ := by cases t <;> rfl
theorem lenF_eq : ∀ l : List AV, lenF l = listLen l
  | [] => rfl
  | _ :: r => congrArg Nat.succ (lenF_eq r)
theorem nthF_eq : ∀ (l : List AV) (i : Nat), nthF l i = listGet l i
  | [], _ => rfl
  | v :: r, i => by
    show Bool.rec (motive := fun _ => Option AV) (nthF r (Nat.pred i)) (some v) (Nat.beq i 0) = _
    rw [nthF_eq r]; rfl
theorem takeF_eq : ∀ (l : List AV) (i : Nat), takeF l i = listTake l i
  | [], _ => rfl
  | v :: r, i => by
    show Bool.rec (motive := fun _ => List AV) (v :: takeF r (Nat.pred i)) [] (Nat.beq i 0) = _
    rw [takeF_eq r]; rfl
theorem dropF_eq : ∀ (l : List AV) (i : Nat), dropF l i = listDrop l i
  | [], _ => rfl
  | v :: r, i => by
    show Bool.rec (motive := fun _ => List AV) (dropF r (Nat.pred i)) (v :: r) (Nat.beq i 0) = _
    rw [dropF_eq r]; rfl
theorem appF_eq : ∀ (l m : List AV), appF l m = l ++ m
  | [], _ => rfl
  | v :: r, m => congrArg (v :: ·) (appF_eq r m)
theorem bcF_eq (c : Nat) (l : List AV) : bcF c l = forceN c fun c => .i .u8 (.ofNat c) :: l := by cases c <;> rfl
theorem bytesF_eq : ∀ (l n : Nat), bytesF l n = bytesOf l n
  | 0, n => rfl
  | l + 1, n => by
    show bcF (Nat.mod n 256) (bytesF l (Nat.div n 256)) = _
    rw [bcF_eq, bytesF_eq l]; rfl
theorem repF_eq (z : List AV) : ∀ n : Nat, repF z n = repL z n
  | 0 => rfl
  | n + 1 => (appF_eq z _).trans (congrArg (z ++ ·) (repF_eq z n))
theorem oneF_eq (v : AV) : oneF v = v.one := by cases v <;> rfl
theorem onesF_eq : ∀ l : List AV, onesF l = ones l
  | [] => rfl
  | v :: r => by
    show Bool.rec (motive := fun _ => Bool) false (onesF r) (oneF v) = _
    rw [oneF_eq, onesF_eq r]; rfl
theorem cellsF_eq (v : AV) : cellsF v = cellsOf v := by cases v <;> rfl
theorem axF_eq (x : AX) (tm : T AV) : axF x tm = ax tm x := by cases x with
  | t n => exact getA_eq n tm
  | c v => rfl
theorem axs_cons (tm : T AV) (x : AX) (r : List AX) : axs tm (x :: r) = onO (ax tm x) none fun v => onO (axs tm r) none fun l => some (v :: l) := rfl
theorem axsF_eq : ∀ (l : List AX) (tm : T AV) (k : List AV → Rv), axsF l tm k = onO (axs tm l) .no k
  | [], _, _ => rfl
  | x :: r, tm, k => by
    show oV (axF x tm) (fun v => axsF r tm fun l => k (v :: l)) = _
    rw [oV_eq, axF_eq, axs_cons]
    cases ax tm x with
    | none => rfl
    | some v =>
      show axsF r tm (fun l => k (v :: l)) = _
      rw [axsF_eq r]
      cases axs tm r <;> rfl
theorem knd_eq (k j : IntKind) : Nat.beq (knd k) (knd j) = kindEq k j := by cases k <;> cases j <;> rfl
theorem lim_eq (k : IntKind) : limF k = limK k := by cases k <;> rfl
theorem rawI_some (k : IntKind) (n : Int) : rawI k n = some (.i k n) := by
  cases n with
  | ofNat m => exact forceN_eq m fun m => some (AV.i k (.ofNat m))
  | negSucc m => exact forceN_eq m fun m => some (AV.i k (.negSucc m))
theorem forceI_some (k : IntKind) (n : Int) : ∃ z, forceI k n = some (.i k z) := by
  cases n with
  | ofNat m =>
    show ∃ z, cnd (Nat.blt m (limK k)) (forceN m fun m => some (AV.i k (.ofNat m))) (rawI k (k.wrap (.ofNat m))) = some (.i k z)
    cases Nat.blt m (limK k) with
    | true => exact ⟨_, forceN_eq m fun m => some (AV.i k (.ofNat m))⟩
    | false => exact ⟨_, rawI_some _ _⟩
  | negSucc m => exact ⟨_, rawI_some _ _⟩
theorem forceB_forceI (k : IntKind) (n : Int) : forceB (forceI k n) = forceI k n := by
  obtain ⟨z, e⟩ := forceI_some k n
  rw [e]; rfl
theorem natI_eq (m : Nat) (k : IntKind) (h : Hp) : natI m k h = rv h (forceI k (.ofNat m)) := by
  show bI (Nat.blt m (limF k)) (fN m fun m => .ok (.i k (.ofNat m)) h) (rvF (rawI k (k.wrap (.ofNat m))) h) = rv h (cnd (Nat.blt m (limK k)) (forceN m fun m => some (AV.i k (.ofNat m))) (rawI k (k.wrap (.ofNat m))))
  rw [lim_eq, bI_eq, rvF_eq, fN_eq, forceN_eq]
  cases Nat.blt m (limK k) <;> rfl
theorem intI_eq (n : Int) (k : IntKind) (h : Hp) : intI n k h = rv h (forceI k n) := by
  cases n with
  | ofNat m => exact natI_eq m k h
  | negSucc m => exact rvF_eq _ _
theorem kAdd_eq (x y : Int) (k : IntKind) (h : Hp) : kAdd x y k h = rv h (forceI k (Int.add x y)) := by
  cases x <;> cases y <;> first | exact natI_eq _ _ _ | exact rvF_eq _ _
theorem kMul_eq (x y : Int) (k : IntKind) (h : Hp) : kMul x y k h = rv h (forceI k (Int.mul x y)) := by
  cases x <;> cases y <;> first | exact natI_eq _ _ _ | exact rvF_eq _ _
theorem kSub_eq (x y : Int) (k : IntKind) (h : Hp) : kSub x y k h = rv h (forceI k (Int.sub x y)) := by
  cases x with
  | negSucc a => exact rvF_eq _ _
  | ofNat a => cases y with
    | negSucc b => exact rvF_eq _ _
    | ofNat b =>
      show bI (Nat.ble b a) (natI (Nat.sub a b) k h) (rvF (forceI k (Int.sub (.ofNat a) (.ofNat b))) h) = _
      rw [bI_eq, natI_eq, rvF_eq]
      cases e : Nat.ble b a with
      | false => rfl
      | true =>
        have hba : b ≤ a := Nat.le_of_ble_eq_true e
        have : Int.sub (.ofNat a) (.ofNat b) = .ofNat (Nat.sub a b) := by
          show (a : Int) - (b : Int) = ((a - b : Nat) : Int)
          omega
        rw [this]; rfl
theorem kQuo_eq (x y : Int) (k : IntKind) (h : Hp) : kQuo x y k h = rv h (quoI k x y) := by
  cases x with
  | negSucc a => exact rvF_eq _ _
  | ofNat a => cases y with
    | negSucc b => exact rvF_eq _ _
    | ofNat b =>
      show bI (Nat.beq b 0) .no (natI (Nat.div a b) k h) = rv h (cnd (Nat.beq b 0) none (forceI k (.ofNat (Nat.div a b))))
      rw [bI_eq, natI_eq]
      cases Nat.beq b 0 <;> rfl
theorem kRem_eq (x y : Int) (k : IntKind) (h : Hp) : kRem x y k h = rv h (remI k x y) := by
  cases x with
  | negSucc a => exact rvF_eq _ _
  | ofNat a => cases y with
    | negSucc b => exact rvF_eq _ _
    | ofNat b =>
      show bI (Nat.beq b 0) .no (fN (Nat.mod a b) fun m => .ok (.i k (.ofNat m)) h) = rv h (cnd (Nat.beq b 0) none (rawI k (.ofNat (Nat.mod a b))))
      rw [bI_eq, fN_eq, rawI_some]
      cases Nat.beq b 0 <;> rfl
theorem eqZ_eq (x y : Int) : eqZ x y = intEq x y := by cases x <;> cases y <;> rfl
theorem ltZ_eq (x y : Int) : ltZ x y = intLt x y := by cases x <;> cases y <;> rfl
theorem notF_eq (b : Bool) : notF b = !b := by cases b <;> rfl
theorem okB_eq (b : Bool) (h : Hp) : okB b h = rv h (forceB (some (.b b))) := by cases b <;> rfl
theorem okB_eq' (b : Bool) (h : Hp) : okB b h = .ok (boolV b) h := by cases b <;> rfl
theorem nn2_nn (a b : Nat) (k : Nat → Nat → Rv) (d : Rv) : nn2 (.ofNat a) (.ofNat b) k d = k a b := rfl
theorem kBits_eq (f : Nat → Nat → Nat) (g : Nat → Nat → Nat → Nat) (x y : Int) (k : IntKind) (h : Hp) (op : BinOp) (e : binI op k x y = bitsI k f x y) (hg : ∀ a b, g a b (2 ^ k.bits) = f (a % 2 ^ k.bits) (b % 2 ^ k.bits)) :
    nn2 x y (fun a b => natI (g a b (2 ^ k.bits)) k h) (rvF (forceB (binI op k x y)) h) = rv h (forceB (binI op k x y)) := by
  cases x with
  | negSucc a => exact rvF_eq _ _
  | ofNat a => cases y with
    | negSucc b => exact rvF_eq _ _
    | ofNat b =>
      rw [e, show bitsI k f (.ofNat a) (.ofNat b) = forceI k (.ofNat (f (a % 2 ^ k.bits) (b % 2 ^ k.bits))) from rfl, forceB_forceI]
      show natI (g a b (2 ^ k.bits)) k h = _
      rw [hg]
      exact natI_eq _ _ _
theorem iOp_eq (op : BinOp) (x : Int) (k : IntKind) (y : Int) (k' : IntKind) (h : Hp) : iOp op x k y k' h = rv h (forceB (binII op k x k' y)) := by
  have key : ∀ (o : BinOp) (r : Rv), binII o k x k' y = cnd (kindEq k k') (binI o k x y) none → r = rv h (forceB (binI o k x y)) → bR (Nat.beq (knd k) (knd k')) r = rv h (forceB (binII o k x k' y)) := by
    intro o r e1 e2
    rw [e1, bR_eq, knd_eq, e2]
    cases kindEq k k' <;> rfl
  cases op with
  | shl => exact rvF_eq _ _
  | shr => exact rvF_eq _ _
  | add => exact key .add _ rfl (by rw [show binI .add k x y = forceI k (Int.add x y) from rfl, forceB_forceI]; exact kAdd_eq _ _ _ _)
  | sub => exact key .sub _ rfl (by rw [show binI .sub k x y = forceI k (Int.sub x y) from rfl, forceB_forceI]; exact kSub_eq _ _ _ _)
  | mul => exact key .mul _ rfl (by rw [show binI .mul k x y = forceI k (Int.mul x y) from rfl, forceB_forceI]; exact kMul_eq _ _ _ _)
  | quo => exact key .quo _ rfl (by
      rw [show binI .quo k x y = quoI k x y from rfl, kQuo_eq]
      unfold quoI
      cases intEq y (.ofNat 0) with
      | true => rfl
      | false => exact congrArg (rv h) (forceB_forceI _ _).symm)
  | rem => exact key .rem _ rfl (by
      rw [show binI .rem k x y = remI k x y from rfl, kRem_eq]
      unfold remI
      cases intEq y (.ofNat 0) with
      | true => rfl
      | false => rw [rawI_some]; rfl)
  | and => exact key .and _ rfl (kBits_eq Nat.land (fun a b m => Nat.land (a % m) (b % m)) x y k h .and rfl fun _ _ => rfl)
  | or => exact key .or _ rfl (kBits_eq Nat.lor (fun a b m => Nat.lor (a % m) (b % m)) x y k h .or rfl fun _ _ => rfl)
  | xor => exact key .xor _ rfl (rvF_eq _ _)
  | andNot => exact key .andNot _ rfl (rvF_eq _ _)
  | eql => exact key .eql _ rfl (by rw [eqZ_eq, okB_eq]; rfl)
  | neq => exact key .neq _ rfl (by rw [eqZ_eq, okB_eq, notF_eq]; rfl)
  | lss => exact key .lss _ rfl (by rw [ltZ_eq, okB_eq]; rfl)
  | leq => exact key .leq _ rfl (by rw [ltZ_eq, okB_eq, notF_eq]; rfl)
  | gtr => exact key .gtr _ rfl (by rw [ltZ_eq, okB_eq]; rfl)
  | geq => exact key .geq _ rfl (by rw [ltZ_eq, okB_eq, notF_eq]; rfl)
theorem strLtF_eq : ∀ (f la a lb b : Nat), strLtF f la a lb b = strLt f la a lb b
  | 0, _, _, _, _ => rfl
  | f + 1, la, a, lb, b => by
    show Bool.rec (motive := fun _ => Bool) (Bool.rec (motive := fun _ => Bool) (Bool.rec (motive := fun _ => Bool) (Nat.blt (Nat.mod a 256) (Nat.mod b 256)) (strLtF f (Nat.pred la) (Nat.div a 256) (Nat.pred lb) (Nat.div b 256)) (Nat.beq (Nat.mod a 256) (Nat.mod b 256))) true (Nat.beq la 0)) false (Nat.beq lb 0) = _
    rw [strLtF_eq f]; rfl
theorem strEqF_eq (la a lb b : Nat) : strEqF la a lb b = strEq la a lb b := rfl
theorem strLeF_eq (la a lb b : Nat) : strLeF la a lb b = strLe la a lb b := by
  unfold strLeF strLe
  rw [strLtF_eq]; rfl
theorem catF_eq (la a lb b : Nat) (h : Hp) : catF la a lb b h = rv h (forceB (catS la a lb b)) := by
  unfold catF catS
  rw [fN_eq, forceN_eq, bR_eq, fN_eq, forceN_eq]
  cases Nat.blt (Nat.add la lb) 4611686018427387904 <;> rfl
theorem sOp_eq (op : BinOp) (la a lb b : Nat) (h : Hp) : sOp op la a lb b h = rv h (forceB (binS op la a lb b)) := by
  cases op with
  | add => exact catF_eq _ _ _ _ _
  | eql => exact okB_eq _ _
  | neq => show okB (notF (strEqF la a lb b)) h = _; rw [notF_eq, okB_eq]; rfl
  | lss => show okB (strLtF _ la a lb b) h = _; rw [strLtF_eq, okB_eq]; rfl
  | leq => show okB (strLeF la a lb b) h = _; rw [strLeF_eq, okB_eq]; rfl
  | gtr => show okB (notF (strLeF la a lb b)) h = _; rw [strLeF_eq, notF_eq, okB_eq]; rfl
  | geq => show okB (notF (strLtF _ la a lb b)) h = _; rw [strLtF_eq, notF_eq, okB_eq]; rfl
  | sub => rfl
  | mul => rfl
  | quo => rfl
  | rem => rfl
  | and => rfl
  | or => rfl
  | xor => rfl
  | shl => rfl
  | shr => rfl
  | andNot => rfl
theorem kBin_eq (a b : AV) (op : BinOp) (h : Hp) : kBin a b op h = rv h (binV op a b) := by
  cases a with
  | i k n => cases b with
    | i k' m => exact iOp_eq _ _ _ _ _ _
    | _ => rfl
  | s l n => cases b with
    | s l' m => exact sOp_eq _ _ _ _ _ _
    | _ => rfl
  | _ => cases b <;> rfl
theorem eqBB_eq (a b : Bool) : eqBB a b = bEq a b := by cases a <;> cases b <;> rfl
theorem negB_eq (n r : Bool) : negB n r = cnd n (!r) r := by cases n <;> cases r <;> rfl
theorem nilK_eq : ∀ (c : Nat) (a b : AV) (k : Bool → Rv), nilK c a b k = onO (isNilCmp c a b) .no k
  | 0, a, b, k => by cases a <;> cases b <;> rfl
  | 1, a, b, k => by cases a <;> cases b <;> rfl
  | 2, a, b, k => by cases a <;> cases b <;> rfl
  | c + 3, a, b, k => by cases a <;> cases b <;> rfl
theorem eqK1_eq : ∀ (c : Nat) (a b : AV) (k : Bool → Rv), eqK1 c a b k = onO (eqFlat c a b) .no k
  | 0, a, b, k => by
    cases a <;> cases b <;> first | rfl | exact congrArg k (eqBB_eq _ _)
  | 1, a, b, k => by
    cases a with
    | i j n => cases b with
      | i j' m =>
        show bR (Nat.beq (knd j) (knd j')) (k (eqZ n m)) = onO (cnd (kindEq j j') (some (intEq n m)) none) .no k
        rw [bR_eq, knd_eq, eqZ_eq]
        cases kindEq j j' <;> rfl
      | _ => rfl
    | _ => cases b <;> rfl
  | 2, a, b, k => by cases a <;> cases b <;> rfl
  | c + 3, a, b, k => by cases a <;> cases b <;> rfl
theorem eqKs_eq : ∀ (cs : List Nat) (x y : List AV) (k : Bool → Rv), eqKs cs x y k = onO (eqFlats cs x y) .no k
  | [], x, y, k => by cases x <;> cases y <;> rfl
  | c :: cs, x, y, k => by
    cases x with
    | nil => rfl
    | cons u x => cases y with
      | nil => rfl
      | cons v y =>
        show eqK1 c u v (fun b => bI b (eqKs cs x y k) (k false)) = onO (onO (eqFlat c u v) none fun b => cnd b (eqFlats cs x y) (some false)) .no k
        rw [eqK1_eq]
        cases eqFlat c u v with
        | none => rfl
        | some b =>
          show bI b (eqKs cs x y k) (k false) = onO (cnd b (eqFlats cs x y) (some false)) .no k
          rw [bI_eq, eqKs_eq cs]
          cases b <;> rfl
/- Memory. -/
theorem lkQ_eq (Q : Blk) (ver : Nat) (r : Rv) : lkQ Q ver r = cnd (Nat.ble Q.low ver) r .no := bR_eq _ _
theorem lookF_eq (h : Hp) (b : Pth) (k : Blk → Rv) : lookF h b k = onO (look h b) .no k := by
  unfold lookF look
  rw [hK_eq, oB_eq, getB_eq]
  cases T.getP b h.m with
  | none => rfl
  | some B =>
    obtain ⟨cells, size, stride, root, ver, tipv, low⟩ := B
    cases root with
    | none =>
      show bR (Nat.ble low ver) _ = onO (cnd (Nat.ble low ver) _ none) .no k
      rw [bR_eq]
      cases Nat.ble low ver <;> rfl
    | some q =>
      show oB (getB q h.m) (fun Q => lkQ Q ver _) = onO (onO (T.getP q h.m) none fun Q => cnd (Nat.ble Q.low ver) _ none) .no k
      rw [oB_eq, getB_eq]
      cases T.getP q h.m with
      | none => rfl
      | some Q =>
        show lkQ Q ver _ = onO (cnd (Nat.ble Q.low ver) _ none) .no k
        rw [lkQ_eq]
        cases Nat.ble Q.low ver <;> rfl
theorem rdB_eq (B : Blk) (off : Nat) (k : AV → Rv) : rdB B off k = onO (readB B off) .no k := by
  show bR (Nat.blt off B.size) (oV (cGet B.cells off) k) = onO (cnd (Nat.blt off B.size) (T.get B.cells off) none) .no k
  rw [bR_eq, oV_eq, cGet_eq]
  cases Nat.blt off B.size <;> rfl
theorem readBN_succ (B : Blk) (off n : Nat) : readBN B off (n + 1) = onO (readB B off) none fun v => onO (readBN B (Nat.succ off) n) none fun l => some (v :: l) := rfl
theorem rdNs_eq (B : Blk) : ∀ (n off : Nat) (k : List AV → Rv), rdNs n B.cells B.size off k = onO (readBN B off n) .no k
  | 0, off, k => rfl
  | n + 1, off, k => by
    show rdB B off (fun v => rdNs n B.cells B.size (Nat.succ off) fun l => k (v :: l)) = _
    rw [rdB_eq, readBN_succ]
    cases readB B off with
    | none => rfl
    | some v =>
      show rdNs n B.cells B.size (Nat.succ off) (fun l => k (v :: l)) = onO (onO (readBN B (Nat.succ off) n) none fun l => some (v :: l)) .no k
      rw [rdNs_eq B n]
      cases readBN B (Nat.succ off) n <;> rfl
theorem rdBN_eq (B : Blk) (off n : Nat) (k : List AV → Rv) : rdBN B off n k = onO (readBN B off n) .no k := rdNs_eq B n off k
theorem rdN_eq (h : Hp) (b : Pth) (o n : Nat) (k : List AV → Rv) : rdN h b o n k = onO (readN h b o n) .no k := by
  unfold rdN readN
  rw [lookF_eq]
  cases look h b with
  | none => rfl
  | some B => exact rdBN_eq B o n k
theorem ld1F_eq (h : Hp) (b : Pth) (o : Nat) (k : AV → Rv) : ld1F h b o k = onO (look h b) .no fun B => onO (readB B o) .no k := by
  unfold ld1F
  rw [lookF_eq]
  cases look h b with
  | none => rfl
  | some B => exact rdB_eq B o k
theorem wrF_eq (h : Hp) (b : Pth) (off n : Nat) (vs : List AV) (k : Hp → Rv) : wrF h b off n vs k = onO (writeL h b off n vs) .no k := by
  unfold wrF writeL
  rw [hK_eq, oB_eq, getB_eq]
  cases T.getP b h.m with
  | none => rfl
  | some B =>
    obtain ⟨cells, size, stride, root, ver, tipv, low⟩ := B
    show bR (Nat.ble (Nat.add off n) size) _ = onO (cnd (Nat.ble (Nat.add off n) size) _ none) .no k
    rw [bR_eq]
    cases Nat.ble (Nat.add off n) size with
    | false => rfl
    | true =>
      cases root with
      | none =>
        show bR (Nat.beq tipv ver) (fT (setLF vs cells off) fun c => fM (putB b ⟨c, size, stride, none, ver, tipv, ver⟩ h.m) h.nx k) =
          onO (cnd (Nat.beq tipv ver) (some (forceT (setL vs cells off) fun c => forceM (T.putP ⟨c, size, stride, none, ver, tipv, ver⟩ b h.m) h.nx)) none) .no k
        rw [bR_eq, fT_eq, fM_eq, putB_eq, setLF_eq]
        cases Nat.beq tipv ver with
        | false => rfl
        | true =>
          show _ = k (forceT (setL vs cells off) fun c => forceM (T.putP ⟨c, size, stride, none, ver, tipv, ver⟩ b h.m) h.nx)
          rw [forceT_eq', forceM_eq']; rfl
      | some q =>
        show oB (getB q h.m) (fun Q => fT (setLF vs cells off) fun c => wrQ Q h.m h.nx b q c size stride ver tipv (some q) low off k) =
          onO (onO (T.getP q h.m) none fun Q => cnd (Nat.beq Q.tipv ver) (some (forceT (setL vs cells off) fun c => forceM (T.putP { Q with low := ver } q (T.putP ⟨c, size, stride, some q, ver, tipv, low⟩ b h.m)) h.nx)) none) .no k
        rw [oB_eq, getB_eq]
        cases T.getP q h.m with
        | none => rfl
        | some Q =>
          obtain ⟨qc, qs, qst, qr, qv, qt, ql⟩ := Q
          show fT (setLF vs cells off) (fun c => bR (Nat.beq qt ver) (fM (putB q ⟨qc, qs, qst, qr, qv, qt, ver⟩ (putB b ⟨c, size, stride, some q, ver, tipv, low⟩ h.m)) h.nx k)) =
            onO (cnd (Nat.beq qt ver) (some (forceT (setL vs cells off) fun c => forceM (T.putP ⟨qc, qs, qst, qr, qv, qt, ver⟩ q (T.putP ⟨c, size, stride, some q, ver, tipv, low⟩ b h.m)) h.nx)) none) .no k
          rw [fT_eq, bR_eq, fM_eq, putB_eq, putB_eq, setLF_eq]
          cases Nat.beq qt ver with
          | false => rfl
          | true =>
            show _ = k (forceT (setL vs cells off) fun c => forceM (T.putP ⟨qc, qs, qst, qr, qv, qt, ver⟩ q (T.putP ⟨c, size, stride, some q, ver, tipv, low⟩ b h.m)) h.nx)
            rw [forceT_eq', forceM_eq']; rfl
theorem incF_eq : ∀ p : Pth, incF p = p.inc
  | .z => rfl
  | .l p => rfl
  | .r p => congrArg Pth.l (incF_eq p)
theorem ofLF_eq (l : List AV) : ofLF l = ofL l := setLF_eq l .e 0
theorem newBlk_eq (h : Hp) (cells : T AV) (size stride : Nat) : newBlk h cells size stride = ⟨T.putP { cells, size, stride, root := none, ver := 0, tipv := 0, low := 0 } h.nx h.m, h.nx.inc⟩ := by
  unfold newBlk
  rw [forceT_eq', forceN_eq, forceM_eq']
theorem nbF_eq (cells : T AV) (size stride : Nat) (h : Hp) (k : Pth → Hp → Rv) : nbF cells size stride h k = k h.nx (newBlk h cells size stride) := by
  unfold nbF
  rw [fT_eq, fN_eq, hK_eq, fM_eq, putB_eq, incF_eq, newBlk_eq]
theorem kN_eq (v : AV) (k : Nat → Rv) : kN v k = onO (asN v) .no k := by
  cases v with
  | i j n => cases n <;> rfl
  | _ => rfl
theorem axN_eq (tm : T AV) (x : AX) (k : Nat → Rv) : (oV (axF x tm) fun v => kN v k) = onO (axN tm x) .no k := by
  rw [oV_eq, axF_eq]
  unfold axN
  cases ax tm x with
  | none => rfl
  | some v => exact kN_eq v k
theorem oV_ext {x : Option AV} {k k' : AV → Rv} (h : ∀ v, k v = k' v) : oV x k = onO x .no k' := by
  cases x with
  | none => rfl
  | some v => exact h v
variable (tm : T AV) (h : Hp) (call : CT)
theorem fMov_eq (x : AX) : fMov x tm h call = oMov tm h x := by unfold fMov oMov; rw [rvF_eq, axF_eq]
theorem fPick_eq (c a b : AX) : fPick c a b tm h call = oPick tm h c a b := by
  unfold fPick oPick
  rw [oV_eq, axF_eq]
  cases ax tm c with
  | none => rfl
  | some v => cases v with
    | b x =>
      show bI x (rvF (axF a tm) h) (rvF (axF b tm) h) = _
      rw [bI_eq, rvF_eq, rvF_eq, axF_eq, axF_eq]
    | _ => rfl
theorem two_eq {x y : AX} {k k' : AV → AV → Rv} (e : ∀ a b, k a b = k' a b) : (oV (axF x tm) fun a => oV (axF y tm) fun b => k a b) = onO (ax tm x) .no fun a => onO (ax tm y) .no fun b => k' a b := by
  rw [oV_eq, axF_eq]
  cases ax tm x with
  | none => rfl
  | some a =>
    show oV (axF y tm) (fun b => k a b) = onO (ax tm y) .no fun b => k' a b
    rw [axF_eq]; exact oV_ext (e a)
theorem fBin_eq (op : BinOp) (x y : AX) : fBin op x y tm h call = oBin tm h op x y := two_eq tm fun a b => kBin_eq a b op h
theorem fBinb_eq (neg : Bool) (x y : AX) : fBinb neg x y tm h call = oBinb tm h neg x y := two_eq tm fun a b => by
  cases a with
  | b a => cases b with
    | b b =>
      show okB (negB neg (eqBB a b)) h = rv h (some (boolV (cnd neg (!bEq a b) (bEq a b))))
      rw [okB_eq', negB_eq, eqBB_eq]; rfl
    | _ => rfl
  | _ => cases b <;> rfl
theorem fCmpn_eq (c : Nat) (neg : Bool) (x y : AX) : fCmpn c neg x y tm h call = oCmpn tm h c neg x y := two_eq tm fun a b => by
  rw [nilK_eq]
  cases isNilCmp c a b with
  | none => rfl
  | some r =>
    show okB (negB neg r) h = .ok (boolV (cnd neg (!r) r)) h
    rw [okB_eq', negB_eq]
theorem fEqa_eq (neg : Bool) (cs : List Nat) (x y : AX) : fEqa neg cs x y tm h call = oEqa tm h neg cs x y := by
  unfold fEqa oEqa
  rw [oV_eq, axF_eq]
  cases ax tm x with
  | none => rfl
  | some a => cases a with
    | agg a =>
      show oV (axF y tm) _ = onAgg (ax tm y) _
      rw [oV_eq, axF_eq]
      cases ax tm y with
      | none => rfl
      | some b => cases b with
        | agg b =>
          show eqKs cs a b (fun r => okB (negB neg r) h) = onO (eqFlats cs a b) .no fun r => .ok (boolV (cnd neg (!r) r)) h
          rw [eqKs_eq]
          cases eqFlats cs a b with
          | none => rfl
          | some r =>
            show okB (negB neg r) h = .ok (boolV (cnd neg (!r) r)) h
            rw [okB_eq', negB_eq]
        | _ => rfl
    | _ => rfl
theorem one_eq {x : AX} {k k' : AV → Rv} (e : ∀ a, k a = k' a) : oV (axF x tm) k = onO (ax tm x) .no k' := by rw [axF_eq]; exact oV_ext e
theorem fUn_eq (op : UnOp) (x : AX) : fUn op x tm h call = oUn tm h op x := one_eq tm fun a => by
  cases op with
  | neg => cases a <;> first | rfl | exact rvF_eq _ _
  | not => cases a with
    | b x => cases x <;> rfl
    | _ => rfl
  | xor => cases a <;> rfl
  | plus => cases a <;> rfl
theorem fConv_eq (k : IntKind) (x : AX) : fConv k x tm h call = oConv tm h k x := by
  unfold fConv oConv
  rw [oV_eq, axF_eq]
  cases ax tm x with
  | none => rfl
  | some a => cases a with
    | i j n => exact intI_eq n k h
    | _ => rfl
theorem fIds_eq (x : AX) : fIds x tm h call = oIds tm h x := by
  unfold fIds oIds
  rw [oV_eq, axF_eq]
  cases ax tm x with
  | none => rfl
  | some a => cases a <;> rfl
theorem fFld_eq (x : AX) (off : Nat) : fFld x off tm h call = oFld tm h x off := by
  unfold fFld oFld
  rw [oV_eq, axF_eq]
  cases ax tm x with
  | none => rfl
  | some a => cases a with
    | p b o =>
      show fN (Nat.add o off) (fun o => Rv.ok (.p b o) h) = forceN (Nat.add o off) fun o => Rv.ok (.p b o) h
      rw [fN_eq, forceN_eq]
    | _ => rfl
theorem fIdx_eq (x i : AX) (stride : Nat) : fIdx x i stride tm h call = oIdx tm h x i stride := by
  unfold fIdx oIdx
  rw [oV_eq, axF_eq]
  cases ax tm x with
  | none => rfl
  | some a => cases a with
    | sl b o len cap =>
      show (oV (axF i tm) fun i => kN i fun i => bR (Nat.blt i len) (fN (Nat.add o (Nat.mul i stride)) fun o => .ok (.p b o) h)) = onO (axN tm i) .no fun i => cnd (Nat.blt i len) (forceN (Nat.add o (Nat.mul i stride)) fun o => .ok (.p b o) h) .no
      rw [axN_eq]
      congr 1; funext i
      rw [bR_eq, fN_eq, forceN_eq]
    | _ => rfl
theorem fIdxa_eq (x i : AX) (stride len : Nat) : fIdxa x i stride len tm h call = oIdxa tm h x i stride len := by
  unfold fIdxa oIdxa
  rw [oV_eq, axF_eq]
  cases ax tm x with
  | none => rfl
  | some a => cases a with
    | p b o =>
      show (oV (axF i tm) fun i => kN i fun i => bR (Nat.blt i len) (fN (Nat.add o (Nat.mul i stride)) fun o => .ok (.p b o) h)) = onO (axN tm i) .no fun i => cnd (Nat.blt i len) (forceN (Nat.add o (Nat.mul i stride)) fun o => .ok (.p b o) h) .no
      rw [axN_eq]
      congr 1; funext i
      rw [bR_eq, fN_eq, forceN_eq]
    | _ => rfl
theorem fLd1_eq (x : AX) : fLd1 x tm h call = oLd1 tm h x := by
  unfold fLd1 oLd1
  rw [oV_eq, axF_eq]
  cases ax tm x with
  | none => rfl
  | some a => cases a with
    | p b o =>
      show ld1F h b o (fun v => .ok v h) = onO (look h b) .no fun B => rv h (readB B o)
      rw [ld1F_eq]; rfl
    | _ => rfl
theorem fLdn_eq (x : AX) (n : Nat) : fLdn x n tm h call = oLdn tm h x n := by
  unfold fLdn oLdn
  rw [oV_eq, axF_eq]
  cases ax tm x with
  | none => rfl
  | some a => cases a with
    | p b o => exact rdN_eq h b o n _
    | _ => rfl
theorem fSt_eq (x v : AX) (n : Nat) : fSt x v n tm h call = oSt tm h x v n := by
  unfold fSt oSt
  rw [oV_eq, axF_eq]
  cases ax tm x with
  | none => rfl
  | some a => cases a with
    | p b o =>
      show (oV (axF v tm) fun v => stN (cellsF v) n b o h) = onO (ax tm v) .no _
      refine one_eq tm fun u => ?_
      unfold stN
      rw [bR_eq, bR_eq, lenF_eq, onesF_eq, cellsF_eq, wrF_eq]; rfl
    | _ => rfl
theorem fAlloc_eq (cells : List AV) (stride : Nat) : fAlloc cells stride tm h call = oAlloc h cells stride := by
  unfold fAlloc oAlloc
  rw [nbF_eq, ofLF_eq, lenF_eq]
theorem fBox_eq (v : AX) (stride : Nat) : fBox v stride tm h call = oBox tm h v stride := one_eq tm fun u => by
  rw [bR_eq, nbF_eq, ofLF_eq, lenF_eq, onesF_eq, cellsF_eq]
theorem fillF_eq : ∀ (ps : List (Nat × Nat × AX)) (c : List AV) (k : List AV → Rv), fillF ps tm c k = onO (fillL tm ps c) .no k
  | [], c, k => rfl
  | (off, size, x) :: r, c, k => by
    show (oV (axF x tm) fun v => fill1 (cellsF v) off size c fun c => fillF r tm c k) = onO (onO (ax tm x) none fun v =>
      cnd (Nat.beq (listLen (cellsOf v)) size) (cnd (Nat.ble (Nat.add off size) (listLen c))
        (fillL tm r (listTake c off ++ (cellsOf v ++ listDrop c (Nat.add off size)))) none) none) .no k
    rw [oV_eq, axF_eq]
    cases ax tm x with
    | none => rfl
    | some v =>
      show fill1 (cellsF v) off size c (fun c => fillF r tm c k) = onO (cnd (Nat.beq (listLen (cellsOf v)) size) (cnd (Nat.ble (Nat.add off size) (listLen c))
        (fillL tm r (listTake c off ++ (cellsOf v ++ listDrop c (Nat.add off size)))) none) none) .no k
      unfold fill1
      rw [bR_eq, bR_eq, lenF_eq, lenF_eq, cellsF_eq, takeF_eq, dropF_eq, appF_eq, appF_eq]
      dsimp only
      rw [fillF_eq r]
      cases Nat.beq (listLen (cellsOf v)) size with
      | false => rfl
      | true => cases Nat.ble (Nat.add off size) (listLen c) <;> rfl
theorem fBuild_eq (zero : List AV) (ps : List (Nat × Nat × AX)) : fBuild zero ps tm h call = oBuild tm h zero ps := fillF_eq tm ps zero _
theorem fBslice_eq (zero : List AV) (len stride : Nat) (ps : List (Nat × Nat × AX)) : fBslice zero len stride ps tm h call = oBslice tm h zero len stride ps := by
  unfold fBslice oBslice
  rw [fillF_eq, repF_eq]
  congr 1; funext l
  rw [bR_eq, nbF_eq, ofLF_eq, lenF_eq, onesF_eq]
theorem takeK_eq : ∀ (l : List AV) (n : Nat) (k : List AV → Rv), takeK l n k = k (listTake l n)
  | [], n, k => rfl
  | v :: r, n, k => by
    show bI (Nat.beq n 0) (k []) (takeK r (Nat.pred n) fun l => k (v :: l)) = k (cnd (Nat.beq n 0) [] (v :: listTake r (Nat.pred n)))
    rw [bI_eq, takeK_eq r]
    cases Nat.beq n 0 <;> rfl
theorem part_eq (l : List AV) (off size : Nat) (isAgg : Bool) : bI isAgg (takeK (dropF l off) size fun l => .ok (.agg l) h) (rvF (nthF l off) h) = rv h (partOf l off size isAgg) := by
  rw [bI_eq, takeK_eq, dropF_eq, nthF_eq, rvF_eq]
  cases isAgg <;> rfl
theorem fFieldv_eq (x : AX) (off size : Nat) (isAgg : Bool) : fFieldv x off size isAgg tm h call = oFieldv tm h x off size isAgg := by
  unfold fFieldv oFieldv
  rw [oV_eq, axF_eq]
  cases ax tm x with
  | none => rfl
  | some a => cases a with
    | agg l => exact part_eq h l off size isAgg
    | _ => rfl
theorem fIndexs_eq (x i : AX) : fIndexs x i tm h call = oIndexs tm h x i := by
  unfold fIndexs oIndexs
  rw [oV_eq, axF_eq]
  cases ax tm x with
  | none => rfl
  | some a => cases a with
    | s l n =>
      show (oV (axF i tm) fun i => kN i fun i => bR (Nat.blt i l) (fN (Nat.mod (Nat.div n (Nat.pow 256 i)) 256) fun c => .ok (.i .u8 (.ofNat c)) h)) = onO (axN tm i) .no fun i => cnd (Nat.blt i l) (forceN (Nat.mod (Nat.div n (Nat.pow 256 i)) 256) fun c => .ok (.i .u8 (.ofNat c)) h) .no
      rw [axN_eq]
      congr 1; funext i
      rw [bR_eq, fN_eq, forceN_eq]
    | _ => rfl
theorem fIndexv_eq (x i : AX) (len size : Nat) (isAgg : Bool) : fIndexv x i len size isAgg tm h call = oIndexv tm h x i len size isAgg := by
  unfold fIndexv oIndexv
  rw [oV_eq, axF_eq]
  cases ax tm x with
  | none => rfl
  | some a => cases a with
    | agg l =>
      show (oV (axF i tm) fun i => kN i fun i => bR (Nat.blt i len) _) = onO (axN tm i) .no fun i => cnd (Nat.blt i len) (rv h (partOf l (Nat.mul i size) size isAgg)) .no
      rw [axN_eq]
      congr 1; funext i
      rw [bR_eq, part_eq]
    | _ => rfl
theorem fExt_eq (x : AX) (ix : Nat) : fExt x ix tm h call = oExt tm h x ix := by
  unfold fExt oExt
  rw [oV_eq, axF_eq]
  cases ax tm x with
  | none => rfl
  | some a => cases a with
    | tup l => show rvF (nthF l ix) h = _; rw [rvF_eq, nthF_eq]
    | _ => rfl
theorem fMkfn_eq (f : Nat) (a b : List AX) : fMkfn f a b tm h call = oMkfn tm h f a b := by
  unfold fMkfn oMkfn
  rw [axsF_eq]
  congr 1; funext l
  exact axsF_eq _ _ _
theorem fNilck_eq (x : AX) : fNilck x tm h call = oNilck tm h x := by
  unfold fNilck oNilck
  rw [oV_eq, axF_eq]
  cases ax tm x with
  | none => rfl
  | some a => cases a <;> rfl
theorem fCall_eq (f : Nat) (args : List AX) : fCall f args tm h call = oCall tm h call f args := axsF_eq _ _ _
theorem fCallv_eq (x : AX) (args : List AX) : fCallv x args tm h call = oCallv tm h call x args := by
  unfold fCallv oCallv
  rw [oV_eq, axF_eq]
  cases ax tm x with
  | none => rfl
  | some a => cases a with
    | fn f a b =>
      show axsF args tm (fun l => call.fn f (appF a (appF l b)) h) = onO (axs tm args) .no fun l => call.fn f (a ++ (l ++ b)) h
      rw [axsF_eq]
      congr 1; funext l
      rw [appF_eq, appF_eq]
    | yi => exact axsF_eq _ _ _
    | _ => rfl
theorem fLen_eq (x : AX) : fLen x tm h call = oLen tm h x := by
  unfold fLen oLen
  rw [oV_eq, axF_eq]
  cases ax tm x with
  | none => rfl
  | some a => cases a <;> rfl
theorem fLens_eq (x : AX) : fLens x tm h call = oLens tm h x := by
  unfold fLens oLens
  rw [oV_eq, axF_eq]
  cases ax tm x with
  | none => rfl
  | some a => cases a <;> rfl
theorem growF_eq (stride : Nat) (B : Blk) (off len need : Nat) (xs : List AV) : growF h stride B off len need xs = growL h stride B off len need xs := by
  unfold growF growL
  rw [rdBN_eq]
  congr 1; funext old
  rw [nbF_eq, ofLF_eq, appF_eq]
theorem memF_eq (B : Blk) (stride off len e : Nat) (xs : List AV) (k : T AV → Rv) : memF B.cells B.size stride off len e xs k = onO (memCells B stride off len e xs) .no k := by
  unfold memF memCells
  rw [bI_eq, rdNs_eq, setLF_eq]
  cases Nat.beq off 0 with
  | true => rfl
  | false =>
    show onO (readBN B off (Nat.mul len stride)) .no (fun old => k (ofLF (appF old xs))) = onO (onO (readBN B off (Nat.mul len stride)) none fun old => some (ofL (old ++ xs))) .no k
    cases readBN B off (Nat.mul len stride) with
    | none => rfl
    | some old => show k (ofLF (appF old xs)) = k (ofL (old ++ xs)); rw [ofLF_eq, appF_eq]
theorem mbQ_eq (Q : Blk) (q : Pth) (need cap stride ver : Nat) (keep : Bool) (cells : T AV) :
    mbQ Q h.m h.nx q need cap stride ver keep cells = cnd (Nat.beq Q.tipv ver) (member h stride need cap q Q cells keep) .no := by
  obtain ⟨qc, qs, qst, qr, qv, qt, ql⟩ := Q
  unfold member
  rw [forceN_eq, forceN_eq, forceT_eq', forceM_eq']
  show bR (Nat.beq qt ver) (fN (Nat.mul need stride) fun size => fN (Nat.succ qt) fun v => fT cells fun cells =>
    fM (putB q ⟨qc, qs, qst, qr, qv, v, cnd keep ql v⟩ (putB h.nx ⟨cells, size, stride, some q, v, 0, 0⟩ h.m)) (incF h.nx) fun h' => .ok (.sl h.nx 0 need cap) h') = _
  rw [bR_eq, fN_eq, fN_eq, fT_eq, fM_eq, putB_eq, putB_eq, incF_eq]
theorem rtF_eq (b : Pth) (B : Blk) (k : Pth → Blk → Rv) : rtF B.root h.m b B k = onO (rootOf h b B) .no fun x => k x.1 x.2 := by
  obtain ⟨cells, size, st, root, ver, tipv, low⟩ := B
  unfold rootOf
  cases root with
  | none => rfl
  | some q =>
    show oB (getB q h.m) (fun Q => k q Q) = onO (onO (T.getP q h.m) none fun Q => some (q, Q)) .no fun x => k x.1 x.2
    rw [oB_eq, getB_eq]
    cases T.getP q h.m <;> rfl
theorem apSl_eq (stride : Nat) (b : Pth) (off len cap k : Nat) (xs : List AV) : apSl h stride b off len cap k xs = appSl h stride b off len cap k xs := by
  unfold apSl appSl
  rw [lookF_eq]
  congr 1; funext B
  show bR (Nat.beq B.stride stride) (fN (Nat.add len k) fun need => bI (Nat.blt cap need) (growF h stride B off len need xs)
    (fN (Nat.add off (Nat.mul len stride)) fun e => bR (Nat.ble e B.size) (memF B.cells B.size stride off len e xs fun c => rtF B.root h.m b B fun q Q => mbQ Q h.m h.nx q need cap stride B.ver (Nat.beq e B.size) c))) = _
  rw [bR_eq, fN_eq, forceN_eq, bI_eq, fN_eq, growF_eq, bR_eq, memF_eq]
  unfold stayL
  rw [forceN_eq]
  congr 2
  congr 1
  congr 1; funext c
  rw [rtF_eq]
  congr 1; funext x
  exact mbQ_eq _ _ _ _ _ _ _ _ _
theorem apF_eq (s : AV) (stride k : Nat) (xs : List AV) : apF s h stride k xs = appendL h stride s k xs := by
  cases s with
  | ns =>
    show bI (Nat.beq k 0) (.ok .ns h) (nbF (ofLF xs) (Nat.mul k stride) stride h fun b h => .ok (.sl b 0 k UNK) h) = cnd (Nat.beq k 0) (.ok .ns h) (.ok (.sl h.nx 0 k UNK) (newBlk h (ofL xs) (Nat.mul k stride) stride))
    rw [bI_eq, nbF_eq, ofLF_eq]
  | sl b off len cap =>
    show bI (Nat.beq k 0) (.ok (.sl b off len cap) h) (apSl h stride b off len cap k xs) = cnd (Nat.beq k 0) (.ok (.sl b off len cap) h) (appSl h stride b off len cap k xs)
    rw [bI_eq, apSl_eq]
  | _ => rfl
theorem cfF_eq (x : AV) (stride : Nat) (k : Nat → List AV → Rv) : cfF x h stride k = onO (cellsFor h stride x) .no fun c => k c.1 c.2 := by
  cases x with
  | s l n =>
    show bR (Nat.beq stride 1) (k l (bytesF l n)) = onO (cnd (Nat.beq stride 1) (some (l, bytesOf l n)) none) .no fun c => k c.1 c.2
    rw [bR_eq, bytesF_eq]
    cases Nat.beq stride 1 <;> rfl
  | sl b off len cap =>
    show bI (Nat.beq len 0) (k 0 []) (rdN h b off (Nat.mul len stride) fun l => k len l) = onO (cnd (Nat.beq len 0) (some (0, [])) (onO (readN h b off (Nat.mul len stride)) none fun l => some (len, l))) .no fun c => k c.1 c.2
    rw [bI_eq, rdN_eq]
    cases Nat.beq len 0 with
    | true => rfl
    | false => show onO (readN h b off (Nat.mul len stride)) .no (fun l => k len l) = _; cases readN h b off (Nat.mul len stride) <;> rfl
  | _ => rfl
theorem lokF_eq (r : Rv) (bytes : Nat) : lokF r bytes = lenOk bytes r := by
  cases r with
  | no => rfl
  | ok v h => cases v with
    | sl b o len cap =>
      show bR (Nat.ble (Nat.mul len bytes) 1099511627776) (bR (Nat.blt len 4611686018427387904) (.ok (.sl b o len cap) h)) = _
      rw [bR_eq, bR_eq]; rfl
    | _ => rfl
theorem fAppend_eq (stride bytes : Nat) (s x : AX) : fAppend stride bytes s x tm h call = oAppend tm h stride bytes s x := by
  refine two_eq tm fun s x => ?_
  rw [cfF_eq]
  congr 1; funext c
  rw [lokF_eq, apF_eq]
theorem fOp_eq (o : AOp) : fOp o tm h call = evOp call o tm h := by
  cases o with
  | mov x => exact fMov_eq tm h call x
  | pick c a b => exact fPick_eq tm h call c a b
  | bin op x y => exact fBin_eq tm h call op x y
  | binb neg x y => exact fBinb_eq tm h call neg x y
  | cmpn c neg x y => exact fCmpn_eq tm h call c neg x y
  | eqa neg cs x y => exact fEqa_eq tm h call neg cs x y
  | un op x => exact fUn_eq tm h call op x
  | conv k x => exact fConv_eq tm h call k x
  | ids x => exact fIds_eq tm h call x
  | fld x off => exact fFld_eq tm h call x off
  | idx x i stride => exact fIdx_eq tm h call x i stride
  | idxa x i stride len => exact fIdxa_eq tm h call x i stride len
  | ld1 x => exact fLd1_eq tm h call x
  | ldn x n => exact fLdn_eq tm h call x n
  | st x v n => exact fSt_eq tm h call x v n
  | alloc cells stride => exact fAlloc_eq tm h call cells stride
  | box v stride => exact fBox_eq tm h call v stride
  | build zero parts => exact fBuild_eq tm h call zero parts
  | bslice zero len stride parts => exact fBslice_eq tm h call zero len stride parts
  | fieldv x off size isAgg => exact fFieldv_eq tm h call x off size isAgg
  | indexs x i => exact fIndexs_eq tm h call x i
  | indexv x i len size isAgg => exact fIndexv_eq tm h call x i len size isAgg
  | ext x ix => exact fExt_eq tm h call x ix
  | mkfn f a b => exact fMkfn_eq tm h call f a b
  | nilck x => exact fNilck_eq tm h call x
  | call f args => exact fCall_eq tm h call f args
  | callv x args => exact fCallv_eq tm h call x args
  | len x => exact fLen_eq tm h call x
  | lens x => exact fLens_eq tm h call x
  | append stride bytes s x => exact fAppend_eq tm h call stride bytes s x
  | _ => rfl
/- Code. -/
theorem rK_eq (r : Rv) (k : AV → Hp → R) : rK r k = onR r k := by cases r <;> rfl
theorem wT_eq (t : T AV) (h : Hp) (k : RT) : wT t h k = withT t h k := by cases t <;> rfl
theorem oR_eq (x : Option AV) (k : AV → R) : oR x k = onO x .no k := by cases x <;> rfl
theorem wnF_eq (g : Pth) (want : Bool) (a b : R) : wnF tm g want a b = onO (wanted tm g want) .no fun w => cnd w a b := by
  unfold wnF wanted
  rw [oR_eq, getA_eq]
  cases T.getP g tm with
  | none => rfl
  | some v => cases v with
    | b x =>
      show bIR (eqBB x want) a b = cnd (bEq x want) a b
      rw [eqBB_eq]
      cases bEq x want <;> rfl
    | _ => rfl
theorem chkF_eq (op : AOp) (d : Pth) (k : RT) : chkF op d call k tm h = chk call k tm h d op := by
  unfold chkF chk
  rw [rK_eq, fOp_eq]
  congr 1; funext v _
  rw [oR_eq, getA_eq]
  congr 1; funext u
  cases avEq v u <;> rfl
theorem fOper_eq (o : AOper) (k : RT) : fOper o call k tm h = evOper call k tm h o := by
  cases o with
  | o d op =>
    show rK (fOp op tm h call) (fun v h => wT (putA d v tm) h k) = onR (evOp call op tm h) fun v h => withT (T.putP v d tm) h k
    rw [rK_eq, fOp_eq]; congr 1; funext v h; rw [wT_eq, putA_eq]
  | n op =>
    show rK (fOp op tm h call) (fun _ h => k tm h) = onR (evOp call op tm h) fun _ h => k tm h
    rw [rK_eq, fOp_eq]
  | g d op g want =>
    show wnF tm g want (rK (fOp op tm h call) fun v h => wT (putA d v tm) h k) (wT (putA d (.tup []) tm) h k) =
      onO (wanted tm g want) .no fun w => cnd w (onR (evOp call op tm h) fun v h => withT (T.putP v d tm) h k) (withT (T.putP (.tup []) d tm) h k)
    rw [wnF_eq, rK_eq, fOp_eq, wT_eq, putA_eq]
    congr 1; funext w; congr 1; congr 1; funext v h; rw [wT_eq, putA_eq]
  | gn op g want =>
    show wnF tm g want (rK (fOp op tm h call) fun _ h => k tm h) (k tm h) = onO (wanted tm g want) .no fun w => cnd w (onR (evOp call op tm h) fun _ h => k tm h) (k tm h)
    rw [wnF_eq, rK_eq, fOp_eq]
  | c d op => exact chkF_eq tm h call op d k
  | cg d op g want =>
    show wnF tm g want (chkF op d call k tm h) (k tm h) = onO (wanted tm g want) .no fun w => cnd w (chk call k tm h d op) (k tm h)
    rw [wnF_eq, chkF_eq]
theorem fOps_eq : ∀ (l : List AOper) (tm : T AV) (h : Hp), fOps l call tm h = evOps call l tm h
  | [], _, _ => rfl
  | o :: r, tm, h => by
    show fOper o call (fOps r call) tm h = evOper call (evOps call r) tm h o
    rw [show fOps r call = evOps call r from funext fun tm => funext fun h => fOps_eq r tm h, fOper_eq]
theorem goK_eq (r : R) (k : RT) : goK r k = onGo r k := by cases r <;> rfl
theorem exK_eq (r : R) (id : Nat) : exK r id = onExit id r := by
  cases r with
  | exit i t h => show bIR (Nat.beq i id) (.go t h) (.exit i t h) = cnd (Nat.beq i id) (.go t h) (.exit i t h); cases Nat.beq i id <;> rfl
  | _ => rfl
theorem loopF_eq (body : RT) : ∀ f : Nat, loopF f body = loopN body f
  | 0 => rfl
  | f + 1 => by
    funext tm h
    show goK (body tm h) (loopF f body) = onGo (body tm h) (loopN body f)
    rw [goK_eq, loopF_eq body f]
theorem fCode_eq (fuel : Nat) : ∀ c : ACode, fCode c call fuel = evCode call fuel c
  | .skip => rfl
  | .ops l => funext fun tm => funext fun h => fOps_eq call l tm h
  | .seq a b => by
    funext tm h
    show goK (fCode a call fuel tm h) (fCode b call fuel) = onGo (evCode call fuel a tm h) (evCode call fuel b)
    rw [goK_eq, fCode_eq fuel a, fCode_eq fuel b]
  | .cond c a b => by
    funext tm h
    show brO (axF c tm) (fCode a call fuel) (fCode b call fuel) tm h = onB (ax tm c) (evCode call fuel a tm h) (evCode call fuel b tm h)
    rw [axF_eq, fCode_eq fuel a, fCode_eq fuel b]
    cases ax tm c with
    | none => rfl
    | some v => cases v with
      | b x => cases x <;> rfl
      | _ => rfl
  | .block id c => by
    funext tm h
    show exK (fCode c call fuel tm h) id = onExit id (evCode call fuel c tm h)
    rw [exK_eq, fCode_eq fuel c]
  | .loop c => by
    show loopF fuel (fCode c call fuel) = loopN (evCode call fuel c) fuel
    rw [loopF_eq, fCode_eq fuel c]
  | .exit id => rfl
  | .ret => rfl
  | .bad => rfl
  | .range x ps a b => by
    funext tm h
    show evRange call (fCode a call fuel) (fCode b call fuel) x ps tm h = evRange call (evCode call fuel a) (evCode call fuel b) x ps tm h
    rw [fCode_eq fuel a, fCode_eq fuel b]
theorem resF_eq (x : ARes) : resF x tm h = resV tm h x := by cases x with
  | t n => exact getA_eq n tm
  | cell a n isAgg => rfl
theorem resK_eq : ∀ (l : List ARes) (k : List AV → Rv), resK l tm h k = onO (resL tm h l) .no k
  | [], k => rfl
  | x :: r, k => by
    show oV (resF x tm h) (fun v => resK r tm h fun l => k (v :: l)) = onO (onO (resV tm h x) none fun v => onO (resL tm h r) none fun l => some (v :: l)) .no k
    rw [oV_eq, resF_eq]
    cases resV tm h x with
    | none => rfl
    | some v =>
      show resK r tm h (fun l => k (v :: l)) = onO (onO (resL tm h r) none fun l => some (v :: l)) .no k
      rw [resK_eq r]
      cases resL tm h r <;> rfl
theorem results_eq (l : List ARes) : resK l tm h (fun l => ok1 l h) = results tm h l := by
  unfold results
  rw [resK_eq]
  cases resL tm h l with
  | none => rfl
  | some l => match l with
    | [] => rfl
    | [v] => rfl
    | u :: v :: r => rfl
theorem finK_eq (r : R) (res : List ARes) : finK r res = fin res r := by
  cases r with
  | go t h => exact results_eq t h res
  | ret t h => exact results_eq t h res
  | _ => rfl
theorem wA_eq (t : T AV) (p : Pth) (k : Pth → T AV → T AV) : wA t p k = k p t := by cases t <;> rfl
theorem argF_eq : ∀ (l : List AV) (p : Pth) (tm : T AV), argF l p tm = argsT l p tm
  | [], _, _ => rfl
  | v :: r, p, tm => by
    show wA (putA p v tm) (incF p) (argF r) = T.rec (motive := fun _ => T AV) (argsT r p.inc .e) (fun a b d _ _ => argsT r p.inc (.n a b d)) (T.putP v p tm)
    rw [wA_eq, putA_eq, incF_eq, argF_eq r]
    cases T.putP v p tm <;> rfl
theorem callF_eq (tbl : Nat → Option AFn) (fuel : Nat) : ∀ n : Nat, callF tbl fuel n = callN tbl fuel n
  | 0 => rfl
  | n + 1 => by
    funext lv ra yl f args h
    show fnO (tbl f) ra ⟨callF tbl fuel n, lv, yl⟩ fuel args h = onO (tbl f) .no fun fn => AFn.rec (motive := fun _ => Rv)
      (fun _ body res => fin res (evCode ⟨callN tbl fuel n, lv, yl⟩ fuel body (argsT args .z .e) h)) (fun x => cnd ra .no (evExt x args h)) (fun g => cnd ra .no (g args h))
      (fun na body res => cnd (Nat.ble na (listLen args)) (fin res (evCode ⟨callN tbl fuel n, lv, yl⟩ fuel body (argsT args .z .e) h)) .no) fn
    rw [callF_eq tbl fuel n]
    cases tbl f with
    | none => rfl
    | some fn => cases fn with
      | code nt body res =>
        show finK (fCode body _ fuel (argF args .z .e) h) res = fin res (evCode _ fuel body (argsT args .z .e) h)
        rw [finK_eq, fCode_eq, argF_eq]
      | ext x => rfl
      | fn g => rfl
      | opt na body res =>
        show bR (Nat.ble na (lenF args)) (finK (fCode body _ fuel (argF args .z .e) h) res) = cnd (Nat.ble na (listLen args)) (fin res (evCode _ fuel body (argsT args .z .e) h)) .no
        rw [bR_eq, lenF_eq, finK_eq, fCode_eq, argF_eq]
end F
end
end Go.Abs
