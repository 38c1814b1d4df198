/- What the abstract machine's values, temporaries and heap say of a world. -/
import Derived.Test.YtcfjhdhpofomjaaGreatDoorAbsT
import Derived.Below
import Derived.Laws.CopyRow
set_option linter.unusedSectionVars false
set_option linter.unusedSimpArgs false
set_option linter.unusedVariables false
set_option linter.constructorNameAsVariable false
namespace Go.Abs
open Go.RowKit

structure Loc where
  blk : Nat
  base : Nat
  lim : Nat
  stride : Nat
/-- Where blocks lie; objects that are no cells and stay (as a function of the jump that is pending). -/
structure Phi where
  f : Pth → Option Loc
  keep : Nat → Option (Nat → Obj)
instance : CoeFun Phi (fun _ => Pth → Option Loc) := ⟨Phi.f⟩
/-- The frame: its yield's loop; what was known when it was entered. -/
structure Frm where
  yl : Nat
  base : Phi
  /-- Loops whose record depends on the jump that is pending: their levels. -/
  tg : Nat → Option Nat
class Fr where
  s : Frm


/-- What the unknown values are. -/
class Env where
  val : Nat → Value
  one : ∀ i, (val i).oneCell' = true
  cells : ∀ i, (val i).cells = #[val i]
variable [Env] [Fr]
mutual
inductive VRel (φ : Phi) : AV → Value → Prop
  | b (x : Bool) : VRel φ (.b x) (.bool x)
  | i (k : IntKind) (n : Int) : VRel φ (.i k n) (.int k n)
  | s (l : List UInt8) : VRel φ (.s l.length (strN l)) (.string ⟨l.toArray⟩)
  | np : VRel φ .np (.pointer none)
  | p {b : Pth} {o : Nat} {L : Loc} (h : φ b = some L) : VRel φ (.p b o) (.pointer (some ⟨L.blk, L.base + o, none⟩))
  | ns : VRel φ .ns (.slice none 0 0)
  | sl {b : Pth} {o len cap c : Nat} {L : Loc} (h : φ b = some L) (hc : cap = UNK ∨ cap = c) (hl : len ≤ c) (hr : L.base + o + c * L.stride ≤ L.lim) :
      VRel φ (.sl b o len cap) (.slice (some ⟨L.blk, L.base + o, none⟩) len c)
  | sl0 {b : Pth} {o cap : Nat} {a : Addr} {L : Loc} (h : φ b = some L) (hc : cap = UNK ∨ cap = 0) : VRel φ (.sl b o 0 cap) (.slice (some a) 0 0)
  | nf : VRel φ .nf .nilFunc
  | fn {f : Nat} {a c : List AV} {a' c' : List Value} (ha : VRels φ a a') (hc : VRels φ c c') : VRel φ (.fn f a c) (.func (.func f) ⟨a'⟩ ⟨c'⟩)
  | ni : VRel φ .ni .nilIface
  | nm : VRel φ .nm (.map none)
  | agg {l : List AV} {l' : List Value} (h : VRels φ l l') : VRel φ (.agg l) (.agg ⟨l'⟩)
  | tup {l : List AV} {l' : List Value} (h : VRels φ l l') : VRel φ (.tup l) (.tuple ⟨l'⟩)
  | q (i : Nat) : VRel φ (.q i) (Env.val i)
  | yi : VRel φ .yi (.func (.yield Fr.s.yl) #[] #[])
inductive VRels (φ : Phi) : List AV → List Value → Prop
  | nil : VRels φ [] []
  | cons {x : AV} {y : Value} {l : List AV} {l' : List Value} (h : VRel φ x y) (t : VRels φ l l') : VRels φ (x :: l) (y :: l')
end

structure Ext (φ φ' : Phi) : Prop where
  f : ∀ b L, φ b = some L → φ' b = some L
  keep : ∀ i o, φ.keep i = some o → φ'.keep i = some o
instance {φ φ' : Phi} : CoeFun (Ext φ φ') (fun _ => ∀ b L, φ b = some L → φ' b = some L) := ⟨Ext.f⟩
theorem Ext.refl (φ : Phi) : Ext φ φ := ⟨fun _ _ h => h, fun _ _ h => h⟩
theorem Ext.trans {a b c : Phi} (h : Ext a b) (k : Ext b c) : Ext a c := ⟨fun p L x => k p L (h p L x), fun p L x => k.keep p L (h.keep p L x)⟩

mutual
theorem VRel.sub {φ φ' : Phi} (e : ∀ b L, φ b = some L → φ' b = some L) : ∀ {x : AV} {y : Value}, VRel φ x y → VRel φ' x y
  | _, _, .b x => .b x
  | _, _, .i k n => .i k n
  | _, _, .s l => .s l
  | _, _, .np => .np
  | _, _, .p h => .p (e _ _ h)
  | _, _, .ns => .ns
  | _, _, .sl h hc hl hr => .sl (e _ _ h) hc hl hr
  | _, _, .sl0 h hc => .sl0 (e _ _ h) hc
  | _, _, .nf => .nf
  | _, _, .fn ha hc => .fn (VRels.sub e ha) (VRels.sub e hc)
  | _, _, .ni => .ni
  | _, _, .nm => .nm
  | _, _, .q i => .q i
  | _, _, .yi => .yi
  | _, _, .agg h => .agg (VRels.sub e h)
  | _, _, .tup h => .tup (VRels.sub e h)
theorem VRels.sub {φ φ' : Phi} (e : ∀ b L, φ b = some L → φ' b = some L) : ∀ {x : List AV} {y : List Value}, VRels φ x y → VRels φ' x y
  | _, _, .nil => .nil
  | _, _, .cons h t => .cons (VRel.sub e h) (VRels.sub e t)
end
theorem VRel.mono {φ φ' : Phi} (e : Ext φ φ') {x : AV} {y : Value} (h : VRel φ x y) : VRel φ' x y := h.sub e.f
theorem VRels.mono {φ φ' : Phi} (e : Ext φ φ') {x : List AV} {y : List Value} (h : VRels φ x y) : VRels φ' x y := h.sub e.f

theorem VRels.length {φ : Phi} : ∀ {x : List AV} {y : List Value}, VRels φ x y → x.length = y.length
  | _, _, .nil => rfl
  | _, _, .cons _ t => by simp [VRels.length t]
theorem VRels.get {φ : Phi} : ∀ {x : List AV} {y : List Value}, VRels φ x y → ∀ {i : Nat} {a : AV}, x[i]? = some a → ∃ b, y[i]? = some b ∧ VRel φ a b
  | _, _, .nil, i, a, h => by simp at h
  | _, _, .cons h t, 0, a, e => by simp at e; subst e; exact ⟨_, rfl, h⟩
  | _, _, .cons h t, i + 1, a, e => by simp at e; simpa using VRels.get t e
theorem VRels.append {φ : Phi} : ∀ {x : List AV} {y : List Value}, VRels φ x y → ∀ {x' : List AV} {y' : List Value}, VRels φ x' y' → VRels φ (x ++ x') (y ++ y')
  | _, _, .nil, _, _, h => h
  | _, _, .cons h t, _, _, k => .cons h (VRels.append t k)
theorem VRels.take {φ : Phi} : ∀ {x : List AV} {y : List Value}, VRels φ x y → ∀ n, VRels φ (x.take n) (y.take n)
  | _, _, .nil, n => by simp; exact .nil
  | _, _, .cons h t, 0 => by simp; exact .nil
  | _, _, .cons h t, n + 1 => by simp; exact .cons h (VRels.take t n)
theorem VRels.drop {φ : Phi} : ∀ {x : List AV} {y : List Value}, VRels φ x y → ∀ n, VRels φ (x.drop n) (y.drop n)
  | _, _, .nil, n => by simp; exact .nil
  | _, _, .cons h t, 0 => .cons h t
  | _, _, .cons h t, n + 1 => by simpa using VRels.drop t n
theorem VRels.of_get {φ : Phi} : ∀ {x : List AV} {y : List Value}, x.length = y.length → (∀ (i : Nat) (a : AV) (b : Value), x[i]? = some a → y[i]? = some b → VRel φ a b) → VRels φ x y
  | [], [], _, _ => .nil
  | a :: x, b :: y, hl, h => .cons (h 0 a b rfl rfl) (VRels.of_get (x := x) (y := y) (by simpa using hl) (fun i u v hu hv => h (i + 1) u v (by simpa using hu) (by simpa using hv)))
  | [], b :: y, hl, _ => by simp at hl
  | a :: x, [], hl, _ => by simp at hl

/-- The cells of a value, and those of what it stands for. -/
theorem VRel.cells {φ : Phi} {x : AV} {y : Value} (h : VRel φ x y) : VRels φ (cellsOf x) y.cells.toList := by
  cases h
  case q i => rw [Env.cells]; exact .cons (.q i) .nil
  case yi => exact .cons .yi .nil
  all_goals first | exact .cons (by constructor <;> assumption) .nil | assumption | skip
  all_goals simp only [cellsOf, Value.cells]
  all_goals exact .cons (by first | exact .sl ‹_› ‹_› ‹_› ‹_› | exact .sl0 ‹_› ‹_› | (constructor <;> assumption)) .nil

theorem VRel.one {φ : Phi} {x : AV} {y : Value} (h : VRel φ x y) (ho : x.one = true) : y.oneCell' = true := by cases h <;> first | rfl | exact Env.one _ | cases ho
theorem ones_all : ∀ {l : List AV}, ones l = true → ∀ x ∈ l, x.one = true
  | v :: r, h, x, hx => by
    obtain ⟨h1, h2⟩ : v.one = true ∧ ones r = true := by
      have : cnd v.one (ones r) false = true := h
      cases e : v.one <;> simp_all
    rcases List.mem_cons.1 hx with e | e
    · rw [e]; exact h1
    · exact ones_all h2 x e
theorem VRels.one {φ : Phi} : ∀ {x : List AV} {y : List Value}, VRels φ x y → (∀ v ∈ x, v.one = true) → ∀ v ∈ y, v.oneCell' = true
  | _, _, .nil, _, v, hv => by simp at hv
  | _, _, .cons h t, ho, v, hv => by
    rcases List.mem_cons.1 hv with e | e
    · rw [e]; exact h.one (ho _ (by simp))
    · exact VRels.one t (fun u hu => ho u (by simp [hu])) v e

/-- What a block says of the world. -/
structure BRel (φ : Phi) (w : World) (B : Blk) (L : Loc) (readable : Prop) : Prop where
  row : ∃ arr elem lo hi, w.heap[L.blk]? = some (.cells arr elem (lo, hi)) ∧ arr.size = L.lim ∧
    (∀ i, i < B.size → readable → ∃ x y, B.cells.get i = some x ∧ arr[L.base + i]? = some y ∧ VRel φ x y ∧ x.one = true)
  fits : L.base + B.size ≤ L.lim
  stride : B.stride = L.stride

def rootP (b : Pth) (B : Blk) : Pth := B.root.getD b
/-- Is the block written through? (those of the call's arguments are not) -/
def Own (N : Nat) (L : Loc) : Prop := N ≤ L.blk
/-- No cell of the row is frozen. -/
def Thawed (w : World) (L : Loc) : Prop := ∀ o, o < L.lim → w.frozen? ⟨L.blk, o, none⟩ = false

/-- Is it no row of cells? -/
def NoCells : Obj → Prop
  | .cells .. => False
  | _ => True
structure HRel (N : Nat) (w0 : World) (φ : Phi) (h : Hp) (w : World) : Prop where
  kept : ∀ i o, φ.keep i = some o → N ≤ i ∧ w.heap[i]? = some (o (pendOf h)) ∧ (∀ c, NoCells (o c)) ∧ ∀ c d, d < 64 → Fr.s.tg i ≠ some d → o (pendCode d c) = o 0
  zero : φ .z = none
  pos : h.nx ≠ .z
  base0 : Ext Fr.s.base φ
  below : Below N w0 w
  base : N ≤ w.heap.size
  fresh : ∀ p B, T.getP p h.m = some B → p.num < h.nx.num
  dom : ∀ b L, φ b = some L → ∃ B, T.getP b h.m = some B ∧ BRel φ w B L (look h b = some B)
  roots : ∀ b L B q, φ b = some L → T.getP b h.m = some B → B.root = some q → ∃ Q LQ, φ q = some LQ ∧ T.getP q h.m = some Q ∧ Q.root = none
  /-- A row of the call's own is one family's. -/
  apart : ∀ b b' L L' B B', φ b = some L → φ b' = some L' → T.getP b h.m = some B → T.getP b' h.m = some B' → L.blk = L'.blk → Own N L → rootP b B = rootP b' B'
  /-- The newest member of a family is of the call's own. -/
  tip : ∀ b L B Q, φ b = some L → T.getP b h.m = some B → T.getP (rootP b B) h.m = some Q → Q.tipv = B.ver → Own N L ∧ Thawed w L
  vers : ∀ b b' L L' B B', φ b = some L → φ b' = some L' → T.getP b h.m = some B → T.getP b' h.m = some B' → rootP b B = rootP b' B' → B.ver = B'.ver → b = b'
  le : ∀ b L B Q, φ b = some L → T.getP b h.m = some B → T.getP (rootP b B) h.m = some Q → B.ver ≤ Q.tipv
  lows : ∀ b L B Q, φ b = some L → T.getP b h.m = some B → T.getP (rootP b B) h.m = some Q → Q.low ≤ Q.tipv
  ends : ∀ b b' L L' B B' Q, φ b = some L → φ b' = some L' → T.getP b h.m = some B → T.getP b' h.m = some B' → rootP b B = rootP b' B' →
    T.getP (rootP b B) h.m = some Q → Q.tipv = B'.ver → Q.low ≤ B.ver → L.blk = L'.blk → L.base + B.size ≤ L'.base + B'.size

/-- Blocks that the world does not know stay as they are. -/
def Keep (φ φ' : Phi) (h h' : Hp) : Prop := (∀ b B, b ≠ .z → φ b = none → T.getP b h.m = some B → φ' b = none ∧ T.getP b h'.m = some B) ∧ h.nx.num ≤ h'.nx.num
theorem Keep.refl (φ : Phi) (h : Hp) : Keep φ φ h h := ⟨fun _ _ _ k x => ⟨k, x⟩, Nat.le_refl _⟩
theorem Keep.trans {a b c : Phi} {x y z : Hp} (p : Keep a b x y) (q : Keep b c y z) : Keep a c x z :=
  ⟨fun k B h0 h1 h2 => let ⟨g1, g2⟩ := p.1 k B h0 h1 h2; q.1 k B h0 g1 g2, Nat.le_trans p.2 q.2⟩

end Go.Abs
