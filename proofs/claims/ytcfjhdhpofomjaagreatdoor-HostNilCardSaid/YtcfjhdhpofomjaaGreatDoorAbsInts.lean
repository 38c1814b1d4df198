/- Integers and strings: the abstract machine's operations are the model's. -/
import Derived.Test.YtcfjhdhpofomjaaGreatDoorAbsOps2
import Derived.Test.YtcfjhdhpofomjaaGreatDoorAbsStr
import Derived.Laws.StructEq
set_option linter.unusedSectionVars false
set_option linter.unusedSimpArgs false
set_option linter.unusedVariables false
set_option linter.constructorNameAsVariable false
namespace Go.Abs
variable [Env] [Fr]
open Go.RowKit

theorem wrap_in (k : IntKind) (m : Nat) (h : m < limK k) : k.wrap (m : Int) = (m : Int) := by
  cases k <;> simp only [limK] at h <;> simp only [IntKind.wrap, IntKind.bits, IntKind.signed, Nat.reduceSub, Int.reducePow, Bool.true_and, Bool.false_and] <;>
    split <;> rename_i hh <;> simp at hh <;> omega
theorem rawI_eq (k : IntKind) (n : Int) : rawI k n = some (.i k n) := by
  cases n with
  | ofNat m => show (forceN m fun m => some (AV.i k (.ofNat m))) = _; rw [forceN_eq]
  | negSucc m => show (forceN m fun m => some (AV.i k (.negSucc m))) = _; rw [forceN_eq]
theorem forceI_eq (k : IntKind) (n : Int) : forceI k n = some (.i k (k.wrap n)) := by
  cases n with
  | ofNat m =>
    show cnd (Nat.blt m (limK k)) (forceN m fun m => some (.i k (.ofNat m))) (rawI k (k.wrap (.ofNat m))) = _
    rw [forceN_eq, rawI_eq]
    cases h : Nat.blt m (limK k) with
    | false => rfl
    | true =>
      have := wrap_in k m (blt_true h)
      rw [cnd_true]; show some (AV.i k (m : Int)) = some (.i k (k.wrap (m : Int))); rw [this]
  | negSucc m => show rawI k _ = _; rw [rawI_eq]
theorem kindEq_true {j k : IntKind} (h : kindEq j k = true) : j = k := by cases j <;> cases k <;> first | rfl | cases h
theorem beq_iff {a b : Nat} : Nat.beq a b = true ↔ a = b := ⟨Nat.eq_of_beq_eq_true, fun h => by rw [h]; exact Nat.beq_refl b⟩
theorem natBeq (a b : Nat) : Nat.beq a b = decide (a = b) := by
  cases h : Nat.beq a b with
  | true => simp [beq_iff.1 h]
  | false =>
    have : ¬ a = b := fun e => by rw [beq_iff.2 e] at h; cases h
    simp [this]
theorem natBlt (a b : Nat) : Nat.blt a b = decide (a < b) := by
  cases h : Nat.blt a b with
  | true => simp [blt_iff.1 h]
  | false =>
    have : ¬ a < b := fun e => by rw [blt_iff.2 e] at h; cases h
    simp [this]
theorem intEq_eq (a b : Int) : intEq a b = decide (a = b) := by
  cases a <;> cases b <;> simp [intEq, natBeq] <;> omega
theorem intLt_eq (a b : Int) : intLt a b = decide (a < b) := by
  cases a with
  | ofNat a => cases b with
    | ofNat b => simp only [intLt, natBlt]; rw [decide_eq_decide]; show a < b ↔ (a : Int) < (b : Int); omega
    | negSucc b => simp only [intLt]; symm; rw [decide_eq_false_iff_not]; show ¬ ((a : Int) < Int.negSucc b); omega
  | negSucc a => cases b with
    | ofNat b => simp only [intLt]; symm; rw [decide_eq_true_iff]; show Int.negSucc a < (b : Int); omega
    | negSucc b => simp only [intLt, natBlt]; rw [decide_eq_decide]; omega
theorem bEq_eq (a b : Bool) : bEq a b = (a == b) := by cases a <;> cases b <;> rfl
theorem boolV_eq (x : Bool) : boolV x = .b x := by cases x <;> rfl
theorem forceB_eq (x : Option AV) : forceB x = x := by
  unfold forceB; split <;> rfl

theorem bitsI_eq (k : IntKind) (f : Nat → Nat → Nat) (x y : Int) : bitsI k f x y = some (.i k (k.wrap ((f (BitVec.ofInt k.bits x).toNat (BitVec.ofInt k.bits y).toNat : Nat) : Int))) := by
  unfold bitsI
  rw [forceI_eq, BitVec.toNat_ofInt, BitVec.toNat_ofInt]; rfl

section
variable {P : Program}
theorem binI_run {op : BinOp} {k : IntKind} {x y : Int} {v : AV} (e : binII op k x k y = some v) (hs : op ≠ .shl) (hr : op ≠ .shr) (t : TypeId) (w : World) (φ : Phi) :
    ∃ u, (binOp op t (.int k x) (.int k y)).run P w = .ok u w ∧ VRel φ v u := by
  have e : cnd (kindEq k k) (binI op k x y) none = some v := by cases op <;> first | exact e | exact absurd rfl hs | exact absurd rfl hr
  obtain ⟨_, e⟩ := cnd_eq_some e
  cases op <;> simp only [binI, addI, subI, mulI, quoI, remI] at e
  · rw [forceI_eq] at e; cases e; exact ⟨_, by rw [binOp_add]; rfl, .i _ _⟩
  · rw [forceI_eq] at e; cases e; exact ⟨_, by rw [binOp_sub]; rfl, .i _ _⟩
  · rw [forceI_eq] at e; cases e; exact ⟨_, by rw [binOp_mul]; rfl, .i _ _⟩
  · rw [forceI_eq, intEq_eq] at e
    by_cases h0 : y = 0
    · subst h0; simp at e
    · simp [h0] at e
      subst e; exact ⟨_, by rw [binOp_quo]; simp only [Op.intDiv, if_neg h0]; rfl, .i _ _⟩
  · rw [rawI_eq, intEq_eq] at e
    by_cases h0 : y = 0
    · subst h0; simp at e
    · simp [h0] at e
      subst e; exact ⟨_, by rw [binOp_rem]; simp only [Op.intDiv, if_neg h0]; rfl, .i _ _⟩
  · rw [bitsI_eq] at e; cases e
    refine ⟨_, by rw [binOp_and, intBits_and]; rfl, ?_⟩
    simp only [bits, BitVec.toNat_and]; exact .i _ _
  · rw [bitsI_eq] at e; cases e
    refine ⟨_, by rw [binOp_or, intBits_or]; rfl, ?_⟩
    simp only [bits, BitVec.toNat_or]; exact .i _ _
  · rw [bitsI_eq] at e; cases e
    refine ⟨_, by rw [binOp_xor, intBits_xor]; rfl, ?_⟩
    simp only [bits, BitVec.toNat_xor]; exact .i _ _
  · exact absurd rfl hs
  · exact absurd rfl hr
  · rw [bitsI_eq] at e; cases e
    refine ⟨_, by rw [binOp_andNot, intBits_andNot]; rfl, ?_⟩
    simp only [bits, BitVec.toNat_and, BitVec.toNat_not]; exact .i _ _
  · simp only [Option.some.injEq] at e; subst e
    exact ⟨_, by rw [binOp_eql]; rfl, by rw [intEq_eq]; show VRel φ _ (.bool (x == y)); rw [show (x == y) = decide (x = y) from rfl]; exact .b _⟩
  · simp only [Option.some.injEq] at e; subst e
    exact ⟨_, by rw [binOp_neq]; rfl, by rw [intEq_eq]; show VRel φ _ (.bool (x != y)); rw [show (x != y) = !decide (x = y) from rfl]; exact .b _⟩
  · simp only [Option.some.injEq] at e; subst e
    exact ⟨_, by rw [binOp_lss]; rfl, by rw [intLt_eq]; exact .b _⟩
  · simp only [Option.some.injEq] at e; subst e
    refine ⟨_, by rw [binOp_leq]; rfl, ?_⟩
    rw [intLt_eq, show (!decide (y < x)) = decide (x ≤ y) by rw [← decide_not, decide_eq_decide]; omega]; exact .b _
  · simp only [Option.some.injEq] at e; subst e
    refine ⟨_, by rw [binOp_gtr]; rfl, ?_⟩
    rw [intLt_eq]; exact .b _
  · simp only [Option.some.injEq] at e; subst e
    refine ⟨_, by rw [binOp_geq]; rfl, ?_⟩
    rw [intLt_eq, show (!decide (x < y)) = decide (x ≥ y) by rw [← decide_not, decide_eq_decide]; omega]; exact .b _
theorem shift_run {op : BinOp} {k j : IntKind} {x y : Int} {v : AV} (e : binII op k x j y = some v) (hs : op = .shl ∨ op = .shr) (t : TypeId) (w : World) (φ : Phi) :
    ∃ u, (binOp op t (.int k x) (.int j y)).run P w = .ok u w ∧ VRel φ v u := by
  rcases hs with rfl | rfl
  · have e : shiftI shlI k x y = some v := e
    cases y with
    | negSucc n => cases e
    | ofNat n =>
      have e : forceI k (Int.mul x (.ofNat (Nat.pow 2 (Nat.min n k.bits)))) = some v := e
      rw [forceI_eq] at e; cases e
      refine ⟨_, by rw [binOp_shl]; simp only [Op.shift]; rw [if_neg (by simp)]; rfl, ?_⟩
      have : Int.mul x (Int.ofNat (Nat.pow 2 (Nat.min n k.bits))) = x * 2 ^ (min (Int.ofNat n).toNat k.bits) := by
        show x * ((2 ^ (min n k.bits) : Nat) : Int) = _
        rw [Int.natCast_pow]; rfl
      rw [this]; exact .i _ _
  · have e : shiftI shrI k x y = some v := e
    cases y with
    | negSucc n => cases e
    | ofNat n =>
      have e : rawI k (Int.fdiv x (.ofNat (Nat.pow 2 (Nat.min n k.bits)))) = some v := e
      rw [rawI_eq] at e; cases e
      refine ⟨_, by rw [binOp_shr]; simp only [Op.shift]; rw [if_neg (by simp)]; rfl, ?_⟩
      have : Int.fdiv x (Int.ofNat (Nat.pow 2 (Nat.min n k.bits))) = x.fdiv (2 ^ (min (Int.ofNat n).toNat k.bits)) := by
        show Int.fdiv x ((2 ^ (min n k.bits) : Nat) : Int) = _
        rw [Int.natCast_pow]; rfl
      rw [this]; exact .i _ _

/- Strings. -/
theorem strEq_eq (l r : List UInt8) : strEq l.length (strN l) r.length (strN r) = (l == r) := by
  unfold strEq
  rw [natBeq, natBeq]
  by_cases h : l = r
  · subst h; simp
  · have : (l == r) = false := by simp [h]
    rw [this]
    by_cases hl : l.length = r.length
    · have : ¬ strN l = strN r := fun e => h (strN_inj hl e)
      simp [hl, this]
    · simp [hl]
theorem strLt_eq : ∀ (l r : List UInt8) (f : Nat), l.length < f → strLt f l.length (strN l) r.length (strN r) = Op.bytesLess l r
  | _, _, 0, h => by omega
  | l, [], f + 1, h => by
    cases l <;> rfl
  | [], d :: r, f + 1, h => rfl
  | c :: l, d :: r, f + 1, h => by
    have hc : c.toNat < 256 := c.toNat_lt
    have hd : d.toNat < 256 := d.toNat_lt
    have e1 : Nat.mod (strN (c :: l)) 256 = c.toNat := by show (c.toNat + 256 * strN l) % 256 = _; omega
    have e2 : Nat.mod (strN (d :: r)) 256 = d.toNat := by show (d.toNat + 256 * strN r) % 256 = _; omega
    have e3 : Nat.div (strN (c :: l)) 256 = strN l := by show (c.toNat + 256 * strN l) / 256 = _; omega
    have e4 : Nat.div (strN (d :: r)) 256 = strN r := by show (d.toNat + 256 * strN r) / 256 = _; omega
    show cnd (Nat.beq (r.length + 1) 0) false (cnd (Nat.beq (l.length + 1) 0) true (cnd (Nat.beq (Nat.mod (strN (c :: l)) 256) (Nat.mod (strN (d :: r)) 256))
      (strLt f l.length (Nat.div (strN (c :: l)) 256) r.length (Nat.div (strN (d :: r)) 256)) (Nat.blt (Nat.mod (strN (c :: l)) 256) (Nat.mod (strN (d :: r)) 256)))) = _
    rw [show Nat.beq (r.length + 1) 0 = false from rfl, show Nat.beq (l.length + 1) 0 = false from rfl, cnd_false, cnd_false, e1, e2, e3, e4,
      strLt_eq l r f (by simp at h; omega), natBeq, natBlt]
    simp only [Op.bytesLess]
    by_cases h1 : c = d
    · subst h1; simp
    · have h2 : ¬ c.toNat = d.toNat := fun e => h1 (UInt8.toNat_inj.1 e)
      have h3 : (c == d) = false := by simp [h1]
      rw [h3]
      simp [h2, UInt8.lt_iff_toNat_lt]
theorem strLe_eq (l r : List UInt8) : strLe l.length (strN l) r.length (strN r) = (Op.bytesLess l r || (l == r)) := by
  unfold strLe
  rw [strLt_eq l r _ (Nat.lt_succ_self _), strEq_eq]
  cases Op.bytesLess l r <;> rfl
theorem binS_run {op : BinOp} {l r : List UInt8} {v : AV} (e : binS op l.length (strN l) r.length (strN r) = some v) (t : TypeId) (w : World) (φ : Phi) :
    ∃ u, (binOp op t (.string ⟨l.toArray⟩) (.string ⟨r.toArray⟩)).run P w = .ok u w ∧ VRel φ v u := by
  have hb : binOp op t (.string ⟨l.toArray⟩) (.string ⟨r.toArray⟩) = Op.stringOp op ⟨l.toArray⟩ ⟨r.toArray⟩ := by cases op <;> rfl
  rw [hb]
  cases op <;> simp only [binS] at e <;> first | (cases e; done) | skip
  · unfold catS at e
    rw [forceN_eq] at e
    obtain ⟨hlt, e⟩ := cnd_eq_some e
    rw [forceN_eq] at e
    cases e
    have hlt := blt_true hlt
    have hlt : l.length + r.length < 4611686018427387904 := hlt
    refine ⟨.string ⟨(l ++ r).toArray⟩, ?_, ?_⟩
    · simp only [Op.stringOp]
      rw [if_neg (by simp [ByteArray.size]; omega)]
      show Result.ok (Value.string _) w = _
      congr 2
    · have : AV.s (Nat.add l.length r.length) (Nat.add (strN l) (Nat.mul (strN r) (Nat.pow 256 l.length))) = .s (l ++ r).length (strN (l ++ r)) := by
        rw [strN_append, List.length_append]; rfl
      rw [this]; exact .s _
  all_goals
    simp only [Option.some.injEq] at e; subst e
    refine ⟨_, rfl, ?_⟩
    simp only [ByteArray.toList_mk, strEq_eq, strLe_eq, strLt_eq l r _ (Nat.lt_succ_self _)]
    exact .b _
end
end Go.Abs
