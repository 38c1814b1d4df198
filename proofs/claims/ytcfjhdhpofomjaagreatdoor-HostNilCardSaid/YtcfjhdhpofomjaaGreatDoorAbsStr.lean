/- A string's bytes as one number: the first byte is the least. -/
import Derived.Test.YtcfjhdhpofomjaaGreatDoorAbsCore
set_option linter.unusedSectionVars false
set_option linter.unusedSimpArgs false
set_option linter.unusedVariables false
set_option linter.constructorNameAsVariable false
namespace Go.Abs

theorem strN_lt : ∀ l : List UInt8, strN l < 256 ^ l.length
  | [] => by simp [strN]
  | c :: r => by
    have := strN_lt r
    have hc : c.toNat < 256 := c.toNat_lt
    simp only [strN, List.length_cons, Nat.pow_succ]
    omega
theorem strN_div : ∀ (l : List UInt8) (a : Nat), strN l / 256 ^ a = strN (l.drop a)
  | l, 0 => by simp
  | [], a + 1 => by simp [strN]
  | c :: r, a + 1 => by
    have hc : c.toNat < 256 := c.toNat_lt
    have h1 : strN (c :: r) / 256 = strN r := by simp only [strN]; omega
    rw [Nat.pow_succ, Nat.mul_comm, ← Nat.div_div_eq_div_mul, h1, strN_div r a]; simp
theorem strN_mod : ∀ (l : List UInt8) (m : Nat), strN l % 256 ^ m = strN (l.take m)
  | l, 0 => by simp [strN, Nat.mod_one]
  | [], m + 1 => by simp [strN]
  | c :: r, m + 1 => by
    have hc : c.toNat < 256 := c.toNat_lt
    have ih := strN_mod r m
    simp only [strN, List.take_succ_cons]
    rw [← ih, Nat.pow_succ, Nat.mul_comm (256 ^ m) 256, Nat.mod_mul]
    have h1 : (c.toNat + 256 * strN r) % 256 = c.toNat := by omega
    have h2 : (c.toNat + 256 * strN r) / 256 = strN r := by omega
    rw [h1, h2]
theorem strN_get (l : List UInt8) (i : Nat) (h : i < l.length) : strN l / 256 ^ i % 256 = l[i].toNat := by
  rw [strN_div]
  have hc : l[i].toNat < 256 := l[i].toNat_lt
  rw [List.drop_eq_getElem_cons h]
  simp only [strN]
  omega
theorem strN_append : ∀ l r : List UInt8, strN (l ++ r) = strN l + strN r * 256 ^ l.length
  | [], r => by simp [strN]
  | c :: l, r => by
    simp only [List.cons_append, strN, strN_append l r, List.length_cons, Nat.pow_succ]
    rw [Nat.mul_add, Nat.add_assoc, ← Nat.mul_assoc, ← Nat.mul_assoc, Nat.mul_comm 256 (strN r), Nat.mul_assoc, Nat.mul_assoc, Nat.mul_comm 256 (256 ^ l.length)]
theorem strN_inj : ∀ {l r : List UInt8}, l.length = r.length → strN l = strN r → l = r
  | [], [], _, _ => rfl
  | c :: l, d :: r, hl, h => by
    have hc : c.toNat < 256 := c.toNat_lt
    have hd : d.toNat < 256 := d.toNat_lt
    simp only [strN] at h
    have h1 : c.toNat = d.toNat := by omega
    have h2 : strN l = strN r := by omega
    rw [strN_inj (l := l) (r := r) (by simpa using hl) h2, UInt8.toNat_inj.1 h1]
  | [], d :: r, hl, _ => by simp at hl
  | c :: l, [], hl, _ => by simp at hl
theorem strN_eq_iff {l r : List UInt8} : (l.length = r.length ∧ strN l = strN r) ↔ l = r :=
  ⟨fun h => strN_inj h.1 h.2, fun h => by rw [h]; exact ⟨rfl, rfl⟩⟩
end Go.Abs
