/- Arguments of which nothing is known: cells by number. -/
import Derived.Test.YtcfjhdhpofomjaaGreatDoorAbsEval
set_option linter.unusedSectionVars false
set_option linter.unusedSimpArgs false
set_option linter.unusedVariables false
set_option linter.constructorNameAsVariable false
namespace Go.Abs
open Go.RowKit
theorem cells_of_one {v : Value} (h : v.oneCell' = true) : v.cells = #[v] := by cases v <;> first | rfl | cases h
theorem one_getD {l : List Value} (h : ∀ v ∈ l, v.oneCell' = true) (i : Nat) : ((l[i]?).getD (.bool false)).oneCell' = true := by
  cases e : l[i]? with
  | none => rfl
  | some v => exact h v (List.mem_of_getElem? e)
/-- The environment of these cells. -/
@[reducible] def Env.of (l : List Value) (h : ∀ v ∈ l, v.oneCell' = true) : Env := ⟨fun i => (l[i]?).getD (.bool false), fun i => one_getD h i, fun i => cells_of_one (one_getD h i)⟩
/-- The unknown cells from here on. -/
noncomputable def qL : Nat → Nat → List AV
  | 0, _ => []
  | n + 1, i => .q i :: qL n (i + 1)
noncomputable def isQ : Nat → List AV → Nat → Bool
  | 0, [], _ => true
  | n + 1, .q j :: r, i => cnd (Nat.beq j i) (isQ n r (i + 1)) false
  | _, _, _ => false
theorem isQ_eq : ∀ {n : Nat} {l : List AV} {i : Nat}, isQ n l i = true → l = qL n i
  | 0, [], _, _ => rfl
  | 0, _ :: _, _, h => by simp [isQ] at h
  | n + 1, [], _, h => by simp [isQ] at h
  | n + 1, x :: r, i, h => by
    cases x with
    | q j =>
      have h : cnd (Nat.beq j i) (isQ n r (i + 1)) false = true := h
      cases e : Nat.beq j i with
      | false => rw [e] at h; cases h
      | true =>
        rw [e] at h
        obtain rfl := Nat.eq_of_beq_eq_true e
        rw [isQ_eq (n := n) (l := r) (i := j + 1) h]; rfl
    | _ => simp [isQ] at h
theorem qL_rel [Env] [Fr] {φ : Phi} : ∀ {n i : Nat} {l' : List Value}, VRels φ (qL n i) l' ↔ l' = (List.range' i n).map Env.val
  | 0, i, l' => ⟨fun h => by cases h; rfl, fun h => by subst h; exact .nil⟩
  | n + 1, i, l' => by
    constructor
    · intro h
      cases h with
      | cons h t =>
        cases h
        rw [qL_rel.1 t]; rfl
    · intro h
      subst h
      exact .cons (.q i) (qL_rel.2 rfl)
theorem range_vals (l : List Value) (a b : List Value) : (List.range' a.length l.length).map (fun i => ((a ++ l ++ b)[i]?).getD (.bool false)) = l := by
  apply List.ext_getElem?
  intro i
  by_cases hi : i < l.length
  · rw [List.getElem?_map, List.getElem?_range' hi]
    simp only [Option.map_some, Nat.one_mul]
    rw [List.getElem?_append_left (by simp; omega), List.getElem?_append_right (by omega), show a.length + i - a.length = i by omega, List.getElem?_eq_getElem hi]; rfl
  · rw [List.getElem?_eq_none (by simp; omega), List.getElem?_eq_none (by omega)]
/-- An aggregate of unknown cells. -/
noncomputable def isAggQ (n i : Nat) : List AV → Bool
  | [.agg l] => isQ n l i
  | _ => false
theorem isAggQ_rel [Env] [Fr] {φ : Phi} {n i : Nat} {args : List AV} {args' : List Value} (e : isAggQ n i args = true) (h : VRels φ args args') : args' = [.agg ⟨(List.range' i n).map Env.val⟩] := by
  unfold isAggQ at e
  split at e
  · rename_i l
    cases h with
    | cons h t =>
      cases t
      cases h with
      | agg h =>
        rw [isQ_eq e] at h
        rw [qL_rel.1 h]
  · cases e
/-- No arguments. -/
def isNone : List AV → Bool
  | [] => true
  | _ => false
theorem isNone_rel [Env] [Fr] {φ : Phi} {args : List AV} {args' : List Value} (e : isNone args = true) (h : VRels φ args args') : args' = [] := by
  cases h with
  | nil => rfl
  | cons _ _ => cases e
end Go.Abs
