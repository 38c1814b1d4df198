/- Temporaries and operands. -/
import Derived.Test.YtcfjhdhpofomjaaGreatDoorAbsAppend
import Derived.Test.YtcfjhdhpofomjaaGreatDoorAbsComp
set_option linter.unusedSectionVars false
set_option linter.unusedSimpArgs false
set_option linter.unusedVariables false
set_option linter.constructorNameAsVariable false
namespace Go.Abs
variable [Env] [Fr]
open Go.RowKit

theorem pth_num : ∀ n, (pth n).num = n
  | 0 => rfl
  | n + 1 => by show (pth n).inc.num = _; rw [Pth.num_inc, pth_num n]
theorem pth_inj {m n : Nat} (h : pth m = pth n) : m = n := by rw [← pth_num m, ← pth_num n, h]

/-- The marks of loops that this activation has entered. -/
def mark (D : Nat) : Deferred := { target := .collected D, args := #[] }
def Marks (φ : Phi) (ds : List Deferred) : Prop := ∃ Ds : List Nat, Ds.Nodup ∧ ds = Ds.map mark ∧ ∀ D ∈ Ds, φ.keep D = some (fun _ => .deferred (some [])) ∧ Fr.s.base.keep D = none
theorem Marks.nil (φ : Phi) : Marks φ [] := ⟨[], List.nodup_nil, rfl, fun _ h => by cases h⟩
theorem Marks.mono {φ φ' : Phi} (e : Ext φ φ') {ds : List Deferred} : Marks φ ds → Marks φ' ds := fun ⟨Ds, h1, h2, h3⟩ => ⟨Ds, h1, h2, fun D hD => ⟨e.keep _ _ (h3 D hD).1, (h3 D hD).2⟩⟩
structure TRel (φ : Phi) (tm : T AV) (a : Act) : Prop where
  at_ : ∀ n v, T.getP (pth n) tm = some v → ∃ y, a.tmps[n]? = some y ∧ VRel φ v y
  defers : Marks φ a.defers
theorem TRel.mono {φ φ' : Phi} (e : Ext φ φ') {tm : T AV} {a : Act} (t : TRel φ tm a) : TRel φ' tm a :=
  ⟨fun n v h => let ⟨y, h1, h2⟩ := t.at_ n v h; ⟨y, h1, h2.mono e⟩, t.defers.mono e⟩
/-- A temporary is set on both sides. -/
theorem TRel.put {φ : Phi} {tm : T AV} {a : Act} (t : TRel φ tm a) {d : Nat} (hd : d < a.tmps.size) {v : AV} {y : Value} (hv : VRel φ v y) : TRel φ (T.putP v (pth d) tm) (a.put (some d) y) := by
  refine ⟨fun n u hu => ?_, t.defers⟩
  rw [T.getP_putP] at hu
  simp only [Act.put]
  by_cases e : n = d
  · subst e
    rw [if_pos rfl] at hu
    cases hu
    exact ⟨y, by simp [hd], hv⟩
  · rw [if_neg (fun h => e (pth_inj h))] at hu
    obtain ⟨z, h1, h2⟩ := t.at_ n u hu
    exact ⟨z, by rw [Array.getElem?_setIfInBounds_ne (fun h => e h.symm)]; exact h1, h2⟩
theorem TRel.putNone {φ : Phi} {tm : T AV} {a : Act} (t : TRel φ tm a) (y : Value) : TRel φ tm (a.put none y) := t
theorem put_size (a : Act) (d : Option Tmp) (y : Value) : (a.put d y).tmps.size = a.tmps.size := by cases d <;> simp [Act.put]

theorem strN_eq : ∀ l, Go.Abs.strN l = Go.Abs.strN l := fun _ => rfl
mutual
theorem avOf_rel (φ : Phi) : ∀ (v : Value) (c : AV), avOf v = some c → VRel φ c v
  | .bool x, c, h => by simp only [avOf] at h; cases h; exact .b x
  | .int k n, c, h => by simp only [avOf] at h; cases h; exact .i k n
  | .string ⟨⟨l⟩⟩, c, h => by simp only [avOf] at h; cases h; exact .s l
  | .pointer none, c, h => by simp only [avOf] at h; cases h; exact .np
  | .pointer (some _), c, h => by simp [avOf] at h
  | .slice none 0 0, c, h => by simp only [avOf] at h; cases h; exact .ns
  | .slice none 0 (_ + 1), c, h => by simp [avOf] at h
  | .slice none (_ + 1) _, c, h => by simp [avOf] at h
  | .slice (some _) _ _, c, h => by simp [avOf] at h
  | .nilFunc, c, h => by simp only [avOf] at h; cases h; exact .nf
  | .nilIface, c, h => by simp only [avOf] at h; cases h; exact .ni
  | .map none, c, h => by simp only [avOf] at h; cases h; exact .nm
  | .map (some _), c, h => by simp [avOf] at h
  | .agg ⟨l⟩, c, h => by
    simp only [avOf, Option.map_eq_some_iff] at h
    obtain ⟨l', h1, h2⟩ := h
    cases h2; exact .agg (avsOf_rel φ l l' h1)
  | .tuple ⟨l⟩, c, h => by
    simp only [avOf, Option.map_eq_some_iff] at h
    obtain ⟨l', h1, h2⟩ := h
    cases h2; exact .tup (avsOf_rel φ l l' h1)
  | .float .., c, h => by simp [avOf] at h
  | .complex .., c, h => by simp [avOf] at h
  | .chan .., c, h => by simp [avOf] at h
  | .func .., c, h => by simp [avOf] at h
  | .iface .., c, h => by simp [avOf] at h
theorem avsOf_rel (φ : Phi) : ∀ (l : List Value) (l' : List AV), avsOf l = some l' → VRels φ l' l
  | [], l', h => by simp only [avsOf] at h; cases h; exact .nil
  | v :: r, l', h => by
    simp only [avsOf] at h
    cases h1 : avOf v with
    | none => simp [h1] at h
    | some c => cases h2 : avsOf r with
      | none => simp [h1, h2] at h
      | some k =>
        simp [h1, h2] at h
        cases h
        exact .cons (avOf_rel φ v c h1) (avsOf_rel φ r k h2)
end

theorem ax_t (tm : T AV) (n : Pth) : ax tm (.t n) = T.getP n tm := rfl
theorem ax_c (tm : T AV) (v : AV) : ax tm (.c v) = some v := rfl
theorem axs_nil (tm : T AV) : axs tm [] = some [] := rfl
theorem axs_cons (tm : T AV) (x : AX) (r : List AX) : axs tm (x :: r) = onO (ax tm x) none fun v => onO (axs tm r) none fun l => some (v :: l) := rfl

section
variable {φ : Phi} {tm : T AV} {a : Act}
theorem TRel.ax (t : TRel φ tm a) {x : Operand} {y : AX} (hx : axOf x = some y) {v : AV} (hv : Go.Abs.ax tm y = some v) : VRel φ v (a.eval x) := by
  cases x with
  | tmp n =>
    simp only [axOf, Option.some.injEq] at hx
    subst hx
    rw [ax_t] at hv
    obtain ⟨u, h1, h2⟩ := t.at_ n v hv
    have : a.tmps.getD n undef = u := by simp [h1]
    show VRel φ v (a.tmps.getD n undef)
    rw [this]; exact h2
  | const c =>
    simp only [axOf, Option.map_eq_some_iff] at hx
    obtain ⟨k, h1, h2⟩ := hx
    subst h2
    rw [ax_c] at hv; cases hv
    exact avOf_rel φ c _ h1
  | func f =>
    simp only [axOf, Option.some.injEq] at hx
    subst hx
    rw [ax_c] at hv; cases hv
    exact .fn .nil .nil
  | global g => simp [axOf] at hx
theorem TRel.axs (t : TRel φ tm a) : ∀ {xs : List Operand} {ys : List AX}, axsOf xs = some ys → ∀ {vs : List AV}, Go.Abs.axs tm ys = some vs → VRels φ vs (xs.map a.eval)
  | [], ys, hx, vs, hv => by
    simp only [axsOf, Option.some.injEq] at hx
    subst hx
    rw [axs_nil] at hv; cases hv; exact .nil
  | x :: xs, ys, hx, vs, hv => by
    simp only [axsOf] at hx
    cases h1 : axOf x with
    | none => simp [h1] at hx
    | some y => cases h2 : axsOf xs with
      | none => simp [h1, h2] at hx
      | some k =>
        simp [h1, h2] at hx
        subst hx
        rw [axs_cons] at hv
        obtain ⟨v, e1, hv⟩ := onO_eq_some hv
        obtain ⟨l, e2, hv⟩ := onO_eq_some hv
        cases hv
        exact .cons (t.ax h1 e1) (TRel.axs t h2 e2)
end
end Go.Abs
