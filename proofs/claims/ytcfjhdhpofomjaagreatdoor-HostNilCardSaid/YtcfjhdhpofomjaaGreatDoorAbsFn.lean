/- Functions of a proved contract, as entries of the table. -/
import Derived.Test.YtcfjhdhpofomjaaGreatDoorAbsArgs
set_option linter.unusedSectionVars false
set_option linter.unusedSimpArgs false
set_option linter.unusedVariables false
set_option linter.constructorNameAsVariable false
namespace Go.Abs
variable [Env] [Fr]
open Go.RowKit
section
variable {P : Program} {N : Nat} {w0 w w' : World} {φ : Phi} {h : Hp}
/-- The world has grown. -/
theorem HRel.grown (H : HRel N w0 φ h w) (hb : Below w.heap.size w w') : HRel N w0 φ h w' := by
  have hsame : ∀ (i : Nat) (o : Obj), w.heap[i]? = some o → w'.heap[i]? = some o := fun i o e => by
    rw [hb.block i (Array.getElem?_eq_some_iff.1 e).1]; exact e
  exact H.shift Fr.s rfl H.base0 rfl (fun _ _ => rfl) (hb.mono H.base) (fun i arr t fz e => hsame i _ e) (fun i o e =>
    let ⟨k1, k2, k3, k4⟩ := H.kept i o e
    ⟨k1, hsame i _ k2, k3, k4⟩)

/-- A function that comes to this bool at these arguments, whatever has happened. -/
noncomputable def cB (p : List AV → Bool) (b : Bool) : List AV → Hp → Rv := fun args h => cnd (p args) (.ok (.b b) h) .no
theorem ok_fnB {p : List AV → Bool} {b : Bool} {f : Nat} (hf : Enters P f)
    (hc : ∀ (φ : Phi) (w : World) (args : List AV) (args' : List Value), p args = true → VRels φ args args' → Below N w0 w → N ≤ w.heap.size → Calls P f ⟨args'⟩ w fun e w' => e = .returned (.bool b) ∧ Below w.heap.size w w') :
    FnOK P N w0 f (.fn (cB p b)) := by
  intro φ h h' v w args args' e hr H
  obtain ⟨e1, e2⟩ := cnd_eq_ok e
  cases e2
  obtain ⟨F, c, hF, hb, hname⟩ := hf
  refine .inr (.inl ⟨f, ⟨args'⟩, ?_, (hc φ w args args' e1 hr H.below H.base).mono fun e w' k => .inr ⟨.bool b, φ, k.1, .b b, Ext.refl _, H.grown k.2, Keep.refl _ _⟩⟩)
  simp only [callFunc, Sem.run_bind, run_program, Result.andThen_ok, hF, hname, hb]
  rfl

/-- Some row of cells of the world's own: an anchor. -/
theorem HRel.anchor (H : HRel N w0 φ h w) {i : Nat} (hi : i < N) {arr : Array Value} {el : TypeId} {fz : Nat × Nat} (e : w.heap[i]? = some (.cells arr el fz)) :
    ∃ φ' h', Laid N w0 w φ h φ' h' ∧ ∃ b L, φ' b = some L := by
  obtain ⟨lo, hi'⟩ := fz
  obtain ⟨b, φ', h', k, hb, _⟩ := laid_row (N := N) (w0 := w0) (w := w) (φ := φ) (h := h) (cs := []) (stride := 1) H (L := ⟨i, 0, arr.size, 1⟩) rfl hi e rfl (Nat.zero_le _) (fun i x hx => by simp at hx)
  exact ⟨φ', h', k, b, _, hb⟩

/-- Where nothing is of the call's own: as of a later world. -/
theorem HRel.later (H : HRel N w0 φ h w) (hN : w.heap.size = N) (hb : Below N w w') : HRel w'.heap.size w' φ h w' := by
  have H' : HRel N w0 φ h w' := H.grown (hN ▸ hb)
  have hle : N ≤ w'.heap.size := H'.base
  have hlt : ∀ b L, φ b = some L → L.blk < N := fun b L e => by
    obtain ⟨B, _, ⟨arr, el, lo, hi, r, _⟩, _⟩ := H.dom b L e
    rw [← hN]; exact (Array.getElem?_eq_some_iff.1 r).1
  refine ⟨fun i o e => ?_, H'.zero, H'.pos, H'.base0, Below.refl _ _, Nat.le_refl _, H'.fresh, H'.dom, H'.roots, fun b b' L L' B B' e e' e1 e2 e3 ho => H'.apart b b' L L' B B' e e' e1 e2 e3 (Nat.le_trans hle ho),
    fun b L B Q e e1 e2 e3 => ?_, H'.vers, H'.le, H'.lows, H'.ends⟩
  · obtain ⟨k1, k2, _⟩ := H.kept i o e
    have := (Array.getElem?_eq_some_iff.1 k2).1
    omega
  · have := (H.tip b L B Q e e1 e2 e3).1
    have := hlt b L e
    simp only [Own] at *
    omega
theorem ones_of : ∀ {l : List AV}, (∀ x ∈ l, x.one = true) → ones l = true
  | [], _ => rfl
  | v :: r, h => by
    show cnd v.one (ones r) false = true
    rw [h v (by simp), ones_of (l := r) fun x hx => h x (by simp [hx])]; rfl
end
end Go.Abs
