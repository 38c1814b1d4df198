/- The machine's word about a call, as a contract of the program's. -/
import Derived.Test.YtcfjhdhpofomjaaGreatDoorAbsDraw6
set_option linter.unusedSectionVars false
set_option linter.unusedSimpArgs false
set_option linter.unusedVariables false
set_option linter.constructorNameAsVariable false
namespace Go.Abs
variable [Env]
open Go.RowKit

/-- The outermost frame: no yield; nothing is known. -/
def Phi.none : Phi := ⟨fun _ => .none, fun _ => .none⟩
def Frm.top : Frm := ⟨0, Phi.none, fun _ => .none⟩
section
variable {P : Program}

theorem HRel.start (W : World) {n : Pth} (hn : n ≠ .z) : @HRel _ ⟨Frm.top⟩ W.heap.size W Phi.none ⟨.e, n⟩ W :=
  letI : Fr := ⟨Frm.top⟩
  { kept := fun i o e => by cases e
    zero := rfl
    pos := hn
    base0 := Ext.refl _
    below := Below.refl _ _
    base := Nat.le_refl _
    fresh := fun p B e => by rw [T.getP_e] at e; cases e
    dom := fun b L e => by cases e
    roots := fun b L B q e => by cases e
    apart := fun b b' L L' B B' e => by cases e
    tip := fun b L B Q e => by cases e
    vers := fun b b' L L' B B' e => by cases e
    le := fun b L B Q e => by cases e
    lows := fun b L B Q e => by cases e
    ends := fun b b' L L' B B' Q e => by cases e }

/-- A function that is entered. -/
def Enters (P : Program) (f : Nat) : Prop := ∃ F c, P.funcs[f]? = some F ∧ F.body = some c ∧ (F.name == "runtime.NumGoroutine") = false
/-- A call of a function of the table, in any state that is related. -/
theorem calls_of_callN [Fr] {tbl : Nat → Option AFn} {N : Nat} {w0 : World} (htop : Fr.s.tg = fun _ => none) (htbl : TblOK P N w0 tbl) (hm : P.follows .mixedOrders = true) {fuel n f : Nat} (hf : Enters P f)
    {w : World} {φ : Phi} {h h' : Hp} {args : List AV} {args' : List Value} {v : AV} (e : callN tbl fuel n 0 false noY f args h = .ok v h') (hr : VRels φ args args') (H : HRel N w0 φ h w) :
    Calls P f ⟨args'⟩ w fun e w' => ∃ y φ', e = .returned y ∧ VRel φ' v y ∧ Ext φ φ' ∧ HRel N w0 φ' h' w' ∧ Keep φ φ' h h' := by
  obtain ⟨F, c, hF, hb, hname⟩ := hf
  have hrun : (callFunc f ⟨args'⟩).run P w = .ok (.enter f ⟨args'⟩) w := by
    simp only [callFunc, Sem.run_bind, run_program, Result.andThen_ok, hF, hname, hb]
    rfl
  rcases (sound_callN htbl (sound_draw hm) fuel n 0 false noY (fun i d k => by rw [htop] at k; cases k) (yok_no _ _ _) f args h v h' φ w args' e hr H).1 with ⟨r, w', φ', k1, k2, _⟩ | ⟨g, as, k1, k2⟩ | ⟨l, g, t, x, y, k1, _⟩
  · rw [hrun] at k1
    cases k1
    rcases k2 with ⟨y, k2, _⟩ | ⟨k2, _⟩ <;> cases k2
  · rw [hrun] at k1
    cases k1
    exact k2.mono fun e w' he => he.elim False.elim id
  · rw [hrun] at k1; cases k1
theorem enters_code [Fr] {tbl : Nat → Option AFn} {N : Nat} {w0 : World} (htbl : TblOK P N w0 tbl) {f nt : Nat} {body : ACode} {res : List ARes} (hf : tbl f = some (.code nt body res)) : Enters P f :=
  let ⟨F, c, hF, hb, hname, _⟩ := htbl f _ hf
  ⟨F, c, hF, hb, hname⟩
theorem enters_opt [Fr] {tbl : Nat → Option AFn} {N : Nat} {w0 : World} (htbl : TblOK P N w0 tbl) {f na : Nat} {body : ACode} {res : List ARes} (hf : tbl f = some (.opt na body res)) : Enters P f :=
  let ⟨F, c, _, _, hF, hb, hname, _⟩ := htbl f _ hf
  ⟨F, c, hF, hb, hname⟩

/-- A closed function that comes to a bool. -/
theorem closed_bool {tbl : Nat → Option AFn} {W : World} (htbl : TblOK P W.heap.size W tbl) (hm : P.follows .mixedOrders = true) {fuel n f : Nat} (hf : Enters P f)
    {b : Bool} {h' : Hp} (e : callN tbl fuel n 0 false noY f [] ⟨.e, .l .z⟩ = .ok (.b b) h') : Calls P f #[] W fun e W' => e = .returned (.bool b) ∧ Below W.heap.size W W' :=
  (@calls_of_callN _ P ⟨Frm.top⟩ _ _ _ rfl htbl hm _ _ _ hf _ _ _ _ _ _ _ e (@VRels.nil _ ⟨Frm.top⟩ _) (HRel.start W (by simp))).mono fun e W' k => by
    obtain ⟨y, φ', he, hv, _, H, _⟩ := k
    cases hv
    exact ⟨he, @HRel.below _ ⟨Frm.top⟩ _ _ _ _ _ H⟩

/-- Does a run come to this bool? -/
def comesTo (b : Bool) : Rv → Bool
  | .ok (.b x) _ => bEq x b
  | _ => false
theorem comesTo_ok {b : Bool} {r : Rv} (e : comesTo b r = true) : ∃ h', r = .ok (.b b) h' := by
  unfold comesTo at e
  split at e
  · rename_i x h
    obtain rfl : x = b := by cases x <;> cases b <;> first | rfl | cases e
    exact ⟨_, rfl⟩
  · cases e
theorem closed_true {tbl : Nat → Option AFn} {W : World} (htbl : TblOK P W.heap.size W tbl) (hm : P.follows .mixedOrders = true) {fuel n f : Nat} (hf : Enters P f)
    (e : comesTo true (callN tbl fuel n 0 false noY f [] ⟨.e, .l .z⟩) = true) : Calls P f #[] W fun e W' => e = .returned (.bool true) ∧ Below W.heap.size W W' :=
  have ⟨_, e1⟩ := comesTo_ok e
  closed_bool htbl hm hf e1
end
end Go.Abs
