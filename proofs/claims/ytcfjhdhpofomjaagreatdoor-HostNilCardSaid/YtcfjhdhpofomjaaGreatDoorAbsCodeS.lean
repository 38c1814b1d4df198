/- Regions, code, calls: what the abstract machine comes to, the program comes to. -/
import Derived.Test.YtcfjhdhpofomjaaGreatDoorAbsDisp
import Derived.LoopN
set_option linter.unusedSectionVars false
set_option linter.unusedSimpArgs false
set_option linter.unusedVariables false
set_option linter.constructorNameAsVariable false
namespace Go.Abs
variable [Env] [Fr]
open Go.RowKit

section
variable {P : Program} {N : Nat} {w0 : World}

/-- How a piece of code ends. -/
def Ends (N : Nat) (w0 : World) (φ : Phi) (h : Hp) (nt : Nat) (r : R) (ex : Exit) (a' : Act) (w' : World) : Prop :=
  False ∨ ∃ φ' tm' h', Ext φ φ' ∧ TRel φ' tm' a' ∧ HRel N w0 φ' h' w' ∧ Keep φ φ' h h' ∧ nt ≤ a'.tmps.size ∧
    ((r = .go tm' h' ∧ ex = .normal) ∨ (r = .ret tm' h' ∧ ex = .ret) ∨ ∃ id, r = .exit id tm' h' ∧ ex = .exit id)
theorem Ends.after {φ φ1 : Phi} {h h1 : Hp} {nt : Nat} {r : R} {ex : Exit} {a' : Act} {w' : World} (e : Ext φ φ1) (k : Keep φ φ1 h h1) (q : Ends N w0 φ1 h1 nt r ex a' w') : Ends N w0 φ h nt r ex a' w' := by
  rcases q with q | ⟨φ', tm', h', q1, q2, q3, q4, q5, q6⟩
  · exact .inl q
  · exact .inr ⟨φ', tm', h', e.trans q1, q2, q3, k.trans q4, q5, q6⟩

/-- The fence that asks nothing, in a round or not. -/
def Fe (ro : Option Nat) : Fence := { Fence.wide with round := ro }
theorem semAt_eq (ro : Option Nat) (ρ : Operand → Value) (o : Oper) (h : ∀ c, o.op ≠ .defer c) : o.semAt ro ρ = execOp ρ o := by
  cases ro with
  | none => rfl
  | some l => unfold Oper.semAt; cases ho : o.op <;> first | rfl | exact absurd ho (h _)
theorem comp_noDefer {P : Program} {o : Oper} {op : AOp} (h : compOp P o = some op) : ∀ c, o.op ≠ .defer c := fun c ho => by simp [compOp, ho] at h
/-- An operation, from what it comes to. -/
theorem OpRun.wpIn {φ : Phi} {h h' : Hp} {w : World} {v : AV} {o : Oper} {a : Act} {ro : Option Nat} {K : Act → World → Prop} {Q : Exit → Act → World → Prop} (hnd : ∀ c, o.op ≠ .defer c) (r : OpRun P N w0 φ h w (execOp a.eval o) v h')
    (hk : ∀ y φ' w', VRel φ' v y → Ext φ φ' → HRel N w0 φ' h' w' → Keep φ φ' h h' → K (a.put o.dst y) w') : o.wpIn (Fe ro) 0 P a w K Q := by
  refine ⟨fun _ _ => trivial, ?_⟩
  rw [show (Fe ro).round = ro from rfl, semAt_eq ro _ _ hnd]
  have fin : ∀ e w', EndOK N w0 φ h v h' e w' → ∃ y, e = .returned y ∧ K (a.put o.dst y) w' := by
    intro e w' he
    rcases he with he | ⟨y, φ', he, g1, g2, g3, g4⟩
    · exact he.elim
    · subst he; exact ⟨y, rfl, hk y φ' w' g1 g2 g3 g4⟩
  rcases r with ⟨s, w', φ', k1, k2, k3, k4, k5⟩ | ⟨f, args, k1, k2⟩ | ⟨l, f, tmps, x, y, k1, k2⟩
  · rw [k1]
    rcases k2 with ⟨y, rfl, hy⟩ | ⟨rfl, rfl⟩
    · exact hk y φ' w' hy k3 k4 k5
    · exact hk undef φ' w' (.tup .nil) k3 k4 k5
  · rw [k1, Oper.uponIn_enter]
    refine ⟨fun h => (by cases h), ?_⟩
    refine (callsIn_wide (n := 0)).2 (k2.mono fun e w' he => ?_)
    obtain ⟨y, rfl, hy⟩ := fin e w' he
    exact hy
  · rw [k1, Oper.uponIn_round]
    refine ⟨fun h => (by cases h), ?_⟩
    refine RoundIn.mono (show RoundIn (Fe ro) 0 P l f tmps x y w _ from k2) fun e w' he => ?_
    obtain ⟨y, rfl, hy⟩ := fin e w' he
    exact hy

theorem getD_bad {P : Program} {o : Oper} {op : AOp} {call : Cl} {tm : T AV} {h h' : Hp} {v : AV} (hop : op = (compOp P o).getD .bad) (e : evOp call op tm h = .ok v h') : compOp P o = some op := by
  cases hc : compOp P o with
  | none => rw [hc] at hop; subst hop; cases e
  | some p => rw [hc] at hop; simp at hop; rw [hop]

theorem onR_ne {r : Rv} {k : AV → Hp → R} (h : onR r k ≠ .no) : ∃ v h', r = .ok v h' := by
  cases r with
  | no => exact absurd rfl h
  | ok v h' => exact ⟨v, h', rfl⟩
theorem withT_eq (t : T AV) (h : Hp) (k : T AV → Hp → R) : withT t h k = k t h := by cases t <;> rfl

/-- Whether a guarded operation is executed. -/
theorem wanted_eq {φ : Phi} {tm : T AV} {a : Act} (t : TRel φ tm a) {ops : Array Oper} {o : Oper} {j g : Nat} {want b : Bool} (hg : o.guard = some (j, want)) (hd : (ops[j]?).bind (·.dst) = some g) (e : wanted tm (pth g) want = some b) :
    Region.wanted o (yielded ops a.tmps) = b := by
  unfold wanted at e
  simp only [Region.wanted, hg, yielded, hd, Option.bind_some]
  split at e
  · rename_i x hx
    cases e
    obtain ⟨y, h1, h2⟩ := t.at_ g _ hx
    cases h2
    rw [h1, bEq_eq]
    cases x <;> cases want <;> rfl
  · cases e
  · rename_i u hne hnq hx
    cases e
    obtain ⟨y, h1, h2⟩ := t.at_ g _ hx
    rw [h1]
    cases h2 <;> first | (exact absurd rfl (hne _)) | (exact absurd rfl (hnq _)) | (cases want <;> rfl)
  · cases e

/-- One operation of a region. -/
theorem sound_oper {ro : Option Nat} {call : Cl} (hcall : CallOK P N w0 call) {nt : Nat} {ops : Array Oper} {i : Nat} {o : Oper} {ao : AOper} (hi : ops[i]? = some o) (hc : compOper P nt ops o = some ao)
    {φ : Phi} {tm : T AV} {h : Hp} {a : Act} {w : World} {k : T AV → Hp → R} {r : R} (e : evOper call k tm h ao = r) (hr : r ≠ .no) (t : TRel φ tm a) (H : HRel N w0 φ h w) (hn : nt ≤ a.tmps.size)
    {K : Act → World → Prop} {Q : Exit → Act → World → Prop} (hq : True)
    (hk : ∀ φ' tm' h' a' w', k tm' h' = r → Ext φ φ' → TRel φ' tm' a' → HRel N w0 φ' h' w' → Keep φ φ' h h' → nt ≤ a'.tmps.size → K a' w') : wpOpIn (Fe ro) 0 P ops Q i K a w := by
  unfold wpOpIn
  rw [hi]
  simp only
  have put_nt : ∀ d y, nt ≤ (a.put d y).tmps.size := fun d y => by rw [put_size]; exact hn
  -- executed, with and without a destination
  have runD : ∀ {op : AOp} {d : Nat}, op = (compOp P o).getD .bad → o.dst = some d → d < nt → onR (evOp call op tm h) (fun v h => withT (T.putP v (pth d) tm) h k) = r → o.wpIn (Fe ro) 0 P a w K Q := by
    intro op d hop hd hlt e
    obtain ⟨v, h', hv⟩ := onR_ne (e ▸ hr)
    rw [hv] at e
    have e : withT (T.putP v (pth d) tm) h' k = r := e
    rw [withT_eq] at e
    refine OpRun.wpIn (comp_noDefer (getD_bad hop hv)) (sound_op hcall (getD_bad hop hv) hv H t) fun y φ' w' g1 g2 g3 g4 => ?_
    rw [hd]
    exact hk φ' _ h' _ w' e g2 ((t.mono g2).put (by omega) g1) g3 g4 (put_nt _ _)
  have runN : ∀ {op : AOp}, op = (compOp P o).getD .bad → o.dst = none → onR (evOp call op tm h) (fun _ h => k tm h) = r → o.wpIn (Fe ro) 0 P a w K Q := by
    intro op hop hd e
    obtain ⟨v, h', hv⟩ := onR_ne (e ▸ hr)
    rw [hv] at e
    have e : k tm h' = r := e
    refine OpRun.wpIn (comp_noDefer (getD_bad hop hv)) (sound_op hcall (getD_bad hop hv) hv H t) fun y φ' w' g1 g2 g3 g4 => ?_
    rw [hd]
    exact hk φ' _ h' _ w' e g2 (t.mono g2) g3 g4 hn
  unfold compOper at hc
  cases hg : o.guard with
  | none =>
    have hw : Region.wanted o (yielded ops a.tmps) = true := by simp [Region.wanted, hg]
    rw [hg] at hc
    simp only at hc
    rw [if_pos hw]
    cases hd : o.dst with
    | none => rw [hd] at hc; simp only [Option.some.injEq] at hc; subst hc; exact runN rfl hd e
    | some d =>
      rw [hd] at hc
      simp only at hc
      split at hc
      · rename_i hlt
        simp only [Option.some.injEq] at hc; subst hc
        exact runD rfl hd (blt_true hlt) e
      · cases hc
  | some gj =>
    obtain ⟨j, want⟩ := gj
    rw [hg] at hc
    simp only at hc
    split at hc
    · cases hc
    · rename_i g hgd
      cases hd : o.dst with
      | none =>
        rw [hd] at hc; simp only [Option.some.injEq] at hc; subst hc
        have e : onO (wanted tm (pth g) want) .no (fun wt => cnd wt (onR (evOp call ((compOp P o).getD .bad) tm h) fun _ h => k tm h) (k tm h)) = r := e
        cases hwt : wanted tm (pth g) want with
        | none => rw [hwt] at e; exact absurd e.symm hr
        | some b =>
          rw [hwt, onO_some] at e
          rw [wanted_eq t hg hgd hwt]
          cases b with
          | true => rw [cnd_true] at e; exact runN rfl hd e
          | false =>
            rw [cnd_false] at e
            rw [if_neg (by simp)]
            exact ⟨fun _ _ => trivial, hk φ _ h _ w e (Ext.refl φ) t H (Keep.refl φ h) hn⟩
      | some d =>
        rw [hd] at hc
        simp only at hc
        split at hc
        · rename_i hlt
          simp only [Option.some.injEq] at hc; subst hc
          have e : onO (wanted tm (pth g) want) .no (fun wt => cnd wt (onR (evOp call ((compOp P o).getD .bad) tm h) fun v h => withT (T.putP v (pth d) tm) h k) (withT (T.putP (.tup []) (pth d) tm) h k)) = r := e
          cases hwt : wanted tm (pth g) want with
          | none => rw [hwt] at e; exact absurd e.symm hr
          | some b =>
            rw [hwt, onO_some] at e
            rw [wanted_eq t hg hgd hwt]
            cases b with
            | true => rw [cnd_true] at e; exact runD rfl hd (blt_true hlt) e
            | false =>
              rw [cnd_false, withT_eq] at e
              rw [if_neg (by simp)]
              exact ⟨fun _ _ => trivial, hk φ _ h _ w e (Ext.refl φ) (t.put (by have := blt_true hlt; omega) (.tup .nil)) H (Keep.refl φ h) (put_nt _ _)⟩
        · cases hc

theorem evOps_nil {call : Cl} {tm : T AV} {h : Hp} : evOps call [] tm h = .go tm h := rfl
theorem evOps_cons {call : Cl} {x : AOper} {l : List AOper} {tm : T AV} {h : Hp} : evOps call (x :: l) tm h = evOper call (evOps call l) tm h x := rfl

/-- The operations of a region in the order of the text. -/
theorem sound_ops {ro : Option Nat} {call : Cl} (hcall : CallOK P N w0 call) {nt : Nat} {ops : Array Oper} {Q : Exit → Act → World → Prop} : ∀ (is : List Nat) (l : List AOper), compOpers P nt ops is = some l →
    ∀ {φ : Phi} {tm : T AV} {h : Hp} {a : Act} {w : World} {r : R}, evOps call l tm h = r → r ≠ .no → TRel φ tm a → HRel N w0 φ h w → nt ≤ a.tmps.size →
    (∀ ex a' w', Ends N w0 φ h nt r ex a' w' → Q ex a' w') → wpOpsIn (Fe ro) 0 P ops Q is a w
  | [], l, hc, φ, tm, h, a, w, r, e, hr, t, H, hn, hq => by
    simp only [compOpers, Option.some.injEq] at hc
    subst hc
    rw [evOps_nil] at e
    exact hq _ _ _ (.inr ⟨φ, tm, h, Ext.refl φ, t, H, Keep.refl φ h, hn, .inl ⟨e.symm, rfl⟩⟩)
  | i :: is, l, hc, φ, tm, h, a, w, r, e, hr, t, H, hn, hq => by
    simp only [compOpers, Option.bind_eq_bind, Option.bind_eq_some_iff, Option.some.injEq] at hc
    obtain ⟨o, ho, x, hx, k, hk, rfl⟩ := hc
    rw [evOps_cons] at e
    rw [wpOpsIn_cons]
    refine sound_oper hcall ho hx e hr t H hn trivial fun φ' tm' h' a' w' e' g1 g2 g3 g4 g5 => ?_
    exact sound_ops hcall is k hk e' hr g2 g3 g5 fun ex a' w' he => hq _ _ _ (he.after g1 g4)

theorem onGo_ne {r : R} {k : T AV → Hp → R} (h : onGo r k ≠ .no) : r ≠ .no := fun e => by subst e; exact h rfl
theorem onExit_ne {r : R} {id : Nat} (h : onExit id r ≠ .no) : r ≠ .no := fun e => by subst e; exact h rfl

theorem loopN_succ (body : T AV → Hp → R) (f : Nat) (tm : T AV) (h : Hp) : loopN body (f + 1) tm h = onGo (body tm h) (loopN body f) := rfl

/-- A region that draws its order: to be shown. -/
def DrawOK (P : Program) (N : Nat) (w0 : World) : Prop :=
  ∀ [Fr] {ro : Option Nat} {call : Cl} (_ : CallOK P N w0 call) {nt id : Nat} {ops : Array Oper} {ac : ACode} (_ : compRegion P nt ops = some ac) {fuel : Nat} {φ : Phi} {tm : T AV} {h : Hp} {a : Act} {w : World} {r : R}
    (_ : evCode call fuel ac tm h = r) (_ : r ≠ .no) (_ : TRel φ tm a) (_ : HRel N w0 φ h w) (_ : nt ≤ a.tmps.size) {Q : Exit → Act → World → Prop}
    (_ : ∀ ex a' w', Ends N w0 φ h nt r ex a' w' → Q ex a' w'), (Code.region id ops true).wpIn (Fe ro) 0 P Q a w
end
end Go.Abs
