/- Bytes to strings; what is built out of parts. -/
import Derived.Test.YtcfjhdhpofomjaaGreatDoorAbsOps4
set_option linter.unusedSectionVars false
set_option linter.unusedSimpArgs false
set_option linter.unusedVariables false
set_option linter.constructorNameAsVariable false
namespace Go.Abs
variable [Env] [Fr]
open Go.RowKit

section
variable {P : Program} {N : Nat} {w0 w : World} {φ : Phi} {h h' : Hp} {tm : T AV} {a : Act} {o : Oper} {op : AOp} {v : AV} {call : Cl}

theorem sound_bts {s d e8 : TypeId} {x : Operand} {x' : AX} (ho : o.op = .convert s d x) (hs : P.underlying s = some (.slice e8)) (h8 : P.underlying e8 = some (.int .u8)) (hd : P.underlying d = some .string)
    (hx' : axOf x = some x') (e : evOp call (.bts x') tm h = .ok v h') (H : HRel N w0 φ h w) (t : TRel φ tm a) : OpOK P N w0 φ h w (execOp a.eval o) v h' := by
  have e1 : oBts tm h x' = .ok v h' := e
  unfold oBts at e1
  have conv : ∀ y A n c, a.eval x = .slice A n c → (Conv.bytesToString (a.eval x)).run P w = .ok y w → (execOp a.eval o).run P w = .ok (.value y) w := by
    intro y A n c hcu hy
    rw [hcu] at hy
    simp only [execOp, ho, hcu]
    refine run_value ?_
    simp only [convert, Sem.run_bind, under_run hs, under_run hd, Result.andThen_ok, under_run h8]
    cases A <;> exact hy
  have empty : ∀ bs : ByteArray, bs = .empty → VRel φ (.s 0 0) (.string bs) := by
    intro bs hb; subst hb; exact .s []
  split at e1
  · rename_i hu
    cases e1
    have ru := t.ax hx' hu
    generalize hcu : a.eval x = cu at ru
    cases ru
    exact OpOK.same H (conv _ _ _ _ hcu (by rw [hcu]; rfl)) (empty _ rfl)
  · rename_i b q len cap hu
    have ru := t.ax hx' hu
    cases h0 : Nat.beq len 0 with
    | true =>
      rw [h0] at e1; cases e1
      have h0 := beq_true h0
      subst h0
      generalize hcu : a.eval x = cu at ru
      cases ru with
      | sl => exact OpOK.same H (conv _ _ _ _ hcu (by rw [hcu]; rfl)) (empty _ rfl)
      | sl0 => exact OpOK.same H (conv _ _ _ _ hcu (by rw [hcu]; rfl)) (empty _ rfl)
    | false =>
      rw [h0, cnd_false] at e1
      obtain ⟨l, hl, e2⟩ := onO_eq_ok e1
      obtain ⟨B, hB, e3⟩ := onO_eq_some hl
      unfold btsL at e2
      obtain ⟨s', hs', e4⟩ := onO_eq_ok e2
      rw [forceN_eq, forceN_eq] at e4
      cases e4
      generalize hcu : a.eval x = cu at ru
      cases ru with
      | sl0 => cases h0
      | @sl _ _ _ _ c L hL hc hlen hr =>
        obtain ⟨ys, k1, k2, _, k3⟩ := H.readN hL hB e3
        obtain ⟨bs, hy, hs2⟩ := toStr_rel k2 hs'
        subst hs2
        refine OpOK.same H (conv (.string ⟨bs.toArray⟩) _ _ _ hcu ?_) (.s bs)
        rw [hcu]
        rw [run_bytesToString w _ len _ (bs.map (fun c => (c.toNat : Int))) (by rw [run_loadCells_of P k1 k3, hy]; simp), bytes_fold]
        congr 2
        apply congrArg
        apply Array.ext'
        simp
  · cases e1
end
end Go.Abs
