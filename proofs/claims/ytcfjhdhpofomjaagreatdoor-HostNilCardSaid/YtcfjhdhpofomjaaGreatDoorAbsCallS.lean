/- Calls: a function that the abstract machine computes, computes so in the program. -/
import Derived.Test.YtcfjhdhpofomjaaGreatDoorAbsCodeT
set_option linter.unusedSectionVars false
set_option linter.unusedSimpArgs false
set_option linter.unusedVariables false
set_option linter.constructorNameAsVariable false
namespace Go.Abs
variable [Env] [Fr]
open Go.RowKit

section
variable {P : Program} {N : Nat} {w0 : World}

theorem argsT_nil (p : Pth) (tm : T AV) : argsT [] p tm = tm := rfl
theorem argsT_cons (v : AV) (r : List AV) (p : Pth) (tm : T AV) : argsT (v :: r) p tm = argsT r p.inc (T.putP v p tm) := by
  show T.rec (motive := fun _ => T AV) (argsT r p.inc .e) (fun a b d _ _ => argsT r p.inc (.n a b d)) (T.putP v p tm) = _
  cases T.putP v p tm <;> rfl
theorem argsT_get : ∀ (l : List AV) (k : Nat) (tm : T AV) (n : Nat), T.getP (pth n) (argsT l (pth k) tm) = if k ≤ n ∧ n < k + l.length then l[n - k]? else T.getP (pth n) tm
  | [], k, tm, n => by
    have : ¬ (k ≤ n ∧ n < k + 0) := by omega
    rw [argsT_nil, List.length_nil, if_neg this]
  | v :: r, k, tm, n => by
    rw [argsT_cons, show (pth k).inc = pth (k + 1) from rfl, argsT_get r (k + 1), T.getP_putP]
    by_cases h1 : n = k
    · subst h1
      have : ¬ (n + 1 ≤ n ∧ n < n + 1 + r.length) := by omega
      rw [if_neg this, if_pos rfl, if_pos (by simp)]
      simp
    · have hne : ¬ pth n = pth k := fun e => h1 (pth_inj e)
      rw [if_neg hne]
      by_cases h2 : k + 1 ≤ n ∧ n < k + 1 + r.length
      · have h3 : k ≤ n ∧ n < k + (v :: r).length := by simp; omega
        rw [if_pos h2, if_pos h3, show n - k = (n - (k + 1)) + 1 by omega]
        simp
      · have h3 : ¬ (k ≤ n ∧ n < k + (v :: r).length) := by simp; omega
        rw [if_neg h2, if_neg h3]

/-- What is said of a function of the table. -/
def FnOK (P : Program) (N : Nat) (w0 : World) (f : Nat) : AFn → Prop
  | .code nt body res => ∃ F c, P.funcs[f]? = some F ∧ F.body = some c ∧ (F.name == "runtime.NumGoroutine") = false ∧ F.ntmps = nt ∧ compCode P nt c = some body ∧ compRes P F.results.toList = some res
  | .opt na body res => ∃ F c nt body0, P.funcs[f]? = some F ∧ F.body = some c ∧ (F.name == "runtime.NumGoroutine") = false ∧ F.ntmps = nt ∧ compCode P nt c = some body0 ∧ compRes P F.results.toList = some res ∧
      ∀ (call : Cl) (fuel : Nat) (args : List AV) (h : Hp) (v : AV) (h' : Hp), na ≤ args.length → fin res (evCode call fuel body (argsT args .z .e) h) = .ok v h' → fin res (evCode call fuel body0 (argsT args .z .e) h) = .ok v h'
  | .fn g => ∀ (φ : Phi) (h h' : Hp) (v : AV) (w : World) (args : List AV) (args' : List Value), g args h = .ok v h' → VRels φ args args' → HRel N w0 φ h w →
      OpRun P N w0 φ h w (callFunc f ⟨args'⟩) v h'
  | .ext x => ∀ (φ : Phi) (h h' : Hp) (v : AV) (w : World) (args : List AV) (args' : List Value), evExt x args h = .ok v h' → VRels φ args args' → HRel N w0 φ h w →
      OpOK P N w0 φ h w (callFunc f ⟨args'⟩) v h'
omit [Fr] in
/-- What is said of the table, in whatever frame. -/
def TblOK (P : Program) (N : Nat) (w0 : World) (tbl : Nat → Option AFn) : Prop := ∀ [Fr] f fn, tbl f = some fn → FnOK P N w0 f fn

theorem fin_ok {res : List ARes} {r : R} {v : AV} {h' : Hp} (e : fin res r = .ok v h') : ∃ tm h, (r = .go tm h ∨ r = .ret tm h) ∧ Go.Abs.results tm h res = .ok v h' := by
  cases r with
  | no => cases e
  | go tm h => exact ⟨tm, h, .inl rfl, e⟩
  | ret tm h => exact ⟨tm, h, .inr rfl, e⟩
  | exit id tm h => cases e

theorem callN_succ (tbl : Nat → Option AFn) (fuel n lv : Nat) (ra : Bool) (yl : YF) (f : Nat) (args : List AV) (h : Hp) : callN tbl fuel (n + 1) lv ra yl f args h = onO (tbl f) .no fun fn => AFn.rec (motive := fun _ => Rv)
      (fun _ body res => fin res (evCode ⟨callN tbl fuel n, lv, yl⟩ fuel body (argsT args .z .e) h)) (fun x => cnd ra .no (evExt x args h)) (fun g => cnd ra .no (g args h))
      (fun na body res => cnd (Nat.ble na (listLen args)) (fin res (evCode ⟨callN tbl fuel n, lv, yl⟩ fuel body (argsT args .z .e) h)) .no) fn := rfl

theorem listLen_eq' : ∀ l : List AV, listLen l = l.length
  | [] => rfl
  | _ :: r => congrArg Nat.succ (listLen_eq' r)
/-- The marks are come to: the blocks are shut. -/
theorem marks_leave {fn : Func} {tmps : Array Value} {R : Ending → World → Prop} {h : Hp} : ∀ (Ds : List Nat) {φ : Phi} {w : World}, Ds.Nodup → (∀ D ∈ Ds, φ.keep D = some (fun _ => .deferred (some [])) ∧ Fr.s.base.keep D = none) → HRel N w0 φ h w →
    (∀ (φ' : Phi) (w' : World), φ'.f = φ.f → HRel N w0 φ' h w' → ∃ v, (Go.results fn tmps).run P w' = .ok v w' ∧ R (.returned v) w') → LeavesInM Fence.wide 0 P fn tmps R (Ds.map mark) .returning w
  | [], φ, w, _, _, H, k => k φ w rfl H
  | D :: Ds, φ, w, hn, hd, H, k => by
    obtain ⟨h1, h2⟩ := hd D (by simp)
    refine ⟨by simp, .inl ⟨D, _, rfl, run_takeDeferred (H.kept D _ h1).2.1, ?_⟩⟩
    have hn' := List.nodup_cons.1 hn
    refine marks_leave Ds (φ := φ.at D none) hn'.2 (fun D' hD' => ?_) (H.turn Fr.s h1 none (H.base0.at_r none h2) rfl (fun _ _ => rfl) (fun _ _ => rfl) (fun o' ho => by cases ho) (.inl rfl)) fun φ' w' hf H' => k φ' w' hf H'
    have hne : D' ≠ D := fun e => hn'.1 (by rw [← e]; exact hD')
    exact ⟨by rw [Phi.at_other _ _ hne]; exact (hd D' (by simp [hD'])).1, (hd D' (by simp [hD'])).2⟩
theorem sound_body0 {call : Cl} (ih : CallOK P N w0 call) (hdraw : DrawOK P N w0) (fuel : Nat) {f nt : Nat} {F : Func} {c : Code} {body : ACode} {res : List ARes} {args : List AV} {h h' : Hp} {v : AV} {φ : Phi} {w : World} {args' : List Value}
    (hbase : Fr.s.base = φ) (hF : P.funcs[f]? = some F) (hb : F.body = some c) (hname : (F.name == "runtime.NumGoroutine") = false) (hnt : F.ntmps = nt) (hc : compCode P nt c = some body) (hres : compRes P F.results.toList = some res)
    (e : fin res (evCode call fuel body (argsT args .z .e) h) = .ok v h') (hr : VRels φ args args') (H : HRel N w0 φ h w) : EnterRun P N w0 φ h w (callFunc f ⟨args'⟩) v h' := by
  obtain ⟨tm', h1, hgo, hrv⟩ := fin_ok e
  refine ⟨f, ⟨args'⟩, ?_, ?_⟩
  · simp only [callFunc, Sem.run_bind, run_program, Result.andThen_ok, hF, hname, hb]
    rfl
  · refine (callsIn_wide (n := 0)).1 (callsIn_of_wp_marks (F := Fence.wide) hF hb trivial ?_)
    have hlen := hr.length
    refine sound_code ih hdraw c body hc none rfl (by rcases hgo with e | e <;> rw [e] <;> simp) (tm := argsT args .z .e) ⟨fun k u hu => ?_, Marks.nil _⟩ H ?_ (fun _ e => by cases e) ?_
    · rw [show Pth.z = pth 0 from rfl, argsT_get, T.getP_e] at hu
      by_cases hk : 0 ≤ k ∧ k < 0 + args.length
      · rw [if_pos hk] at hu
        obtain ⟨y, g1, g2⟩ := hr.get hu
        refine ⟨y, ?_, g2⟩
        have : k < args'.length := by omega
        rw [Array.getElem?_append_left (by simpa using this)]
        simpa using g1
      · rw [if_neg hk] at hu; cases hu
    · simp; omega
    · intro ex a' w' he
      rcases he with he | ⟨φ', tm2, h2, g1, g2, g3, g4, g5, g6⟩
      · exact he.elim
      · have hpost : (R.go tm2 h2 = evCode (call) fuel body (argsT args .z .e) h ∨ R.ret tm2 h2 = evCode (call) fuel body (argsT args .z .e) h) →
            bodyPostM Fence.wide 0 P F (EndOK N w0 φ h v h') .normal a' w' ∧ bodyPostM Fence.wide 0 P F (EndOK N w0 φ h v h') .ret a' w' := by
          intro hor
          have hsame : tm2 = tm' ∧ h2 = h1 := by
            rcases hor with k1 | k1 <;> rcases hgo with k2 | k2 <;> rw [k2] at k1 <;> cases k1 <;> exact ⟨rfl, rfl⟩
          obtain ⟨e1, e2⟩ := hsame
          subst e1 e2
          obtain ⟨Ds, d1, d2, d3⟩ := g2.defers
          have : LeavesInM Fence.wide 0 P F a'.tmps (EndOK N w0 φ h v h') a'.defers .returning w' := by
            rw [d2]
            refine marks_leave Ds d1 d3 g3 fun φ2 w2 hf H2 => ?_
            have t2 : TRel φ2 tm2 { a' with defers := [] } := ⟨fun n v hv => let ⟨y, q1, q2⟩ := g2.at_ n v hv; ⟨y, q1, q2.sub fun b L k => by rw [show φ2 b = φ' b from congrFun hf b]; exact k⟩, Marks.nil _⟩
            obtain ⟨hh, y, k1, k2⟩ := sound_results (P := P) (fn := F) t2 H2 hres hrv
            subst hh
            exact ⟨y, k1, .inr ⟨y, φ2, rfl, k2, by rw [← hbase]; exact H2.base0, H2, g4.f rfl hf⟩⟩
          exact ⟨this, this⟩
        rcases g6 with ⟨k1, k2⟩ | ⟨k1, k2⟩ | ⟨id, k1, k2⟩
        · subst k2; exact (hpost (.inl k1.symm)).1
        · subst k2; exact (hpost (.inr k1.symm)).2
        · exfalso
          rcases hgo with k3 | k3 <;> rw [k3] at k1 <;> cases k1
theorem sound_body {call : Cl} (ih : CallOK P N w0 call) (hdraw : DrawOK P N w0) (fuel : Nat) {f nt : Nat} {F : Func} {c : Code} {body : ACode} {res : List ARes} {args : List AV} {h h' : Hp} {v : AV} {φ : Phi} {w : World} {args' : List Value}
    (hF : P.funcs[f]? = some F) (hb : F.body = some c) (hname : (F.name == "runtime.NumGoroutine") = false) (hnt : F.ntmps = nt) (hc : compCode P nt c = some body) (hres : compRes P F.results.toList = some res)
    (e : fin res (evCode call fuel body (argsT args .z .e) h) = .ok v h') (hr : VRels φ args args') (H : HRel N w0 φ h w) : EnterRun P N w0 φ h w (callFunc f ⟨args'⟩) v h' := by
  obtain ⟨E2, hE2⟩ : ∃ E2 : Frm, E2 = ⟨Fr.s.yl, φ, Fr.s.tg⟩ := ⟨_, rfl⟩
  have hy : E2.yl = Fr.s.yl := by rw [hE2]
  have ht : E2.tg = Fr.s.tg := by rw [hE2]
  have hbb : E2.base = φ := by rw [hE2]
  have hup : ∀ φ', Ext φ φ' → Ext Fr.s.base φ' := fun φ' k => H.base0.trans k
  have hcall2 : @CallOK _ ⟨E2⟩ P N w0 call := by
    refine ⟨ih.1, fun args h v h' ψ w args' e hr H2 => ?_, fun i d k => ih.2.2 i d (by rw [← ht]; exact k)⟩
    have hb2 : Ext E2.base ψ := @HRel.base0 _ ⟨E2⟩ _ _ _ _ _ H2
    have hψ : Ext Fr.s.base ψ := hup ψ (by rw [← hbb]; exact hb2)
    have k := ih.2.1 args h v h' ψ w args' e (@VRels.reyl _ ⟨E2⟩ Fr.s hy.symm _ _ _ hr) (@HRel.rebase _ ⟨E2⟩ _ _ _ _ _ Fr.s ht.symm H2 hψ)
    have k2 := k.rebase E2 hy ht (fun φ' x => hb2.trans x)
    rw [show (Fr.s (self := ⟨E2⟩)).yl = Fr.s.yl from hy]
    exact k2
  have k := @sound_body0 _ ⟨E2⟩ P N w0 call hcall2 hdraw fuel f nt F c body res args h h' v φ w args' hbb hF hb hname hnt hc hres e (VRels.reyl E2 hy hr) (H.rebase E2 ht (by rw [hbb]; exact Ext.refl _))
  exact @EnterRun.rebase _ ⟨E2⟩ _ _ _ _ _ _ _ Fr.s hy.symm ht.symm hup _ _ k
theorem sound_callN {tbl : Nat → Option AFn} (htbl : TblOK P N w0 tbl) (hdraw : DrawOK P N w0) (fuel : Nat) : ∀ n, ItOK P N w0 (callN tbl fuel n) := by
  intro n
  induction n with
  | zero => intro _ lv ra yl htg hy f args h v h' φ w args' e; cases e
  | succ n ih =>
    intro _ lv ra yl htg hy f args h v h' φ w args' e hr H
    rw [callN_succ] at e
    obtain ⟨fn, hfn, e⟩ := onO_eq_ok e
    have hok := htbl f fn hfn
    have hca : CallOK P N w0 ⟨callN tbl fuel n, lv, yl⟩ := ⟨ih, hy, htg⟩
    cases fn with
    | fn g =>
      have e : cnd ra .no (g args h) = .ok v h' := e
      cases ra with
      | true => cases e
      | false => exact ⟨hok φ h h' v w args args' e hr H, fun k => by cases k⟩
    | ext x =>
      have e : cnd ra .no (evExt x args h) = .ok v h' := e
      cases ra with
      | true => cases e
      | false => exact ⟨.inl (hok φ h h' v w args args' e hr H), fun k => by cases k⟩
    | code nt body res =>
      obtain ⟨F, c, hF, hb, hname, hnt, hc, hres⟩ := hok
      have k := sound_body hca hdraw fuel hF hb hname hnt hc hres e hr H
      exact ⟨.inr (.inl k), fun _ => k⟩
    | opt na body res =>
      obtain ⟨F, c, nt, body0, hF, hb, hname, hnt, hc, hres, himp⟩ := hok
      obtain ⟨e1, e2⟩ := cnd_eq_ok (show cnd (Nat.ble na (listLen args)) (fin res (evCode ⟨callN tbl fuel n, lv, yl⟩ fuel body (argsT args .z .e) h)) .no = .ok v h' from e)
      have k := sound_body hca hdraw fuel hF hb hname hnt hc hres (himp _ _ _ _ _ _ (by rw [← listLen_eq']; exact Nat.le_of_ble_eq_true e1) e2) hr H
      exact ⟨.inr (.inl k), fun _ => k⟩
end
end Go.Abs
