/- Every operation: the abstract machine's is the model's. -/
import Derived.Test.YtcfjhdhpofomjaaGreatDoorAbsOpsB
import Derived.RangeFuncLeaves
import Derived.RangeFuncNested
import Derived.OrdersIn
import Derived.LoopNIn
set_option linter.unusedSectionVars false
set_option linter.unusedSimpArgs false
set_option linter.unusedVariables false
set_option linter.constructorNameAsVariable false
namespace Go.Abs
variable [Env] [Fr]
open Go.RowKit

/-- How a call ends. -/
def EndOK (N : Nat) (w0 : World) (φ : Phi) (h : Hp) (v : AV) (h' : Hp) (e : Ending) (w' : World) : Prop :=
  False ∨ ∃ y φ', e = .returned y ∧ VRel φ' v y ∧ Ext φ φ' ∧ HRel N w0 φ' h' w' ∧ Keep φ φ' h h'
/-- The operation comes to what the abstract machine's comes to: at once, or by a call. -/
def OpRun (P : Program) (N : Nat) (w0 : World) (φ : Phi) (h : Hp) (w : World) (s : Sem Next) (v : AV) (h' : Hp) : Prop :=
  OpOK P N w0 φ h w s v h' ∨ (∃ f args, s.run P w = .ok (.enter f args) w ∧ Calls P f args w (EndOK N w0 φ h v h')) ∨
    ∃ l f tmps assign body, s.run P w = .ok (.round l f tmps assign body) w ∧ RoundIn Fence.wide 0 P l f tmps assign body w (EndOK N w0 φ h v h')
theorem OpRun.of_run {P : Program} {N : Nat} {w0 : World} {φ : Phi} {h : Hp} {w : World} {s s' : Sem Next} {v : AV} {h' : Hp} (r : OpRun P N w0 φ h w s v h') (e : s'.run P w = s.run P w) : OpRun P N w0 φ h w s' v h' := by
  rcases r with ⟨r, w', φ', k1, k2⟩ | ⟨f', args', k1, k2⟩ | ⟨l, f, tmps, x, y, k1, k2⟩
  · exact .inl ⟨r, w', φ', by rw [e]; exact k1, k2⟩
  · exact .inr (.inl ⟨f', args', by rw [e]; exact k1, k2⟩)
  · exact .inr (.inr ⟨l, f, tmps, x, y, by rw [e]; exact k1, k2⟩)
/-- What the yield of this frame does. -/
def YOK (P : Program) (N : Nat) (w0 : World) (yl : YF) : Prop :=
  ∀ (args : List AV) (h : Hp) (v : AV) (h' : Hp) (φ : Phi) (w : World) (args' : List Value), yl args h = .ok v h' → VRels φ args args' → HRel N w0 φ h w → OpRun P N w0 φ h w (Instr.yield Fr.s.yl ⟨args'⟩) v h'
theorem yok_no (P : Program) (N : Nat) (w0 : World) : YOK P N w0 noY := fun _ _ _ _ _ _ _ e => by cases e
/-- A call that enters a function. -/
def EnterRun (P : Program) (N : Nat) (w0 : World) (φ : Phi) (h : Hp) (w : World) (s : Sem Next) (v : AV) (h' : Hp) : Prop := ∃ f args, s.run P w = .ok (.enter f args) w ∧ Calls P f args w (EndOK N w0 φ h v h')
omit [Fr] in
def ItOK (P : Program) (N : Nat) (w0 : World) (it : Nat → Bool → YF → Nat → List AV → Hp → Rv) : Prop :=
  ∀ [Fr] (lv : Nat) (ra : Bool) (yl : YF), (∀ i d, Fr.s.tg i = some d → d < lv) → YOK P N w0 yl → ∀ (f : Nat) (args : List AV) (h : Hp) (v : AV) (h' : Hp) (φ : Phi) (w : World) (args' : List Value), it lv ra yl f args h = .ok v h' → VRels φ args args' → HRel N w0 φ h w →
    OpRun P N w0 φ h w (callFunc f ⟨args'⟩) v h' ∧ (ra = true → EnterRun P N w0 φ h w (callFunc f ⟨args'⟩) v h')
def CallOK (P : Program) (N : Nat) (w0 : World) (call : Cl) : Prop := ItOK P N w0 call.it ∧ YOK P N w0 call.yl ∧ ∀ i d, Fr.s.tg i = some d → d < call.lv
theorem CallOK.fn {P : Program} {N : Nat} {w0 : World} {call : Cl} (hc : CallOK P N w0 call) (f : Nat) (args : List AV) (h : Hp) (v : AV) (h' : Hp) (φ : Phi) (w : World) (args' : List Value) (e : call.fn f args h = .ok v h')
    (hr : VRels φ args args') (H : HRel N w0 φ h w) : OpRun P N w0 φ h w (callFunc f ⟨args'⟩) v h' := (hc.1 call.lv false noY hc.2.2 (yok_no _ _ _) f args h v h' φ w args' e hr H).1

section
variable {P : Program} {N : Nat} {w0 w : World} {φ : Phi} {h h' : Hp} {tm : T AV} {a : Act} {o : Oper} {op : AOp} {v : AV} {call : Cl}

theorem axsOf_rel : ∀ {xs : List Operand} {ys : List AX}, axsOf xs = some ys → xs.length = ys.length
  | [], ys, h => by simp only [axsOf, Option.some.injEq] at h; subst h; rfl
  | x :: r, ys, h => by
    simp only [axsOf] at h
    cases h1 : axOf x with
    | none => simp [h1] at h
    | some y => cases h2 : axsOf r with
      | none => simp [h1, h2] at h
      | some k => simp [h1, h2] at h; subst h; simp [axsOf_rel h2]
theorem map_args (args : Array Operand) (ρ : Operand → Value) : args.map ρ = ⟨args.toList.map ρ⟩ := by apply Array.ext'; simp

theorem sound_call {f : Nat} {args : Array Operand} {argTypes : Array TypeId} {ys : List AX} (hcall : CallOK P N w0 call) (ho : o.op = .call { callee := .value (.func f), args, argTypes }) (hys : axsOf args.toList = some ys)
    (e : evOp call (.call f ys) tm h = .ok v h') (H : HRel N w0 φ h w) (t : TRel φ tm a) (hev : a.eval (.func f) = .func (.func f) #[] #[]) : OpRun P N w0 φ h w (execOp a.eval o) v h' := by
  obtain ⟨l, hl, e1⟩ := onO_eq_ok (show onO (axs tm ys) Rv.no (fun l => call.fn f l h) = .ok v h' from e)
  have hr := t.axs hys hl
  refine (hcall.fn f l h v h' φ w _ e1 hr H).of_run ?_
  simp only [execOp, ho, resolve, hev, Deferred.ofValue, Sem.run_bind, Sem.run_pure, Result.andThen_ok, invoke, map_args]
  congr 2
  apply Array.ext'; simp
theorem sound_callv {x : Operand} {x' : AX} {args : Array Operand} {argTypes : Array TypeId} {ys : List AX} (hcall : CallOK P N w0 call) (ho : o.op = .call { callee := .value x, args, argTypes }) (hx' : axOf x = some x') (hys : axsOf args.toList = some ys)
    (e : evOp call (.callv x' ys) tm h = .ok v h') (H : HRel N w0 φ h w) (t : TRel φ tm a) : OpRun P N w0 φ h w (execOp a.eval o) v h' := by
  have e0 : oCallv tm h call x' ys = .ok v h' := e
  unfold oCallv at e0
  split at e0
  · rename_i f p q hu
    obtain ⟨l, hl, e1⟩ := onO_eq_ok e0
    have hr := t.axs hys hl
    have ru := t.ax hx' hu
    generalize hcu : a.eval x = cu at ru
    cases ru with
    | fn ha hc =>
    rename_i p' q'
    refine (hcall.fn f _ h v h' φ w _ e1 (ha.append (hr.append hc)) H).of_run ?_
    simp only [execOp, ho, resolve, hcu, Deferred.ofValue, Sem.run_bind, Sem.run_pure, Result.andThen_ok, invoke, map_args]
    congr 2
    apply Array.ext'; simp
  · rename_i hu
    obtain ⟨l, hl, e1⟩ := onO_eq_ok e0
    have hr := t.axs hys hl
    have ru := t.ax hx' hu
    generalize hcu : a.eval x = cu at ru
    cases ru with
    | yi =>
    refine (hcall.2.1 l h v h' φ w _ e1 hr H).of_run ?_
    simp only [execOp, ho, resolve, hcu, Deferred.ofValue, Sem.run_bind, Sem.run_pure, Result.andThen_ok, invoke, map_args]
    congr 2
    apply Array.ext'; simp
  · cases e0

/-- Where an operation is compiled, it is sound. -/
theorem sound_op (hcall : CallOK P N w0 call) (hc : compOp P o = some op) (e : evOp call op tm h = .ok v h') (H : HRel N w0 φ h w) (t : TRel φ tm a) : OpRun P N w0 φ h w (execOp a.eval o) v h' := by
  cases ho : o.op with
  | move x => exact .inl (sound_mov (.inl ho) hc e H t)
  | assign x => exact .inl (sound_mov (.inr ho) hc e H t)
  | pick c x y => exact .inl (sound_pick ho hc e H t)
  | alloc ty => exact .inl (sound_alloc ho hc e H)
  | box ty x => exact .inl (sound_box ho hc e H t)
  | build ty ps => exact .inl (sound_build ho hc e H t)
  | fieldAddr ty x f => exact .inl (sound_fld ho hc e H t)
  | field ty x f => exact .inl (sound_fieldv ho hc e H t)
  | indexAddr ty x i => exact .inl (sound_idx ho hc e H t)
  | unOp uo ty x => exact .inl (sound_un ho hc e H t)
  | nilCheck x => exact .inl (sound_nilck ho hc e H t)
  | extract x i => exact .inl (sound_ext ho hc e H t)
  | store ty x y => exact .inl (sound_st ho hc e H t)
  | buildSlice ty len ps =>
    have hc0 := hc
    simp only [compOp, ho, Option.bind_eq_bind, Option.bind_eq_some_iff] at hc
    obtain ⟨d, hd, hc⟩ := hc
    split at hc
    · exact .inl (sound_bslice ho hd hc0 e H t)
    · cases hc
  | makeSlice ty l c =>
    have hc0 := hc
    simp only [compOp, ho, Option.bind_eq_bind, Option.bind_eq_some_iff] at hc
    obtain ⟨d, hd, hc⟩ := hc
    split at hc
    · exact .inl (sound_mkslice ho hd hc0 e H t)
    · cases hc
  | load ty x =>
    simp only [compOp, ho, Option.bind_eq_bind, Option.bind_eq_some_iff] at hc
    obtain ⟨g, hg, hc⟩ := hc
    cases g with
    | true =>
      simp only [Option.bind_eq_some_iff, Option.some.injEq] at hc
      obtain ⟨x', hx', n, hn, hop⟩ := hc
      subst hop
      exact .inl (sound_ldn ho hg hn hx' e H t)
    | false =>
      simp only [Option.bind_eq_some_iff, Option.some.injEq] at hc
      obtain ⟨x', hx', hop⟩ := hc
      subst hop
      exact .inl (sound_ld1 ho hg hx' e H t)
  | binOp bo ty x y ty' =>
    simp only [compOp, ho, Option.bind_eq_bind, Option.bind_eq_some_iff] at hc
    obtain ⟨d, hd, hc⟩ := hc
    split at hc
    · rename_i fs
      split at hc
      · rename_i hcond
        simp only [Bool.and_eq_true, Bool.not_eq_true'] at hcond
        simp only [Option.bind_eq_some_iff, Option.some.injEq] at hc
        obtain ⟨cs, hcs, x', hx', y', hy', hop⟩ := hc
        subst hop
        exact .inl (sound_eqa (neg := false) ho rfl hd hcs hcond.1 hcond.2 hx' hy' e H t)
      · cases hc
    · rename_i fs
      split at hc
      · rename_i hcond
        simp only [Bool.and_eq_true, Bool.not_eq_true'] at hcond
        simp only [Option.bind_eq_some_iff, Option.some.injEq] at hc
        obtain ⟨cs, hcs, x', hx', y', hy', hop⟩ := hc
        subst hop
        exact .inl (sound_eqa (neg := true) ho rfl hd hcs hcond.1 hcond.2 hx' hy' e H t)
      · cases hc
    all_goals first | (cases hc; done) | skip
    all_goals
      simp only [Option.bind_eq_some_iff, Option.some.injEq] at hc
      obtain ⟨x', hx', y', hy', hop⟩ := hc
      subst hop
    · exact .inl (sound_bin ho hx' hy' e H t)
    · exact .inl (sound_bin ho hx' hy' e H t)
    · exact .inl (sound_binb (neg := false) ho rfl hd hx' hy' e H t)
    · exact .inl (sound_binb (neg := true) ho rfl hd hx' hy' e H t)
    · exact .inl (sound_cmpn (neg := false) ho rfl hd (.inl ⟨rfl, _, rfl⟩) hx' hy' e H t)
    · exact .inl (sound_cmpn (neg := true) ho rfl hd (.inl ⟨rfl, _, rfl⟩) hx' hy' e H t)
    · exact .inl (sound_cmpn (neg := false) ho rfl hd (.inr (.inl ⟨rfl, _, rfl⟩)) hx' hy' e H t)
    · exact .inl (sound_cmpn (neg := true) ho rfl hd (.inr (.inl ⟨rfl, _, rfl⟩)) hx' hy' e H t)
    · exact .inl (sound_cmpn (neg := false) ho rfl hd (.inr (.inr ⟨rfl, _, _, _, rfl⟩)) hx' hy' e H t)
    · exact .inl (sound_cmpn (neg := true) ho rfl hd (.inr (.inr ⟨rfl, _, _, _, rfl⟩)) hx' hy' e H t)
  | convert s d x =>
    simp only [compOp, ho, Option.bind_eq_bind, Option.bind_eq_some_iff] at hc
    obtain ⟨u, hu, d', hd, hc⟩ := hc
    split at hc
    · simp only [Option.bind_eq_some_iff, Option.some.injEq] at hc
      obtain ⟨x', hx', hop⟩ := hc
      subst hop
      exact .inl (sound_conv ho ⟨_, hu⟩ hd hx' e H t)
    · simp only [Option.bind_eq_some_iff, Option.some.injEq] at hc
      obtain ⟨x', hx', hop⟩ := hc
      subst hop
      exact .inl (sound_ids ho hu hd hx' e H t)
    · simp only [Option.bind_eq_some_iff] at hc
      obtain ⟨k, hk, hc⟩ := hc
      split at hc
      · simp only [Option.bind_eq_some_iff, Option.some.injEq] at hc
        obtain ⟨x', hx', hop⟩ := hc
        subst hop
        exact .inl (sound_bts ho hu hk hd hx' e H t)
      · cases hc
    · simp only [Option.bind_eq_some_iff] at hc
      obtain ⟨k, hk, hc⟩ := hc
      split at hc
      · simp only [Option.bind_eq_some_iff, Option.some.injEq] at hc
        obtain ⟨x', hx', hop⟩ := hc
        subst hop
        exact .inl (sound_stb ho hu hd hk hx' e H t)
      · cases hc
    · cases hc
  | sliceToArrayPointer ty x =>
    simp only [compOp, ho, Option.bind_eq_bind, Option.bind_eq_some_iff] at hc
    obtain ⟨d, hd, hc⟩ := hc
    split at hc
    · simp only [Option.bind_eq_some_iff, Option.some.injEq] at hc
      obtain ⟨x', hx', hop⟩ := hc
      subst hop
      exact .inl (sound_arrp ho hd hx' e H t)
    · cases hc
  | makeFunc fn p q =>
    cases fn with
    | func f => exact .inl (sound_mkfn ho hc e H t)
    | _ => simp [compOp, ho] at hc
  | slice ty x lo hi mx =>
    have hc0 := hc
    simp only [compOp, ho, Option.bind_eq_bind, Option.bind_eq_some_iff] at hc
    obtain ⟨d, hd, hc⟩ := hc
    split at hc
    · exact .inl (sound_slc ho hd hc0 e H t)
    · exact .inl (sound_slca ho hd hc0 e H t)
    · split at hc
      · exact .inl (sound_slcs ho hd hc0 e H t)
      · cases hc
    · cases hc
  | index ty x i =>
    have hc0 := hc
    simp only [compOp, ho, Option.bind_eq_bind, Option.bind_eq_some_iff] at hc
    obtain ⟨d, hd, hc⟩ := hc
    split at hc
    · exact .inl (sound_indexs ho hd hc0 e H t)
    · exact .inl (sound_indexv ho hd hc0 e H t)
    · cases hc
  | call c =>
    obtain ⟨callee, args, argTypes⟩ := c
    cases callee with
    | value x =>
      cases x with
      | func f =>
        simp only [compOp, ho, Option.bind_eq_bind, Option.bind_eq_some_iff, Option.some.injEq] at hc
        obtain ⟨ys, hys, hop⟩ := hc
        subst hop
        exact sound_call hcall ho hys e H t rfl
      | tmp n =>
        simp only [compOp, ho, Option.bind_eq_bind, Option.bind_eq_some_iff, Option.some.injEq] at hc
        obtain ⟨x', hx', ys, hys, hop⟩ := hc
        subst hop
        exact sound_callv hcall ho hx' hys e H t
      | const n =>
        simp only [compOp, ho, Option.bind_eq_bind, Option.bind_eq_some_iff, Option.some.injEq] at hc
        obtain ⟨x', hx', ys, hys, hop⟩ := hc
        subst hop
        exact sound_callv hcall ho hx' hys e H t
      | global n =>
        simp only [compOp, ho, Option.bind_eq_bind, Option.bind_eq_some_iff, Option.some.injEq] at hc
        obtain ⟨x', hx', ys, hys, hop⟩ := hc
        subst hop
        exact sound_callv hcall ho hx' hys e H t
    | invoke r m => simp [compOp, ho] at hc
    | builtin b =>
      cases b with
      | len =>
        simp only [compOp, ho, Option.bind_eq_bind, Option.bind_eq_some_iff] at hc
        obtain ⟨ty, hty, d, hd, hc⟩ := hc
        split at hc
        · simp only [Option.bind_eq_some_iff, Option.some.injEq] at hc
          obtain ⟨x, hx, x', hx', hop⟩ := hc
          subst hop
          exact .inl (sound_lens ho hx hty hd hx' e H t)
        · simp only [Option.bind_eq_some_iff, Option.some.injEq] at hc
          obtain ⟨x, hx, x', hx', hop⟩ := hc
          subst hop
          exact .inl (sound_len ho hx hty hd hx' e H t)
        · simp only [Option.bind_eq_some_iff, Option.some.injEq] at hc
          obtain ⟨x, hx, hop⟩ := hc
          subst hop
          exact .inl (sound_lenc ho hx hty (.inl ⟨_, hd⟩) e H)
        · simp only [Option.bind_eq_some_iff] at hc
          obtain ⟨u, hu, hc⟩ := hc
          split at hc
          · simp only [Option.bind_eq_some_iff, Option.some.injEq] at hc
            obtain ⟨x, hx, hop⟩ := hc
            subst hop
            exact .inl (sound_lenc ho hx hty (.inr ⟨_, _, hd, hu⟩) e H)
          · cases hc
        · cases hc
      | cap =>
        simp only [compOp, ho, Option.bind_eq_bind, Option.bind_eq_some_iff] at hc
        obtain ⟨ty, hty, d, hd, hc⟩ := hc
        split at hc
        · simp only [Option.bind_eq_some_iff, Option.some.injEq] at hc
          obtain ⟨x, hx, x', hx', hop⟩ := hc
          subst hop
          exact .inl (sound_cap ho hx hty hd hx' e H t)
        · cases hc
      | append =>
        simp only [compOp, ho, Option.bind_eq_bind, Option.bind_eq_some_iff] at hc
        obtain ⟨ty, hty, d, hd, hc⟩ := hc
        split at hc
        · rename_i el
          simp only [Option.bind_eq_some_iff] at hc
          obtain ⟨ty2, hty2, d2, hd2, hc⟩ := hc
          have hd2' : ∀ j, d2 ≠ .int j := by
            intro j hj; subst hj; cases hc
          have hc : ∃ zl n b s x s' x', zeroOf P el = some zl ∧ args.size = 2 ∧ argTypes.size = 2 ∧ sz P el = some n ∧ by_ P el = some b ∧ args[0]? = some s ∧ axOf s = some s' ∧ args[1]? = some x ∧ axOf x = some x' ∧ op = .append n b s' x' := by
            split at hc <;> first | (cases hc; done) | skip
            all_goals
              split at hc
              · rename_i zl h1 h2 h3
                simp only [Option.bind_eq_some_iff, Option.some.injEq] at hc
                obtain ⟨n, hn, b, hb, s, hs, s', hs', x, hx, x', hx', hop⟩ := hc
                exact ⟨zl, n, b, s, x, s', x', h1, h2, h3, hn, hb, hs, hs', hx, hx', hop.symm⟩
              · cases hc
          obtain ⟨zl, n, b, s, x, s', x', h1, h2, h3, hn, hb, hs, hs', hx, hx', hop⟩ := hc
          subst hop
          have ha : args = #[s, x] := by
            apply Array.ext
            · simp [h2]
            · intro i hi1 hi2
              have : i = 0 ∨ i = 1 := by omega
              rcases this with rfl | rfl
              · have := (Array.getElem?_eq_some_iff.1 hs).2; simpa using this
              · have := (Array.getElem?_eq_some_iff.1 hx).2; simpa using this
          have hat : argTypes = #[ty, ty2] := by
            apply Array.ext
            · simp [h3]
            · intro i hi1 hi2
              have : i = 0 ∨ i = 1 := by omega
              rcases this with rfl | rfl
              · have := (Array.getElem?_eq_some_iff.1 hty).2; simpa using this
              · have := (Array.getElem?_eq_some_iff.1 hty2).2; simpa using this
          exact .inl (sound_append ho ha hat hd hd2 hd2' hn hb h1 hs' hx' e H t)
        · cases hc
      | copy =>
        simp only [compOp, ho, Option.bind_eq_bind, Option.bind_eq_some_iff] at hc
        obtain ⟨ty, hty, d, hd, hc⟩ := hc
        split at hc
        · simp only [Option.bind_eq_some_iff, Option.some.injEq] at hc
          obtain ⟨n, hn, x, hx, x', hx', y, hy, y', hy', hop⟩ := hc
          subst hop
          exact .inl (sound_copy ho hty hx hy hd hn hx' hy' e H t)
        · cases hc
      | min =>
        simp only [compOp, ho, Option.bind_eq_bind, Option.bind_eq_some_iff, Option.some.injEq] at hc
        obtain ⟨ys, hys, hop⟩ := hc
        subst hop
        exact .inl (sound_minmax (g := false) ho hys e H t)
      | max =>
        simp only [compOp, ho, Option.bind_eq_bind, Option.bind_eq_some_iff, Option.some.injEq] at hc
        obtain ⟨ys, hys, hop⟩ := hc
        subst hop
        exact .inl (sound_minmax (g := true) ho hys e H t)
      | _ => simp [compOp, ho] at hc
  | _ => simp [compOp, ho] at hc
end
end Go.Abs
