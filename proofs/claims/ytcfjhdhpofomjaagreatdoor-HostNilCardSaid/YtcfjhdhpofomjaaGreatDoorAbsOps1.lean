/- Operations that leave the world alone. -/
import Derived.Test.YtcfjhdhpofomjaaGreatDoorAbsAx
set_option linter.unusedSectionVars false
set_option linter.unusedSimpArgs false
set_option linter.unusedVariables false
set_option linter.constructorNameAsVariable false
namespace Go.Abs
variable [Env] [Fr]
open Go.RowKit

/-- The operation comes to what the abstract machine's comes to. -/
def OpOK (P : Program) (N : Nat) (w0 : World) (φ : Phi) (h : Hp) (w : World) (s : Sem Next) (v : AV) (h' : Hp) : Prop :=
  ∃ r w' φ', s.run P w = .ok r w' ∧ ((∃ y, r = .value y ∧ VRel φ' v y) ∨ (r = .skip ∧ v = .tup [])) ∧ Ext φ φ' ∧ HRel N w0 φ' h' w' ∧ Keep φ φ' h h'

section
variable {P : Program} {N : Nat} {w0 w : World} {φ : Phi} {h h' : Hp} {tm : T AV} {a : Act} {o : Oper} {op : AOp} {v : AV} {call : Cl}

theorem OpOK.same (H : HRel N w0 φ h w) {s : Sem Next} {y : Value} (hs : s.run P w = .ok (.value y) w) (hv : VRel φ v y) : OpOK P N w0 φ h w s v h :=
  ⟨_, _, φ, hs, .inl ⟨y, rfl, hv⟩, Ext.refl φ, H, Keep.refl φ h⟩
theorem rv_ok {x : Option AV} (e : rv h x = .ok v h') : x = some v ∧ h' = h := by
  unfold rv at e
  obtain ⟨u, h1, h2⟩ := onO_eq_ok e
  cases h2; exact ⟨h1, rfl⟩
theorem onP_ok {x : Option AV} {k : Pth → Nat → Rv} (e : onP x k = .ok v h') : ∃ b o, x = some (.p b o) ∧ k b o = .ok v h' := by
  unfold onP at e; split at e
  · exact ⟨_, _, rfl, e⟩
  · cases e
theorem onS_ok {x : Option AV} {k : Nat → Nat → Rv} (e : onS x k = .ok v h') : ∃ l n, x = some (.s l n) ∧ k l n = .ok v h' := by
  unfold onS at e; split at e
  · exact ⟨_, _, rfl, e⟩
  · cases e
theorem onSl_ok {x : Option AV} {k : Pth → Nat → Nat → Nat → Rv} (e : onSl x k = .ok v h') : ∃ b o l c, x = some (.sl b o l c) ∧ k b o l c = .ok v h' := by
  unfold onSl at e; split at e
  · exact ⟨_, _, _, _, rfl, e⟩
  · cases e
theorem onAgg_ok {x : Option AV} {k : List AV → Rv} (e : onAgg x k = .ok v h') : ∃ l, x = some (.agg l) ∧ k l = .ok v h' := by
  unfold onAgg at e; split at e
  · exact ⟨_, rfl, e⟩
  · cases e

theorem run_value {s : Sem Value} {y : Value} {w' : World} (hs : s.run P w = .ok y w') : (do pure (Next.value (← s)) : Sem Next).run P w = .ok (.value y) w' := by
  rw [Sem.run_bind, hs]; rfl
theorem run_skip {s : Sem Unit} {w' : World} (hs : s.run P w = .ok () w') : (do s; pure Next.skip : Sem Next).run P w = .ok .skip w' := by
  rw [Sem.run_bind, hs]; rfl

theorem under_run {t : TypeId} {d : TypeDesc} (h : P.underlying t = some d) (w : World) : (underlying t).run P w = .ok d w := run_underlying h w
theorem sizeOf_run {t : TypeId} {n : Nat} (h : sz P t = some n) (w : World) : (sizeOf t).run P w = .ok n w := by
  unfold sz at h
  cases e : P.info? t with
  | none => simp [e] at h
  | some i =>
    simp [e] at h
    simp [sizeOf, typeInfo, e, h]
theorem isAgg_run {t : TypeId} {b : Bool} (h : isAggT P t = some b) (w : World) : (isAgg t).run P w = .ok b w := by
  unfold isAggT at h
  cases e : P.underlying t with
  | none => simp [e] at h
  | some d =>
    simp only [isAgg, Sem.run_bind, under_run e, Result.andThen_ok]
    cases d <;> simp_all

/- An operand in a compiled operation. -/
theorem sound_mov {x : Operand} (ho : o.op = .move x ∨ o.op = .assign x) (hc : compOp P o = some op) (e : evOp call op tm h = .ok v h')
    (H : HRel N w0 φ h w) (t : TRel φ tm a) : OpOK P N w0 φ h w (execOp a.eval o) v h' := by
  have hc' : ∃ y, axOf x = some y ∧ op = .mov y := by
    rcases ho with ho | ho <;>
    · simp only [compOp, ho, Option.bind_eq_bind, Option.bind_eq_some_iff] at hc
      obtain ⟨y, h1, h2⟩ := hc; cases h2; exact ⟨y, h1, rfl⟩
  obtain ⟨y, hy, rfl⟩ := hc'
  obtain ⟨h1, rfl⟩ := rv_ok (show rv h (ax tm y) = .ok v h' from e)
  refine OpOK.same H (y := a.eval x) ?_ (t.ax hy h1)
  rcases ho with ho | ho <;> simp [execOp, ho]

theorem sound_pick {c x y : Operand} (ho : o.op = .pick c x y) (hc : compOp P o = some op) (e : evOp call op tm h = .ok v h')
    (H : HRel N w0 φ h w) (t : TRel φ tm a) : OpOK P N w0 φ h w (execOp a.eval o) v h' := by
  simp only [compOp, ho, Option.bind_eq_bind, Option.bind_eq_some_iff, Option.some.injEq] at hc
  obtain ⟨c', hc', x', hx', y', hy', rfl⟩ := hc
  have e : oPick tm h c' x' y' = .ok v h' := e
  unfold oPick at e
  split at e
  · rename_i b hb
    have hcv := t.ax hc' hb
    generalize hce : a.eval c = cv at hcv
    cases hcv
    cases b
    · obtain ⟨h1, rfl⟩ := rv_ok (show rv h (ax tm y') = .ok v h' from e)
      exact OpOK.same H (by simp [execOp, ho, hce, asBool]) (t.ax hy' h1)
    · obtain ⟨h1, rfl⟩ := rv_ok (show rv h (ax tm x') = .ok v h' from e)
      exact OpOK.same H (by simp [execOp, ho, hce, asBool]) (t.ax hx' h1)
  · cases e

theorem sound_nilck {x : Operand} (ho : o.op = .nilCheck x) (hc : compOp P o = some op) (e : evOp call op tm h = .ok v h')
    (H : HRel N w0 φ h w) (t : TRel φ tm a) : OpOK P N w0 φ h w (execOp a.eval o) v h' := by
  simp only [compOp, ho, Option.bind_eq_bind, Option.bind_eq_some_iff, Option.some.injEq] at hc
  obtain ⟨x', hx', rfl⟩ := hc
  have e : oNilck tm h x' = .ok v h' := e
  unfold oNilck at e
  split at e <;> cases e
  · rename_i b o' hb
    have hv := t.ax hx' hb
    generalize hce : a.eval x = cv at hv
    have hv0 := hv
    cases hv
    exact OpOK.same H (by simp [execOp, ho, hce]) hv0
  · rename_i f b c hb
    have hv := t.ax hx' hb
    generalize hce : a.eval x = cv at hv
    have hv0 := hv
    cases hv
    exact OpOK.same H (by simp [execOp, ho, hce]) hv0

theorem sound_ext {x : Operand} {i : Nat} (ho : o.op = .extract x i) (hc : compOp P o = some op) (e : evOp call op tm h = .ok v h')
    (H : HRel N w0 φ h w) (t : TRel φ tm a) : OpOK P N w0 φ h w (execOp a.eval o) v h' := by
  simp only [compOp, ho, Option.bind_eq_bind, Option.bind_eq_some_iff, Option.some.injEq] at hc
  obtain ⟨x', hx', rfl⟩ := hc
  have e : oExt tm h x' i = .ok v h' := e
  unfold oExt at e
  split at e
  · rename_i l hb
    have hv := t.ax hx' hb
    generalize hce : a.eval x = cv at hv
    cases hv
    rename_i l' hl
    obtain ⟨h1, rfl⟩ := rv_ok e
    rw [listGet_eq] at h1
    obtain ⟨y, hy, hr⟩ := hl.get h1
    refine OpOK.same H ?_ hr
    simp only [execOp, ho, hce]
    exact run_value (by simp [Instr.extract, hy])
  · cases e

theorem sound_mkfn {f : Nat} {first captured : Array Operand} (ho : o.op = .makeFunc (.func f) first captured) (hc : compOp P o = some op) (e : evOp call op tm h = .ok v h')
    (H : HRel N w0 φ h w) (t : TRel φ tm a) : OpOK P N w0 φ h w (execOp a.eval o) v h' := by
  simp only [compOp, ho, Option.bind_eq_bind, Option.bind_eq_some_iff, Option.some.injEq] at hc
  obtain ⟨x', hx', y', hy', rfl⟩ := hc
  have e : oMkfn tm h f x' y' = .ok v h' := e
  unfold oMkfn at e
  obtain ⟨l1, e1, e⟩ := onO_eq_ok e
  obtain ⟨l2, e2, e⟩ := onO_eq_ok e
  cases e
  have h1 := t.axs hx' e1
  have h2 := t.axs hy' e2
  refine OpOK.same H (y := .func (.func f) (first.map a.eval) (captured.map a.eval)) ?_ ?_
  · simp only [execOp, ho]; exact run_value rfl
  · have k1 : first.map a.eval = ⟨first.toList.map a.eval⟩ := by apply Array.ext'; simp
    have k2 : captured.map a.eval = ⟨captured.toList.map a.eval⟩ := by apply Array.ext'; simp
    rw [k1, k2]; exact .fn h1 h2

theorem sound_fld {ty : TypeId} {x : Operand} {f : Nat} (ho : o.op = .fieldAddr ty x f) (hc : compOp P o = some op) (e : evOp call op tm h = .ok v h')
    (H : HRel N w0 φ h w) (t : TRel φ tm a) : OpOK P N w0 φ h w (execOp a.eval o) v h' := by
  simp only [compOp, ho, Option.bind_eq_bind, Option.bind_eq_some_iff] at hc
  obtain ⟨d, hd, hc⟩ := hc
  split at hc
  · rename_i fs
    split at hc
    · rename_i g hg
      simp only [Option.bind_eq_some_iff] at hc
      obtain ⟨n, hn, hc⟩ := hc
      split at hc
      · cases hc
      · rename_i hn0
        simp only [Option.bind_eq_some_iff, Option.some.injEq] at hc
        obtain ⟨x', hx', rfl⟩ := hc
        obtain ⟨b, q, hb, e⟩ := onP_ok (show onP (ax tm x') _ = _ from e)
        rw [forceN_eq] at e
        cases e
        have hv := t.ax hx' hb
        generalize hce : a.eval x = cv at hv
        cases hv
        rename_i L hL
        refine OpOK.same H (y := .pointer (some ⟨L.blk, L.base + (q + g.offset), none⟩)) ?_ (.p hL)
        simp only [execOp, ho, hce]
        refine run_value ?_
        simp only [Instr.fieldAt, Sem.run_bind, under_run hd, Result.andThen_ok, hg, Instr.sureAddr, Sem.run_pure, fieldPlace, sizeOf_run hn, if_neg hn0, add_addr, Nat.add_assoc]
    · cases hc
  · cases hc

theorem blt_true {a b : Nat} (h : Nat.blt a b = true) : a < b := blt_iff.1 h
theorem axN_some {x : AX} {n : Nat} (e : axN tm x = some n) : ∃ k, ax tm x = some (.i k (.ofNat n)) := by
  unfold axN at e
  obtain ⟨u, h1, h2⟩ := onO_eq_some e
  unfold asN at h2
  split at h2
  · cases h2; exact ⟨_, h1⟩
  · cases h2
theorem TRel.int (t : TRel φ tm a) {x : Operand} {y : AX} (hx : axOf x = some y) {n : Nat} (e : axN tm y = some n) : ∃ k, a.eval x = .int k (n : Int) := by
  obtain ⟨k, h1⟩ := axN_some e
  have := t.ax hx h1
  generalize a.eval x = cv at this
  cases this
  exact ⟨k, rfl⟩

theorem sound_idx {ty : TypeId} {x i : Operand} (ho : o.op = .indexAddr ty x i) (hc : compOp P o = some op) (e : evOp call op tm h = .ok v h')
    (H : HRel N w0 φ h w) (t : TRel φ tm a) : OpOK P N w0 φ h w (execOp a.eval o) v h' := by
  simp only [compOp, ho, Option.bind_eq_bind, Option.bind_eq_some_iff] at hc
  obtain ⟨d, hd, hc⟩ := hc
  split at hc
  · rename_i el
    simp only [Option.bind_eq_some_iff, Option.some.injEq] at hc
    obtain ⟨x', hx', i', hi', n, hn, rfl⟩ := hc
    obtain ⟨b, q, len, cap, hb, e⟩ := onSl_ok (show onSl (ax tm x') _ = _ from e)
    obtain ⟨j, hj, e⟩ := onO_eq_ok e
    obtain ⟨hlt, e⟩ := cnd_eq_ok e
    rw [forceN_eq] at e
    cases e
    have hlt := blt_true hlt
    have hv := t.ax hx' hb
    obtain ⟨k, hik⟩ := t.int hi' hj
    generalize hce : a.eval x = cv at hv
    cases hv with
    | sl hL hcap hle hr =>
      rename_i c L
      refine OpOK.same H (y := .pointer (some ⟨L.blk, L.base + (q + j * n), none⟩)) ?_ (.p hL)
      simp only [execOp, ho, hce, hik]
      refine run_value ?_
      have h1 : ((0 : Int) ≤ (j : Int) ∧ (j : Int) < (len : Int)) := by omega
      simp [Instr.indexAt, asIntOf, under_run hd, h1, sizeOf_run hn, add_addr, Nat.add_assoc, hlt]
    | sl0 => omega
  · rename_i m el
    simp only [Option.bind_eq_some_iff, Option.some.injEq] at hc
    obtain ⟨x', hx', i', hi', n, hn, rfl⟩ := hc
    obtain ⟨b, q, hb, e⟩ := onP_ok (show onP (ax tm x') _ = _ from e)
    obtain ⟨j, hj, e⟩ := onO_eq_ok e
    obtain ⟨hlt, e⟩ := cnd_eq_ok e
    rw [forceN_eq] at e
    cases e
    have hlt := blt_true hlt
    have hv := t.ax hx' hb
    obtain ⟨k, hik⟩ := t.int hi' hj
    generalize hce : a.eval x = cv at hv
    cases hv with
    | p hL =>
      rename_i L
      refine OpOK.same H (y := .pointer (some ⟨L.blk, L.base + (q + j * n), none⟩)) ?_ (.p hL)
      simp only [execOp, ho, hce, hik]
      refine run_value ?_
      simp [Instr.indexAt, asIntOf, under_run hd, Instr.sureAddr, sizeOf_run hn, add_addr, Nat.add_assoc, hlt]
  · cases hc
end
end Go.Abs
