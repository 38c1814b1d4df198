/- Operations that leave the world alone: numbers, strings, comparisons, parts. -/
import Derived.Test.YtcfjhdhpofomjaaGreatDoorAbsInts
set_option linter.unusedSectionVars false
set_option linter.unusedSimpArgs false
set_option linter.unusedVariables false
set_option linter.constructorNameAsVariable false
namespace Go.Abs
variable [Env] [Fr]
open Go.RowKit

section
variable {P : Program} {N : Nat} {w0 w : World} {φ : Phi} {h h' : Hp} {tm : T AV} {a : Act} {o : Oper} {op : AOp} {v : AV} {call : Cl}

theorem guard_scalar (bo : BinOp) (t : TypeId) (x y : Operand) (u z : Value) (hu : (∃ k n, u = .int k n) ∨ (∃ s, u = .string s) ∨ (∃ b, u = .bool b)) : eqGuard bo t x y u z = pure () := by
  rcases hu with ⟨k, n, rfl⟩ | ⟨s, rfl⟩ | ⟨b, rfl⟩ <;> cases bo <;> rfl

theorem binV_some {bo : BinOp} {x y : AV} {v : AV} (e : binV bo x y = some v) :
    (∃ k p j q, x = .i k p ∧ y = .i j q ∧ binII bo k p j q = some v) ∨ (∃ la p lb q, x = .s la p ∧ y = .s lb q ∧ binS bo la p lb q = some v) := by
  unfold binV at e
  split at e
  · rw [forceB_eq] at e; exact .inl ⟨_, _, _, _, rfl, rfl, e⟩
  · rw [forceB_eq] at e; exact .inr ⟨_, _, _, _, rfl, rfl, e⟩
  · cases e
theorem binII_kind {bo : BinOp} {k j : IntKind} {p q : Int} {v : AV} (e : binII bo k p j q = some v) (hs : ¬ (bo = .shl ∨ bo = .shr)) : k = j := by
  have : cnd (kindEq k j) (binI bo k p q) none = some v := by
    cases bo <;> first | exact e | exact absurd (.inl rfl) hs | exact absurd (.inr rfl) hs
  exact kindEq_true (cnd_eq_some this).1
theorem sound_bin {bo : BinOp} {ty ty' : TypeId} {x y : Operand} {x' y' : AX} (ho : o.op = .binOp bo ty x y ty') (hx' : axOf x = some x') (hy' : axOf y = some y')
    (e : evOp call (.bin bo x' y') tm h = .ok v h') (H : HRel N w0 φ h w) (t : TRel φ tm a) : OpOK P N w0 φ h w (execOp a.eval o) v h' := by
  have e1 : onO (ax tm x') .no (fun a => onO (ax tm y') .no fun b => rv h (binV bo a b)) = .ok v h' := e
  obtain ⟨u, hu, e2⟩ := onO_eq_ok e1
  obtain ⟨z, hz, e3⟩ := onO_eq_ok e2
  obtain ⟨e4, hh⟩ := rv_ok e3
  subst hh
  have ru := t.ax hx' hu
  have rz := t.ax hy' hz
  generalize hcu : a.eval x = cu at ru
  generalize hcz : a.eval y = cz at rz
  have fin : (∃ y', (binOp bo ty cu cz).run P w = .ok y' w ∧ VRel φ v y') → ((∃ k n, cu = .int k n) ∨ (∃ s, cu = .string s) ∨ (∃ b, cu = .bool b)) → OpOK P N w0 φ h' w (execOp a.eval o) v h' := by
    rintro ⟨y', k1, k2⟩ hs
    refine OpOK.same H ?_ k2
    simp only [execOp, ho, hcu, hcz]
    refine run_value ?_
    rw [guard_scalar _ _ _ _ _ _ hs, Sem.run_bind, Sem.run_pure, Result.andThen_ok, k1]
  rcases binV_some e4 with ⟨k, p, j, q, hu', hz', e5⟩ | ⟨la, p, lb, q, hu', hz', e5⟩
  · subst hu' hz'
    cases ru; cases rz
    refine fin ?_ (.inl ⟨_, _, rfl⟩)
    by_cases hs : bo = .shl ∨ bo = .shr
    · exact shift_run e5 hs ty w φ
    · have hk := binII_kind e5 hs
      subst hk
      exact binI_run e5 (fun e => hs (.inl e)) (fun e => hs (.inr e)) ty w φ
  · subst hu' hz'
    cases ru; cases rz
    exact fin (binS_run e5 ty w φ) (.inr (.inl ⟨_, rfl⟩))

theorem binbV_some {neg : Bool} {x y v : AV} (e : binbV neg x y = some v) : ∃ b c, x = .b b ∧ y = .b c ∧ v = .b (cnd neg (!bEq b c) (bEq b c)) := by
  unfold binbV at e
  split at e
  · rw [boolV_eq] at e; cases e; exact ⟨_, _, rfl, rfl, rfl⟩
  · cases e
theorem sound_binb {bo : BinOp} {neg : Bool} {ty ty' : TypeId} {x y : Operand} {x' y' : AX} (ho : o.op = .binOp bo ty x y ty') (hbo : bo = if neg then .neq else .eql) (hd : P.underlying ty = some .bool)
    (hx' : axOf x = some x') (hy' : axOf y = some y') (e : evOp call (.binb neg x' y') tm h = .ok v h') (H : HRel N w0 φ h w) (t : TRel φ tm a) : OpOK P N w0 φ h w (execOp a.eval o) v h' := by
  have e1 : onO (ax tm x') .no (fun a => onO (ax tm y') .no fun b => rv h (binbV neg a b)) = .ok v h' := e
  obtain ⟨u, hu, e2⟩ := onO_eq_ok e1
  obtain ⟨z, hz, e3⟩ := onO_eq_ok e2
  obtain ⟨e4, hh⟩ := rv_ok e3
  subst hh
  obtain ⟨b, c, hu', hz', hv'⟩ := binbV_some e4
  subst hu' hz' hv'
  have ru := t.ax hx' hu
  have rz := t.ax hy' hz
  generalize hcu : a.eval x = cu at ru
  generalize hcz : a.eval y = cz at rz
  cases ru; cases rz
  refine OpOK.same H (y := .bool (cnd neg (!bEq b c) (bEq b c))) ?_ (.b _)
  simp only [execOp, ho, hcu, hcz]
  refine run_value ?_
  rw [guard_scalar _ _ _ _ _ _ (.inr (.inr ⟨_, rfl⟩)), Sem.run_bind, Sem.run_pure, Result.andThen_ok]
  have hq : (Op.equal ty (.bool b) (.bool c)).run P w = .ok (b == c) w := by
    unfold Op.equal Op.maxDepth; exact run_equalIn_bool' w 9999 ty b c hd
  cases neg
  · rw [hbo]
    show (do pure (Value.bool (← Op.equal ty (.bool b) (.bool c))) : Sem Value).run P w = _
    rw [Sem.run_bind, hq, bEq_eq]; rfl
  · rw [hbo]
    show (do pure (Value.bool (!(← Op.equal ty (.bool b) (.bool c)))) : Sem Value).run P w = _
    rw [Sem.run_bind, hq, bEq_eq]; rfl

/-- What a comparison with nil answers. -/
theorem nil_run {c : Nat} {u z : AV} {cu cz : Value} {r : Bool} (hr : isNilCmp c u z = some r) (ru : VRel φ u cu) (rz : VRel φ z cz) {ty : TypeId} {d : TypeDesc} (hd : P.underlying ty = some d)
    (hcd : (c = 0 ∧ ∃ e, d = .pointer e) ∨ (c = 1 ∧ ∃ e, d = .slice e) ∨ (c = 2 ∧ ∃ a b f, d = .func a b f)) (n : Nat) (w : World) :
    (Op.equalIn (n + 1) ty cu cz).run P w = .ok r w ∧ (∀ bo x y, eqGuard bo ty x y cu cz = pure ()) ∧
    (∀ (z : Bool), binOp (if z then .neq else .eql) ty cu cz = if z then (do pure (.bool (!(← Op.equal ty cu cz)))) else (do pure (.bool (← Op.equal ty cu cz)))) := by
  unfold isNilCmp at hr
  split at hr <;> first | (cases hr; done) | skip
  all_goals
    simp only [Option.some.injEq] at hr; subst hr
    rcases hcd with ⟨hc, e', hd'⟩ | ⟨hc, e', hd'⟩ | ⟨hc, e1, e2, e3, hd'⟩ <;> first | (cases hc; done) | skip
    subst hd'
    cases ru <;> cases rz <;>
    · refine ⟨?_, (by intro bo x y; cases bo <;> rfl), (by intro z; cases z <;> rfl)⟩
      simp only [Op.equalIn, Sem.run_bind, under_run hd, Result.andThen_ok]
      rfl
theorem sound_cmpn {bo : BinOp} {neg : Bool} {c : Nat} {ty ty' : TypeId} {d : TypeDesc} {x y : Operand} {x' y' : AX} (ho : o.op = .binOp bo ty x y ty') (hbo : bo = if neg then .neq else .eql) (hd : P.underlying ty = some d)
    (hcd : (c = 0 ∧ ∃ e, d = .pointer e) ∨ (c = 1 ∧ ∃ e, d = .slice e) ∨ (c = 2 ∧ ∃ a b f, d = .func a b f))
    (hx' : axOf x = some x') (hy' : axOf y = some y') (e : evOp call (.cmpn c neg x' y') tm h = .ok v h') (H : HRel N w0 φ h w) (t : TRel φ tm a) : OpOK P N w0 φ h w (execOp a.eval o) v h' := by
  have e1 : oCmpn tm h c neg x' y' = .ok v h' := e
  unfold oCmpn at e1
  obtain ⟨u, hu, e2⟩ := onO_eq_ok e1
  obtain ⟨z, hz, e3⟩ := onO_eq_ok e2
  obtain ⟨r, hr, e4⟩ := onO_eq_ok e3
  rw [boolV_eq] at e4
  cases e4
  have ru := t.ax hx' hu
  have rz := t.ax hy' hz
  obtain ⟨k2, k1, k3⟩ := nil_run hr ru rz hd hcd 9999 w
  have k2 : (Op.equal ty (a.eval x) (a.eval y)).run P w = .ok r w := k2
  refine OpOK.same H (y := .bool (cnd neg (!r) r)) ?_ (.b _)
  simp only [execOp, ho]
  refine run_value ?_
  rw [k1, Sem.run_bind, Sem.run_pure, Result.andThen_ok, hbo, k3]
  cases neg
  · simp only [Bool.false_eq_true, if_false, Sem.run_bind, k2]; rfl
  · simp only [if_true, Sem.run_bind, k2]; rfl

theorem unV_some {uo : UnOp} {x v : AV} (e : unV uo x = some v) : (∃ b, uo = .not ∧ x = .b b ∧ v = .b (!b)) ∨ (∃ k n, uo = .neg ∧ x = .i k n ∧ v = .i k (k.wrap (0 - n))) := by
  unfold unV at e
  split at e
  · cases e; exact .inl ⟨true, rfl, rfl, rfl⟩
  · cases e; exact .inl ⟨false, rfl, rfl, rfl⟩
  · rw [forceI_eq] at e; cases e
    refine .inr ⟨_, _, rfl, rfl, ?_⟩
    congr 2
    exact (Int.zero_sub _).symm
  · cases e
theorem sound_un {uo : UnOp} {ty : TypeId} {x : Operand} (ho : o.op = .unOp uo ty x) (hc : compOp P o = some op) (e : evOp call op tm h = .ok v h')
    (H : HRel N w0 φ h w) (t : TRel φ tm a) : OpOK P N w0 φ h w (execOp a.eval o) v h' := by
  simp only [compOp, ho, Option.bind_eq_bind, Option.bind_eq_some_iff, Option.some.injEq] at hc
  obtain ⟨x', hx', hop⟩ := hc
  subst hop
  have e1 : onO (ax tm x') .no (fun a => rv h (unV uo a)) = .ok v h' := e
  obtain ⟨u, hu, e2⟩ := onO_eq_ok e1
  obtain ⟨e3, hh⟩ := rv_ok e2
  subst hh
  have ru := t.ax hx' hu
  generalize hcu : a.eval x = cu at ru
  rcases unV_some e3 with ⟨b, h1, h2, h3⟩ | ⟨k, n, h1, h2, h3⟩
  · subst h1 h2 h3; cases ru
    exact OpOK.same H (y := .bool (!b)) (by simp only [execOp, ho, hcu]; exact run_value rfl) (.b _)
  · subst h1 h2 h3; cases ru
    exact OpOK.same H (y := .int k (k.wrap (0 - n))) (by simp only [execOp, ho, hcu]; exact run_value rfl) (.i _ _)

theorem sound_conv {s d : TypeId} {k : IntKind} {x : Operand} {x' : AX} (ho : o.op = .convert s d x) (hs : ∃ u, P.underlying s = some u) (hd : P.underlying d = some (.int k)) (hx' : axOf x = some x')
    (e : evOp call (.conv k x') tm h = .ok v h') (H : HRel N w0 φ h w) (t : TRel φ tm a) : OpOK P N w0 φ h w (execOp a.eval o) v h' := by
  have e : oConv tm h k x' = .ok v h' := e
  unfold oConv at e
  split at e
  · rename_i j n hu
    obtain ⟨e, rfl⟩ := rv_ok e
    rw [forceI_eq] at e; cases e
    have ru := t.ax hx' hu
    generalize hcu : a.eval x = cu at ru
    cases ru
    obtain ⟨u, hs⟩ := hs
    refine OpOK.same H (y := .int k (k.wrap n)) ?_ (.i _ _)
    simp only [execOp, ho, hcu]
    refine run_value ?_
    simp only [convert, Sem.run_bind, under_run hs, under_run hd, Result.andThen_ok]
    rfl
  · cases e

theorem sound_ids {s d : TypeId} {x : Operand} {x' : AX} (ho : o.op = .convert s d x) (hs : P.underlying s = some .string) (hd : P.underlying d = some .string) (hx' : axOf x = some x')
    (e : evOp call (.ids x') tm h = .ok v h') (H : HRel N w0 φ h w) (t : TRel φ tm a) : OpOK P N w0 φ h w (execOp a.eval o) v h' := by
  obtain ⟨l, n, hu, e⟩ := onS_ok (show onS (ax tm x') _ = _ from e)
  cases e
  have ru := t.ax hx' hu
  generalize hcu : a.eval x = cu at ru
  have r0 := ru
  cases ru
  refine OpOK.same H ?_ r0
  simp only [execOp, ho, hcu]
  exact run_value (by simp [convert, under_run hs, under_run hd])

theorem listTakeDrop {l : List UInt8} {m n : Nat} (hm : m ≤ n) (hn : n ≤ l.length) :
    AV.s (n - m) (strN l / 256 ^ m % 256 ^ (n - m)) = .s ((l.drop m).take (n - m)).length (strN ((l.drop m).take (n - m))) := by
  rw [strN_div, strN_mod]
  congr 1
  simp; omega

theorem sound_slcs {ty : TypeId} {x : Operand} {lo hi : Option Operand} (ho : o.op = .slice ty x lo hi none) (hd : P.underlying ty = some .string) (hc : compOp P o = some op) (e : evOp call op tm h = .ok v h')
    (H : HRel N w0 φ h w) (t : TRel φ tm a) : OpOK P N w0 φ h w (execOp a.eval o) v h' := by
  simp only [compOp, ho, Option.bind_eq_bind, hd, Option.bind_some, Option.bind_eq_some_iff, Option.some.injEq] at hc
  obtain ⟨x', hx', lo', hlo, hi', hhi, rfl⟩ := hc
  obtain ⟨l, n, hu, e⟩ := onS_ok (show onS (ax tm x') _ = _ from e)
  obtain ⟨m, hm, e⟩ := onO_eq_ok e
  obtain ⟨k, hk, e⟩ := onO_eq_ok e
  obtain ⟨c1, e⟩ := cnd_eq_ok e
  obtain ⟨c2, e⟩ := cnd_eq_ok e
  rw [forceN_eq, forceN_eq] at e
  cases e
  have c1 := ble_true c1
  have c2 := ble_true c2
  have ru := t.ax hx' hu
  generalize hcu : a.eval x = cu at ru
  cases ru with
  | s bs =>
  have b1 : ∃ l1, BoundOf a lo l1 ∧ l1.getD 0 = m := by
    cases lo with
    | none =>
      simp only [axO, Option.some.injEq] at hlo; subst hlo
      have : some 0 = some m := hm
      cases this; exact ⟨none, trivial, rfl⟩
    | some q =>
      simp only [axO, Option.map_eq_some_iff] at hlo
      obtain ⟨q', hq, rfl⟩ := hlo
      exact ⟨some m, t.int hq (show axN tm q' = some m from hm), rfl⟩
  have b2 : ∃ l1, BoundOf a hi l1 ∧ l1.getD bs.length = k := by
    cases hi with
    | none =>
      simp only [axO, Option.some.injEq] at hhi; subst hhi
      have : some bs.length = some k := hk
      cases this; exact ⟨none, trivial, rfl⟩
    | some q =>
      simp only [axO, Option.map_eq_some_iff] at hhi
      obtain ⟨q', hq, rfl⟩ := hhi
      exact ⟨some k, t.int hq (show axN tm q' = some k from hk), rfl⟩
  obtain ⟨l1, b1, g1⟩ := b1
  obtain ⟨l2, b2, g2⟩ := b2
  have hsz : (ByteArray.mk bs.toArray).size = bs.length := by simp [ByteArray.size]
  refine OpOK.same H (y := .string ⟨((bs.drop m).take (k - m)).toArray⟩) ?_ ?_
  · simp only [execOp, ho, hcu]
    refine run_value ?_
    have hb := sliceBounds_run (P := P) (mx := none) (m := none) b1 b2 trivial false bs.length bs.length (fun x hx => nomatch hx) (fun x hx => nomatch hx) (.inl (by rw [g2]; exact c1)) (by rw [g1, g2]; exact c2) w
    rw [g1, g2] at hb
    simp only [Instr.sliceAt, Instr.slice, Sem.run_bind, under_run hd, Result.andThen_ok, hsz, Option.map_none] at hb ⊢
    simp only [Option.isSome_none, Bool.false_eq_true, if_false, Sem.run_pure, Result.andThen_ok, hb, Sem.run_bind]
    congr 2
    apply ByteArray.ext
    simp
  · have := listTakeDrop (l := bs) c2 c1
    show VRel φ (.s (k - m) (strN bs / 256 ^ m % 256 ^ (k - m))) _
    rw [this]; exact .s _

theorem sound_indexs {ty : TypeId} {x i : Operand} (ho : o.op = .index ty x i) (hd : P.underlying ty = some .string) (hc : compOp P o = some op) (e : evOp call op tm h = .ok v h')
    (H : HRel N w0 φ h w) (t : TRel φ tm a) : OpOK P N w0 φ h w (execOp a.eval o) v h' := by
  simp only [compOp, ho, Option.bind_eq_bind, hd, Option.bind_some, Option.bind_eq_some_iff, Option.some.injEq] at hc
  obtain ⟨x', hx', i', hi', rfl⟩ := hc
  obtain ⟨l, n, hu, e⟩ := onS_ok (show onS (ax tm x') _ = _ from e)
  obtain ⟨j, hj, e⟩ := onO_eq_ok e
  obtain ⟨c1, e⟩ := cnd_eq_ok e
  rw [forceN_eq] at e
  cases e
  have c1 := blt_true c1
  have ru := t.ax hx' hu
  obtain ⟨k, hik⟩ := t.int hi' hj
  generalize hcu : a.eval x = cu at ru
  cases ru with
  | s bs =>
  refine OpOK.same H (y := .int .u8 bs[j].toNat) ?_ ?_
  · simp only [execOp, ho, hcu, hik]
    refine run_value ?_
    have h2 : (ByteArray.mk bs.toArray)[j]? = some bs[j] := by
      rw [getElem?_pos (ByteArray.mk bs.toArray) j (by simpa [ByteArray.size] using c1)]
      rfl
    simp [Instr.index, asIntOf, under_run hd, h2]
  · show VRel φ (.i .u8 (.ofNat (strN bs / 256 ^ j % 256))) _
    rw [strN_get bs j c1]; exact .i _ _
end
end Go.Abs
