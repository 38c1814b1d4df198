/- Lengths, parts of aggregates, loads. -/
import Derived.Test.YtcfjhdhpofomjaaGreatDoorAbsOps3
import Derived.Laws.Small
import Derived.Laws.BytesString
set_option linter.unusedSectionVars false
set_option linter.unusedSimpArgs false
set_option linter.unusedVariables false
set_option linter.constructorNameAsVariable false
namespace Go.Abs
variable [Env] [Fr]
open Go.RowKit

section
variable {P : Program} {N : Nat} {w0 w : World} {φ : Phi} {h h' : Hp} {tm : T AV} {a : Act} {o : Oper} {op : AOp} {v : AV} {call : Cl}

/-- A call of a builtin that comes to a value. -/
theorem run_builtin {b : Builtin} {args : Array Operand} {argTypes : Array TypeId} (ho : o.op = .call { callee := .builtin b, args, argTypes }) (ρ : Operand → Value) (w : World) :
    ∃ cs, (execOp ρ o).run P w = (builtin b argTypes o.type cs (args.map ρ)).run P w := by
  simp only [execOp, ho, resolve, Sem.run_bind, Sem.run_pure, Result.andThen_ok, invoke]
  exact ⟨_, rfl⟩

theorem axsOf_cons {xs : List Operand} {y : AX} {ys : List AX} (h : axsOf xs = some (y :: ys)) : ∃ x r, xs = x :: r ∧ axOf x = some y ∧ axsOf r = some ys := by
  cases xs with
  | nil => simp [axsOf] at h
  | cons x r =>
    simp only [axsOf] at h
    cases h1 : axOf x with
    | none => simp [h1] at h
    | some y' => cases h2 : axsOf r with
      | none => simp [h1, h2] at h
      | some k => simp [h1, h2] at h; exact ⟨x, r, rfl, by rw [h1, h.1], by rw [h2, h.2]⟩

theorem getElem_map_eval (args : Array Operand) (i : Nat) {x : Operand} (h : args[i]? = some x) (ρ : Operand → Value) : (args.map ρ)[i]? = some (ρ x) := by simp [h]

theorem sound_lens {x : Operand} {x' : AX} {args : Array Operand} {argTypes : Array TypeId} {ty : TypeId} (ho : o.op = .call { callee := .builtin .len, args, argTypes })
    (hx : args[0]? = some x) (hty : argTypes[0]? = some ty) (hd : P.underlying ty = some .string) (hx' : axOf x = some x') (e : evOp call (.lens x') tm h = .ok v h') (H : HRel N w0 φ h w) (t : TRel φ tm a) :
    OpOK P N w0 φ h w (execOp a.eval o) v h' := by
  obtain ⟨l, n, hu, e1⟩ := onS_ok (show onS (ax tm x') _ = _ from e)
  cases e1
  have ru := t.ax hx' hu
  have hm := getElem_map_eval args 0 hx a.eval
  generalize hcu : a.eval x = cu at ru
  rw [hcu] at hm
  cases ru with
  | s bs =>
  refine OpOK.same H (y := .int .i64 (bs.length : Int)) ?_ (.i _ _)
  obtain ⟨cs, hcs⟩ := run_builtin (P := P) ho a.eval w
  rw [hcs]
  refine run_value ?_
  have hsz : (ByteArray.mk bs.toArray).size = bs.length := by simp [ByteArray.size]
  simp [Builtin.len_, hty, hm, under_run hd, goInt, hsz]
theorem sound_len {x : Operand} {x' : AX} {args : Array Operand} {argTypes : Array TypeId} {ty el : TypeId} (ho : o.op = .call { callee := .builtin .len, args, argTypes })
    (hx : args[0]? = some x) (hty : argTypes[0]? = some ty) (hd : P.underlying ty = some (.slice el)) (hx' : axOf x = some x') (e : evOp call (.len x') tm h = .ok v h') (H : HRel N w0 φ h w) (t : TRel φ tm a) :
    OpOK P N w0 φ h w (execOp a.eval o) v h' := by
  have e1 : oLen tm h x' = .ok v h' := e
  have hm := getElem_map_eval args 0 hx a.eval
  have fin : ∀ (A : Option Addr) (n c : Nat), a.eval x = .slice A n c → h' = h → v = .i .i64 (.ofNat n) → OpOK P N w0 φ h w (execOp a.eval o) v h' := by
    intro A n c hcu hh hv
    subst hh hv
    rw [hcu] at hm
    refine OpOK.same H (y := .int .i64 (n : Int)) ?_ (.i _ _)
    obtain ⟨cs, hcs⟩ := run_builtin (P := P) ho a.eval w
    rw [hcs]
    refine run_value ?_
    simp [Builtin.len_, hty, hm, under_run hd, goInt]
  unfold oLen at e1
  split at e1
  · rename_i hu
    cases e1
    have ru := t.ax hx' hu
    generalize hcu : a.eval x = cu at ru
    cases ru
    exact fin none 0 0 hcu rfl rfl
  · rename_i hu
    cases e1
    have ru := t.ax hx' hu
    generalize hcu : a.eval x = cu at ru
    cases ru
    · exact fin _ _ _ hcu rfl rfl
    · exact fin _ _ _ hcu rfl rfl
  · cases e1
theorem sound_lenc {n : Nat} {x : Operand} {args : Array Operand} {argTypes : Array TypeId} {ty : TypeId} (ho : o.op = .call { callee := .builtin .len, args, argTypes })
    (hx : args[0]? = some x) (hty : argTypes[0]? = some ty)
    (hd : (∃ e, P.underlying ty = some (.array n e)) ∨ (∃ u e, P.underlying ty = some (.pointer u) ∧ P.underlying u = some (.array n e))) (e : evOp call (.lenc n) tm h = .ok v h') (H : HRel N w0 φ h w) :
    OpOK P N w0 φ h w (execOp a.eval o) v h' := by
  have e1 : Rv.ok (.i .i64 (.ofNat n)) h = .ok v h' := e
  cases e1
  have hm := getElem_map_eval args 0 hx a.eval
  refine OpOK.same H (y := .int .i64 (n : Int)) ?_ (.i _ _)
  obtain ⟨cs, hcs⟩ := run_builtin (P := P) ho a.eval w
  rw [hcs]
  refine run_value ?_
  rcases hd with ⟨e, hd⟩ | ⟨u, e, hd, hd2⟩
  · simp [Builtin.len_, hty, hm, under_run hd, goInt]
  · simp [Builtin.len_, hty, hm, under_run hd, under_run hd2, goInt]
theorem sound_cap {x : Operand} {x' : AX} {args : Array Operand} {argTypes : Array TypeId} {ty el : TypeId} (ho : o.op = .call { callee := .builtin .cap, args, argTypes })
    (hx : args[0]? = some x) (hty : argTypes[0]? = some ty) (hd : P.underlying ty = some (.slice el)) (hx' : axOf x = some x') (e : evOp call (.cap x') tm h = .ok v h') (H : HRel N w0 φ h w) (t : TRel φ tm a) :
    OpOK P N w0 φ h w (execOp a.eval o) v h' := by
  have e1 : oCap tm h x' = .ok v h' := e
  have hm := getElem_map_eval args 0 hx a.eval
  have fin : ∀ (A : Option Addr) (n c : Nat), a.eval x = .slice A n c → h' = h → v = .i .i64 (.ofNat c) → OpOK P N w0 φ h w (execOp a.eval o) v h' := by
    intro A n c hcu hh hv
    subst hh hv
    rw [hcu] at hm
    refine OpOK.same H (y := .int .i64 (c : Int)) ?_ (.i _ _)
    obtain ⟨cs, hcs⟩ := run_builtin (P := P) ho a.eval w
    rw [hcs]
    refine run_value ?_
    simp [Builtin.cap_, hty, hm, under_run hd, goInt]
  unfold oCap at e1
  split at e1
  · rename_i hu
    cases e1
    have ru := t.ax hx' hu
    generalize hcu : a.eval x = cu at ru
    cases ru
    exact fin none 0 0 hcu rfl rfl
  · rename_i b q len cap hu
    have hne : cap ≠ UNK ∧ v = .i .i64 (.ofNat cap) ∧ h' = h := by
      cases hq : Nat.beq cap UNK with
      | true => rw [hq] at e1; cases e1
      | false =>
        rw [hq] at e1; cases e1
        exact ⟨(fun e => by rw [e] at hq; cases hq), rfl, rfl⟩
    obtain ⟨hne, hv, hh⟩ := hne
    have ru := t.ax hx' hu
    generalize hcu : a.eval x = cu at ru
    cases ru with
    | sl hL hc hl hr => exact fin _ _ _ hcu hh (by rw [hv, hc.resolve_left hne])
    | sl0 hL hc => exact fin _ _ _ hcu hh (by rw [hv, hc.resolve_left hne])
  · cases e1

/-- A part of an aggregate. -/
theorem part_rel {l : List AV} {l' : List Value} (hr : VRels φ l l') {off n : Nat} {g : Bool} {ty : TypeId} (hn : sz P ty = some n) (hg : isAggT P ty = some g) (e : partOf l off n g = some v) (w : World) :
    ∃ y, (part ty ⟨l'⟩ off).run P w = .ok y w ∧ VRel φ v y := by
  unfold partOf at e
  simp only [part, Sem.run_bind, isAgg_run hg, Result.andThen_ok]
  cases g with
  | true =>
    rw [cnd_true] at e
    cases e
    rw [listDrop_eq, listTake_eq]
    refine ⟨.agg ⟨(l'.drop off).take n⟩, ?_, .agg ((hr.drop off).take n)⟩
    simp only [if_true, Sem.run_bind, sizeOf_run hn, Result.andThen_ok, Sem.run_pure]
    congr 2
    apply Array.ext'
    simp [List.extract_eq_take_drop]
  | false =>
    rw [cnd_false, listGet_eq] at e
    obtain ⟨y, h1, h2⟩ := hr.get e
    refine ⟨y, ?_, h2⟩
    have : (Array.mk l')[off]? = some y := by simpa using h1
    simp [this]
theorem sound_fieldv {ty : TypeId} {x : Operand} {f : Nat} (ho : o.op = .field ty x f) (hc : compOp P o = some op) (e : evOp call op tm h = .ok v h')
    (H : HRel N w0 φ h w) (t : TRel φ tm a) : OpOK P N w0 φ h w (execOp a.eval o) v h' := by
  simp only [compOp, ho, Option.bind_eq_bind, Option.bind_eq_some_iff] at hc
  obtain ⟨d, hd, hc⟩ := hc
  split at hc
  · rename_i fs
    split at hc
    · rename_i g hg
      simp only [Option.bind_eq_some_iff, Option.some.injEq] at hc
      obtain ⟨x', hx', n, hn, q, hq, hop⟩ := hc
      subst hop
      obtain ⟨l, hu, e1⟩ := onAgg_ok (show onAgg (ax tm x') _ = _ from e)
      obtain ⟨e2, hh⟩ := rv_ok e1
      subst hh
      have ru := t.ax hx' hu
      generalize hcu : a.eval x = cu at ru
      cases ru with
      | agg hr =>
      obtain ⟨y, k1, k2⟩ := part_rel (P := P) hr hn hq e2 w
      refine OpOK.same H ?_ k2
      simp only [execOp, ho, hcu]
      refine run_value ?_
      simp only [Instr.field, Sem.run_bind, under_run hd, Result.andThen_ok, hg, asAgg, Sem.run_pure, k1]
    · cases hc
  · cases hc
theorem sound_indexv {ty el : TypeId} {x i : Operand} {m : Nat} (ho : o.op = .index ty x i) (hd : P.underlying ty = some (.array m el)) (hc : compOp P o = some op) (e : evOp call op tm h = .ok v h')
    (H : HRel N w0 φ h w) (t : TRel φ tm a) : OpOK P N w0 φ h w (execOp a.eval o) v h' := by
  simp only [compOp, ho, Option.bind_eq_bind, hd, Option.bind_some, Option.bind_eq_some_iff, Option.some.injEq] at hc
  obtain ⟨x', hx', i', hi', n, hn, q, hq, hop⟩ := hc
  subst hop
  obtain ⟨l, hu, e1⟩ := onAgg_ok (show onAgg (ax tm x') _ = _ from e)
  obtain ⟨j, hj, e2⟩ := onO_eq_ok e1
  obtain ⟨c1, e3⟩ := cnd_eq_ok e2
  obtain ⟨e4, hh⟩ := rv_ok e3
  subst hh
  have c1 := blt_true c1
  have ru := t.ax hx' hu
  obtain ⟨k, hik⟩ := t.int hi' hj
  generalize hcu : a.eval x = cu at ru
  cases ru with
  | agg hr =>
  obtain ⟨y, k1, k2⟩ := part_rel (P := P) hr hn hq e4 w
  refine OpOK.same H ?_ k2
  simp only [execOp, ho, hcu, hik]
  refine run_value ?_
  have h1 : ((0 : Int) ≤ (j : Int) ∧ (j : Int) < (m : Int)) := by omega
  simp only [Instr.index, asIntOf, Sem.run_bind, Sem.run_pure, under_run hd, Result.andThen_ok]
  rw [if_pos h1]
  simp only [Sem.run_bind, sizeOf_run hn, Result.andThen_ok]
  exact k1

theorem sound_arrp {ty el : TypeId} {m : Nat} {x : Operand} {x' : AX} (ho : o.op = .sliceToArrayPointer ty x) (hd : P.underlying ty = some (.array (m + 1) el)) (hx' : axOf x = some x')
    (e : evOp call (.arrp x' (m + 1)) tm h = .ok v h') (H : HRel N w0 φ h w) (t : TRel φ tm a) : OpOK P N w0 φ h w (execOp a.eval o) v h' := by
  obtain ⟨b, q, len, cap, hu, e1⟩ := onSl_ok (show onSl (ax tm x') _ = _ from e)
  obtain ⟨c1, e2⟩ := cnd_eq_ok e1
  cases e2
  have c1 := ble_true c1
  have ru := t.ax hx' hu
  generalize hcu : a.eval x = cu at ru
  cases ru with
  | @sl _ _ _ _ c L hL hc hl hr =>
    refine OpOK.same H (y := .pointer (some ⟨L.blk, L.base + q, none⟩)) ?_ (.p hL)
    simp only [execOp, ho, hcu]
    refine run_value ?_
    simp only [Instr.arrayAt, Sem.run_bind, under_run hd, Result.andThen_ok]
    rw [if_neg (by omega)]
    rfl
  | sl0 hL hc => omega

theorem sound_ld1 {ty : TypeId} {x : Operand} {x' : AX} (ho : o.op = .load ty x) (hg : isAggT P ty = some false) (hx' : axOf x = some x') (e : evOp call (.ld1 x') tm h = .ok v h')
    (H : HRel N w0 φ h w) (t : TRel φ tm a) : OpOK P N w0 φ h w (execOp a.eval o) v h' := by
  obtain ⟨b, q, hu, e1⟩ := onP_ok (show onP (ax tm x') _ = _ from e)
  obtain ⟨B, hB, e2⟩ := onO_eq_ok e1
  obtain ⟨e3, hh⟩ := rv_ok e2
  subst hh
  have ru := t.ax hx' hu
  generalize hcu : a.eval x = cu at ru
  cases ru with
  | @p _ _ L hL =>
  obtain ⟨y, k1, k2, _⟩ := H.read hL hB e3
  refine OpOK.same H ?_ k2
  simp only [execOp, ho, hcu]
  refine run_value ?_
  simp only [Instr.loadAt, Instr.sureAddr, Sem.run_bind, Sem.run_pure, Result.andThen_ok, loadVar, isAgg_run hg, Bool.false_eq_true, if_false, run_load, k1]
theorem sound_ldn {ty : TypeId} {n : Nat} {x : Operand} {x' : AX} (ho : o.op = .load ty x) (hg : isAggT P ty = some true) (hn : sz P ty = some n) (hx' : axOf x = some x') (e : evOp call (.ldn x' n) tm h = .ok v h')
    (H : HRel N w0 φ h w) (t : TRel φ tm a) : OpOK P N w0 φ h w (execOp a.eval o) v h' := by
  obtain ⟨b, q, hu, e1⟩ := onP_ok (show onP (ax tm x') _ = _ from e)
  obtain ⟨l, hl, e2⟩ := onO_eq_ok e1
  cases e2
  obtain ⟨B, hB, e3⟩ := onO_eq_some hl
  have ru := t.ax hx' hu
  generalize hcu : a.eval x = cu at ru
  cases ru with
  | @p _ _ L hL =>
  obtain ⟨ys, k1, k2, _, k3⟩ := H.readN hL hB e3
  refine OpOK.same H (y := .agg ⟨ys⟩) ?_ (.agg k2)
  simp only [execOp, ho, hcu]
  refine run_value ?_
  simp only [Instr.loadAt, Instr.sureAddr, Sem.run_bind, Sem.run_pure, Result.andThen_ok, loadVar, isAgg_run hg, if_true, sizeOf_run hn, run_loadCells_of P k1 k3]

theorem toStr_rel : ∀ {l : List AV} {ys : List Value}, VRels φ l ys → ∀ {s : Nat × Nat}, toStr l = some s → ∃ bs : List UInt8, ys = bs.map (fun c => Value.int .u8 (c.toNat : Int)) ∧ s = (bs.length, strN bs)
  | _, _, .nil, s, e => by
    have : some (0, 0) = some s := e
    cases this; exact ⟨[], rfl, rfl⟩
  | _, _, .cons (x := x) (l := r) (l' := ys) hx ht, s, e => by
    unfold toStr at e
    split at e
    · rename_i heq; cases heq
    · rename_i c r' heq
      cases heq
      obtain ⟨h1, e⟩ := cnd_eq_some e
      obtain ⟨s', hs', e⟩ := onO_eq_some e
      cases e
      have h1 := blt_true h1
      obtain ⟨bs, hy, hs⟩ := toStr_rel ht hs'
      cases hx
      refine ⟨UInt8.ofNat c :: bs, ?_, ?_⟩
      · have : (UInt8.ofNat c).toNat = c := by rw [UInt8.toNat_ofNat']; omega
        simp [hy, this]
      · have : (UInt8.ofNat c).toNat = c := by rw [UInt8.toNat_ofNat']; omega
        simp [hs, strN, this]
    · cases e

theorem bytes_fold : ∀ (bs : List UInt8) (acc : ByteArray), (bs.map (fun c => (c.toNat : Int))).foldl (fun r n => r.push (UInt8.ofNat n.toNat)) acc = ⟨acc.data ++ bs.toArray⟩
  | [], acc => by simp
  | c :: r, acc => by
    simp only [List.map_cons, List.foldl_cons]
    rw [bytes_fold r]
    congr 1
    apply Array.ext'
    simp [ByteArray.push]
end
end Go.Abs
