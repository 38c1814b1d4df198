/- Operations that read the heap, or lay one block, taken ahead. -/
import Derived.Test.YtcfjhdhpofomjaaGreatDoorAbsDraw1
set_option linter.unusedSectionVars false
set_option linter.unusedSimpArgs false
set_option linter.unusedVariables false
set_option linter.constructorNameAsVariable false
namespace Go.Abs
variable [Env] [Fr]
open Go.RowKit

section
variable {tm : T AV} {h h' : Hp} {call : Cl} {v : AV}
theorem look_lay {b : Pth} {B : Blk} (hf : T.getP h.nx h.m = none) (hl : look h b = some B) (X : Blk) : look ⟨T.putP X h.nx h.m, h.nx.inc⟩ b = some B := by
  obtain ⟨h1, Q, h2, h3⟩ := look_some hl
  refine look_of (Q := Q) ?_ ?_ h3
  · show T.getP b (T.putP X h.nx h.m) = _
    rw [T.getP_other _ (fun e => by rw [e, hf] at h1; cases h1)]; exact h1
  · show T.getP _ (T.putP X h.nx h.m) = _
    rw [T.getP_other _ (fun e => by rw [e, hf] at h2; cases h2)]; exact h2
theorem kind1 {op : AOp} (hk : kindOf op = 1) (e : evOp call op tm h = .ok v h') : h' = h ∧ (∀ call2, evOp call2 op tm h = .ok v h) ∧
    ∀ X, T.getP h.nx h.m = none → evOp call op tm ⟨T.putP X h.nx h.m, h.nx.inc⟩ = .ok v ⟨T.putP X h.nx h.m, h.nx.inc⟩ := by
  cases op <;> first | (simp [kindOf] at hk; done) | skip
  all_goals simp only [evOp] at e ⊢
  case ld1 x =>
    unfold oLd1 at e ⊢
    obtain ⟨b, q, hp, e1⟩ := onP_ok e; obtain ⟨B, hB, e2⟩ := onO_eq_ok e1
    obtain ⟨e3, hh⟩ := rv_ok e2
    subst hh
    refine ⟨rfl, fun _ => e, fun X hf => ?_⟩
    simp only [hp, onP, look_lay hf hB X, onO_some, e3]; rfl
  case ldn x n =>
    unfold oLdn at e ⊢
    obtain ⟨b, q, hp, e1⟩ := onP_ok e; obtain ⟨l, hl, e2⟩ := onO_eq_ok e1
    cases e2
    refine ⟨rfl, fun _ => e, fun X hf => ?_⟩
    unfold readN at hl ⊢
    obtain ⟨B, hB, hl2⟩ := onO_eq_some hl
    simp only [hp, onP, look_lay hf hB X, onO_some, hl2]
  case slc x s l hh m =>
    unfold oSlc at e ⊢
    split at e
    · rename_i b q len cap hp
      obtain ⟨B, hB, e1⟩ := onO_eq_ok e
      obtain ⟨c1, e2⟩ := cnd_eq_ok e1
      obtain ⟨l1, l2, l3, g1, g2, g3, e3⟩ := optN3_ok e2
      obtain ⟨e4, hh'⟩ := rv_ok e3
      subst hh'
      refine ⟨rfl, fun _ => e, fun X hf => ?_⟩
      have hB' : T.getP b (T.putP X h'.nx h'.m) = some B := by rw [T.getP_other _ (fun e => by rw [e, hf] at hB; cases hB)]; exact hB
      simp only [hB', onO_some, c1, cnd_true, optN3, g1, g2, g3, e4]; rfl
    · obtain ⟨l1, l2, l3, g1, g2, g3, e3⟩ := optN3_ok e
      obtain ⟨c1, e4⟩ := cnd_eq_ok e3
      obtain ⟨c2, e5⟩ := cnd_eq_ok e4
      obtain ⟨c3, e6⟩ := cnd_eq_ok e5
      cases e6
      refine ⟨rfl, fun _ => e, fun X hf => ?_⟩
      simp only [optN3, g1, g2, g3, onO_some, c1, c2, c3, cnd_true]
    · cases e
  case slca x n s l hh m =>
    unfold oSlca at e ⊢
    obtain ⟨b, q, hp, e0⟩ := onP_ok e
    obtain ⟨B, hB, e1⟩ := onO_eq_ok e0
    obtain ⟨c1, e2⟩ := cnd_eq_ok e1
    obtain ⟨c2, e3⟩ := cnd_eq_ok e2
    obtain ⟨c3, e4⟩ := cnd_eq_ok e3
    obtain ⟨l1, l2, l3, g1, g2, g3, e5⟩ := optN3_ok e4
    obtain ⟨e6, hh'⟩ := rv_ok e5
    subst hh'
    refine ⟨rfl, fun _ => e, fun X hf => ?_⟩
    have hB' : T.getP b (T.putP X h'.nx h'.m) = some B := by rw [T.getP_other _ (fun e => by rw [e, hf] at hB; cases hB)]; exact hB
    simp only [hp, onP, hB', onO_some, c1, c2, c3, cnd_true, optN3, g1, g2, g3, e6]; rfl
end

/-- The block that an operation lays. -/
noncomputable def allocOf (op : AOp) (tm : T AV) : Option (List AV × Nat × Nat × Option (Nat × Nat)) :=
  match op with
  | .alloc cells stride => some (cells, listLen cells, stride, none)
  | .box x stride => onO (ax tm x) none fun v => cnd (ones (cellsOf v)) (some (cellsOf v, listLen (cellsOf v), stride, none)) none
  | .bslice zero len stride parts => onO (fillL tm parts (repL zero len)) none fun l => cnd (ones l) (some (l, listLen l, stride, some (len, len))) none
  | .mkslice zero stride bytes l c => onO (axN tm l) none fun l => onO (axN tm c) none fun c =>
      cnd (Nat.ble l c) (cnd (Nat.ble (Nat.mul c bytes) 281474976710656) (cnd (Nat.blt c 4611686018427387904) (some (repL zero c, listLen (repL zero c), stride, some (l, c))) none) none) none
  | _ => none
def vf (k : Option (Nat × Nat)) (b : Pth) : AV :=
  match k with
  | none => .p b 0
  | some (l, c) => .sl b 0 l c

section
variable {P : Program} {tm : T AV} {h h' : Hp} {call : Cl} {v : AV} {op : AOp}
theorem kind2 (hk : kindOf op = 2) (e : evOp call op tm h = .ok v h') :
    ∃ cells n s k, allocOf op tm = some (cells, n, s, k) ∧ v = vf k h.nx ∧ h' = newBlk h (ofL cells) n s := by
  cases op <;> first | (simp [kindOf] at hk; done) | skip
  all_goals simp only [evOp] at e
  case alloc cells s => cases e; exact ⟨_, _, _, _, rfl, rfl, rfl⟩
  case box x s =>
    unfold oBox at e
    obtain ⟨u, hu, e1⟩ := onO_eq_ok e; obtain ⟨c1, e2⟩ := cnd_eq_ok e1
    cases e2
    exact ⟨_, _, _, none, by simp only [allocOf, hu, onO_some, c1, cnd_true], rfl, rfl⟩
  case bslice z len s ps =>
    unfold oBslice at e
    obtain ⟨u, hu, e1⟩ := onO_eq_ok e; obtain ⟨c1, e2⟩ := cnd_eq_ok e1
    cases e2
    exact ⟨_, _, _, some (len, len), by simp only [allocOf, hu, onO_some, c1, cnd_true], rfl, rfl⟩
  case mkslice z s b l c =>
    unfold oMkslice at e
    obtain ⟨x, hx, e1⟩ := onO_eq_ok e; obtain ⟨y, hy, e2⟩ := onO_eq_ok e1
    obtain ⟨c1, e3⟩ := cnd_eq_ok e2; obtain ⟨c2, e4⟩ := cnd_eq_ok e3; obtain ⟨c3, e5⟩ := cnd_eq_ok e4
    cases e5
    exact ⟨_, _, _, some (x, y), by simp only [allocOf, hx, hy, onO_some, c1, c2, c3, cnd_true], rfl, rfl⟩
theorem allocOf_congr {tm' : T AV} (e : ∀ x ∈ reads op, ax tm x = ax tm' x) : allocOf op tm = allocOf op tm' := by
  cases op <;> try rfl
  case box x s => simp only [allocOf, e x (by simp [reads])]
  case bslice z len s ps => simp only [allocOf, fillL_congr (ps := ps) (tm := tm) (tm' := tm') e]
  case mkslice z s b l c => simp only [allocOf, axN, e l (by simp [reads]), e c (by simp [reads])]

/-- What the program does where the abstract machine lays a block. -/
structure Makes (P : Program) (φ : Phi) (s : Sem Next) (cells : List AV) (n st : Nat) (k : Option (Nat × Nat)) (arr : Array Value) (elem : TypeId) (y : Nat → Value) : Prop where
  len : n = cells.length
  one : ∀ x ∈ cells, x.one = true
  rel : VRels φ cells arr.toList
  run : ∀ w : World, s.run P w = .ok (.value (y w.heap.size)) (w.alloc (.cells arr elem))
  val : ∀ (φ' : Phi) (b : Pth) (blk : Nat), φ' b = some ⟨blk, 0, arr.size, st⟩ → VRel φ' (vf k b) (y blk)

theorem makes_op {φ : Phi} {a : Act} {o : Oper} (hk : isMake o.op = true) (hc : compOp P o = some op) {cells : List AV} {n st : Nat} {k : Option (Nat × Nat)} (ha : allocOf op tm = some (cells, n, st, k)) (t : TRel φ tm a) :
    ∃ arr elem y, Makes P φ (execOp a.eval o) cells n st k arr elem y := by
  have valp : ∀ (arr : Array Value) (φ' : Phi) (b : Pth) (blk : Nat), φ' b = some ⟨blk, 0, arr.size, st⟩ → VRel φ' (vf none b) (.pointer (some ⟨blk, 0, none⟩)) := by
    intro arr φ' b blk hb
    have := VRel.p (φ := φ') (b := b) (o := 0) hb
    exact this
  have vals : ∀ (arr : Array Value) (l c : Nat), l ≤ c → c * st ≤ arr.size → ∀ (φ' : Phi) (b : Pth) (blk : Nat), φ' b = some ⟨blk, 0, arr.size, st⟩ → VRel φ' (vf (some (l, c)) b) (.slice (some ⟨blk, 0, none⟩) l c) := by
    intro arr l c h1 h2 φ' b blk hb
    have := VRel.sl (φ := φ') (b := b) (o := 0) (len := l) (cap := c) (c := c) hb (.inr rfl) h1 (by simpa using h2)
    exact this
  cases ho : o.op with
  | alloc ty =>
    simp only [compOp, ho, Option.bind_eq_bind, Option.bind_eq_some_iff, Option.some.injEq] at hc
    obtain ⟨l, hl, m, hm, hop⟩ := hc
    subst hop
    have ha : some (l, listLen l, m, none) = some (cells, n, st, k) := ha
    cases ha
    obtain ⟨i, z, z1, z2, z3, z4, _⟩ := zeroOf_run hl φ
    refine ⟨z.cells, ty, fun b => .pointer (some ⟨b, 0, none⟩), listLen_eq _, ones_all z4, z3, fun w => ?_, valp _⟩
    simp only [execOp, ho]
    refine run_value ?_
    simp only [Instr.alloc, Sem.run_bind, zeroValue_run z1 z2, Result.andThen_ok, newVar, newRow_run, Sem.run_pure]
  | box ty x =>
    simp only [compOp, ho, Option.bind_eq_bind, Option.bind_eq_some_iff, Option.some.injEq] at hc
    obtain ⟨x', hx', m, hm, hop⟩ := hc
    subst hop
    obtain ⟨u, hu, e1⟩ := onO_eq_some (show onO (ax tm x') none (fun v => cnd (ones (cellsOf v)) (some (cellsOf v, listLen (cellsOf v), m, (none : Option (Nat × Nat)))) none) = some (cells, n, st, k) from ha)
    obtain ⟨c1, e2⟩ := cnd_eq_some e1
    cases e2
    refine ⟨(a.eval x).cells, ty, fun b => .pointer (some ⟨b, 0, none⟩), listLen_eq _, ones_all c1, (t.ax hx' hu).cells, fun w => ?_, valp _⟩
    simp only [execOp, ho]
    refine run_value ?_
    simp only [Instr.box, Sem.run_bind, Result.andThen_ok, newVar, newRow_run, Sem.run_pure]
  | buildSlice ty len parts =>
    have hc0 := hc
    simp only [compOp, ho, Option.bind_eq_bind, Option.bind_eq_some_iff] at hc
    obtain ⟨d, hd, hc⟩ := hc
    split at hc
    · rename_i el
      simp only [Option.bind_eq_some_iff] at hc
      obtain ⟨m, hn, hc⟩ := hc
      split at hc
      · cases hc
      · rename_i hbig
        simp only [Option.bind_eq_some_iff, Option.some.injEq] at hc
        obtain ⟨zl, hz, n', hn', n2, hn2, ps, hps, hop⟩ := hc
        rw [hn] at hn' hn2; cases hn'; cases hn2
        subst hop
        obtain ⟨l, hl, e1⟩ := onO_eq_some (show onO (fillL tm ps (repL zl len)) none (fun l => cnd (ones l) (some (l, listLen l, m, some (len, len))) none) = some (cells, n, st, k) from ha)
        obtain ⟨c1, e2⟩ := cnd_eq_some e1
        cases e2
        obtain ⟨i, z, z1, z2, z3, z4, z5⟩ := zeroOf_run hz φ
        have hsz : i.size = st := by
          unfold sz at hn
          rw [z1] at hn
          simpa using hn
        have hzs : z.cells.size = st := by rw [← Array.length_toList, ← z3.length, z5, hsz]
        have hrow := rep_rel z3 len
        have mapArr : (parts.map fun (x : Nat × Operand) => (x.1, a.eval x.2)).toList = parts.toList.map fun (i, x) => (i, a.eval x) := by simp
        obtain ⟨l', k1, k2⟩ := fill_rel t (partsA_rel hps) hrow hl
        have hlen : cells.length = len * st := by rw [fillL_length t hl, repL_length, z5, hsz]
        have hlen' : l'.length = len * st := by rw [← k2.length, hlen]
        refine ⟨⟨l'⟩, el, fun b => .slice (some ⟨b, 0, none⟩) len len, listLen_eq _, ones_all c1, k2, fun w => ?_, vals _ _ _ (Nat.le_refl _) (by simp [hlen'])⟩
        simp only [execOp, ho]
        refine run_value ?_
        simp only [Instr.buildSlice, Sem.run_bind, under_run hd, Result.andThen_ok, sizeOf_run hn]
        rw [if_neg hbig]
        have hfill : ∀ zz : Array Value, (len * st = 0 ∨ zz = z.cells) → Instr.fill (fun i => some (i * st, st)) ((Array.range (len * st)).map (zz[· % zz.size]!)) (parts.map fun (x : Nat × Operand) => (x.1, a.eval x.2)).toList = some ⟨l'⟩ := by
          intro zz hzz
          rw [mapArr]
          rcases hzz with h0 | rfl
          · rw [hzs, h0] at k1
            rw [h0]
            rw [show (Array.range 0) = #[] from rfl, Array.map_empty] at k1 ⊢
            exact k1
          · rw [hzs] at k1 ⊢
            exact k1
        by_cases h0 : len * st = 0
        · rw [if_pos h0]
          simp only [Sem.run_bind, Sem.run_pure, Result.andThen_ok]
          rw [hfill #[] (.inl h0)]
          rfl
        · rw [if_neg h0]
          simp only [Sem.run_bind, zeroValue_run z1 z2, Sem.run_pure, Result.andThen_ok]
          rw [hfill z.cells (.inr rfl)]
          rfl
    · cases hc
  | makeSlice ty l c =>
    simp only [compOp, ho, Option.bind_eq_bind, Option.bind_eq_some_iff] at hc
    obtain ⟨d, hd, hc⟩ := hc
    split at hc
    · rename_i el
      simp only [Option.bind_eq_some_iff, Option.some.injEq] at hc
      obtain ⟨zl, hz, m, hn, b, hb, l', hl', c', hc', hop⟩ := hc
      subst hop
      obtain ⟨x, hx, e1⟩ := onO_eq_some (show onO (axN tm l') none (fun l => onO (axN tm c') none fun c =>
        cnd (Nat.ble l c) (cnd (Nat.ble (Nat.mul c b) 281474976710656) (cnd (Nat.blt c 4611686018427387904) (some (repL zl c, listLen (repL zl c), m, some (l, c))) none) none) none) = some (cells, n, st, k) from ha)
      obtain ⟨y, hy, e2⟩ := onO_eq_some e1
      obtain ⟨c1, e3⟩ := cnd_eq_some e2
      obtain ⟨c2, e4⟩ := cnd_eq_some e3
      obtain ⟨c3, e5⟩ := cnd_eq_some e4
      cases e5
      have c1 := ble_true c1
      have c2 : y * b ≤ 281474976710656 := ble_true c2
      have c3 := blt_true c3
      obtain ⟨k1, hk1⟩ := t.int hl' hx
      obtain ⟨k2, hk2⟩ := t.int hc' hy
      obtain ⟨i, z, z1, z2, z3, z4, z5⟩ := zeroOf_run hz φ
      obtain ⟨i', hi', hb'⟩ := by_run hb
      rw [z1] at hi'; cases hi'
      have hsz : i.size = st := by
        unfold sz at hn
        rw [z1] at hn
        simpa using hn
      have hzs : z.cells.size = st := by rw [← Array.length_toList, ← z3.length, z5, hsz]
      have hrow := rep_rel z3 y
      refine ⟨(Array.range (y * st)).map (z.cells[· % z.cells.size]!), el, fun b => .slice (some ⟨b, 0, none⟩) x y, listLen_eq _, ones_rep z4 y, by rw [hzs] at hrow ⊢; exact hrow, fun w => ?_, vals _ _ _ c1 (by simp)⟩
      simp only [execOp, ho, hk1, hk2]
      refine run_value ?_
      have hw1 := wrap_small x (by omega)
      have hw2 := wrap_small y c3
      have hti : (typeInfo el).run P w = .ok i w := by simp [typeInfo, z1]
      have hbig : ¬ ((((y : Int) < 0 || (b : Int) * (y : Int) > 2 ^ 48) || (x : Int) < 0 || (x : Int) > (y : Int)) = true) := by
        have h1 : ((y * b : Nat) : Int) ≤ ((281474976710656 : Nat) : Int) := Int.ofNat_le.2 c2
        have h2 : (b : Int) * (y : Int) ≤ 2 ^ 48 := by
          rw [Int.natCast_mul, Int.mul_comm] at h1
          exact h1
        intro hh
        simp only [Bool.or_eq_true, decide_eq_true_eq] at hh
        rcases hh with ((hh | hh) | hh) | hh
        · exact absurd hh (by omega)
        · exact absurd h2 (Int.not_le.2 hh)
        · exact absurd hh (by omega)
        · exact absurd hh (by omega)
      simp only [Instr.makeSlice, Sem.run_bind, under_run hd, Result.andThen_ok, asInt, asIntOf, Sem.run_pure, hti, hb', hw1, hw2]
      rw [if_neg hbig]
      simp only [Sem.run_pure, Result.andThen_ok, run_askRoom, Sem.run_bind, sizeOf_run hn, Int.toNat_natCast]
      by_cases h0 : y * st = 0
      · rw [if_pos h0]
        simp only [Sem.run_bind, Sem.run_pure, Result.andThen_ok, newRow_run, h0]
        rw [Array.range_zero', Array.map_empty, Array.map_empty]
      · rw [if_neg h0]
        simp only [Sem.run_bind, zeroValue_run z1 z2, Sem.run_pure, Result.andThen_ok, newRow_run]
    · cases hc
  | _ => rw [ho] at hk; cases hk
end
end Go.Abs
