/- Operations that make rows, and stores. -/
import Derived.Test.YtcfjhdhpofomjaaGreatDoorAbsOps6
set_option linter.unusedSectionVars false
set_option linter.unusedSimpArgs false
set_option linter.unusedVariables false
set_option linter.constructorNameAsVariable false
namespace Go.Abs
variable [Env] [Fr]
open Go.RowKit

section
variable {P : Program} {N : Nat} {w0 w : World} {φ : Phi} {h h' : Hp} {tm : T AV} {a : Act} {o : Oper} {op : AOp} {v : AV} {call : Cl}

/-- A row is made; its first cells are known. -/
theorem HRel.row (H : HRel N w0 φ h w) (cells : List AV) (n stride : Nat) (hn : n = cells.length) (ho : ∀ x ∈ cells, x.one = true) {arr : Array Value} (elem : TypeId) {fz : Nat × Nat}
    (hfz : ∀ o, o < arr.size → ¬ (fz.1 ≤ o ∧ o < fz.2)) (hsz : cells.length ≤ arr.size) (hr : VRels φ cells (arr.toList.take cells.length)) :
    HRel N w0 (φ.set h.nx ⟨w.heap.size, 0, arr.size, stride⟩) (newBlk h (ofL cells) n stride) (w.alloc (.cells arr elem fz)) ∧
    Ext φ (φ.set h.nx ⟨w.heap.size, 0, arr.size, stride⟩) ∧ Keep φ (φ.set h.nx ⟨w.heap.size, 0, arr.size, stride⟩) h (newBlk h (ofL cells) n stride) := by
  subst hn
  rw [newBlk_eq]
  have hf := phi_fresh H
  refine ⟨(H.lay _).know (by show T.getP h.nx (T.putP _ h.nx h.m) = _; rw [T.getP_same]) H.pos hf arr elem fz hfz hsz ?_, Phi.set_ext hf _, (Keep.lay (getP_fresh H) _).set (getP_fresh H) _⟩
  intro i hi
  have hx : cells[i]? = some cells[i] := List.getElem?_eq_getElem hi
  obtain ⟨y, hy, hv⟩ := hr.get hx
  refine ⟨cells[i], y, by rw [get_ofL]; exact hx, ?_, hv, ho _ (List.getElem_mem _)⟩
  rw [List.getElem?_take] at hy
  rw [if_pos hi] at hy
  simpa using hy

theorem newRow_run (elem : TypeId) (cells : Array Value) (w : World) : (newRow elem cells).run P w = .ok ⟨w.heap.size, 0, none⟩ (w.alloc (.cells cells elem)) := rfl
theorem nofz (arr : Array Value) : ∀ o, o < arr.size → ¬ ((0, 0).1 ≤ o ∧ o < (0, 0).2) := fun o _ h => by simp at h

/-- The pointer to a new row. -/
theorem OpOK.newp (H : HRel N w0 φ h w) {s : Sem Next} {cells : List AV} {n stride : Nat} (hn : n = cells.length) (ho : ∀ x ∈ cells, x.one = true) {arr : Array Value} {elem : TypeId} (hr : VRels φ cells arr.toList)
    (hs : s.run P w = .ok (.value (.pointer (some ⟨w.heap.size, 0, none⟩))) (w.alloc (.cells arr elem))) : OpOK P N w0 φ h w s (.p h.nx 0) (newBlk h (ofL cells) n stride) := by
  have hl := hr.length
  obtain ⟨k1, k2, k3⟩ := H.row cells n stride hn ho (arr := arr) elem (nofz arr) (by rw [hl]; simp) (by rw [hl, List.take_length]; exact hr)
  refine ⟨_, _, _, hs, .inl ⟨_, rfl, ?_⟩, k2, k1, k3⟩
  have := VRel.p (φ := φ.set h.nx ⟨w.heap.size, 0, arr.size, stride⟩) (b := h.nx) (o := 0) (Phi.set_same φ h.nx _)
  exact this
/-- The slice over a new row. -/
theorem OpOK.news (H : HRel N w0 φ h w) {s : Sem Next} {cells : List AV} {n len cap c stride : Nat} (hn : n = cells.length) (ho : ∀ x ∈ cells, x.one = true) {arr : Array Value} {elem : TypeId} {fz : Nat × Nat}
    (hfz : ∀ o, o < arr.size → ¬ (fz.1 ≤ o ∧ o < fz.2)) (hsz : cells.length ≤ arr.size) (hr : VRels φ cells (arr.toList.take cells.length))
    (hc : cap = UNK ∨ cap = c) (hl : len ≤ c) (hroom : c * stride ≤ arr.size) {w1 : World} (hw : w1.heap = w.heap ∧ w1.os = w.os ∧ w1.tape = w.tape ∧ w1.output = w.output)
    (hs : s.run P w = .ok (.value (.slice (some ⟨w.heap.size, 0, none⟩) len c)) (w1.alloc (.cells arr elem fz))) : OpOK P N w0 φ h w s (.sl h.nx 0 len cap) (newBlk h (ofL cells) n stride) := by
  have H1 : HRel N w0 φ h w1 := by
    obtain ⟨e1, e2, e3, e4⟩ := hw
    have hb : Below N w w1 := ⟨e2, e3, e4, by rw [e1]; exact Nat.le_refl _, fun k _ => by rw [e1]⟩
    refine ⟨fun i o hi => by rw [e1]; exact H.kept i o hi, H.zero, H.pos, H.base0, H.below.trans hb, by rw [e1]; exact H.base, H.fresh, fun b L hb => ?_, H.roots, H.apart, fun b L B Q x1 x2 x3 x4 => ?_, H.vers, H.le, H.lows, H.ends⟩
    · obtain ⟨B, g1, g2⟩ := H.dom b L hb
      exact ⟨B, g1, ⟨by rw [e1]; exact g2.row, g2.fits, g2.stride⟩⟩
    · obtain ⟨g1, g2⟩ := H.tip b L B Q x1 x2 x3 x4
      exact ⟨g1, fun o ho => by have := g2 o ho; simp only [World.frozen?, e1] at this ⊢; exact this⟩
  obtain ⟨k1, k2, k3⟩ := H1.row cells n stride hn ho (arr := arr) elem hfz hsz hr
  rw [hw.1] at k1 k2 k3
  refine ⟨_, _, _, hs, .inl ⟨_, rfl, ?_⟩, k2, k1, k3⟩
  have := VRel.sl (φ := φ.set h.nx ⟨w.heap.size, 0, arr.size, stride⟩) (b := h.nx) (o := 0) (len := len) (cap := cap) (c := c) (Phi.set_same φ h.nx _) hc hl (by simpa using hroom)
  exact this

theorem sound_alloc {ty : TypeId} (ho : o.op = .alloc ty) (hc : compOp P o = some op) (e : evOp call op tm h = .ok v h')
    (H : HRel N w0 φ h w) : OpOK P N w0 φ h w (execOp a.eval o) v h' := by
  simp only [compOp, ho, Option.bind_eq_bind, Option.bind_eq_some_iff, Option.some.injEq] at hc
  obtain ⟨l, hl, n, hn, hop⟩ := hc
  subst hop
  have e1 : Rv.ok (.p h.nx 0) (newBlk h (ofL l) (listLen l) n) = .ok v h' := e
  cases e1
  obtain ⟨i, z, z1, z2, z3, z4, _⟩ := zeroOf_run hl φ
  refine OpOK.newp H (listLen_eq l) (ones_all z4) z3 (elem := ty) ?_
  simp only [execOp, ho]
  refine run_value ?_
  simp only [Instr.alloc, Sem.run_bind, zeroValue_run z1 z2, Result.andThen_ok, newVar, newRow_run, Sem.run_pure]
theorem sound_box {ty : TypeId} {x : Operand} (ho : o.op = .box ty x) (hc : compOp P o = some op) (e : evOp call op tm h = .ok v h')
    (H : HRel N w0 φ h w) (t : TRel φ tm a) : OpOK P N w0 φ h w (execOp a.eval o) v h' := by
  simp only [compOp, ho, Option.bind_eq_bind, Option.bind_eq_some_iff, Option.some.injEq] at hc
  obtain ⟨x', hx', n, hn, hop⟩ := hc
  subst hop
  obtain ⟨u, hu, e1⟩ := onO_eq_ok (show onO (ax tm x') Rv.no (fun v => cnd (ones (cellsOf v)) (.ok (.p h.nx 0) (newBlk h (ofL (cellsOf v)) (listLen (cellsOf v)) n)) .no) = .ok v h' from e)
  obtain ⟨c1, e2⟩ := cnd_eq_ok e1
  cases e2
  have ru := (t.ax hx' hu).cells
  refine OpOK.newp H (listLen_eq _) (ones_all c1) ru (elem := ty) ?_
  simp only [execOp, ho]
  refine run_value ?_
  simp only [Instr.box, Sem.run_bind, Result.andThen_ok, newVar, newRow_run, Sem.run_pure]

theorem repL_length (z : List AV) : ∀ n, (repL z n).length = n * z.length
  | 0 => by simp [repL]
  | n + 1 => by simp [repL, repL_length z n, Nat.succ_mul, Nat.add_comm]
theorem repL_get (z : List AV) : ∀ (n i : Nat), i < n * z.length → (repL z n)[i]? = z[i % z.length]?
  | 0, i, hi => by simp at hi
  | n + 1, i, hi => by
    simp only [repL]
    by_cases h : i < z.length
    · rw [List.getElem?_append_left h, Nat.mod_eq_of_lt h]
    · rw [List.getElem?_append_right (by omega), repL_get z n _ (by rw [Nat.succ_mul] at hi; omega)]
      congr 1
      rw [Nat.mod_eq_sub_mod (by omega : z.length ≤ i)]
theorem ones_rep {z : List AV} (hz : ones z = true) (n : Nat) : ∀ x ∈ repL z n, x.one = true := by
  induction n with
  | zero => simp [repL]
  | succ n ih =>
    intro x hx
    simp only [repL, List.mem_append] at hx
    rcases hx with hx | hx
    · exact ones_all hz x hx
    · exact ih x hx
/-- The zero row as the model writes it. -/
theorem rep_rel {zl : List AV} {zs : Array Value} (hz : VRels φ zl zs.toList) (n : Nat) :
    VRels φ (repL zl n) ((Array.range (n * zs.size)).map (zs[· % zs.size]!)).toList := by
  have hl : zl.length = zs.size := by have := hz.length; simpa using this
  refine VRels.of_get (by simp [repL_length, hl]) fun i x y hx hy => ?_
  have hi : i < n * zl.length := by
    rcases Nat.lt_or_ge i (n * zl.length) with h | h
    · exact h
    · rw [List.getElem?_eq_none (by rw [repL_length]; exact h)] at hx; cases hx
  rw [repL_get zl n i hi] at hx
  have hpos : 0 < zl.length := by
    rcases Nat.eq_zero_or_pos zl.length with h | h
    · rw [h] at hi; simp at hi
    · exact h
  have hm : i % zs.size < zs.size := Nat.mod_lt _ (by omega)
  obtain ⟨y', h1, h2⟩ := hz.get hx
  have : y = y' := by
    rw [hl] at h1 hi
    have hin : i < n * zs.size := hi
    simp [hin] at hy
    rw [getElem!_pos zs _ hm] at hy
    rw [← hy]
    rw [Array.getElem?_toList, Array.getElem?_eq_getElem hm] at h1
    cases h1; rfl
  rw [this]; exact h2

theorem wrap_small (n : Nat) (h : n < 4611686018427387904) : IntKind.i64.wrap (n : Int) = (n : Int) := wrap_in .i64 n (by simp only [limK]; omega)
theorem by_run {t : TypeId} {n : Nat} (hn : by_ P t = some n) : ∃ i, P.info? t = some i ∧ i.bytes = n := by
  unfold by_ at hn
  simp only [Option.map_eq_some_iff] at hn
  exact hn
theorem sound_mkslice {ty el : TypeId} {l c : Operand} (ho : o.op = .makeSlice ty l c) (hd : P.underlying ty = some (.slice el)) (hc : compOp P o = some op) (e : evOp call op tm h = .ok v h')
    (H : HRel N w0 φ h w) (t : TRel φ tm a) : OpOK P N w0 φ h w (execOp a.eval o) v h' := by
  simp only [compOp, ho, Option.bind_eq_bind, hd, Option.bind_some, Option.bind_eq_some_iff, Option.some.injEq] at hc
  obtain ⟨zl, hz, n, hn, b, hb, l', hl', c', hc', hop⟩ := hc
  subst hop
  obtain ⟨x, hx, e1⟩ := onO_eq_ok (show onO (axN tm l') Rv.no (fun l => onO (axN tm c') .no fun c =>
    cnd (Nat.ble l c) (cnd (Nat.ble (Nat.mul c b) 281474976710656) (cnd (Nat.blt c 4611686018427387904) (.ok (.sl h.nx 0 l c) (newBlk h (ofL (repL zl c)) (listLen (repL zl c)) n)) .no) .no) .no) = .ok v h' from e)
  obtain ⟨y, hy, e2⟩ := onO_eq_ok e1
  obtain ⟨c1, e3⟩ := cnd_eq_ok e2
  obtain ⟨c2, e4⟩ := cnd_eq_ok e3
  obtain ⟨c3, e5⟩ := cnd_eq_ok e4
  cases e5
  have c1 := ble_true c1
  have c2 : y * b ≤ 281474976710656 := ble_true c2
  have c3 := blt_true c3
  obtain ⟨k1, hk1⟩ := t.int hl' hx
  obtain ⟨k2, hk2⟩ := t.int hc' hy
  obtain ⟨i, z, z1, z2, z3, z4, z5⟩ := zeroOf_run hz φ
  obtain ⟨i', hi', hb'⟩ := by_run hb
  rw [z1] at hi'; cases hi'
  have hsz : i.size = n := by
    unfold sz at hn
    rw [z1] at hn
    simpa using hn
  have hzs : z.cells.size = n := by rw [← Array.length_toList, ← z3.length, z5, hsz]
  have hrow := rep_rel z3 y
  have hlen : (repL zl y).length = y * n := by rw [repL_length, z5, hsz]
  refine OpOK.news H (arr := (Array.range (y * n)).map (z.cells[· % z.cells.size]!)) (elem := el) (fz := (0, 0)) (c := y) (w1 := w) (listLen_eq _) (ones_rep z4 y) (nofz _) (by simp [hlen]) ?_ (.inr rfl) c1 (by simp) ⟨rfl, rfl, rfl, rfl⟩ ?_
  · rw [hlen, List.take_of_length_le (by simp)]
    rw [hzs] at hrow ⊢; exact hrow
  · simp only [execOp, ho, hk1, hk2]
    refine run_value ?_
    have hw1 := wrap_small x (by omega)
    have hw2 := wrap_small y c3
    have hty : typeInfo el = (do match (← program).info? el with
      | some i => pure i
      | none => stuck "no such type" : Sem TypeInfo) := rfl
    have hti : (typeInfo el).run P w = .ok i w := by simp [typeInfo, z1]
    have hbig : ¬ ((((y : Int) < 0 || (b : Int) * (y : Int) > 2 ^ 48) || (x : Int) < 0 || (x : Int) > (y : Int)) = true) := by
      have h1 : ((y * b : Nat) : Int) ≤ ((281474976710656 : Nat) : Int) := Int.ofNat_le.2 c2
      have h2 : (b : Int) * (y : Int) ≤ 2 ^ 48 := by
        rw [Int.natCast_mul, Int.mul_comm] at h1
        exact h1
      intro hh
      simp only [Bool.or_eq_true, decide_eq_true_eq] at hh
      rcases hh with ((hh | hh) | hh) | hh
      · exact absurd hh (by omega)
      · exact absurd h2 (Int.not_le.2 hh)
      · exact absurd hh (by omega)
      · exact absurd hh (by omega)
    simp only [Instr.makeSlice, Sem.run_bind, under_run hd, Result.andThen_ok, asInt, asIntOf, Sem.run_pure, hti, hb', hw1, hw2]
    rw [if_neg hbig]
    simp only [Sem.run_pure, Result.andThen_ok, run_askRoom, Sem.run_bind, sizeOf_run hn, Int.toNat_natCast]
    by_cases h0 : y * n = 0
    · rw [if_pos h0]
      simp only [Sem.run_bind, Sem.run_pure, Result.andThen_ok, newRow_run, h0]
      rw [Array.range_zero', Array.map_empty, Array.map_empty]
    · rw [if_neg h0]
      simp only [Sem.run_bind, zeroValue_run z1 z2, Sem.run_pure, Result.andThen_ok, newRow_run]

theorem fillL_length (t : TRel φ tm a) : ∀ {ps : List (Nat × Nat × AX)} {cells l : List AV}, fillL tm ps cells = some l → l.length = cells.length
  | [], cells, l, e => by
    have : some cells = some l := e
    cases this; rfl
  | (off, size, x) :: r, cells, l, e => by
    unfold fillL at e
    obtain ⟨u, hu, e1⟩ := onO_eq_some e
    obtain ⟨c1, e2⟩ := cnd_eq_some e1
    obtain ⟨c2, e3⟩ := cnd_eq_some e2
    have c1 := beq_true c1
    have c2 : off + size ≤ listLen cells := ble_true c2
    rw [listLen_eq] at c1 c2
    rw [fillL_length t e3, listTake_eq, listDrop_eq]
    simp only [List.length_append, List.length_take, List.length_drop]
    rw [c1]
    show min off cells.length + (size + (cells.length - (off + size))) = cells.length
    omega
theorem sound_bslice {ty el : TypeId} {len : Nat} {parts : Array (Nat × Operand)} (ho : o.op = .buildSlice ty len parts) (hd : P.underlying ty = some (.slice el)) (hc : compOp P o = some op) (e : evOp call op tm h = .ok v h')
    (H : HRel N w0 φ h w) (t : TRel φ tm a) : OpOK P N w0 φ h w (execOp a.eval o) v h' := by
  simp only [compOp, ho, Option.bind_eq_bind, hd, Option.bind_some, Option.bind_eq_some_iff] at hc
  obtain ⟨n, hn, hc⟩ := hc
  split at hc
  · cases hc
  · rename_i hbig
    simp only [Option.bind_eq_some_iff, Option.some.injEq] at hc
    obtain ⟨zl, hz, n', hn', n2, hn2, ps, hps, hop⟩ := hc
    rw [hn] at hn' hn2; cases hn'; cases hn2
    subst hop
    obtain ⟨l, hl, e1⟩ := onO_eq_ok (show onO (fillL tm ps (repL zl len)) Rv.no (fun l => cnd (ones l) (.ok (.sl h.nx 0 len len) (newBlk h (ofL l) (listLen l) n)) .no) = .ok v h' from e)
    obtain ⟨c1, e2⟩ := cnd_eq_ok e1
    cases e2
    obtain ⟨i, z, z1, z2, z3, z4, z5⟩ := zeroOf_run hz φ
    have hsz : i.size = n := by
      unfold sz at hn
      rw [z1] at hn
      simpa using hn
    have hzs : z.cells.size = n := by rw [← Array.length_toList, ← z3.length, z5, hsz]
    have hrow := rep_rel z3 len
    have mapArr : (parts.map fun (x : Nat × Operand) => (x.1, a.eval x.2)).toList = parts.toList.map fun (i, x) => (i, a.eval x) := by simp
    obtain ⟨l', k1, k2⟩ := fill_rel t (partsA_rel hps) hrow hl
    have hlen : l.length = len * n := by rw [fillL_length t hl, repL_length, z5, hsz]
    have hlen' : l'.length = len * n := by rw [← k2.length, hlen]
    refine OpOK.news H (arr := ⟨l'⟩) (elem := el) (fz := (0, 0)) (c := len) (w1 := w) (listLen_eq _) (ones_all c1) (nofz _) (by simp [hlen, hlen']) (by rw [List.take_of_length_le (by simp [hlen, hlen'])]; exact k2) (.inr rfl) (Nat.le_refl _) (by simp [hlen']) ⟨rfl, rfl, rfl, rfl⟩ ?_
    simp only [execOp, ho]
    refine run_value ?_
    simp only [Instr.buildSlice, Sem.run_bind, under_run hd, Result.andThen_ok, sizeOf_run hn]
    rw [if_neg hbig]
    have hfill : ∀ zz : Array Value, (len * n = 0 ∨ zz = z.cells) → Instr.fill (fun i => some (i * n, n)) ((Array.range (len * n)).map (zz[· % zz.size]!)) (parts.map fun (x : Nat × Operand) => (x.1, a.eval x.2)).toList = some ⟨l'⟩ := by
      intro zz hzz
      rw [mapArr]
      rcases hzz with h0 | rfl
      · rw [hzs, h0] at k1
        rw [h0]
        rw [show (Array.range 0) = #[] from rfl, Array.map_empty] at k1 ⊢
        exact k1
      · rw [hzs] at k1 ⊢
        exact k1
    by_cases h0 : len * n = 0
    · rw [if_pos h0]
      simp only [Sem.run_bind, Sem.run_pure, Result.andThen_ok]
      rw [hfill #[] (.inl h0)]
      rfl
    · rw [if_neg h0]
      simp only [Sem.run_bind, zeroValue_run z1 z2, Sem.run_pure, Result.andThen_ok]
      rw [hfill z.cells (.inr rfl)]
      rfl

theorem bytesOf_eq : ∀ bs : List UInt8, bytesOf bs.length (strN bs) = bs.map fun c => AV.i .u8 (.ofNat c.toNat)
  | [] => rfl
  | c :: r => by
    have hc : c.toNat < 256 := c.toNat_lt
    show forceN (Nat.mod (strN (c :: r)) 256) (fun x => AV.i .u8 (.ofNat x) :: bytesOf r.length (Nat.div (strN (c :: r)) 256)) = _
    rw [forceN_eq]
    have e1 : Nat.mod (strN (c :: r)) 256 = c.toNat := by show (c.toNat + 256 * strN r) % 256 = _; omega
    have e2 : Nat.div (strN (c :: r)) 256 = strN r := by show (c.toNat + 256 * strN r) / 256 = _; omega
    rw [e1, e2, bytesOf_eq r]; rfl
theorem bytes_rel (φ : Phi) : ∀ bs : List UInt8, VRels φ (bs.map fun c => AV.i .u8 (.ofNat c.toNat)) (bs.map fun c => Value.int .u8 (c.toNat : Int))
  | [] => .nil
  | c :: r => .cons (.i _ _) (bytes_rel φ r)
theorem bytes_one (bs : List UInt8) : ∀ x ∈ (bs.map fun c => AV.i .u8 (.ofNat c.toNat)), x.one = true := by
  intro x hx
  obtain ⟨c, _, rfl⟩ := List.mem_map.1 hx
  rfl

theorem choose_cap (P : Program) (need old : Nat) (el : TypeId) (w : World) (hn : need < 9223372036854775808) : ∃ c, need ≤ c ∧ (choose (.appendCap need old el)).run P w = .ok c w.drew := by
  refine ⟨_, ?_, by rw [run_choose]; simp only [Question.forced, Bool.false_eq_true, if_false]; rfl⟩
  simp only [Question.cut]; omega

theorem freeze_new (w : World) (arr : Array Value) (el : TypeId) (n : Nat) : (w.alloc (.cells arr el)).freeze ⟨w.heap.size, n, none⟩ 1 = w.alloc (.cells arr el (n, n + 1)) := by
  simp only [World.freeze]
  rw [if_neg (by decide)]
  simp only [World.alloc]
  congr 1
  apply Array.ext
  · simp
  · intro i h1 h2
    have h1' : i < w.heap.size + 1 := by simpa using h1
    rw [Array.getElem_modify]
    by_cases hi : w.heap.size = i
    · subst hi
      rw [if_pos rfl]
      simp
    · rw [if_neg hi, Array.getElem_push_lt (by omega), Array.getElem_push_lt (by omega)]
theorem sound_stb {s d e8 : TypeId} {x : Operand} {x' : AX} (ho : o.op = .convert s d x) (hs : P.underlying s = some .string) (hd : P.underlying d = some (.slice e8)) (h8 : P.underlying e8 = some (.int .u8))
    (hx' : axOf x = some x') (e : evOp call (.stb 1 x') tm h = .ok v h') (H : HRel N w0 φ h w) (t : TRel φ tm a) : OpOK P N w0 φ h w (execOp a.eval o) v h' := by
  obtain ⟨l, n, hu, e1⟩ := onS_ok (show onS (ax tm x') (fun l n => cnd (Nat.blt l 4611686018427387904) (.ok (.sl h.nx 0 l UNK) (newBlk h (ofL (bytesOf l n)) l 1)) .no) = .ok v h' from e)
  obtain ⟨c1, e2⟩ := cnd_eq_ok e1
  cases e2
  have c1 := blt_true c1
  have ru := t.ax hx' hu
  generalize hcu : a.eval x = cu at ru
  cases ru with
  | s bs =>
  rw [bytesOf_eq]
  obtain ⟨c, hc, hrun⟩ := choose_cap P bs.length 0 e8 w (by omega)
  have hsz : (ByteArray.mk bs.toArray).size = bs.length := by simp [ByteArray.size]
  generalize harr : ((bs.map fun c => Value.int .u8 (c.toNat : Int)).toArray ++ Array.replicate (c - bs.length) (.int .u8 0)) = arr
  have harrsz : arr.size = c := by rw [← harr]; simp; omega
  have htake : arr.toList.take bs.length = bs.map fun c => Value.int .u8 (c.toNat : Int) := by
    rw [← harr]
    simp only [Array.toList_append, List.toList_toArray]
    rw [List.take_append_of_le_length (by simp), List.take_of_length_le (by simp)]
  refine OpOK.news H (cells := bs.map fun c => AV.i .u8 (.ofNat c.toNat)) (arr := arr) (elem := e8) (fz := (arr.size, arr.size + 1)) (c := c) (w1 := w.drew) (by simp) (bytes_one bs)
    (fun o ho h => by simp only at h; omega) (by simp [harrsz]; exact hc) (by simp only [List.length_map]; rw [htake]; exact bytes_rel φ bs) (.inl rfl) hc (by rw [harrsz]; omega) ⟨rfl, rfl, rfl, rfl⟩ ?_
  simp only [execOp, ho, hcu]
  refine run_value ?_
  simp only [convert, Sem.run_bind, under_run hs, under_run hd, Result.andThen_ok, under_run h8, Conv.stringToBytes, hsz, hrun]
  have hdata : (Array.map (fun b : UInt8 => Value.int .u8 (b.toNat : Int)) bs.toArray ++ Array.replicate (c - bs.length) (.int .u8 0)) = arr := by rw [← harr]; simp
  rw [hdata, newRow_run]
  simp only [Result.andThen_ok, markStringish, Sem.run_bind, run_shape]
  have hshape : (w.drew.alloc (.cells arr e8)).shape? w.drew.heap.size = some (e8, arr.size) := by
    simp only [World.shape?, heap_alloc_new]
  rw [hshape]
  simp only [run_freeze, Result.andThen_ok, Sem.run_pure]
  have hfr := freeze_new w.drew arr e8 arr.size
  rw [hfr]
  rfl

theorem sound_st {ty : TypeId} {x y : Operand} (ho : o.op = .store ty x y) (hc : compOp P o = some op) (e : evOp call op tm h = .ok v h')
    (H : HRel N w0 φ h w) (t : TRel φ tm a) : OpOK P N w0 φ h w (execOp a.eval o) v h' := by
  simp only [compOp, ho, Option.bind_eq_bind, Option.bind_eq_some_iff, Option.some.injEq] at hc
  obtain ⟨x', hx', y', hy', n, hn, hop⟩ := hc
  subst hop
  obtain ⟨b, q, hu, e1⟩ := onP_ok (show onP (ax tm x') (fun b o => onO (ax tm y') .no fun v =>
    cnd (Nat.beq (listLen (cellsOf v)) n) (cnd (ones (cellsOf v)) (onO (writeL h b o n (cellsOf v)) .no fun h => .ok (.tup []) h) .no) .no) = .ok v h' from e)
  obtain ⟨z, hz, e2⟩ := onO_eq_ok e1
  obtain ⟨c1, e3⟩ := cnd_eq_ok e2
  obtain ⟨c2, e4⟩ := cnd_eq_ok e3
  obtain ⟨h1, hw, e5⟩ := onO_eq_ok e4
  cases e5
  have c1 := beq_true c1
  rw [listLen_eq] at c1
  have ru := t.ax hx' hu
  have rz := (t.ax hy' hz).cells
  generalize hcu : a.eval x = cu at ru
  cases ru with
  | @p _ _ L hL =>
  obtain ⟨B, Q, hle, W⟩ := writeL_some hw (H.rootNe hL)
  obtain ⟨w', k1, k2, k3⟩ := H.wrote (P := P) hL W (by rw [c1]; exact hle) rz c2
  refine ⟨.skip, w', φ, ?_, .inr ⟨rfl, rfl⟩, Ext.refl φ, k2, k3⟩
  simp only [execOp, ho, hcu]
  refine run_skip ?_
  have hsz : ¬ (a.eval y).cells.size ≠ n := by
    intro hne; apply hne
    rw [← Array.length_toList, ← rz.length, c1]
  simp only [Instr.storeAt, Instr.sureAddr, Sem.run_bind, Sem.run_pure, Result.andThen_ok, storeVar, sizeOf_run hn]
  rw [if_neg hsz]
  exact k1
end
end Go.Abs
