/- Aggregates and slices that are built out of parts; comparisons of aggregates. -/
import Derived.Test.YtcfjhdhpofomjaaGreatDoorAbsOps5
set_option linter.unusedSectionVars false
set_option linter.unusedSimpArgs false
set_option linter.unusedVariables false
set_option linter.constructorNameAsVariable false
namespace Go.Abs
variable [Env] [Fr]
open Go.RowKit

theorem fold_set (off : Nat) : ∀ (l : List Value) (k : Nat) (cells : Array Value), off + k + l.length ≤ cells.size →
    ((l.zipIdx k).foldl (fun (cs : Array Value) (x : Value × Nat) => cs.setIfInBounds (off + x.2) x.1) cells).toList = cells.toList.take (off + k) ++ l ++ cells.toList.drop (off + k + l.length)
  | [], k, cells, h => by simp
  | v :: r, k, cells, h => by
    simp only [List.zipIdx_cons, List.foldl_cons]
    rw [fold_set off r (k + 1) _ (by simp at h ⊢; omega)]
    have := list_seg_step cells.toList (off + k) v r (by simpa [Nat.add_assoc] using h)
    simp only [Array.toList_setIfInBounds]
    rw [show off + (k + 1) = off + k + 1 by omega, show (v :: r).length = r.length + 1 from rfl]
    rw [show off + k + (r.length + 1) = off + k + (r.length + 1) from rfl]
    exact this

section
variable {P : Program} {N : Nat} {w0 w : World} {φ : Phi} {h h' : Hp} {tm : T AV} {a : Act} {o : Oper} {op : AOp} {v : AV} {call : Cl}

inductive PartsRel (place : Nat → Option (Nat × Nat)) : List (Nat × Operand) → List (Nat × Nat × AX) → Prop
  | nil : PartsRel place [] []
  | cons {i off size : Nat} {x : Operand} {y : AX} {xs : List (Nat × Operand)} {ys : List (Nat × Nat × AX)} (hp : place i = some (off, size)) (hx : axOf x = some y) (t : PartsRel place xs ys) :
      PartsRel place ((i, x) :: xs) ((off, size, y) :: ys)

theorem fill_rel {place : Nat → Option (Nat × Nat)} (t : TRel φ tm a) : ∀ {xs : List (Nat × Operand)} {ps : List (Nat × Nat × AX)}, PartsRel place xs ps → ∀ {cells : List AV} {cells' : List Value} {l : List AV},
    VRels φ cells cells' → fillL tm ps cells = some l → ∃ l', Instr.fill place ⟨cells'⟩ (xs.map fun (i, x) => (i, a.eval x)) = some ⟨l'⟩ ∧ VRels φ l l'
  | _, _, .nil, cells, cells', l, hr, e => by
    have : some cells = some l := e
    cases this
    exact ⟨cells', rfl, hr⟩
  | _, _, .cons (i := i) (off := off) (size := size) (x := x) (y := y) hp hx tl, cells, cells', l, hr, e => by
    unfold fillL at e
    obtain ⟨u, hu, e⟩ := onO_eq_some e
    obtain ⟨c1, e⟩ := cnd_eq_some e
    obtain ⟨c2, e⟩ := cnd_eq_some e
    have c1 := beq_true c1
    have c2 := ble_true c2
    rw [listLen_eq] at c1 c2
    have ru := t.ax hx hu
    have hc := ru.cells
    have hlen := hc.length
    have hlen2 := hr.length
    rw [listTake_eq, listDrop_eq] at e
    have hsz : (a.eval x).cells.size = size := by rw [← Array.length_toList, ← hlen]; exact c1
    have hfold : (((a.eval x).cells.zipIdx).foldl (fun (cs : Array Value) (x : Value × Nat) => cs.setIfInBounds (off + x.2) x.1) ⟨cells'⟩) =
        ⟨cells'.take off ++ ((a.eval x).cells.toList ++ cells'.drop (off + size))⟩ := by
      apply Array.ext'
      rw [← Array.foldl_toList, Array.toList_zipIdx]
      have := fold_set off (a.eval x).cells.toList 0 ⟨cells'⟩ (by simp; rw [hsz]; have : off + size ≤ cells.length := c2; omega)
      rw [this]
      simp [hsz]
    obtain ⟨l', k1, k2⟩ := fill_rel t tl (cells := cells.take off ++ (cellsOf u ++ cells.drop (Nat.add off size))) (cells' := cells'.take off ++ ((a.eval x).cells.toList ++ cells'.drop (off + size)))
      ((hr.take off).append (hc.append (hr.drop (off + size)))) e
    refine ⟨l', ?_, k2⟩
    simp only [List.map_cons, Instr.fill, hp]
    rw [if_neg (by simp [hsz]; have : off + size ≤ cells.length := c2; omega)]
    have : ((a.eval x).cells.zipIdx.foldl (fun cs (x : Value × Nat) => match x with | (c, j) => cs.setIfInBounds (off + j) c) (⟨cells'⟩ : Array Value)) =
        ((a.eval x).cells.zipIdx).foldl (fun (cs : Array Value) (x : Value × Nat) => cs.setIfInBounds (off + x.2) x.1) ⟨cells'⟩ := rfl
    rw [this, hfold]; exact k1

theorem zeroOf_run {t : TypeId} {l : List AV} (hz : zeroOf P t = some l) (φ : Phi) : ∃ i z, P.info? t = some i ∧ i.zero = some z ∧ VRels φ l z.cells.toList ∧ ones l = true ∧ l.length = i.size := by
  unfold zeroOf at hz
  simp only [Option.bind_eq_bind, Option.bind_eq_some_iff] at hz
  obtain ⟨i, h1, z, h2, l1, h3, i', h1', h4⟩ := hz
  rw [h1] at h1'; cases h1'
  split at h4
  · rename_i ho
    cases h4
    rw [Bool.and_eq_true] at ho
    exact ⟨i, z, h1, h2, avsOf_rel φ _ _ h3, ho.1, by rw [← listLen_eq]; exact Nat.eq_of_beq_eq_true ho.2⟩
  · cases h4
theorem zeroValue_run {t : TypeId} {i : TypeInfo} {z : Value} (h1 : P.info? t = some i) (h2 : i.zero = some z) (w : World) : (zeroValue t).run P w = .ok z w := by
  simp [zeroValue, typeInfo, h1, h2]

theorem partsS_rel {fs : Array Field} : ∀ {xs : List (Nat × Operand)} {ps : List (Nat × Nat × AX)}, partsS P fs xs = some ps →
    PartsRel (fun i => (fs[i]?).bind fun f => (sz P f.type).map fun n => (f.offset, n)) xs ps
  | [], ps, e => by
    simp only [partsS, Option.some.injEq] at e
    subst e; exact .nil
  | (i, x) :: r, ps, e => by
    simp only [partsS, Option.bind_eq_bind, Option.bind_eq_some_iff, Option.some.injEq] at e
    obtain ⟨f, hf, n, hn, y, hy, k, hk, rfl⟩ := e
    exact .cons (by simp [hf, hn]) hy (partsS_rel hk)
theorem partsA_rel {size : Nat} : ∀ {xs : List (Nat × Operand)} {ps : List (Nat × Nat × AX)}, partsA size xs = some ps →
    PartsRel (fun i => some (i * size, size)) xs ps
  | [], ps, e => by
    simp only [partsA, Option.some.injEq] at e
    subst e; exact .nil
  | (i, x) :: r, ps, e => by
    simp only [partsA, Option.bind_eq_bind, Option.bind_eq_some_iff, Option.some.injEq] at e
    obtain ⟨y, hy, k, hk, rfl⟩ := e
    exact .cons rfl hy (partsA_rel hk)

/-- The parts' places, asked of all fields. -/
theorem places_run (w : World) : ∀ (fs : List Field), (∀ f ∈ fs, (sz P f.type).isSome) → (fs.mapM fun f => (do pure (f.offset, ← sizeOf f.type) : Sem (Nat × Nat))).run P w = .ok (fs.map fun f => (f.offset, (sz P f.type).getD 0)) w
  | [], _ => rfl
  | f :: r, h => by
    obtain ⟨n, hn⟩ := Option.isSome_iff_exists.1 (h f (by simp))
    rw [List.mapM_cons]
    simp only [Sem.run_bind, sizeOf_run hn, Result.andThen_ok, Sem.run_pure, places_run w r (fun g hg => h g (by simp [hg])), List.map_cons, hn, Option.getD_some]

theorem fill_congr {p q : Nat → Option (Nat × Nat)} : ∀ {xs : List (Nat × Value)} {c : Array Value}, (∀ i v, (i, v) ∈ xs → p i = q i) → Instr.fill p c xs = Instr.fill q c xs
  | [], c, _ => rfl
  | (i, v) :: r, c, h => by
    simp only [Instr.fill, h i v (by simp)]
    split
    · rfl
    · split
      · rfl
      · exact fill_congr (fun j u hu => h j u (by simp [hu]))

theorem sound_build {ty : TypeId} {parts : Array (Nat × Operand)} (ho : o.op = .build ty parts) (hc : compOp P o = some op) (e : evOp call op tm h = .ok v h')
    (H : HRel N w0 φ h w) (t : TRel φ tm a) : OpOK P N w0 φ h w (execOp a.eval o) v h' := by
  simp only [compOp, ho, Option.bind_eq_bind, Option.bind_eq_some_iff] at hc
  obtain ⟨d, hd, hc⟩ := hc
  have mapArr : (parts.map fun (x : Nat × Operand) => (x.1, a.eval x.2)).toList = parts.toList.map fun (i, x) => (i, a.eval x) := by simp
  split at hc
  · rename_i fs
    split at hc
    · rename_i hall
      simp only [Option.bind_eq_some_iff, Option.some.injEq] at hc
      obtain ⟨zl, hz, ps, hps, hop⟩ := hc
      subst hop
      obtain ⟨l, hl, e1⟩ := onO_eq_ok (show onO (fillL tm ps zl) Rv.no (fun l => .ok (.agg l) h) = .ok v h' from e)
      cases e1
      obtain ⟨i, z, z1, z2, z3, _⟩ := zeroOf_run hz φ
      obtain ⟨l', k1, k2⟩ := fill_rel t (partsS_rel hps) z3 hl
      refine OpOK.same H (y := .agg ⟨l'⟩) ?_ (.agg k2)
      simp only [execOp, ho]
      refine run_value ?_
      have hall : ∀ f ∈ fs.toList, (sz P f.type).isSome := by
        intro f hf
        have := List.all_eq_true.1 hall f hf
        exact this
      simp only [Instr.build, Sem.run_bind, zeroValue_run z1 z2, under_run hd, Result.andThen_ok]
      rw [Array.mapM_eq_mapM_toList]
      simp only [Sem.run_map, places_run w fs.toList hall, Result.andThen_ok, Sem.run_pure]
      have : Instr.fill (fun x => (fs.toList.map fun f => (f.offset, (sz P f.type).getD 0)).toArray[x]?) z.cells (parts.map fun (x : Nat × Operand) => (x.1, a.eval x.2)).toList = some ⟨l'⟩ := by
        rw [mapArr, ← k1]
        refine fill_congr (fun j u hu => ?_)
        simp only [List.getElem?_toArray, List.getElem?_map, Array.getElem?_toList]
        cases hf : fs[j]? with
        | none => rfl
        | some f =>
          obtain ⟨n, hn⟩ := Option.isSome_iff_exists.1 (hall f (by rw [Array.mem_toList_iff]; exact Array.mem_of_getElem? hf))
          simp [hn]
      rw [this]
      rfl
    · cases hc
  · rename_i m el
    simp only [Option.bind_eq_some_iff, Option.some.injEq] at hc
    obtain ⟨zl, hz, n, hn, ps, hps, hop⟩ := hc
    subst hop
    obtain ⟨l, hl, e1⟩ := onO_eq_ok (show onO (fillL tm ps zl) Rv.no (fun l => .ok (.agg l) h) = .ok v h' from e)
    cases e1
    obtain ⟨i, z, z1, z2, z3, _⟩ := zeroOf_run hz φ
    obtain ⟨l', k1, k2⟩ := fill_rel t (partsA_rel hps) z3 hl
    refine OpOK.same H (y := .agg ⟨l'⟩) ?_ (.agg k2)
    simp only [execOp, ho]
    refine run_value ?_
    simp only [Instr.build, Sem.run_bind, zeroValue_run z1 z2, under_run hd, sizeOf_run hn, Result.andThen_ok]
    have : Instr.fill (fun i => some (i * n, n)) z.cells (parts.map fun (x : Nat × Operand) => (x.1, a.eval x.2)).toList = some ⟨l'⟩ := by
      rw [mapArr]; exact k1
    rw [this]
    rfl
  · cases hc
end
end Go.Abs
