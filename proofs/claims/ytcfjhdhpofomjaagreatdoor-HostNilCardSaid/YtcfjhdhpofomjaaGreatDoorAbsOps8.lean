/- append and copy. -/
import Derived.Test.YtcfjhdhpofomjaaGreatDoorAbsOps7
set_option linter.unusedSectionVars false
set_option linter.unusedSimpArgs false
set_option linter.unusedVariables false
set_option linter.constructorNameAsVariable false
namespace Go.Abs
variable [Env] [Fr]
open Go.RowKit

section
variable {P : Program} {N : Nat} {w0 w : World} {φ : Phi} {h h' : Hp} {tm : T AV} {a : Act} {o : Oper} {op : AOp} {v : AV} {call : Cl}

theorem cell_heap {w w2 : World} (e : w2.heap = w.heap) (x : Addr) : w2.cell? x = w.cell? x := by simp only [World.cell?, e]

/-- The cells of what is appended or copied. -/
theorem cells_for (H : HRel N w0 φ h w) {x : AV} {cx : Value} (rx : VRel φ x cx) {stride k : Nat} {l : List AV} (e : cellsFor h stride x = some (k, l)) :
    (∀ w2, (Builtin.lenOf cx).run P w2 = .ok k w2) ∧ l.length = k * stride ∧ (∀ u ∈ l, u.one = true) ∧
    ∀ n, n ≤ k → ∃ arr : Array Value, (∀ w2, w2.heap = w.heap → (Builtin.firstCells stride n cx).run P w2 = .ok arr w2) ∧ VRels φ (l.take (n * stride)) arr.toList := by
  unfold cellsFor at e
  split at e
  · cases e; cases rx
    refine ⟨fun _ => rfl, by simp, by simp, fun n hn => ⟨#[], fun _ _ => rfl, by simp; exact .nil⟩⟩
  · obtain ⟨c1, e1⟩ := cnd_eq_some e
    have c1 := beq_true c1
    cases e1
    subst c1
    cases rx with
    | s bs =>
    rw [bytesOf_eq]
    have hsz : (ByteArray.mk bs.toArray).size = bs.length := by simp [ByteArray.size]
    refine ⟨fun _ => by simp [Builtin.lenOf, hsz], by simp, bytes_one bs, fun n hn => ?_⟩
    refine ⟨(((ByteArray.mk bs.toArray).extract 0 n).data.map fun b => .int .u8 b.toNat), fun w2 _ => rfl, ?_⟩
    have : (((ByteArray.mk bs.toArray).extract 0 n).data.map fun b : UInt8 => Value.int .u8 (b.toNat : Int)).toList = (bs.map fun c => Value.int .u8 (c.toNat : Int)).take n := by
      rw [Array.toList_map]
      have : ((ByteArray.mk bs.toArray).extract 0 n).data.toList = bs.take n := by simp
      rw [this, List.map_take]
    rw [this, Nat.mul_one]
    exact (bytes_rel φ bs).take n
  · rename_i b q len cap
    cases h0 : Nat.beq len 0 with
    | true =>
      rw [h0] at e; cases e
      have h0 := beq_true h0
      subst h0
      have zero : ∀ (A : Addr) (n c : Nat), n ≤ 0 → ∃ arr : Array Value, (∀ w2, w2.heap = w.heap → (Builtin.firstCells stride n (.slice (some A) 0 c)).run P w2 = .ok arr w2) ∧ VRels φ (([] : List AV).take (n * stride)) arr.toList := by
        intro A n c hn
        obtain rfl : n = 0 := by omega
        exact ⟨#[], fun _ _ => by simp [Builtin.firstCells, loadCells, loadCellsFrom], by simp; exact .nil⟩
      cases rx with
      | sl => exact ⟨fun _ => rfl, by simp, by simp, fun n hn => zero _ n _ hn⟩
      | sl0 => exact ⟨fun _ => rfl, by simp, by simp, fun n hn => zero _ n _ hn⟩
    | false =>
      rw [h0, cnd_false] at e
      obtain ⟨l', hl', e1⟩ := onO_eq_some e
      cases e1
      obtain ⟨B, hB, e2⟩ := onO_eq_some hl'
      cases rx with
      | sl0 => cases h0
      | @sl _ _ _ _ c L hL hc hlen hr =>
        obtain ⟨ys, k1, k2, k3, k4⟩ := H.readN hL hB e2
        have k1 : ys.length = k * stride := k1
        refine ⟨fun _ => rfl, by rw [k2.length, k1], k3, fun n hn => ?_⟩
        refine ⟨(ys.take (n * stride)).toArray, fun w2 hw2 => ?_, by simpa using k2.take (n * stride)⟩
        have hle : n * stride ≤ k * stride := Nat.mul_le_mul_right _ hn
        simp only [Builtin.firstCells]
        refine run_loadCells_of P (by simp; omega) (fun j u hu => ?_)
        rw [cell_heap hw2]
        rw [List.getElem?_take] at hu
        split at hu
        · exact k4 j u hu
        · cases hu
  · cases e

theorem cap_small {need old bytes : Nat} (h1 : old < need) (h2 : need * bytes ≤ 1099511627776) : Builtin.nextslicecap need old * bytes ≤ 2 ^ 48 := by
  have key : Builtin.nextslicecap need old ≤ 2 * need + 192 := by
    unfold Builtin.nextslicecap
    split
    · omega
    · split
      · omega
      · have grow : ∀ r c, c ≤ 2 * need + 192 → Builtin.growBy need r c ≤ 2 * need + 192 := by
          intro r
          induction r with
          | zero => intro c hc; exact hc
          | succ r ih =>
            intro c hc
            simp only [Builtin.growBy]
            split
            · exact hc
            · exact ih _ (by omega)
        exact grow 4 old (by omega)
  have hb : bytes ≤ 1099511627776 := Nat.le_trans (Nat.le_mul_of_pos_left bytes (by omega : 0 < need)) h2
  have : Builtin.nextslicecap need old * bytes ≤ (2 * need + 192) * bytes := Nat.mul_le_mul_right _ key
  have h3 : (2 * need + 192) * bytes = 2 * (need * bytes) + 192 * bytes := by rw [Nat.add_mul, Nat.mul_assoc]
  omega

theorem max_i64 : IntKind.i64.max = 9223372036854775807 := by decide
/-- An append that does not fit. -/
theorem append_grow_run {ty ty2 el size bytes k sLen sCap : Nat} {d2 : TypeDesc} {i : TypeInfo} {z x : Value} {base : Option Addr} (hd : P.underlying ty = some (.slice el)) (hd2 : P.underlying ty2 = some d2) (hd2' : ∀ j, d2 ≠ .int j)
    (hi : P.info? el = some i) (hsize : i.size = size) (hbytes : i.bytes = bytes) (hz : i.zero = some z) (rt : TypeId)
    (hlen : ∀ w2, (Builtin.lenOf x).run P w2 = .ok k w2) (hgt : sCap < sLen + k) (hb : (sLen + k) * bytes ≤ 1099511627776) (hsm : sLen + k < 4611686018427387904)
    {old new : Array Value} (hold : ∀ w2, w2.heap = w.heap → (Builtin.firstCells size sLen (.slice base sLen sCap)).run P w2 = .ok old w2) (hnew : ∀ w2, w2.heap = w.heap → (Builtin.firstCells size k x).run P w2 = .ok new w2) :
    ∃ c, sLen + k ≤ c ∧ (Builtin.append_ #[ty, ty2] rt #[.slice base sLen sCap, x]).run P w =
      .ok (.slice (some ⟨w.heap.size, 0, none⟩) (sLen + k) c) (w.drew.alloc (.cells (old ++ new ++ Builtin.zeroCells z.cells (c - (sLen + k))) el)) := by
  obtain ⟨c, hc, hrun⟩ := choose_cap P (sLen + k) sCap el w (by omega)
  refine ⟨c, hc, ?_⟩
  have hty : (typeInfo el).run P w = .ok i w := by simp [typeInfo, hi]
  have hty' : ∀ w2, (typeInfo el).run P w2 = .ok i w2 := fun w2 => by simp [typeInfo, hi]
  have hso : ∀ w2, (sizeOf el).run P w2 = .ok size w2 := fun w2 => by simp [sizeOf, typeInfo, hi, hsize]
  have hzv : ∀ w2, (zeroValue el).run P w2 = .ok z w2 := fun w2 => zeroValue_run hi hz w2
  have hm : ((d2 matches TypeDesc.int _) = true) = False := by
    cases d2 <;> simp
    rename_i j; exact hd2' j rfl
  simp only [Builtin.append_, List.getElem?_toArray, List.getElem?_cons_zero, List.getElem?_cons_succ, Sem.run_bind, under_run hd, Result.andThen_ok, hso, under_run hd2, Sem.run_pure]
  rw [if_neg Bool.false_ne_true]
  simp only [Sem.run_bind, hlen, Result.andThen_ok]
  rw [if_neg (by omega)]
  simp only [Sem.run_bind, hty, Result.andThen_ok]
  rw [if_neg (by rw [max_i64]; intro hh; have := hh.1; omega)]
  simp only [Sem.run_bind, hty, Result.andThen_ok, hbytes]
  rw [if_neg (by have := cap_small hgt hb; omega)]
  simp only [Sem.run_bind, hrun, hty', Result.andThen_ok, run_askRoom, hold w.drew rfl]
  rw [if_pos (by rfl)]
  simp only [hnew w.drew rfl, Result.andThen_ok, hzv, newRow_run, Sem.run_pure]
  rfl
/-- An append in place. -/
theorem append_room_run {ty ty2 el size k sLen sCap : Nat} {d2 : TypeDesc} {x : Value} {base : Option Addr} (hd : P.underlying ty = some (.slice el)) (hd2 : P.underlying ty2 = some d2) (hd2' : ∀ j, d2 ≠ .int j)
    (hn : sz P el = some size) (rt : TypeId)
    (hlen : ∀ w2, (Builtin.lenOf x).run P w2 = .ok k w2) (hle : sLen + k ≤ sCap) {new : Array Value} (hnew : (Builtin.firstCells size k x).run P w = .ok new w) {w' : World}
    (hst : ∀ A, base = some A → (storeCells (A.add (sLen * size)) new.toList).run P w = .ok () w') (hnone : base = none → w' = w) :
    (Builtin.append_ #[ty, ty2] rt #[.slice base sLen sCap, x]).run P w = .ok (.slice base (sLen + k) sCap) w' := by
  have hm : ((d2 matches TypeDesc.int _) = true) = False := by
    cases d2 <;> simp
    rename_i j; exact hd2' j rfl
  simp only [Builtin.append_, List.getElem?_toArray, List.getElem?_cons_zero, List.getElem?_cons_succ, Sem.run_bind, under_run hd, Result.andThen_ok, sizeOf_run hn, under_run hd2, Sem.run_pure]
  rw [if_neg Bool.false_ne_true]
  simp only [Sem.run_bind, hlen, Result.andThen_ok]
  rw [if_pos hle]
  simp only [Sem.run_bind]
  rw [if_pos (by rfl)]
  simp only [hnew, Result.andThen_ok]
  cases base with
  | none => rw [hnone rfl]; rfl
  | some A => simp only [Sem.run_bind, hst A rfl, Result.andThen_ok, Sem.run_pure]
end
end Go.Abs
