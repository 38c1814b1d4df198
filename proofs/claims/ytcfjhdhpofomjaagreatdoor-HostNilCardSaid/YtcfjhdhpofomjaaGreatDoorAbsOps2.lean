/- Operations that leave the world alone: slices, strings, parts. -/
import Derived.Test.YtcfjhdhpofomjaaGreatDoorAbsOps1
set_option linter.unusedSectionVars false
set_option linter.unusedSimpArgs false
set_option linter.unusedVariables false
set_option linter.constructorNameAsVariable false
namespace Go.Abs
variable [Env] [Fr]
open Go.RowKit

section
variable {P : Program} {N : Nat} {w0 w : World} {φ : Phi} {h h' : Hp} {tm : T AV} {a : Act} {o : Oper} {op : AOp} {v : AV} {call : Cl}

theorem sliceBound_run {k : IntKind} {n y : Nat} (hle : n ≤ y) (code : BoundsCode) (w : World) : (Instr.sliceBound (.int k (n : Int)) y code).run P w = .ok n w := by
  have : ((0 : Int) ≤ (n : Int) ∧ (n : Int) ≤ (y : Int)) := by omega
  simp [Instr.sliceBound, asIntOf, this]
/-- An optional bound: absent, or a number. -/
def BoundOf (a : Act) (x : Option Operand) (n : Option Nat) : Prop :=
  match x, n with
  | none, none => True
  | some x, some n => ∃ k, a.eval x = .int k (n : Int)
  | _, _ => False
theorem TRel.optN (t : TRel φ tm a) {x : Option Operand} {y : Option AX} (hx : axO x = some y) {n : Option Nat} (e : Go.Abs.optN tm y = some n) : BoundOf a x n := by
  cases x with
  | none =>
    simp only [axO, Option.some.injEq] at hx
    subst hx
    cases e; trivial
  | some x =>
    simp only [axO, Option.map_eq_some_iff] at hx
    obtain ⟨z, hz, rfl⟩ := hx
    have e : onO (axN tm z) none (fun n => some (some n)) = some n := e
    obtain ⟨m, hm, e⟩ := onO_eq_some e
    cases e
    exact t.int hz hm

theorem sliceBounds_run {lo hi mx : Option Operand} {l hh m : Option Nat} (h1 : BoundOf a lo l) (h2 : BoundOf a hi hh) (h3 : BoundOf a mx m)
    (isSlice : Bool) (len cap : Nat) (hm : ∀ x, m = some x → x ≤ cap) (hmh : ∀ x, m = some x → hh.isSome)
    (hhh : (hh.getD len) ≤ m.getD cap ∨ (hh = none ∧ m = none)) (hl : l.getD 0 ≤ hh.getD len) (w : World) :
    (Instr.sliceBounds isSlice len cap (lo.map a.eval) (hi.map a.eval) (mx.map a.eval)).run P w = .ok (l.getD 0, hh.getD len, m.getD cap) w := by
  unfold Instr.sliceBounds
  cases mx with
  | none =>
    cases m with
    | some _ => exact h3.elim
    | none =>
      cases hi with
      | none =>
        cases hh with
        | some _ => exact h2.elim
        | none =>
          cases lo with
          | none => cases l with
            | some _ => exact h1.elim
            | none => simp
          | some lo => cases l with
            | none => exact h1.elim
            | some l =>
              obtain ⟨k, hk⟩ := h1
              simp only [Option.getD_some, Option.getD_none] at hl ⊢
              simp [hk, sliceBound_run hl]
      | some hi =>
        cases hh with
        | none => exact h2.elim
        | some hh =>
          obtain ⟨k2, hk2⟩ := h2
          simp only [Option.getD_some, Option.getD_none] at hl hhh ⊢
          have hhh : hh ≤ cap := by rcases hhh with x | ⟨x, _⟩; exact x; cases x
          cases lo with
          | none => cases l with
            | some _ => exact h1.elim
            | none => simp [hk2, sliceBound_run hhh]
          | some lo => cases l with
            | none => exact h1.elim
            | some l =>
              obtain ⟨k, hk⟩ := h1
              simp only [Option.getD_some] at hl ⊢
              simp [hk, hk2, sliceBound_run hl, sliceBound_run hhh]
  | some mx =>
    cases m with
    | none => exact h3.elim
    | some m =>
      obtain ⟨k3, hk3⟩ := h3
      have hm := hm m rfl
      cases hi with
      | none => cases hh with
        | some _ => exact h2.elim
        | none => have := hmh m rfl; simp at this
      | some hi =>
        cases hh with
        | none => exact h2.elim
        | some hh =>
          obtain ⟨k2, hk2⟩ := h2
          simp only [Option.getD_some, Option.getD_none] at hl hhh ⊢
          have hhh : hh ≤ m := by rcases hhh with x | ⟨x, _⟩; exact x; cases x
          cases lo with
          | none => cases l with
            | some _ => exact h1.elim
            | none => simp [hk2, hk3, sliceBound_run hhh, sliceBound_run hm]
          | some lo => cases l with
            | none => exact h1.elim
            | some l =>
              obtain ⟨k, hk⟩ := h1
              simp only [Option.getD_some] at hl ⊢
              simp [hk, hk2, hk3, sliceBound_run hl, sliceBound_run hhh, sliceBound_run hm]

theorem onO_id (x : Option Nat) (d : Nat) : onO x d id = x.getD d := by cases x <;> rfl
theorem optN3_ok {lo hi mx : Option AX} {k : Option Nat → Option Nat → Option Nat → Rv} (e : optN3 tm lo hi mx k = .ok v h') :
    ∃ l hh m, Go.Abs.optN tm lo = some l ∧ Go.Abs.optN tm hi = some hh ∧ Go.Abs.optN tm mx = some m ∧ k l hh m = .ok v h' := by
  unfold optN3 at e
  obtain ⟨l, h1, e⟩ := onO_eq_ok e
  obtain ⟨hh, h2, e⟩ := onO_eq_ok e
  obtain ⟨m, h3, e⟩ := onO_eq_ok e
  exact ⟨l, hh, m, h1, h2, h3, e⟩
theorem ble_true {a b : Nat} (h : Nat.ble a b = true) : a ≤ b := Nat.le_of_ble_eq_true h
theorem beq_true {a b : Nat} (h : Nat.beq a b = true) : a = b := Nat.eq_of_beq_eq_true h

/-- The slice that a slice expression makes of a slice whose capacity is c. -/
theorem sliceK_rel {b : Pth} {off stride lo hi top cc c m : Nat} {L : Loc} {r : AV} (e : sliceK b off stride lo hi top cc = some r) (hb : φ b = some L) (hst : L.stride = stride)
    (hc : (cc = UNK ∧ m = c) ∨ (cc = m ∧ cc ≠ UNK)) (htop : top ≤ m) (hm : m ≤ c) (hroom : L.base + off + c * L.stride ≤ L.lim) :
    lo ≤ hi ∧ hi ≤ m ∧ VRel φ r (.slice (some (if m = lo then ⟨L.blk, L.base + off, none⟩ else (⟨L.blk, L.base + off, none⟩ : Addr).add (lo * stride))) (hi - lo) (m - lo)) := by
  unfold sliceK at e
  obtain ⟨h1, e⟩ := cnd_eq_some e
  obtain ⟨h2, e⟩ := cnd_eq_some e
  have h1 := ble_true h1
  have h2 := ble_true h2
  rw [forceN_eq] at e
  refine ⟨h2, by omega, ?_⟩
  have hroom2 : m ≠ lo → L.base + (off + lo * stride) + (m - lo) * L.stride ≤ L.lim := by
    intro _
    have : m * L.stride ≤ c * L.stride := Nat.mul_le_mul_right _ hm
    have h3 : (m - lo) * L.stride = m * L.stride - lo * L.stride := Nat.sub_mul _ _ _
    have h4 : lo * L.stride ≤ m * L.stride := Nat.mul_le_mul_right _ (by omega)
    rw [hst] at *
    omega
  rcases hc with ⟨hu, hmc⟩ | ⟨hcm, hu⟩
  · have : Nat.beq cc UNK = true := by rw [hu]; rfl
    rw [this, cnd_true, forceN_eq] at e
    cases e
    by_cases hml : m = lo
    · rw [if_pos hml]
      have : Nat.sub hi lo = 0 := by show hi - lo = 0; omega
      rw [show hi - lo = 0 by omega, this, show m - lo = 0 by omega]
      exact .sl0 hb (.inl rfl)
    · rw [if_neg hml, add_addr, Nat.add_assoc]
      exact .sl hb (.inl rfl) (by show hi - lo ≤ m - lo; omega) (hroom2 hml)
  · have : Nat.beq cc UNK = false := by
      cases hq : Nat.beq cc UNK with
      | false => rfl
      | true => exact absurd (beq_true hq) hu
    rw [this, cnd_false, forceN_eq] at e
    by_cases hml : m = lo
    · have h0 : Nat.beq (Nat.sub cc lo) 0 = true := by
        have : Nat.sub cc lo = 0 := by show cc - lo = 0; omega
        rw [this]; rfl
      rw [h0, cnd_true] at e
      cases e
      rw [if_pos hml, show hi - lo = 0 by omega, show m - lo = 0 by omega, show Nat.sub hi lo = 0 from (by show hi - lo = 0; omega), show Nat.sub cc lo = 0 from (by show cc - lo = 0; omega)]
      exact .sl0 hb (.inr rfl)
    · have h0 : Nat.beq (Nat.sub cc lo) 0 = false := by
        cases hq : Nat.beq (Nat.sub cc lo) 0 with
        | false => rfl
        | true => have := beq_true hq; have : cc - lo = 0 := this; omega
      rw [h0, cnd_false, forceN_eq] at e
      cases e
      rw [if_neg hml, add_addr, Nat.add_assoc]
      exact .sl hb (.inr (by show cc - lo = m - lo; omega)) (by show hi - lo ≤ m - lo; omega) (hroom2 hml)

theorem sliceV_rel {b : Pth} {off len cap stride c : Nat} {lo hi mx : Option Nat} {L : Loc} {r : AV} (e : sliceV b off len cap stride lo hi mx = some r) (hb : φ b = some L)
    (hst : L.stride = stride) (hcap : cap = UNK ∨ cap = c) (hl : len ≤ c) (hroom : L.base + off + c * L.stride ≤ L.lim) :
    (∀ x, mx = some x → x ≤ c) ∧ (∀ x, mx = some x → hi.isSome) ∧ ((hi.getD len) ≤ mx.getD c ∨ (hi = none ∧ mx = none)) ∧ lo.getD 0 ≤ hi.getD len ∧
    VRel φ r (.slice (some (if mx.getD c = lo.getD 0 then ⟨L.blk, L.base + off, none⟩ else (⟨L.blk, L.base + off, none⟩ : Addr).add (lo.getD 0 * stride))) (hi.getD len - lo.getD 0) (mx.getD c - lo.getD 0)) := by
  unfold sliceV at e
  have htop : cnd (Nat.beq cap UNK) len cap ≤ c := by
    cases hq : Nat.beq cap UNK with
    | true => exact hl
    | false =>
      rw [cnd_false]
      rcases hcap with e | e
      · rw [e] at hq; cases hq
      · omega
  split at e
  · rename_i m hh
    obtain ⟨h1, e⟩ := cnd_eq_some e
    obtain ⟨h2, e⟩ := cnd_eq_some e
    have h1 := ble_true h1
    have h2 := blt_true h2
    rw [onO_id] at e
    obtain ⟨k1, k2, k3⟩ := sliceK_rel (c := c) (m := m) e hb hst (.inr ⟨rfl, by omega⟩) (Nat.le_refl _) (by omega) hroom
    refine ⟨fun x hx => by cases hx; omega, fun _ _ => rfl, .inl k2, k1, k3⟩
  · cases e
  · rw [onO_id, onO_id] at e
    have hcc : (cap = UNK ∧ c = c) ∨ (cap = c ∧ cap ≠ UNK) := by
      by_cases hu : cap = UNK
      · exact .inl ⟨hu, rfl⟩
      · exact .inr ⟨hcap.resolve_left hu, hu⟩
    obtain ⟨k1, k2, k3⟩ := sliceK_rel (c := c) (m := c) e hb hst hcc htop (Nat.le_refl _) hroom
    exact ⟨(fun x hx => nomatch hx), (fun x hx => nomatch hx), .inl k2, k1, k3⟩

theorem stride_of (H : HRel N w0 φ h w) {b : Pth} {L : Loc} (hb : φ b = some L) {B : Blk} (hB : T.getP b h.m = some B) : L.stride = B.stride ∧ L.base + B.size ≤ L.lim := by
  obtain ⟨B', h1, h2⟩ := H.dom b L hb
  rw [hB] at h1; cases h1
  exact ⟨h2.stride.symm, h2.fits⟩

theorem sound_slc {ty el : TypeId} {x : Operand} {lo hi mx : Option Operand} (ho : o.op = .slice ty x lo hi mx) (hd : P.underlying ty = some (.slice el)) (hc : compOp P o = some op) (e : evOp call op tm h = .ok v h')
    (H : HRel N w0 φ h w) (t : TRel φ tm a) : OpOK P N w0 φ h w (execOp a.eval o) v h' := by
  simp only [compOp, ho, Option.bind_eq_bind, hd, Option.bind_some, Option.bind_eq_some_iff, Option.some.injEq] at hc
  obtain ⟨x', hx', n, hn, lo', hlo, hi', hhi, mx', hmx, rfl⟩ := hc
  have e : oSlc tm h x' n lo' hi' mx' = .ok v h' := e
  unfold oSlc at e
  split at e
  · rename_i b q len cap hb
    obtain ⟨B, hB, e⟩ := onO_eq_ok e
    obtain ⟨hst, e⟩ := cnd_eq_ok e
    have hst := beq_true hst
    obtain ⟨l, hh, m, e1, e2, e3, e⟩ := optN3_ok e
    obtain ⟨hr, rfl⟩ := rv_ok e
    have b1 := t.optN hlo e1
    have b2 := t.optN hhi e2
    have b3 := t.optN hmx e3
    have hv := t.ax hx' hb
    generalize hce : a.eval x = cv at hv
    have key : ∀ (A : Addr) (c : Nat) (y : Value), (∀ x, m = some x → x ≤ c) → (∀ x, m = some x → hh.isSome) → ((hh.getD len) ≤ m.getD c ∨ (hh = none ∧ m = none)) → l.getD 0 ≤ hh.getD len →
        cv = .slice (some A) len c → VRel φ v (.slice (some (if m.getD c = l.getD 0 then A else A.add (l.getD 0 * n))) (hh.getD len - l.getD 0) (m.getD c - l.getD 0)) →
        OpOK P N w0 φ h' w (execOp a.eval o) v h' := by
      intro A c y k1 k2 k3 k4 hcv k5
      refine OpOK.same H ?_ k5
      simp only [execOp, ho, hce, hcv]
      refine run_value ?_
      simp only [Instr.sliceAt, Instr.slice, Sem.run_bind, under_run hd, Result.andThen_ok, sliceBounds_run b1 b2 b3 true len c k1 k2 k3 k4, sizeOf_run hn, Sem.run_pure]
      split <;> rfl
    cases hv with
    | sl hL hcap hle hroom =>
      rename_i c L
      obtain ⟨k1, k2, k3, k4, k5⟩ := sliceV_rel hr hL (by rw [(stride_of H hL hB).1, hst]) hcap hle hroom
      exact key _ c undef k1 k2 k3 k4 rfl k5
    | @sl0 _ _ _ A L hL hcap =>
      -- an empty slice without room: every bound is 0
      have hz : l.getD 0 = 0 ∧ hh.getD 0 = 0 ∧ m.getD 0 = 0 ∧ (∀ x, m = some x → x ≤ 0) ∧ (∀ x, m = some x → hh.isSome) ∧ ∃ q' c', v = .sl b q' 0 c' ∧ (c' = UNK ∨ c' = 0) := by
        have htop : cnd (Nat.beq cap UNK) 0 cap = 0 := by
          rcases hcap with e | e
          · rw [e]; rfl
          · rw [e]; rfl
        unfold sliceV at hr
        rw [htop] at hr
        split at hr
        · rename_i m' hh'
          obtain ⟨h1, hr⟩ := cnd_eq_some hr
          have h1 := ble_true h1
          obtain ⟨_, hr⟩ := cnd_eq_some hr
          rw [onO_id] at hr
          unfold sliceK at hr
          obtain ⟨h2, hr⟩ := cnd_eq_some hr
          obtain ⟨h3, hr⟩ := cnd_eq_some hr
          have h2 := ble_true h2
          have h3 := ble_true h3
          have hm0 : m' = 0 := by omega
          have hh0 : hh' = 0 := by omega
          have hl0 : l.getD 0 = 0 := by omega
          subst hm0 hh0
          rw [hl0] at hr
          rw [forceN_eq] at hr
          have : Nat.beq 0 UNK = false := rfl
          rw [this, cnd_false, forceN_eq] at hr
          cases hr
          exact ⟨hl0, rfl, rfl, fun x hx => by cases hx; exact Nat.le_refl _, fun _ _ => rfl, _, _, rfl, .inr rfl⟩
        · cases hr
        · rw [onO_id, onO_id] at hr
          unfold sliceK at hr
          obtain ⟨h2, hr⟩ := cnd_eq_some hr
          obtain ⟨h3, hr⟩ := cnd_eq_some hr
          have h2 := ble_true h2
          have h3 := ble_true h3
          have hh0 : hh.getD 0 = 0 := by omega
          have hl0 : l.getD 0 = 0 := by omega
          rw [hl0, hh0] at hr
          rw [forceN_eq] at hr
          refine ⟨hl0, hh0, rfl, (fun x hx => nomatch hx), (fun x hx => nomatch hx), ?_⟩
          rcases hcap with e | e
          · have : Nat.beq cap UNK = true := by rw [e]; rfl
            rw [this, cnd_true, forceN_eq] at hr
            cases hr; exact ⟨_, _, rfl, .inl rfl⟩
          · have : Nat.beq cap UNK = false := by rw [e]; rfl
            rw [this, cnd_false, forceN_eq, e] at hr
            cases hr; exact ⟨_, _, rfl, .inr rfl⟩
      obtain ⟨z1, z2, z3, z4, z5, q', c', hv', hc'⟩ := hz
      refine key A 0 undef z4 z5 (.inl (by rw [z2]; exact Nat.zero_le _)) (by rw [z1]; exact Nat.zero_le _) rfl ?_
      rw [z1, z2, z3, hv', if_pos rfl]
      exact .sl0 hL hc'
  · rename_i hb
    obtain ⟨l, hh, m, e1, e2, e3, e⟩ := optN3_ok e
    obtain ⟨c1, e⟩ := cnd_eq_ok e
    obtain ⟨c2, e⟩ := cnd_eq_ok e
    obtain ⟨c3, e⟩ := cnd_eq_ok e
    cases e
    have b1 := t.optN hlo e1
    have b2 := t.optN hhi e2
    have b3 := t.optN hmx e3
    have z1 : l.getD 0 = 0 := by cases l with
      | none => rfl
      | some l => exact beq_true c1
    have z2 : hh.getD 0 = 0 := by cases hh with
      | none => rfl
      | some l => exact beq_true c2
    have z3 : m.getD 0 = 0 ∧ (∀ x, m = some x → x ≤ 0) ∧ ∀ x, m = some x → hh.isSome := by
      cases m with
      | none => exact ⟨rfl, (fun x hx => nomatch hx), (fun x hx => nomatch hx)⟩
      | some k => cases hh with
        | none => cases c3
        | some q =>
          have : k = 0 := beq_true c3
          subst this
          exact ⟨rfl, fun x hx => by cases hx; exact Nat.le_refl _, fun _ _ => rfl⟩
    obtain ⟨z3, z4, z5⟩ := z3
    have hv := t.ax hx' hb
    generalize hce : a.eval x = cv at hv
    cases hv
    refine OpOK.same H (y := .slice none 0 0) ?_ .ns
    simp only [execOp, ho, hce]
    refine run_value ?_
    simp only [Instr.sliceAt, Instr.slice, Sem.run_bind, under_run hd, Result.andThen_ok,
      sliceBounds_run b1 b2 b3 true 0 0 z4 z5 (.inl (by rw [z2]; exact Nat.zero_le _)) (by rw [z1]; exact Nat.zero_le _), sizeOf_run hn, Sem.run_pure]
    rw [z1, z2, z3]; rfl
  · cases e

end
end Go.Abs
