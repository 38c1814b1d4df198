/- min and max, comparisons of aggregates, slices of arrays, copy. -/
import Derived.Test.YtcfjhdhpofomjaaGreatDoorAbsOps9
set_option linter.unusedSectionVars false
set_option linter.unusedSimpArgs false
set_option linter.unusedVariables false
set_option linter.constructorNameAsVariable false
namespace Go.Abs
variable [Env] [Fr]
open Go.RowKit

section
variable {P : Program} {N : Nat} {w0 w : World} {φ : Phi} {h h' : Hp} {tm : T AV} {a : Act} {o : Oper} {op : AOp} {v : AV} {call : Cl}

theorem minmax_rel (g : Bool) : ∀ (l : List AV) (u : AV) (ys : List Value) (y : Value), VRel φ u y → VRels φ l ys → ∀ {v : AV}, minmaxL g u l = some v →
    ∃ z, (ys.foldlM (if g then Builtin.max2 else Builtin.min2) y).run P w = .ok z w ∧ VRel φ v z
  | [], u, ys, y, hu, hl, v, e => by
    cases hl
    have : some u = some v := by cases u <;> exact e
    cases this
    exact ⟨y, rfl, hu⟩
  | x :: r, u, ys, y, hu, hl, v, e => by
    cases hl with
    | cons hx hr =>
    rename_i y2 ys'
    unfold minmaxL at e
    split at e
    · rename_i heq; cases heq
    · rename_i k p j q r' heq
      cases heq
      obtain ⟨c1, e9⟩ := cnd_eq_some e
      have hkk := kindEq_true c1
      subst hkk
      cases hu; cases hx
      rw [intLt_eq, intLt_eq] at e9
      rw [List.foldlM_cons]
      cases g with
      | true =>
        rw [cnd_true] at e9
        simp only [if_true, Builtin.max2, Sem.run_bind, Sem.run_pure, Result.andThen_ok]
        by_cases hlt : p < q
        · simp only [hlt, decide_true, cnd_true] at e9
          rw [if_pos hlt]
          exact minmax_rel true r _ ys' _ (.i _ _) hr e9
        · simp only [hlt, decide_false, cnd_false] at e9
          rw [if_neg hlt]
          exact minmax_rel true r _ ys' _ (.i _ _) hr e9
      | false =>
        rw [cnd_false] at e9
        simp only [Bool.false_eq_true, if_false, Builtin.min2, Sem.run_bind, Sem.run_pure, Result.andThen_ok]
        by_cases hlt : q < p
        · simp only [hlt, decide_true, cnd_true] at e9
          rw [if_pos hlt]
          exact minmax_rel false r _ ys' _ (.i _ _) hr e9
        · simp only [hlt, decide_false, cnd_false] at e9
          rw [if_neg hlt]
          exact minmax_rel false r _ ys' _ (.i _ _) hr e9
    · cases e
theorem sound_minmax {g : Bool} {args : Array Operand} {argTypes : Array TypeId} {ys : List AX} (ho : o.op = .call { callee := .builtin (if g then .max else .min), args, argTypes }) (hys : axsOf args.toList = some ys)
    (e : evOp call (.minmax g ys) tm h = .ok v h') (H : HRel N w0 φ h w) (t : TRel φ tm a) : OpOK P N w0 φ h w (execOp a.eval o) v h' := by
  have e0 : oMinmax tm h g ys = .ok v h' := e
  unfold oMinmax at e0
  split at e0
  · rename_i u r hl
    obtain ⟨e1, hh⟩ := rv_ok e0
    subst hh
    have hr := t.axs hys hl
    generalize hlv : args.toList.map a.eval = lv at hr
    cases hr with
    | cons hu hr =>
    rename_i y ys'
    obtain ⟨z, k1, k2⟩ := minmax_rel (P := P) (w := w) g r u ys' y hu hr e1
    refine OpOK.same H ?_ k2
    obtain ⟨cs, hcs⟩ := run_builtin (P := P) ho a.eval w
    rw [hcs]
    have hl2 : (args.map a.eval).toList = y :: ys' := by simpa using hlv
    cases g with
    | true =>
      simp only [if_true] at k1 ⊢
      refine run_value ?_
      simp only [Builtin.max_, hl2]; exact k1
    | false =>
      simp only [Bool.false_eq_true, if_false] at k1 ⊢
      refine run_value ?_
      simp only [Builtin.min_, hl2]; exact k1
  · cases e0

theorem sound_copy {ty el : TypeId} {args : Array Operand} {argTypes : Array TypeId} {d s : Operand} {d' s' : AX} {n : Nat} (ho : o.op = .call { callee := .builtin .copy, args, argTypes })
    (hty : argTypes[0]? = some ty) (hd0 : args[0]? = some d) (hs0 : args[1]? = some s) (hd : P.underlying ty = some (.slice el)) (hn : sz P el = some n) (hd' : axOf d = some d') (hs' : axOf s = some s')
    (e : evOp call (.copy n d' s') tm h = .ok v h') (H : HRel N w0 φ h w) (t : TRel φ tm a) : OpOK P N w0 φ h w (execOp a.eval o) v h' := by
  have e0 : oCopy tm h n d' s' = .ok v h' := e
  unfold oCopy at e0
  obtain ⟨sv, hsv, e1⟩ := onO_eq_ok e0
  obtain ⟨⟨k, l⟩, hcf, e2⟩ := onO_eq_ok e1
  simp only at e2
  have rs := t.ax hs' hsv
  obtain ⟨q1, q2, q3, q4⟩ := cells_for (P := P) H rs hcf
  have hm0 := getElem_map_eval args 0 hd0 a.eval
  have hm1 := getElem_map_eval args 1 hs0 a.eval
  -- nothing, or something, is copied
  have fin : ∀ (A : Option Addr) (len c : Nat) (w' : World) (hh : Hp), a.eval d = .slice A len c → (∀ arr : Array Value, (Builtin.firstCells n (Nat.min k len) (a.eval s)).run P w = .ok arr w → VRels φ (l.take (Nat.min k len * n)) arr.toList →
      (∀ B, A = some B → (storeCells B arr.toList).run P w = .ok () w') ∧ (A = none → w' = w)) → HRel N w0 φ hh w' → Keep φ φ h hh → OpOK P N w0 φ h w (execOp a.eval o) (.i .i64 (.ofNat (Nat.min k len))) hh := by
    intro A len c w' hh hA hst H' K'
    obtain ⟨arr, g1, g2⟩ := q4 (Nat.min k len) (Nat.min_le_left _ _)
    obtain ⟨s1, s2⟩ := hst arr (g1 w rfl) g2
    obtain ⟨cs, hcs⟩ := run_builtin (P := P) ho a.eval w
    refine ⟨_, w', φ, by
      rw [hcs]
      refine run_value (y := .int .i64 ((Nat.min k len : Nat) : Int)) ?_
      simp only [Builtin.copy_, hty, hm0, hm1, hA, Sem.run_bind, under_run hd, Result.andThen_ok, q1, sizeOf_run hn, g1 w rfl]
      cases A with
      | none => rw [s2 rfl]; rfl
      | some B => simp only [Sem.run_bind, s1 B rfl, Result.andThen_ok, Sem.run_pure]; rfl, .inl ⟨_, rfl, .i _ _⟩, Ext.refl φ, H', K'⟩
  have nothing : ∀ (A : Option Addr) (len c : Nat), a.eval d = .slice A len c → Nat.min k len = 0 → OpOK P N w0 φ h w (execOp a.eval o) (.i .i64 (.ofNat 0)) h := by
    intro A len c hA hz
    have := fin A len c w h hA (fun arr _ g2 => by
      rw [hz, Nat.zero_mul, List.take_zero] at g2
      have : arr.toList = [] := List.eq_nil_of_length_eq_zero (by rw [← g2.length]; rfl)
      exact ⟨fun B _ => by rw [this]; rfl, fun _ => rfl⟩) H (Keep.refl φ h)
    rwa [hz] at this
  split at e2
  · rename_i hdv
    cases e2
    have rd := t.ax hd' hdv
    generalize hcd : a.eval d = cd at rd
    cases rd
    exact nothing none 0 0 hcd (by simp)
  · rename_i b q len cap hdv
    have rd := t.ax hd' hdv
    unfold copyTo at e2
    rw [forceN_eq] at e2
    generalize hcd : a.eval d = cd at rd
    cases hz : Nat.beq (Nat.min k len) 0 with
    | true =>
      rw [hz] at e2; cases e2
      have hz := beq_true hz
      cases rd with
      | sl => exact nothing _ _ _ hcd hz
      | sl0 => exact nothing _ _ _ hcd hz
    | false =>
      rw [hz, cnd_false] at e2
      obtain ⟨h1, hw, e3⟩ := onO_eq_ok e2
      cases e3
      cases rd with
      | sl0 => simp at hz
      | @sl _ _ _ _ c L hL hc hl hr =>
        obtain ⟨B, Q, hle, W⟩ := writeL_some hw (H.rootNe hL)
        rw [listTake_eq] at W
        have W : Wrote h h' b B Q q (l.take (Nat.min k len * n)) := W
        have hlen : (l.take (Nat.min k len * n)).length = Nat.min k len * n := by
          rw [List.length_take, q2]
          have : Nat.min k len * n ≤ k * n := Nat.mul_le_mul_right _ (Nat.min_le_left _ _)
          omega
        obtain ⟨arr, g1, g2⟩ := q4 (Nat.min k len) (Nat.min_le_left _ _)
        have hones : ones (l.take (Nat.min k len * n)) = true := by
          have : ∀ m : List AV, (∀ x ∈ m, x.one = true) → ones m = true := by
            intro m
            induction m with
            | nil => intro _; rfl
            | cons x r ih => intro hx; show cnd x.one (ones r) false = true; rw [hx x (by simp), ih fun y hy => hx y (by simp [hy])]; rfl
          exact this _ fun x hx => q3 x (List.mem_of_mem_take hx)
        obtain ⟨w', k1, k2, k3⟩ := H.wrote (P := P) hL W (by rw [hlen]; exact hle) g2 hones
        refine fin _ len c w' h' hcd (fun arr' ga _ => ?_) k2 k3
        rw [g1 w rfl] at ga
        cases ga
        exact ⟨fun B' hB' => by cases hB'; exact k1, fun h => by cases h⟩
  · cases e2

theorem sound_slca {ty el : TypeId} {m : Nat} {x : Operand} {lo hi mx : Option Operand} (ho : o.op = .slice ty x lo hi mx) (hd : P.underlying ty = some (.array m el)) (hc : compOp P o = some op) (e : evOp call op tm h = .ok v h')
    (H : HRel N w0 φ h w) (t : TRel φ tm a) : OpOK P N w0 φ h w (execOp a.eval o) v h' := by
  simp only [compOp, ho, Option.bind_eq_bind, hd, Option.bind_some, Option.bind_eq_some_iff, Option.some.injEq] at hc
  obtain ⟨x', hx', n, hn, lo', hlo, hi', hhi, mx', hmx, hop⟩ := hc
  subst hop
  have e0 : oSlca tm h x' m n lo' hi' mx' = .ok v h' := e
  unfold oSlca at e0
  obtain ⟨b, q, hp, e1⟩ := onP_ok e0
  obtain ⟨B, hB, e2⟩ := onO_eq_ok e1
  obtain ⟨c1, e3⟩ := cnd_eq_ok e2
  obtain ⟨c2, e4⟩ := cnd_eq_ok e3
  obtain ⟨c3, e5⟩ := cnd_eq_ok e4
  obtain ⟨l1, l2, l3, g1, g2, g3, e6⟩ := optN3_ok e5
  obtain ⟨hr, hh⟩ := rv_ok e6
  subst hh
  have c1 := beq_true c1
  have c2 : q + m * n ≤ B.size := ble_true c2
  have b1 := t.optN hlo g1
  have b2 := t.optN hhi g2
  have b3 := t.optN hmx g3
  have hv := t.ax hx' hp
  generalize hce : a.eval x = cv at hv
  cases hv with
  | @p _ _ L hL =>
  have hst := stride_of H hL hB
  obtain ⟨k1, k2, k3, k4, k5⟩ := sliceV_rel (c := m) hr hL (by rw [hst.1, c1]) (.inr rfl) (Nat.le_refl _) (by rw [hst.1, c1]; omega)
  refine OpOK.same H ?_ k5
  simp only [execOp, ho, hce]
  refine run_value ?_
  simp only [Instr.sliceAt, Sem.run_bind, under_run hd, Result.andThen_ok, Instr.sureAddr, Sem.run_pure, sliceBounds_run b1 b2 b3 false m m k1 k2 k3 k4, sizeOf_run hn]

theorem flat_eq {d : TypeDesc} {ty : TypeId} (hd : P.underlying ty = some d) {c : Nat} (hc : (c = 0 ∧ d = .bool) ∨ (c = 1 ∧ ∃ k, d = .int k) ∨ (c = 2 ∧ d = .string)) {x y : AV} {cx cy : Value} (hx : VRel φ x cx) (hy : VRel φ y cy) {r : Bool} (e : eqFlat c x y = some r) (n : Nat) (w : World) :
    (Op.equalIn (n + 1) ty cx cy).run P w = .ok r w := by
  unfold eqFlat at e
  split at e
  · cases e
    obtain ⟨_, rfl⟩ : (0 : Nat) = 0 ∧ d = .bool := by rcases hc with h | ⟨h, _⟩ | ⟨h, _⟩ <;> first | exact h | cases h
    cases hx; cases hy
    rw [run_equalIn_bool' w n ty _ _ hd, bEq_eq]
  · obtain ⟨c1, e9⟩ := cnd_eq_some e
    have hkk := kindEq_true c1
    subst hkk
    cases e9
    obtain ⟨k', rfl⟩ : ∃ k, d = .int k := by rcases hc with ⟨h, _⟩ | ⟨_, h⟩ | ⟨h, _⟩ <;> first | exact h | cases h
    cases hx; cases hy
    rw [run_equalIn_int w n ty _ k' _ _ hd, intEq_eq]; rfl
  · cases e
    obtain ⟨_, rfl⟩ : (2 : Nat) = 2 ∧ d = .string := by rcases hc with ⟨h, _⟩ | ⟨h, _⟩ | h <;> first | exact h | cases h
    cases hx; cases hy
    rw [run_equalIn_string w n ty _ _ hd, ByteArray.toList_mk, ByteArray.toList_mk, strEq_eq]
  · cases e
theorem isAgg_flat {ty : TypeId} {d : TypeDesc} (hd : P.underlying ty = some d) (hf : d = .bool ∨ (∃ k, d = .int k) ∨ d = .string) (w : World) : (isAgg ty).run P w = .ok false w := by
  simp only [isAgg, Sem.run_bind, under_run hd, Result.andThen_ok]
  rcases hf with rfl | ⟨k, rfl⟩ | rfl <;> rfl
theorem flats_eq : ∀ (fs : List Field) (i : Nat) (cs : List Nat), flatK P fs i = some cs → ∀ {l l2 : List AV} {xs ys : List Value} {r : Bool}, eqFlats cs l l2 = some r → VRels φ l (xs.drop i) → VRels φ l2 (ys.drop i) → ∀ (n : Nat) (w : World),
    (Op.eqFields (n + 1) ⟨xs⟩ ⟨ys⟩ fs).run P w = .ok r w
  | [], i, cs, hk, l, l2, xs, ys, r, e, hx, hy, n, w => by
    simp only [flatK, Option.some.injEq] at hk
    subst hk
    cases l <;> cases l2 <;> simp only [eqFlats] at e <;> first | (cases e; done) | skip
    cases e; rfl
  | f :: fs, i, cs, hk, l, l2, xs, ys, r, e, hx, hy, n, w => by
    simp only [flatK] at hk
    split at hk
    · rename_i hcond
      simp only [Bool.and_eq_true, bne_iff_ne, ne_eq] at hcond
      obtain ⟨hname, hoff⟩ := hcond
      have hoff := beq_true hoff
      simp only [Option.bind_eq_bind, Option.bind_eq_some_iff] at hk
      obtain ⟨d, hd, hkd⟩ := hk
      obtain ⟨k, ks, hks, hcs, hc⟩ : ∃ k ks, flatK P fs (i + 1) = some ks ∧ k :: ks = cs ∧ ((k = 0 ∧ d = .bool) ∨ (k = 1 ∧ ∃ k, d = .int k) ∨ (k = 2 ∧ d = .string)) := by
        split at hkd <;> simp only [Option.bind_some, Option.bind_none, Option.bind_eq_some_iff, Option.some.injEq, reduceCtorEq] at hkd
        · obtain ⟨ks, h1, h2⟩ := hkd; exact ⟨0, ks, h1, h2, .inl ⟨rfl, rfl⟩⟩
        · obtain ⟨ks, h1, h2⟩ := hkd; exact ⟨1, ks, h1, h2, .inr (.inl ⟨rfl, _, rfl⟩)⟩
        · obtain ⟨ks, h1, h2⟩ := hkd; exact ⟨2, ks, h1, h2, .inr (.inr ⟨rfl, rfl⟩)⟩
      subst hcs
      cases l with
      | nil => cases l2 <;> simp [eqFlats] at e
      | cons x l =>
        cases l2 with
        | nil => simp [eqFlats] at e
        | cons y l2 =>
          simp only [eqFlats] at e
          obtain ⟨b, hb, e1⟩ := onO_eq_some e
          have hxi : ∃ cx, xs[i]? = some cx ∧ VRel φ x cx ∧ VRels φ l (xs.drop (i + 1)) := by
            generalize hxd : xs.drop i = xd at hx
            cases hx with
            | cons h t =>
              rename_i cx xd'
              refine ⟨cx, ?_, h, ?_⟩
              · have := congrArg List.head? hxd; simpa using this
              · have := congrArg List.tail hxd; simp at this; rw [this]; exact t
          have hyi : ∃ cy, ys[i]? = some cy ∧ VRel φ y cy ∧ VRels φ l2 (ys.drop (i + 1)) := by
            generalize hxd : ys.drop i = xd at hy
            cases hy with
            | cons h t =>
              rename_i cx xd'
              refine ⟨cx, ?_, h, ?_⟩
              · have := congrArg List.head? hxd; simpa using this
              · have := congrArg List.tail hxd; simp at this; rw [this]; exact t
          obtain ⟨cx, x1, x2, x3⟩ := hxi
          obtain ⟨cy, y1, y2, y3⟩ := hyi
          have hf : d = .bool ∨ (∃ k, d = .int k) ∨ d = .string := by rcases hc with ⟨_, h⟩ | ⟨_, h⟩ | ⟨_, h⟩ <;> simp [h]
          have hpx : (part f.type ⟨xs⟩ f.offset).run P w = .ok cx w := by
            simp only [part, Sem.run_bind, isAgg_flat hd hf, Result.andThen_ok, Bool.false_eq_true, if_false, hoff]
            have : (Array.mk xs)[i]? = some cx := by simpa using x1
            simp [this]
          have hpy : (part f.type ⟨ys⟩ f.offset).run P w = .ok cy w := by
            simp only [part, Sem.run_bind, isAgg_flat hd hf, Result.andThen_ok, Bool.false_eq_true, if_false, hoff]
            have : (Array.mk ys)[i]? = some cy := by simpa using y1
            simp [this]
          have heq := flat_eq (P := P) hd hc x2 y2 hb n w
          simp only [Op.eqFields]
          rw [if_pos hname]
          simp only [Sem.run_bind, hpx, hpy, heq, Result.andThen_ok]
          cases b with
          | false =>
            rw [cnd_false] at e1; cases e1
            rfl
          | true =>
            rw [cnd_true] at e1
            simp only [Bool.not_true, Bool.false_eq_true, if_false]
            exact flats_eq fs (i + 1) ks hks e1 x3 y3 n w
    · cases hk
theorem sound_eqa {bo : BinOp} {neg : Bool} {ty ty' : TypeId} {fs : Array Field} {cs : List Nat} {x y : Operand} {x' y' : AX} (ho : o.op = .binOp bo ty x y ty') (hbo : bo = if neg then .neq else .eql) (hd : P.underlying ty = some (.struct fs))
    (hcs : flatK P fs.toList 0 = some cs) (hstood : P.stoodInHeld ty = false) (hguard : P.eqGuardType P.depth ty = false) (hx' : axOf x = some x') (hy' : axOf y = some y') (e : evOp call (.eqa neg cs x' y') tm h = .ok v h')
    (H : HRel N w0 φ h w) (t : TRel φ tm a) : OpOK P N w0 φ h w (execOp a.eval o) v h' := by
  have e0 : oEqa tm h neg cs x' y' = .ok v h' := e
  unfold oEqa at e0
  obtain ⟨l, hl, e1⟩ := onAgg_ok e0
  obtain ⟨l2, hl2, e2⟩ := onAgg_ok e1
  obtain ⟨r, hr, e3⟩ := onO_eq_ok e2
  rw [boolV_eq] at e3
  cases e3
  have rx := t.ax hx' hl
  have ry := t.ax hy' hl2
  generalize hcx : a.eval x = cx at rx
  generalize hcy : a.eval y = cy at ry
  cases rx with
  | agg hxs =>
  cases ry with
  | agg hys =>
  rename_i xs ys
  have hfields : P.fieldsOf ty = fs := by simp [Program.fieldsOf, hd]
  have heq : (Op.equalIn 10000 ty (.agg ⟨xs⟩) (.agg ⟨ys⟩)).run P w = .ok r w := by
    rw [run_equalIn_struct w 9999 ty ⟨xs⟩ ⟨ys⟩ (by rw [hfields]; exact hd) hstood, hfields]
    exact flats_eq fs.toList 0 cs hcs hr (by simpa using hxs) (by simpa using hys) 9998 w
  refine OpOK.same H (y := .bool (cnd neg (!r) r)) ?_ (.b _)
  simp only [execOp, ho, hcx, hcy]
  refine run_value ?_
  rw [Sem.run_bind, run_eqGuard_agg w _ _ _ _ _ _ hguard, Result.andThen_ok, hbo]
  cases neg
  · simp only [Bool.false_eq_true, if_false, run_eql_struct, heq, Result.andThen_ok]; rfl
  · simp only [if_true, run_neq_struct, heq, Result.andThen_ok]; rfl
end
end Go.Abs
