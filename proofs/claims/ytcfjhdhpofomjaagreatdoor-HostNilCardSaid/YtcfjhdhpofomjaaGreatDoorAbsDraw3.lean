/- A region that draws its order: whatever order is drawn, it comes to what the abstract machine's order comes to. -/
import Derived.Test.YtcfjhdhpofomjaaGreatDoorAbsDraw2
set_option linter.unusedSectionVars false
set_option linter.unusedSimpArgs false
set_option linter.unusedVariables false
set_option linter.constructorNameAsVariable false
namespace Go.Abs
variable [Env] [Fr]
open Go.RowKit

theorem pEq_eq : ∀ {p q : Pth}, pEq p q = true → p = q
  | .z, .z, _ => rfl
  | .l a, .l b, h => by rw [pEq_eq (p := a) (q := b) h]
  | .r a, .r b, h => by rw [pEq_eq (p := a) (q := b) h]
  | .z, .l _, h | .z, .r _, h | .l _, .z, h | .r _, .z, h | .l _, .r _, h | .r _, .l _, h => by cases h
theorem cnd_eq_true {c a : Bool} (h : cnd c a false = true) : c = true ∧ a = true := by cases c <;> simp_all
theorem avEq1_eq {x y : AV} (h : avEq1 x y = true) : x = y := by
  cases x <;> cases y <;> simp only [avEq1] at h <;> first | rfl | (cases h; done) | skip
  · rw [bEq_eq] at h; simp at h; rw [h]
  · obtain ⟨h1, h2⟩ := cnd_eq_true h
    rw [kindEq_true h1]; rw [intEq_eq] at h2; simp at h2; rw [h2]
  · obtain ⟨h1, h2⟩ := cnd_eq_true h; rw [beq_true h1, beq_true h2]
  · obtain ⟨h1, h2⟩ := cnd_eq_true h; rw [beq_true h1, pEq_eq h2]
  · obtain ⟨h1, h2⟩ := cnd_eq_true h; obtain ⟨h2, h3⟩ := cnd_eq_true h2; obtain ⟨h3, h4⟩ := cnd_eq_true h3
    rw [beq_true h1, beq_true h2, beq_true h3, pEq_eq h4]
  · rw [beq_true h]
theorem avEqs_eq : ∀ {x y : List AV}, avEqs x y = true → x = y
  | [], [], _ => rfl
  | a :: x, b :: y, h => by
    obtain ⟨h1, h2⟩ := cnd_eq_true h
    rw [avEq1_eq h1, avEqs_eq h2]
  | [], _ :: _, h => by cases h
  | _ :: _, [], h => by cases h
theorem avEq_eq {x y : AV} (h : avEq x y = true) : x = y := by
  unfold avEq at h
  split at h
  · rw [avEqs_eq h]
  · rw [avEqs_eq h]
  · exact avEq1_eq h

theorem del_one {α : Type} (q : Pth) : ∀ (t : T α), ∃ t' : T α, ∀ p, T.getP p t' = if p = q then none else T.getP p t := by
  induction q with
  | z =>
    intro t
    cases t with
    | e => exact ⟨.e, fun p => by simp⟩
    | n l v r => exact ⟨.n l none r, fun p => by cases p <;> simp⟩
  | l q ih =>
    intro t
    cases t with
    | e => exact ⟨.e, fun p => by simp⟩
    | n l v r => obtain ⟨l', h⟩ := ih l; exact ⟨.n l' v r, fun p => by cases p <;> simp [h]⟩
  | r q ih =>
    intro t
    cases t with
    | e => exact ⟨.e, fun p => by simp⟩
    | n l v r => obtain ⟨r', h⟩ := ih r; exact ⟨.n l v r', fun p => by cases p <;> simp [h]⟩
theorem del_many {α : Type} : ∀ (L : List Pth) (t : T α), ∃ t' : T α, ∀ p, T.getP p t' = if p ∈ L then none else T.getP p t
  | [], t => ⟨t, fun p => by simp⟩
  | q :: L, t => by
    obtain ⟨t1, h1⟩ := del_one q t
    obtain ⟨t2, h2⟩ := del_many L t1
    refine ⟨t2, fun p => ?_⟩
    rw [h2, h1]
    by_cases e1 : p ∈ L
    · simp [e1]
    · by_cases e2 : p = q
      · simp [e2]
      · simp [e1, e2]

section
variable {P : Program} {N : Nat} {w0 : World} {nt : Nat} {ops : Array Oper}

/-- The guard's word, where it is known. -/
noncomputable def gval (ops : Array Oper) (tm : T AV) (i : Nat) : Option Bool :=
  match guardOf ops i with
  | none => some true
  | some (_, want) => match gtmp ops i with
    | some g => wanted tm (pth g) want
    | none => none
noncomputable def putO (d : Option Nat) (v : AV) (tm : T AV) : T AV := match d with
  | some d => T.putP v (pth d) tm
  | none => tm
/-- What an operation comes to. -/
structure Out (P : Program) (ops : Array Oper) (call : Cl) (i : Nat) (tm : T AV) (h : Hp) (b : Bool) (v : AV) (h' : Hp) : Prop where
  guard : gval ops tm i = some b
  yes : b = true → evOp call (opAt P ops i) tm h = .ok v h'
  no : b = false → v = .tup [] ∧ h' = h

theorem evOper_out {call : Cl} {i : Nat} {o : Oper} {x : AOper} (ho : ops[i]? = some o) (hc : compOper P nt ops o = some x) {k : T AV → Hp → R} {tm : T AV} {h : Hp} {r : R} (e : evOper call k tm h x = r) (hr : r ≠ .no) :
    (∀ d, dstOf ops i = some d → d < nt) ∧ (guardOf ops i ≠ none → gtmp ops i ≠ none) ∧ ∃ b v h', Out P ops call i tm h b v h' ∧ k (putO (dstOf ops i) v tm) h' = r := by
  have hop : opAt P ops i = (compOp P o).getD .bad := by simp [opAt, ho]
  have hd : dstOf ops i = o.dst := by simp [dstOf, ho]
  have hg : guardOf ops i = o.guard := by simp [guardOf, ho]
  unfold compOper at hc
  cases hgo : o.guard with
  | none =>
    have gv : gval ops tm i = some true := by simp [gval, hg, hgo]
    rw [hgo] at hc
    simp only at hc
    cases hdo : o.dst with
    | none =>
      rw [hdo] at hc; simp only [Option.some.injEq] at hc; subst hc
      have e : onR (evOp call ((compOp P o).getD .bad) tm h) (fun _ h => k tm h) = r := e
      obtain ⟨v, h', hv⟩ := onR_ne (e ▸ hr)
      rw [hv] at e
      exact ⟨by rw [hd, hdo]; simp, by rw [hg, hgo]; simp, true, v, h', ⟨gv, fun _ => by rw [hop]; exact hv, by simp⟩, by rw [hd, hdo]; exact e⟩
    | some d =>
      rw [hdo] at hc
      simp only at hc
      split at hc
      · rename_i hlt
        simp only [Option.some.injEq] at hc; subst hc
        have e : onR (evOp call ((compOp P o).getD .bad) tm h) (fun v h => withT (T.putP v (pth d) tm) h k) = r := e
        obtain ⟨v, h', hv⟩ := onR_ne (e ▸ hr)
        rw [hv] at e
        have e : withT (T.putP v (pth d) tm) h' k = r := e
        rw [withT_eq] at e
        exact ⟨by rw [hd, hdo]; intro d' hd'; cases hd'; exact blt_true hlt, by rw [hg, hgo]; simp, true, v, h', ⟨gv, fun _ => by rw [hop]; exact hv, by simp⟩, by rw [hd, hdo]; exact e⟩
      · cases hc
  | some gj =>
    obtain ⟨j, want⟩ := gj
    rw [hgo] at hc
    simp only at hc
    split at hc
    · cases hc
    · rename_i g hgd
      have hgt : gtmp ops i = some g := by simp only [gtmp, hg, hgo]; exact hgd
      have gv : ∀ b, wanted tm (pth g) want = some b → gval ops tm i = some b := by
        intro b hb; simp only [gval, hg, hgo, hgt]; exact hb
      cases hdo : o.dst with
      | none =>
        rw [hdo] at hc; simp only [Option.some.injEq] at hc; subst hc
        have e : onO (wanted tm (pth g) want) .no (fun wt => cnd wt (onR (evOp call ((compOp P o).getD .bad) tm h) fun _ h => k tm h) (k tm h)) = r := e
        cases hwt : wanted tm (pth g) want with
        | none => rw [hwt] at e; exact absurd e.symm hr
        | some b =>
          rw [hwt, onO_some] at e
          cases b with
          | true =>
            rw [cnd_true] at e
            obtain ⟨v, h', hv⟩ := onR_ne (e ▸ hr)
            rw [hv] at e
            exact ⟨by rw [hd, hdo]; simp, by rw [hgt]; simp, true, v, h', ⟨gv _ hwt, fun _ => by rw [hop]; exact hv, by simp⟩, by rw [hd, hdo]; exact e⟩
          | false =>
            rw [cnd_false] at e
            exact ⟨by rw [hd, hdo]; simp, by rw [hgt]; simp, false, .tup [], h, ⟨gv _ hwt, by simp, fun _ => ⟨rfl, rfl⟩⟩, by rw [hd, hdo]; exact e⟩
      | some d =>
        rw [hdo] at hc
        simp only at hc
        split at hc
        · rename_i hlt
          simp only [Option.some.injEq] at hc; subst hc
          have e : onO (wanted tm (pth g) want) .no (fun wt => cnd wt (onR (evOp call ((compOp P o).getD .bad) tm h) fun v h => withT (T.putP v (pth d) tm) h k) (withT (T.putP (.tup []) (pth d) tm) h k)) = r := e
          have hdn : ∀ d', dstOf ops i = some d' → d' < nt := by rw [hd, hdo]; intro d' hd'; cases hd'; exact blt_true hlt
          cases hwt : wanted tm (pth g) want with
          | none => rw [hwt] at e; exact absurd e.symm hr
          | some b =>
            rw [hwt, onO_some] at e
            cases b with
            | true =>
              rw [cnd_true] at e
              obtain ⟨v, h', hv⟩ := onR_ne (e ▸ hr)
              rw [hv] at e
              have e : withT (T.putP v (pth d) tm) h' k = r := e
              rw [withT_eq] at e
              exact ⟨hdn, by rw [hgt]; simp, true, v, h', ⟨gv _ hwt, fun _ => by rw [hop]; exact hv, by simp⟩, by rw [hd, hdo]; exact e⟩
            | false =>
              rw [cnd_false, withT_eq] at e
              exact ⟨hdn, by rw [hgt]; simp, false, .tup [], h, ⟨gv _ hwt, by simp, fun _ => ⟨rfl, rfl⟩⟩, by rw [hd, hdo]; exact e⟩
        · cases hc

theorem wanted_of_gval {φ : Phi} {tm : T AV} {a : Act} (t : TRel φ tm a) {i : Nat} {o : Oper} (ho : ops[i]? = some o) {b : Bool} (e : gval ops tm i = some b) : Region.wanted o (yielded ops a.tmps) = b := by
  have hg : guardOf ops i = o.guard := by simp [guardOf, ho]
  unfold gval at e
  cases hgo : o.guard with
  | none => rw [hg, hgo] at e; cases e; simp [Region.wanted, hgo]
  | some gj =>
    obtain ⟨j, want⟩ := gj
    rw [hg, hgo] at e
    simp only at e
    cases hgt : gtmp ops i with
    | none => rw [hgt] at e; cases e
    | some g =>
      rw [hgt] at e
      have hgd : (ops[j]?).bind (·.dst) = some g := by simp only [gtmp, hg, hgo] at hgt; exact hgt
      exact wanted_eq t hgo hgd e

/-- The operation, in the program: with temporaries of which only those that it reads need be known. -/
theorem real_out {ro : Option Nat} {call : Cl} (hcall : CallOK P N w0 call) {i : Nat} {o : Oper} (ho : ops[i]? = some o) {φ : Phi} {tm : T AV} {h h' : Hp} {a : Act} {w : World} {b : Bool} {v : AV} (u : Out P ops call i tm h b v h')
    (t : TRel φ tm a) (H : HRel N w0 φ h w) {K : Act → World → Prop} {Q : Exit → Act → World → Prop} (hq : True)
    (hk : ∀ y φ' w', VRel φ' v y → Ext φ φ' → HRel N w0 φ' h' w' → Keep φ φ' h h' → K (a.put (dstOf ops i) y) w') : wpOpIn (Fe ro) 0 P ops Q i K a w := by
  have hd : dstOf ops i = o.dst := by simp [dstOf, ho]
  rw [hd] at hk
  unfold wpOpIn
  rw [ho]
  simp only
  rw [wanted_of_gval t ho u.guard]
  cases b with
  | true =>
    rw [if_pos rfl]
    have e := u.yes rfl
    have hop : opAt P ops i = (compOp P o).getD .bad := by simp [opAt, ho]
    exact OpRun.wpIn (comp_noDefer (getD_bad hop e)) (sound_op hcall (getD_bad hop e) e H t) hk
  | false =>
    obtain ⟨hv, hh⟩ := u.no rfl
    subst hv hh
    rw [if_neg (by simp)]
    exact ⟨fun _ _ => trivial, hk undef φ w (.tup .nil) (Ext.refl φ) H (Keep.refl φ h')⟩

theorem mem_axT {l : List AX} {n : Pth} : AX.t n ∈ l → n ∈ axT l := by
  induction l with
  | nil => simp
  | cons x r ih =>
    intro hx
    cases x with
    | t m =>
      simp only [axT, List.mem_cons] at hx ⊢
      rcases hx with hx | hx
      · cases hx; exact .inl rfl
      · exact .inr (ih hx)
    | c v =>
      simp only [axT, List.mem_cons] at hx ⊢
      rcases hx with hx | hx
      · cases hx
      · exact ih hx
theorem out_congr {call : Cl} {i : Nat} {tm tm' : T AV} {h h' : Hp} {b : Bool} {v : AV} (u : Out P ops call i tm h b v h') (e : ∀ p ∈ readsOf P ops i, T.getP p tm = T.getP p tm') : Out P ops call i tm' h b v h' := by
  have hax : ∀ x ∈ reads (opAt P ops i), ax tm x = ax tm' x := by
    intro x hx
    cases x with
    | c c => rfl
    | t n =>
      rw [ax_t, ax_t]
      exact e n (List.mem_append.2 (.inl (mem_axT hx)))
  refine ⟨?_, fun hb => by rw [← evOp_congr hax]; exact u.yes hb, u.no⟩
  have hgv : gval ops tm' i = gval ops tm i := by
    unfold gval
    cases hg : guardOf ops i with
    | none => rfl
    | some gj =>
      obtain ⟨j, want⟩ := gj
      simp only
      cases hgt : gtmp ops i with
      | none => rfl
      | some g =>
        simp only
        have := e (pth g) (List.mem_append.2 (.inr (by simp [hgt])))
        unfold wanted
        rw [this]
  rw [hgv]; exact u.guard

theorem closeL_sub {S : Nat → Prop} (hS : ∀ i, S i → ∀ j ∈ afterOf ops i, S j) : ∀ (f : Nat) (acc todo : List Nat), (∀ j ∈ acc, S j) → (∀ j ∈ todo, S j) → ∀ j ∈ closeL ops f acc todo, S j
  | 0, acc, _, h1, _ => h1
  | _ + 1, acc, [], h1, _ => h1
  | f + 1, acc, j :: r, h1, h2 => by
    simp only [closeL]
    split
    · exact closeL_sub hS f acc r h1 (fun k hk => h2 k (by simp [hk]))
    · refine closeL_sub hS f (j :: acc) _ (fun k hk => ?_) (fun k hk => ?_)
      · rcases List.mem_cons.1 hk with e | e
        · rw [e]; exact h2 j (by simp)
        · exact h1 k e
      · rcases List.mem_append.1 hk with e | e
        · exact hS j (h2 j (by simp)) k e
        · exact h2 k (by simp [e])
theorem ancOf_sub {S : Nat → Prop} (hS : ∀ i, S i → ∀ j ∈ afterOf ops i, S j) {n i : Nat} (hi : ∀ j ∈ afterOf ops i, S j) : ∀ j ∈ ancOf ops n i, S j :=
  closeL_sub hS _ [] _ (by simp) hi
end
end Go.Abs
