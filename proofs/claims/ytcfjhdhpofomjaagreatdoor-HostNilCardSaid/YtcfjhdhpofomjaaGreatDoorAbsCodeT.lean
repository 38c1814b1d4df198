/- Code: what the abstract machine comes to, the program comes to. -/
import Derived.Test.YtcfjhdhpofomjaaGreatDoorAbsRange
set_option linter.unusedSectionVars false
set_option linter.unusedSimpArgs false
set_option linter.unusedVariables false
set_option linter.constructorNameAsVariable false
namespace Go.Abs
variable [Env] [Fr]
open Go.RowKit

section
variable {P : Program} {N : Nat} {w0 : World}
theorem sound_code {call : Cl} (hcall : CallOK P N w0 call) (hdraw : DrawOK P N w0) {nt fuel : Nat} : ∀ (c : Code) (ac : ACode), compCode P nt c = some ac → CodeOK P N w0 nt c (evCode call fuel ac) := by
  intro c
  induction c with
  | skip =>
    intro ac hc ro φ tm h a w r e hr t H hn hro Q hq
    simp only [compCode, Option.some.injEq] at hc; subst hc
    exact wpIn_skip (hq _ _ _ (.inr ⟨φ, tm, h, Ext.refl φ, t, H, Keep.refl φ h, hn, .inl ⟨e.symm, rfl⟩⟩))
  | ret =>
    intro ac hc ro φ tm h a w r e hr t H hn hro Q hq
    simp only [compCode, Option.some.injEq] at hc; subst hc
    exact wpIn_ret (hq _ _ _ (.inr ⟨φ, tm, h, Ext.refl φ, t, H, Keep.refl φ h, hn, .inr (.inl ⟨e.symm, rfl⟩)⟩))
  | exit id =>
    intro ac hc ro φ tm h a w r e hr t H hn hro Q hq
    simp only [compCode, Option.some.injEq] at hc; subst hc
    exact wpIn_exit (hq _ _ _ (.inr ⟨φ, tm, h, Ext.refl φ, t, H, Keep.refl φ h, hn, .inr (.inr ⟨id, e.symm, rfl⟩)⟩))
  | region id ops draw =>
    intro ac hc ro φ tm h a w r e hr t H hn hro Q hq
    cases draw with
    | true =>
      simp only [compCode] at hc
      exact hdraw hcall hc e hr t H hn hq
    | false =>
      simp only [compCode, Option.bind_eq_bind, Option.bind_eq_some_iff, Option.some.injEq] at hc
      obtain ⟨l, hl, hop⟩ := hc
      subst hop
      exact wpIn_region (sound_ops hcall _ l hl e hr t H hn hq)
  | seq x y ihx ihy =>
    intro ac hc ro φ tm h a w r e hr t H hn hro Q hq
    simp only [compCode, Option.bind_eq_bind, Option.bind_eq_some_iff] at hc
    obtain ⟨cx, hx, cy, hy, hc⟩ := hc
    -- whatever is left out is nothing
    have e2 : onGo (evCode call fuel cx tm h) (evCode call fuel cy) = r := by
      split at hc
      · cases hc; exact e
      · cases hc
        have hgo : ∀ r' : R, onGo r' (evCode call fuel .skip) = r' := fun r' => by cases r' <;> rfl
        rw [hgo]; exact e
      · cases hc; exact e
    refine wpIn_seq (ihx cx hx ro rfl (onGo_ne (e2 ▸ hr)) t H hn hro fun ex a' w' he => ?_)
    rcases he with he | ⟨φ', tm', h', g1, g2, g3, g4, g5, g6⟩
    · exact he.elim
    · rcases g6 with ⟨k1, k2⟩ | ⟨k1, k2⟩ | ⟨id, k1, k2⟩
      · subst k2
        rw [k1] at e2
        exact ihy cy hy ro e2 hr g2 g3 g5 (fun l0 el => let ⟨r0, hk⟩ := hro l0 el; ⟨r0, g1.keep _ _ hk⟩) fun ex a' w' he => hq _ _ _ (he.after g1 g4)
      · subst k2
        rw [k1] at e2
        have e2 : R.ret tm' h' = r := e2
        exact hq _ _ _ (.inr ⟨φ', tm', h', g1, g2, g3, g4, g5, .inr (.inl ⟨e2.symm, rfl⟩)⟩)
      · subst k2
        rw [k1] at e2
        have e2 : R.exit id tm' h' = r := e2
        exact hq _ _ _ (.inr ⟨φ', tm', h', g1, g2, g3, g4, g5, .inr (.inr ⟨id, e2.symm, rfl⟩)⟩)
  | cond c x y ihx ihy =>
    intro ac hc ro φ tm h a w r e hr t H hn hro Q hq
    simp only [compCode, Option.bind_eq_bind, Option.bind_eq_some_iff, Option.some.injEq] at hc
    obtain ⟨c', hc', cx, hx, cy, hy, hop⟩ := hc
    subst hop
    have e : onB (ax tm c') (evCode call fuel cx tm h) (evCode call fuel cy tm h) = r := e
    unfold onB at e
    split at e
    · rename_i b hb
      have hv := t.ax hc' hb
      generalize hce : a.eval c = cv at hv
      cases hv
      cases b with
      | true => exact wpIn_cond_true hce (ihx cx hx ro e hr t H hn hro hq)
      | false => exact wpIn_cond_false hce (ihy cy hy ro e hr t H hn hro hq)
    · exact absurd e.symm hr
  | block id x ih =>
    intro ac hc ro φ tm h a w r e hr t H hn hro Q hq
    simp only [compCode, Option.bind_eq_bind, Option.bind_eq_some_iff, Option.some.injEq] at hc
    obtain ⟨cx, hx, hop⟩ := hc
    subst hop
    have e : onExit id (evCode call fuel cx tm h) = r := e
    refine wpIn_block (ih cx hx ro rfl (onExit_ne (e ▸ hr)) t H hn hro fun ex a' w' he => ?_)
    rcases he with he | ⟨φ', tm', h', g1, g2, g3, g4, g5, g6⟩
    · exact he.elim
    · rcases g6 with ⟨k1, k2⟩ | ⟨k1, k2⟩ | ⟨id', k1, k2⟩
      · subst k2
        rw [k1] at e
        have e : R.go tm' h' = r := e
        exact hq _ _ _ (.inr ⟨φ', tm', h', g1, g2, g3, g4, g5, .inl ⟨e.symm, rfl⟩⟩)
      · subst k2
        rw [k1] at e
        have e : R.ret tm' h' = r := e
        exact hq _ _ _ (.inr ⟨φ', tm', h', g1, g2, g3, g4, g5, .inr (.inl ⟨e.symm, rfl⟩)⟩)
      · subst k2
        rw [k1] at e
        have e : cnd (Nat.beq id' id) (R.go tm' h') (.exit id' tm' h') = r := e
        rw [natBeq] at e
        simp only [Exit.inBlock]
        by_cases hid : id' = id
        · rw [if_pos hid]
          simp only [hid, decide_true, cnd_true] at e
          exact hq _ _ _ (.inr ⟨φ', tm', h', g1, g2, g3, g4, g5, .inl ⟨e.symm, rfl⟩⟩)
        · rw [if_neg hid]
          simp only [hid, decide_false, cnd_false] at e
          exact hq _ _ _ (.inr ⟨φ', tm', h', g1, g2, g3, g4, g5, .inr (.inr ⟨id', e.symm, rfl⟩)⟩)
  | loop x ih =>
    intro ac hc ro φ tm h a w r e hr t H hn hro Q hq
    simp only [compCode, Option.bind_eq_bind, Option.bind_eq_some_iff, Option.some.injEq] at hc
    obtain ⟨cx, hx, hop⟩ := hc
    subst hop
    have e : loopN (evCode call fuel cx) fuel tm h = r := e
    have key : ∀ (n : Nat) {φ : Phi} {tm : T AV} {h : Hp} {a : Act} {w : World}, loopN (evCode call fuel cx) n tm h = r → TRel φ tm a → HRel N w0 φ h w → nt ≤ a.tmps.size → (∀ l0, ro = some l0 → ∃ r0 : Loop, φ.keep l0 = some fun _ => .loop r0) →
        (∀ ex a' w', Ends N w0 φ h nt r ex a' w' → ex ≠ .normal → Q ex a' w') → Code.roundsIn (Fe ro) 0 P x Q n a w := by
      intro n
      induction n with
      | zero => intro φ tm h a w e _ _ _ _ _; exact absurd e.symm hr
      | succ n ihn =>
        intro φ tm h a w e t H hn hro hq
        rw [loopN_succ] at e
        rw [roundsIn_succ]
        refine ih cx hx ro rfl (onGo_ne (e ▸ hr)) t H hn hro fun ex a' w' he => ?_
        rcases he with he | ⟨φ', tm', h', g1, g2, g3, g4, g5, g6⟩
        · exact he.elim
        · rcases g6 with ⟨k1, k2⟩ | ⟨k1, k2⟩ | ⟨id', k1, k2⟩
          · subst k2
            rw [k1] at e
            exact ihn e g2 g3 g5 (fun l0 el => let ⟨r0, hk⟩ := hro l0 el; ⟨r0, g1.keep _ _ hk⟩) fun ex a' w' he hne => hq _ _ _ (he.after g1 g4) hne
          · subst k2
            rw [k1] at e
            have e : R.ret tm' h' = r := e
            exact hq _ _ _ (.inr ⟨φ', tm', h', g1, g2, g3, g4, g5, .inr (.inl ⟨e.symm, rfl⟩)⟩) (by simp)
          · subst k2
            rw [k1] at e
            have e : R.exit id' tm' h' = r := e
            exact hq _ _ _ (.inr ⟨φ', tm', h', g1, g2, g3, g4, g5, .inr (.inr ⟨id', e.symm, rfl⟩)⟩) (by simp)
    exact wpIn_loop_rounds fuel (key fuel e t H hn hro fun ex a' w' he _ => hq _ _ _ he)
  | rangeFunc x ps ca cb iha ihb =>
    intro ac hc ro φ tm h a w r e hr t H hn hro Q hq
    simp only [compCode] at hc
    split at hc
    · rename_i hall
      simp only [Option.bind_eq_bind, Option.bind_eq_some_iff, Option.some.injEq] at hc
      obtain ⟨x', hx, A, hA, B, hB, hop⟩ := hc
      subst hop
      exact sound_range hcall hx (fun p hp => blt_true (List.all_eq_true.1 hall p hp)) (iha A hA) (ihb B hB) ro e hr t H hn hro hq
    · cases hc
  | _ =>
    intro ac hc ro φ tm h a w r e hr t H hn hro Q hq
    simp only [compCode, Option.some.injEq] at hc; subst hc
    exact absurd e.symm hr

theorem resL_nil (tm : T AV) (h : Hp) : resL tm h [] = some [] := rfl
theorem resL_cons (tm : T AV) (h : Hp) (x : ARes) (r : List ARes) : resL tm h (x :: r) = onO (resV tm h x) none fun v => onO (resL tm h r) none fun l => some (v :: l) := rfl

def resOne (tmps : Array Value) : ResultVar → Sem Value
  | .tmp t => pure (tmps.getD t undef)
  | .cell a t => do loadVar t (← asAddr (tmps.getD a undef))
theorem results_eq (fn : Func) (tmps : Array Value) : Go.results fn tmps = (do
    let vs ← fn.results.mapM (resOne tmps)
    pure (if h : vs.size = 1 then vs[0] else .tuple vs)) := by
  unfold Go.results
  congr 2

/-- The results that a frame leaves. -/
theorem sound_res {φ : Phi} {tm : T AV} {h : Hp} {a : Act} {w : World} (t : TRel φ tm a) (H : HRel N w0 φ h w) : ∀ (rs : List ResultVar) (l : List ARes), compRes P rs = some l → ∀ {vs : List AV}, resL tm h l = some vs →
    ∃ ys : List Value, (rs.mapM (resOne a.tmps)).run P w = .ok ys w ∧ VRels φ vs ys
  | [], l, hc, vs, e => by
    simp only [compRes, Option.some.injEq] at hc; subst hc
    rw [resL_nil] at e; cases e
    exact ⟨[], rfl, .nil⟩
  | .tmp n :: rs, l, hc, vs, e => by
    simp only [compRes, Option.bind_eq_bind, Option.bind_eq_some_iff, Option.some.injEq] at hc
    obtain ⟨k, hk, rfl⟩ := hc
    rw [resL_cons] at e
    obtain ⟨v, hv, e⟩ := onO_eq_some e
    obtain ⟨l', hl', e⟩ := onO_eq_some e
    cases e
    obtain ⟨ys, k1, k2⟩ := sound_res t H rs k hk hl'
    obtain ⟨y, g1, g2⟩ := t.at_ n v hv
    refine ⟨y :: ys, ?_, .cons g2 k2⟩
    rw [List.mapM_cons]
    have : a.tmps.getD n undef = y := by simp [g1]
    simp only [resOne, this, Sem.run_bind, Sem.run_pure, Result.andThen_ok, k1]
  | .cell p ty :: rs, l, hc, vs, e => by
    simp only [compRes, Option.bind_eq_bind, Option.bind_eq_some_iff, Option.some.injEq] at hc
    obtain ⟨n, hn, g, hg, k, hk, rfl⟩ := hc
    rw [resL_cons] at e
    obtain ⟨v, hv, e⟩ := onO_eq_some e
    obtain ⟨l', hl', e⟩ := onO_eq_some e
    cases e
    obtain ⟨ys, k1, k2⟩ := sound_res t H rs k hk hl'
    unfold resV at hv
    simp only at hv
    split at hv
    · rename_i b q hp
      obtain ⟨y, g1, g2⟩ := t.at_ p _ hp
      cases g2 with
      | @p _ _ L hL =>
      have hgd : a.tmps.getD p undef = .pointer (some ⟨L.blk, L.base + q, none⟩) := by simp [g1]
      cases g with
      | true =>
        rw [cnd_true] at hv
        obtain ⟨lv, hlv, hv⟩ := onO_eq_some hv
        cases hv
        obtain ⟨B, hB, hlv⟩ := onO_eq_some hlv
        obtain ⟨zs, r1, r2, _, r3⟩ := H.readN hL hB hlv
        refine ⟨.agg ⟨zs⟩ :: ys, ?_, .cons (.agg r2) k2⟩
        rw [List.mapM_cons]
        simp only [resOne, Sem.run_bind, hgd, asAddr, Sem.run_pure, Result.andThen_ok, loadVar, isAgg_run hg, if_true, sizeOf_run hn, run_loadCells_of P r1 r3, k1]
      | false =>
        rw [cnd_false] at hv
        obtain ⟨B, hB, hv⟩ := onO_eq_some hv
        obtain ⟨y, r1, r2, _⟩ := H.read hL hB hv
        refine ⟨y :: ys, ?_, .cons r2 k2⟩
        rw [List.mapM_cons]
        simp only [resOne, Sem.run_bind, hgd, asAddr, Sem.run_pure, Result.andThen_ok, loadVar, isAgg_run hg, Bool.false_eq_true, if_false, run_load, r1, k1]
    · cases hv

theorem sound_results {fn : Func} {φ : Phi} {tm : T AV} {h h' : Hp} {a : Act} {w : World} {l : List ARes} {v : AV} (t : TRel φ tm a) (H : HRel N w0 φ h w) (hc : compRes P fn.results.toList = some l) (e : Go.Abs.results tm h l = .ok v h') :
    h' = h ∧ ∃ y, (Go.results fn a.tmps).run P w = .ok y w ∧ VRel φ v y := by
  have key : ∃ vs, resL tm h l = some vs ∧ h' = h ∧ ((∃ u, vs = [u] ∧ v = u) ∨ (vs.length ≠ 1 ∧ v = .tup vs)) := by
    unfold Go.Abs.results at e
    split at e
    · rename_i u hu; cases e; exact ⟨_, hu, rfl, .inl ⟨_, rfl, rfl⟩⟩
    · rename_i vs hne hu
      cases e
      refine ⟨_, hu, rfl, .inr ⟨fun hl => ?_, rfl⟩⟩
      obtain ⟨u, hu'⟩ := List.length_eq_one_iff.1 hl
      exact hne u hu'
    · cases e
  obtain ⟨vs, hvs, hh, hcase⟩ := key
  obtain ⟨ys, k1, k2⟩ := sound_res t H _ l hc hvs
  refine ⟨hh, ?_⟩
  have hlen := k2.length
  have hrun : (Go.results fn a.tmps).run P w = .ok (if h : ys.toArray.size = 1 then ys.toArray[0] else .tuple ys.toArray) w := by
    rw [results_eq, Array.mapM_eq_mapM_toList]
    simp only [Sem.run_bind, Sem.run_map, k1, Result.andThen_ok, Sem.run_pure]
  rcases hcase with ⟨u, rfl, rfl⟩ | ⟨hne, rfl⟩
  · obtain ⟨y, rfl⟩ := List.length_eq_one_iff.1 (by simpa using hlen.symm : ys.length = 1)
    refine ⟨y, hrun, ?_⟩
    cases k2 with | cons h _ => exact h
  · refine ⟨.tuple ys.toArray, ?_, .tup k2⟩
    rw [hrun, dif_neg (by simpa [← hlen] using hne)]
end
end Go.Abs
