/- 'Few' of the host's state: it comes to a bool, whatever the state is. -/
import Derived.Test.YtcfjhdhpofomjaaGreatDoorAbsHnOk
import Derived.Test.YtcfjhdhpofomjaaGreatDoorAbsEval
set_option linter.unusedSectionVars false
set_option linter.unusedSimpArgs false
set_option linter.unusedVariables false
set_option linter.constructorNameAsVariable false
namespace Go.Abs.Hn
open Go.Proofs Go.RowKit
section
variable {call : Cl} {fuel : Nat} {h : Hp}
noncomputable def round5 : ACode := .seq (.seq (.ops [(.o p5 (.fld (.t p1) 7)), (.o p6 (.ld1 (.t p5))), (.o p7 (.len (.t p6))), (.o p8 (.bin .lss (.t p3) (.t p7)))]) (.cond (.t p8) .skip (.exit 0))) (.seq (.block 1 (.seq (.ops [(.o p11 (.fld (.t p1) 7)), (.o p12 (.ld1 (.t p11))), (.o p14 (.idx (.t p12) (.t p3) 3)), (.o p15 (.fld (.t p14) 2)), (.o p16 (.ld1 (.t p15))), (.o p17 (.lens (.t p16))), (.o p18 (.bin .gtr (.t p17) (.c (.i .i64 (.ofNat 100)))))]) (.cond (.t p18) (.seq (.ops [(.o p2 (.mov (.c (.b false))))]) .ret) .skip))) (.ops [(.o p10 (.bin .add (.t p3) (.c (.i .i64 (.ofNat 1))))), (.o p3 (.mov (.t p10)))]))
noncomputable def end5 : ACode := .seq (.ops [(.o p19 (.fld (.t p1) 7)), (.o p20 (.ld1 (.t p19))), (.o p21 (.len (.t p20))), (.o p22 (.bin .leq (.t p21) (.c (.i .i64 (.ofNat 10))))), (.g p24 (.fld (.t p1) 8) p22 true), (.g p25 (.ld1 (.t p24)) p22 true), (.g p26 (.len (.t p25)) p22 true), (.g p27 (.bin .leq (.t p26) (.c (.i .i64 (.ofNat 10)))) p22 true), (.o p28 (.pick (.t p22) (.t p27) (.c (.b false)))), (.o p2 (.mov (.t p28)))]) .ret
theorem a5_eq : a5 = .opt 1 (.seq (.ops [(.o p1 (.box (.t p0) 9)), (.o p2 (.mov (.c (.b false))))]) (.seq (.seq (.ops [(.o p3 (.mov (.c (.i .i64 (.ofNat 0)))))]) (.block 0 (.loop round5))) end5)) [(.t p2)] := rfl
theorem tbl5 : tbl 5 = some (.opt 1 (.seq (.ops [(.o p1 (.box (.t p0) 9)), (.o p2 (.mov (.c (.b false))))]) (.seq (.seq (.ops [(.o p3 (.mov (.c (.i .i64 (.ofNat 0)))))]) (.block 0 (.loop round5))) end5)) [(.t p2)]) := rfl
theorem addI_one (i : Nat) (hi : i + 1 < 9223372036854775808) : forceB (addI .i64 (.ofNat i) (.ofNat 1)) = some (.i .i64 (.ofNat (i + 1))) := by
  show forceB (forceI .i64 (.ofNat (i + 1))) = _
  unfold forceI
  show forceB (cnd (Nat.blt (i + 1) 9223372036854775808) _ _) = _
  rw [bltT (by omega), cnd_true, forceN_eq]; rfl
theorem lenB (a : Nat) : forceB (some (AV.b (intLt (.ofNat 100) (.ofNat a)))) = some (.b (Nat.blt 100 a)) := by
  show forceB (some (.b (Nat.blt 100 a))) = _
  cases Nat.blt 100 a <;> rfl
theorem lssB (a b : Nat) : forceB (some (AV.b (intLt (.ofNat a) (.ofNat b)))) = some (.b (Nat.blt a b)) := by
  show forceB (some (.b (Nat.blt a b))) = _
  cases Nat.blt a b <;> rfl
theorem leqB (a b : Nat) : forceB (some (AV.b (!intLt (.ofNat b) (.ofNat a)))) = some (.b (!Nat.blt b a)) := by
  show forceB (some (.b (!Nat.blt b a))) = _
  cases Nat.blt b a <;> rfl
structure Inv5 (bx : Pth) (tm : T AV) (i : Nat) : Prop where
  h1 : T.getP (.l .z) tm = some (.p bx 0)
  h3 : T.getP (.l (.l .z)) tm = some (.i .i64 (.ofNat i))
variable {bx b : Pth} {Bx B : Blk} {len cap : Nat} {tm : T AV}
theorem out5 {i : Nat} (I : Inv5 bx tm i) (hb : look h bx = some Bx) (h7 : readB Bx (Nat.add 0 7) = some (.sl b 0 len cap)) (hi : ¬ i < len) :
    ∃ tm', evCode call fuel round5 tm h = .exit 0 tm' h ∧ Inv5 bx tm' i := by
  have e0 := bltF hi
  apply Exists.intro
  apply And.intro
  · unfold round5
    simp only [evC_seq, evC_ops, evOps_o, evOps_e, evOp, oFld, oLd1, oLen, oBin, ax_t, ax_c, T.getP_putP, p1, p3, p5, p6, p7, p8, reduceCtorEq, Pth.l.injEq, Pth.r.injEq, if_true, if_false, I.h1, I.h3, onP, onO_some, forceN_eq, rv, hb, h7, onR_ok, onGo_go, binV, binII, binI, kindEq, cnd_true, lssB, e0, evC_cond, onB_some, cnd_false, evC_exit, onGo_exit]
    rfl
  · constructor
    · simpa [T.getP_putP, p1, p3, p5, p6, p7, p8] using I.h1
    · simpa [T.getP_putP, p1, p3, p5, p6, p7, p8] using I.h3

theorem step5 {i l n : Nat} (I : Inv5 bx tm i) (hb : look h bx = some Bx) (h7 : readB Bx (Nat.add 0 7) = some (.sl b 0 len cap)) (hi : i < len) (hlen : len ≤ maxLen) (hB : look h b = some B) (h2 : readB B (Nat.add (Nat.add 0 (Nat.mul i 3)) 2) = some (.s l n)) :
    (∃ tm', evCode call fuel round5 tm h = .go tm' h ∧ Inv5 bx tm' (i + 1)) ∨ ∃ tm', evCode call fuel round5 tm h = .ret tm' h ∧ T.getP p2 tm' = some (.b false) := by
  have e0 := bltT hi
  have ea := addI_one i (by have : maxLen = 9223372036854775807 := rfl; omega)
  by_cases hl : 100 < l
  · right
    have e1 := bltT hl
    apply Exists.intro
    apply And.intro
    · unfold round5
      simp only [evC_seq, evC_ops, evOps_o, evOps_g, evOps_e, evOp, oMov, oFld, oLd1, oLen, oLens, oBin, oIdx, oPick, ax_t, ax_c, axN, asN, T.getP_putP, p1, p2, p3, p5, p6, p7, p8, p10, p11, p12, p14, p15, p16, p17, p18, reduceCtorEq, Pth.l.injEq, Pth.r.injEq, if_true, if_false, I.h1, I.h3, onP, onS, onSl, onO_some, forceN_eq, rv, onR_ok, onGo_go, binV, binII, binI, kindEq, cnd_true, cnd_false, lssB, lenB, evC_cond, evC_block, onB_some, evC_exit, evC_ret, evC_skip, onGo_exit, onGo_ret, onExit_go, onExit_ret, hb, h7, hB, h2, e0, e1]
      rfl
    · simp [T.getP_putP, p1, p2, p3, p5, p6, p7, p8, p11, p12, p14, p15, p16, p17, p18]
  · left
    have e1 := bltF hl
    apply Exists.intro
    apply And.intro
    · unfold round5
      simp only [evC_seq, evC_ops, evOps_o, evOps_g, evOps_e, evOp, oMov, oFld, oLd1, oLen, oLens, oBin, oIdx, oPick, ax_t, ax_c, axN, asN, T.getP_putP, p1, p2, p3, p5, p6, p7, p8, p10, p11, p12, p14, p15, p16, p17, p18, reduceCtorEq, Pth.l.injEq, Pth.r.injEq, if_true, if_false, I.h1, I.h3, onP, onS, onSl, onO_some, forceN_eq, rv, onR_ok, onGo_go, binV, binII, binI, kindEq, cnd_true, cnd_false, lssB, lenB, evC_cond, evC_block, onB_some, evC_exit, evC_ret, evC_skip, onGo_exit, onGo_ret, onExit_go, onExit_ret, hb, h7, hB, h2, e0, e1, ea]
      rfl
    · constructor
      · simpa [T.getP_putP, p1, p2, p3, p5, p6, p7, p8, p10, p11, p12, p14, p15, p16, p17, p18] using I.h1
      · simp [T.getP_putP, p1, p2, p3, p5, p6, p7, p8, p10, p11, p12, p14, p15, p16, p17, p18]

theorem outN (I : Inv5 bx tm 0) (hb : look h bx = some Bx) (h7 : readB Bx (Nat.add 0 7) = some .ns) : ∃ tm', evCode call fuel round5 tm h = .exit 0 tm' h ∧ Inv5 bx tm' 0 := by
  have e0 : Nat.blt 0 0 = false := rfl
  apply Exists.intro
  apply And.intro
  · unfold round5
    simp only [evC_seq, evC_ops, evOps_o, evOps_g, evOps_e, evOp, oMov, oFld, oLd1, oLen, oBin, oPick, wanted, bEq, ax_t, ax_c, T.getP_putP, p1, p2, p3, p5, p6, p7, p8, p19, p20, p21, p22, p24, p25, p26, p27, p28, reduceCtorEq, Pth.l.injEq, Pth.r.injEq, if_true, if_false, I.h1, I.h3, onP, onO_some, forceN_eq, rv, onR_ok, onGo_go, binV, binII, binI, kindEq, cnd_true, cnd_false, lssB, leqB, evC_cond, onB_some, evC_exit, evC_ret, onGo_exit, onGo_ret, onExit_go, onExit_ret, Bool.not_true, Bool.not_false, hb, h7, e0]
    rfl
  · constructor
    · simpa [T.getP_putP, p1, p3, p5, p6, p7, p8] using I.h1
    · simpa [T.getP_putP, p1, p3, p5, p6, p7, p8] using I.h3
/-- The loop's outcome. -/
def Out5 (bx : Pth) (h : Hp) (r : R) : Prop := (∃ tm' i, r = .exit 0 tm' h ∧ Inv5 bx tm' i) ∨ ∃ tm', r = .ret tm' h ∧ T.getP p2 tm' = some (.b false)
theorem loop5 (hb : look h bx = some Bx) (h7 : readB Bx (Nat.add 0 7) = some (.sl b 0 len cap)) (hlen : len ≤ maxLen)
    (hB : 0 < len → look h b = some B) (h2 : ∀ i, i < len → ∃ l n, readB B (Nat.add (Nat.add 0 (Nat.mul i 3)) 2) = some (.s l n)) :
    ∀ (k i : Nat) (tm : T AV) (f : Nat), len - i = k → k < f → Inv5 bx tm i → Out5 bx h (loopN (evCode call fuel round5) f tm h)
  | 0, i, tm, f + 1, hk, _, I => by
    obtain ⟨tm', e, I'⟩ := out5 (call := call) (fuel := fuel) I hb h7 (by omega)
    rw [loopN_step, e]
    exact .inl ⟨tm', i, rfl, I'⟩
  | k + 1, i, tm, f + 1, hk, hf, I => by
    obtain ⟨l, n, h2'⟩ := h2 i (by omega)
    rcases step5 (call := call) (fuel := fuel) I hb h7 (by omega) hlen (hB (by omega)) h2' with ⟨tm', e, I'⟩ | ⟨tm', e, e2⟩
    · rw [loopN_step, e, onGo_go]
      exact loop5 hb h7 hlen hB h2 k (i + 1) tm' f (by omega) (by omega) I'
    · rw [loopN_step, e, onGo_ret]
      exact .inr ⟨tm', rfl, e2⟩
/-- The length of a slice. -/
def SlV (v : AV) (n : Nat) : Prop := (v = .ns ∧ n = 0) ∨ ∃ b o c, v = .sl b o n c
theorem fin5 {i n7 n8 : Nat} {v7 v8 : AV} (I : Inv5 bx tm i) (hb : look h bx = some Bx) (h7 : readB Bx (Nat.add 0 7) = some v7) (h8 : readB Bx (Nat.add 0 8) = some v8) (k7 : SlV v7 n7) (k8 : SlV v8 n8) :
    ∃ tm' b, evCode call fuel end5 tm h = .ret tm' h ∧ T.getP p2 tm' = some (.b b) := by
  have l7 : ∀ (tm : T AV) (h : Hp) x, ax tm x = some v7 → oLen tm h x = .ok (.i .i64 (.ofNat n7)) h := by
    intro tm h x e
    unfold oLen
    rcases k7 with ⟨rfl, rfl⟩ | ⟨b, o, c, rfl⟩ <;> rw [e]
  have l8 : ∀ (tm : T AV) (h : Hp) x, ax tm x = some v8 → oLen tm h x = .ok (.i .i64 (.ofNat n8)) h := by
    intro tm h x e
    unfold oLen
    rcases k8 with ⟨rfl, rfl⟩ | ⟨b, o, c, rfl⟩ <;> rw [e]
  refine Exists.elim (show ∃ x, Nat.blt 10 n7 = x from ⟨_, rfl⟩) fun x e1 => ?_
  refine Exists.elim (show ∃ x, Nat.blt 10 n8 = x from ⟨_, rfl⟩) fun y e2 => ?_
  cases x <;> cases y
  all_goals
    apply Exists.intro
    apply Exists.intro
    apply And.intro
    · unfold end5
      simp only [evC_seq, evC_ops, evOps_o, evOps_g, evOps_e, evOp, oMov, oFld, oLd1, oBin, oPick, wanted, bEq, ax_t, ax_c, T.getP_putP, p1, p2, p3, p5, p6, p7, p8, p19, p20, p21, p22, p24, p25, p26, p27, p28, reduceCtorEq, Pth.l.injEq, Pth.r.injEq, if_true, if_false, I.h1, I.h3, onP, onO_some, forceN_eq, rv, onR_ok, onGo_go, binV, binII, binI, kindEq, cnd_true, cnd_false, lssB, leqB, evC_cond, onB_some, evC_exit, evC_ret, onGo_exit, onGo_ret, onExit_go, onExit_ret, Bool.not_true, Bool.not_false, hb, h7, h8, l7, l8, e1, e2]
      rfl
    · simp only [T.getP_putP, p2, if_true]
      rfl

theorem chunk_get' {l : List AV} {a z k : Nat} (hk : k < z) : ((l.drop a).take z)[k]? = l[a + k]? := by rw [List.getElem?_take_of_lt hk, List.getElem?_drop]
theorem look_new {X : Blk} (hr : X.root = none) (hl : Nat.ble X.low X.ver = true) {b : Pth} {m : T Blk} {nx : Pth} (e : T.getP b m = some X) : look ⟨m, nx⟩ b = some X := by
  unfold look
  show onO (T.getP b m) none _ = _
  rw [e, onO_some, hr, onO_none, hl, cnd_true]
theorem fin_ret (x : Bool) (e : T.getP p2 tm = some (.b x)) : fin [.t p2] (.ret tm h) = .ok (.b x) h := by
  show results tm h [.t p2] = _
  unfold results
  show (match onO (T.getP p2 tm) none _ with | some [v] => Rv.ok v h | some l => .ok (.tup l) h | none => .no) = _
  rw [e]; rfl
noncomputable def bx9 (l : List AV) : Blk := { cells := ofL l, size := 9, stride := 9, root := none, ver := 0, tipv := 0, low := 0 }
noncomputable def hp9 (l : List AV) (h : Hp) : Hp := ⟨T.putP (bx9 l) h.nx h.m, h.nx.inc⟩
noncomputable def tm9 (l : List AV) (h : Hp) : T AV := T.putP (.i .i64 (.ofNat 0)) p3 (T.putP (.b false) p2 (T.putP (.p h.nx 0) p1 (T.putP (.agg l) .z .e)))
theorem start5 {l : List AV} (hl : l.length = 9) (ho : ones l = true) : evCode call fuel (.seq (.ops [(.o p1 (.box (.t p0) 9)), (.o p2 (.mov (.c (.b false))))]) (.seq (.seq (.ops [(.o p3 (.mov (.c (.i .i64 (.ofNat 0)))))]) (.block 0 (.loop round5))) end5)) (T.putP (.agg l) .z .e) h
    = onGo (onExit 0 (loopN (evCode call fuel round5) fuel (tm9 l h) (hp9 l h))) (evCode call fuel end5) := by
  simp only [evC_seq, evC_ops, evOps_o, evOps_e, evOp, oBox, oMov, rv, ax_t, ax_c, p0, T.getP_same, onO_some, cellsOf, ho, cnd_true, newBlk_eq, listLen_eq, hl, onR_ok, onGo_go, evC_block, evC_loop]
  rfl
theorem inv9 (l : List AV) (h : Hp) : Inv5 h.nx (tm9 l h) 0 := ⟨by simp [tm9, T.getP_putP, p1, p2, p3], by simp [tm9, T.getP_putP, p3]⟩
section
variable [Env] [Fr]
noncomputable def vl : Ty := .st (.p (.i .i64) (.p (.i .i64) (.p .s .u)))
noncomputable def st : Ty := .st (.p (.i .i64) (.p (.i .i64) (.p (.i .i64) (.p (.i .i64) (.p (.i .i64) (.p (.i .i64) (.p (.i .i64) (.p (.sl vl) (.p (.sl (.i .i64)) .u)))))))))
theorem slV {e : Ty} {x : List AV} (k : TyAV h (.sl e) x) : ∃ v n, x = [v] ∧ SlV v n := by
  rcases k with k | ⟨b, k⟩ | ⟨b, len, cap, cs, k, _⟩
  · exact ⟨_, _, k, .inl ⟨rfl, rfl⟩⟩
  · exact ⟨_, _, k, .inr ⟨b, 0, 0, rfl⟩⟩
  · exact ⟨_, _, k, .inr ⟨b, 0, cap, rfl⟩⟩
theorem vals {l : List AV} (k : TyAV h vl l) : ∃ s n, l[2]? = some (.s s n) := by
  obtain ⟨x1, y1, rfl, ⟨n1, rfl, _⟩, x2, y2, rfl, ⟨n2, rfl, _⟩, x3, y3, rfl, ⟨s, rfl, _⟩, rfl⟩ := k
  exact ⟨_, _, rfl⟩
theorem few_run {N : Nat} {w0 w : World} {φ : Phi} {l : List AV} (H : HRel N w0 φ h w) (k : TyAV h st l) : ∃ (fuel : Nat) (b : Bool) (h' : Hp), callN tbl fuel 1 0 false noY 5 [.agg l] h = .ok (.b b) h' := by
  have hl : l.length = 9 := k.length
  have ho : ones l = true := ones_of k.ones
  obtain ⟨x1, y1, e1, ⟨n1, rfl, _⟩, x2, y2, rfl, ⟨n2, rfl, _⟩, x3, y3, rfl, ⟨n3, rfl, _⟩, x4, y4, rfl, ⟨n4, rfl, _⟩, x5, y5, rfl, ⟨n5, rfl, _⟩, x6, y6, rfl, ⟨n6, rfl, _⟩, x7, y7, rfl, ⟨n7, rfl, _⟩, x8, y8, rfl, s8, x9, y9, rfl, s9, rfl⟩ := k
  obtain ⟨v7, m7, rfl, k7⟩ := slV s8
  obtain ⟨v8, m8, rfl, k8⟩ := slV s9
  have h7 : readB (bx9 l) (Nat.add 0 7) = some v7 := by
    show T.get (ofL l) 7 = _
    rw [get_ofL, e1]; rfl
  have h8 : readB (bx9 l) (Nat.add 0 8) = some v8 := by
    show T.get (ofL l) 8 = _
    rw [get_ofL, e1]; rfl
  have hb : look (hp9 l h) h.nx = some (bx9 l) := look_new rfl rfl (T.getP_same _ _ _)
  have key : ∃ fuel, ∀ call : Cl, Out5 h.nx (hp9 l h) (loopN (evCode call fuel round5) fuel (tm9 l h) (hp9 l h)) := by
    rcases s8 with e | ⟨b, e⟩ | ⟨b, len, cap, cs, e, g1, g2, g3, g4, g5⟩
    · obtain rfl := List.head_eq_of_cons_eq e
      refine ⟨1, fun call => ?_⟩
      obtain ⟨tm', e', I'⟩ := outN (call := call) (fuel := 1) (inv9 l h) hb h7
      rw [loopN_step, e']
      exact .inl ⟨tm', 0, rfl, I'⟩
    · obtain rfl := List.head_eq_of_cons_eq e
      exact ⟨1, fun call => loop5 (B := bx9 l) hb h7 (Nat.zero_le _) (fun k => absurd k (Nat.lt_irrefl 0)) (fun i hi => absurd hi (Nat.not_lt_zero i)) 0 0 _ 1 rfl (by omega) (inv9 l h)⟩
    · obtain rfl := List.head_eq_of_cons_eq e
      have hbn : b ≠ h.nx := fun k => by subst k; rw [getP_fresh H] at g3; cases g3
      refine ⟨len + 1, fun call => loop5 hb h7 (Nat.le_trans g1 g2) (fun _ => look_new (X := roBlk (ofL cs) (cap * vl.size) vl.size) rfl rfl (by rw [T.getP_other _ hbn]; exact g3)) (fun i hi => ?_) len 0 _ (len + 1) rfl (by omega) (inv9 l h)⟩
      obtain ⟨s, n, es⟩ := vals (g5 i (by omega))
      refine ⟨s, n, ?_⟩
      have hv : vl.size = 3 := rfl
      rw [hv] at es ⊢
      rw [chunk_get' (by omega)] at es
      have hlt : Nat.blt (Nat.add (Nat.add 0 (Nat.mul i 3)) 2) (cap * 3) = true := bltT (by show 0 + i * 3 + 2 < cap * 3; omega)
      unfold readB
      show cnd (Nat.blt _ (cap * 3)) (T.get (ofL cs) _) none = _
      rw [hlt, cnd_true, get_ofL, show Nat.add (Nat.add 0 (Nat.mul i 3)) 2 = i * 3 + 2 by show 0 + i * 3 + 2 = _; omega]
      exact es
  obtain ⟨fuel, key⟩ := key
  have hc := callN_opt (tbl := tbl) (fuel := fuel) (n := 0) (lv := 0) (yl := noY) (f := 5) (args := [.agg l]) (h := h) tbl5 (Nat.le_refl 1)
  have ha : argsT [.agg l] .z .e = T.putP (.agg l) .z .e := by rw [argsT_cons, argsT_nil]
  rw [ha, start5 hl ho] at hc
  rcases key ⟨callN tbl fuel 0, 0, noY⟩ with ⟨tm', i, e, I⟩ | ⟨tm', e, e2⟩
  · rw [e, onExit_exit, show Nat.beq 0 0 = true from rfl, cnd_true, onGo_go] at hc
    obtain ⟨tm2, b, e3, e4⟩ := fin5 (call := ⟨callN tbl fuel 0, 0, noY⟩) (fuel := fuel) I hb h7 h8 k7 k8
    rw [e3, fin_ret b e4] at hc
    exact ⟨fuel, b, _, hc⟩
  · rw [e, onExit_ret, onGo_ret, fin_ret false e2] at hc
    exact ⟨fuel, false, _, hc⟩
end
end
end Go.Abs.Hn
