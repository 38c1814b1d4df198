/- Ranges over functions: from frame to frame. -/
import Derived.Test.YtcfjhdhpofomjaaGreatDoorAbsCodeS
set_option linter.unusedSectionVars false
set_option linter.unusedSimpArgs false
set_option linter.unusedVariables false
set_option linter.constructorNameAsVariable false
namespace Go.Abs
variable [Env] [Fr]
open Go.RowKit

/- No yield in it: it means the same in every frame. -/
mutual
theorem VRel.move (E2 : Frm) {φ φ' : Phi} (e : ∀ b L, φ b = some L → φ' b = some L) : ∀ {x : AV} {y : Value}, VRel φ x y → x.pur = true → @VRel _ ⟨E2⟩ φ' x y
  | _, _, .b x, _ => @VRel.b _ ⟨E2⟩ φ' x
  | _, _, .i k n, _ => @VRel.i _ ⟨E2⟩ φ' k n
  | _, _, .s l, _ => @VRel.s _ ⟨E2⟩ φ' l
  | _, _, .np, _ => @VRel.np _ ⟨E2⟩ φ' 
  | _, _, .p h, _ => @VRel.p _ ⟨E2⟩ φ' _ _ _ (e _ _ h)
  | _, _, .ns, _ => @VRel.ns _ ⟨E2⟩ φ' 
  | _, _, .sl h hc hl hr, _ => @VRel.sl _ ⟨E2⟩ φ' _ _ _ _ _ _ (e _ _ h) hc hl hr
  | _, _, .sl0 h hc, _ => @VRel.sl0 _ ⟨E2⟩ φ' _ _ _ _ _ (e _ _ h) hc
  | _, _, .nf, _ => @VRel.nf _ ⟨E2⟩ φ' 
  | _, _, .fn (a := a) (c := c) ha hc, hp => by
    have hp : cnd (purL a) (purL c) false = true := hp
    have h2 : purL a = true ∧ purL c = true := by cases h : purL a <;> simp_all
    exact @VRel.fn _ ⟨E2⟩ φ' _ _ _ _ _ (VRels.move E2 e ha h2.1) (VRels.move E2 e hc h2.2)
  | _, _, .ni, _ => @VRel.ni _ ⟨E2⟩ φ' 
  | _, _, .nm, _ => @VRel.nm _ ⟨E2⟩ φ' 
  | _, _, .agg h, hp => @VRel.agg _ ⟨E2⟩ φ' _ _ (VRels.move E2 e h hp)
  | _, _, .tup h, hp => @VRel.tup _ ⟨E2⟩ φ' _ _ (VRels.move E2 e h hp)
  | _, _, .q i, _ => @VRel.q _ ⟨E2⟩ φ' i
  | _, _, .yi, hp => by cases hp
theorem VRels.move (E2 : Frm) {φ φ' : Phi} (e : ∀ b L, φ b = some L → φ' b = some L) : ∀ {x : List AV} {y : List Value}, VRels φ x y → purL x = true → @VRels _ ⟨E2⟩ φ' x y
  | _, _, .nil, _ => @VRels.nil _ ⟨E2⟩ φ'
  | _, _, .cons (x := x) (l := l) h t, hp => by
    have hp : cnd x.pur (purL l) false = true := hp
    have h2 : x.pur = true ∧ purL l = true := by cases h : x.pur <;> simp_all
    exact @VRels.cons _ ⟨E2⟩ φ' _ _ _ _ (VRel.move E2 e h h2.1) (VRels.move E2 e t h2.2)
end
theorem one_pur {x : AV} (h : x.one = true) : x.pur = true := by
  cases x <;> first | rfl | exact h | cases h

/- The same yield: the same meaning. -/
mutual
theorem VRel.reyl (E2 : Frm) (hy : E2.yl = Fr.s.yl) {φ : Phi} : ∀ {x : AV} {y : Value}, VRel φ x y → @VRel _ ⟨E2⟩ φ x y
  | _, _, .b x => @VRel.b _ ⟨E2⟩ φ x
  | _, _, .i k n => @VRel.i _ ⟨E2⟩ φ k n
  | _, _, .s l => @VRel.s _ ⟨E2⟩ φ l
  | _, _, .np => @VRel.np _ ⟨E2⟩ φ
  | _, _, .p h => @VRel.p _ ⟨E2⟩ φ _ _ _ h
  | _, _, .ns => @VRel.ns _ ⟨E2⟩ φ
  | _, _, .sl h hc hl hr => @VRel.sl _ ⟨E2⟩ φ _ _ _ _ _ _ h hc hl hr
  | _, _, .sl0 h hc => @VRel.sl0 _ ⟨E2⟩ φ _ _ _ _ _ h hc
  | _, _, .nf => @VRel.nf _ ⟨E2⟩ φ
  | _, _, .fn ha hc => @VRel.fn _ ⟨E2⟩ φ _ _ _ _ _ (VRels.reyl E2 hy ha) (VRels.reyl E2 hy hc)
  | _, _, .ni => @VRel.ni _ ⟨E2⟩ φ
  | _, _, .nm => @VRel.nm _ ⟨E2⟩ φ
  | _, _, .agg h => @VRel.agg _ ⟨E2⟩ φ _ _ (VRels.reyl E2 hy h)
  | _, _, .tup h => @VRel.tup _ ⟨E2⟩ φ _ _ (VRels.reyl E2 hy h)
  | _, _, .q i => @VRel.q _ ⟨E2⟩ φ i
  | _, _, .yi => by have := @VRel.yi _ ⟨E2⟩ φ; rw [show (Fr.s (self := ⟨E2⟩)).yl = Fr.s.yl from hy] at this; exact this
theorem VRels.reyl (E2 : Frm) (hy : E2.yl = Fr.s.yl) {φ : Phi} : ∀ {x : List AV} {y : List Value}, VRels φ x y → @VRels _ ⟨E2⟩ φ x y
  | _, _, .nil => @VRels.nil _ ⟨E2⟩ φ
  | _, _, .cons h t => @VRels.cons _ ⟨E2⟩ φ _ _ _ _ (VRel.reyl E2 hy h) (VRels.reyl E2 hy t)
end

section
variable {P : Program} {N : Nat} {w0 w w' : World} {φ φ' : Phi} {h h' : Hp}
/-- The same blocks in the same rows: in another frame, with other objects that are no cells. -/
theorem HRel.shift (E2 : Frm) (H : HRel N w0 φ h w) (hf : φ'.f = φ.f) (hb : Ext E2.base φ') (hnx : h'.nx = h.nx) (hm : ∀ b, b ≠ .z → T.getP b h'.m = T.getP b h.m) (hbel : Below N w w')
    (hrows : ∀ (i : Nat) (arr : Array Value) (t : TypeId) (fz : Nat × Nat), w.heap[i]? = some (.cells arr t fz) → w'.heap[i]? = some (.cells arr t fz))
    (hk : ∀ i o, φ'.keep i = some o → N ≤ i ∧ w'.heap[i]? = some (o (pendOf h')) ∧ (∀ c, NoCells (o c)) ∧ ∀ c d, d < 64 → E2.tg i ≠ some d → o (pendCode d c) = o 0) : @HRel _ ⟨E2⟩ N w0 φ' h' w' := by
  have hφ : ∀ b, φ' b = φ b := fun b => congrFun hf b
  have hz : ∀ b L, φ b = some L → b ≠ .z := fun b L e k => by subst k; rw [H.zero] at e; cases e
  have hroot : ∀ b L B q, φ b = some L → T.getP b h.m = some B → B.root = some q → q ≠ .z := fun b L B q e1 e2 e3 => let ⟨Q, LQ, g, _⟩ := H.roots b L B q e1 e2 e3; hz q LQ g
  have hrp : ∀ b L B, φ b = some L → T.getP b h.m = some B → rootP b B ≠ .z := by
    intro b L B e1 e2
    cases e3 : B.root with
    | none => simp only [rootP, e3, Option.getD_none]; exact hz b L e1
    | some q => simp only [rootP, e3, Option.getD_some]; exact hroot b L B q e1 e2 e3
  have hlook : ∀ b L, φ b = some L → look h' b = look h b := by
    intro b L e
    obtain ⟨B, e2, _⟩ := H.dom b L e
    unfold look
    rw [hm b (hz b L e), e2, onO_some, onO_some]
    cases e3 : B.root with
    | none => rfl
    | some q => rw [onO_some, onO_some, hm q (hroot b L B q e e2 e3)]
  refine @HRel.mk _ ⟨E2⟩ N w0 φ' h' w' hk ?_ ?_ hb (H.below.trans hbel) (Nat.le_trans H.base hbel.size) ?_ ?_ ?_ ?_ ?_ ?_ ?_ ?_ ?_
  · rw [hφ]; exact H.zero
  · rw [hnx]; exact H.pos
  · intro p B e
    rw [hnx]
    by_cases k : p = .z
    · subst k
      have : h.nx.num ≠ 0 := fun e => H.pos (Pth.num_inj (q := .z) e)
      show 0 < _
      omega
    · rw [hm p k] at e; exact H.fresh p B e
  · intro b L e
    rw [hφ] at e
    obtain ⟨B, e2, ⟨arr, elem, lo, hi, r1, r2, r3⟩, f1, f2⟩ := H.dom b L e
    refine ⟨B, by rw [hm b (hz b L e)]; exact e2, @BRel.mk _ ⟨E2⟩ φ' w' B L _ ⟨arr, elem, lo, hi, hrows _ _ _ _ r1, r2, fun i hi hl => ?_⟩ f1 f2⟩
    rw [hlook b L e] at hl
    obtain ⟨x, y, g1, g2, g3, g4⟩ := r3 i hi hl
    exact ⟨x, y, g1, g2, VRel.move E2 (fun b L => by rw [hφ]; exact id) g3 (one_pur g4), g4⟩
  · intro b L B q e e2 e3
    rw [hφ] at e; rw [hm b (hz b L e)] at e2
    obtain ⟨Q, LQ, g1, g2, g3⟩ := H.roots b L B q e e2 e3
    exact ⟨Q, LQ, by rw [hφ]; exact g1, by rw [hm q (hz q LQ g1)]; exact g2, g3⟩
  · intro b b' L L' B B' e e' e2 e2'
    rw [hφ] at e e'; rw [hm b (hz b L e)] at e2; rw [hm b' (hz b' L' e')] at e2'
    exact H.apart b b' L L' B B' e e' e2 e2'
  · intro b L B Q e e2 e3 e4
    rw [hφ] at e; rw [hm b (hz b L e)] at e2; rw [hm _ (hrp b L B e e2)] at e3
    obtain ⟨g1, g2⟩ := H.tip b L B Q e e2 e3 e4
    refine ⟨g1, fun o ho => ?_⟩
    have := g2 o ho
    obtain ⟨B1, _, ⟨arr, elem, lo, hi, r1, _⟩, _⟩ := H.dom b L e
    simp only [World.frozen?, r1] at this
    simp only [World.frozen?, hrows _ _ _ _ r1]
    exact this
  · intro b b' L L' B B' e e' e2 e2'
    rw [hφ] at e e'; rw [hm b (hz b L e)] at e2; rw [hm b' (hz b' L' e')] at e2'
    exact H.vers b b' L L' B B' e e' e2 e2'
  · intro b L B Q e e2 e3
    rw [hφ] at e; rw [hm b (hz b L e)] at e2; rw [hm _ (hrp b L B e e2)] at e3
    exact H.le b L B Q e e2 e3
  · intro b L B Q e e2 e3
    rw [hφ] at e; rw [hm b (hz b L e)] at e2; rw [hm _ (hrp b L B e e2)] at e3
    exact H.lows b L B Q e e2 e3
  · intro b b' L L' B B' Q e e' e2 e2' hr e3
    rw [hφ] at e e'; rw [hm b (hz b L e)] at e2; rw [hm b' (hz b' L' e')] at e2'; rw [hm _ (hrp b L B e e2)] at e3
    exact H.ends b b' L L' B B' Q e e' e2 e2' hr e3

theorem forceM_eq2 (t : T Blk) (nx : Pth) : forceM t nx = ⟨t, nx⟩ := by cases t <;> rfl
theorem setPend_nx (c : Nat) (h : Hp) : (setPend c h).nx = h.nx := by unfold setPend; rw [forceM_eq2]
theorem setPend_other (c : Nat) (h : Hp) (b : Pth) (hb : b ≠ .z) : T.getP b (setPend c h).m = T.getP b h.m := by unfold setPend; rw [forceM_eq2]; exact T.getP_other _ hb _
theorem pendOf_set (c : Nat) (h : Hp) : pendOf (setPend c h) = c := by unfold setPend pendOf; rw [forceM_eq2, T.getP_same]; rfl
theorem isPend_ok {r : Rv} {v : AV} (e : isPend h r = .ok v h') : pendOf h = 0 ∧ r = .ok v h' := by
  obtain ⟨e1, e2⟩ := cnd_eq_ok e
  exact ⟨Nat.eq_of_beq_eq_true e1, e2⟩
theorem below_putObj {l : Nat} {o : Obj} (hl : N ≤ l) : Below N w (w.putObj l o) :=
  ⟨rfl, rfl, rfl, by simp, fun k hk => World.putObj_heap_other (by omega)⟩
theorem cells_putObj {l : Nat} {o o' : Obj} (hl : w.heap[l]? = some o) (hn : NoCells o) (i : Nat) (arr : Array Value) (t : TypeId) (fz : Nat × Nat) (e : w.heap[i]? = some (.cells arr t fz)) :
    (w.putObj l o').heap[i]? = some (.cells arr t fz) := by
  rw [World.putObj_heap_other (fun k => by subst k; rw [hl] at e; cases e; exact hn)]; exact e

/-- Another base. -/
theorem HRel.rebase (E2 : Frm) (ht : E2.tg = Fr.s.tg) (H : HRel N w0 φ h w) (hb : Ext E2.base φ) : @HRel _ ⟨E2⟩ N w0 φ h w :=
  H.shift E2 rfl hb rfl (fun _ _ => rfl) (Below.refl _ _) (fun _ _ _ _ k => k) (fun i o hi => by rw [ht]; exact H.kept i o hi)
theorem EndOK.rebase (E2 : Frm) (hy : E2.yl = Fr.s.yl) (ht : E2.tg = Fr.s.tg) (hb : ∀ φ', Ext φ φ' → Ext E2.base φ') {v : AV} {e : Ending} (k : EndOK N w0 φ h v h' e w') : @EndOK _ ⟨E2⟩ N w0 φ h v h' e w' := by
  rcases k with k | ⟨y, φ', k1, k2, k3, k4, k5⟩
  · exact k.elim
  · exact .inr ⟨y, φ', k1, VRel.reyl E2 hy k2, k3, k4.rebase E2 ht (hb _ k3), k5⟩
theorem EnterRun.rebase (E2 : Frm) (hy : E2.yl = Fr.s.yl) (ht : E2.tg = Fr.s.tg) (hb : ∀ φ', Ext φ φ' → Ext E2.base φ') {s : Sem Next} {v : AV} (k : EnterRun P N w0 φ h w s v h') : @EnterRun _ ⟨E2⟩ P N w0 φ h w s v h' :=
  let ⟨f, as, k1, k2⟩ := k
  ⟨f, as, k1, k2.mono fun _ _ he => he.rebase E2 hy ht hb⟩
theorem OpRun.rebase (E2 : Frm) (hy : E2.yl = Fr.s.yl) (ht : E2.tg = Fr.s.tg) (hb : ∀ φ', Ext φ φ' → Ext E2.base φ') {s : Sem Next} {v : AV} (k : OpRun P N w0 φ h w s v h') : @OpRun _ ⟨E2⟩ P N w0 φ h w s v h' := by
  rcases k with ⟨r, w', φ', k1, k2, k3, k4, k5⟩ | ⟨f, as, k1, k2⟩ | ⟨l, f, tmps, x, y, k1, k2⟩
  · refine .inl ⟨r, w', φ', k1, ?_, k3, k4.rebase E2 ht (hb _ k3), k5⟩
    rcases k2 with ⟨y, k2, k6⟩ | k2
    · exact .inl ⟨y, k2, VRel.reyl E2 hy k6⟩
    · exact .inr k2
  · exact .inr (.inl ⟨f, as, k1, k2.mono fun _ _ he => he.rebase E2 hy ht hb⟩)
  · exact .inr (.inr ⟨l, f, tmps, x, y, k1, k2.mono fun _ _ he => he.rebase E2 hy ht hb⟩)
/-- Another object is kept at l. -/
def Phi.at (φ : Phi) (l : Nat) (o : Option (Nat → Obj)) : Phi := ⟨φ.f, fun i => if i = l then o else φ.keep i⟩
theorem Phi.at_same (φ : Phi) (l : Nat) (o : Option (Nat → Obj)) : (φ.at l o).keep l = o := by simp [Phi.at]
theorem Phi.at_other (φ : Phi) {l i : Nat} (o : Option (Nat → Obj)) (h : i ≠ l) : (φ.at l o).keep i = φ.keep i := by simp [Phi.at, h]
theorem Ext.at_r {φ φ' : Phi} (e : Ext φ φ') {l : Nat} (o : Option (Nat → Obj)) (h : φ.keep l = none) : Ext φ (φ'.at l o) :=
  ⟨e.f, fun i q hi => by rw [Phi.at_other _ _ (fun k => by subst k; rw [h] at hi; cases hi)]; exact e.keep i q hi⟩

/-- The object at l turns; the rest stays. -/
theorem HRel.turn (E2 : Frm) (H : HRel N w0 φ h w) {l : Nat} {o : Obj} {oo : Nat → Obj} (hl : φ.keep l = some oo) (q : Option (Nat → Obj)) (hb : Ext E2.base (φ.at l q)) (hnx : h'.nx = h.nx) (hm : ∀ b, b ≠ .z → T.getP b h'.m = T.getP b h.m)
    (htg : ∀ i, i ≠ l → E2.tg i = Fr.s.tg i) (hq : ∀ o', q = some o' → o = o' (pendOf h') ∧ (∀ c, NoCells (o' c)) ∧ ∀ c d, d < 64 → E2.tg l ≠ some d → o' (pendCode d c) = o' 0) (hp : pendOf h' = pendOf h ∨ ∀ i o', i ≠ l → φ.keep i = some o' → o' (pendOf h') = o' (pendOf h)) : @HRel _ ⟨E2⟩ N w0 (φ.at l q) h' (w.putObj l o) := by
  obtain ⟨k0, k1, k2⟩ := H.kept l oo hl
  have hlt : l < w.heap.size := (Array.getElem?_eq_some_iff.1 k1).1
  refine H.shift E2 rfl hb hnx hm (below_putObj k0) (cells_putObj k1 (k2.1 _)) ?_
  intro i o' hi
  by_cases e : i = l
  · subst e
    rw [Phi.at_same] at hi
    obtain ⟨g1, g2⟩ := hq o' hi
    exact ⟨k0, by rw [World.putObj_heap_same hlt, g1], g2⟩
  · rw [Phi.at_other _ _ e] at hi
    obtain ⟨g0, g1, g2⟩ := H.kept i o' hi
    refine ⟨g0, ?_, by rw [htg i e]; exact g2⟩
    rw [World.putObj_heap_other e, g1]
    rcases hp with hp | hp
    · rw [hp]
    · rw [hp i o' e hi]
end

/-- The loop's record, by the jump that is pending. -/
def recOf (r : Loop) : Nat → Loop
  | 0 => r
  | 1 => { r with state := .done, pending := some .ret }
  | n + 2 => { r with state := .done, pending := some (.exit n) }
def selP (lv p : Nat) : Nat := if p % 64 = lv then p / 64 else 0
def recO (lv : Nat) (r : Loop) : Nat → Obj := fun p => .loop (recOf r (selP lv p))
theorem selP_zero (lv : Nat) : selP lv 0 = 0 := by unfold selP; split <;> rfl
theorem selP_code {lv : Nat} (h : lv < 64) (c : Nat) : selP lv (pendCode lv c) = c := by
  unfold selP pendCode
  have e1 : (Nat.add (Nat.mul 64 c) lv) % 64 = lv := by show (64 * c + lv) % 64 = lv; omega
  have e2 : (Nat.add (Nat.mul 64 c) lv) / 64 = c := by show (64 * c + lv) / 64 = c; omega
  rw [if_pos e1, e2]
theorem selP_other {lv d : Nat} (hd : d < 64) (h : lv ≠ d) (c : Nat) : selP lv (pendCode d c) = 0 := by
  unfold selP pendCode
  have e1 : (Nat.add (Nat.mul 64 c) d) % 64 = d := by show (64 * c + d) % 64 = d; omega
  rw [if_neg (by rw [e1]; exact fun k => h k.symm)]

section
variable {P : Program} {N : Nat} {w0 : World}
/-- What is shown of a piece of code. -/
def CodeOK (P : Program) (N : Nat) (w0 : World) (nt : Nat) (c : Code) (f : T AV → Hp → R) : Prop :=
  ∀ (ro : Option Nat) {φ : Phi} {tm : T AV} {h : Hp} {a : Act} {w : World} {r : R}, f tm h = r → r ≠ .no → TRel φ tm a → HRel N w0 φ h w → nt ≤ a.tmps.size →
    (∀ l0, ro = some l0 → ∃ r0 : Loop, φ.keep l0 = some fun _ => .loop r0) → ∀ {Q : Exit → Act → World → Prop}, (∀ ex a' w', Ends N w0 φ h nt r ex a' w' → Q ex a' w') → c.wpIn (Fe ro) 0 P Q a w

theorem setTm_cons (p : Pth) (ps : List Pth) (v : AV) (r : List AV) (tm : T AV) : setTm (p :: ps) (v :: r) tm = setTm ps r (T.putP v p tm) := by
  show T.rec (motive := fun _ => Option (T AV)) (setTm ps r .e) (fun a b d _ _ => setTm ps r (.n a b d)) (T.putP v p tm) = _
  cases T.putP v p tm <;> rfl
theorem setTm_rel {φ : Phi} : ∀ {ps : List Nat} {args : List AV} {args' : List Value} {tm tm1 : T AV} {ts : Array Value}, setTm (ps.map pth) args tm = some tm1 → VRels φ args args' → (∀ p ∈ ps, p < ts.size) → TRel φ tm { tmps := ts, defers := [] } →
    args'.length = ps.length ∧ TRel φ tm1 { tmps := (ps.zip args').foldl (fun t p => t.setIfInBounds p.1 p.2) ts, defers := [] } ∧ ((ps.zip args').foldl (fun t p => t.setIfInBounds p.1 p.2) ts).size = ts.size
  | [], [], _, tm, tm1, ts, e, .nil, _, t => by cases e; exact ⟨rfl, t, rfl⟩
  | [], _ :: _, _, tm, tm1, ts, e, _, _, t => by cases e
  | p :: ps, [], _, tm, tm1, ts, e, _, _, t => by cases e
  | p :: ps, v :: r, _, tm, tm1, ts, e, .cons (y := y) (l' := l') h hr, hp, t => by
    rw [List.map_cons, setTm_cons] at e
    have t1 := t.put (d := p) (hp p (by simp)) h
    obtain ⟨k1, k2, k3⟩ := setTm_rel (ts := ts.setIfInBounds p y) e hr (fun q hq => by rw [Array.size_setIfInBounds]; exact hp q (by simp [hq])) t1
    exact ⟨by simp [k1], k2, by rw [show ((p :: ps).zip (y :: l')).foldl (fun t p => t.setIfInBounds p.1 p.2) ts = (ps.zip l').foldl (fun t p => t.setIfInBounds p.1 p.2) (ts.setIfInBounds p y) from rfl, k3, Array.size_setIfInBounds]⟩
theorem cndR {c : Bool} {a r : R} (e : cnd c a .no = r) (hr : r ≠ .no) : c = true ∧ a = r := by
  cases c with
  | false => exact absurd e.symm hr
  | true => exact ⟨rfl, e⟩
theorem goOnly_ok {r : R} {k : T AV → Hp → Rv} {v : AV} {h' : Hp} (e : goOnly r k = .ok v h') : ∃ t h, r = .go t h ∧ k t h = .ok v h' := by
  cases r with
  | go t h => exact ⟨t, h, rfl, e⟩
  | _ => cases e
theorem keep_lt {φ : Phi} {h : Hp} {w : World} (H : HRel N w0 φ h w) {i : Nat} {o : Nat → Obj} (e : φ.keep i = some o) : i < w.heap.size := (Array.getElem?_eq_some_iff.1 (H.kept i o e).2.1).1
/-- Only what stands at the reserved place differs. -/
theorem Keep.f {φ φ' ψ ψ' : Phi} {h h' : Hp} (k : Keep φ φ' h h') (e : ψ.f = φ.f) (e' : ψ'.f = φ'.f) : Keep ψ ψ' h h' :=
  ⟨fun b B hz hb hB => (by rw [show ψ b = φ b from congrFun e b] at hb; rw [show ψ' b = φ' b from congrFun e' b]; exact k.1 b B hz hb hB), k.2⟩
theorem Keep.pend {φ φ' : Phi} {h h' h'' : Hp} (k : Keep φ φ' h h') (hnx : h''.nx = h'.nx) (hm : ∀ b, b ≠ .z → T.getP b h''.m = T.getP b h'.m) : Keep φ φ' h h'' :=
  ⟨fun b B hz hb hB => let ⟨g1, g2⟩ := k.1 b B hz hb hB; ⟨g1, by rw [hm b hz]; exact g2⟩, by rw [hnx]; exact k.2⟩

theorem sound_range {call : Cl} (hcall : CallOK P N w0 call) {nt : Nat} {x : Operand} {x' : AX} {ps : Array Tmp} {ca cb : Code} {A B : T AV → Hp → R} (hx : axOf x = some x') (hps : ∀ p ∈ ps.toList, p < nt)
    (hA : CodeOK P N w0 nt ca A) (hB : CodeOK P N w0 nt cb B) : CodeOK P N w0 nt (.rangeFunc x ps ca cb) (fun tm h => evRange call A B x' (ps.toList.map pth) tm h) := by
  intro ro φ tm h a w r e hr t H hn hro Q hq
  have e : evRange call A B x' (ps.toList.map pth) tm h = r := e
  unfold evRange at e
  split at e
  · rename_i f first caps hu
    cases first with
    | cons u us => exact absurd e.symm hr
    | nil =>
    have e : cnd (purL caps) (cnd (Nat.blt call.lv 64) (cnd (Nat.beq (pendOf h) 0) (rangeOut call.lv tm (call.it (Nat.succ call.lv) true (roundF call.lv A B (ps.toList.map pth) tm) f (.yi :: caps) h)) .no) .no) .no = r := e
    obtain ⟨hpur, e⟩ := cndR e hr
    obtain ⟨hlv, e⟩ := cndR e hr
    obtain ⟨hp0, e⟩ := cndR e hr
    have hlv := blt_true hlv
    have hp0 : pendOf h = 0 := Nat.eq_of_beq_eq_true hp0
    generalize hcr : call.it (Nat.succ call.lv) true (roundF call.lv A B (ps.toList.map pth) tm) f (.yi :: caps) h = cr at e
    cases cr with
    | no => exact absurd e.symm hr
    | ok v h' =>
    have e : outPend call.lv tm h' (pendOf h') = r := e
    have ru := t.ax hx hu
    generalize hcu : a.eval x = cu at ru
    cases ru with
    | fn ha hc =>
    rename_i fs lb
    cases ha
    refine wpIn_rangeFunc fun fn _ => ?_
    -- the loop is entered
    obtain ⟨l, Dl, W1, r0, hent, hst, hpe, hfn, htm, hpar, hasn, hbod, hbel, hl1, hlge, hDl, hDn⟩ : ∃ (l : Nat) (Dl : List Nat) (W1 : World) (r0 : Loop), (Instr.enterLoop fn a.tmps ps ca cb (Fe ro).round).run P w = .ok (l, Dl.map mark) W1 ∧
        r0.state = .ready ∧ r0.pending = none ∧ r0.fn = fn ∧ r0.tmps = a.tmps ∧ r0.params = ps ∧ r0.assign = ca ∧ r0.body = cb ∧ Below w.heap.size w W1 ∧ W1.heap[l]? = some (.loop r0) ∧ w.heap.size ≤ l ∧
        (∀ D ∈ Dl, w.heap.size ≤ D ∧ D ≠ l ∧ W1.heap[D]? = some (.deferred (some []))) ∧ Dl.Nodup := by
      cases ro with
      | none =>
        refine ⟨w.heap.size + 1, [w.heap.size], _, { state := .ready, pending := none, fn := fn, tmps := a.tmps, params := ps, assign := ca, body := cb, defers := w.heap.size }, run_enterLoop_outer _ _ _ _ _, rfl, rfl, rfl, rfl, rfl, rfl, rfl, ?_, ?_, by omega, ?_, by simp⟩
        · exact ((Below.refl _ w).alloc (Nat.le_refl _) _).alloc (by simp) _
        · have := World.alloc_heap_new (w.alloc (.deferred (some []))) (.loop { state := .ready, pending := none, fn := fn, tmps := a.tmps, params := ps, assign := ca, body := cb, defers := w.heap.size })
          rwa [World.size_alloc] at this
        · intro D hD
          simp at hD; subst hD
          exact ⟨Nat.le_refl _, by omega, (Below.heap_alloc _ _ _ (by simp)).trans (World.alloc_heap_new w _)⟩
      | some l0 =>
        obtain ⟨r1, hk⟩ := hro l0 rfl
        refine ⟨w.heap.size, [], _, { state := .ready, pending := none, fn := fn, tmps := a.tmps, params := ps, assign := ca, body := cb, defers := r1.defers }, run_enterLoop_inner (H.kept l0 _ hk).2.1 _ _ _ _ _, rfl, rfl, rfl, rfl, rfl, rfl, rfl, ?_, World.alloc_heap_new w _, Nat.le_refl _, (fun D hD => by cases hD), by simp⟩
        exact (Below.refl _ w).alloc (Nat.le_refl _) _
    have hkl : φ.keep l = none := by
      cases hk : φ.keep l with
      | none => rfl
      | some o => have := keep_lt H hk; omega
    have hbase_l : Fr.s.base.keep l = none := by
      cases hk : Fr.s.base.keep l with
      | none => rfl
      | some o => rw [H.base0.keep l o hk] at hkl; cases hkl
    have hrec0 : recO call.lv r0 0 = .loop r0 := by unfold recO; rw [selP_zero]; rfl
    obtain ⟨φ1, hφ1⟩ : ∃ φ1 : Phi, φ1 = ⟨φ.f, fun i => if i = l then some (recO call.lv r0) else if i ∈ Dl then some (fun _ => .deferred (some [])) else φ.keep i⟩ := ⟨_, rfl⟩
    have hf1 : φ1.f = φ.f := by rw [hφ1]
    have hk1l : φ1.keep l = some (recO call.lv r0) := by rw [hφ1]; simp
    have hk1D : ∀ D ∈ Dl, φ1.keep D = some fun _ => .deferred (some []) := fun D hD => by rw [hφ1]; simp [(hDl D hD).2.1, hD]
    have hext1 : Ext φ φ1 := by
      rw [hφ1]
      refine ⟨fun _ _ h => h, fun i o hi => ?_⟩
      have h1 := keep_lt H hi
      have h2 : i ≠ l := by omega
      have h3 : i ∉ Dl := fun hD => by have := (hDl i hD).1; omega
      simp only [if_neg h2, if_neg h3]; exact hi
    obtain ⟨E1, hE1⟩ : ∃ E1 : Frm, E1 = ⟨l, φ1, fun j => if j = l then some call.lv else Fr.s.tg j⟩ := ⟨_, rfl⟩
    have hE1b : E1.base = φ1 := by rw [hE1]
    have hE1y : E1.yl = l := by rw [hE1]
    have hE1l : E1.tg l = some call.lv := by rw [hE1]; simp
    have hE1o : ∀ i, i ≠ l → E1.tg i = Fr.s.tg i := fun i hi => by rw [hE1]; simp [hi]
    have hsens : ∀ c d, d < 64 → E1.tg l ≠ some d → recO call.lv r0 (pendCode d c) = recO call.lv r0 0 := fun c d hd hne => by
      rw [hE1l] at hne
      unfold recO
      rw [selP_other hd (fun k => hne (by rw [k])), selP_zero]
    have H1 : @HRel _ ⟨E1⟩ N w0 φ1 h W1 := by
      refine H.shift E1 hf1 (by rw [hE1b]; exact Ext.refl _) rfl (fun _ _ => rfl) (hbel.mono H.base) (fun i arr ty fz hi => ?_) (fun i o hi => ?_)
      · rw [hbel.block i (Array.getElem?_eq_some_iff.1 hi).1]; exact hi
      · by_cases e1 : i = l
        · subst e1
          rw [hk1l] at hi; cases hi
          exact ⟨Nat.le_trans H.base hlge, by rw [hp0, hrec0]; exact hl1, fun _ => trivial, hsens⟩
        · by_cases e2 : i ∈ Dl
          · rw [hk1D i e2] at hi; cases hi
            exact ⟨Nat.le_trans H.base (hDl i e2).1, (hDl i e2).2.2, fun _ => trivial, fun _ _ _ _ => rfl⟩
          · rw [hφ1] at hi
            simp only [if_neg e1, if_neg e2] at hi
            obtain ⟨g0, g1, g2, g3⟩ := H.kept i o hi
            exact ⟨g0, by rw [hbel.block i (keep_lt H hi)]; exact g1, g2, by rw [hE1o i e1]; exact g3⟩
    -- what yield does
    have hy : @YOK _ ⟨E1⟩ P N w0 (roundF call.lv A B (ps.toList.map pth) tm) := by
      intro args h1 v1 h1' φ2 w2 args' e1 hr1 H2
      have e1 : cnd (purL args) (isPend h1 (onO (setTm (ps.toList.map pth) args tm) .no fun tm => goOnly (A tm h1) fun tm h => roundOut call.lv (B tm h))) .no = .ok v1 h1' := e1
      obtain ⟨hpa, e1⟩ := cnd_eq_ok e1
      obtain ⟨hp1, e1⟩ := isPend_ok e1
      obtain ⟨tm1, hset, e1⟩ := onO_eq_ok e1
      obtain ⟨tm2, h2, hA2, e1⟩ := goOnly_ok e1
      have hb2 : Ext φ1 φ2 := by have := @HRel.base0 _ ⟨E1⟩ _ _ _ _ _ H2; rw [← hE1b]; exact this
      have hkept2 := @HRel.kept _ ⟨E1⟩ _ _ _ _ _ H2
      have hk2l : φ2.keep l = some (recO call.lv r0) := hb2.keep l _ hk1l
      have hl2 : w2.heap[l]? = some (.loop r0) := by
        have := (hkept2 l _ hk2l).2.1
        rw [hp1, hrec0] at this; exact this
      have hlN : N ≤ l := (hkept2 l _ hk2l).1
      have hbase2 : ∀ o, Ext Fr.s.base (φ2.at l o) := fun o => (H.base0.trans (hext1.trans hb2)).at_r o hbase_l
      obtain ⟨φa, hφa⟩ : ∃ φa : Phi, φa = φ2.at l (some fun _ => .loop r0) := ⟨_, rfl⟩
      have hfa : φa.f = φ2.f := by rw [hφa]; rfl
      have Ha : HRel N w0 φa h1 w2 := by
        refine @HRel.shift _ ⟨E1⟩ N w0 w2 w2 φ2 φa h1 h1 Fr.s H2 hfa (by rw [hφa]; exact hbase2 _) rfl (fun _ _ => rfl) (Below.refl _ _) (fun _ _ _ _ k => k) (fun i o hi => ?_)
        by_cases e2 : i = l
        · subst e2
          rw [hφa, Phi.at_same] at hi; cases hi
          exact ⟨hlN, hl2, fun _ => trivial, fun _ _ _ _ => rfl⟩
        · rw [hφa, Phi.at_other _ _ e2] at hi
          obtain ⟨g0, g1, g2, g3⟩ := hkept2 i o hi
          exact ⟨g0, g1, g2, fun c d hd hne => g3 c d hd (by rw [show (Fr.s (self := ⟨E1⟩)).tg i = E1.tg i from rfl, hE1o i e2]; exact hne)⟩
      have hra : VRels φa args args' := @VRels.move _ ⟨E1⟩ Fr.s φ2 φa (fun b L k => by rw [show φa b = φ2 b from congrFun hfa b]; exact k) _ _ hr1 hpa
      have hφφa : Ext φ φa := by rw [hφa]; exact (hext1.trans hb2).at_r _ hkl
      have ta : TRel φa tm { tmps := a.tmps, defers := [] } := ⟨(t.mono hφφa).at_, Marks.nil _⟩
      obtain ⟨hlen, ta1, hsz1⟩ := setTm_rel hset hra (fun p hp => Nat.lt_of_lt_of_le (hps p hp) hn) ta
      have hzip : (ps.zip ⟨args'⟩).foldl (fun tmps x => tmps.setIfInBounds x.1 x.2) a.tmps = (ps.toList.zip args').foldl (fun t p => t.setIfInBounds p.1 p.2) a.tmps := by
        rw [← Array.foldl_toList]; congr 1; simp
      have hyr := run_yield (P := P) (w := w2) (l := l) (r := r0) (args := ⟨args'⟩) hl2 (by rw [hpar]; simpa using hlen)
      rw [hfn, htm, hpar, hasn, hbod] at hyr
      refine .inr (.inr ⟨l, fn, _, ca, cb, (by rw [show (Fr.s (self := ⟨E1⟩)).yl = l from hE1y]; exact hyr), ?_⟩)
      refine roundIn_of_wpIn (F := Fence.wide) trivial ?_
      have hzip' : (ps.zip ⟨args'⟩).foldl (fun (tmps : Array Value) (x : Tmp × Value) => match x with | (t, a) => tmps.setIfInBounds t a) a.tmps = (ps.toList.zip args').foldl (fun t p => t.setIfInBounds p.1 p.2) a.tmps := hzip
      rw [hzip']
      refine hA (some l) hA2 (by simp) ta1 Ha (by rw [hsz1]; exact hn) (fun l0 el => by cases el; exact ⟨r0, by rw [hφa]; exact Phi.at_same _ _ _⟩) ?_
      intro ex a3 w3 hE
      rcases hE with hE | ⟨φ3, tm3, h3, x1, t3, H3, k3, n3, hx3⟩
      · exact hE.elim
      obtain ⟨hgo, hex⟩ : R.go tm2 h2 = R.go tm3 h3 ∧ ex = .normal := by
        rcases hx3 with k | ⟨k, _⟩ | ⟨id, k, _⟩
        · exact k
        · cases k
        · cases k
      cases hgo; subst hex
      have hk3l : φ3.keep l = some fun _ => .loop r0 := x1.keep l _ (by rw [hφa]; exact Phi.at_same _ _ _)
      have hl3 : w3.heap[l]? = some (.loop r0) := (H3.kept l _ hk3l).2.1
      refine ⟨_, run_beginRound hl3 hst, ?_⟩
      obtain ⟨φb, hφb⟩ : ∃ φb : Phi, φb = φ3.at l (some fun _ => .loop { r0 with state := .busy }) := ⟨_, rfl⟩
      have hfb : φb.f = φ3.f := by rw [hφb]; rfl
      have hbase3 : ∀ o, Ext Fr.s.base (φ3.at l o) := fun o => H3.base0.at_r o hbase_l
      have Hb : HRel N w0 φb h2 (w3.putObj l (.loop { r0 with state := .busy })) := by
        rw [hφb]
        exact H3.turn Fr.s hk3l _ (hbase3 _) rfl (fun _ _ => rfl) (fun _ _ => rfl) (fun o' ho => by cases ho; exact ⟨rfl, fun _ => trivial, fun _ _ _ _ => rfl⟩) (.inl rfl)
      have tb : TRel φb tm2 a3 := by
        refine ⟨fun n v hv => let ⟨y, g1, g2⟩ := t3.at_ n v hv; ⟨y, g1, g2.sub fun b L k => by rw [show φb b = φ3 b from congrFun hfb b]; exact k⟩, ?_⟩
        obtain ⟨Ds, g1, g2, g3⟩ := t3.defers
        refine ⟨Ds, g1, g2, fun D hD => ?_⟩
        have hne : D ≠ l := fun k => by
          subst k
          have q := (g3 D hD).1
          rw [hk3l] at q
          have := congrFun (Option.some.inj q) 0
          cases this
        rw [hφb, Phi.at_other _ _ hne]; exact g3 D hD
      have hkbl : φb.keep l = some fun _ => .loop { r0 with state := .busy } := by rw [hφb]; exact Phi.at_same _ _ _
      have hne2 : B tm2 h2 ≠ .no := fun k => by rw [k] at e1; cases e1
      refine hB (some l) rfl hne2 tb Hb n3 (fun l0 el => by cases el; exact ⟨_, hkbl⟩) ?_
      intro ex a5 w5 hE5
      rcases hE5 with hE5 | ⟨φ5, tm5, h5, x5, t5, H5, k5, n5, hx5⟩
      · exact hE5.elim
      have hk5l : φ5.keep l = some fun _ => .loop { r0 with state := .busy } := x5.keep l _ hkbl
      have hl5 : w5.heap[l]? = some (.loop { r0 with state := .busy }) := (H5.kept l _ hk5l).2.1
      have hext5 : Ext φ2 (φ5.at l (some (recO call.lv r0))) := by
        refine ⟨fun b L k => x5.f b L ?_, fun i o hi => ?_⟩
        · rw [show φb b = φ3 b from congrFun hfb b]
          exact x1.f b L (by rw [show φa b = φ2 b from congrFun hfa b]; exact k)
        · by_cases e2 : i = l
          · subst e2; rw [Phi.at_same, ← hk2l]; exact hi
          · rw [Phi.at_other _ _ e2]
            refine x5.keep i o ?_
            rw [hφb, Phi.at_other _ _ e2]
            refine x1.keep i o ?_
            rw [hφa, Phi.at_other _ _ e2]; exact hi
      have hkeep5 : Keep φ2 (φ5.at l (some (recO call.lv r0))) h1 h5 := (Keep.trans (k3.f hfa.symm hfb) k5).f rfl rfl
      have fin : ∀ (jump : Option Code) (c : Nat) (h6 : Hp), pendOf h5 = 0 → h6.nx = h5.nx → (∀ b, b ≠ .z → T.getP b h6.m = T.getP b h5.m) → (pendOf h6 = pendCode call.lv c ∨ (pendOf h6 = 0 ∧ c = 0)) →
          recOf r0 c = { ({ r0 with state := .busy } : Loop) with state := if jump.isNone then .ready else .done, pending := jump } →
          ∃ v w', (Instr.endRound l jump).run P w5 = .ok v w' ∧ @EndOK _ ⟨E1⟩ N w0 φ2 h1 (.b jump.isNone) h6 (.returned v) w' := by
        intro jump c h6 q0 q1 q2 q3 q4
        refine ⟨_, _, run_endRound jump hl5, .inr ⟨_, φ5.at l (some (recO call.lv r0)), rfl, @VRel.b _ ⟨E1⟩ _ _, hext5, ?_, hkeep5.pend q1 q2⟩⟩
        have hsel : selP call.lv (pendOf h6) = c := by
          rcases q3 with q3 | ⟨q3, q5⟩
          · rw [q3]; exact selP_code hlv c
          · rw [q3, selP_zero, q5]
        refine H5.turn E1 hk5l _ (by rw [hE1b]; exact hb2.trans hext5) q1 q2 hE1o (fun o' ho => ?_) (.inr fun i o' hi ho => ?_)
        · cases ho
          refine ⟨?_, fun _ => trivial, hsens⟩
          unfold recO
          rw [hsel, q4]
        · rw [q0]
          rcases q3 with q3 | ⟨q3, q5⟩
          · rw [q3]
            refine (H5.kept i o' ho).2.2.2 c call.lv hlv fun k => ?_
            have := hcall.2.2 i _ k
            omega
          · rw [q3]
      rcases hx5 with ⟨y1, y2⟩ | ⟨y1, y2⟩ | ⟨id, y1, y2⟩
      · rw [y1] at e1; subst y2
        obtain ⟨q0, q1⟩ := isPend_ok (show isPend h5 (.ok (.b true) h5) = .ok v1 h1' from e1)
        cases q1
        exact fin none 0 _ q0 rfl (fun _ _ => rfl) (.inr ⟨q0, rfl⟩) (by show r0 = _; cases r0; simp_all)
      · rw [y1] at e1; subst y2
        obtain ⟨q0, q1⟩ := isPend_ok (show isPend h5 (.ok (.b false) (setPend (pendCode call.lv 1) h5)) = .ok v1 h1' from e1)
        cases q1
        exact fin (some .ret) 1 _ q0 (setPend_nx _ _) (setPend_other _ _) (.inl (pendOf_set _ _)) rfl
      · rw [y1] at e1; subst y2
        obtain ⟨q0, q1⟩ := isPend_ok (show isPend h5 (.ok (.b false) (setPend (pendCode call.lv (Nat.add id 2)) h5)) = .ok v1 h1' from e1)
        cases q1
        exact fin (some (.exit id)) (id + 2) _ q0 (setPend_nx _ _) (setPend_other _ _) (.inl (pendOf_set _ _)) rfl
    -- the call
    have hargs : @VRels _ ⟨E1⟩ φ1 (.yi :: caps) (.func (.yield l) #[] #[] :: lb) := by
      refine @VRels.cons _ ⟨E1⟩ _ _ _ _ _ ?_ (VRels.move E1 (fun b L k => by rw [show φ1 b = φ b from congrFun hf1 b]; exact k) hc hpur)
      have := @VRel.yi _ ⟨E1⟩ φ1
      rw [show (Fr.s (self := ⟨E1⟩)).yl = l from hE1y] at this
      exact this
    obtain ⟨_, hent2⟩ := @hcall.1 ⟨E1⟩ (Nat.succ call.lv) true _ (fun i d hi => by
      by_cases k : i = l
      · subst k
        rw [show (Fr.s (self := ⟨E1⟩)).tg i = E1.tg i from rfl, hE1l] at hi; cases hi; exact Nat.lt_succ_self _
      · rw [show (Fr.s (self := ⟨E1⟩)).tg i = E1.tg i from rfl, hE1o i k] at hi
        exact Nat.lt_succ_of_lt (hcall.2.2 i d hi)) hy f (.yi :: caps) h v h' φ1 W1 _ hcr hargs H1
    obtain ⟨f2, as2, hrun2, hcalls2⟩ := hent2 rfl
    refine ⟨l, Dl.map mark, W1, { target := .fn (.func f) ⟨lb⟩, args := #[.func (.yield l) #[] #[]] }, W1, f2, as2, W1, hent, ?_, (fun _ _ => trivial), ?_, (fun k => by cases k), ?_⟩
    · simp only [resolve, hcu]
      simp [go_sem]
    · have : (invoke (.fn (.func f) ⟨lb⟩) #[.func (.yield l) #[] #[]]).run P W1 = (callFunc f ⟨.func (.yield l) #[] #[] :: lb⟩).run P W1 := by
        simp only [invoke]
        congr 2
        apply Array.ext'; simp
      exact this.trans hrun2
    · refine (callsIn_wide (n := 0)).2 (hcalls2.mono fun e w3 he => ?_)
      rcases he with he | ⟨y, φ7, he, g1, x7, H7, k7⟩
      · exact he.elim
      subst he
      have hk7l : φ7.keep l = some (recO call.lv r0) := x7.keep l _ hk1l
      have hkept7 := @HRel.kept _ ⟨E1⟩ _ _ _ _ _ H7
      have hl7 : w3.heap[l]? = some (.loop (recOf r0 (selP call.lv (pendOf h')))) := (hkept7 l _ hk7l).2.1
      have hnb : (recOf r0 (selP call.lv (pendOf h'))).state ≠ .busy := by
        generalize selP call.lv (pendOf h') = c
        match c with
        | 0 => rw [show recOf r0 0 = r0 from rfl, hst]; simp
        | 1 => simp [recOf]
        | n + 2 => simp [recOf]
      obtain ⟨W4, hW4⟩ : ∃ W4, w3.putObj l (.loop { recOf r0 (selP call.lv (pendOf h')) with state := .exhausted }) = W4 := ⟨_, rfl⟩
      have hrunE := run_endLoop (P := P) hl7 hnb
      rw [hW4] at hrunE
      refine ⟨_, _, hrunE, ?_⟩
      have hext7 : Ext φ (φ7.at l none) := (hext1.trans x7).at_r none hkl
      have hend : ∀ h6 : Hp, h6.nx = h'.nx → (∀ b, b ≠ .z → T.getP b h6.m = T.getP b h'.m) → (pendOf h6 = pendOf h' ∨ ∃ c, pendOf h' = pendCode call.lv c ∧ pendOf h6 = 0) → ∀ (ex : Exit) (r' : R), r' = r →
          ((r' = .go tm h6 ∧ ex = .normal) ∨ (r' = .ret tm h6 ∧ ex = .ret) ∨ ∃ id, r' = .exit id tm h6 ∧ ex = .exit id) →
          Q ex { a with defers := Dl.map mark ++ a.defers } W4 := by
        intro h6 q1 q2 q3 ex r' hr' hor
        subst hr'
        refine hq _ _ _ (.inr ⟨φ7.at l none, tm, h6, hext7, ⟨(t.mono hext7).at_, ?_⟩, ?_, (k7.f hf1.symm rfl).pend q1 q2, hn, hor⟩)
        · obtain ⟨Ds, d1, d2, d3⟩ := t.defers
          refine ⟨Dl ++ Ds, List.nodup_append.2 ⟨hDn, d1, fun i hi j hj hij => ?_⟩, by rw [List.map_append, d2], fun D hD => ?_⟩
          · subst hij
            have k1 := (hDl i hi).1
            have k2 := keep_lt H (d3 i hj).1
            omega
          · rcases List.mem_append.1 hD with hD | hD
            · refine ⟨by rw [Phi.at_other _ _ (hDl D hD).2.1]; exact x7.keep D _ (hk1D D hD), ?_⟩
              cases hk : Fr.s.base.keep D with
              | none => rfl
              | some o =>
                have k1 := (hDl D hD).1
                have k2 := keep_lt H (H.base0.keep D o hk)
                omega
            · exact ⟨hext7.keep D _ (d3 D hD).1, (d3 D hD).2⟩
        · rw [← hW4]
          refine @HRel.turn _ ⟨E1⟩ N w0 w3 φ7 h' h6 Fr.s H7 l _ _ hk7l none (H.base0.trans hext7) q1 q2 (fun i hi => by rw [show (Fr.s (self := ⟨E1⟩)).tg i = E1.tg i from rfl, hE1o i hi]) (fun o' ho => by cases ho) ?_
          rcases q3 with q3 | ⟨c, q3, q4⟩
          · exact .inl q3
          · refine .inr fun i o' hi ho => ?_
            rw [q3, q4]
            exact ((hkept7 i o' ho).2.2.2 c call.lv hlv (fun k => by
              rw [show (Fr.s (self := ⟨E1⟩)).tg i = E1.tg i from rfl, hE1o i hi] at k
              have := hcall.2.2 i _ k
              omega)).symm
      -- the jump
      unfold outPend at e
      cases hz : Nat.beq (pendOf h') 0 with
      | true =>
        rw [hz, cnd_true] at e
        have hz := Nat.eq_of_beq_eq_true hz
        have hjp : (recOf r0 (selP call.lv (pendOf h'))).pending = none := by rw [hz, selP_zero]; exact hpe
        rw [hjp]
        exact hend h' rfl (fun _ _ => rfl) (.inl rfl) .normal _ e (.inl ⟨rfl, rfl⟩)
      | false =>
        rw [hz, cnd_false] at e
        obtain ⟨hm, e⟩ := cndR e hr
        have hm : pendOf h' % 64 = call.lv := Nat.eq_of_beq_eq_true hm
        have hcode : pendOf h' = pendCode call.lv (pendOf h' / 64) := by show _ = 64 * (pendOf h' / 64) + call.lv; omega
        have hsel : selP call.lv (pendOf h') = pendOf h' / 64 := by unfold selP; rw [if_pos hm]
        rw [hsel]
        have hdone : pendOf (setPend 0 h') = pendOf h' ∨ ∃ c, pendOf h' = pendCode call.lv c ∧ pendOf (setPend 0 h') = 0 := .inr ⟨_, hcode, pendOf_set _ _⟩
        have e : outJump tm h' (pendOf h' / 64) = r := e
        generalize pendOf h' / 64 = c at e hend
        match c, e with
        | 0, e => exact absurd e.symm hr
        | 1, e =>
          refine wpIn_ret ?_
          exact hend (setPend 0 h') (setPend_nx _ _) (setPend_other _ _) hdone .ret _ e (.inr (.inl ⟨rfl, rfl⟩))
        | n + 2, e =>
          refine wpIn_exit ?_
          exact hend (setPend 0 h') (setPend_nx _ _) (setPend_other _ _) hdone (.exit n) _ e (.inr (.inr ⟨n, rfl, rfl⟩))
  · exact absurd e.symm hr
end
end Go.Abs
