/- Copies that are read in their region alone are struck out: the code comes to the same. -/
import Derived.Test.YtcfjhdhpofomjaaGreatDoorAbsExt
set_option linter.unusedSectionVars false
set_option linter.unusedSimpArgs false
set_option linter.unusedVariables false
set_option linter.constructorNameAsVariable false
namespace Go.Abs
noncomputable section

abbrev Ps := T Unit
abbrev Sub := List (Pth × Pth)
def isS : Option Unit → Bool
  | none => false
  | some _ => true
def has (D : Ps) (n : Pth) : Bool := isS (T.getP n D)
def lookS : Sub → Pth → Pth
  | [], n => n
  | p :: r, n => cnd (pEq p.1 n) p.2 (lookS r n)
def killS (n : Pth) : Sub → Sub
  | [] => []
  | p :: r => cnd (pEq p.1 n) (killS n r) (cnd (pEq p.2 n) (killS n r) (p :: killS n r))
def subX (s : Sub) : AX → AX
  | .t n => .t (lookS s n)
  | .c v => .c v
def okX (D : Ps) : AX → Bool
  | .t n => !has D n
  | .c _ => true
def mapO (f : AX → AX) : Option AX → Option AX
  | none => none
  | some x => some (f x)
def mapP (f : AX → AX) : List (Nat × Nat × AX) → List (Nat × Nat × AX)
  | [] => []
  | p :: r => (p.1, p.2.1, f p.2.2) :: mapP f r
def mapOp (f : AX → AX) : AOp → AOp
  | .mov x => .mov (f x)
  | .pick c a b => .pick (f c) (f a) (f b)
  | .bin op x y => .bin op (f x) (f y)
  | .binb n x y => .binb n (f x) (f y)
  | .cmpn c n x y => .cmpn c n (f x) (f y)
  | .eqa n cs x y => .eqa n cs (f x) (f y)
  | .un op x => .un op (f x)
  | .conv k x => .conv k (f x)
  | .ids x => .ids (f x)
  | .bts x => .bts (f x)
  | .stb s x => .stb s (f x)
  | .fld x o => .fld (f x) o
  | .idx x i s => .idx (f x) (f i) s
  | .idxa x i s l => .idxa (f x) (f i) s l
  | .ld1 x => .ld1 (f x)
  | .ldn x n => .ldn (f x) n
  | .st x v n => .st (f x) (f v) n
  | .alloc c s => .alloc c s
  | .box v s => .box (f v) s
  | .build z ps => .build z (mapP f ps)
  | .bslice z l s ps => .bslice z l s (mapP f ps)
  | .mkslice z s b l c => .mkslice z s b (f l) (f c)
  | .slc x s lo hi mx => .slc (f x) s (mapO f lo) (mapO f hi) (mapO f mx)
  | .slca x n s lo hi mx => .slca (f x) n s (mapO f lo) (mapO f hi) (mapO f mx)
  | .slcs x lo hi => .slcs (f x) (mapO f lo) (mapO f hi)
  | .fieldv x o s a => .fieldv (f x) o s a
  | .indexs x i => .indexs (f x) (f i)
  | .indexv x i l s a => .indexv (f x) (f i) l s a
  | .ext x i => .ext (f x) i
  | .mkfn g a b => .mkfn g (a.map f) (b.map f)
  | .nilck x => .nilck (f x)
  | .call g l => .call g (l.map f)
  | .callv x l => .callv (f x) (l.map f)
  | .len x => .len (f x)
  | .lens x => .lens (f x)
  | .lenc n => .lenc n
  | .cap x => .cap (f x)
  | .append s b x y => .append s b (f x) (f y)
  | .copy s x y => .copy s (f x) (f y)
  | .minmax m l => .minmax m (l.map f)
  | .arrp x n => .arrp (f x) n
  | .bad => .bad
def skipOf : AOp → Option Pth
  | .mov (.t a) => some a
  | _ => none
def okOp (D : Ps) (s : Sub) (op : AOp) : Bool := (reads op).all fun x => okX D (subX s x)
def setK (K : Ps) (d : Pth) : Ps := T.putP () d K
def goSkip (D K : Ps) (s : Sub) (d : Pth) (op : AOp) : Option Pth :=
  match skipOf op with
  | none => none
  | some a => cnd (has D d && (!has D (lookS s a) && (has K (lookS s a) && !pEq (lookS s a) d))) (some (lookS s a)) none
def consO (x : AOper) : Option (List AOper × Ps) → Option (List AOper × Ps)
  | none => none
  | some p => some (x :: p.1, p.2)
def optOps (D : Ps) : List AOper → Sub → Ps → Option (List AOper × Ps)
  | [], _, K => some ([], K)
  | .o d op :: r, s, K => match goSkip D K s d op with
    | some a => optOps D r ((d, a) :: killS d s) (setK K d)
    | none => cnd (okOp D s op) (consO (.o d (mapOp (subX s) op)) (optOps D r (killS d s) (setK K d))) none
  | .n op :: r, s, K => cnd (okOp D s op) (consO (.n (mapOp (subX s) op)) (optOps D r s K)) none
  | .g d op g want :: r, s, K => cnd (okOp D s op && !has D (lookS s g)) (consO (.g d (mapOp (subX s) op) (lookS s g) want) (optOps D r (killS d s) (setK K d))) none
  | .gn op g want :: r, s, K => cnd (okOp D s op && !has D (lookS s g)) (consO (.gn (mapOp (subX s) op) (lookS s g) want) (optOps D r s K)) none
  | .c d op :: r, s, K => cnd (okOp D s op && !has D d) (consO (.c d (mapOp (subX s) op)) (optOps D r s K)) none
  | .cg d op g want :: r, s, K => cnd (okOp D s op && (!has D d && !has D (lookS s g))) (consO (.cg d (mapOp (subX s) op) (lookS s g) want) (optOps D r s K)) none
def opsO : Option (List AOper × Ps) → Option (ACode × Ps)
  | none => none
  | some p => some (.ops p.1, p.2)
def setKs (K : Ps) : List Pth → Ps
  | [] => K
  | p :: r => setKs (setK K p) r
def optCode (D : Ps) : ACode → Ps → Option (ACode × Ps)
  | .skip, K => some (.skip, K)
  | .ops l, K => opsO (optOps D l [] K)
  | .seq a b, K => match optCode D a K with
    | none => none
    | some p => match optCode D b p.2 with
      | none => none
      | some q => some (.seq p.1 q.1, q.2)
  | .cond c a b, K => cnd (okX D c) (match optCode D a K with
    | none => none
    | some p => match optCode D b K with
      | none => none
      | some q => some (.cond c p.1 q.1, K)) none
  | .block id c, K => match optCode D c K with
    | none => none
    | some p => some (.block id p.1, K)
  | .loop c, K => match optCode D c K with
    | none => none
    | some p => some (.loop p.1, K)
  | .exit id, K => some (.exit id, K)
  | .ret, K => some (.ret, K)
  | .range x ps a b, K => cnd (okX D x) (match optCode D a (setKs K ps) with
    | none => none
    | some p => match optCode D b p.2 with
      | none => none
      | some q => some (.range x ps p.1 q.1, K)) none
  | .bad, K => some (.bad, K)
def okRes (D : Ps) : ARes → Bool
  | .t n => !has D n
  | .cell a _ _ => !has D a
def firstK : Nat → Ps
  | 0 => .e
  | n + 1 => setK (firstK n) (pth n)
def setD : List Nat → Ps
  | [] => .e
  | n :: r => setK (setD r) (pth n)
def optFn (na : Nat) (D : List Nat) : Option AFn → Option AFn
  | some (.code _ body res) => cnd (res.all (okRes (setD D))) (match optCode (setD D) body (firstK na) with
    | none => none
    | some p => some (.opt na p.1 res)) none
  | _ => none
end

variable [Env] [Fr]
/- The two states. -/
def Off (D : Ps) (tm tm' : T AV) : Prop := ∀ n, has D n = false → T.getP n tm' = T.getP n tm
def SubOK (s : Sub) (tm : T AV) : Prop := ∀ p ∈ s, T.getP p.1 tm = T.getP p.2 tm
def Known (K : Ps) (tm : T AV) : Prop := ∀ n, has K n = true → ∃ v, T.getP n tm = some v
section
variable {D K : Ps} {s : Sub} {tm tm' : T AV}
theorem pEq_refl : ∀ p : Pth, pEq p p = true
  | .z => rfl
  | .l p => pEq_refl p
  | .r p => pEq_refl p
theorem lookS_ok : ∀ {s : Sub}, SubOK s tm → ∀ n, T.getP (lookS s n) tm = T.getP n tm
  | [], _, n => rfl
  | p :: r, h, n => by
    show T.getP (cnd (pEq p.1 n) p.2 (lookS r n)) tm = _
    cases e : pEq p.1 n with
    | true => rw [cnd_true, ← pEq_eq e]; exact (h p (by simp)).symm
    | false => rw [cnd_false]; exact lookS_ok (fun q hq => h q (by simp [hq])) n
theorem killS_sub (n : Pth) : ∀ {s : Sub}, ∀ p ∈ killS n s, p ∈ s ∧ p.1 ≠ n ∧ p.2 ≠ n
  | [], p, h => by cases h
  | q :: r, p, h => by
    have h : p ∈ cnd (pEq q.1 n) (killS n r) (cnd (pEq q.2 n) (killS n r) (q :: killS n r)) := h
    cases e1 : pEq q.1 n with
    | true => rw [e1, cnd_true] at h; have := killS_sub n p h; exact ⟨by simp [this.1], this.2⟩
    | false =>
      rw [e1, cnd_false] at h
      cases e2 : pEq q.2 n with
      | true => rw [e2, cnd_true] at h; have := killS_sub n p h; exact ⟨by simp [this.1], this.2⟩
      | false =>
        rw [e2, cnd_false] at h
        rcases List.mem_cons.1 h with h | h
        · subst h
          exact ⟨by simp, fun k => (by rw [k, pEq_refl] at e1; cases e1), fun k => (by rw [k, pEq_refl] at e2; cases e2)⟩
        · have := killS_sub n p h; exact ⟨by simp [this.1], this.2⟩
theorem SubOK.kill (h : SubOK s tm) (d : Pth) (v : AV) : SubOK (killS d s) (T.putP v d tm) := fun p hp => by
  obtain ⟨h1, h2, h3⟩ := killS_sub d p hp
  rw [T.getP_other v h2, T.getP_other v h3]; exact h p h1
theorem Off.put (h : Off D tm tm') (d : Pth) (v : AV) : Off D (T.putP v d tm) (T.putP v d tm') := fun n hn => by
  rw [T.getP_putP, T.getP_putP, h n hn]
theorem has_setK (d n : Pth) : has (setK K d) n = true ↔ n = d ∨ has K n = true := by
  unfold has setK
  rw [T.getP_putP]
  by_cases e : n = d
  · simp [e, isS]
  · simp [e]
theorem Known.put (h : Known K tm) (d : Pth) (v : AV) : Known (setK K d) (T.putP v d tm) := fun n hn => by
  rw [T.getP_putP]
  by_cases e : n = d
  · exact ⟨v, by simp [e]⟩
  · rw [if_neg e]
    exact h n (((has_setK d n).1 hn).resolve_left e)
theorem Known.put' (h : Known K tm) (d : Pth) (v : AV) : Known K (T.putP v d tm) := fun n hn => by
  rw [T.getP_putP]
  by_cases e : n = d
  · exact ⟨v, by simp [e]⟩
  · rw [if_neg e]; exact h n hn
theorem Known.less {n : Pth} (h : Known (setK K n) tm) : Known K tm := fun m hm => h m ((has_setK _ _).2 (.inr hm))
theorem ax_sub (ho : Off D tm tm') (hs : SubOK s tm) {x : AX} (h : okX D (subX s x) = true) : ax tm' (subX s x) = ax tm x := by
  cases x with
  | c v => rfl
  | t n =>
    show T.getP (lookS s n) tm' = T.getP n tm
    rw [ho _ (by simpa [subX, okX] using h), lookS_ok hs]
end
section
variable {tm tm' : T AV} {f : AX → AX} (h : Hp) (call : Cl)
theorem axs_map : ∀ {l : List AX}, (∀ x ∈ l, ax tm' (f x) = ax tm x) → axs tm' (l.map f) = axs tm l
  | [], _ => rfl
  | x :: r, H => by
    show (onO (ax tm' (f x)) none fun v => onO (axs tm' (r.map f)) none fun l => some (v :: l)) = onO (ax tm x) none fun v => onO (axs tm r) none fun l => some (v :: l)
    rw [H x (by simp), axs_map fun y hy => H y (by simp [hy])]
theorem fillL_map : ∀ {ps : List (Nat × Nat × AX)} {c : List AV}, (∀ p ∈ ps, ax tm' (f p.2.2) = ax tm p.2.2) → fillL tm' (mapP f ps) c = fillL tm ps c
  | [], _, _ => rfl
  | (off, size, x) :: r, c, H => by
    show (onO (ax tm' (f x)) none fun v => cnd _ (cnd _ (fillL tm' (mapP f r) _) none) none) = onO (ax tm x) none fun v => cnd _ (cnd _ (fillL tm r _) none) none
    rw [H (off, size, x) (by simp)]
    congr 1; funext v
    rw [fillL_map fun p hp => H p (by simp [hp])]
theorem axN_map {x : AX} (H : ax tm' (f x) = ax tm x) : axN tm' (f x) = axN tm x := by unfold axN; rw [H]
theorem optN_map {x : Option AX} (H : ∀ y ∈ optL x, ax tm' (f y) = ax tm y) : optN tm' (mapO f x) = optN tm x := by
  cases x with
  | none => rfl
  | some y => show (onO (axN tm' (f y)) none fun n => some (some n)) = _; rw [axN_map (H y (by simp [optL]))]; rfl
theorem bnd_map {x : Option AX} {d : Nat} (H : ∀ y ∈ optL x, ax tm' (f y) = ax tm y) : bnd tm' (mapO f x) d = bnd tm x d := by
  cases x with
  | none => rfl
  | some y => show axN tm' (f y) = axN tm y; rw [axN_map (H y (by simp [optL]))]
theorem evOp_map (op : AOp) (H : ∀ x ∈ reads op, ax tm' (f x) = ax tm x) : evOp call (mapOp f op) tm' h = evOp call op tm h := by
  cases op with
  | mov x => have e := H x (by simp [reads]); show rv h (ax tm' (f x)) = _; rw [e]; rfl
  | pick c a b =>
    have e1 := H c (by simp [reads]); have e2 := H a (by simp [reads]); have e3 := H b (by simp [reads])
    simp only [mapOp, evOp, oPick, e1, e2, e3]
  | bin op x y => have e1 := H x (by simp [reads]); have e2 := H y (by simp [reads]); simp only [mapOp, evOp, oBin, e1, e2]
  | binb n x y => have e1 := H x (by simp [reads]); have e2 := H y (by simp [reads]); simp only [mapOp, evOp, oBinb, e1, e2]
  | cmpn c n x y => have e1 := H x (by simp [reads]); have e2 := H y (by simp [reads]); simp only [mapOp, evOp, oCmpn, e1, e2]
  | eqa n cs x y => have e1 := H x (by simp [reads]); have e2 := H y (by simp [reads]); simp only [mapOp, evOp, oEqa, e1, e2]
  | un op x => have e1 := H x (by simp [reads]); simp only [mapOp, evOp, oUn, e1]
  | conv k x => have e1 := H x (by simp [reads]); simp only [mapOp, evOp, oConv, e1]
  | ids x => have e1 := H x (by simp [reads]); simp only [mapOp, evOp, oIds, e1]
  | bts x => have e1 := H x (by simp [reads]); simp only [mapOp, evOp, oBts, e1]
  | stb s x => have e1 := H x (by simp [reads]); simp only [mapOp, evOp, oStb, e1]
  | fld x o => have e1 := H x (by simp [reads]); simp only [mapOp, evOp, oFld, e1]
  | idx x i s => have e1 := H x (by simp [reads]); have e2 := axN_map (H i (by simp [reads])); simp only [mapOp, evOp, oIdx, e1, e2]
  | idxa x i s l => have e1 := H x (by simp [reads]); have e2 := axN_map (H i (by simp [reads])); simp only [mapOp, evOp, oIdxa, e1, e2]
  | ld1 x => have e1 := H x (by simp [reads]); simp only [mapOp, evOp, oLd1, e1]
  | ldn x n => have e1 := H x (by simp [reads]); simp only [mapOp, evOp, oLdn, e1]
  | st x v n => have e1 := H x (by simp [reads]); have e2 := H v (by simp [reads]); simp only [mapOp, evOp, oSt, e1, e2]
  | alloc c s => rfl
  | box v s => have e1 := H v (by simp [reads]); simp only [mapOp, evOp, oBox, e1]
  | build z ps =>
    have e := fillL_map (tm := tm) (tm' := tm') (f := f) (ps := ps) (c := z) fun p hp => H p.2.2 (by simp only [reads, List.mem_map]; exact ⟨p, hp, rfl⟩)
    simp only [mapOp, evOp, oBuild, e]
  | bslice z l s ps =>
    have e := fillL_map (tm := tm) (tm' := tm') (f := f) (ps := ps) (c := repL z l) fun p hp => H p.2.2 (by simp only [reads, List.mem_map]; exact ⟨p, hp, rfl⟩)
    simp only [mapOp, evOp, oBslice, e]
  | mkslice z s b l c => have e1 := axN_map (H l (by simp [reads])); have e2 := axN_map (H c (by simp [reads])); simp only [mapOp, evOp, oMkslice, e1, e2]
  | slc x s lo hi mx =>
    have e1 := H x (by simp [reads])
    have e2 := optN_map (tm := tm) (tm' := tm') (f := f) (x := lo) fun y hy => H y (by simp [reads, hy])
    have e3 := optN_map (tm := tm) (tm' := tm') (f := f) (x := hi) fun y hy => H y (by simp [reads, hy])
    have e4 := optN_map (tm := tm) (tm' := tm') (f := f) (x := mx) fun y hy => H y (by simp [reads, hy])
    simp only [mapOp, evOp, oSlc, optN3, e1, e2, e3, e4]
  | slca x n s lo hi mx =>
    have e1 := H x (by simp [reads])
    have e2 := optN_map (tm := tm) (tm' := tm') (f := f) (x := lo) fun y hy => H y (by simp [reads, hy])
    have e3 := optN_map (tm := tm) (tm' := tm') (f := f) (x := hi) fun y hy => H y (by simp [reads, hy])
    have e4 := optN_map (tm := tm) (tm' := tm') (f := f) (x := mx) fun y hy => H y (by simp [reads, hy])
    simp only [mapOp, evOp, oSlca, optN3, e1, e2, e3, e4]
  | slcs x lo hi =>
    have e1 := H x (by simp [reads])
    have e2 := fun d => bnd_map (tm := tm) (tm' := tm') (f := f) (x := lo) (d := d) fun y hy => H y (by simp [reads, hy])
    have e3 := fun d => bnd_map (tm := tm) (tm' := tm') (f := f) (x := hi) (d := d) fun y hy => H y (by simp [reads, hy])
    simp only [mapOp, evOp, oSlcs, e1, e2, e3]
  | fieldv x o s a => have e1 := H x (by simp [reads]); simp only [mapOp, evOp, oFieldv, e1]
  | indexs x i => have e1 := H x (by simp [reads]); have e2 := axN_map (H i (by simp [reads])); simp only [mapOp, evOp, oIndexs, e1, e2]
  | indexv x i l s a => have e1 := H x (by simp [reads]); have e2 := axN_map (H i (by simp [reads])); simp only [mapOp, evOp, oIndexv, e1, e2]
  | ext x i => have e1 := H x (by simp [reads]); simp only [mapOp, evOp, oExt, e1]
  | mkfn g a b =>
    have e1 := axs_map (tm := tm) (tm' := tm') (f := f) (l := a) fun y hy => H y (by simp [reads, hy])
    have e2 := axs_map (tm := tm) (tm' := tm') (f := f) (l := b) fun y hy => H y (by simp [reads, hy])
    simp only [mapOp, evOp, oMkfn, e1, e2]
  | nilck x => have e1 := H x (by simp [reads]); simp only [mapOp, evOp, oNilck, e1]
  | call g l =>
    have e1 := axs_map (tm := tm) (tm' := tm') (f := f) (l := l) fun y hy => H y (by simp [reads, hy])
    simp only [mapOp, evOp, oCall, e1]
  | callv x l =>
    have e0 := H x (by simp [reads])
    have e1 := axs_map (tm := tm) (tm' := tm') (f := f) (l := l) fun y hy => H y (by simp [reads, hy])
    simp only [mapOp, evOp, oCallv, e0, e1]
  | len x => have e1 := H x (by simp [reads]); simp only [mapOp, evOp, oLen, e1]
  | lens x => have e1 := H x (by simp [reads]); simp only [mapOp, evOp, oLens, e1]
  | lenc n => rfl
  | cap x => have e1 := H x (by simp [reads]); simp only [mapOp, evOp, oCap, e1]
  | append s b x y => have e1 := H x (by simp [reads]); have e2 := H y (by simp [reads]); simp only [mapOp, evOp, oAppend, e1, e2]
  | copy s x y => have e1 := H x (by simp [reads]); have e2 := H y (by simp [reads]); simp only [mapOp, evOp, oCopy, e1, e2]
  | minmax m l =>
    have e1 := axs_map (tm := tm) (tm' := tm') (f := f) (l := l) fun y hy => H y (by simp [reads, hy])
    simp only [mapOp, evOp, oMinmax, e1]
  | arrp x n => have e1 := H x (by simp [reads]); simp only [mapOp, evOp, oArrp, e1]
  | bad => rfl
end

inductive RRel (D K K' : Ps) : R → R → Prop
  | no : RRel D K K' .no .no
  | go {t t' : T AV} {h : Hp} (a : Off D t t') (b : Known K t) (c : Known K' t) : RRel D K K' (.go t h) (.go t' h)
  | ret {t t' : T AV} {h : Hp} (a : Off D t t') (b : Known K t) : RRel D K K' (.ret t h) (.ret t' h)
  | exit {i : Nat} {t t' : T AV} {h : Hp} (a : Off D t t') (b : Known K t) : RRel D K K' (.exit i t h) (.exit i t' h)
section
variable {D : Ps} {call : Cl}
theorem RRel.less {K K1 K' : Ps} (hk : ∀ t, Known K1 t → Known K t) {r r' : R} (h : RRel D K1 K' r r') : RRel D K K' r r' := by
  cases h with
  | no => exact .no
  | go a b c => exact .go a (hk _ b) c
  | ret a b => exact .ret a (hk _ b)
  | exit a b => exact .exit a (hk _ b)
theorem okOp_eq {K : Ps} {s : Sub} {tm tm' : T AV} (ho : Off D tm tm') (hs : SubOK s tm) {op : AOp} (h : okOp D s op = true) (hh : Hp) : evOp call (mapOp (subX s) op) tm' hh = evOp call op tm hh :=
  evOp_map hh call op fun x hx => ax_sub ho hs (List.all_eq_true.1 h x hx)
theorem wanted_sub {s : Sub} {tm tm' : T AV} (ho : Off D tm tm') (hs : SubOK s tm) {g : Pth} (h : has D (lookS s g) = false) (want : Bool) : wanted tm' (lookS s g) want = wanted tm g want := by
  unfold wanted
  rw [ho _ h, lookS_ok hs]
theorem cnd_some {α : Type} {c : Bool} {a : Option α} {x : α} (h : cnd c a none = some x) : c = true ∧ a = some x := by cases c <;> simp_all
theorem consO_some {x : AOper} {q : Option (List AOper × Ps)} {p : List AOper × Ps} (h : consO x q = some p) : ∃ l, q = some (l, p.2) ∧ p = (x :: l, p.2) := by
  cases q with
  | none => cases h
  | some q => cases h; exact ⟨q.1, rfl, rfl⟩
theorem evOper_o (k : T AV → Hp → R) (tm : T AV) (h : Hp) (d : Pth) (op : AOp) : evOper call k tm h (.o d op) = onR (evOp call op tm h) fun v h => k (T.putP v d tm) h := by
  show onR (evOp call op tm h) (fun v h => withT (T.putP v d tm) h k) = _
  congr 1; funext v h; exact withT_eq _ _ _
theorem evOper_g (k : T AV → Hp → R) (tm : T AV) (h : Hp) (d : Pth) (op : AOp) (g : Pth) (want : Bool) : evOper call k tm h (.g d op g want) =
    onO (wanted tm g want) .no fun w => cnd w (onR (evOp call op tm h) fun v h => k (T.putP v d tm) h) (k (T.putP (.tup []) d tm) h) := by
  show onO (wanted tm g want) .no (fun w => cnd w (onR (evOp call op tm h) fun v h => withT (T.putP v d tm) h k) (withT (T.putP (.tup []) d tm) h k)) = _
  congr 1; funext w; congr 1
  · congr 1; funext v h; exact withT_eq _ _ _
  · exact withT_eq _ _ _
theorem optOps_ok : ∀ {l : List AOper} {s : Sub} {K : Ps} {p : List AOper × Ps} {tm tm' : T AV} {h : Hp}, optOps D l s K = some p → Off D tm tm' → SubOK s tm → Known K tm → RRel D K p.2 (evOps call l tm h) (evOps call p.1 tm' h)
  | [], s, K, p, tm, tm', h, e, ho, hs, hk => by cases e; exact .go ho hk hk
  | .o d op :: r, s, K, p, tm, tm', h, e, ho, hs, hk => by
    have e : (match goSkip D K s d op with
      | some a => optOps D r ((d, a) :: killS d s) (setK K d)
      | none => cnd (okOp D s op) (consO (.o d (mapOp (subX s) op)) (optOps D r (killS d s) (setK K d))) none) = some p := e
    rw [evOps_cons, evOper_o]
    cases eg : goSkip D K s d op with
    | some a =>
      rw [eg] at e
      unfold goSkip at eg
      cases es : skipOf op with
      | none => rw [es] at eg; cases eg
      | some b =>
        rw [es] at eg
        obtain ⟨e1, e2⟩ := cnd_some eg
        simp only [Option.some.injEq] at e2
        subst e2
        simp only [Bool.and_eq_true, Bool.not_eq_true'] at e1
        obtain ⟨h1, h2, h3, h4⟩ := e1
        have hop : op = .mov (.t b) := by
          cases op with
          | mov x => cases x with
            | t n => cases es; rfl
            | c v => cases es
          | _ => cases es
        subst hop
        obtain ⟨v, hv⟩ := hk _ h3
        have hvb : T.getP b tm = some v := by rw [← lookS_ok hs b]; exact hv
        have hev : evOp call (.mov (.t b)) tm h = .ok v h := by show rv h (T.getP b tm) = _; rw [hvb]; rfl
        rw [hev]
        show RRel D K p.2 (evOps call r (T.putP v d tm) h) (evOps call p.1 tm' h)
        have hne : lookS s b ≠ d := fun k => by rw [k, pEq_refl] at h4; cases h4
        refine (optOps_ok e ?_ ?_ (hk.put d v)).less fun t ht => ht.less
        · intro n hn
          have : n ≠ d := fun k => by rw [k, h1] at hn; cases hn
          rw [T.getP_other v this]; exact ho n hn
        · intro q hq
          rcases List.mem_cons.1 hq with hq | hq
          · subst hq
            show T.getP d _ = T.getP (lookS s b) _
            rw [T.getP_same, T.getP_other v hne, hv]
          · exact hs.kill d v q hq
    | none =>
      rw [eg] at e
      obtain ⟨e1, e2⟩ := cnd_some e
      obtain ⟨l, e3, e4⟩ := consO_some e2
      rw [e4]
      show RRel D K p.2 _ (evOps call (.o d (mapOp (subX s) op) :: l) tm' h)
      rw [evOps_cons, evOper_o, okOp_eq (K := K) ho hs e1]
      cases evOp call op tm h with
      | no => exact .no
      | ok v h1 => exact (optOps_ok e3 (ho.put d v) (hs.kill d v) (hk.put d v)).less fun t ht => ht.less
  | .n op :: r, s, K, p, tm, tm', h, e, ho, hs, hk => by
    obtain ⟨e1, e2⟩ := cnd_some e
    obtain ⟨l, e3, e4⟩ := consO_some e2
    rw [e4]
    show RRel D K p.2 (onR (evOp call op tm h) fun _ h => evOps call r tm h) (onR (evOp call (mapOp (subX s) op) tm' h) fun _ h => evOps call l tm' h)
    rw [okOp_eq (K := K) ho hs e1]
    cases evOp call op tm h with
    | no => exact .no
    | ok v h1 => exact optOps_ok e3 ho hs hk
  | .g d op g want :: r, s, K, p, tm, tm', h, e, ho, hs, hk => by
    obtain ⟨e1, e2⟩ := cnd_some e
    obtain ⟨l, e3, e4⟩ := consO_some e2
    simp only [Bool.and_eq_true, Bool.not_eq_true'] at e1
    rw [e4]
    show RRel D K p.2 _ (evOps call (.g d (mapOp (subX s) op) (lookS s g) want :: l) tm' h)
    rw [evOps_cons, evOps_cons, evOper_g, evOper_g, okOp_eq (K := K) ho hs e1.1, wanted_sub ho hs e1.2]
    cases wanted tm g want with
    | none => exact .no
    | some w => cases w with
      | false => exact (optOps_ok e3 (ho.put d _) (hs.kill d _) (hk.put d _)).less fun t ht => ht.less
      | true =>
        show RRel D K p.2 (onR (evOp call op tm h) fun v h => evOps call r (T.putP v d tm) h) (onR (evOp call op tm h) fun v h => evOps call l (T.putP v d tm') h)
        cases evOp call op tm h with
        | no => exact .no
        | ok v h1 => exact (optOps_ok e3 (ho.put d v) (hs.kill d v) (hk.put d v)).less fun t ht => ht.less
  | .gn op g want :: r, s, K, p, tm, tm', h, e, ho, hs, hk => by
    obtain ⟨e1, e2⟩ := cnd_some e
    obtain ⟨l, e3, e4⟩ := consO_some e2
    simp only [Bool.and_eq_true, Bool.not_eq_true'] at e1
    rw [e4]
    show RRel D K p.2 (onO (wanted tm g want) .no fun w => cnd w (onR (evOp call op tm h) fun _ h => evOps call r tm h) (evOps call r tm h))
      (onO (wanted tm' (lookS s g) want) .no fun w => cnd w (onR (evOp call (mapOp (subX s) op) tm' h) fun _ h => evOps call l tm' h) (evOps call l tm' h))
    rw [okOp_eq (K := K) ho hs e1.1, wanted_sub ho hs e1.2]
    cases wanted tm g want with
    | none => exact .no
    | some w => cases w with
      | false => exact optOps_ok e3 ho hs hk
      | true =>
        show RRel D K p.2 (onR (evOp call op tm h) fun _ h => evOps call r tm h) (onR (evOp call op tm h) fun _ h => evOps call l tm' h)
        cases evOp call op tm h with
        | no => exact .no
        | ok v h1 => exact optOps_ok e3 ho hs hk
  | .c d op :: r, s, K, p, tm, tm', h, e, ho, hs, hk => by
    obtain ⟨e1, e2⟩ := cnd_some e
    obtain ⟨l, e3, e4⟩ := consO_some e2
    simp only [Bool.and_eq_true, Bool.not_eq_true'] at e1
    rw [e4]
    show RRel D K p.2 (onR (evOp call op tm h) fun v _ => onO (T.getP d tm) .no fun u => cnd (avEq v u) (evOps call r tm h) .no)
      (onR (evOp call (mapOp (subX s) op) tm' h) fun v _ => onO (T.getP d tm') .no fun u => cnd (avEq v u) (evOps call l tm' h) .no)
    rw [okOp_eq (K := K) ho hs e1.1, ho _ e1.2]
    cases evOp call op tm h with
    | no => exact .no
    | ok v h1 =>
      show RRel D K p.2 (onO (T.getP d tm) .no fun u => cnd (avEq v u) (evOps call r tm h) .no) (onO (T.getP d tm) .no fun u => cnd (avEq v u) (evOps call l tm' h) .no)
      cases T.getP d tm with
      | none => exact .no
      | some u =>
        show RRel D K p.2 (cnd (avEq v u) (evOps call r tm h) .no) (cnd (avEq v u) (evOps call l tm' h) .no)
        cases avEq v u with
        | false => exact .no
        | true => exact optOps_ok e3 ho hs hk
  | .cg d op g want :: r, s, K, p, tm, tm', h, e, ho, hs, hk => by
    obtain ⟨e1, e2⟩ := cnd_some e
    obtain ⟨l, e3, e4⟩ := consO_some e2
    simp only [Bool.and_eq_true, Bool.not_eq_true'] at e1
    rw [e4]
    show RRel D K p.2 (onO (wanted tm g want) .no fun w => cnd w (onR (evOp call op tm h) fun v _ => onO (T.getP d tm) .no fun u => cnd (avEq v u) (evOps call r tm h) .no) (evOps call r tm h))
      (onO (wanted tm' (lookS s g) want) .no fun w => cnd w (onR (evOp call (mapOp (subX s) op) tm' h) fun v _ => onO (T.getP d tm') .no fun u => cnd (avEq v u) (evOps call l tm' h) .no) (evOps call l tm' h))
    rw [okOp_eq (K := K) ho hs e1.1, ho _ e1.2.1, wanted_sub ho hs e1.2.2]
    cases wanted tm g want with
    | none => exact .no
    | some w => cases w with
      | false => exact optOps_ok e3 ho hs hk
      | true =>
        show RRel D K p.2 (onR (evOp call op tm h) fun v _ => onO (T.getP d tm) .no fun u => cnd (avEq v u) (evOps call r tm h) .no)
          (onR (evOp call op tm h) fun v _ => onO (T.getP d tm) .no fun u => cnd (avEq v u) (evOps call l tm' h) .no)
        cases evOp call op tm h with
        | no => exact .no
        | ok v h1 =>
          show RRel D K p.2 (onO (T.getP d tm) .no fun u => cnd (avEq v u) (evOps call r tm h) .no) (onO (T.getP d tm) .no fun u => cnd (avEq v u) (evOps call l tm' h) .no)
          cases T.getP d tm with
          | none => exact .no
          | some u =>
            show RRel D K p.2 (cnd (avEq v u) (evOps call r tm h) .no) (cnd (avEq v u) (evOps call l tm' h) .no)
            cases avEq v u with
            | false => exact .no
            | true => exact optOps_ok e3 ho hs hk
theorem optOps_mono : ∀ {l : List AOper} {s : Sub} {K : Ps} {p : List AOper × Ps}, optOps D l s K = some p → ∀ n, has K n = true → has p.2 n = true
  | [], s, K, p, e, n, hn => by cases e; exact hn
  | .o d op :: r, s, K, p, e, n, hn => by
    have e : (match goSkip D K s d op with
      | some a => optOps D r ((d, a) :: killS d s) (setK K d)
      | none => cnd (okOp D s op) (consO (.o d (mapOp (subX s) op)) (optOps D r (killS d s) (setK K d))) none) = some p := e
    cases eg : goSkip D K s d op with
    | some a => rw [eg] at e; exact optOps_mono e n ((has_setK _ _).2 (.inr hn))
    | none =>
      rw [eg] at e
      obtain ⟨e1, e2⟩ := cnd_some e
      obtain ⟨l, e3, e4⟩ := consO_some e2
      exact optOps_mono (p := (l, p.2)) e3 n ((has_setK _ _).2 (.inr hn))
  | .n op :: r, s, K, p, e, n, hn => by
    obtain ⟨e1, e2⟩ := cnd_some e
    obtain ⟨l, e3, e4⟩ := consO_some e2
    exact optOps_mono (p := (l, p.2)) e3 n hn
  | .g d op g want :: r, s, K, p, e, n, hn => by
    obtain ⟨e1, e2⟩ := cnd_some e
    obtain ⟨l, e3, e4⟩ := consO_some e2
    exact optOps_mono (p := (l, p.2)) e3 n ((has_setK _ _).2 (.inr hn))
  | .gn op g want :: r, s, K, p, e, n, hn => by
    obtain ⟨e1, e2⟩ := cnd_some e
    obtain ⟨l, e3, e4⟩ := consO_some e2
    exact optOps_mono (p := (l, p.2)) e3 n hn
  | .c d op :: r, s, K, p, e, n, hn => by
    obtain ⟨e1, e2⟩ := cnd_some e
    obtain ⟨l, e3, e4⟩ := consO_some e2
    exact optOps_mono (p := (l, p.2)) e3 n hn
  | .cg d op g want :: r, s, K, p, e, n, hn => by
    obtain ⟨e1, e2⟩ := cnd_some e
    obtain ⟨l, e3, e4⟩ := consO_some e2
    exact optOps_mono (p := (l, p.2)) e3 n hn
theorem optCode_mono : ∀ {c : ACode} {K : Ps} {p : ACode × Ps}, optCode D c K = some p → ∀ n, has K n = true → has p.2 n = true
  | .skip, K, p, e, n, hn => by cases e; exact hn
  | .ops l, K, p, e, n, hn => by
    have e : opsO (optOps D l [] K) = some p := e
    cases eq : optOps D l [] K with
    | none => rw [eq] at e; cases e
    | some q => rw [eq] at e; cases e; exact optOps_mono eq n hn
  | .seq a b, K, p, e, n, hn => by
    simp only [optCode] at e
    cases ea : optCode D a K with
    | none => rw [ea] at e; cases e
    | some q =>
      rw [ea] at e
      simp only at e
      cases eb : optCode D b q.2 with
      | none => rw [eb] at e; cases e
      | some s => rw [eb] at e; cases e; exact optCode_mono eb n (optCode_mono ea n hn)
  | .cond c a b, K, p, e, n, hn => by
    obtain ⟨e1, e2⟩ := cnd_some e
    cases ea : optCode D a K with
    | none => rw [ea] at e2; cases e2
    | some q =>
      rw [ea] at e2
      simp only at e2
      cases eb : optCode D b K with
      | none => rw [eb] at e2; cases e2
      | some s => rw [eb] at e2; cases e2; exact hn
  | .block id c, K, p, e, n, hn => by
    simp only [optCode] at e
    cases ec : optCode D c K with
    | none => rw [ec] at e; cases e
    | some q => rw [ec] at e; cases e; exact hn
  | .loop c, K, p, e, n, hn => by
    simp only [optCode] at e
    cases ec : optCode D c K with
    | none => rw [ec] at e; cases e
    | some q => rw [ec] at e; cases e; exact hn
  | .exit id, K, p, e, n, hn => by cases e; exact hn
  | .ret, K, p, e, n, hn => by cases e; exact hn
  | .range x ps a b, K, p, e, n, hn => by
    obtain ⟨e1, e2⟩ := cnd_some e
    cases ea : optCode D a (setKs K ps) with
    | none => rw [ea] at e2; cases e2
    | some q =>
      rw [ea] at e2
      simp only at e2
      cases eb : optCode D b q.2 with
      | none => rw [eb] at e2; cases e2
      | some s => rw [eb] at e2; cases e2; exact hn
  | .bad, K, p, e, n, hn => by cases e; exact hn
theorem SubOK.nil (tm : T AV) : SubOK [] tm := fun p h => by cases h
theorem loop_ok {K K1 : Ps} {b b' : T AV → Hp → R} (H : ∀ t t' h, Off D t t' → Known K t → RRel D K K1 (b t h) (b' t' h)) : ∀ (f : Nat) (t t' : T AV) (h : Hp), Off D t t' → Known K t → RRel D K K (loopN b f t h) (loopN b' f t' h)
  | 0, _, _, _, _, _ => .no
  | f + 1, t, t', h, ho, hk => by
    rw [loopN_succ, loopN_succ]
    have := H t t' h ho hk
    generalize b t h = r at this
    generalize b' t' h = r' at this
    cases this with
    | no => exact .no
    | go a k c => exact loop_ok H f _ _ _ a k
    | ret a k => exact .ret a k
    | exit a k => exact .exit a k
theorem setTm_off {D : Ps} : ∀ (ps : List Pth) (args : List AV) {K : Ps} {tm tm' : T AV}, Off D tm tm' → Known K tm → (setTm ps args tm = none ∧ setTm ps args tm' = none) ∨ ∃ t t', setTm ps args tm = some t ∧ setTm ps args tm' = some t' ∧ Off D t t' ∧ Known (setKs K ps) t
  | [], [], K, tm, tm', ho, hk => .inr ⟨tm, tm', rfl, rfl, ho, hk⟩
  | [], _ :: _, K, tm, tm', ho, hk => .inl ⟨rfl, rfl⟩
  | _ :: _, [], K, tm, tm', ho, hk => .inl ⟨rfl, rfl⟩
  | p :: ps, v :: r, K, tm, tm', ho, hk => by
    rw [setTm_cons, setTm_cons]
    exact setTm_off ps r (ho.put p v) (hk.put p v)
theorem optCode_ok (fuel : Nat) : ∀ {c : ACode} {K : Ps} {p : ACode × Ps} {tm tm' : T AV} {h : Hp}, optCode D c K = some p → Off D tm tm' → Known K tm → RRel D K p.2 (evCode call fuel c tm h) (evCode call fuel p.1 tm' h)
  | .skip, K, p, tm, tm', h, e, ho, hk => by cases e; exact .go ho hk hk
  | .ops l, K, p, tm, tm', h, e, ho, hk => by
    have e : opsO (optOps D l [] K) = some p := e
    cases eq : optOps D l [] K with
    | none => rw [eq] at e; cases e
    | some q => rw [eq] at e; cases e; exact optOps_ok eq ho (SubOK.nil tm) hk
  | .seq a b, K, p, tm, tm', h, e, ho, hk => by
    simp only [optCode] at e
    cases ea : optCode D a K with
    | none => rw [ea] at e; cases e
    | some q =>
      rw [ea] at e
      simp only at e
      cases eb : optCode D b q.2 with
      | none => rw [eb] at e; cases e
      | some s =>
        rw [eb] at e; cases e
        show RRel D K s.2 (onGo (evCode call fuel a tm h) (evCode call fuel b)) (onGo (evCode call fuel q.1 tm' h) (evCode call fuel s.1))
        have := optCode_ok fuel (h := h) ea ho hk
        generalize evCode call fuel a tm h = r at this
        generalize evCode call fuel q.1 tm' h = r' at this
        cases this with
        | no => exact .no
        | ret a k => exact .ret a k
        | exit a k => exact .exit a k
        | @go t t' h1 a k c =>
          show RRel D K s.2 (evCode call fuel b t h1) (evCode call fuel s.1 t' h1)
          have h2 := optCode_ok fuel (h := h1) eb a c
          exact h2.less fun t ht n hn => ht n (optCode_mono ea n hn)
  | .cond c a b, K, p, tm, tm', h, e, ho, hk => by
    obtain ⟨e1, e2⟩ := cnd_some e
    cases ea : optCode D a K with
    | none => rw [ea] at e2; cases e2
    | some q =>
      rw [ea] at e2
      simp only at e2
      cases eb : optCode D b K with
      | none => rw [eb] at e2; cases e2
      | some s =>
        rw [eb] at e2; cases e2
        have hc : ax tm' c = ax tm c := by
          cases c with
          | c v => rfl
          | t n => exact ho n (by simpa [okX] using e1)
        show RRel D K K (onB (ax tm c) (evCode call fuel a tm h) (evCode call fuel b tm h)) (onB (ax tm' c) (evCode call fuel q.1 tm' h) (evCode call fuel s.1 tm' h))
        rw [hc]
        have key : ∀ {K' : Ps} {r r' : R}, RRel D K K' r r' → RRel D K K r r' := fun h => by
          cases h with
          | no => exact .no
          | go a b c => exact .go a b b
          | ret a b => exact .ret a b
          | exit a b => exact .exit a b
        cases ax tm c with
        | none => exact .no
        | some v => cases v with
          | b x => cases x with
            | true => exact key (optCode_ok fuel ea ho hk)
            | false => exact key (optCode_ok fuel eb ho hk)
          | _ => exact .no
  | .block id c, K, p, tm, tm', h, e, ho, hk => by
    simp only [optCode] at e
    cases ec : optCode D c K with
    | none => rw [ec] at e; cases e
    | some q =>
      rw [ec] at e; cases e
      show RRel D K K (onExit id (evCode call fuel c tm h)) (onExit id (evCode call fuel q.1 tm' h))
      have := optCode_ok fuel (h := h) ec ho hk
      generalize evCode call fuel c tm h = r at this
      generalize evCode call fuel q.1 tm' h = r' at this
      cases this with
      | no => exact .no
      | go a b c => exact .go a b b
      | ret a b => exact .ret a b
      | @exit i t t' h1 a b =>
        show RRel D K K (cnd (Nat.beq i id) (.go t h1) (.exit i t h1)) (cnd (Nat.beq i id) (.go t' h1) (.exit i t' h1))
        cases Nat.beq i id with
        | true => exact .go a b b
        | false => exact .exit a b
  | .loop c, K, p, tm, tm', h, e, ho, hk => by
    simp only [optCode] at e
    cases ec : optCode D c K with
    | none => rw [ec] at e; cases e
    | some q =>
      rw [ec] at e; cases e
      exact loop_ok (b := evCode call fuel c) (b' := evCode call fuel q.1) (fun t t' h a b => optCode_ok fuel ec a b) fuel tm tm' h ho hk
  | .exit id, K, p, tm, tm', h, e, ho, hk => by cases e; exact .exit ho hk
  | .ret, K, p, tm, tm', h, e, ho, hk => by cases e; exact .ret ho hk
  | .range x ps a b, K, p, tm, tm', h, e, ho, hk => by
    obtain ⟨e1, e2⟩ := cnd_some e
    cases ea : optCode D a (setKs K ps) with
    | none => rw [ea] at e2; cases e2
    | some q =>
      rw [ea] at e2
      simp only at e2
      cases eb : optCode D b q.2 with
      | none => rw [eb] at e2; cases e2
      | some s =>
        rw [eb] at e2; cases e2
        have hc : ax tm' x = ax tm x := by
          cases x with
          | c v => rfl
          | t n => exact ho n (by simpa [okX] using e1)
        have hround : roundF call.lv (evCode call fuel q.1) (evCode call fuel s.1) ps tm' = roundF call.lv (evCode call fuel a) (evCode call fuel b) ps tm := by
          funext args h1
          unfold roundF
          congr 1
          unfold isPend
          congr 1
          rcases setTm_off (D := D) ps args ho hk with ⟨k1, k2⟩ | ⟨t1, t2, k1, k2, k3, k4⟩
          · rw [k1, k2]; rfl
          · rw [k1, k2]
            show goOnly (evCode call fuel q.1 t2 h1) _ = goOnly (evCode call fuel a t1 h1) _
            have := optCode_ok fuel (h := h1) ea k3 k4
            generalize evCode call fuel a t1 h1 = r at this
            generalize evCode call fuel q.1 t2 h1 = r' at this
            cases this with
            | no => rfl
            | ret a b => rfl
            | exit a b => rfl
            | @go t t' h2 a1 b1 c1 =>
              show roundOut call.lv (evCode call fuel s.1 t' h2) = roundOut call.lv (evCode call fuel b t h2)
              have := optCode_ok fuel (h := h2) eb a1 c1
              generalize evCode call fuel b t h2 = r at this
              generalize evCode call fuel s.1 t' h2 = r' at this
              cases this <;> rfl
        show RRel D K K (evRange call (evCode call fuel a) (evCode call fuel b) x ps tm h) (evRange call (evCode call fuel q.1) (evCode call fuel s.1) x ps tm' h)
        unfold evRange
        rw [hc, hround]
        split
        · rename_i f a caps _
          cases a with
          | cons u us => exact .no
          | nil =>
            show RRel D K K (cnd (purL caps) (cnd (Nat.blt call.lv 64) (cnd (Nat.beq (pendOf h) 0) (rangeOut call.lv tm _) .no) .no) .no) (cnd (purL caps) (cnd (Nat.blt call.lv 64) (cnd (Nat.beq (pendOf h) 0) (rangeOut call.lv tm' _) .no) .no) .no)
            cases purL caps with
            | false => exact .no
            | true => cases Nat.blt call.lv 64 with
              | false => exact .no
              | true => cases Nat.beq (pendOf h) 0 with
                | false => exact .no
                | true =>
                  show RRel D K K (rangeOut call.lv tm (call.it (Nat.succ call.lv) true (roundF call.lv (evCode call fuel _) (evCode call fuel b) ps tm) f (.yi :: caps) h)) (rangeOut call.lv tm' (call.it (Nat.succ call.lv) true (roundF call.lv (evCode call fuel _) (evCode call fuel b) ps tm) f (.yi :: caps) h))
                  generalize call.it (Nat.succ call.lv) true (roundF call.lv (evCode call fuel _) (evCode call fuel b) ps tm) f (.yi :: caps) h = r
                  cases r with
                  | no => exact .no
                  | ok v h' =>
                    show RRel D K K (outPend call.lv tm h' (pendOf h')) (outPend call.lv tm' h' (pendOf h'))
                    unfold outPend
                    cases Nat.beq (pendOf h') 0 with
                    | true => exact .go ho hk hk
                    | false => cases Nat.beq (Nat.mod (pendOf h') 64) call.lv with
                      | false => exact .no
                      | true =>
                        show RRel D K K (outJump tm h' (Nat.div (pendOf h') 64)) (outJump tm' h' (Nat.div (pendOf h') 64))
                        generalize Nat.div (pendOf h') 64 = c
                        match c with
                        | 0 => exact .no
                        | 1 => exact .ret ho hk
                        | n + 2 => exact .exit ho hk
        · exact .no
  | .bad, K, p, tm, tm', h, e, ho, hk => by cases e; exact .no
theorem resL_off {tm tm' : T AV} (ho : Off D tm tm') (h : Hp) : ∀ {res : List ARes}, res.all (okRes D) = true → resL tm' h res = resL tm h res
  | [], _ => rfl
  | x :: r, e => by
    simp only [List.all_cons, Bool.and_eq_true] at e
    show (onO (resV tm' h x) none fun v => onO (resL tm' h r) none fun l => some (v :: l)) = onO (resV tm h x) none fun v => onO (resL tm h r) none fun l => some (v :: l)
    rw [resL_off ho h e.2]
    have : resV tm' h x = resV tm h x := by
      cases x with
      | t n => exact ho n (by simpa [okRes] using e.1)
      | cell a n isAgg => simp only [resV, ho a (by simpa [okRes] using e.1)]
    rw [this]
theorem firstK_has : ∀ {na : Nat} {n : Pth}, has (firstK na) n = true → ∃ i, i < na ∧ n = pth i
  | 0, n, h => by unfold has firstK at h; rw [T.getP_e] at h; cases h
  | na + 1, n, h => by
    rcases (has_setK _ _).1 (show has (setK (firstK na) (pth na)) n = true from h) with h | h
    · exact ⟨na, by omega, h⟩
    · obtain ⟨i, h1, h2⟩ := firstK_has h; exact ⟨i, by omega, h2⟩
theorem ok_opt {P : Program} {N : Nat} {w0 : World} {f : Nat} {F : Func} {na : Nat} {body : ACode} {res : List ARes} (l : List Nat) (hF : P.funcs[f]? = some F) (hname : (F.name == "runtime.NumGoroutine") = false)
    (hc : optFn na l (comp P F) = some (.opt na body res)) : FnOK P N w0 f (.opt na body res) := by
  cases hcc : comp P F with
  | none => rw [hcc] at hc; cases hc
  | some fn =>
    rw [hcc] at hc
    cases fn with
    | code nt body0 res0 =>
      obtain ⟨e1, e2⟩ := cnd_some (show cnd (res0.all (okRes (setD l))) _ none = some _ from hc)
      cases eo : optCode (setD l) body0 (firstK na) with
      | none => rw [eo] at e2; cases e2
      | some p =>
        rw [eo] at e2
        cases e2
        obtain ⟨F', c, h1, h2, h3, h4, h5, h6⟩ := ok_code (N := N) (w0 := w0) hF hname hcc
        refine ⟨F', c, nt, body0, h1, h2, h3, h4, h5, h6, fun call fuel args h v h' hna e => ?_⟩
        have hk : Known (firstK na) (argsT args .z .e) := fun n hn => by
          obtain ⟨i, hi, rfl⟩ := firstK_has hn
          rw [show Pth.z = pth 0 from rfl, argsT_get, if_pos ⟨Nat.zero_le _, by omega⟩]
          exact ⟨args[i]'(by omega), by simp⟩
        have hr := optCode_ok (call := call) fuel (h := h) (tm' := argsT args .z .e) eo (fun _ _ => rfl) hk
        generalize evCode call fuel p.1 (argsT args .z .e) h = r at e hr
        generalize evCode call fuel body0 (argsT args .z .e) h = r' at hr
        cases hr with
        | no => cases e
        | go a b c => refine Eq.trans ?_ e; show results _ _ _ = results _ _ _; unfold results; rw [resL_off a _ e1]
        | ret a b => refine Eq.trans ?_ e; show results _ _ _ = results _ _ _; unfold results; rw [resL_off a _ e1]
        | exit a b => cases e
    | _ => cases hc
end
end Go.Abs
