/- Operations that may be taken ahead: what they read; that they leave the heap alone, or lay one block. -/
import Derived.Test.YtcfjhdhpofomjaaGreatDoorAbsCallS
set_option linter.unusedSectionVars false
set_option linter.unusedSimpArgs false
set_option linter.unusedVariables false
set_option linter.constructorNameAsVariable false
namespace Go.Abs
variable [Env] [Fr]
open Go.RowKit

section
variable {tm tm' : T AV} {h : Hp} {call : Cl}
theorem axs_congr : ∀ {l : List AX}, (∀ x ∈ l, ax tm x = ax tm' x) → axs tm l = axs tm' l
  | [], _ => rfl
  | x :: r, e => by rw [axs_cons, axs_cons, e x (by simp), axs_congr (fun y hy => e y (by simp [hy]))]
theorem fillL_congr : ∀ {ps : List (Nat × Nat × AX)} {cells : List AV}, (∀ x ∈ ps.map (·.2.2), ax tm x = ax tm' x) → fillL tm ps cells = fillL tm' ps cells
  | [], _, _ => rfl
  | (o, s, x) :: r, cells, e => by
    unfold fillL
    rw [e x (by simp)]
    congr 1; funext v
    rw [fillL_congr (fun y hy => e y (by simp only [List.map_cons, List.mem_cons]; exact .inr hy))]
theorem optN_congr {x : Option AX} (e : ∀ y ∈ optL x, ax tm y = ax tm' y) : optN tm x = optN tm' x := by
  cases x with
  | none => rfl
  | some x => show onO (onO (ax tm x) none asN) none _ = onO (onO (ax tm' x) none asN) none _; rw [e x (by simp [optL])]
theorem bnd_congr {x : Option AX} {d : Nat} (e : ∀ y ∈ optL x, ax tm y = ax tm' y) : bnd tm x d = bnd tm' x d := by
  cases x with
  | none => rfl
  | some x => show axN tm x = axN tm' x; unfold axN; rw [e x (by simp [optL])]
theorem evOp_congr {op : AOp} (e : ∀ x ∈ reads op, ax tm x = ax tm' x) : evOp call op tm h = evOp call op tm' h := by
  cases op with
  | mov x => simp only [evOp, oMov, e x (by simp [reads])]
  | pick c x y => simp only [evOp, oPick, e c (by simp [reads]), e x (by simp [reads]), e y (by simp [reads])]
  | bin _ x y => simp only [evOp, oBin, e x (by simp [reads]), e y (by simp [reads])]
  | binb _ x y => simp only [evOp, oBinb, e x (by simp [reads]), e y (by simp [reads])]
  | cmpn _ _ x y => simp only [evOp, oCmpn, e x (by simp [reads]), e y (by simp [reads])]
  | eqa _ _ x y => simp only [evOp, oEqa, e x (by simp [reads]), e y (by simp [reads])]
  | un _ x => simp only [evOp, oUn, e x (by simp [reads])]
  | conv _ x => simp only [evOp, oConv, e x (by simp [reads])]
  | ids x => simp only [evOp, oIds, e x (by simp [reads])]
  | bts x => simp only [evOp, oBts, e x (by simp [reads])]
  | stb _ x => simp only [evOp, oStb, e x (by simp [reads])]
  | fld x _ => simp only [evOp, oFld, e x (by simp [reads])]
  | idx x y _ => simp only [evOp, oIdx, axN, e x (by simp [reads]), e y (by simp [reads])]
  | idxa x y _ _ => simp only [evOp, oIdxa, axN, e x (by simp [reads]), e y (by simp [reads])]
  | ld1 x => simp only [evOp, oLd1, e x (by simp [reads])]
  | ldn x _ => simp only [evOp, oLdn, e x (by simp [reads])]
  | st x y _ => simp only [evOp, oSt, e x (by simp [reads]), e y (by simp [reads])]
  | alloc _ _ => rfl
  | box x _ => simp only [evOp, oBox, e x (by simp [reads])]
  | build z ps => simp only [evOp, oBuild, fillL_congr (ps := ps) (tm := tm) (tm' := tm') e]
  | bslice z n s ps => simp only [evOp, oBslice, fillL_congr (ps := ps) (tm := tm) (tm' := tm') e]
  | mkslice _ _ _ x y => simp only [evOp, oMkslice, axN, e x (by simp [reads]), e y (by simp [reads])]
  | slc x _ l hh m => simp only [evOp, oSlc, optN3, e x (by simp [reads]), optN_congr (x := l) (fun y hy => e y (by simp [reads, hy])), optN_congr (x := hh) (fun y hy => e y (by simp [reads, hy])), optN_congr (x := m) (fun y hy => e y (by simp [reads, hy]))]
  | slca x _ _ l hh m => simp only [evOp, oSlca, optN3, e x (by simp [reads]), optN_congr (x := l) (fun y hy => e y (by simp [reads, hy])), optN_congr (x := hh) (fun y hy => e y (by simp [reads, hy])), optN_congr (x := m) (fun y hy => e y (by simp [reads, hy]))]
  | slcs x l hh => simp only [evOp, oSlcs, e x (by simp [reads]), bnd_congr (x := l) (fun y hy => e y (by simp [reads, hy])), bnd_congr (x := hh) (fun y hy => e y (by simp [reads, hy]))]
  | fieldv x _ _ _ => simp only [evOp, oFieldv, e x (by simp [reads])]
  | indexs x y => simp only [evOp, oIndexs, axN, e x (by simp [reads]), e y (by simp [reads])]
  | indexv x y _ _ _ => simp only [evOp, oIndexv, axN, e x (by simp [reads]), e y (by simp [reads])]
  | ext x _ => simp only [evOp, oExt, e x (by simp [reads])]
  | mkfn _ f c => simp only [evOp, oMkfn, axs_congr (l := f) (fun y hy => e y (by simp [reads, hy])), axs_congr (l := c) (fun y hy => e y (by simp [reads, hy]))]
  | nilck x => simp only [evOp, oNilck, e x (by simp [reads])]
  | call _ l => simp only [evOp, oCall, axs_congr (l := l) (fun y hy => e y (by simp [reads, hy]))]
  | callv x l => simp only [evOp, oCallv, e x (by simp [reads]), axs_congr (l := l) (fun y hy => e y (by simp [reads, hy]))]
  | len x => simp only [evOp, oLen, e x (by simp [reads])]
  | lens x => simp only [evOp, oLens, e x (by simp [reads])]
  | lenc _ => rfl
  | cap x => simp only [evOp, oCap, e x (by simp [reads])]
  | append _ _ x y => simp only [evOp, oAppend, e x (by simp [reads]), e y (by simp [reads])]
  | copy _ x y => simp only [evOp, oCopy, e x (by simp [reads]), e y (by simp [reads])]
  | minmax _ l => simp only [evOp, oMinmax, axs_congr (l := l) (fun y hy => e y (by simp [reads, hy]))]
  | arrp x _ => simp only [evOp, oArrp, e x (by simp [reads])]
  | bad => rfl
end

section
variable {tm : T AV} {h h' : Hp} {call : Cl} {v : AV}
theorem rv_to {x : Option AV} (e : rv h x = .ok v h') : h' = h ∧ ∀ h2, rv h2 x = .ok v h2 := by
  obtain ⟨h1, rfl⟩ := rv_ok e
  subst h1
  exact ⟨rfl, fun _ => rfl⟩
theorem kind0 {op : AOp} (hk : kindOf op = 0) (e : evOp call op tm h = .ok v h') : h' = h ∧ ∀ call2 h2, evOp call2 op tm h2 = .ok v h2 := by
  cases op <;> first | (simp [kindOf] at hk; done) | skip
  all_goals simp only [evOp] at e ⊢
  case mov x => obtain ⟨k1, k2⟩ := rv_to e; exact ⟨k1, fun _ => k2⟩
  case pick c x y =>
    unfold oPick at e ⊢
    split at e
    · rename_i b hb
      cases b
      · obtain ⟨k1, k2⟩ := rv_to (show rv h _ = .ok v h' from e); exact ⟨k1, fun _ h2 => k2 h2⟩
      · obtain ⟨k1, k2⟩ := rv_to (show rv h _ = .ok v h' from e); exact ⟨k1, fun _ h2 => k2 h2⟩
    · cases e
  case bin b x y =>
    unfold oBin at e ⊢
    obtain ⟨p, hp, e⟩ := onO_eq_ok e; obtain ⟨q, hq, e⟩ := onO_eq_ok e
    simp only [hp, hq, onO_some]
    obtain ⟨k1, k2⟩ := rv_to e; exact ⟨k1, fun _ => k2⟩
  case binb b x y =>
    unfold oBinb at e ⊢
    obtain ⟨p, hp, e⟩ := onO_eq_ok e; obtain ⟨q, hq, e⟩ := onO_eq_ok e
    simp only [hp, hq, onO_some]
    obtain ⟨k1, k2⟩ := rv_to e; exact ⟨k1, fun _ => k2⟩
  case cmpn b c x y =>
    unfold oCmpn at e ⊢
    obtain ⟨p, hp, e⟩ := onO_eq_ok e; obtain ⟨q, hq, e⟩ := onO_eq_ok e; obtain ⟨r, hr, e⟩ := onO_eq_ok e
    simp only [hp, hq, hr, onO_some]
    cases e; exact ⟨rfl, fun _ _ => rfl⟩
  case eqa b n x y =>
    unfold oEqa at e ⊢
    obtain ⟨p, hp, e⟩ := onAgg_ok e; obtain ⟨q, hq, e⟩ := onAgg_ok e; obtain ⟨r, hr, e⟩ := onO_eq_ok e
    simp only [hp, hq, onAgg, hr, onO_some]
    cases e; exact ⟨rfl, fun _ _ => rfl⟩
  case un b x =>
    unfold oUn at e ⊢
    obtain ⟨p, hp, e⟩ := onO_eq_ok e
    simp only [hp, onO_some]
    obtain ⟨k1, k2⟩ := rv_to e; exact ⟨k1, fun _ => k2⟩
  case conv k x =>
    unfold oConv at e ⊢
    split at e
    · rename_i hb
      obtain ⟨k1, k2⟩ := rv_to e; exact ⟨k1, fun _ h2 => k2 h2⟩
    · cases e
  case ids x =>
    unfold oIds at e ⊢
    obtain ⟨p, q, hp, e⟩ := onS_ok e
    simp only [hp, onS]; cases e; exact ⟨rfl, fun _ _ => rfl⟩
  case fld x o =>
    unfold oFld at e ⊢
    obtain ⟨p, q, hp, e⟩ := onP_ok e
    simp only [hp, onP]; rw [forceN_eq] at e; cases e; exact ⟨rfl, fun _ _ => by rw [forceN_eq]⟩
  case idx x y s =>
    unfold oIdx at e ⊢
    obtain ⟨p, q, l, c, hp, e⟩ := onSl_ok e; obtain ⟨j, hj, e⟩ := onO_eq_ok e; obtain ⟨c1, e⟩ := cnd_eq_ok e
    simp only [hp, onSl, hj, onO_some, c1, cnd_true]; rw [forceN_eq] at e; cases e; exact ⟨rfl, fun _ _ => by rw [forceN_eq]⟩
  case idxa x y s l =>
    unfold oIdxa at e ⊢
    obtain ⟨p, q, hp, e⟩ := onP_ok e; obtain ⟨j, hj, e⟩ := onO_eq_ok e; obtain ⟨c1, e⟩ := cnd_eq_ok e
    simp only [hp, onP, hj, onO_some, c1, cnd_true]; rw [forceN_eq] at e; cases e; exact ⟨rfl, fun _ _ => by rw [forceN_eq]⟩
  case build z ps =>
    unfold oBuild at e ⊢
    obtain ⟨p, hp, e⟩ := onO_eq_ok e
    simp only [hp, onO_some]; cases e; exact ⟨rfl, fun _ _ => rfl⟩
  case slcs x l hh =>
    unfold oSlcs at e ⊢
    obtain ⟨p, q, hp, e⟩ := onS_ok e; obtain ⟨j, hj, e⟩ := onO_eq_ok e; obtain ⟨k, hk, e⟩ := onO_eq_ok e; obtain ⟨c1, e⟩ := cnd_eq_ok e; obtain ⟨c2, e⟩ := cnd_eq_ok e
    simp only [hp, onS, hj, hk, onO_some, c1, c2, cnd_true]; rw [forceN_eq, forceN_eq] at e; cases e; exact ⟨rfl, fun _ _ => by rw [forceN_eq, forceN_eq]⟩
  case fieldv x o s g =>
    unfold oFieldv at e ⊢
    obtain ⟨p, hp, e⟩ := onAgg_ok e
    simp only [hp, onAgg]
    obtain ⟨k1, k2⟩ := rv_to e; exact ⟨k1, fun _ => k2⟩
  case indexs x y =>
    unfold oIndexs at e ⊢
    obtain ⟨p, q, hp, e⟩ := onS_ok e; obtain ⟨j, hj, e⟩ := onO_eq_ok e; obtain ⟨c1, e⟩ := cnd_eq_ok e
    simp only [hp, onS, hj, onO_some, c1, cnd_true]; rw [forceN_eq] at e; cases e; exact ⟨rfl, fun _ _ => by rw [forceN_eq]⟩
  case indexv x y l s g =>
    unfold oIndexv at e ⊢
    obtain ⟨p, hp, e⟩ := onAgg_ok e; obtain ⟨j, hj, e⟩ := onO_eq_ok e; obtain ⟨c1, e⟩ := cnd_eq_ok e
    simp only [hp, onAgg, hj, onO_some, c1, cnd_true]
    obtain ⟨k1, k2⟩ := rv_to e; exact ⟨k1, fun _ => k2⟩
  case ext x i =>
    unfold oExt at e ⊢
    split at e
    · rename_i hb
      obtain ⟨k1, k2⟩ := rv_to e; exact ⟨k1, fun _ h2 => k2 h2⟩
    · cases e
  case mkfn f x y =>
    unfold oMkfn at e ⊢
    obtain ⟨p, hp, e⟩ := onO_eq_ok e; obtain ⟨q, hq, e⟩ := onO_eq_ok e
    simp only [hp, hq, onO_some]; cases e; exact ⟨rfl, fun _ _ => rfl⟩
  case nilck x =>
    unfold oNilck at e ⊢
    split at e <;> first | (cases e; done) | skip
    · rename_i hb; cases e; exact ⟨rfl, fun _ _ => rfl⟩
    · rename_i hb; cases e; exact ⟨rfl, fun _ _ => rfl⟩
  case len x =>
    unfold oLen at e ⊢
    split at e <;> first | (cases e; done) | skip
    · rename_i hb; cases e; exact ⟨rfl, fun _ _ => rfl⟩
    · rename_i hb; cases e; exact ⟨rfl, fun _ _ => rfl⟩
  case lens x =>
    unfold oLens at e ⊢
    obtain ⟨p, q, hp, e⟩ := onS_ok e
    simp only [hp, onS]; cases e; exact ⟨rfl, fun _ _ => rfl⟩
  case lenc n => cases e; exact ⟨rfl, fun _ _ => rfl⟩
  case cap x =>
    unfold oCap at e ⊢
    split at e <;> first | (cases e; done) | skip
    · rename_i hb; cases e; exact ⟨rfl, fun _ _ => rfl⟩
    · rename_i b o l c hb
      cases hq : Nat.beq c UNK with
      | true => rw [hq] at e; cases e
      | false => rw [hq] at e; cases e; exact ⟨rfl, fun _ h2 => rfl⟩
  case minmax g l =>
    unfold oMinmax at e ⊢
    split at e
    · rename_i hb
      obtain ⟨k1, k2⟩ := rv_to e; exact ⟨k1, fun _ h2 => k2 h2⟩
    · cases e
  case arrp x n =>
    unfold oArrp at e ⊢
    obtain ⟨p, q, l, c, hp, e⟩ := onSl_ok e; obtain ⟨c1, e⟩ := cnd_eq_ok e
    simp only [hp, onSl, c1, cnd_true]; cases e; exact ⟨rfl, fun _ _ => rfl⟩
end
end Go.Abs
