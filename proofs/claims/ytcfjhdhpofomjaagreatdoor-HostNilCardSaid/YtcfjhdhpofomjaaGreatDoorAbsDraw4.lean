/- A region that draws its order: the relation between the two orders. -/
import Derived.Test.YtcfjhdhpofomjaaGreatDoorAbsDraw3
set_option linter.unusedSectionVars false
set_option linter.unusedSimpArgs false
set_option linter.unusedVariables false
set_option linter.constructorNameAsVariable false
namespace Go.Abs
variable [Env] [Fr]
open Go.RowKit

section
variable {P : Program} {N : Nat} {w0 : World} {nt : Nat} {ops : Array Oper}

structure Step (P : Program) (ops : Array Oper) (D : List Nat) (i : Nat) : Prop where
  new : i ∉ D
  lt : i < ops.size
  after : ∀ j ∈ afterOf ops i, j ∈ D
  raw : ∀ q ∈ D, ∀ d, dstOf ops q = some d → pth d ∈ readsOf P ops i → q ∈ ancOf ops ops.size i
  war : ∀ q ∈ D, kindAt P ops q ≠ 3 → ∀ d, dstOf ops i = some d → pth d ∉ readsOf P ops q ∧ dstOf ops q ≠ some d
  only : kindAt P ops i = 3 → readyD ops D = [i]
  dst : kindAt P ops i ≠ 3 → ∃ d, dstOf ops i = some d ∧ pth d ∉ readsOf P ops i
  make : kindAt P ops i = 2 → isMakeAt ops i = true

theorem okStep_step {D : List Nat} {i : Nat} (h : okStep P ops D i = true) : Step P ops D i := by
  unfold okStep at h
  simp only [Bool.and_eq_true, Bool.not_eq_true', decide_eq_true_eq, List.all_eq_true] at h
  obtain ⟨⟨⟨⟨⟨h1, h2⟩, h3⟩, h4⟩, h5⟩, h6⟩ := h
  refine ⟨(fun e => by rw [List.contains_iff_mem.2 e] at h1; cases h1), h2, fun j hj => List.contains_iff_mem.1 (h3 j hj), ?_, ?_, ?_, ?_, ?_⟩
  · intro q hq d hd hr
    have := h4 q hq
    rw [hd] at this
    simp only [Bool.or_eq_true, Bool.not_eq_true'] at this
    rcases this with e | e
    · rw [List.contains_iff_mem.2 hr] at e; cases e
    · exact List.contains_iff_mem.1 e
  · intro q hq hk d hd
    have := h5 q hq
    rw [hd] at this
    simp only [Bool.or_eq_true, beq_iff_eq, Bool.and_eq_true, Bool.not_eq_true', bne_iff_ne, ne_eq] at this
    rcases this with e | ⟨e1, e2⟩
    · exact absurd e hk
    · exact ⟨(fun hr => by rw [List.contains_iff_mem.2 hr] at e1; cases e1), e2⟩
  · intro hk
    rw [hk] at h6
    simpa using h6
  · intro hk
    have : (kindAt P ops i == 3) = false := by simpa using hk
    rw [this] at h6
    simp only [Bool.false_eq_true, if_false, Bool.and_eq_true] at h6
    obtain ⟨h7, _⟩ := h6
    cases hd : dstOf ops i with
    | none => rw [hd] at h7; cases h7
    | some d =>
      rw [hd] at h7
      simp only [Bool.not_eq_true'] at h7
      exact ⟨d, rfl, (fun hr => by rw [List.contains_iff_mem.2 hr] at h7; cases h7)⟩
  · intro hk
    rw [hk] at h6
    simp only [Nat.reduceBEq, Bool.false_eq_true, if_false, Bool.and_eq_true, bne_self_eq_false, Bool.false_or] at h6
    exact h6.2

def StaticOK (P : Program) (ops : Array Oper) : List Nat → Prop
  | [] => True
  | i :: D => Step P ops D i ∧ StaticOK P ops D

theorem static_raw : ∀ {D : List Nat}, StaticOK P ops D → ∀ i ∈ D, ∀ q ∈ D, kindAt P ops i ≠ 3 → ∀ n, dstOf ops q = some n → pth n ∈ readsOf P ops i → q ∈ ancOf ops ops.size i
  | x :: D, ⟨hs, hD⟩, i, hi, q, hq, hk, n, hn, hr => by
    rcases List.mem_cons.1 hi with e1 | e1 <;> rcases List.mem_cons.1 hq with e2 | e2
    · subst e1 e2
      obtain ⟨d, hd, hnr⟩ := hs.dst hk
      rw [hn] at hd; cases hd
      exact absurd hr hnr
    · subst e1; exact hs.raw q e2 n hn hr
    · subst e2; exact absurd hr (hs.war i e1 hk n hn).1
    · exact static_raw hD i e1 q e2 hk n hn hr
theorem static_dst : ∀ {D : List Nat}, StaticOK P ops D → ∀ i ∈ D, ∀ q ∈ D, kindAt P ops i ≠ 3 → kindAt P ops q ≠ 3 → ∀ n, dstOf ops i = some n → dstOf ops q = some n → i = q
  | x :: D, ⟨hs, hD⟩, i, hi, q, hq, hk, hk2, n, hn, hr => by
    rcases List.mem_cons.1 hi with e1 | e1 <;> rcases List.mem_cons.1 hq with e2 | e2
    · rw [e1, e2]
    · subst e1; exact absurd hr (hs.war q e2 hk2 n hn).2
    · subst e2; exact absurd hn (hs.war i e1 hk n hr).2
    · exact static_dst hD i e1 q e2 hk hk2 n hn hr

/-- An operation that the abstract machine has made, the program not yet. -/
structure Pend (P : Program) (nt : Nat) (ops : Array Oper) (φ : Phi) (tm : T AV) (h : Hp) (β : Nat → Pth) (i : Nat) : Prop where
  what : ∃ d b v, dstOf ops i = some d ∧ d < nt ∧ T.getP (pth d) tm = some v ∧ gval ops tm i = some b ∧ (b = false → v = .tup []) ∧
    (b = true → (kindAt P ops i ≤ 1 ∧ ∀ call, evOp call (opAt P ops i) tm h = .ok v h) ∨
      (kindAt P ops i = 2 ∧ ∃ cells n st k, allocOf (opAt P ops i) tm = some (cells, n, st, k) ∧ v = vf k (β i) ∧
        T.getP (β i) h.m = some { cells := ofL cells, size := n, stride := st, root := none, ver := 0, tipv := 0, low := 0 } ∧ φ (β i) = none ∧ β i ≠ .z))
  kind : kindAt P ops i ≠ 3

/-- The program has made the operations of 'listed', the abstract machine those of D. -/
structure Inv (P : Program) (N : Nat) (w0 : World) (nt : Nat) (ops : Array Oper) (φ0 : Phi) (h0 : Hp) (listed : Array Bool) (D : List Nat) (tm : T AV) (h : Hp) (φ : Phi) (a : Act) (w : World) (β : Nat → Pth) : Prop where
  size : listed.size = ops.size
  sub : ∀ i, listed.getD i false = true → i ∈ D
  closed : ∀ i, listed.getD i false = true → ∀ j ∈ afterOf ops i, listed.getD j false = true
  stat : StaticOK P ops D
  H : HRel N w0 φ h w
  defers : Marks φ a.defers
  ntle : nt ≤ a.tmps.size
  tmps : ∀ n v, T.getP (pth n) tm = some v → (∀ i ∈ D, listed.getD i false = false → dstOf ops i ≠ some n) → ∃ y, a.tmps[n]? = some y ∧ VRel φ v y
  pend : ∀ i ∈ D, listed.getD i false = false → Pend P nt ops φ tm h β i
  inj : ∀ i ∈ D, ∀ j ∈ D, listed.getD i false = false → listed.getD j false = false → kindAt P ops i = 2 → kindAt P ops j = 2 → gval ops tm i = some true → gval ops tm j = some true → β i = β j → i = j
  ext : Ext φ0 φ
  keep : Keep φ0 φ h0 h
  fresh0 : ∀ p B, T.getP p h0.m = some B → p.num < h0.nx.num
  since : ∀ i ∈ D, listed.getD i false = false → kindAt P ops i = 2 → gval ops tm i = some true → T.getP (β i) h0.m = none

variable {φ0 : Phi} {h0 : Hp}
variable {listed : Array Bool} {D : List Nat} {tm : T AV} {h : Hp} {φ : Phi} {a : Act} {w : World} {β : Nat → Pth}

theorem gval_congr {tm' : T AV} {i : Nat} (e : ∀ p ∈ readsOf P ops i, T.getP p tm = T.getP p tm') : gval ops tm i = gval ops tm' i := by
  unfold gval
  cases hg : guardOf ops i with
  | none => rfl
  | some gj =>
    obtain ⟨j, want⟩ := gj
    simp only
    cases hgt : gtmp ops i with
    | none => rfl
    | some g =>
      simp only
      have := e (pth g) (List.mem_append.2 (.inr (by simp [hgt])))
      unfold wanted
      rw [this]
theorem ax_of_reads {tm' : T AV} {i : Nat} (e : ∀ p ∈ readsOf P ops i, T.getP p tm = T.getP p tm') : ∀ x ∈ reads (opAt P ops i), ax tm x = ax tm' x := by
  intro x hx
  cases x with
  | c c => rfl
  | t n => rw [ax_t, ax_t]; exact e n (List.mem_append.2 (.inl (mem_axT hx)))

/-- What is pending stays so where its temporaries, and what it looks at in the heap, stay. -/
theorem Pend.keep {i : Nat} (p : Pend P nt ops φ tm h β i) {tm' : T AV} {h' : Hp} {φ' : Phi} {β' : Nat → Pth} (e : ∀ q ∈ readsOf P ops i, T.getP q tm = T.getP q tm') (ed : ∀ d, dstOf ops i = some d → T.getP (pth d) tm' = T.getP (pth d) tm)
    (hload : kindAt P ops i = 1 → gval ops tm i = some true → ∀ v call, evOp call (opAt P ops i) tm h = .ok v h → dstOf ops i ≠ none → evOp call (opAt P ops i) tm' h' = .ok v h')
    (hblk : kindAt P ops i = 2 → gval ops tm i = some true → β' i = β i ∧ ∀ B, T.getP (β i) h.m = some B → φ (β i) = none → β i ≠ .z → T.getP (β i) h'.m = some B ∧ φ' (β i) = none) : Pend P nt ops φ' tm' h' β' i := by
  obtain ⟨d, b, v, h1, h2, h3, h4, h5, h6⟩ := p.what
  refine ⟨⟨d, b, v, h1, h2, by rw [ed d h1]; exact h3, by rw [← gval_congr e]; exact h4, h5, fun hb => ?_⟩, p.kind⟩
  rcases h6 hb with ⟨k1, k2⟩ | ⟨k1, cells, n, st, k, k2, k3, k4, k5, k6⟩
  · left
    refine ⟨k1, fun call => ?_⟩
    by_cases hk : kindAt P ops i = 0
    · have := (kind0 hk (k2 call)).2 call h'
      rw [← evOp_congr (ax_of_reads e)]; exact this
    · exact hload (by omega) (by rw [h4, hb]) v call (k2 call) (by rw [h1]; simp)
  · right
    obtain ⟨g1, g2⟩ := hblk k1 (by rw [h4, hb])
    obtain ⟨g3, g4⟩ := g2 _ k4 k5 k6
    exact ⟨k1, cells, n, st, k, by rw [← allocOf_congr (ax_of_reads e)]; exact k2, by rw [g1]; exact k3, by rw [g1]; exact g3, by rw [g1]; exact g4, by rw [g1]; exact k6⟩

theorem putO_some (d : Nat) (v : AV) (tm : T AV) : putO (some d) v tm = T.putP v (pth d) tm := rfl

/-- The abstract machine goes ahead. -/
theorem Inv.ahead (I : Inv P N w0 nt ops φ0 h0 listed D tm h φ a w β) {i : Nat} (hs : Step P ops D i) (hk : kindAt P ops i ≠ 3) (hnt : ∀ d, dstOf ops i = some d → d < nt) {call : Cl} {b : Bool} {v : AV} {h' : Hp} (u : Out P ops call i tm h b v h') :
    ∃ β', Inv P N w0 nt ops φ0 h0 listed (i :: D) (putO (dstOf ops i) v tm) h' φ a w β' := by
  obtain ⟨d, hd, hdr⟩ := hs.dst hk
  rw [hd, putO_some]
  have hil : listed.getD i false = false := by
    cases e : listed.getD i false with
    | false => rfl
    | true => exact absurd (I.sub i e) hs.new
  have hne : ∀ q ∈ D, q ≠ i := fun q hq e => hs.new (e ▸ hq)
  have htm : ∀ n, n ≠ d → T.getP (pth n) (T.putP v (pth d) tm) = T.getP (pth n) tm := fun n hn => T.getP_other _ (fun e => hn (pth_inj e)) _
  have htmp : ∀ p, p ≠ pth d → T.getP p (T.putP v (pth d) tm) = T.getP p tm := fun p hp => T.getP_other _ hp _
  -- the heap: as it was, or with one block more
  have hcase : (h' = h ∧ (b = true → kindAt P ops i ≤ 1 ∧ ∀ call2, evOp call2 (opAt P ops i) tm h = .ok v h)) ∨
      (b = true ∧ kindAt P ops i = 2 ∧ ∃ cells n st k, allocOf (opAt P ops i) tm = some (cells, n, st, k) ∧ v = vf k h.nx ∧
        h' = ⟨T.putP { cells := ofL cells, size := n, stride := st, root := none, ver := 0, tipv := 0, low := 0 } h.nx h.m, h.nx.inc⟩) := by
    cases b with
    | false => exact .inl ⟨(u.no rfl).2, by simp⟩
    | true =>
      have e := u.yes rfl
      by_cases k0 : kindAt P ops i = 0
      · obtain ⟨g1, g2⟩ := kind0 k0 e
        exact .inl ⟨g1, fun _ => ⟨by omega, fun call2 => g2 call2 h⟩⟩
      · by_cases k1 : kindAt P ops i = 1
        · obtain ⟨g1, g2, _⟩ := kind1 k1 e
          exact .inl ⟨g1, fun _ => ⟨by omega, g2⟩⟩
        · have k2 : kindAt P ops i = 2 := by
            have : ∀ op, kindOf op ≤ 3 := by intro op; cases op <;> simp [kindOf]
            have := this (opAt P ops i)
            unfold kindAt at *
            omega
          obtain ⟨cells, n, st, k, g1, g2, g3⟩ := kind2 k2 e
          rw [newBlk_eq] at g3
          exact .inr ⟨rfl, k2, cells, n, st, k, g1, g2, g3⟩
  have hf := getP_fresh I.H
  have hH : HRel N w0 φ h' w := by
    rcases hcase with ⟨e, _⟩ | ⟨_, _, _, _, _, _, _, _, e⟩
    · rw [e]; exact I.H
    · rw [e]; exact I.H.lay _
  have hload : ∀ q, kindAt P ops q = 1 → ∀ v' call', evOp call' (opAt P ops q) tm h = .ok v' h → evOp call' (opAt P ops q) tm h' = .ok v' h' := by
    intro q hq v' call' e
    rcases hcase with ⟨e', _⟩ | ⟨_, _, _, _, _, _, _, _, e'⟩
    · rw [e']; exact e
    · rw [e']; exact (kind1 hq e).2.2 _ hf
  have hblk : ∀ p B, T.getP p h.m = some B → T.getP p h'.m = some B := by
    intro p B hB
    rcases hcase with ⟨e', _⟩ | ⟨_, _, _, _, _, _, _, _, e'⟩
    · rw [e']; exact hB
    · rw [e']
      show T.getP p (T.putP _ h.nx h.m) = _
      rw [T.getP_other _ (fun e => by rw [e, hf] at hB; cases hB)]; exact hB
  refine ⟨fun q => if q = i then h.nx else β q, I.size, fun q hq => List.mem_cons_of_mem _ (I.sub q hq), I.closed, ⟨hs, I.stat⟩, hH, I.defers, I.ntle, ?_, ?_, ?_, I.ext, ?_, I.fresh0, ?_⟩
  · intro n u' hu hp
    have hnd : n ≠ d := fun e => hp i (by simp) hil (by rw [e]; exact hd)
    rw [htm n hnd] at hu
    exact I.tmps n u' hu (fun q hq => hp q (by simp [hq]))
  · intro q hq hql
    rcases List.mem_cons.1 hq with e | e
    · subst e
      refine ⟨⟨d, b, v, hd, hnt d hd, T.getP_same _ _ _, ?_, fun hb => (u.no hb).1, fun hb => ?_⟩, hk⟩
      · rw [← gval_congr (P := P) (tm := tm) (fun p hp => (htmp p (fun e => hdr (e ▸ hp))).symm)]; exact u.guard
      · have hrd : ∀ p ∈ readsOf P ops q, T.getP p tm = T.getP p (T.putP v (pth d) tm) := fun p hp => (htmp p (fun e => hdr (e ▸ hp))).symm
        rcases hcase with ⟨e', g⟩ | ⟨_, k2, cells, n, st, k, g1, g2, e'⟩
        · obtain ⟨g1, g2⟩ := g hb
          left
          refine ⟨g1, fun call2 => ?_⟩
          rw [← evOp_congr (ax_of_reads hrd), e']; exact g2 call2
        · right
          refine ⟨k2, cells, n, st, k, by rw [← allocOf_congr (ax_of_reads hrd)]; exact g1, by simp only [if_true]; exact g2, ?_, ?_, ?_⟩
          · simp only [if_true]
            rw [e']
            exact T.getP_same _ _ _
          · simp only [if_true]
            exact phi_fresh I.H
          · simp only [if_true]
            exact I.H.pos
    · have hpq := I.pend q e hql
      have hwar := hs.war q e hpq.kind d hd
      refine hpq.keep (fun p hp => (htmp p (fun e => hwar.1 (e ▸ hp))).symm) (fun d' hd' => htm d' (fun e => hwar.2 (e ▸ hd'))) (fun k1 _ v' call' ev _ => ?_) (fun _ _ => ⟨by rw [if_neg (hne q e)], fun B hB hφ _ => ⟨hblk _ B hB, hφ⟩⟩)
      have hrd : ∀ p ∈ readsOf P ops q, T.getP p tm = T.getP p (T.putP v (pth d) tm) := fun p hp => (htmp p (fun e => hwar.1 (e ▸ hp))).symm
      rw [← evOp_congr (ax_of_reads hrd)]
      exact hload q k1 v' call' ev
  · intro p hp q hq hpl hql kp kq gp gq hb
    have old : ∀ q ∈ D, listed.getD q false = false → kindAt P ops q = 2 → gval ops (T.putP v (pth d) tm) q = some true → gval ops tm q = some true ∧ β q ≠ h.nx := by
      intro q hq hql hkq hgq
      have hpq := I.pend q hq hql
      have hwar := hs.war q hq hpq.kind d hd
      have hg : gval ops tm q = some true := by
        rw [gval_congr (P := P) (tm' := T.putP v (pth d) tm) (fun p hp => (htmp p (fun e => hwar.1 (e ▸ hp))).symm)]; exact hgq
      refine ⟨hg, fun e => ?_⟩
      obtain ⟨d', b', v', h1, h2, h3, h4, h5, h6⟩ := hpq.what
      rw [hg] at h4; cases h4
      rcases h6 rfl with ⟨g1, _⟩ | ⟨_, _, _, _, _, _, _, g4, _⟩
      · omega
      · rw [e, hf] at g4; cases g4
    have hb : (if p = i then h.nx else β p) = (if q = i then h.nx else β q) := hb
    rcases List.mem_cons.1 hp with e1 | e1 <;> rcases List.mem_cons.1 hq with e2 | e2
    · rw [e1, e2]
    · subst e1
      rw [if_pos rfl, if_neg (hne q e2)] at hb
      exact absurd hb.symm (old q e2 hql kq gq).2
    · subst e2
      rw [if_pos rfl, if_neg (hne p e1)] at hb
      exact absurd hb (old p e1 hpl kp gp).2
    · rw [if_neg (hne p e1), if_neg (hne q e2)] at hb
      exact I.inj p e1 q e2 hpl hql kp kq (old p e1 hpl kp gp).1 (old q e2 hql kq gq).1 hb
  · rcases hcase with ⟨e', _⟩ | ⟨_, _, _, _, _, _, _, _, e'⟩
    · rw [e']; exact I.keep
    · rw [e']; exact I.keep.trans (Keep.lay hf _)
  · intro q hq hql hkq hgq
    rcases List.mem_cons.1 hq with e | e
    · subst e
      rw [if_pos rfl]
      cases e0 : T.getP h.nx h0.m with
      | none => rfl
      | some B => have := I.fresh0 _ _ e0; have := I.keep.2; omega
    · rw [if_neg (hne q e)]
      have hpq := I.pend q e hql
      have hwar := hs.war q e hpq.kind d hd
      have hg : gval ops tm q = some true := by
        rw [gval_congr (P := P) (tm' := T.putP v (pth d) tm) (fun p hp => (htmp p (fun e => hwar.1 (e ▸ hp))).symm)]; exact hgq
      exact I.since q e hql hkq hg
end
end Go.Abs
