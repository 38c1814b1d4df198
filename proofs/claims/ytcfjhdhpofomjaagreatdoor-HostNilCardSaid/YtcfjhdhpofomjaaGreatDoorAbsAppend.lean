/- append: a new member of the family, or a family of its own. -/
import Derived.Test.YtcfjhdhpofomjaaGreatDoorAbsWrite
set_option linter.unusedSectionVars false
set_option linter.unusedSimpArgs false
set_option linter.unusedVariables false
set_option linter.constructorNameAsVariable false
namespace Go.Abs
variable [Env] [Fr]
open Go.RowKit

/-- What a new member turns in the abstract heap. -/
structure Joined (h h' : Hp) (q : Pth) (Q X : Blk) (keep : Bool) : Prop where
  nx : h'.nx = h.nx.inc
  new : T.getP h.nx h'.m = some X
  back : ∀ p Y', p ≠ h.nx → T.getP p h'.m = some Y' → ∃ Y, T.getP p h.m = some Y ∧ Y'.size = Y.size ∧ Y'.stride = Y.stride ∧ Y'.root = Y.root ∧ Y'.ver = Y.ver ∧ Y'.cells = Y.cells ∧
    Y'.tipv = (if p = q then Q.tipv + 1 else Y.tipv) ∧ Y'.low = (if p = q then cnd keep Q.low (Q.tipv + 1) else Y.low)
  forth : ∀ p Y, T.getP p h.m = some Y → ∃ Y', T.getP p h'.m = some Y'

theorem joined_put {h : Hp} {q : Pth} {Q X : Blk} {keep : Bool} (hf : T.getP h.nx h.m = none) (hq : T.getP q h.m = some Q) :
    Joined h ⟨T.putP { Q with tipv := Q.tipv + 1, low := cnd keep Q.low (Q.tipv + 1) } q (T.putP X h.nx h.m), h.nx.inc⟩ q Q X keep := by
  have hne : h.nx ≠ q := fun e => by rw [← e, hf] at hq; cases hq
  refine ⟨rfl, by rw [T.getP_other _ hne, T.getP_same], ?_, ?_⟩
  · intro p Y' hp hY
    simp only [T.getP_putP] at hY
    split at hY
    · rename_i e; subst e; cases hY
      exact ⟨Q, hq, rfl, rfl, rfl, rfl, rfl, by simp, by simp⟩
    · rename_i e
      exact ⟨Y', hY, rfl, rfl, rfl, rfl, rfl, by simp [e], by simp [e]⟩
  · intro p Y hY
    simp only [T.getP_putP]
    split
    · exact ⟨_, rfl⟩
    · split
      · exact ⟨_, rfl⟩
      · exact ⟨Y, hY⟩

section
variable {N : Nat} {w0 w w' : World} {φ : Phi} {h h' : Hp} {b : Pth} {L LX : Loc} {B Q X : Blk} {keep : Bool}

theorem HRel.joined (H : HRel N w0 φ h w) (hb : φ b = some L) (hB : T.getP b h.m = some B) (hQ : T.getP (rootP b B) h.m = some Q) (ht : Q.tipv = B.ver)
    (J : Joined h h' (rootP b B) Q X keep) (hXr : X.root = some (rootP b B)) (hXv : X.ver = Q.tipv + 1)
    (hbelow : Below N w w') (hkeep : ∀ (i : Nat) (o : Obj), w.heap[i]? = some o → NoCells o → w'.heap[i]? = some o)
    (hrows : ∀ p Lp Y arr elem lo hi, φ p = some Lp → T.getP p h.m = some Y → w.heap[Lp.blk]? = some (.cells arr elem (lo, hi)) →
      ∃ arr' elem' lo' hi', w'.heap[Lp.blk]? = some (.cells arr' elem' (lo', hi')) ∧ arr'.size = arr.size ∧
        ((keep = true ∨ rootP p Y ≠ rootP b B) → look h p = some Y → ∀ i, i < Y.size → arr'[Lp.base + i]? = arr[Lp.base + i]?))
    (hthaw : ∀ p Lp, φ p = some Lp → Thawed w Lp → Thawed w' Lp)
    (hX : BRel (φ.set h.nx LX) w' X LX True) (hXthaw : Thawed w' LX) (hXown : Own N LX)
    (hXapart : ∀ p Lp Y, φ p = some Lp → T.getP p h.m = some Y → Lp.blk = LX.blk → rootP p Y = rootP b B)
    (hXends : ∀ p Lp Y, φ p = some Lp → T.getP p h.m = some Y → look h p = some Y → keep = true → rootP p Y = rootP b B → Lp.blk = LX.blk → Lp.base + Y.size ≤ LX.base + X.size) :
    HRel N w0 (φ.set h.nx LX) h' w' ∧ Keep φ (φ.set h.nx LX) h h' := by
  have hφf := phi_fresh H
  have hgf := getP_fresh H
  have hx := Phi.set_ext hφf LX
  obtain ⟨LQ, Q0, hφq, hQ0, hQroot⟩ := H.rootKnown hb hB
  rw [hQ] at hQ0; cases hQ0
  have hqne : rootP b B ≠ h.nx := fun e => by rw [e, hφf] at hφq; cases hφq
  have hne : ∀ p Lp, φ p = some Lp → p ≠ h.nx := fun p Lp hp e => by rw [e, hφf] at hp; cases hp
  have hrp : ∀ p (Y Y' : Blk), Y'.root = Y.root → rootP p Y' = rootP p Y := fun p Y Y' e => by simp [rootP, e]
  have hXrp : rootP h.nx X = rootP b B := by simp [rootP, hXr]
  have hroot : ∀ p Lp Y, φ p = some Lp → T.getP p h.m = some Y → rootP p Y ≠ h.nx := by
    intro p Lp Y hp hY e
    obtain ⟨L1, _, h1, _⟩ := H.rootKnown hp hY
    rw [e, hφf] at h1; cases h1
  -- the new record of the family's root
  obtain ⟨Q', hQ'⟩ := J.forth _ Q hQ
  obtain ⟨Q1, hQ1, _, _, _, _, _, hQt, hQl⟩ := J.back _ Q' hqne hQ'
  rw [hQ] at hQ1; cases hQ1
  rw [if_pos rfl] at hQt hQl
  have hlowle : Q'.low ≤ Q.tipv + 1 := by
    rw [hQl]; cases keep
    · exact Nat.le_refl _
    · exact Nat.le_succ_of_le (H.lows b L B Q hb hB hQ)
  -- who can be read behind it could be read before it
  have hlook : ∀ p Lp Y Y', φ p = some Lp → T.getP p h.m = some Y → T.getP p h'.m = some Y' → Y'.root = Y.root → Y'.ver = Y.ver → look h' p = some Y' →
      look h p = some Y ∧ (keep = true ∨ rootP p Y ≠ rootP b B) := by
    intro p Lp Y Y' hp hY hY' hr hv hl
    obtain ⟨_, Z', hZ', hle⟩ := look_some hl
    rw [hrp p Y Y' hr] at hZ'
    obtain ⟨Z, hZ, _, _, _, _, _, _, hZl⟩ := J.back _ Z' (hroot p Lp Y hp hY) hZ'
    rw [hv] at hle
    by_cases e : rootP p Y = rootP b B
    · rw [e, hQ] at hZ; cases hZ
      rw [if_pos e] at hZl
      cases keep with
      | false =>
        exfalso
        have := H.le p Lp Y Q hp hY (by rw [e]; exact hQ)
        rw [hZl, cnd_false] at hle; omega
      | true =>
        rw [hZl, cnd_true] at hle
        exact ⟨look_of hY (by rw [e]; exact hQ) hle, .inl rfl⟩
    · rw [if_neg e] at hZl
      rw [hZl] at hle
      exact ⟨look_of hY hZ hle, .inr e⟩
  have hback : ∀ p Lp Y', φ p = some Lp → T.getP p h'.m = some Y' → ∃ Y, T.getP p h.m = some Y ∧ Y'.size = Y.size ∧ Y'.stride = Y.stride ∧ Y'.root = Y.root ∧ Y'.ver = Y.ver ∧ Y'.cells = Y.cells ∧
    Y'.tipv = (if p = rootP b B then Q.tipv + 1 else Y.tipv) ∧ Y'.low = (if p = rootP b B then cnd keep Q.low (Q.tipv + 1) else Y.low) := fun p Lp Y' hp hY' => J.back p Y' (hne p Lp hp) hY'
  have hpe : pendOf h' = pendOf h := pendOf_sizes (fun X' hX' => let ⟨X, g1, g2, _⟩ := J.back _ X' (fun e => H.pos e.symm) hX'; ⟨X, g1, g2⟩) (fun X hX => J.forth _ X hX)
  refine ⟨⟨fun i o hi => (let ⟨q0, q1, q2⟩ := H.kept i o hi; ⟨q0, by rw [hpe]; exact hkeep i _ q1 (q2.1 _), q2⟩), by simp only [Phi.set]; rw [if_neg (fun e => H.pos e.symm)]; exact H.zero, by rw [J.nx]; exact Pth.inc_ne _, H.base0.trans hx, H.below.trans hbelow, Nat.le_trans H.base hbelow.size, ?_, ?_, ?_, ?_, ?_, ?_, ?_, ?_, ?_⟩, ?_⟩
  · intro p Y' hY'
    rw [J.nx, Pth.num_inc]
    by_cases e : p = h.nx
    · rw [e]; exact Nat.lt_succ_self _
    · obtain ⟨Y, hY, _⟩ := J.back p Y' e hY'
      exact Nat.lt_succ_of_lt (H.fresh p Y hY)
  · intro p Lp hp
    rcases Phi.set_some hp with ⟨e, eL⟩ | ⟨_, kp⟩
    · subst e eL
      refine ⟨X, J.new, ⟨?_, hX.fits, hX.stride⟩⟩
      obtain ⟨arr, elem, lo, hi, h1, h2, h3⟩ := hX.row
      exact ⟨arr, elem, lo, hi, h1, h2, fun i hi _ => h3 i hi trivial⟩
    · obtain ⟨Y, hY, hrel⟩ := H.dom p Lp kp
      obtain ⟨Y', hY'⟩ := J.forth p Y hY
      obtain ⟨Y1, hY1, hs, hst, hr, hv, hc, _, _⟩ := hback p Lp Y' kp hY'
      rw [hY] at hY1; cases hY1
      obtain ⟨arr, elem, lo, hi, hrow, hsz, hcs⟩ := hrel.row
      obtain ⟨arr', elem', lo', hi', hrow', hsz', hcs'⟩ := hrows p Lp Y arr elem lo hi kp hY hrow
      refine ⟨Y', hY', ⟨⟨arr', elem', lo', hi', hrow', by rw [hsz']; exact hsz, fun i hi' hl => ?_⟩, by rw [hs]; exact hrel.fits, by rw [hst]; exact hrel.stride⟩⟩
      rw [hs] at hi'
      obtain ⟨k1, k2⟩ := hlook p Lp Y Y' kp hY hY' hr hv hl
      obtain ⟨x, y, g1, g2, g3, g4⟩ := hcs i hi' k1
      exact ⟨x, y, by rw [hc]; exact g1, by rw [hcs' k2 k1 i hi']; exact g2, g3.mono hx, g4⟩
  · intro p Lp Y' q hp hY' hq
    rcases Phi.set_some hp with ⟨e, eL⟩ | ⟨_, kp⟩
    · subst e
      rw [J.new] at hY'; cases hY'
      rw [hXr] at hq; cases hq
      exact ⟨Q', LQ, hx _ _ hφq, hQ', by
        obtain ⟨Q1, hQ1, _, _, hr, _⟩ := J.back _ Q' hqne hQ'
        rw [hQ] at hQ1; cases hQ1; rw [hr]; exact hQroot⟩
    · obtain ⟨Y, hY, _, _, hr, _⟩ := hback p Lp Y' kp hY'
      rw [hr] at hq
      obtain ⟨Z, LZ, h1, h2, h3⟩ := H.roots p Lp Y q kp hY hq
      obtain ⟨Z', hZ'⟩ := J.forth q Z h2
      obtain ⟨Z1, hZ1, _, _, hr', _⟩ := hback q LZ Z' h1 hZ'
      rw [h2] at hZ1; cases hZ1
      exact ⟨Z', LZ, hx _ _ h1, hZ', by rw [hr']; exact h3⟩
  · intro p p' Lp Lp' Y' Z' hp hp' hY' hZ' hblk hown
    rcases Phi.set_some hp with ⟨e, eL⟩ | ⟨_, kp⟩ <;> rcases Phi.set_some hp' with ⟨e', eL'⟩ | ⟨_, kp'⟩
    · rw [e] at hY' ⊢; rw [e'] at hZ' ⊢; rw [hY'] at hZ'; cases hZ'; rfl
    · rw [e] at hY' ⊢
      rw [J.new] at hY'; cases hY'
      obtain ⟨Z, hZ, _, _, hr, _⟩ := hback p' Lp' Z' kp' hZ'
      rw [hXrp, hrp p' Z Z' hr]
      exact (hXapart p' Lp' Z kp' hZ (by rw [← hblk, eL])).symm
    · rw [e'] at hZ' ⊢
      rw [J.new] at hZ'; cases hZ'
      obtain ⟨Y, hY, _, _, hr, _⟩ := hback p Lp Y' kp hY'
      rw [hXrp, hrp p Y Y' hr]
      exact hXapart p Lp Y kp hY (by rw [hblk, eL'])
    · obtain ⟨Y, hY, _, _, hr, _⟩ := hback p Lp Y' kp hY'
      obtain ⟨Z, hZ, _, _, hr', _⟩ := hback p' Lp' Z' kp' hZ'
      rw [hrp p Y Y' hr, hrp p' Z Z' hr']
      exact H.apart p p' Lp Lp' Y Z kp kp' hY hZ hblk hown
  · intro p Lp Y' Z' hp hY' hZ' htip
    rcases Phi.set_some hp with ⟨e, eL⟩ | ⟨_, kp⟩
    · subst eL; exact ⟨hXown, hXthaw⟩
    · obtain ⟨Y, hY, _, _, hr, hv, _⟩ := hback p Lp Y' kp hY'
      rw [hrp p Y Y' hr] at hZ'
      obtain ⟨Z, hZ, _, _, _, _, _, hzt, _⟩ := J.back _ Z' (hroot p Lp Y kp hY) hZ'
      by_cases e : rootP p Y = rootP b B
      · rw [if_pos e] at hzt
        exfalso
        have := H.le p Lp Y Q kp hY (by rw [e]; exact hQ)
        rw [hzt, hv] at htip; omega
      · rw [if_neg e] at hzt
        obtain ⟨k1, k2⟩ := H.tip p Lp Y Z kp hY hZ (by rw [← hzt, ← hv]; exact htip)
        exact ⟨k1, hthaw p Lp kp k2⟩
  · intro p p' Lp Lp' Y' Z' hp hp' hY' hZ' hr hv
    have key : ∀ p Lp Y', φ p = some Lp → T.getP p h'.m = some Y' → rootP p Y' = rootP b B → Y'.ver ≠ X.ver := by
      intro p Lp Y' kp hY' hr hv
      obtain ⟨Y, hY, _, _, hr', hv', _⟩ := hback p Lp Y' kp hY'
      rw [hrp p Y Y' hr'] at hr
      have := H.le p Lp Y Q kp hY (by rw [hr]; exact hQ)
      rw [hv', hXv] at hv; omega
    rcases Phi.set_some hp with ⟨e, eL⟩ | ⟨_, kp⟩ <;> rcases Phi.set_some hp' with ⟨e', eL'⟩ | ⟨_, kp'⟩
    · rw [e, e']
    · rw [e] at hY' hr; rw [J.new] at hY'; cases hY'
      exact absurd hv.symm (key p' Lp' Z' kp' hZ' (by rw [← hr, hXrp]))
    · rw [e'] at hZ' hr; rw [J.new] at hZ'; cases hZ'
      exact absurd hv (key p Lp Y' kp hY' (by rw [hr, hXrp]))
    · obtain ⟨Y, hY, _, _, hr1, hv1, _⟩ := hback p Lp Y' kp hY'
      obtain ⟨Z, hZ, _, _, hr2, hv2, _⟩ := hback p' Lp' Z' kp' hZ'
      rw [hrp p Y Y' hr1, hrp p' Z Z' hr2] at hr
      exact H.vers p p' Lp Lp' Y Z kp kp' hY hZ hr (by rw [← hv1, ← hv2]; exact hv)
  · intro p Lp Y' Z' hp hY' hZ'
    rcases Phi.set_some hp with ⟨e, eL⟩ | ⟨_, kp⟩
    · rw [e] at hY' hZ'; rw [J.new] at hY'; cases hY'
      rw [hXrp, hQ'] at hZ'; cases hZ'
      rw [hXv, hQt]; exact Nat.le_refl _
    · obtain ⟨Y, hY, _, _, hr, hv, _⟩ := hback p Lp Y' kp hY'
      rw [hrp p Y Y' hr] at hZ'
      obtain ⟨Z, hZ, _, _, _, _, _, hzt, _⟩ := J.back _ Z' (hroot p Lp Y kp hY) hZ'
      have := H.le p Lp Y Z kp hY hZ
      rw [hv, hzt]
      split
      · rename_i e; rw [e, hQ] at hZ; cases hZ; omega
      · exact this
  · intro p Lp Y' Z' hp hY' hZ'
    rcases Phi.set_some hp with ⟨e, eL⟩ | ⟨_, kp⟩
    · rw [e] at hY' hZ'; rw [J.new] at hY'; cases hY'
      rw [hXrp, hQ'] at hZ'; cases hZ'
      rw [hQt]; exact hlowle
    · obtain ⟨Y, hY, _, _, hr, hv, _⟩ := hback p Lp Y' kp hY'
      rw [hrp p Y Y' hr] at hZ'
      by_cases e : rootP p Y = rootP b B
      · rw [e, hQ'] at hZ'; cases hZ'; rw [hQt]; exact hlowle
      · obtain ⟨Z, hZ, _, _, _, _, _, hzt, hzl⟩ := J.back _ Z' (hroot p Lp Y kp hY) hZ'
        rw [if_neg e] at hzt hzl
        rw [hzt, hzl]; exact H.lows p Lp Y Z kp hY hZ
  · intro p p' Lp Lp' Y' Z' W' hp hp' hY' hZ' hr hW' htip hlow hblk
    rcases Phi.set_some hp with ⟨e, eL⟩ | ⟨_, kp⟩ <;> rcases Phi.set_some hp' with ⟨e', eL'⟩ | ⟨_, kp'⟩
    · rw [e] at hY'; rw [e'] at hZ'; rw [hY'] at hZ'; cases hZ'; rw [eL, eL']; exact Nat.le_refl _
    · -- the old one would be the newest
      exfalso
      rw [e] at hY' hr hW'; rw [J.new] at hY'; cases hY'
      rw [hXrp, hQ'] at hW'; cases hW'
      obtain ⟨Z, hZ, _, _, hr2, hv2, _⟩ := hback p' Lp' Z' kp' hZ'
      rw [hXrp, hrp p' Z Z' hr2] at hr
      have := H.le p' Lp' Z Q kp' hZ (by rw [← hr]; exact hQ)
      rw [hQt, hv2] at htip; omega
    · rw [e'] at hZ' hr; rw [J.new] at hZ'; cases hZ'
      obtain ⟨Y, hY, hs, _, hr1, hv1, _⟩ := hback p Lp Y' kp hY'
      rw [hrp p Y Y' hr1] at hr hW'
      rw [hXrp] at hr
      rw [hr, hQ'] at hW'; cases hW'
      rw [hs, eL']
      rw [hQl, hv1] at hlow
      cases keep with
      | false =>
        exfalso
        have := H.le p Lp Y Q kp hY (by rw [hr]; exact hQ)
        rw [cnd_false] at hlow; omega
      | true =>
        rw [cnd_true] at hlow
        exact hXends p Lp Y kp hY (look_of hY (by rw [hr]; exact hQ) hlow) rfl hr (by rw [hblk, eL'])
    · obtain ⟨Y, hY, hs1, _, hr1, hv1, _⟩ := hback p Lp Y' kp hY'
      obtain ⟨Z, hZ, hs2, _, hr2, hv2, _⟩ := hback p' Lp' Z' kp' hZ'
      rw [hrp p Y Y' hr1] at hr hW'
      rw [hrp p' Z Z' hr2] at hr
      rw [hs1, hs2]
      by_cases e : rootP p Y = rootP b B
      · exfalso
        rw [e, hQ'] at hW'; cases hW'
        have := H.le p' Lp' Z Q kp' hZ (by rw [← hr, e]; exact hQ)
        rw [hQt, hv2] at htip; omega
      · obtain ⟨W, hW, _, _, _, _, _, hwt, hwl⟩ := J.back _ W' (hroot p Lp Y kp hY) hW'
        rw [if_neg e] at hwt hwl
        exact H.ends p p' Lp Lp' Y Z W kp kp' hY hZ hr hW (by rw [← hwt, ← hv2]; exact htip) (by rw [← hwl, ← hv1]; exact hlow) hblk
  · refine Keep.set ⟨fun p Y _ hp hY => ⟨hp, ?_⟩, by rw [J.nx, Pth.num_inc]; omega⟩ hgf LX
    have hpn : p ≠ h.nx := fun e => by rw [e, hgf] at hY; cases hY
    obtain ⟨Y', hY'⟩ := J.forth p Y hY
    have hpr : p ≠ rootP b B := fun e => by rw [e, hφq] at hp; cases hp
    obtain ⟨Y1, hY1, a1, a2, a3, a4, a5, a6, a7⟩ := J.back p Y' hpn hY'
    rw [hY] at hY1; cases hY1
    rw [if_neg hpr] at a6 a7
    rw [hY']
    cases Y; cases Y'; simp_all
end
end Go.Abs
