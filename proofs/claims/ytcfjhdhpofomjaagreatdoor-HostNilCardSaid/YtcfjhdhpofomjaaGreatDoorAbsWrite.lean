/- Stores: through a block of the call's own that is the newest of its family. -/
import Derived.Test.YtcfjhdhpofomjaaGreatDoorAbsHeap
set_option linter.unusedSectionVars false
set_option linter.unusedSimpArgs false
set_option linter.unusedVariables false
set_option linter.constructorNameAsVariable false
namespace Go.Abs
variable [Env] [Fr]
open Go.RowKit

theorem run_storeCells_thaw (P : Program) (g o : Nat) (t : TypeId) (fz : Nat × Nat) : ∀ (vs : List Value) (i : Nat) (cur : Array Value) (w : World), w.heap[g]? = some (.cells cur t fz) →
    (∀ j, o + i ≤ j → j < o + i + vs.length → ¬ (fz.1 ≤ j ∧ j < fz.2)) → o + i + vs.length ≤ cur.size → (∀ v ∈ vs, v.oneCell' = true) →
    (storeCells ⟨g, o, none⟩ vs i).run P w = .ok () (w.setRow g (cur.toList.take (o + i) ++ vs ++ cur.toList.drop (o + i + vs.length)).toArray)
  | [], i, cur, w, hg, _, _, _ => by
    simp only [storeCells, List.append_nil, List.length_nil, Nat.add_zero, List.take_append_drop, Array.toArray_toList]
    rw [setRow_self w g cur t fz hg]
    rfl
  | v :: rest, i, cur, w, hg, hfz, hl, h1 => by
    have hi : o + i < cur.size := by simp at hl; omega
    have hadd : (⟨g, o, none⟩ : Addr).add i = ⟨g, o + i, none⟩ := by unfold Addr.add; split <;> simp_all
    have hcell : w.cell? ⟨g, o + i, none⟩ = some cur[o + i] := by simp [World.cell?, hg, hi]
    have hfro : w.frozen? ⟨g, o + i, none⟩ = false := by
      obtain ⟨lo, hi'⟩ := fz
      have := hfz (o + i) (Nat.le_refl _) (by simp)
      simp only [World.frozen?, hg, Bool.and_eq_false_iff, decide_eq_false_iff_not]
      simp only at this
      omega
    have hst : (store ((⟨g, o, none⟩ : Addr).add i) v).run P w = .ok () (w.setRow g (cur.setIfInBounds (o + i) v)) := by
      rw [hadd, run_store P w _ v _ (h1 v (by simp)), hcell]
      simp [hfro, setCell_eq_setRow w g (o + i) cur t fz v hg]
    have ih := run_storeCells_thaw P g o t fz rest (i + 1) (cur.setIfInBounds (o + i) v) (w.setRow g (cur.setIfInBounds (o + i) v)) (setRow_heap w g cur _ t _ hg)
      (fun j h1 h2 => hfz j (by omega) (by simp; omega)) (by simp at hl ⊢; omega) (fun x hx => h1 x (by simp [hx]))
    simp only [storeCells, Sem.run_bind, hst, Result.andThen_ok, ih, setRow_setRow]
    congr 3
    have hsz : o + i + (rest.length + 1) ≤ cur.toList.length := by simpa using hl
    have := list_seg_step cur.toList (o + i) v rest hsz
    simpa [Nat.add_assoc, Nat.add_comm 1] using this

theorem splice_get (l vs : List Value) (k j : Nat) (h : k + vs.length ≤ l.length) :
    (l.take k ++ vs ++ l.drop (k + vs.length))[j]? = if k ≤ j ∧ j < k + vs.length then vs[j - k]? else l[j]? := by
  by_cases h1 : j < k
  · have : ¬ (k ≤ j ∧ j < k + vs.length) := by omega
    rw [if_neg this, List.append_assoc, List.getElem?_append_left (by simp; omega), List.getElem?_take, if_pos h1]
  · by_cases h2 : j < k + vs.length
    · rw [if_pos ⟨by omega, h2⟩, List.getElem?_append_left (by simp; omega), List.getElem?_append_right (by simp; omega)]
      congr 1; simp; omega
    · have : ¬ (k ≤ j ∧ j < k + vs.length) := by omega
      rw [if_neg this, List.getElem?_append_right (by simp; omega), List.getElem?_drop]
      congr 1; simp; omega

/-- What a store of the abstract heap turns. -/
structure Wrote (h h' : Hp) (b : Pth) (B Q : Blk) (off : Nat) (vs : List AV) : Prop where
  here : T.getP b h.m = some B
  root : T.getP (rootP b B) h.m = some Q
  tip : Q.tipv = B.ver
  nx : h'.nx = h.nx
  back : ∀ p X', T.getP p h'.m = some X' → ∃ X, T.getP p h.m = some X ∧ X'.size = X.size ∧ X'.stride = X.stride ∧ X'.root = X.root ∧ X'.ver = X.ver ∧ X'.tipv = X.tipv ∧
    X'.cells = (if p = b then setL vs B.cells off else X.cells) ∧ X'.low = (if p = rootP b B then B.ver else X.low)
  forth : ∀ p X, T.getP p h.m = some X → ∃ X', T.getP p h'.m = some X'

theorem writeL_some {h h' : Hp} {b : Pth} {off n : Nat} {vs : List AV} (e : writeL h b off n vs = some h')
    (hr : ∀ B q, T.getP b h.m = some B → B.root = some q → q ≠ b) :
    ∃ B Q, off + n ≤ B.size ∧ Wrote h h' b B Q off vs := by
  unfold writeL at e
  obtain ⟨B, hB, e⟩ := onO_eq_some e
  obtain ⟨hle, e⟩ := cnd_eq_some e
  have hle := Nat.le_of_ble_eq_true hle
  cases er : B.root with
  | none =>
    rw [er, onO_none] at e
    obtain ⟨ht, e⟩ := cnd_eq_some e
    have ht := Nat.eq_of_beq_eq_true ht
    rw [forceT_eq, forceM_eq] at e
    cases e
    have hroot : rootP b B = b := by simp [rootP, er]
    refine ⟨B, B, hle, hB, by rw [hroot]; exact hB, ht, rfl, ?_, ?_⟩
    · intro p X' hX
      simp only [T.getP_putP] at hX
      rw [hroot]
      split at hX
      · rename_i e; subst e; cases hX
        exact ⟨B, hB, rfl, rfl, er.symm, rfl, rfl, by simp, by simp⟩
      · rename_i e; exact ⟨X', hX, rfl, rfl, rfl, rfl, rfl, by simp [e], by simp [e]⟩
    · intro p X hX
      simp only [T.getP_putP]
      split
      · exact ⟨_, rfl⟩
      · exact ⟨X, hX⟩
  | some q =>
    rw [er, onO_some] at e
    obtain ⟨Q, hQ, e⟩ := onO_eq_some e
    obtain ⟨ht, e⟩ := cnd_eq_some e
    have ht := Nat.eq_of_beq_eq_true ht
    rw [forceT_eq, forceM_eq] at e
    cases e
    have hroot : rootP b B = q := by simp [rootP, er]
    have hqb := hr B q hB er
    refine ⟨B, Q, hle, hB, by rw [hroot]; exact hQ, ht, rfl, ?_, ?_⟩
    · intro p X' hX
      simp only [T.getP_putP] at hX
      rw [hroot]
      split at hX
      · rename_i e; subst e; cases hX
        exact ⟨Q, hQ, rfl, rfl, rfl, rfl, rfl, by simp [hqb], by simp⟩
      · rename_i hpq
        split at hX
        · rename_i e2; subst e2; cases hX
          exact ⟨B, hB, rfl, rfl, er.symm, rfl, rfl, by simp, (if_neg hpq).symm⟩
        · rename_i e2; exact ⟨X', hX, rfl, rfl, rfl, rfl, rfl, by simp [e2], by simp [hpq]⟩
    · intro p X hX
      simp only [T.getP_putP]
      split
      · exact ⟨_, rfl⟩
      · split
        · exact ⟨_, rfl⟩
        · exact ⟨X, hX⟩

section
variable {P : Program} {N : Nat} {w0 w : World} {φ : Phi} {h : Hp}

theorem HRel.rootKnown (H : HRel N w0 φ h w) {b : Pth} {L : Loc} {B : Blk} (hb : φ b = some L) (hB : T.getP b h.m = some B) :
    ∃ LQ Q, φ (rootP b B) = some LQ ∧ T.getP (rootP b B) h.m = some Q ∧ Q.root = none := by
  cases e : B.root with
  | none => exact ⟨L, B, by simpa [rootP, e] using hb, by simpa [rootP, e] using hB, e⟩
  | some q => obtain ⟨Q, LQ, h1, h2, h3⟩ := H.roots b L B q hb hB e; exact ⟨LQ, Q, by simpa [rootP, e] using h1, by simpa [rootP, e] using h2, h3⟩
theorem HRel.rootNe (H : HRel N w0 φ h w) {b : Pth} {L : Loc} (hb : φ b = some L) : ∀ B q, T.getP b h.m = some B → B.root = some q → q ≠ b := by
  intro B q hB hq e
  subst e
  obtain ⟨Q, LQ, _, h2, h3⟩ := H.roots _ L B _ hb hB hq
  rw [hB] at h2; cases h2; rw [hq] at h3; cases h3

theorem HRel.wrote (H : HRel N w0 φ h w) {h' : Hp} {b : Pth} {L : Loc} {B Q : Blk} {off : Nat} {vs : List AV} {ys : List Value}
    (hb : φ b = some L) (W : Wrote h h' b B Q off vs) (hsz : off + vs.length ≤ B.size) (hv : VRels φ vs ys) (ho : ones vs = true) :
    ∃ w', (storeCells ⟨L.blk, L.base + off, none⟩ ys).run P w = .ok () w' ∧ HRel N w0 φ h' w' ∧ Keep φ φ h h' := by
  obtain ⟨B0, hB0, hrel⟩ := H.dom b L hb
  have e0 : B0 = B := by have := W.here; rw [hB0] at this; cases this; rfl
  subst e0
  obtain ⟨arr, elem, lo, hi, hrow, harr, hcells⟩ := hrel.row
  obtain ⟨hown, hthaw⟩ := H.tip b L B0 Q hb W.here W.root W.tip
  have hlen := hv.length
  have hfit : L.base + off + ys.length ≤ arr.size := by have := hrel.fits; omega
  have hfz : ∀ j, L.base + off + 0 ≤ j → j < L.base + off + 0 + ys.length → ¬ ((lo, hi).1 ≤ j ∧ j < (lo, hi).2) := by
    intro j _ h2
    have := hthaw j (by omega)
    simp only [World.frozen?, hrow, Bool.and_eq_false_iff, decide_eq_false_iff_not] at this
    simp only
    omega
  have hst := run_storeCells_thaw P L.blk (L.base + off) elem (lo, hi) ys 0 arr w hrow hfz (by omega) (hv.one (ones_all ho))
  simp only [Nat.add_zero] at hst
  generalize harr' : (arr.toList.take (L.base + off) ++ ys ++ arr.toList.drop (L.base + off + ys.length)).toArray = arr' at hst
  have hsz' : arr'.size = arr.size := by rw [← harr']; simp; omega
  have hget : ∀ j : Nat, arr'[j]? = if L.base + off ≤ j ∧ j < L.base + off + ys.length then ys[j - (L.base + off)]? else arr[j]? := by
    intro j
    rw [← harr', List.getElem?_toArray, splice_get _ _ _ _ (by simpa using hfit)]
    simp
  refine ⟨_, hst, ?_, ?_⟩
  · have hrow' : (w.setRow L.blk arr').heap[L.blk]? = some (.cells arr' elem (lo, hi)) := setRow_heap w L.blk arr arr' elem (lo, hi) hrow
    have hfro : ∀ a, (w.setRow L.blk arr').frozen? a = w.frozen? a := by
      intro a
      by_cases e : a.block = L.blk
      · simp only [World.frozen?, e, hrow', hrow]
      · simp only [World.frozen?, setRow_other w L.blk a.block arr' e]
    have hbelow : Below N w (w.setRow L.blk arr') := ⟨rfl, rfl, rfl, by simp, fun k hk => setRow_other w L.blk k arr' (by unfold Own at hown; omega)⟩
    have hfam : ∀ p Lp X, φ p = some Lp → T.getP p h.m = some X → Lp.blk = L.blk → rootP p X = rootP b B0 :=
      fun p Lp X hp hX e => (H.apart b p L Lp B0 X hb hp W.here hX e.symm hown).symm
    have hrp : ∀ p X X', X'.root = X.root → rootP p X' = rootP p X := fun p X X' e => by simp [rootP, e]
    have hpe : pendOf h' = pendOf h := pendOf_sizes (fun X' hX' => let ⟨X, g1, g2, _⟩ := W.back _ X' hX'; ⟨X, g1, g2⟩) (fun X hX => W.forth _ X hX)
    refine ⟨fun i o hi => (let ⟨q0, q1, q2⟩ := H.kept i o hi; ⟨q0, by rw [hpe]; exact kept_setRow hrow q1 (q2.1 _), q2⟩), H.zero, by rw [W.nx]; exact H.pos, H.base0, H.below.trans hbelow, by simpa using H.base, ?_, ?_, ?_, ?_, ?_, ?_, ?_, ?_, ?_⟩
    · intro p X' hX
      obtain ⟨X, hX, _⟩ := W.back p X' hX
      rw [W.nx]; exact H.fresh p X hX
    · intro p Lp hp
      obtain ⟨X, hX, hrelp⟩ := H.dom p Lp hp
      obtain ⟨X', hX'⟩ := W.forth p X hX
      obtain ⟨X1, hX1, hs, hst', hroot, hver, htipv, hcell, hlow⟩ := W.back p X' hX'
      rw [hX] at hX1; cases hX1
      refine ⟨X', hX', ⟨?_, by rw [hs]; exact hrelp.fits, by rw [hst']; exact hrelp.stride⟩⟩
      obtain ⟨ap, ep, lop, hip, hrowp, hszp, hcp⟩ := hrelp.row
      by_cases epb : p = b
      · subst epb
        rw [hb] at hp; cases hp
        rw [W.here] at hX; cases hX
        rw [hrow] at hrowp; cases hrowp
        refine ⟨arr', elem, lo, hi, hrow', by rw [hsz']; exact hszp, fun i hi' _ => ?_⟩
        rw [hs] at hi'
        rw [hcell, if_pos rfl, get_setL, hget]
        by_cases hin : off ≤ i ∧ i < off + vs.length
        · rw [if_pos hin, if_pos (by omega)]
          have hx : vs[i - off]? = some vs[i - off] := List.getElem?_eq_getElem (by omega)
          obtain ⟨y, hy, hr⟩ := hv.get hx
          refine ⟨_, y, hx, by rw [show L.base + i - (L.base + off) = i - off by omega]; exact hy, hr, ones_all ho _ (List.getElem_mem _)⟩
        · rw [if_neg hin, if_neg (by omega)]
          refine hcp i hi' ?_
          exact look_of W.here W.root (by have := H.lows p L B0 Q hb W.here W.root; rw [W.tip] at this; exact this)
      · by_cases eblk : Lp.blk = L.blk
        · have hf := hfam p Lp X hp hX eblk
          rw [eblk, hrow] at hrowp; cases hrowp
          refine ⟨arr', elem, lo, hi, by rw [eblk]; exact hrow', by rw [hsz']; exact hszp, fun i hi' hl => ?_⟩
          exfalso
          obtain ⟨h1, Q', hQ', hle⟩ := look_some hl
          rw [hrp p X X' hroot, hf] at hQ'
          obtain ⟨Q1, hQ1, _, _, _, _, _, _, hlow'⟩ := W.back _ Q' hQ'
          rw [if_pos rfl] at hlow'
          rw [hlow', hver] at hle
          have := H.le p Lp X Q hp hX (by rw [hf]; exact W.root)
          rw [W.tip] at this
          exact epb (H.vers p b Lp L X B0 hp hb hX W.here hf (by omega))
        · refine ⟨ap, ep, lop, hip, by rw [setRow_other w L.blk Lp.blk arr' eblk]; exact hrowp, hszp, fun i hi' hl => ?_⟩
          rw [hcell, if_neg epb]
          refine hcp i (by rw [← hs]; exact hi') ?_
          obtain ⟨h1, Q', hQ', hle⟩ := look_some hl
          rw [hrp p X X' hroot] at hQ'
          obtain ⟨Q1, hQ1, _, _, _, _, _, _, hlow'⟩ := W.back _ Q' hQ'
          refine look_of hX hQ1 ?_
          rw [hver] at hle
          by_cases ef : rootP p X = rootP b B0
          · rw [if_pos ef] at hlow'
            rw [ef, W.root] at hQ1; cases hQ1
            have hlp := H.le p Lp X Q hp hX (by rw [ef]; exact W.root)
            rw [W.tip] at hlp
            exact absurd (H.vers p b Lp L X B0 hp hb hX W.here ef (by omega)) epb
          · rw [if_neg ef] at hlow'; rw [← hlow']; exact hle
    · intro p Lp X' q hp hX' hq
      obtain ⟨X, hX, _, _, hroot, _⟩ := W.back p X' hX'
      rw [hroot] at hq
      obtain ⟨Y, LY, h1, h2, h3⟩ := H.roots p Lp X q hp hX hq
      obtain ⟨Y', hY'⟩ := W.forth q Y h2
      obtain ⟨Y1, hY1, _, _, hroot', _⟩ := W.back q Y' hY'
      rw [h2] at hY1; cases hY1
      exact ⟨Y', LY, h1, hY', by rw [hroot']; exact h3⟩
    · intro p p' Lp Lp' X' Y' hp hp' hX' hY' hblk hown'
      obtain ⟨X, hX, _, _, hroot, _⟩ := W.back p X' hX'
      obtain ⟨Y, hY, _, _, hroot', _⟩ := W.back p' Y' hY'
      rw [hrp p X X' hroot, hrp p' Y Y' hroot']
      exact H.apart p p' Lp Lp' X Y hp hp' hX hY hblk hown'
    · intro p Lp X' Q' hp hX' hQ' ht
      obtain ⟨X, hX, _, _, hroot, hver, _⟩ := W.back p X' hX'
      rw [hrp p X X' hroot] at hQ'
      obtain ⟨Q1, hQ1, _, _, _, _, htipv, _⟩ := W.back _ Q' hQ'
      obtain ⟨k1, k2⟩ := H.tip p Lp X Q1 hp hX hQ1 (by rw [← htipv, ← hver]; exact ht)
      exact ⟨k1, fun o ho' => by rw [hfro]; exact k2 o ho'⟩
    · intro p p' Lp Lp' X' Y' hp hp' hX' hY' hr hv'
      obtain ⟨X, hX, _, _, hroot, hver, _⟩ := W.back p X' hX'
      obtain ⟨Y, hY, _, _, hroot', hver', _⟩ := W.back p' Y' hY'
      rw [hrp p X X' hroot, hrp p' Y Y' hroot'] at hr
      exact H.vers p p' Lp Lp' X Y hp hp' hX hY hr (by rw [← hver, ← hver']; exact hv')
    · intro p Lp X' Q' hp hX' hQ'
      obtain ⟨X, hX, _, _, hroot, hver, _⟩ := W.back p X' hX'
      rw [hrp p X X' hroot] at hQ'
      obtain ⟨Q1, hQ1, _, _, _, _, htipv, _⟩ := W.back _ Q' hQ'
      rw [hver, htipv]; exact H.le p Lp X Q1 hp hX hQ1
    · intro p Lp X' Q' hp hX' hQ'
      obtain ⟨X, hX, _, _, hroot, hver, _⟩ := W.back p X' hX'
      rw [hrp p X X' hroot] at hQ'
      obtain ⟨Q1, hQ1, _, _, _, _, htipv, _, hlow⟩ := W.back _ Q' hQ'
      rw [hlow, htipv]
      split
      · rename_i e
        rw [e, W.root] at hQ1; cases hQ1
        rw [W.tip]; exact Nat.le_refl _
      · exact H.lows p Lp X Q1 hp hX hQ1
    · intro p p' Lp Lp' X' Y' Q' hp hp' hX' hY' hr hQ' ht hlow' hblk
      obtain ⟨X, hX, hsx, _, hroot, hver, _⟩ := W.back p X' hX'
      obtain ⟨Y, hY, hsy, _, hroot', hver', _⟩ := W.back p' Y' hY'
      rw [hrp p X X' hroot] at hQ'
      rw [hrp p X X' hroot, hrp p' Y Y' hroot'] at hr
      obtain ⟨Q1, hQ1, _, _, _, _, htipv, _, hlow⟩ := W.back _ Q' hQ'
      rw [hsx, hsy]
      refine H.ends p p' Lp Lp' X Y Q1 hp hp' hX hY hr hQ1 (by rw [← htipv, ← hver']; exact ht) ?_ hblk
      rw [← hver]
      split at hlow
      · rename_i e
        rw [e, W.root] at hQ1; cases hQ1
        have := H.lows b L B0 Q hb W.here W.root
        rw [hlow] at hlow'
        rw [W.tip] at this
        omega
      · rw [← hlow]; exact hlow'
  · refine ⟨fun p X _ hp hX => ⟨hp, ?_⟩, by rw [W.nx]; exact Nat.le_refl _⟩
    obtain ⟨X', hX'⟩ := W.forth p X hX
    rw [hX']
    have hpb : p ≠ b := fun e => by subst e; rw [hb] at hp; cases hp
    have hpr : p ≠ rootP b B0 := by
      intro e
      obtain ⟨LQ, _, h1, _⟩ := H.rootKnown hb W.here
      rw [← e, hp] at h1; cases h1
    obtain ⟨X1, hX1, a1, a2, a3, a4, a5, a6, a7⟩ := W.back p X' hX'
    rw [hX] at hX1; cases hX1
    rw [if_neg hpb] at a6; rw [if_neg hpr] at a7
    cases X; cases X'; simp_all
end
end Go.Abs
