/- A region that draws its order: whatever is drawn. -/
import Derived.Test.YtcfjhdhpofomjaaGreatDoorAbsDraw4
set_option linter.unusedSectionVars false
set_option linter.unusedSimpArgs false
set_option linter.unusedVariables false
set_option linter.constructorNameAsVariable false
namespace Go.Abs
variable [Env] [Fr]
open Go.RowKit

section
variable {P : Program} {N : Nat} {w0 : World} {nt : Nat} {ops : Array Oper} {ro : Option Nat}
variable {φ0 : Phi} {h0 : Hp} {listed : Array Bool} {D : List Nat} {tm : T AV} {h : Hp} {φ : Phi} {a : Act} {w : World} {β : Nat → Pth}

/-- The temporaries that the program knows too. -/
theorem Inv.known (I : Inv P N w0 nt ops φ0 h0 listed D tm h φ a w β) : ∃ tmR, TRel φ tmR a ∧ ∀ p, (∀ i ∈ D, listed.getD i false = false → ∀ n, dstOf ops i = some n → p ≠ pth n) → T.getP p tmR = T.getP p tm := by
  obtain ⟨tmR, hR⟩ := del_many ((D.filter fun i => !listed.getD i false).filterMap fun i => (dstOf ops i).map pth) tm
  have hmem : ∀ p, p ∈ ((D.filter fun i => !listed.getD i false).filterMap fun i => (dstOf ops i).map pth) ↔ ∃ i ∈ D, listed.getD i false = false ∧ ∃ n, dstOf ops i = some n ∧ p = pth n := by
    intro p
    simp only [List.mem_filterMap, List.mem_filter, Bool.not_eq_true', Option.map_eq_some_iff]
    constructor
    · rintro ⟨i, ⟨h1, h2⟩, n, h3, h4⟩; exact ⟨i, h1, h2, n, h3, h4.symm⟩
    · rintro ⟨i, h1, h2, n, h3, h4⟩; exact ⟨i, ⟨h1, h2⟩, n, h3, h4.symm⟩
  refine ⟨tmR, ⟨fun n v hv => ?_, I.defers⟩, fun p hp => ?_⟩
  · rw [hR] at hv
    split at hv
    · cases hv
    · rename_i hn
      refine I.tmps n v hv fun i hi hl hd => hn ((hmem _).2 ⟨i, hi, hl, n, hd, rfl⟩)
  · rw [hR, if_neg]
    intro hin
    obtain ⟨i, h1, h2, n, h3, h4⟩ := (hmem p).1 hin
    exact hp i h1 h2 n h3 h4

theorem ready_after {i : Nat} (hr : i ∈ Region.ready .any ops listed) (hsz : listed.size = ops.size) : i < ops.size ∧ listed.getD i false = false ∧ (∀ j ∈ afterOf ops i, listed.getD j false = true) := by
  obtain ⟨h1, o, ho, h2⟩ := mem_ready.1 hr
  have hlt : i < ops.size := (Array.getElem?_eq_some_iff.1 ho).1
  refine ⟨hlt, ?_, fun j hj => ?_⟩
  · have : i < listed.size := by omega
    simp only [Array.getD_eq_getD_getElem?, Array.getElem?_eq_getElem this, Option.getD_some] at h1 ⊢
    exact h1
  · unfold afterOf at hj
    rw [ho] at hj
    simp only [List.mem_map, List.mem_filter, Array.mem_toList_iff] at hj
    obtain ⟨e, ⟨he, hb⟩, rfl⟩ := hj
    exact h2 e he hb
theorem anc_listed (I : Inv P N w0 nt ops φ0 h0 listed D tm h φ a w β) {i n : Nat} (ha : ∀ j ∈ afterOf ops i, listed.getD j false = true) : ∀ q ∈ ancOf ops n i, listed.getD q false = true :=
  ancOf_sub (S := fun q => listed.getD q false = true) I.closed ha

theorem listed_set {i : Nat} (hi : i < listed.size) (j : Nat) : (listed.setIfInBounds i true).getD j false = if j = i then true else listed.getD j false := by
  by_cases e : j = i
  · subst e; simp [hi]
  · rw [if_neg e, getD_set_ne false (fun h => e h.symm)]

/-- The program makes what the abstract machine has made before. -/
theorem Inv.late (I : Inv P N w0 nt ops φ0 h0 listed D tm h φ a w β) {i : Nat} (hr : i ∈ Region.ready .any ops listed) (hiD : i ∈ D) {call : Cl} (hcall : CallOK P N w0 call) {K : Act → World → Prop} {Q : Exit → Act → World → Prop} (hq : True)
    (hmk : kindAt P ops i = 2 → isMakeAt ops i = true)
    (hk : ∀ φ' a' w', Inv P N w0 nt ops φ0 h0 (listed.setIfInBounds i true) D tm h φ' a' w' β → K a' w') : wpOpIn (Fe ro) 0 P ops Q i K a w := by
  obtain ⟨hlt, hil, hafter⟩ := ready_after hr I.size
  have hp := I.pend i hiD hil
  obtain ⟨d, b, v, hd, hdnt, hv, hg, hno, hyes⟩ := hp.what
  obtain ⟨tmR, t, hR⟩ := I.known
  have hanc := anc_listed I (n := ops.size) hafter
  -- what it reads is known
  have hrd : ∀ p ∈ readsOf P ops i, T.getP p tm = T.getP p tmR := by
    intro p hpr
    refine (hR p fun q hq hql n hn e => ?_).symm
    subst e
    have := hanc q (static_raw I.stat i hiD q hq hp.kind n hn hpr)
    rw [this] at hql; cases hql
  have hsz : i < listed.size := by rw [I.size]; exact hlt
  obtain ⟨o, ho⟩ : ∃ o, ops[i]? = some o := ⟨ops[i], Array.getElem?_eq_getElem hlt⟩
  -- the relation behind it
  have after : ∀ y φ' w', VRel φ' v y → Ext φ φ' → HRel N w0 φ' h w' → Keep φ0 φ' h0 h → (∀ q ∈ D, q ≠ i → listed.getD q false = false → kindAt P ops q = 2 → gval ops tm q = some true → φ (β q) = none → φ' (β q) = none) →
      Inv P N w0 nt ops φ0 h0 (listed.setIfInBounds i true) D tm h φ' (a.put (some d) y) w' β := by
    intro y φ' w' g1 g2 g3 g4 g5
    have hls := listed_set (listed := listed) hsz
    refine ⟨by simp [I.size], fun j hj => ?_, fun j hj k hk' => ?_, I.stat, g3, I.defers.mono g2, by rw [put_size]; exact I.ntle, ?_, ?_, ?_, I.ext.trans g2, g4, I.fresh0, ?_⟩
    · rw [hls] at hj
      by_cases e : j = i
      · rw [e]; exact hiD
      · rw [if_neg e] at hj; exact I.sub j hj
    · rw [hls] at hj ⊢
      by_cases e : j = i
      · subst e
        by_cases e2 : k = j
        · rw [if_pos e2]
        · rw [if_neg e2]; exact hafter k hk'
      · rw [if_neg e] at hj
        by_cases e2 : k = i
        · rw [if_pos e2]
        · rw [if_neg e2]; exact I.closed j hj k hk'
    · intro n u hu hpn
      simp only [Act.put]
      by_cases e : n = d
      · subst e
        rw [hv] at hu; cases hu
        have hlt' : n < a.tmps.size := by have := I.ntle; omega
        exact ⟨y, by simp [hlt'], g1⟩
      · obtain ⟨z, z1, z2⟩ := I.tmps n u hu (fun q hq hql hqd => by
          by_cases e2 : q = i
          · subst e2; rw [hd] at hqd; cases hqd; exact e rfl
          · exact hpn q hq (by rw [hls, if_neg e2]; exact hql) hqd)
        exact ⟨z, by rw [Array.getElem?_setIfInBounds_ne (fun h => e h.symm)]; exact z1, z2.mono g2⟩
    · intro q hq hql
      rw [hls] at hql
      by_cases e : q = i
      · rw [if_pos e] at hql; cases hql
      · rw [if_neg e] at hql
        refine (I.pend q hq hql).keep (fun _ _ => rfl) (fun _ _ => rfl) (fun _ _ _ _ ev _ => ev) (fun kq gq => ⟨rfl, fun B hB hφ _ => ⟨hB, g5 q hq e hql kq gq hφ⟩⟩)
    · intro p hp' q hq' hpl hql
      rw [hls] at hpl hql
      by_cases e : p = i
      · rw [if_pos e] at hpl; cases hpl
      · by_cases e2 : q = i
        · rw [if_pos e2] at hql; cases hql
        · rw [if_neg e] at hpl; rw [if_neg e2] at hql
          exact I.inj p hp' q hq' hpl hql
    · intro q hq hql
      rw [hls] at hql
      by_cases e : q = i
      · rw [if_pos e] at hql; cases hql
      · rw [if_neg e] at hql; exact I.since q hq hql
  by_cases hlay : kindAt P ops i = 2 ∧ b = true
  · obtain ⟨hk2, hb⟩ := hlay
    subst hb
    rcases hyes rfl with ⟨k1, _⟩ | ⟨_, cells, n, st, k, k2, k3, k4, k5, k6⟩
    · omega
    · have hgR : gval ops tmR i = some true := by rw [← gval_congr hrd]; exact hg
      have haR : allocOf (opAt P ops i) tmR = some (cells, n, st, k) := by rw [← allocOf_congr (ax_of_reads hrd)]; exact k2
      have hop : opAt P ops i = (compOp P o).getD .bad := by simp [opAt, ho]
      have hcomp : compOp P o = some (opAt P ops i) := by
        cases hc : compOp P o with
        | none =>
          rw [hc] at hop
          unfold kindAt at hk2; rw [hop] at hk2; cases hk2
        | some p => rw [hc] at hop; simp at hop; rw [hop]
      have hmake : isMake o.op = true := by have := hmk hk2; simpa [isMakeAt, ho] using this
      obtain ⟨arr, elem, y, M⟩ := makes_op hmake hcomp haR t
      have hlen := M.rel.length
      have hdo : dstOf ops i = o.dst := by simp [dstOf, ho]
      unfold wpOpIn
      rw [ho]
      simp only
      rw [wanted_of_gval t ho hgR, if_pos rfl]
      refine ⟨fun _ _ => trivial, ?_⟩
      rw [show (Fe ro).round = ro from rfl, semAt_eq ro _ _ (comp_noDefer hcomp), M.run, Oper.uponIn_value, ← hdo, hd]
      have hnl : n = cells.length := M.len
      have HH := I.H.know k4 k6 k5 arr elem (0, 0) (nofz arr) (by rw [hnl, hlen]; simp) (fun j hj => by
        have hx : cells[j]? = some cells[j] := List.getElem?_eq_getElem (by omega)
        obtain ⟨z, hz, hvz⟩ := M.rel.get hx
        exact ⟨cells[j], z, by rw [get_ofL]; exact hx, by simpa using hz, hvz, M.one _ (List.getElem_mem _)⟩)
      have hext := Phi.set_ext k5 ⟨w.heap.size, 0, arr.size, st⟩
      have hval := M.val (φ.set (β i) ⟨w.heap.size, 0, arr.size, st⟩) (β i) w.heap.size (Phi.set_same _ _ _)
      rw [← k3] at hval
      have hsince := I.since i hiD hil hk2 hg
      refine hk _ _ _ (after _ _ _ hval hext HH ⟨fun p B hz hp hB => ?_, I.keep.2⟩ fun q hq hqi hql hkq hgq hφ => ?_)
      · obtain ⟨r1, r2⟩ := I.keep.1 p B hz hp hB
        refine ⟨?_, r2⟩
        simp only [Phi.set]
        rw [if_neg (fun e => by rw [e, hsince] at hB; cases hB)]; exact r1
      · simp only [Phi.set]
        rw [if_neg (fun e => hqi (I.inj q hq i hiD hql hil hkq hk2 hgq hg e))]; exact hφ
  · have u : Out P ops call i tmR h b v h := by
      refine ⟨by rw [← gval_congr hrd]; exact hg, fun hb => ?_, fun hb => ⟨hno hb, rfl⟩⟩
      rcases hyes hb with ⟨_, k2⟩ | ⟨k1, _⟩
      · rw [← evOp_congr (ax_of_reads hrd)]; exact k2 call
      · exact absurd ⟨k1, hb⟩ hlay
    -- a quiet operation: the heap stays, and so does what the world knows
    have hw : wpOpIn (Fe ro) 0 P ops Q i K a w := by
      refine real_out hcall ho u t I.H hq fun y φ' w' g1 g2 g3 g4 => ?_
      rw [hd]
      exact hk _ _ _ (after y φ' w' g1 g2 g3 (I.keep.trans g4) fun q hq hqi hql hkq hgq hφ => by
        obtain ⟨d', b', v', h1, h2, h3, h4, h5, h6⟩ := (I.pend q hq hql).what
        rw [hgq] at h4; cases h4
        rcases h6 rfl with ⟨r1, _⟩ | ⟨_, _, _, _, _, _, _, r4, _, r6⟩
        · omega
        · exact (g4.1 _ _ r6 hφ r4).1)
    exact hw

theorem chk_ok {call : Cl} {k : T AV → Hp → R} {d : Pth} {op : AOp} {r : R} (e : chk call k tm h d op = r) (hr : r ≠ .no) : (∃ v h1, evOp call op tm h = .ok v h1 ∧ T.getP d tm = some v) ∧ k tm h = r := by
  unfold chk at e
  obtain ⟨v, h1, hv⟩ := onR_ne (e ▸ hr)
  rw [hv] at e
  have e : onO (T.getP d tm) .no (fun u => cnd (avEq v u) (k tm h) .no) = r := e
  cases hd : T.getP d tm with
  | none => rw [hd] at e; exact absurd e.symm hr
  | some u =>
    rw [hd, onO_some] at e
    cases hq : avEq v u with
    | false => rw [hq] at e; exact absurd e.symm hr
    | true =>
      rw [hq, cnd_true] at e
      rw [avEq_eq hq] at hv
      exact ⟨⟨u, h1, hv, rfl⟩, e⟩
theorem chks_ok {call : Cl} {j : Nat} {l : List AOper} {r : R} (hr : r ≠ .no) : ∀ (E : List Nat), evOps call (chksOf P ops j E ++ l) tm h = r →
    (∀ q ∈ E, kindAt P ops q = 1 → q ∉ ancOf ops ops.size j → gval ops tm q = some true → ∀ d, dstOf ops q = some d → ∃ v h1, evOp call (opAt P ops q) tm h = .ok v h1 ∧ T.getP (pth d) tm = some v) ∧ evOps call l tm h = r
  | [], e => ⟨by simp, e⟩
  | q :: E, e => by
    unfold chksOf at e
    split at e
    · rename_i hcond
      cases hd : dstOf ops q with
      | none =>
        rw [hd] at e
        obtain ⟨k1, k2⟩ := chks_ok hr E (by simpa using e)
        refine ⟨fun x hx hk hn hg d hdx => ?_, k2⟩
        rcases List.mem_cons.1 hx with e1 | e1
        · subst e1; rw [hd] at hdx; cases hdx
        · exact k1 x e1 hk hn hg d hdx
      | some d =>
        rw [hd] at e
        have plain : evOps call (.c (pth d) (opAt P ops q) :: (chksOf P ops j E ++ l)) tm h = r → _ := fun e => by
          rw [evOps_cons] at e
          exact chk_ok (show chk call (evOps call (chksOf P ops j E ++ l)) tm h (pth d) (opAt P ops q) = r from e) hr
        have fin : (∃ v h1, evOp call (opAt P ops q) tm h = .ok v h1 ∧ T.getP (pth d) tm = some v) ∨ gval ops tm q ≠ some true → evOps call (chksOf P ops j E ++ l) tm h = r →
            (∀ x ∈ q :: E, kindAt P ops x = 1 → x ∉ ancOf ops ops.size j → gval ops tm x = some true → ∀ d, dstOf ops x = some d → ∃ v h1, evOp call (opAt P ops x) tm h = .ok v h1 ∧ T.getP (pth d) tm = some v) ∧ evOps call l tm h = r := by
          intro k0 e
          obtain ⟨k1, k2⟩ := chks_ok hr E e
          refine ⟨fun x hx hk hn hg d' hdx => ?_, k2⟩
          rcases List.mem_cons.1 hx with e1 | e1
          · subst e1
            rw [hd] at hdx; cases hdx
            rcases k0 with k0 | k0
            · exact k0
            · exact absurd hg k0
          · exact k1 x e1 hk hn hg d' hdx
        cases hg : gtmp ops q with
        | none =>
          rw [hg] at e
          obtain ⟨k1, k2⟩ := plain e
          exact fin (.inl k1) k2
        | some g =>
          rw [hg] at e
          cases hgo : guardOf ops q with
          | none =>
            rw [hgo] at e
            obtain ⟨k1, k2⟩ := plain e
            exact fin (.inl k1) k2
          | some gj =>
            obtain ⟨gi, want⟩ := gj
            rw [hgo] at e
            have e : evOps call (.cg (pth d) (opAt P ops q) (pth g) want :: (chksOf P ops j E ++ l)) tm h = r := e
            rw [evOps_cons] at e
            have e : onO (wanted tm (pth g) want) .no (fun w => cnd w (chk call (evOps call (chksOf P ops j E ++ l)) tm h (pth d) (opAt P ops q)) (evOps call (chksOf P ops j E ++ l) tm h)) = r := e
            have hgv : gval ops tm q = wanted tm (pth g) want := by simp only [gval, hgo, hg]
            cases hw : wanted tm (pth g) want with
            | none => rw [hw] at e; exact absurd e.symm hr
            | some b =>
              rw [hw, onO_some] at e
              cases b with
              | true =>
                rw [cnd_true] at e
                obtain ⟨k1, k2⟩ := chk_ok e hr
                exact fin (.inl k1) k2
              | false =>
                rw [cnd_false] at e
                exact fin (.inr (by rw [hgv, hw]; simp)) e
    · rename_i hcond
      obtain ⟨k1, k2⟩ := chks_ok hr E e
      refine ⟨fun x hx hk hn hg d hdx => ?_, k2⟩
      rcases List.mem_cons.1 hx with e1 | e1
      · subst e1
        exfalso; apply hcond
        rw [hk]
        simp only [beq_self_eq_true, Bool.true_and, Bool.not_eq_true']
        cases hc : (ancOf ops ops.size j).contains x with
        | false => rfl
        | true => exact absurd (List.contains_iff_mem.1 hc) hn
      · exact k1 x e1 hk hn hg d hdx

/-- Both make the operation that is not taken ahead. -/
theorem Inv.both (I : Inv P N w0 nt ops φ0 h0 listed D tm h φ a w β) {j : Nat} (hs : Step P ops D j) (hr : j ∈ Region.ready .any ops listed) {call : Cl} (hcall : CallOK P N w0 call) (hnt : ∀ d, dstOf ops j = some d → d < nt)
    {b : Bool} {v : AV} {h' : Hp} (u : Out P ops call j tm h b v h')
    (hchk : ∀ q ∈ D, kindAt P ops q = 1 → q ∉ ancOf ops ops.size j → gval ops (putO (dstOf ops j) v tm) q = some true → ∀ d, dstOf ops q = some d → ∃ v1 h1, evOp call (opAt P ops q) (putO (dstOf ops j) v tm) h' = .ok v1 h1 ∧ T.getP (pth d) (putO (dstOf ops j) v tm) = some v1)
    {K : Act → World → Prop} {Q : Exit → Act → World → Prop} (hq : True)
    (hk : ∀ φ' a' w', Inv P N w0 nt ops φ0 h0 (listed.setIfInBounds j true) (j :: D) (putO (dstOf ops j) v tm) h' φ' a' w' β → K a' w') : wpOpIn (Fe ro) 0 P ops Q j K a w := by
  obtain ⟨hlt, hjl, hafter⟩ := ready_after hr I.size
  obtain ⟨tmR, t, hR⟩ := I.known
  have hanc := anc_listed I (n := ops.size) hafter
  have hrd : ∀ p ∈ readsOf P ops j, T.getP p tm = T.getP p tmR := by
    intro p hpr
    refine (hR p fun q hq hql n hn e => ?_).symm
    subst e
    have := hanc q (hs.raw q hq n hn hpr)
    rw [this] at hql; cases hql
  have hsz : j < listed.size := by rw [I.size]; exact hlt
  obtain ⟨o, ho⟩ : ∃ o, ops[j]? = some o := ⟨ops[j], Array.getElem?_eq_getElem hlt⟩
  have hls := listed_set (listed := listed) hsz
  have hne : ∀ q ∈ D, q ≠ j := fun q hq e => hs.new (e ▸ hq)
  -- what is read, and what the pending ones have set, stays
  have hput : ∀ p, (∀ d, dstOf ops j = some d → p ≠ pth d) → T.getP p (putO (dstOf ops j) v tm) = T.getP p tm := by
    intro p hp
    cases hd : dstOf ops j with
    | none => rfl
    | some d => rw [putO_some]; exact T.getP_other _ (hp d hd) _
  have hwarR : ∀ q ∈ D, listed.getD q false = false → ∀ p ∈ readsOf P ops q, T.getP p tm = T.getP p (putO (dstOf ops j) v tm) := by
    intro q hq hql p hp
    exact (hput p fun d hd e => (hs.war q hq (I.pend q hq hql).kind d hd).1 (e ▸ hp)).symm
  refine real_out hcall ho (out_congr u hrd) t I.H hq fun y φ' w' g1 g2 g3 g4 => ?_
  refine hk _ _ _ ⟨by simp [I.size], fun k hk' => ?_, fun k hk' m hm => ?_, ⟨hs, I.stat⟩, g3, by rw [show (a.put (dstOf ops j) y).defers = a.defers from by cases dstOf ops j <;> rfl]; exact I.defers.mono g2, by rw [put_size]; exact I.ntle, ?_, ?_, ?_, I.ext.trans g2, I.keep.trans g4, I.fresh0, ?_⟩
  · rw [hls] at hk'
    by_cases e : k = j
    · rw [e]; simp
    · rw [if_neg e] at hk'; exact List.mem_cons_of_mem _ (I.sub k hk')
  · rw [hls] at hk' ⊢
    by_cases e : k = j
    · subst e
      by_cases e2 : m = k
      · rw [if_pos e2]
      · rw [if_neg e2]; exact hafter m hm
    · rw [if_neg e] at hk'
      by_cases e2 : m = j
      · rw [if_pos e2]
      · rw [if_neg e2]; exact I.closed k hk' m hm
  · intro n z hz hpn
    by_cases e : dstOf ops j = some n
    · rw [e, putO_some, T.getP_same] at hz
      cases hz
      have hlt' : n < a.tmps.size := by have := I.ntle; have := hnt n e; omega
      rw [e]
      exact ⟨y, by simp [Act.put, hlt'], g1⟩
    · rw [hput (pth n) (fun d hd e2 => e (by rw [hd, pth_inj e2]))] at hz
      obtain ⟨z', z1, z2⟩ := I.tmps n z hz (fun q hq hql => hpn q (by simp [hq]) (by rw [hls, if_neg (hne q hq)]; exact hql))
      refine ⟨z', ?_, z2.mono g2⟩
      cases hd : dstOf ops j with
      | none => exact z1
      | some d =>
        simp only [Act.put]
        rw [Array.getElem?_setIfInBounds_ne (fun h => e (by rw [hd, h]))]; exact z1
  · intro q hq hql
    rw [hls] at hql
    rcases List.mem_cons.1 hq with e | e
    · rw [if_pos e] at hql; cases hql
    · rw [if_neg (hne q e)] at hql
      have hpq := I.pend q e hql
      refine hpq.keep (hwarR q e hql) (fun d hd => hput (pth d) fun d' hd' e2 => (hs.war q e hpq.kind d' hd').2 (by rw [hd, pth_inj e2])) (fun k1 gq v' call' ev hdq => ?_) (fun kq gq => ⟨rfl, fun B hB hφ hz => ⟨(g4.1 _ _ hz hφ hB).2, (g4.1 _ _ hz hφ hB).1⟩⟩)
      obtain ⟨d, b', v1, h1, h2, h3, h4, h5, h6⟩ := hpq.what
      have hnanc : q ∉ ancOf ops ops.size j := fun hin => by have := hanc q hin; rw [this] at hql; cases hql
      have gq2 : gval ops (putO (dstOf ops j) v tm) q = some true := by rw [← gval_congr (hwarR q e hql)]; exact gq
      obtain ⟨v2, h2', k2, k3⟩ := hchk q e k1 hnanc gq2 d h1
      have hgd : T.getP (pth d) (putO (dstOf ops j) v tm) = T.getP (pth d) tm := hput (pth d) fun d' hd' e2 => (hs.war q e hpq.kind d' hd').2 (by rw [h1, pth_inj e2])
      rw [hgd, h3] at k3
      cases k3
      rw [gq] at h4; cases h4
      rcases h6 rfl with ⟨_, r2⟩ | ⟨r1, _⟩
      · have hvv : v' = v1 := by
          have := r2 call'
          rw [ev] at this; cases this; rfl
        subst hvv
        have := (kind1 k1 k2)
        obtain ⟨hh, hany, _⟩ := this
        subst hh
        exact hany call'
      · omega
  · intro p hp q hq' hpl hql kp kq gp gq hb
    rw [hls] at hpl hql
    rcases List.mem_cons.1 hp with e1 | e1
    · rw [if_pos e1] at hpl; cases hpl
    · rcases List.mem_cons.1 hq' with e2 | e2
      · rw [if_pos e2] at hql; cases hql
      · rw [if_neg (hne p e1)] at hpl; rw [if_neg (hne q e2)] at hql
        rw [← gval_congr (hwarR p e1 hpl)] at gp
        rw [← gval_congr (hwarR q e2 hql)] at gq
        exact I.inj p e1 q e2 hpl hql kp kq gp gq hb
  · intro q hq' hql kq gq
    rw [hls] at hql
    rcases List.mem_cons.1 hq' with e | e
    · rw [if_pos e] at hql; cases hql
    · rw [if_neg (hne q e)] at hql
      rw [← gval_congr (hwarR q e hql)] at gq
      exact I.since q e hql kq gq
end
end Go.Abs
