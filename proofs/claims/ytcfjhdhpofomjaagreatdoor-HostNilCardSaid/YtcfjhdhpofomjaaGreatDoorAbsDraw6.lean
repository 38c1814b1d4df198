/- A region that draws its order: the theorem. -/
import Derived.Test.YtcfjhdhpofomjaaGreatDoorAbsDraw5
set_option linter.unusedSectionVars false
set_option linter.unusedSimpArgs false
set_option linter.unusedVariables false
set_option linter.constructorNameAsVariable false
namespace Go.Abs
variable [Env] [Fr]
open Go.RowKit

theorem filter_le {p p' : Nat → Bool} : ∀ l : List Nat, (∀ k ∈ l, p' k = true → p k = true) → (l.filter p').length ≤ (l.filter p).length
  | [], _ => Nat.le_refl _
  | x :: l, h => by
    have ih := filter_le l fun k hk => h k (by simp [hk])
    by_cases e : p' x = true
    · rw [List.filter_cons_of_pos e, List.filter_cons_of_pos (h x (by simp) e)]; simpa using ih
    · rw [List.filter_cons_of_neg e]
      by_cases e2 : p x = true
      · rw [List.filter_cons_of_pos e2]; simp; omega
      · rw [List.filter_cons_of_neg e2]; exact ih
theorem filter_lt {p p' : Nat → Bool} : ∀ l : List Nat, (∀ k ∈ l, p' k = true → p k = true) → (∃ i ∈ l, p i = true ∧ p' i = false) → (l.filter p').length < (l.filter p).length
  | [], _, ⟨i, hi, _⟩ => by simp at hi
  | x :: l, h, ⟨i, hi, h1, h2⟩ => by
    have ih := filter_le l fun k hk => h k (by simp [hk])
    rcases List.mem_cons.1 hi with e | e
    · subst e
      rw [List.filter_cons_of_neg (by rw [h2]; simp), List.filter_cons_of_pos h1]; simp; omega
    · have ih2 := filter_lt l (fun k hk => h k (by simp [hk])) ⟨i, e, h1, h2⟩
      by_cases e1 : p' x = true
      · rw [List.filter_cons_of_pos e1, List.filter_cons_of_pos (h x (by simp) e1)]; simpa using ih2
      · rw [List.filter_cons_of_neg e1]
        by_cases e2 : p x = true
        · rw [List.filter_cons_of_pos e2]; simp; omega
        · rw [List.filter_cons_of_neg e2]; exact ih2
def left (n : Nat) (listed : Array Bool) : Nat := ((List.range n).filter fun i => !listed.getD i false).length

section
variable {P : Program} {N : Nat} {w0 : World} {nt : Nat} {ops : Array Oper} {φ0 : Phi} {h0 : Hp}

theorem compDraw_cons {D : List Nat} {i : Nat} {rest : List Nat} {l : List AOper} (h : compDraw P nt ops D (i :: rest) = some l) :
    Step P ops D i ∧ ∃ o x l', ops[i]? = some o ∧ compOper P nt ops o = some x ∧ compDraw P nt ops (i :: D) rest = some l' ∧ l = x :: ((if kindAt P ops i == 3 then chksOf P ops i D else []) ++ l') := by
  unfold compDraw at h
  split at h
  · rename_i hok
    simp only [Option.bind_eq_bind, Option.bind_eq_some_iff, Option.some.injEq] at h
    obtain ⟨o, ho, x, hx, l', hl', rfl⟩ := h
    exact ⟨okStep_step hok, o, x, l', ho, hx, hl', rfl⟩
  · cases h
theorem compDraw_nil {D : List Nat} {l : List AOper} (h : compDraw P nt ops D [] = some l) : l = [] ∧ ∀ i, i < ops.size → i ∈ D := by
  unfold compDraw at h
  split at h
  · rename_i hok
    cases h
    rw [List.all_eq_true] at hok
    exact ⟨rfl, fun i hi => List.contains_iff_mem.1 (hok i (List.mem_range.2 hi))⟩
  · cases h

theorem advance {call : Cl} {r : R} (hr : r ≠ .no) {listed : Array Bool} {φ : Phi} {a : Act} {w : World} : ∀ (rest D : List Nat) (l : List AOper) (tm : T AV) (h : Hp) (β : Nat → Pth), Inv P N w0 nt ops φ0 h0 listed D tm h φ a w β → compDraw P nt ops D rest = some l → evOps call l tm h = r →
    ∃ D' rest' l' tm' h' β', Inv P N w0 nt ops φ0 h0 listed D' tm' h' φ a w β' ∧ compDraw P nt ops D' rest' = some l' ∧ evOps call l' tm' h' = r ∧ (rest' = [] ∨ ∃ j k, rest' = j :: k ∧ kindAt P ops j = 3)
  | [], D, l, tm, h, β, I, hc, e => ⟨D, [], l, tm, h, β, I, hc, e, .inl rfl⟩
  | i :: rest, D, l, tm, h, β, I, hc, e => by
    by_cases hk : kindAt P ops i = 3
    · exact ⟨D, i :: rest, l, tm, h, β, I, hc, e, .inr ⟨i, rest, rfl, hk⟩⟩
    · obtain ⟨hs, o, x, l', ho, hx, hl', hl⟩ := compDraw_cons hc
      have hk' : (kindAt P ops i == 3) = false := by simpa using hk
      rw [hk'] at hl
      subst hl
      have e : evOps call (x :: l') tm h = r := e
      rw [evOps_cons] at e
      obtain ⟨hnt, _, b, v, h', u, e'⟩ := evOper_out ho hx e hr
      obtain ⟨β', I'⟩ := I.ahead hs hk hnt u
      exact advance hr rest (i :: D) l' _ h' β' I' hl' e'

/-- Of what is pending, something can be made. -/
theorem first_pending {listed : Array Bool} : ∀ {D : List Nat}, StaticOK P ops D → (∃ i ∈ D, listed.getD i false = false) → ∃ i ∈ D, listed.getD i false = false ∧ ∀ j ∈ afterOf ops i, listed.getD j false = true
  | [], _, ⟨i, hi, _⟩ => by simp at hi
  | x :: D, ⟨hs, hD⟩, ⟨i, hi, hl⟩ => by
    by_cases hex : ∃ i ∈ D, listed.getD i false = false
    · obtain ⟨k, hk, h1, h2⟩ := first_pending hD hex
      exact ⟨k, by simp [hk], h1, h2⟩
    · have hall : ∀ q ∈ D, listed.getD q false = true := by
        intro q hq
        cases e : listed.getD q false with
        | true => rfl
        | false => exact absurd ⟨q, hq, e⟩ hex
      rcases List.mem_cons.1 hi with e | e
      · subst e
        exact ⟨i, by simp, hl, fun j hj => hall j (hs.after j hj)⟩
      · rw [hall i e] at hl; cases hl
theorem to_ready {listed : Array Bool} (hsz : listed.size = ops.size) {i : Nat} (hi : i < ops.size) (hl : listed.getD i false = false) (ha : ∀ j ∈ afterOf ops i, listed.getD j false = true) : i ∈ Region.ready .any ops listed := by
  refine mem_ready.2 ⟨?_, ops[i], Array.getElem?_eq_getElem hi, fun e he hb => ha _ ?_⟩
  · have : i < listed.size := by omega
    simp only [Array.getD_eq_getD_getElem?, Array.getElem?_eq_getElem this, Option.getD_some] at hl ⊢
    exact hl
  · unfold afterOf
    rw [Array.getElem?_eq_getElem hi]
    simp only [List.mem_map, List.mem_filter, Array.mem_toList_iff]
    exact ⟨e, ⟨he, hb⟩, rfl⟩
theorem static_mem : ∀ {D : List Nat}, StaticOK P ops D → ∀ i ∈ D, i < ops.size ∧ (kindAt P ops i = 2 → isMakeAt ops i = true)
  | x :: D, ⟨hs, hD⟩, i, hi => by
    rcases List.mem_cons.1 hi with e | e
    · subst e; exact ⟨hs.lt, hs.make⟩
    · exact static_mem hD i e

theorem draw_sim {ro : Option Nat} {call : Cl} (hcall : CallOK P N w0 call) {r : R} (hr : r ≠ .no) {Q : Exit → Act → World → Prop} (hq : ∀ ex a' w', Ends N w0 φ0 h0 nt r ex a' w' → Q ex a' w') :
    ∀ (fuel : Nat) (listed : Array Bool) (D rest : List Nat) (l : List AOper) (tm : T AV) (h : Hp) (φ : Phi) (a : Act) (w : World) (β : Nat → Pth), left ops.size listed ≤ fuel → Inv P N w0 nt ops φ0 h0 listed D tm h φ a w β →
      compDraw P nt ops D rest = some l → evOps call l tm h = r → wpAnyIn (Fe ro) 0 P .any ops Q fuel listed a w := by
  have hlets : True := trivial
  -- the end
  have fin : ∀ (listed : Array Bool) (D rest : List Nat) (l : List AOper) (tm : T AV) (h : Hp) (φ : Phi) (a : Act) (w : World) (β : Nat → Pth), Inv P N w0 nt ops φ0 h0 listed D tm h φ a w β → compDraw P nt ops D rest = some l → evOps call l tm h = r →
      (∀ i, i < ops.size → listed.getD i false = true) → Q .normal a w := by
    intro listed D rest l tm h φ a w β I hc e hall
    cases rest with
    | cons i rest =>
      obtain ⟨hs, _⟩ := compDraw_cons hc
      exact absurd (I.sub i (hall i hs.lt)) hs.new
    | nil =>
      obtain ⟨rfl, _⟩ := compDraw_nil hc
      rw [evOps_nil] at e
      refine hq _ _ _ (.inr ⟨φ, tm, h, I.ext, ⟨fun n v hv => I.tmps n v hv fun i hi hl => ?_, I.defers⟩, I.H, I.keep, I.ntle, .inl ⟨e.symm, rfl⟩⟩)
      have := hall i (static_mem I.stat i hi).1
      rw [this] at hl; cases hl
  have none : ∀ (listed : Array Bool), left ops.size listed = 0 → ∀ i, i < ops.size → listed.getD i false = true := by
    intro listed hz i hi
    cases e : listed.getD i false with
    | true => rfl
    | false =>
      have : i ∈ (List.range ops.size).filter fun i => !listed.getD i false := List.mem_filter.2 ⟨List.mem_range.2 hi, by simp only [e]; rfl⟩
      rw [List.eq_nil_of_length_eq_zero hz] at this
      cases this
  intro fuel
  induction fuel with
  | zero =>
    intro listed D rest l tm h φ a w β hfuel I hc e
    have hall := none listed (by omega)
    refine ⟨?_, fin listed D rest l tm h φ a w β I hc e hall⟩
    cases hrd : Region.ready .any ops listed with
    | nil => rfl
    | cons i k =>
      obtain ⟨h1, h2, _⟩ := ready_after (i := i) (by rw [hrd]; simp) I.size
      rw [hall i h1] at h2; cases h2
  | succ fuel ih =>
    intro listed D rest l tm h φ a w β hfuel I hc e
    obtain ⟨D', rest', l', tm', h', β', I', hc', e', hcase⟩ := advance hr rest D l tm h β I hc e
    refine ⟨fun hnil => ?_, fun i hi => ?_⟩
    · -- nothing is ready: all has been made
      refine fin listed D' rest' l' tm' h' φ a w β' I' hc' e' fun i hi => ?_
      cases hl : listed.getD i false with
      | true => rfl
      | false =>
        exfalso
        have hready : ∃ k, k ∈ Region.ready .any ops listed := by
          by_cases hex : ∃ q ∈ D', listed.getD q false = false
          · obtain ⟨k, hk, h1, h2⟩ := first_pending I'.stat hex
            exact ⟨k, to_ready I'.size (static_mem I'.stat k hk).1 h1 h2⟩
          · have hall : ∀ q ∈ D', listed.getD q false = true := by
              intro q hq
              cases e : listed.getD q false with
              | true => rfl
              | false => exact absurd ⟨q, hq, e⟩ hex
            rcases hcase with rfl | ⟨j, k, rfl, _⟩
            · have := hall i ((compDraw_nil hc').2 i hi)
              rw [this] at hl; cases hl
            · obtain ⟨hs, _⟩ := compDraw_cons hc'
              refine ⟨j, to_ready I'.size hs.lt ?_ fun q hq => hall q (hs.after q hq)⟩
              cases e : listed.getD j false with
              | false => rfl
              | true => exact absurd (I'.sub j e) hs.new
        obtain ⟨k, hk⟩ := hready
        rw [hnil] at hk; cases hk
    · obtain ⟨hlt, hil, hafter⟩ := ready_after hi I'.size
      have hsz : i < listed.size := by rw [I'.size]; exact hlt
      have hless : left ops.size (listed.setIfInBounds i true) ≤ fuel := by
        have : left ops.size (listed.setIfInBounds i true) < left ops.size listed := by
          refine filter_lt _ (fun k _ hk => ?_) ⟨i, List.mem_range.2 hlt, by simp only [hil]; rfl, by simp only [listed_set hsz, if_true]; rfl⟩
          simp only [listed_set hsz] at hk
          by_cases e : k = i
          · rw [if_pos e] at hk; cases hk
          · rw [if_neg e] at hk; exact hk
        omega
      by_cases hiD : i ∈ D'
      · exact I'.late hi hiD hcall hlets (static_mem I'.stat i hiD).2 fun φ' a' w' I2 => ih _ D' rest' l' tm' h' φ' a' w' β' hless I2 hc' e'
      · -- the next of the abstract machine's
        rcases hcase with rfl | ⟨j, k, rfl, hk3⟩
        · exact absurd ((compDraw_nil hc').2 i hlt) hiD
        · obtain ⟨hs, o, x, l2, ho, hx, hl2, hl⟩ := compDraw_cons hc'
          have hij : i = j := by
            have : i ∈ readyD ops D' := by
              unfold readyD
              refine List.mem_filter.2 ⟨List.mem_range.2 hlt, ?_⟩
              simp only [Bool.and_eq_true, Bool.not_eq_true', List.all_eq_true]
              refine ⟨?_, fun q hq => List.contains_iff_mem.2 (I'.sub q (hafter q hq))⟩
              cases e : D'.contains i with
              | false => rfl
              | true => exact absurd (List.contains_iff_mem.1 e) hiD
            rw [hs.only hk3] at this
            simpa using this
          subst hij
          have hk' : (kindAt P ops i == 3) = true := by simpa using hk3
          rw [hk'] at hl
          subst hl
          have e' : evOps call (x :: (chksOf P ops i D' ++ l2)) tm' h' = r := e'
          rw [evOps_cons] at e'
          obtain ⟨hnt, _, b, v, h2, u, e2⟩ := evOper_out ho hx e' hr
          obtain ⟨hchk, e3⟩ := chks_ok hr D' e2
          exact I'.both hs hi hcall hnt u hchk hlets fun φ' a' w' I2 => ih _ (i :: D') k l2 _ h2 φ' a' w' β' hless I2 hl2 e3

theorem sound_draw (hm : P.follows .mixedOrders = true) : DrawOK P N w0 := by
  intro _ ro call hcall nt id ops ac hc fuel φ tm h a w r e hr t H hn Q hq
  unfold compRegion at hc
  split at hc
  · rename_i l hl
    cases hc
    have e : evOps call l tm h = r := e
    refine wpIn_region_any hm (draw_sim hcall hr hq ops.size (Array.replicate ops.size false) [] _ l tm h φ a w.drew (fun _ => .z) ?_ ?_ hl e)
    · unfold left
      exact Nat.le_trans (List.length_filter_le _ _) (by simp)
    · have hnone : ∀ i, (Array.replicate ops.size false).getD i false = false := by
        intro i
        simp only [Array.getD_eq_getD_getElem?, Array.getElem?_replicate]
        split <;> rfl
      exact ⟨by simp, (fun i hi => by rw [hnone] at hi; cases hi), (fun i hi => by rw [hnone] at hi; cases hi), trivial, H.drew, t.defers, hn, fun n v hv _ => t.at_ n v hv, by simp, by simp, Ext.refl φ, Keep.refl φ h, H.fresh, by simp⟩
  · cases hc
    exact absurd e.symm hr
end
end Go.Abs
