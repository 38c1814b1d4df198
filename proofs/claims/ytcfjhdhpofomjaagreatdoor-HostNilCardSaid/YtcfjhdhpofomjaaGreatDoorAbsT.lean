/- The tries of the abstract machine: what is read behind a store. -/
import Derived.Test.YtcfjhdhpofomjaaGreatDoorAbsCore
set_option linter.unusedSectionVars false
set_option linter.unusedSimpArgs false
set_option linter.unusedVariables false
set_option linter.constructorNameAsVariable false
namespace Go.Abs

theorem forceN_eq {β : Type} (n : Nat) (k : Nat → β) : forceN n k = k n := by cases n <;> rfl
@[simp] theorem cnd_true {β : Type} (a b : β) : cnd true a b = a := rfl
@[simp] theorem cnd_false {β : Type} (a b : β) : cnd false a b = b := rfl
@[simp] theorem onO_none {α β : Type} (d : β) (k : α → β) : onO none d k = d := rfl
@[simp] theorem onO_some {α β : Type} (x : α) (d : β) (k : α → β) : onO (some x) d k = k x := rfl
theorem cnd_eq_some {β : Type} {c : Bool} {a : Option β} {x : β} (h : cnd c a none = some x) : c = true ∧ a = some x := by cases c <;> simp_all
theorem onO_eq_some {α β : Type} {x : Option α} {k : α → Option β} {y : β} (h : onO x none k = some y) : ∃ a, x = some a ∧ k a = some y := by cases x <;> simp_all
theorem cnd_eq_ok {c : Bool} {a : Rv} {v : AV} {h' : Hp} (h : cnd c a .no = .ok v h') : c = true ∧ a = .ok v h' := by cases c <;> simp_all
theorem onO_eq_ok {α : Type} {x : Option α} {k : α → Rv} {v : AV} {h' : Hp} (h : onO x .no k = .ok v h') : ∃ a, x = some a ∧ k a = .ok v h' := by cases x <;> simp_all

namespace Pth
def num : Pth → Nat
  | .z => 0
  | .l p => 2 * p.num + 1
  | .r p => 2 * p.num + 2
theorem num_inj : ∀ {p q : Pth}, p.num = q.num → p = q
  | .z, .z, _ => rfl
  | .l p, .l q, h => by rw [num_inj (p := p) (q := q) (by simp only [num] at h; omega)]
  | .r p, .r q, h => by rw [num_inj (p := p) (q := q) (by simp only [num] at h; omega)]
  | .z, .l _, h | .z, .r _, h | .l _, .z, h | .r _, .z, h | .l _, .r _, h | .r _, .l _, h => by simp only [num] at h; omega
theorem num_inc : ∀ p : Pth, p.inc.num = p.num + 1
  | .z => rfl
  | .l p => by simp only [inc, num]
  | .r p => by simp only [inc, num, num_inc p]; omega
end Pth

namespace T
variable {α : Type}
@[simp] theorem getP_e (p : Pth) : (T.getP p (.e : T α)) = none := by cases p <;> rfl
@[simp] theorem getP_z (l : T α) (v : Option α) (r : T α) : T.getP .z (.n l v r) = v := rfl
@[simp] theorem getP_l (l : T α) (v : Option α) (r : T α) (p : Pth) : T.getP (.l p) (.n l v r) = T.getP p l := rfl
@[simp] theorem getP_r (l : T α) (v : Option α) (r : T α) (p : Pth) : T.getP (.r p) (.n l v r) = T.getP p r := rfl
@[simp] theorem mkl_eq (v : Option α) (r c : T α) : mkl v r c = .n c v r := by cases c <;> rfl
@[simp] theorem mkr_eq (l : T α) (v : Option α) (c : T α) : mkr l v c = .n l v c := by cases c <;> rfl
theorem putP_z_e (v : α) : putP v .z .e = .n .e (some v) .e := rfl
theorem putP_z_n (v : α) (l : T α) (x : Option α) (r : T α) : putP v .z (.n l x r) = .n l (some v) r := rfl
theorem putP_l_e (v : α) (p : Pth) : putP v (.l p) .e = mkl none .e (putP v p .e) := rfl
theorem putP_l_n (v : α) (p : Pth) (l : T α) (x : Option α) (r : T α) : putP v (.l p) (.n l x r) = mkl x r (putP v p l) := rfl
theorem putP_r_e (v : α) (p : Pth) : putP v (.r p) .e = mkr .e none (putP v p .e) := rfl
theorem putP_r_n (v : α) (p : Pth) (l : T α) (x : Option α) (r : T α) : putP v (.r p) (.n l x r) = mkr l x (putP v p r) := rfl
theorem getP_putP (v : α) : ∀ (p q : Pth) (t : T α), T.getP q (putP v p t) = if q = p then some v else T.getP q t
  | .z, q, .e => by cases q <;> simp [putP_z_e]
  | .z, q, .n l x r => by cases q <;> simp [putP_z_n]
  | .l p, q, .e => by cases q <;> simp [putP_l_e, getP_putP v p]
  | .l p, q, .n l x r => by cases q <;> simp [putP_l_n, getP_putP v p]
  | .r p, q, .e => by cases q <;> simp [putP_r_e, getP_putP v p]
  | .r p, q, .n l x r => by cases q <;> simp [putP_r_n, getP_putP v p]
theorem getP_same (v : α) (p : Pth) (t : T α) : T.getP p (putP v p t) = some v := by simp [getP_putP]
theorem getP_other (v : α) {p q : Pth} (h : q ≠ p) (t : T α) : T.getP q (putP v p t) = T.getP q t := by simp [getP_putP, h]

@[simp] theorem get_e (i : Nat) : (T.e : T α).get i = none := rfl
theorem get_n (l : T α) (v : Option α) (r : T α) (i : Nat) :
    (T.n l v r).get i = if i = 0 then v else if i % 2 = 1 then l.get (i / 2) else r.get (i / 2 - 1) := by
  show Bool.rec (motive := fun _ => Option α) (Bool.rec (motive := fun _ => Option α) (r.get (Nat.pred (Nat.div i 2))) (l.get (Nat.div i 2)) (Nat.beq (Nat.mod i 2) 1)) v (Nat.beq i 0) = _
  by_cases h0 : i = 0
  · subst h0; rfl
  · have e0 : Nat.beq i 0 = false := by cases h : Nat.beq i 0 with | false => rfl | true => exact absurd (Nat.eq_of_beq_eq_true h) h0
    rw [e0, if_neg h0]
    by_cases h1 : i % 2 = 1
    · have e1 : Nat.beq (Nat.mod i 2) 1 = true := by show Nat.beq (i % 2) 1 = true; rw [h1]; rfl
      rw [e1, if_pos h1]; rfl
    · have e1 : Nat.beq (Nat.mod i 2) 1 = false := by
        cases h : Nat.beq (Nat.mod i 2) 1 with | false => rfl | true => exact absurd (Nat.eq_of_beq_eq_true h) h1
      rw [e1, if_neg h1]; rfl
theorem set_zero (v : α) (t : T α) (i : Nat) : set v 0 t i = t := rfl
theorem set_succ_e (v : α) (f i : Nat) : set v (f + 1) .e i = if i = 0 then .n .e (some v) .e else if i % 2 = 1 then .n (set v f .e (i / 2)) none .e else .n .e none (set v f .e (i / 2 - 1)) := by
  show Bool.rec (motive := fun _ => T α) (Bool.rec (motive := fun _ => T α) (mkr .e none (set v f .e (Nat.pred (Nat.div i 2)))) (mkl none .e (set v f .e (Nat.div i 2))) (Nat.beq (Nat.mod i 2) 1)) (.n .e (some v) .e) (Nat.beq i 0) = _
  by_cases h0 : i = 0
  · subst h0; rfl
  · have e0 : Nat.beq i 0 = false := by cases h : Nat.beq i 0 with | false => rfl | true => exact absurd (Nat.eq_of_beq_eq_true h) h0
    rw [e0, if_neg h0]
    by_cases h1 : i % 2 = 1
    · have e1 : Nat.beq (Nat.mod i 2) 1 = true := by show Nat.beq (i % 2) 1 = true; rw [h1]; rfl
      rw [e1, if_pos h1, mkl_eq]; rfl
    · have e1 : Nat.beq (Nat.mod i 2) 1 = false := by
        cases h : Nat.beq (Nat.mod i 2) 1 with | false => rfl | true => exact absurd (Nat.eq_of_beq_eq_true h) h1
      rw [e1, if_neg h1, mkr_eq]; rfl
theorem set_succ_n (v : α) (f i : Nat) (l : T α) (x : Option α) (r : T α) : set v (f + 1) (.n l x r) i = if i = 0 then .n l (some v) r else if i % 2 = 1 then .n (set v f l (i / 2)) x r else .n l x (set v f r (i / 2 - 1)) := by
  show Bool.rec (motive := fun _ => T α) (Bool.rec (motive := fun _ => T α) (mkr l x (set v f r (Nat.pred (Nat.div i 2)))) (mkl x r (set v f l (Nat.div i 2))) (Nat.beq (Nat.mod i 2) 1)) (.n l (some v) r) (Nat.beq i 0) = _
  by_cases h0 : i = 0
  · subst h0; rfl
  · have e0 : Nat.beq i 0 = false := by cases h : Nat.beq i 0 with | false => rfl | true => exact absurd (Nat.eq_of_beq_eq_true h) h0
    rw [e0, if_neg h0]
    by_cases h1 : i % 2 = 1
    · have e1 : Nat.beq (Nat.mod i 2) 1 = true := by show Nat.beq (i % 2) 1 = true; rw [h1]; rfl
      rw [e1, if_pos h1, mkl_eq]; rfl
    · have e1 : Nat.beq (Nat.mod i 2) 1 = false := by
        cases h : Nat.beq (Nat.mod i 2) 1 with | false => rfl | true => exact absurd (Nat.eq_of_beq_eq_true h) h1
      rw [e1, if_neg h1, mkr_eq]; rfl
theorem get_set (v : α) : ∀ (f : Nat) (t : T α) (i : Nat), i < f → ∀ j, (set v f t i).get j = if j = i then some v else t.get j
  | 0, t, i, h, j => by omega
  | f + 1, .e, i, h, j => by
    rw [set_succ_e]
    by_cases h0 : i = 0
    · subst h0
      rw [if_pos rfl, get_n]
      by_cases hj : j = 0
      · simp [hj]
      · simp [hj]
    · rw [if_neg h0]
      by_cases h1 : i % 2 = 1
      · rw [if_pos h1, get_n, get_set v f .e (i / 2) (by omega)]
        by_cases hj : j = 0
        · have : ¬ (0 = i) := by omega
          simp [hj, this]
        · by_cases hj1 : j % 2 = 1
          · have : (j / 2 = i / 2) ↔ j = i := by omega
            simp [hj, hj1, this]
          · have : ¬ j = i := by omega
            simp [hj, hj1, this]
      · rw [if_neg h1, get_n, get_set v f .e (i / 2 - 1) (by omega)]
        by_cases hj : j = 0
        · have : ¬ (0 = i) := by omega
          simp [hj, this]
        · by_cases hj1 : j % 2 = 1
          · have : ¬ j = i := by omega
            simp [hj, hj1, this]
          · have : (j / 2 - 1 = i / 2 - 1) ↔ j = i := by omega
            simp [hj, hj1, this]
  | f + 1, .n l x r, i, h, j => by
    rw [set_succ_n]
    by_cases h0 : i = 0
    · subst h0
      rw [if_pos rfl, get_n, get_n]
      by_cases hj : j = 0
      · simp [hj]
      · simp [hj]
    · rw [if_neg h0]
      by_cases h1 : i % 2 = 1
      · rw [if_pos h1, get_n, get_n, get_set v f l (i / 2) (by omega)]
        by_cases hj : j = 0
        · have : ¬ (0 = i) := by omega
          simp [hj, this]
        · by_cases hj1 : j % 2 = 1
          · have : (j / 2 = i / 2) ↔ j = i := by omega
            simp [hj, hj1, this]
          · have : ¬ j = i := by omega
            simp [hj, hj1, this]
      · rw [if_neg h1, get_n, get_n, get_set v f r (i / 2 - 1) (by omega)]
        by_cases hj : j = 0
        · have : ¬ (0 = i) := by omega
          simp [hj, this]
        · by_cases hj1 : j % 2 = 1
          · have : ¬ j = i := by omega
            simp [hj, hj1, this]
          · have : (j / 2 - 1 = i / 2 - 1) ↔ j = i := by omega
            simp [hj, hj1, this]
theorem get_put (t : T α) (i : Nat) (v : α) (j : Nat) : (t.put i v).get j = if j = i then some v else t.get j :=
  get_set v (i + 1) t i (by omega) j
end T

@[simp] theorem setL_nil (c : T AV) (off : Nat) : setL [] c off = c := rfl
theorem setL_cons (v : AV) (r : List AV) (c : T AV) (off : Nat) : setL (v :: r) c off = setL r (c.put off v) (off + 1) := by
  show T.rec (motive := fun _ => T AV) (setL r .e (Nat.succ off)) (fun a b d _ _ => setL r (.n a b d) (Nat.succ off)) (T.put c off v) = _
  cases T.put c off v <;> rfl
theorem get_setL : ∀ (l : List AV) (c : T AV) (off j : Nat), (setL l c off).get j = if off ≤ j ∧ j < off + l.length then l[j - off]? else c.get j
  | [], c, off, j => by
    have : ¬ (off ≤ j ∧ j < off + 0) := by omega
    rw [setL_nil, List.length_nil, if_neg this]
  | v :: r, c, off, j => by
    rw [setL_cons, get_setL r, T.get_put]
    by_cases h1 : j = off
    · subst h1
      have : ¬ (j + 1 ≤ j ∧ j < j + 1 + r.length) := by omega
      rw [if_neg this]
      simp
    · by_cases h2 : off + 1 ≤ j ∧ j < off + 1 + r.length
      · have h3 : off ≤ j ∧ j < off + (v :: r).length := by simp; omega
        rw [if_pos h2, if_pos h3, show j - off = (j - (off + 1)) + 1 by omega]
        simp
      · have h3 : ¬ (off ≤ j ∧ j < off + (v :: r).length) := by simp; omega
        rw [if_neg h2, if_neg h3, if_neg h1]
theorem get_ofL (l : List AV) (j : Nat) : (ofL l).get j = l[j]? := by
  unfold ofL
  rw [get_setL]
  by_cases h : j < l.length
  · simp [h]
  · simp [h]
theorem forceT_eq (t : T AV) (k : T AV → Hp) : forceT t k = k t := by cases t <;> rfl
theorem forceM_eq (t : T Blk) (nx : Pth) : forceM t nx = ⟨t, nx⟩ := by cases t <;> rfl
theorem newBlk_eq (h : Hp) (cells : T AV) (size stride : Nat) :
    newBlk h cells size stride = ⟨T.putP { cells, size, stride, root := none, ver := 0, tipv := 0, low := 0 } h.nx h.m, h.nx.inc⟩ := by
  unfold newBlk
  rw [forceT_eq, forceN_eq, forceM_eq]
theorem listLen_eq (l : List AV) : listLen l = l.length := by induction l <;> simp_all [listLen]
theorem listTake_eq : ∀ (l : List AV) (n : Nat), listTake l n = l.take n
  | [], n => by simp [listTake]
  | v :: r, 0 => rfl
  | v :: r, n + 1 => by
    show cnd (Nat.beq (n + 1) 0) [] (v :: listTake r n) = _
    rw [show Nat.beq (n + 1) 0 = false from rfl, listTake_eq r n]; rfl
theorem listDrop_eq : ∀ (l : List AV) (n : Nat), listDrop l n = l.drop n
  | [], n => by simp [listDrop]
  | v :: r, 0 => rfl
  | v :: r, n + 1 => by
    show cnd (Nat.beq (n + 1) 0) (v :: r) (listDrop r n) = _
    rw [show Nat.beq (n + 1) 0 = false from rfl, listDrop_eq r n]; rfl
theorem listGet_eq : ∀ (l : List AV) (n : Nat), listGet l n = l[n]?
  | [], n => by simp [listGet]
  | v :: r, 0 => rfl
  | v :: r, n + 1 => by
    show cnd (Nat.beq (n + 1) 0) (some v) (listGet r n) = _
    rw [show Nat.beq (n + 1) 0 = false from rfl, listGet_eq r n]; simp
end Go.Abs
