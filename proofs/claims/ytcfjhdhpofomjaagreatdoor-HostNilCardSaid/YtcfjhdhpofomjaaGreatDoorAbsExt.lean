/- Functions that the model stands in for. -/
import Derived.Test.YtcfjhdhpofomjaaGreatDoorAbsTop
import Derived.Lib.Bytealg
set_option linter.unusedSectionVars false
set_option linter.unusedSimpArgs false
set_option linter.unusedVariables false
set_option linter.constructorNameAsVariable false
namespace Go.Abs
variable [Env] [Fr]
open Go.RowKit

theorem countS_eq (c : Nat) : ∀ (l : List UInt8) (acc : Nat), countS l.length (strN l) c acc = acc + (l.filter fun x => x.toNat == c).length
  | [], acc => by simp [countS]
  | x :: r, acc => by
    have hx := x.toNat_lt
    have h1 : Nat.mod (strN (x :: r)) 256 = x.toNat := by
      show (x.toNat + 256 * strN r) % 256 = x.toNat
      omega
    have h2 : Nat.div (strN (x :: r)) 256 = strN r := by
      show (x.toNat + 256 * strN r) / 256 = strN r
      omega
    simp only [List.length_cons, countS, h1, h2]
    rw [countS_eq c r, countS_eq c r, List.filter_cons]
    cases h : Nat.beq x.toNat c with
    | true => rw [cnd_true, if_pos (by simpa [Nat.beq_eq_true_eq] using h), List.length_cons]; omega
    | false =>
      rw [cnd_false, if_neg]
      intro e
      have : x.toNat = c := by simpa using e
      rw [this, Nat.beq_refl] at h
      cases h
theorem findS_eq (c : Nat) : ∀ (l : List UInt8) (i : Nat), (match findS l.length (strN l) c i with | some k => ((k : Nat) : Int) | none => -1) = (match l.findIdx? fun x => x.toNat == c with | some k => ((k + i : Nat) : Int) | none => -1)
  | [], i => by simp [findS]
  | x :: r, i => by
    have hx := x.toNat_lt
    have h1 : Nat.mod (strN (x :: r)) 256 = x.toNat := by
      show (x.toNat + 256 * strN r) % 256 = x.toNat
      omega
    have h2 : Nat.div (strN (x :: r)) 256 = strN r := by
      show (x.toNat + 256 * strN r) / 256 = strN r
      omega
    simp only [List.length_cons, findS, h1, h2]
    rw [List.findIdx?_cons]
    cases h : Nat.beq x.toNat c with
    | true => rw [cnd_true, if_pos (by simpa [Nat.beq_eq_true_eq] using h)]; simp
    | false =>
      rw [cnd_false, if_neg (by
        intro e
        have : x.toNat = c := by simpa using e
        rw [this, Nat.beq_refl] at h
        cases h), findS_eq c r]
      cases List.findIdx? (fun x => x.toNat == c) r with
      | none => rfl
      | some k => show ((k + (i + 1) : Nat) : Int) = ((k + 1 + i : Nat) : Int); omega
theorem indexByte_idx (c : UInt8) : ∀ l : List UInt8, Lib.indexByte l c = (match l.findIdx? fun x => x.toNat == c.toNat with | some k => ((k : Nat) : Int) | none => -1)
  | [] => rfl
  | x :: r => by
    unfold Lib.indexByte
    rw [List.findIdx?_cons]
    have hxc : (x == c) = (x.toNat == c.toNat) := by
      rw [Bool.eq_iff_iff]
      simp [UInt8.toNat_inj]
    rw [hxc, indexByte_idx c r]
    cases h : (x.toNat == c.toNat) with
    | true => simp
    | false =>
      simp only [Bool.false_eq_true, if_false]
      cases List.findIdx? (fun x => x.toNat == c.toNat) r with
      | none => rfl
      | some k =>
        have : ((((k : Nat) : Int)) == -1) = false := by rw [beq_eq_false_iff_ne]; omega
        simp [this]

section
variable {P : Program} {N : Nat} {w0 : World} {f : Nat} {F : Func}
theorem ok_countStr (hF : P.funcs[f]? = some F) (hname : (F.name == "runtime.NumGoroutine") = false) (hb : F.body.isNone = true) (hn : Extern.findNext F = none) (he : Extern.find F = some Extern.BytealgCount.count) : FnOK P N w0 f (.ext .countStr) := by
  intro φ h h' v w args args' e hr H
  unfold evExt at e
  simp only at e
  split at e
  · rename_i l n c
    cases hr with
    | cons hs t => cases t with
      | cons hc t => cases t with
        | nil =>
          cases hs with
          | s ls =>
            cases hc
            cases h8 : Nat.ble c 255 with
            | false => rw [h8, cnd_false] at e; cases e
            | true =>
              rw [h8, cnd_true, forceN_eq] at e
              cases e
              have hc8 : c < 256 := by have := Nat.le_of_ble_eq_true h8; omega
              refine ⟨_, w, φ, ?_, .inl ⟨_, rfl, .i _ _⟩, Ext.refl φ, H, Keep.refl φ h⟩
              have hx := run_callFunc_extern hF hname hb hn he #[.string ⟨ls.toArray⟩, .int .u8 (Int.ofNat c)] w
              rw [Lib.run_countString] at hx
              rw [countS_eq]
              refine hx.trans ?_
              simp only [Result.andThen_ok]
              congr 3
              unfold Lib.countByte
              rw [List.count_eq_length_filter]
              simp only [Nat.zero_add]
              refine congrArg (fun p => ((List.filter p ls).length : Int)) (funext fun x => ?_)
              rw [Bool.eq_iff_iff]
              have : (Int.ofNat c).toNat.toUInt8.toNat = c := by simp; omega
              simp only [beq_iff_eq]
              rw [← UInt8.toNat_inj, this]
  · cases e
theorem ok_indexByteStr (hF : P.funcs[f]? = some F) (hname : (F.name == "runtime.NumGoroutine") = false) (hb : F.body.isNone = true) (hn : Extern.findNext F = none) (he : Extern.find F = some Extern.BytealgIndexByte.indexByte) : FnOK P N w0 f (.ext .indexByteStr) := by
  intro φ h h' v w args args' e hr H
  unfold evExt at e
  simp only at e
  split at e
  · rename_i l n c
    cases hr with
    | cons hs t => cases t with
      | cons hc t => cases t with
        | nil =>
          cases hs with
          | s ls =>
            cases hc
            cases h8 : Nat.ble c 255 with
            | false => rw [h8, cnd_false] at e; cases e
            | true =>
              rw [h8, cnd_true] at e
              have hc8 : c < 256 := by have := Nat.le_of_ble_eq_true h8; omega
              have hcc : (Int.ofNat c).toNat.toUInt8.toNat = c := by simp; omega
              have hx := run_callFunc_extern hF hname hb hn he #[.string ⟨ls.toArray⟩, .int .u8 (Int.ofNat c)] w
              rw [Lib.run_indexByteString, indexByte_idx, hcc] at hx
              have hfs := findS_eq c ls 0
              simp only [Nat.add_zero] at hfs
              have hv : v = .i .i64 (match ls.findIdx? fun x => x.toNat == c with | some k => ((k : Nat) : Int) | none => -1) ∧ h' = h := by
                rw [← hfs]
                split at e
                · rename_i i hi; rw [forceN_eq] at e; cases e; rw [hi]; exact ⟨rfl, rfl⟩
                · rename_i hi; cases e; rw [hi]; exact ⟨rfl, rfl⟩
              obtain ⟨rfl, rfl⟩ := hv
              exact ⟨_, w, φ, hx, .inl ⟨_, rfl, .i _ _⟩, Ext.refl φ, H, Keep.refl φ h'⟩
  · cases e

/-- A function with code: what was compiled is what the program has. -/
theorem ok_code {nt : Nat} {body : ACode} {res : List ARes} (hF : P.funcs[f]? = some F) (hname : (F.name == "runtime.NumGoroutine") = false) (hc : comp P F = some (.code nt body res)) : FnOK P N w0 f (.code nt body res) := by
  unfold comp at hc
  split at hc
  · rename_i c hb
    simp only [Option.bind_eq_bind, Option.bind_eq_some_iff, Option.some.injEq, AFn.code.injEq] at hc
    obtain ⟨b', h1, r', h2, h3, h4, h5⟩ := hc
    subst h3 h4 h5
    exact ⟨F, c, hF, hb, hname, rfl, h1, h2⟩
  · cases hc
end

/-- Whatever a trie holds. -/
def AllP (Q : Nat → AFn → Prop) : T AFn → (Nat → Nat) → Prop
  | .e, _ => True
  | .n l v r, g => AllP Q l (fun k => g (2 * k + 1)) ∧ (∀ x, v = some x → Q (g 0) x) ∧ AllP Q r (fun k => g (2 * k + 2))
theorem AllP.get {Q : Nat → AFn → Prop} : ∀ {t : T AFn} {g : Nat → Nat}, AllP Q t g → ∀ {i : Nat} {x : AFn}, T.get t i = some x → Q (g i) x
  | .e, g, _, i, x, e => by cases e
  | .n l v r, g, ⟨h1, h2, h3⟩, i, x, e => by
    have e : (Bool.rec (motive := fun _ => Option AFn) (Bool.rec (motive := fun _ => Option AFn) (T.get r (Nat.pred (Nat.div i 2))) (T.get l (Nat.div i 2)) (Nat.beq (Nat.mod i 2) 1)) v (Nat.beq i 0)) = some x := e
    cases h : Nat.beq i 0 with
    | true =>
      rw [h] at e
      have h0 : i = 0 := Nat.eq_of_beq_eq_true h
      subst h0
      exact h2 x e
    | false =>
      rw [h] at e
      have h0 : i ≠ 0 := fun h' => by subst h'; cases h
      cases hb : Nat.beq (Nat.mod i 2) 1 with
      | true =>
        rw [hb] at e
        have hm : i % 2 = 1 := Nat.eq_of_beq_eq_true hb
        have hq := h1.get (i := i / 2) e
        have hi : 2 * (i / 2) + 1 = i := by omega
        simp only [hi] at hq
        exact hq
      | false =>
        rw [hb] at e
        have hm : i % 2 ≠ 1 := fun h' => by have : Nat.beq (i % 2) 1 = true := by rw [h']; rfl
                                            rw [show Nat.mod i 2 = i % 2 from rfl] at hb; rw [hb] at this; cases this
        have hq := h3.get (i := Nat.pred (i / 2)) e
        have hi : 2 * (Nat.pred (i / 2)) + 2 = i := by rw [Nat.pred_eq_sub_one]; omega
        simp only [hi] at hq
        exact hq
theorem tbl_all {P : Program} {N : Nat} {w0 : World} {t : T AFn} (h : ∀ [Fr], AllP (FnOK P N w0) t id) : TblOK P N w0 (T.get t) := fun _ _ e => h.get e
end Go.Abs
