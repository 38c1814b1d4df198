/- Steps of the abstract machine, at temporaries and a heap of which only something is known. -/
import Derived.Test.YtcfjhdhpofomjaaGreatDoorAbsFn
set_option linter.unusedSectionVars false
set_option linter.unusedSimpArgs false
set_option linter.unusedVariables false
set_option linter.constructorNameAsVariable false
namespace Go.Abs
theorem withT_k (t : T AV) (h : Hp) (k : T AV → Hp → R) : withT t h k = k t h := by cases t <;> rfl
variable {call : Cl} {fuel : Nat} {tm : T AV} {h : Hp}
theorem evC_ops (l : List AOper) : evCode call fuel (.ops l) tm h = evOps call l tm h := rfl
theorem evC_seq (a b : ACode) : evCode call fuel (.seq a b) tm h = onGo (evCode call fuel a tm h) (evCode call fuel b) := rfl
theorem evC_cond (c : AX) (a b : ACode) : evCode call fuel (.cond c a b) tm h = onB (ax tm c) (evCode call fuel a tm h) (evCode call fuel b tm h) := rfl
theorem evC_block (i : Nat) (a : ACode) : evCode call fuel (.block i a) tm h = onExit i (evCode call fuel a tm h) := rfl
theorem evC_loop (a : ACode) : evCode call fuel (.loop a) tm h = loopN (evCode call fuel a) fuel tm h := rfl
theorem evC_exit (i : Nat) : evCode call fuel (.exit i) tm h = .exit i tm h := rfl
theorem evC_ret : evCode call fuel .ret tm h = .ret tm h := rfl
theorem evC_skip : evCode call fuel .skip tm h = .go tm h := rfl
theorem onGo_go (k : T AV → Hp → R) : onGo (.go tm h) k = k tm h := rfl
theorem onGo_ret (k : T AV → Hp → R) : onGo (.ret tm h) k = .ret tm h := rfl
theorem onGo_exit (i : Nat) (k : T AV → Hp → R) : onGo (.exit i tm h) k = .exit i tm h := rfl
theorem onExit_go (i : Nat) : onExit i (.go tm h) = .go tm h := rfl
theorem onExit_ret (i : Nat) : onExit i (.ret tm h) = .ret tm h := rfl
theorem onExit_exit (i j : Nat) : onExit i (.exit j tm h) = cnd (Nat.beq j i) (.go tm h) (.exit j tm h) := rfl
theorem onB_some (x : Bool) (a b : R) : onB (some (.b x)) a b = cnd x a b := rfl
theorem loopN_step (body : T AV → Hp → R) (f : Nat) : loopN body (f + 1) tm h = onGo (body tm h) (loopN body f) := rfl
theorem evOps_e : evOps call [] tm h = .go tm h := rfl
theorem evOps_o (d : Pth) (op : AOp) (l : List AOper) : evOps call (.o d op :: l) tm h = onR (evOp call op tm h) fun v h => evOps call l (T.putP v d tm) h := by
  show onR (evOp call op tm h) (fun v h => withT (T.putP v d tm) h (evOps call l)) = _
  congr 1; funext v h; rw [withT_k]
theorem evOps_g (d : Pth) (op : AOp) (g : Pth) (x : Bool) (l : List AOper) : evOps call (.g d op g x :: l) tm h = onO (wanted tm g x) .no fun w =>
    cnd w (onR (evOp call op tm h) fun v h => evOps call l (T.putP v d tm) h) (evOps call l (T.putP (.tup []) d tm) h) := by
  show onO (wanted tm g x) .no (fun w => cnd w (onR (evOp call op tm h) fun v h => withT (T.putP v d tm) h (evOps call l)) (withT (T.putP (.tup []) d tm) h (evOps call l))) = _
  congr 1; funext w; cases w
  · show withT _ _ _ = _; rw [withT_k]; rfl
  · show onR _ _ = onR _ _
    congr 1; funext v h; rw [withT_k]
theorem onR_ok (v : AV) (k : AV → Hp → R) : onR (.ok v h) k = k v h := rfl
theorem callN_opt {tbl : Nat → Option AFn} {n lv na f : Nat} {yl : YF} {args : List AV} {body : ACode} {res : List ARes} (e : tbl f = some (.opt na body res)) (hn : na ≤ args.length) :
    callN tbl fuel (n + 1) lv false yl f args h = fin res (evCode ⟨callN tbl fuel n, lv, yl⟩ fuel body (argsT args .z .e) h) := by
  show onO (tbl f) Rv.no _ = _
  rw [e]
  show cnd (Nat.ble na (listLen args)) _ _ = _
  rw [listLen_eq, Nat.ble_eq_true_of_le hn]; rfl
theorem bltT {a b : Nat} (k : a < b) : Nat.blt a b = true := Nat.ble_eq_true_of_le k
theorem bltF {a b : Nat} (k : ¬ a < b) : Nat.blt a b = false := by
  cases e : Nat.blt a b with
  | false => rfl
  | true => exact absurd (Nat.le_of_ble_eq_true e) k
end Go.Abs
