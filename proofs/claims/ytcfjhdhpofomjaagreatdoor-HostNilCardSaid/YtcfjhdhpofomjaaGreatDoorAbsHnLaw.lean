/- 'HostNil' returns true, whatever it is given; what it is given reads as it did. No condition. -/
import Derived.Test.YtcfjhdhpofomjaaGreatDoorTie
import Derived.Test.YtcfjhdhpofomjaaGreatDoorCards
import Derived.Test.YtcfjhdhpofomjaaGreatDoorAbsHnFew
import Derived.Test.YtcfjhdhpofomjaaGreatDoorAbsHnRun
import Derived.Test.YtcfjhdhpofomjaaGreatDoorAbsLaw
import Derived.LaidMore
import Derived.Lay
import Derived.SevenTiedAt
import Derived.Stop.Joined
set_option linter.unusedSectionVars false
set_option linter.unusedSimpArgs false
set_option linter.unusedVariables false
set_option linter.constructorNameAsVariable false
namespace Go.Abs.Hn
open Go.Proofs Go.RowKit Go.ChangeShapes Go.WideShapes
set_option maxRecDepth 100000
theorem params3 : Tryz.f3.params.toList = [25, 3] := by kernel_rfl
theorem tyst : tyOK Tryz.prog st 25 = true := by kernel_rfl
theorem isStr : (match Tryz.prog.underlying 25 with | some (.struct _) => true | _ => false) = true := by kernel_rfl
theorem u25 : ∃ fs, Tryz.prog.underlying 25 = some (.struct fs) := by
  have h := isStr
  split at h
  · exact ⟨_, by assumption⟩
  · cases h
theorem isInt : (match Tryz.prog.underlying 3 with | some (.int k) => kindEq k .i64 | _ => false) = true := by kernel_rfl
theorem u3 : ∃ k, Tryz.prog.underlying 3 = some (.int k) := by
  have h := isInt
  split at h
  · exact ⟨_, by assumption⟩
  · cases h
theorem cells25 : Tryz.prog.cellsOf 25 = 9 := by kernel_rfl
@[reducible] noncomputable def env0 : Env := Env.of [] (fun _ h => by cases h)

theorem few (W : World) (hrow : ∃ (i : Nat) (arr : Array Value) (el : TypeId) (fz : Nat × Nat), W.heap[i]? = some (.cells arr el fz)) {H : Type} {enc : TypeId × Value → H} {arr : Array Value} {d : DataW H} {ps : List MemPlace}
    (hT : DataW.Trod enc Tryz.prog W 0 (fun _ => true) true 25 (.agg arr) d ps) :
    (∀ v ∈ arr.toList, v.oneCell' = true) ∧ ∃ b, ∀ w, Below W.heap.size W w → Calls Tryz.prog 5 #[.agg arr] w fun e w' => e = .returned (.bool b) ∧ Below w.heap.size w w' := by
  letI : Env := env0
  letI : Fr := ⟨Frm.top⟩
  obtain ⟨i, row, el, fz, hrow⟩ := hrow
  have H0 : HRel W.heap.size W Phi.none ⟨.e, .l .z⟩ W := HRel.start W (by simp)
  obtain ⟨φ1, h1, ⟨_, H1, _⟩, ha⟩ := H0.anchor (Array.getElem?_eq_some_iff.1 hrow).1 hrow
  obtain ⟨n, hn⟩ := hT
  obtain ⟨φ2, h2, l, ⟨_, H2, _⟩, hv, ht⟩ := reflect rfl n 25 st _ d ps hn tyst φ1 h1 H1 ha
  refine ⟨hv.one ht.ones, ?_⟩
  obtain ⟨fuel, b, h', e⟩ := few_run H2 ht
  refine ⟨b, fun w hb => ?_⟩
  have H3 := H2.later rfl hb
  exact (calls_of_callN rfl (tbl_ok (N := w.heap.size) (w0 := w)) mixed (enters_opt (tbl_ok (N := w.heap.size) (w0 := w)) tbl5) e (.cons (.agg hv) .nil) H3).mono fun e w' k => by
    obtain ⟨y, φ', he, hv, _, H, _⟩ := k
    cases hv
    exact ⟨he, H.below⟩
theorem awake [Env] (w : World) : Calls Tryz.prog 4 #[] w fun e w' => e = .returned (.bool true) ∧ Below w.heap.size w w' :=
  letI : Fr := ⟨Frm.top⟩
  closed_true tbl_ok mixed (enters_opt (tbl_ok (N := w.heap.size) (w0 := w)) (show tbl 4 = some a4 from rfl)) (by rw [← G.run]; exact awakeG)

theorem row_of_laid {P : Program} {w : World} {n : String} {d : DataW Unit} {r : List (String × DataW Unit)} (h : laidMet P ((n, d) :: r) w) : ∃ (i : Nat) (arr : Array Value) (el : TypeId) (fz : Nat × Nat), w.heap[i]? = some (.cells arr el fz) := by
  obtain ⟨ps, ⟨g, t, cs, fuel, p, q, h1, _, h2, _⟩, _⟩ := h
  unfold World.var? at h2
  rw [h1, Option.bind_some] at h2
  split at h2
  · exact ⟨_, _, _, _, by assumption⟩
  · cases h2
theorem walk : LawWalk Tryz.checked 3 Tryz.f3 fun w _ => laidMetH Tryz.prog YtcfjhdhpofomjaaGreatDoor.Rows.hostNilRow.laid w := by
  intro H enc W base args ds p hok hT hfz hsz hL
  rw [MakeChecks.laidMetH_plain _ _ _ (by kernel_rfl)] at hL
  have hrow := row_of_laid hL
  have hT : DataW.TrodAll enc Tryz.prog W 0 (fun _ => true) true Tryz.f3.params.toList args.toList ds p := hT
  rw [params3] at hT
  obtain ⟨args⟩ := args
  have hl : args.length = 2 := (trodAll_length hT).1
  match args, hl with
  | [v0, v1], _ =>
  have ok0 : Value.okWide Tryz.prog W .any base 25 v0 := hok 0 25 v0 (by rw [← Array.getElem?_toList, params3]; rfl) rfl
  have ok1 : Value.okWide Tryz.prog W .any base 3 v1 := hok 1 3 v1 (by rw [← Array.getElem?_toList, params3]; rfl) rfl
  obtain ⟨fs, hu⟩ := u25
  obtain ⟨arr, rfl, hsz9⟩ := okWide_struct hu ok0
  obtain ⟨k, hk⟩ := u3
  obtain ⟨n, rfl⟩ := okWide_int hk ok1
  match ds, hT with
  | d0 :: ds, hT =>
  obtain ⟨p1, q1, hT0, _, _⟩ := hT
  obtain ⟨h1, b, hb⟩ := few W hrow hT0
  have h9 : arr.toList.length = 9 := by rw [Array.length_toList, hsz9, cells25]
  have hones : ∀ v ∈ arr.toList ++ [Value.int k n], v.oneCell' = true := by
    intro v hv
    rcases List.mem_append.1 hv with hv | hv
    · exact h1 v hv
    · rw [List.mem_singleton.1 hv]; rfl
  letI : Env := Env.of (arr.toList ++ [Value.int k n]) hones
  have hvals : arr.toList = (List.range' 0 9).map Env.val := by
    have := range_vals arr.toList [] [Value.int k n]
    rw [h9] at this
    exact this.symm
  have hv9 : Env.val 9 = Value.int k n := by
    show ((arr.toList ++ [Value.int k n])[9]?).getD _ = _
    rw [List.getElem?_append_right (by omega), h9]; rfl
  have htbl : TblOK Tryz.prog W.heap.size W (tblL b) := by
    intro _ f fn e
    unfold tblL at e
    cases e4 : Nat.beq f 4 with
    | true =>
      rw [e4, cnd_true] at e
      cases e
      obtain rfl := Nat.eq_of_beq_eq_true e4
      exact ok_fnB (enters_opt (tbl_ok (N := W.heap.size) (w0 := W)) (show tbl 4 = some a4 from rfl)) fun φ w args args' ea hr hbel _ => by
        rw [isNone_rel ea hr]; exact awake w
    | false =>
      rw [e4, cnd_false] at e
      cases e5 : Nat.beq f 5 with
      | true =>
        rw [e5, cnd_true] at e
        cases e
        obtain rfl := Nat.eq_of_beq_eq_true e5
        exact ok_fnB (enters_opt (tbl_ok (N := W.heap.size) (w0 := W)) tbl5) fun φ w args args' ea hr hbel _ => by
          rw [isAggQ_rel ea hr, ← hvals]; exact hb w hbel
      | false =>
        rw [e5, cnd_false] at e
        exact tbl_ok f fn e
  letI : Fr := ⟨Frm.top⟩
  have hrun : comesTo true (callN (tblL b) 100000 100 0 false noY 3 [.agg (qL 9 0), .q 9] ⟨.e, .l .z⟩) = true := by
    rw [← G.run]
    cases b
    · exact lawF
    · exact lawT
  obtain ⟨h', e⟩ := comesTo_ok hrun
  have hargs : VRels Phi.none [.agg (qL 9 0), .q 9] [.agg arr, Value.int k n] := by
    refine .cons (.agg (l' := arr.toList) (qL_rel.2 hvals)) (.cons ?_ .nil)
    rw [← hv9]; exact .q 9
  exact (calls_of_callN (N := W.heap.size) (w0 := W) rfl htbl mixed (enters_opt (tbl_ok (N := W.heap.size) (w0 := W)) (show tbl 3 = some a3 from rfl)) e hargs (HRel.start W (by simp))).mono fun e w' k => by
    obtain ⟨y, φ', he, hv, _, H, _⟩ := k
    cases hv
    exact ⟨he, H.below⟩
end Go.Abs.Hn
