/- 'HostNil' returns true, whatever it is given; what it is given reads as it did. No condition. -/
import Derived.Test.YtcfjhdhpofomjaaGreatDoorAbsHnLaw
set_option linter.unusedSectionVars false
set_option linter.unusedSimpArgs false
set_option linter.unusedVariables false
set_option linter.constructorNameAsVariable false
namespace Go.Proofs.YtcfjhdhpofomjaaGreatDoor
open Go.ChangeShapes Go.WideShapes Go.ChangeAt Go.RowKit
set_option maxRecDepth 100000
theorem own : ownKnob Tryz.prog.godebug = none := by kernel_rfl
theorem laidOut : laidOutB Tryz.prog = true := by kernel_rfl
noncomputable def zeros : Array Value := Tryz.f3.params.map fun t => ((Tryz.prog.info? t).bind (·.zero)).getD undef
theorem lifted (walk : Go.Abs.LawWalk Tryz.checked 3 Tryz.f3 fun w _ => laidMetH Tryz.prog Rows.hostNilRow.laid w) (os : Os) (started : os.Started) (H : Type) (enc : TypeId × Value → H) :
    ReturnsInHanded {} Tryz.checked os 3 .any (fun w args => (Rows.hostNilSpec.pre enc Tryz.prog Tryz.f3 Rows.hostNilRow.domain false w args ∧ laidMetH Tryz.prog Rows.hostNilRow.laid w) ∧ sizedMet enc Tryz.prog Tryz.f3 (OpenSpec.ofChange Rows.hostNilSpec) false w args)
      (Rows.hostNilSpec.post enc Tryz.prog Tryz.f3 false true false false) := by
  refine returnsInHanded_of_change_and (C := Tryz.checked) (X := fun w _ => laidMetH Tryz.prog Rows.hostNilRow.laid w) (fun _ _ _ hh h => h.of_heap hh) own started (by kernel_rfl) Tryz.func3
    (ChangeSpec.witness_shaped (enc := enc) (C := Tryz.checked) (os := os) (X := fun w _ => laidMetH Tryz.prog Rows.hostNilRow.laid w) false (World.laidAll Tryz.prog os Rows.hostNilRow.laid) zeros 8 (World.laidAll_os _ _ _)
      (World.shaped_of_ZipB (by kernel_rfl) (by kernel_rfl)) (by kernel_rfl) (by kernel_rfl) (by kernel_rfl)
      (by rw [MakeChecks.laidMetH_plain _ _ _ (by kernel_rfl)]; exact laidMet_laidAll _ (by kernel_rfl) (by kernel_rfl))) ?_
  intro W base args ds gs before hval hW hc hsz hL _
  have hW' := hW
  obtain ⟨p, q, hA, hV, hpq, hfz, _⟩ := hW
  obtain ⟨hg, hq⟩ := trodVars_none hV
  subst hg hq
  rw [List.append_nil] at hpq
  subst hpq
  have hsz' : (DataW.weightsEach Tryz.checked.prog (Tryz.f3.params.toList ++ []) (ds ++ [])).all (· ≤ reachBytes) = true := hsz
  rw [List.append_nil, List.append_nil] at hsz'
  refine (walk H enc W base args ds before hval hA hfz hsz' hL).mono fun e W' ⟨he, hb⟩ => ⟨_, he, ?_⟩
  refine Go.Abs.law_post laidOut rfl ?_ (rt := Tryz.f3.resultTypes.getD 0 0) (by kernel_rfl) (by kernel_rfl) ?_ hW' hb
  · intro ds hds
    have h2 : ds.length = 2 := hds
    match ds, h2 with
    | [d1, d2], _ => rfl
  · have hall : (Tryz.f3.params.toList.all fun t => Tryz.prog.readableRec t && decide (t < Tryz.prog.types.size)) = true := by kernel_rfl
    intro t ht
    have h2 := List.all_eq_true.1 hall t ht
    rw [Bool.and_eq_true] at h2
    exact ⟨h2.1, of_decide_eq_true h2.2⟩
theorem row_holds (walk : Go.Abs.LawWalk Tryz.checked 3 Tryz.f3 fun w _ => laidMetH Tryz.prog Rows.hostNilRow.laid w) : Rows.HostNilSaid :=
  OpenClaim.holds_of_wide 3 Tryz.f3 rfl rfl rfl rfl rfl rfl rfl ⟨rfl, rfl, rfl, rfl, rfl⟩ rfl rfl rfl rfl rfl (by kernel_rfl) Tryz.func3 (by kernel_rfl)
    (of_decide_eq_true (by kernel_rfl)) (by unfold Func.isWrapper; first | (rw [if_pos (by decide +kernel)]; kernel_rfl) | (rw [if_neg (by decide +kernel)]; exact ⟨rfl, rfl⟩))
    (fun os started H enc _ => lifted walk os started H enc)
theorem card_holds (walk : Go.Abs.LawWalk Tryz.checked 3 Tryz.f3 fun w _ => laidMetH Tryz.prog Rows.hostNilRow.laid w) : Rows.HostNilCardSaid :=
  Claim7.holds_tied_plain_at .later [] [.data, .pinned] true (true, "5deab994b82d1cdd6d18804319f477938eaee220974a4423c7ded0be26c8a662") false (row_holds walk) (fun _ h => by cases h) (by kernel_rfl) (fun _ h => by cases h) hostNil_row_tie rfl ⟨rfl, rfl⟩ (by kernel_rfl) rfl
    (fun f fn hf hfn => by
      obtain rfl : f = 3 := Option.some.inj ((show Tryz.prog.funcNamed "farandole/farandolelaw55.HostNil" = some 3 by kernel_rfl).symm.trans hf) |>.symm
      obtain rfl : fn = Tryz.f3 := (Option.some.inj (Tryz.func3.symm.trans hfn)).symm
      exact ⟨by kernel_rfl, fun j t ht => by
        have hm : t ∈ Tryz.f3.params.toList := by simpa using Array.mem_of_getElem? ht
        have hall : (Tryz.f3.params.toList.all fun u => !Tryz.prog.wantsStandIn u) = true := by kernel_rfl
        exact (show Tryz.prog.wantsStandIn t = false by simpa using List.all_eq_true.1 hall t hm)⟩)
    (by kernel_rfl)
theorem hostNil_card_holds : Rows.HostNilCardSaid := card_holds Go.Abs.Hn.walk
#print axioms hostNil_card_holds
end Go.Proofs.YtcfjhdhpofomjaaGreatDoor
