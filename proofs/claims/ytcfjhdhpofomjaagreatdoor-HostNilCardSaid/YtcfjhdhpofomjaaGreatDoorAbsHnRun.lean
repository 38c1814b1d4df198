/- 'HostNil': its run, where the calls of awake and Few have come to what they come to. -/
import Derived.Test.YtcfjhdhpofomjaaGreatDoorAbsHnOk
import Derived.Test.YtcfjhdhpofomjaaGreatDoorAbsG
import Derived.Test.YtcfjhdhpofomjaaGreatDoorAbsEnv
set_option linter.unusedSectionVars false
set_option linter.unusedSimpArgs false
set_option linter.unusedVariables false
set_option linter.constructorNameAsVariable false
namespace Go.Abs.Hn
open Go.Proofs Go.RowKit
theorem mixed : Tryz.prog.follows .mixedOrders = true := by kernel_rfl
theorem awakeG : comesTo true (G.callF tbl 100000 100 0 false noY 4 [] ⟨.e, .l .z⟩) = true := by kernel_rfl
noncomputable def tblL (b : Bool) (f : Nat) : Option AFn := cnd (Nat.beq f 4) (some (.fn (cB isNone true))) (cnd (Nat.beq f 5) (some (.fn (cB (isAggQ 9 0) b))) (tbl f))
theorem lawF : comesTo true (G.callF (tblL false) 100000 100 0 false noY 3 [.agg (qL 9 0), .q 9] ⟨.e, .l .z⟩) = true := by kernel_rfl
theorem lawT : comesTo true (G.callF (tblL true) 100000 100 0 false noY 3 [.agg (qL 9 0), .q 9] ⟨.e, .l .z⟩) = true := by kernel_rfl
end Go.Abs.Hn
