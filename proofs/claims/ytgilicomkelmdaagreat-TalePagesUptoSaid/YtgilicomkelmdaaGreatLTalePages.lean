/- The statement TalePagesUptoSaid is proved: whatever comes in (of bulk at most 1048576), the law answers true. No condition but that bulk. -/
import Derived.Test.YtgilicomkelmdaaGreatRows
import Derived.WalkKit
import Derived.ProofKit
import Derived.OpenShut
import Derived.Below
import Derived.JoinedCond
import Derived.Deep.DeepHandedRow
import Derived.Deep.DeepWitnessRowRef
import Derived.Lib.LaidTab
import Derived.Test.YtgilicomkelmdaaGreatXSp4
import Derived.Test.YtgilicomkelmdaaGreatLTalePages1
set_option linter.all false
namespace Go.Proofs.YtgilicomkelmdaaGreat.talePages
open Go.ChangeShapes Go.WideShapes Go.ChangeAt Go.RowKit Go.Av
theorem over:Rows.TalePagesUptoSaid:=
 OpenClaim.holds_of_cond 4 Tryz.f4 rfl rfl rfl rfl rfl rfl rfl ⟨rfl,rfl,rfl,rfl,rfl⟩ rfl rfl rfl rfl rfl (by kernel_rfl) Tryz.func4 closed
  (of_decide_eq_true (by kernel_rfl)) (by unfold Func.isWrapper;first|(rw[if_pos (by decide+kernel)];kernel_rfl)|(rw[if_neg (by decide+kernel)];exact⟨rfl,rfl⟩))
  (fun os started H enc _ F=>by rw[OpenClaim.pre_eq_preRow];exact lifted os started H enc F)
theorem proved:Rows.TalePagesUptoSaid:=over
#print axioms proved
end Go.Proofs.YtgilicomkelmdaaGreat.talePages
