/- The card of PlaneLocked. -/
import Derived.Test.YtkbojechhmmkcaaGreatDoorCPlaneLockedB
import Derived.Test.YtkbojechhmmkcaaGreatDoorCPlaneLockedG
namespace Go.Proofs.YtkbojechhmmkcaaGreatDoor.cPlaneLocked
open Go Go.ChangeShapes Go.WideShapes Go.ChangeAt Go.RowKit
open Go.ChangeMaps (open_string)
theorem plain (f : FuncId) (fn : Func) (hf : Tryz.pinned.checked.prog.funcNamed "ferryslip/ferrysliplaw20.PlaneLocked" = some f) (hfn : Tryz.pinned.checked.prog.funcs[f]? = some fn) :
    true = Tryz.pinned.checked.prog.looks [] ∧ ∀ (j : Nat) t, fn.params[j]? = some t → Tryz.pinned.checked.prog.wantsStandIn t = false := by
  obtain rfl : f = 7 := Option.some.inj ((show Tryz.prog.funcNamed "ferryslip/ferrysliplaw20.PlaneLocked" = some 7 by kernel_rfl).symm.trans hf) |>.symm
  obtain rfl : fn = Tryz.f7 := (Option.some.inj (Tryz.func7.symm.trans hfn)).symm
  refine ⟨by kernel_rfl, fun j t ht => ?_⟩
  rw [Tryz.params7] at ht
  have hm : t ∈ [22, 22] := by simpa using Array.mem_of_getElem? ht
  have hall : ([22, 22].all fun u => !Tryz.prog.wantsStandIn u) = true := by kernel_rfl
  exact (show Tryz.prog.wantsStandIn t = false by simpa using List.all_eq_true.1 hall t hm)

theorem card : Rows.PlaneLockedCardSaid :=
  Claim7.holds_tied_plain_at .later [] _ _ _ _ said (fun _ h => by cases h) (by kernel_rfl) (fun _ h => by cases h) planeLocked_row_tie rfl ⟨rfl, rfl⟩ (by kernel_rfl) rfl plain goes
end Go.Proofs.YtkbojechhmmkcaaGreatDoor.cPlaneLocked
