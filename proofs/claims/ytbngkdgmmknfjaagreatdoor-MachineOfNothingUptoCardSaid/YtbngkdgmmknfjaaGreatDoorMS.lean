/- Proved here: castellanlaw22.MachineOfNothing returns true and leaves its argument as it was, whatever step it is handed. Conditions: those of the given second form (what is read is of bulk at most 1048576) and of the given card, no others. -/
import Derived.Test.YtbngkdgmmknfjaaGreatDoorMR
import Derived.Test.YtbngkdgmmknfjaaGreatDoorMQ
set_option maxRecDepth 20000
namespace Go.Proofs.YtbngkdgmmknfjaaGreatDoor
open Go Go.VM Go.ChangeShapes Go.WideShapes Go.ChangeAt Go.RowKit
theorem said : Rows.MachineOfNothingUptoSaid :=
  OpenClaim.holds_of_cond 3 Tryz.f3 rfl rfl rfl rfl rfl rfl rfl ⟨rfl, rfl, rfl, rfl, rfl⟩ rfl rfl rfl rfl rfl (by kernel_rfl) Tryz.func3 facts
    (of_decide_eq_true (by kernel_rfl)) (by unfold Func.isWrapper; first | (rw [if_pos (by decide +kernel)]; kernel_rfl) | (rw [if_neg (by decide +kernel)]; exact ⟨rfl, rfl⟩))
    (fun os started H enc _ F => by rw [OpenClaim.pre_eq_preRow]; exact lifted os started H enc F)
theorem plain (f : FuncId) (fn : Func) (hf : Tryz.pinned.checked.prog.funcNamed "castellan/castellanlaw22.MachineOfNothing" = some f) (hfn : Tryz.pinned.checked.prog.funcs[f]? = some fn) :
    true = Tryz.pinned.checked.prog.looks [] ∧ ∀ (j : Nat) t, fn.params[j]? = some t → Tryz.pinned.checked.prog.wantsStandIn t = false := by
  obtain rfl : f = 3 := Option.some.inj ((show Tryz.prog.funcNamed "castellan/castellanlaw22.MachineOfNothing" = some 3 by kernel_rfl).symm.trans hf) |>.symm
  obtain rfl : fn = Tryz.f3 := (Option.some.inj (Tryz.func3.symm.trans hfn)).symm
  refine ⟨by kernel_rfl, fun j t ht => ?_⟩
  rw [Tryz.params3] at ht
  obtain rfl : t = 29 := by simpa using Array.mem_of_getElem? ht
  exact (show Tryz.prog.wantsStandIn 29 = false by kernel_rfl)
/-- The card. -/
theorem card : Rows.MachineOfNothingUptoCardSaid :=
  Claim7.holds_tied_plain_at .later [] _ _ _ _ said (fun _ h => by cases h) (by kernel_rfl) (fun _ h => by cases h) machineOfNothingUpto_row_tie rfl ⟨rfl, rfl⟩ (by kernel_rfl) rfl plain (by kernel_rfl)
end Go.Proofs.YtbngkdgmmknfjaaGreatDoor

