/- Walks: castellanlaw22.known, long at one step, MachineOfNothing. -/
import Derived.Test.YtbngkdgmmknfjaaGreatDoorMN
import Derived.Test.YtbngkdgmmknfjaaGreatDoorVY
set_option maxRecDepth 20000
namespace Go.Proofs.YtbngkdgmmknfjaaGreatDoor
open Go Go.VM
variable {X : Gx}
def mac0 : List V := [.sc (.pointer none), i64 0, i64 0, i64 0, i64 0, i64 0, i64 0, i64 0, i64 0, i64 0, i64 0, i64 0, i64 0, i64 0, i64 0, i64 0, i64 0, i64 0]
def tick : Stp := ⟨6, [], 0, ⟨0, 0⟩, 0, 0, 0, 0, []⟩
theorem S_machine_New : CallOK X Tryz.prog 14 [] ⟨0, []⟩ (.ptr 0 0 0) ⟨1, [(0, .rows 18 [mac0] false)]⟩ := by
  refine call_of Tryz.func14 rfl (Nat.le_of_ble_eq_true rfl) ?_
  refine c_seq ?_
  -- region 0
  refine c_region rfl ?_
  refine rn rfl rfl (s_as rfl rfl) ?_
  refine rend ?_
  refine c_seq ?_
  -- region 1
  refine c_region rfl ?_
  refine rn rfl rfl (s_build rfl Tryz.zeroValue49 Tryz.runUnderlying49 (.cons Tryz.sizeOf41 (.cons Tryz.sizeOf3 (.cons Tryz.sizeOf47 .nil))) rfl rfl) ?_
  refine rn rfl rfl (s_box rfl rfl rfl) ?_
  refine rn rfl rfl (s_as rfl rfl) ?_
  refine rend ?_
  exact c_ret ⟨res_1 rfl (one_tmp rfl), ⟨hs_cons rfl hs_nil, Nat.le_of_ble_eq_true rfl⟩⟩
theorem S_Do_tick : CallOK X Tryz.prog 5 [.ptr 0 0 0, .agg [i64 6, st [], i64 0, u32 0, i64 0, i64 0, u32 0, i64 0, i64 0, .sc (.slice none 0 0)]] ⟨1, [(0, .rows 18 [mac0] false)]⟩ (.agg [i64 7, i64 0, .sc (.slice none 0 0)]) ⟨1, [(0, .rows 18 [mac0] false)]⟩ := by
  refine call_of_keep Tryz.func5 rfl (Nat.le_of_ble_eq_true rfl) (Low.agg (tr_low (tr_cons (Pure.sc _) (tr_cons (Pure.sc _) (tr_cons (Pure.sc _) tr_nil))))) (hlow_cons rfl (blow_one (tr_low (by repeat (first | exact tr_nil | refine tr_cons (Pure.sc _) ?_)))) hlow_nil) 3 ?_
  refine c_seq ?_
  -- region 0
  refine c_region rfl ?_
  refine rn rfl rfl (s_box rfl rfl rfl) ?_
  refine rn rfl rfl (s_alloc rfl Tryz.zeroValue36) ?_
  refine rend ?_
  refine c_seq ?_
  refine c_block ?_
  refine c_seq ?_
  -- region 1
  refine c_region rfl ?_
  refine rn rfl rfl (s_mv rfl rfl) ?_
  refine rn rfl rfl (s_nilp rfl Tryz.runUnderlying32 (.inl rfl) rfl rfl) ?_
  refine rn rfl rfl (s_as rfl rfl) ?_
  refine rend ?_
  refine c_false rfl rfl ?_
  refine c_seq ?_
  -- region 3
  refine c_region rfl ?_
  refine rn rfl rfl (s_fa 0 rfl Tryz.runUnderlying29 rfl Tryz.sizeOf3 rfl rfl rfl) ?_
  refine rn rfl rfl (s_ld rfl Tryz.isAgg3 Tryz.sizeOf3 rfl rfl rfl rfl) ?_
  refine rn rfl rfl (s_bin rfl rfl rfl rfl) ?_
  refine rn rfl rfl (s_as rfl rfl) ?_
  refine rend ?_
  refine c_false rfl rfl ?_
  refine c_seq ?_
  -- region 5
  refine c_region rfl ?_
  refine rn rfl rfl (s_mv rfl rfl) ?_
  refine rn rfl rfl (s_nilc rfl rfl rfl) ?_
  refine rn rfl rfl (s_fa 0 rfl Tryz.runUnderlying49 rfl Tryz.sizeOf41 rfl rfl rfl) ?_
  refine rn rfl rfl (s_ld rfl Tryz.isAgg41 Tryz.sizeOf41 rfl rfl rfl rfl) ?_
  refine rn rfl rfl (s_nilz rfl Tryz.runUnderlying41 (.inl rfl) rfl) ?_
  refine rn rfl rfl (s_as rfl rfl) ?_
  refine rend ?_
  refine c_true rfl rfl ?_
  refine c_seq ?_
  -- region 6
  refine c_region rfl ?_
  refine rn rfl rfl (s_build rfl Tryz.zeroValue36 Tryz.runUnderlying36 (.cons Tryz.sizeOf33 (.cons Tryz.sizeOf3 (.cons Tryz.sizeOf34 .nil))) rfl rfl) ?_
  refine rn0 rfl rfl (s_st rfl Tryz.sizeOf36 rfl rfl rfl rfl rfl (Nat.le_of_ble_eq_true rfl) rfl rfl) ?_
  refine rend ?_
  refine c_ret ⟨res_1 rfl ?_, ⟨hs_cons rfl hs_nil, Nat.le_of_ble_eq_true rfl⟩⟩
  exact one_cell_res (l := 2) (i := 0) (j := 0) rfl Tryz.isAgg36 Tryz.sizeOf36 rfl rfl rfl
end Go.Proofs.YtbngkdgmmknfjaaGreatDoor

