/- Walks: a nil Machine. -/
import Derived.Test.YtbngkdgmmknfjaaGreatDoorVM1
import Derived.Test.YtbngkdgmmknfjaaGreatDoorProg
import Derived.KernelRfl
set_option maxRecDepth 20000
namespace Go.Proofs.YtbngkdgmmknfjaaGreatDoor
open Go Go.VM
variable {X : Gx}
theorem mixed : Tryz.prog.follows .mixedOrders = true := by kernel_rfl
theorem S_machine_Machine_Now : PureOK X Tryz.prog 7 [.sc (.pointer none)] (i64 0) := by
  refine pure_of Tryz.func7 rfl (Nat.le_of_ble_eq_true rfl) (tr_cons (Pure.sc _) tr_nil) (Pure.sc _) ?_
  refine c_seq ?_
  -- region 0
  refine c_region rfl ?_
  refine rn rfl rfl (s_as rfl rfl) ?_
  refine rend ?_
  refine c_seq ?_
  refine c_seq ?_
  -- region 1
  refine c_region rfl ?_
  refine rn rfl rfl (s_mv rfl rfl) ?_
  refine rn rfl rfl (s_nilz rfl Tryz.runUnderlying32 (.inl rfl) rfl) ?_
  refine rend ?_
  refine c_true rfl rfl ?_
  refine c_seq ?_
  -- region 2
  refine c_region rfl ?_
  refine rn rfl rfl (s_as rfl rfl) ?_
  refine rend ?_
  exact c_ret (res_1 rfl (one_tmp rfl))
theorem S_machine_Machine_Gate : PureOK X Tryz.prog 8 [.sc (.pointer none)] (.sc (.pointer none)) := by
  refine pure_of Tryz.func8 rfl (Nat.le_of_ble_eq_true rfl) (tr_cons (Pure.sc _) tr_nil) (Pure.sc _) ?_
  refine c_seq ?_
  -- region 0
  refine c_region rfl ?_
  refine rn rfl rfl (s_as rfl rfl) ?_
  refine rend ?_
  refine c_seq ?_
  refine c_seq ?_
  -- region 1
  refine c_region rfl ?_
  refine rn rfl rfl (s_mv rfl rfl) ?_
  refine rn rfl rfl (s_nilz rfl Tryz.runUnderlying32 (.inl rfl) rfl) ?_
  refine rend ?_
  refine c_true rfl rfl ?_
  refine c_seq ?_
  -- region 2
  refine c_region rfl ?_
  refine rn rfl rfl (s_as rfl rfl) ?_
  refine rend ?_
  exact c_ret (res_1 rfl (one_tmp rfl))
theorem S_machine_Machine_Count (n : Int) : PureOK X Tryz.prog 9 [.sc (.pointer none), i64 n] (i64 0) := by
  refine pure_of Tryz.func9 rfl (Nat.le_of_ble_eq_true rfl) (tr_cons (Pure.sc _) (tr_cons (Pure.sc _) tr_nil)) (Pure.sc _) ?_
  refine c_seq ?_
  -- region 0
  refine c_region rfl ?_
  refine rn rfl rfl (s_as rfl rfl) ?_
  refine rend ?_
  refine c_seq ?_
  refine c_seq ?_
  -- region 1
  refine c_region rfl ?_
  refine rn rfl rfl (s_mv rfl rfl) ?_
  refine rn rfl rfl (s_nilz rfl Tryz.runUnderlying32 (.inl rfl) rfl) ?_
  refine rn rfl rfl (s_mv rfl rfl) ?_
  refine' r_or (j := 2) (dj := 7) 2 rfl rfl rfl rfl rfl rfl rfl rfl rfl (fun h1 => ?s1) ?l1 ?k1
  case s1 =>
    refine ron rfl rfl rfl h1 (s_mv rfl rfl) ?_
    refine ron rfl rfl rfl h1 (s_bin rfl rfl rfl rfl) ?_
    exact rend ⟨⟨rfl, rfl, by repeat (first | exact Sub.refl _ | refine sub_push rfl ?_)⟩, rfl, rfl⟩
  case l1 => exact ⟨rfl, rfl⟩
  refine rn rfl rfl (s_mv rfl rfl) ?_
  refine' r_or (j := 6) (dj := 11) 2 rfl rfl rfl rfl rfl rfl rfl rfl rfl (fun h2 => ?s2) ?l2 ?k2
  case s2 =>
    refine ron rfl rfl rfl h2 (s_mv rfl rfl) ?_
    refine ron rfl rfl rfl h2 (s_bin rfl rfl rfl rfl) ?_
    exact rend ⟨⟨rfl, rfl, by repeat (first | exact Sub.refl _ | refine sub_push rfl ?_)⟩, rfl, rfl⟩
  case l2 => exact ⟨rfl, rfl⟩
  refine rend ?_
  refine c_true rfl rfl ?_
  refine c_seq ?_
  -- region 2
  refine c_region rfl ?_
  refine rn rfl rfl (s_as rfl rfl) ?_
  refine rend ?_
  exact c_ret (res_1 rfl (one_tmp rfl))
theorem S_machine_Machine_Run (l : List Stp) : PureOK X Tryz.prog 6 [.sc (.pointer none), .lst 10 true (l.map Stp.row)] (.sc (.slice none 0 0)) := by
  refine pure_of Tryz.func6 rfl (Nat.le_of_ble_eq_true rfl) (tr_cons (Pure.sc _) (tr_cons (tr_lst tr_stp) tr_nil)) (Pure.sc _) ?_
  refine c_seq ?_
  -- region 0
  refine c_region rfl ?_
  refine rn rfl rfl (s_as rfl rfl) ?_
  refine rend ?_
  refine c_seq ?_
  refine c_seq ?_
  -- region 1
  refine c_region rfl ?_
  refine rn rfl rfl (s_mv rfl rfl) ?_
  refine rn rfl rfl (s_nilz rfl Tryz.runUnderlying32 (.inl rfl) rfl) ?_
  refine rend ?_
  refine c_true rfl rfl ?_
  refine c_seq ?_
  -- region 2
  refine c_region rfl ?_
  refine rn rfl rfl (s_as rfl rfl) ?_
  refine rend ?_
  exact c_ret (res_1 rfl (one_tmp rfl))
theorem S_machine_Machine_Do (s : Stp) : PureOK X Tryz.prog 5 [.sc (.pointer none), s.v] (.agg [i64 1, i64 0, .sc (.slice none 0 0)]) := by
  refine pure_of Tryz.func5 rfl (Nat.le_of_ble_eq_true rfl) (tr_cons (Pure.sc _) (tr_cons (tr_agg (tr_stp s)) tr_nil)) (tr_agg (tr_cons (Pure.sc _) (tr_cons (Pure.sc _) (tr_cons (Pure.sc _) tr_nil)))) ?_
  refine c_seq ?_
  -- region 0
  refine c_region rfl ?_
  refine rn rfl rfl (s_box rfl rfl rfl) ?_
  refine rn rfl rfl (s_alloc rfl Tryz.zeroValue36) ?_
  refine rend ?_
  refine c_seq ?_
  refine c_block ?_
  refine c_seq ?_
  -- region 1
  refine c_region rfl ?_
  refine rn rfl rfl (s_mv rfl rfl) ?_
  refine rn rfl rfl (s_nilz rfl Tryz.runUnderlying32 (.inl rfl) rfl) ?_
  refine rn rfl rfl (s_as rfl rfl) ?_
  refine rend ?_
  refine c_true rfl rfl ?_
  refine c_seq ?_
  -- region 2
  refine c_region rfl ?_
  refine rn rfl rfl (s_build rfl Tryz.zeroValue36 Tryz.runUnderlying36 (.cons Tryz.sizeOf33 (.cons Tryz.sizeOf3 (.cons Tryz.sizeOf34 .nil))) rfl rfl) ?_
  refine rn0 rfl rfl (s_st rfl Tryz.sizeOf36 rfl rfl rfl rfl rfl (Nat.le_of_ble_eq_true rfl) rfl rfl) ?_
  refine rend ?_
  exact c_ret (res_1 rfl (one_cell_res rfl Tryz.isAgg36 Tryz.sizeOf36 rfl rfl rfl))
end Go.Proofs.YtbngkdgmmknfjaaGreatDoor

