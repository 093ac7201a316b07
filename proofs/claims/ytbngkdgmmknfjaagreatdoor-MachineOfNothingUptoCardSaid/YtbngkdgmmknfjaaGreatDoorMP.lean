/- Walks: castellanlaw22.known, long at one step, MachineOfNothing. -/
import Derived.Test.YtbngkdgmmknfjaaGreatDoorMO
set_option maxRecDepth 20000
namespace Go.Proofs.YtbngkdgmmknfjaaGreatDoor
open Go Go.VM
variable {X : Gx}
theorem S_known : PureOK X Tryz.prog 10 [] (bo true) := by
  refine pure_of Tryz.func10 rfl (Nat.le_of_ble_eq_true rfl) pall_nil (Pure.sc _) ?_
  refine c_seq ?_
  -- region 0
  refine c_region rfl ?_
  refine rn rfl rfl (s_as rfl rfl) ?_
  refine rend ?_
  refine c_seq ?_
  -- region 1
  refine c_region rfl ?_
  refine rn rfl rfl (s_callw (S_machine_New) rfl Tryz.call14 rfl) ?_
  refine rn rfl rfl (s_as rfl rfl) ?_
  refine rend ?_
  refine c_seq ?_
  -- region 2
  refine c_region rfl ?_
  refine rn rfl rfl (s_mv rfl rfl) ?_
  refine rn rfl rfl (s_nilp rfl Tryz.runUnderlying32 (.inr rfl) rfl rfl) ?_
  refine rn rfl rfl (s_mv rfl rfl) ?_
  refine' r_and (j := 2) (dj := 5) 5 rfl rfl rfl rfl rfl rfl rfl rfl rfl (fun h1 => ?s1) ?l1 ?k1
  case s1 =>
    refine ron rfl rfl rfl h1 (s_mv rfl rfl) ?_
    refine ron rfl rfl rfl h1 (s_build rfl Tryz.zeroValue29 Tryz.runUnderlying29 (.cons Tryz.sizeOf3 (.cons Tryz.sizeOf9 (.cons Tryz.sizeOf26 (.cons Tryz.sizeOf3 (.cons Tryz.sizeOf27 .nil))))) rfl rfl) ?_
    refine ron rfl rfl rfl h1 (s_callw (S_Do_tick) rfl Tryz.call5 rfl) ?_
    refine ron rfl rfl rfl h1 (s_fld rfl Tryz.runUnderlying36 rfl Tryz.isAgg33 Tryz.sizeOf33 rfl rfl) ?_
    refine ron rfl rfl rfl h1 (s_bin rfl rfl rfl rfl) ?_
    exact rend ⟨⟨rfl, rfl, by repeat (first | exact Sub.refl _ | refine sub_push rfl ?_)⟩, rfl, rfl⟩
  case l1 => exact ⟨rfl, rfl⟩
  refine rn rfl rfl (s_as rfl rfl) ?_
  refine rend ?_
  exact c_ret (res_1 rfl (one_tmp rfl))
def longOne (s : Stp) : Bool := decide (IntKind.i64.wrap (IntKind.i64.wrap (IntKind.i64.wrap (0 + 1) + s.text.length) + (s.bytes.map fun b => [u8 b]).length) > 9000)
theorem S_long (s : Stp) : PureOK X Tryz.prog 4 [.lst 10 true [s.row]] (bo (longOne s)) := by
  refine pure_of Tryz.func4 rfl (Nat.le_of_ble_eq_true rfl) (tr_cons (tr_lst (l := [s]) tr_stp) tr_nil) (Pure.sc _) ?_
  refine c_seq ?_
  -- region 0
  refine c_region rfl ?_
  refine rn rfl rfl (s_as rfl rfl) ?_
  refine rend ?_
  refine c_seq ?_
  -- region 1
  refine c_region rfl ?_
  refine rn rfl rfl (s_as rfl rfl) ?_
  refine rend ?_
  refine c_seq ?_
  refine c_seq ?_
  -- region 2
  refine c_region rfl ?_
  refine rn rfl rfl (s_as rfl rfl) ?_
  refine rend ?_
  refine c_block ?_
  refine c_loop ?_
  refine c_seq ?_
  refine c_seq ?_
  -- region 3
  refine c_region rfl ?_
  refine rn rfl rfl (s_mv rfl rfl) ?_
  refine rn rfl rfl (s_mv rfl rfl) ?_
  refine rn rfl rfl (s_lenl rfl Tryz.runUnderlying31 rfl) ?_
  refine rn rfl rfl (s_bin rfl rfl rfl rfl) ?_
  refine rn rfl rfl (s_mv rfl rfl) ?_
  refine' r_and (j := 4) (dj := 9) 2 rfl rfl rfl rfl rfl rfl rfl rfl rfl (fun h2 => ?s2) ?l2 ?k2
  case s2 =>
    refine ron rfl rfl rfl h2 (s_mv rfl rfl) ?_
    refine ron rfl rfl rfl h2 (s_bin rfl rfl rfl rfl) ?_
    exact rend ⟨⟨rfl, rfl, by repeat (first | exact Sub.refl _ | refine sub_push rfl ?_)⟩, rfl, rfl⟩
  case l2 => exact ⟨rfl, rfl⟩
  refine rend ?_
  refine c_true rfl rfl ?_
  refine c_skip ?_
  refine c_seq ?_
  refine c_block ?_
  refine c_seq ?_
  -- region 5
  refine c_draw mixed rfl ?_
  refine rn rfl rfl (s_mv rfl rfl) ?_
  refine rn rfl rfl (s_bin rfl rfl rfl rfl) ?_
  refine rn rfl rfl (s_mv rfl rfl) ?_
  refine rn rfl rfl (s_mv rfl rfl) ?_
  refine rn rfl rfl (s_ixi rfl Tryz.runUnderlying31 Tryz.sizeOf29 rfl rfl (by decide) rfl) ?_
  refine rn rfl rfl (s_fai 1 rfl Tryz.runUnderlying29 rfl Tryz.sizeOf9 rfl rfl rfl) ?_
  refine rn rfl rfl (s_ldi rfl Tryz.isAgg9 Tryz.sizeOf9 rfl rfl) ?_
  refine rn rfl rfl (s_lenb rfl Tryz.runUnderlying9 rfl) ?_
  refine rn rfl rfl (s_bin rfl rfl rfl rfl) ?_
  refine rn rfl rfl (s_mv rfl rfl) ?_
  refine rn rfl rfl (s_mv rfl rfl) ?_
  refine rn rfl rfl (s_ixi rfl Tryz.runUnderlying31 Tryz.sizeOf29 rfl rfl (by decide) rfl) ?_
  refine rn rfl rfl (s_fai 9 rfl Tryz.runUnderlying29 rfl Tryz.sizeOf27 rfl rfl rfl) ?_
  refine rn rfl rfl (s_ldi rfl Tryz.isAgg27 Tryz.sizeOf27 rfl rfl) ?_
  refine rn rfl rfl (s_lenl rfl Tryz.runUnderlying27 rfl) ?_
  refine rn rfl rfl (s_bin rfl rfl rfl rfl) ?_
  refine rn rfl rfl (s_as rfl rfl) ?_
  refine rend ⟨by kernel_rfl, ?_⟩
  refine c_seq ?_
  -- region 6
  refine c_region rfl ?_
  refine rn rfl rfl (s_mv rfl rfl) ?_
  refine rn rfl rfl (s_bin rfl rfl rfl rfl) ?_
  refine rend ?_
  refine c_cond rfl (fun hc => ?_) (fun hc => ?_)
  · -- then
    refine c_seq ?_
    -- region 7
    refine c_region rfl ?_
    refine rn rfl rfl (s_as rfl rfl) ?_
    refine rend ?_
    have e : longOne s = true := hc
    rw [e]
    exact c_ret (res_1 rfl (one_tmp rfl))
  · -- else
    refine c_skip ?_
    -- region 4
    refine c_region rfl ?_
    refine rn rfl rfl (s_mv rfl rfl) ?_
    refine rn rfl rfl (s_bin rfl rfl rfl rfl) ?_
    refine rn rfl rfl (s_as rfl rfl) ?_
    refine rend ?_
    have e : longOne s = false := hc
    rw [e]
    refine c_loop ?_
    refine c_seq ?_
    refine c_seq ?_
    -- region 3
    refine c_region rfl ?_
    refine rn rfl rfl (s_mv rfl rfl) ?_
    refine rn rfl rfl (s_mv rfl rfl) ?_
    refine rn rfl rfl (s_lenl rfl Tryz.runUnderlying31 rfl) ?_
    refine rn rfl rfl (s_bin rfl rfl rfl rfl) ?_
    refine rn rfl rfl (s_mv rfl rfl) ?_
    refine' r_and (j := 4) (dj := 9) 2 rfl rfl rfl rfl rfl rfl rfl rfl rfl (fun h3 => ?s3) ?l3 ?k3
    case s3 =>
      refine ron rfl rfl rfl h3 (s_mv rfl rfl) ?_
      refine ron rfl rfl rfl h3 (s_bin rfl rfl rfl rfl) ?_
      exact rend ⟨⟨rfl, rfl, by repeat (first | exact Sub.refl _ | refine sub_push rfl ?_)⟩, rfl, rfl⟩
    case l3 => exact ⟨rfl, rfl⟩
    refine rend ?_
    refine c_false rfl rfl ?_
    refine c_exit ?_
    refine c_seq ?_
    -- region 8
    refine c_region rfl ?_
    refine rn rfl rfl (s_as rfl rfl) ?_
    refine rend ?_
    exact c_ret (res_1 rfl (one_tmp rfl))
theorem S_law (s : Stp) : PureOK X Tryz.prog 3 [s.v] (bo true) := by
  refine pure_of Tryz.func3 rfl (Nat.le_of_ble_eq_true rfl) (tr_cons (tr_agg (tr_stp s)) tr_nil) (Pure.sc _) ?_
  refine c_seq ?_
  -- region 0
  refine c_region rfl ?_
  refine rn rfl rfl (s_box rfl rfl rfl) ?_
  refine rn rfl rfl (s_as rfl rfl) ?_
  refine rend ?_
  refine c_seq ?_
  refine c_seq ?_
  -- region 1
  refine c_region rfl ?_
  refine rn rfl rfl (s_ld rfl Tryz.isAgg29 Tryz.sizeOf29 rfl rfl rfl rfl) ?_
  refine rn rfl rfl (s_bs rfl Tryz.runUnderlying31 Tryz.sizeOf29 Tryz.zeroValue29 rfl rfl rfl rfl rfl) ?_
  refine rn rfl rfl (s_call (S_long s) rfl Tryz.call4 rfl) ?_
  refine rend ?_
  refine c_cond rfl (fun hc => ?_) (fun hc => ?_)
  · -- then
    refine c_seq ?_
    -- region 2
    refine c_region rfl ?_
    refine rn rfl rfl (s_as rfl rfl) ?_
    refine rend ?_
    exact c_ret (res_1 rfl (one_tmp rfl))
  · -- else
    refine c_skip ?_
    refine c_seq ?_
    -- region 3
    refine c_region rfl ?_
    refine rn rfl rfl (s_as rfl rfl) ?_
    refine rend ?_
    refine c_seq ?_
    -- region 4
    refine c_region rfl ?_
    refine rn rfl rfl (s_mv rfl rfl) ?_
    refine rn rfl rfl (s_ld rfl Tryz.isAgg29 Tryz.sizeOf29 rfl rfl rfl rfl) ?_
    refine rn rfl rfl (s_call (S_machine_Machine_Do s) rfl Tryz.call5 rfl) ?_
    refine rn rfl rfl (s_alloc rfl Tryz.zeroValue36) ?_
    refine rn0 rfl rfl (s_st rfl Tryz.sizeOf36 rfl rfl rfl rfl rfl (Nat.le_of_ble_eq_true rfl) rfl rfl) ?_
    refine rend ?_
    refine c_seq ?_
    -- region 5
    refine c_region rfl ?_
    refine rn rfl rfl (s_fa 0 rfl Tryz.runUnderlying36 rfl Tryz.sizeOf33 rfl rfl rfl) ?_
    refine rn rfl rfl (s_ld rfl Tryz.isAgg33 Tryz.sizeOf33 rfl rfl rfl rfl) ?_
    refine rn rfl rfl (s_bin rfl rfl rfl rfl) ?_
    refine rn rfl rfl (s_mv rfl rfl) ?_
    refine' r_and (j := 3) (dj := 14) 3 rfl rfl rfl rfl rfl rfl rfl rfl rfl (fun h4 => ?s4) ?l4 ?k4
    case s4 =>
      refine ron rfl rfl rfl h4 (s_fa 1 rfl Tryz.runUnderlying36 rfl Tryz.sizeOf3 rfl rfl rfl) ?_
      refine ron rfl rfl rfl h4 (s_ld rfl Tryz.isAgg3 Tryz.sizeOf3 rfl rfl rfl rfl) ?_
      refine ron rfl rfl rfl h4 (s_bin rfl rfl rfl rfl) ?_
      exact rend ⟨⟨rfl, rfl, by repeat (first | exact Sub.refl _ | refine sub_push rfl ?_)⟩, rfl, rfl⟩
    case l4 => exact ⟨rfl, rfl⟩
    refine rn rfl rfl (s_mv rfl rfl) ?_
    refine' r_and (j := 8) (dj := 19) 4 rfl rfl rfl rfl rfl rfl rfl rfl rfl (fun h5 => ?s5) ?l5 ?k5
    case s5 =>
      refine ron rfl rfl rfl h5 (s_fa 2 rfl Tryz.runUnderlying36 rfl Tryz.sizeOf34 rfl rfl rfl) ?_
      refine ron rfl rfl rfl h5 (s_ld rfl Tryz.isAgg34 Tryz.sizeOf34 rfl rfl rfl rfl) ?_
      refine ron rfl rfl rfl h5 (s_lenz rfl Tryz.runUnderlying34 rfl) ?_
      refine ron rfl rfl rfl h5 (s_bin rfl rfl rfl rfl) ?_
      exact rend ⟨⟨rfl, rfl, by repeat (first | exact Sub.refl _ | refine sub_push rfl ?_)⟩, rfl, rfl⟩
    case l5 => exact ⟨rfl, rfl⟩
    refine rn rfl rfl (s_mv rfl rfl) ?_
    refine' r_and (j := 14) (dj := 25) 6 rfl rfl rfl rfl rfl rfl rfl rfl rfl (fun h6 => ?s6) ?l6 ?k6
    case s6 =>
      refine ron rfl rfl rfl h6 (s_mv rfl rfl) ?_
      refine ron rfl rfl rfl h6 (s_ld rfl Tryz.isAgg29 Tryz.sizeOf29 rfl rfl rfl rfl) ?_
      refine ron rfl rfl rfl h6 (s_bs rfl Tryz.runUnderlying31 Tryz.sizeOf29 Tryz.zeroValue29 rfl rfl rfl rfl rfl) ?_
      refine ron rfl rfl rfl h6 (s_call (S_machine_Machine_Run [s]) rfl Tryz.call6 rfl) ?_
      refine ron rfl rfl rfl h6 (s_lenz rfl Tryz.runUnderlying38 rfl) ?_
      refine ron rfl rfl rfl h6 (s_bin rfl rfl rfl rfl) ?_
      exact rend ⟨⟨rfl, rfl, by repeat (first | exact Sub.refl _ | refine sub_push rfl ?_)⟩, rfl, rfl⟩
    case l6 => exact ⟨rfl, rfl⟩
    refine rn rfl rfl (s_mv rfl rfl) ?_
    refine' r_and (j := 22) (dj := 33) 3 rfl rfl rfl rfl rfl rfl rfl rfl rfl (fun h7 => ?s7) ?l7 ?k7
    case s7 =>
      refine ron rfl rfl rfl h7 (s_mv rfl rfl) ?_
      refine ron rfl rfl rfl h7 (s_call (S_machine_Machine_Now) rfl Tryz.call7 rfl) ?_
      refine ron rfl rfl rfl h7 (s_bin rfl rfl rfl rfl) ?_
      exact rend ⟨⟨rfl, rfl, by repeat (first | exact Sub.refl _ | refine sub_push rfl ?_)⟩, rfl, rfl⟩
    case l7 => exact ⟨rfl, rfl⟩
    refine rn rfl rfl (s_mv rfl rfl) ?_
    refine' r_and (j := 27) (dj := 38) 3 rfl rfl rfl rfl rfl rfl rfl rfl rfl (fun h8 => ?s8) ?l8 ?k8
    case s8 =>
      refine ron rfl rfl rfl h8 (s_mv rfl rfl) ?_
      refine ron rfl rfl rfl h8 (s_call (S_machine_Machine_Gate) rfl Tryz.call8 rfl) ?_
      refine ron rfl rfl rfl h8 (s_nilz rfl Tryz.runUnderlying41 (.inl rfl) rfl) ?_
      exact rend ⟨⟨rfl, rfl, by repeat (first | exact Sub.refl _ | refine sub_push rfl ?_)⟩, rfl, rfl⟩
    case l8 => exact ⟨rfl, rfl⟩
    refine rn rfl rfl (s_mv rfl rfl) ?_
    refine' r_and (j := 32) (dj := 43) 3 rfl rfl rfl rfl rfl rfl rfl rfl rfl (fun h9 => ?s9) ?l9 ?k9
    case s9 =>
      refine ron rfl rfl rfl h9 (s_mv rfl rfl) ?_
      refine ron rfl rfl rfl h9 (s_call (S_machine_Machine_Count 0) rfl Tryz.call9 rfl) ?_
      refine ron rfl rfl rfl h9 (s_bin rfl rfl rfl rfl) ?_
      exact rend ⟨⟨rfl, rfl, by repeat (first | exact Sub.refl _ | refine sub_push rfl ?_)⟩, rfl, rfl⟩
    case l9 => exact ⟨rfl, rfl⟩
    refine rn rfl rfl (s_mv rfl rfl) ?_
    refine' r_and (j := 37) (dj := 48) 1 rfl rfl rfl rfl rfl rfl rfl rfl rfl (fun h10 => ?s10) ?l10 ?k10
    case s10 =>
      refine ron rfl rfl rfl h10 (s_call (S_known) rfl Tryz.call10 rfl) ?_
      exact rend ⟨⟨rfl, rfl, by repeat (first | exact Sub.refl _ | refine sub_push rfl ?_)⟩, rfl, rfl⟩
    case l10 => exact ⟨rfl, rfl⟩
    refine rn rfl rfl (s_as rfl rfl) ?_
    refine rend ?_
    exact c_ret (res_1 rfl (one_tmp rfl))
end Go.Proofs.YtbngkdgmmknfjaaGreatDoor

