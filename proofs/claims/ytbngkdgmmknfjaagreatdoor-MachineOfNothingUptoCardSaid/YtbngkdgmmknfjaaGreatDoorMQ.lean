/- 'castellanlaw22.MachineOfNothing' answers true at every step whose reading is of bulk at most 1048576: the law's walk, its reading, the row and the card. The conditions are the given row's own. -/
import Derived.Test.YtbngkdgmmknfjaaGreatDoorMP
import Derived.Test.YtbngkdgmmknfjaaGreatDoorVL
import Derived.Test.YtbngkdgmmknfjaaGreatDoorCards
import Derived.Test.YtbngkdgmmknfjaaGreatDoorTie
set_option maxRecDepth 20000
namespace Go.Proofs.YtbngkdgmmknfjaaGreatDoor
open Go Go.VM Go.ChangeShapes Go.WideShapes Go.ChangeAt Go.RowKit

theorem rd_i64 : Rd Tryz.prog 3 1 (fun n : Int => [i64 n]) (fun n => (Lit.int .i64 n).wf = true) := Rd.int Tryz.underlying3 (by kernel_rfl)
theorem rd_u32 : Rd Tryz.prog 22 1 (fun n : Int => [u32 n]) (fun n => (Lit.int .u32 n).wf = true) := Rd.int Tryz.underlying22 (by kernel_rfl)
theorem rd_u8 : Rd Tryz.prog 5 1 (fun n : Int => [u8 n]) (fun n => (Lit.int .u8 n).wf = true) := Rd.int Tryz.underlying5 (by kernel_rfl)
theorem rd_str : Rd Tryz.prog 9 1 (fun s : List UInt8 => [V.sc (.string (bs s))]) (fun s => s.length ≤ big) := Rd.str Tryz.underlying9 (by kernel_rfl)
theorem rd_pfx : Rd Tryz.prog 24 2 Pfx.row (fun _ => True) := by
  have h := Rd.struct Tryz.underlying24 (by kernel_rfl) (RdF.cons rfl rd_u32 (RdF.cons rfl rd_i64 RdF.nil))
  exact h.map (fun x => (⟨x.1, x.2.1⟩ : Pfx)) (fun _ => rfl) (fun _ _ => trivial)
theorem rd_bytes : Rd Tryz.prog 27 1 (fun l : List Int => [V.lst 1 false (l.map fun n : Int => [u8 n])]) (fun l => l.length ≤ big ∧ ∀ a ∈ l, (Lit.int .u8 a).wf = true) := Rd.slice Tryz.underlying27 (by kernel_rfl) rd_u8 (by decide)
theorem rd_stp : Rd Tryz.prog 29 10 Stp.row (fun _ => True) := by
  have hr := Rd.struct Tryz.underlying26 (by kernel_rfl) (RdF.cons rfl rd_i64 (RdF.cons rfl rd_pfx (RdF.cons rfl rd_i64 (RdF.cons rfl rd_u32 (RdF.cons rfl rd_i64 RdF.nil)))))
  have h := Rd.struct Tryz.underlying29 (by kernel_rfl) (RdF.cons rfl rd_i64 (RdF.cons rfl rd_str (RdF.cons rfl hr (RdF.cons rfl rd_i64 (RdF.cons rfl rd_bytes RdF.nil)))))
  exact h.map (fun x => (⟨x.1, x.2.1, x.2.2.1.1, x.2.2.1.2.1, x.2.2.1.2.2.1, x.2.2.1.2.2.2.1, x.2.2.1.2.2.2.2.1, x.2.2.2.1, x.2.2.2.2.1⟩ : Stp)) (fun _ => rfl) (fun _ _ => trivial)

theorem own : ownKnob Tryz.prog.godebug = none := by kernel_rfl
def gx : Gx := ⟨0, fun _ => True, fun _ _ _ h => h⟩
theorem contract (H : Type) (enc : TypeId × Value → H) (F : Stop.Interp) (W : World) (base : Nat) (args : Array Value) (ds gs : List (DataW H)) (before : List MemPlace)
    (hval : ∀ (j : Nat) t v, Tryz.f3.params[j]? = some t → args[j]? = some v → Value.okWide Tryz.prog W .any base t v)
    (hW : DataW.Whole enc Tryz.prog Tryz.f3.params.toList (Rows.OpenSpec.upto Rows.machineOfNothingSpec).vars false W args.toList ds gs before)
    (hc : ∀ k, (Rows.OpenSpec.upto Rows.machineOfNothingSpec).cond = some k → k H (ds ++ gs) = true) :
    Calls Tryz.prog 3 args W fun e W' => ∃ v, e = .returned v ∧ ((Rows.OpenSpec.upto Rows.machineOfNothingSpec).at F).post enc Tryz.prog Tryz.f3 false true false false W args v W' := by
  have hb := bulk_fit (hc _ rfl)
  have hW' := hW
  obtain ⟨p, q, hA0, hV, rfl, hfz, hnd⟩ := hW
  obtain ⟨rfl, rfl⟩ := trodVars_none hV
  have hA : DataW.TrodAll enc Tryz.prog W 0 (fun _ => true) true Tryz.f3.params.toList args.toList ds p := hA0
  rw [Tryz.params3] at hA hval
  obtain ⟨v0, vs0, d0, ds0, p0, q0, hargs, rfl, rfl, h0, r0⟩ := trodAll_cons hA
  obtain ⟨rfl, rfl, rfl⟩ := trodAll_nil r0
  obtain rfl : args = #[v0] := by cases args; simp_all
  obtain ⟨s, -, hs⟩ := rd_stp.argAgg (hval 0 _ v0 rfl rfl) Tryz.underlying29 h0 (bulk_mem (by simp) hb)
  refine (law_run (X := gx) (S_law s) rfl (fun i v V h1 h2 => ?_) trivial (Nat.zero_le _)).mono ?_
  · match i, h1, h2 with
    | 0, h1, h2 =>
      simp at h1 h2
      subst h1; subst h2
      exact hs
    | i + 1, h1, h2 => simp at h1
  rintro e W' ⟨rfl, hbel⟩
  exact ⟨_, rfl, law_post (s := Rows.machineOfNothingSpec) (by kernel_rfl) (by kernel_rfl) rfl Tryz.underlying4 rfl hW' rfl hbel⟩
def d0 {H : Type} : DataW H := .agg [.lit (.int .i64 0), .lit (.string []), .agg [.lit (.int .i64 0), .agg [.lit (.int .u32 0), .lit (.int .i64 0)], .lit (.int .i64 0), .lit (.int .u32 0), .lit (.int .i64 0)], .lit (.int .i64 0), .nil]
def v0 : Value := .agg #[.int .i64 0, .string ⟨#[]⟩, .int .i64 0, .int .u32 0, .int .i64 0, .int .i64 0, .int .u32 0, .int .i64 0, .int .i64 0, .slice none 0 0]
theorem laid_met (os : Os) : laidMet Tryz.prog Rows.machineOfNothingUptoRow.laid ((World.laidAll Tryz.prog os Rows.machineOfNothingUptoRow.laid).forCall (fun _ _ => 0) ⟨#[], #[v0], []⟩).memory :=
  laidMet_laidAll _ (by kernel_rfl) (by kernel_rfl)
theorem reads (os : Os) {H : Type} (enc : TypeId × Value → H) : ∃ places, DataW.whole enc Tryz.prog ((World.laidAll Tryz.prog os Rows.machineOfNothingUptoRow.laid).forCall (fun _ _ => 0) ⟨#[], #[v0], []⟩).memory
    Tryz.f3.params.toList Rows.machineOfNothingSpec.vars false #[v0].toList 8 = some ([d0], [], places) := ⟨[], by kernel_rfl⟩
set_option maxRecDepth 100000 in
theorem lifted (os : Os) (started : os.Started) (H : Type) (enc : TypeId × Value → H) (F : Stop.Interp) :
    ReturnsInHanded {} Tryz.checked os 3 .any ((Rows.OpenSpec.upto Rows.machineOfNothingSpec).preRow enc Tryz.prog Tryz.f3 Rows.machineOfNothingUptoRow.domain false Rows.machineOfNothingUptoRow.laid)
      (((Rows.OpenSpec.upto Rows.machineOfNothingSpec).at F).post enc Tryz.prog Tryz.f3 false true false false) := by
  obtain ⟨places, hx⟩ := reads os enc
  exact law_lifted (C := Tryz.checked) (s := Rows.OpenSpec.upto Rows.machineOfNothingSpec) own started (by kernel_rfl) Tryz.func3 #[v0]
    (World.shaped_of_ZipB (by kernel_rfl) (by kernel_rfl)) (by kernel_rfl) (OpenSpec.preRow_of_cond 8 hx (by kernel_rfl) (fun k hk => by cases hk; kernel_rfl) (by kernel_rfl) (laid_met os))
    (fun W base args ds gs before hval hW hc _ _ => contract H enc F W base args ds gs before hval hW hc)
end Go.Proofs.YtbngkdgmmknfjaaGreatDoor

