/- Steps: data. -/
import Derived.Test.YtbngkdgmmknfjaaGreatDoorVS
import Derived.Test.YtbngkdgmmknfjaaGreatDoorVN
namespace Go.VM
open Go
structure Stp where
  kind : Int
  text : Str
  rt : Int
  p : Pfx
  ri : Int
  gate : Int
  met : Int
  iface : Int
  bytes : List Int
def Stp.row (s : Stp) : List V := [i64 s.kind, st s.text, i64 s.rt, u32 s.p.a, i64 s.p.n, i64 s.ri, u32 s.gate, i64 s.met, i64 s.iface, .lst 1 false (s.bytes.map fun b => [u8 b])]
abbrev Stp.v (s : Stp) : V := .agg s.row
theorem tr_u8 (b : Int) : Trees [u8 b] := tr_cons (Pure.sc _) tr_nil
theorem tr_stp (s : Stp) : Trees s.row := by
  unfold Stp.row
  repeat (first | exact tr_nil | refine tr_cons (Pure.sc _) ?_ | refine tr_cons (tr_lst tr_u8) ?_)
/-- More than is looked at? -/
def longGo : Nat → Int → List Stp → Bool
  | 0, _, _ => false
  | _, _, [] => false
  | k + 1, n, s :: r => if n + 1 + s.text.length + s.bytes.length > 9000 then true else longGo k (n + 1 + s.text.length + s.bytes.length) r
end Go.VM
