/- The document's data, plain, and how they read as values of Go. -/
import Derived.Test.YtbngkdgmmknfjaaGreatDoorVH
namespace Go.VM
open Go

abbrev Str := List UInt8
abbrev st (s : Str) : V := .sc (.string (bs s))
abbrev i64 (n : Int) : V := .sc (.int .i64 n)
abbrev u32 (n : Int) : V := .sc (.int .u32 n)
abbrev u8 (n : Int) : V := .sc (.int .u8 n)
abbrev bo (b : Bool) : V := .sc (.bool b)

structure Pfx where
  a : Int
  n : Int
  deriving DecidableEq
structure Ifc where
  name : Str
  addr : Pfx
  mtu : Int
  rpf : Int
  deriving DecidableEq
structure Nmd where
  name : Str
  l : List Pfx
  deriving DecidableEq
structure Sid where
  any : Bool
  table : Str
  p : Pfx
  lo : Int
  hi : Int
  deriving DecidableEq
structure Pn where
  on : Bool
  iface : Str
  gate : Int
  deriving DecidableEq
structure Rul where
  pass : Bool
  ret : Bool
  quick : Bool
  on : Str
  proto : Int
  src : Sid
  dst : Sid
  set : Int
  mask : Int
  type : Int
  keep : Bool
  route : Pn
  reply : Pn
  table : Int
  deriving DecidableEq
structure Cfg where
  ifaces : List Ifc
  bogons : List Pfx
  tables : List Nmd
  rules : List Rul
  flows : Int
  errors : Int
  deriving DecidableEq

def Pfx.row (p : Pfx) : List V := [u32 p.a, i64 p.n]
def Ifc.row (x : Ifc) : List V := [st x.name, u32 x.addr.a, i64 x.addr.n, i64 x.mtu, i64 x.rpf]
abbrev pfxs (l : List Pfx) : V := .lst 2 false (l.map Pfx.row)
def Nmd.row (t : Nmd) : List V := [st t.name, pfxs t.l]
def Sid.row (s : Sid) : List V := [bo s.any, st s.table, u32 s.p.a, i64 s.p.n, i64 s.lo, i64 s.hi]
def Pn.row (p : Pn) : List V := [bo p.on, st p.iface, u32 p.gate]
def Rul.row (r : Rul) : List V :=
  [bo r.pass, bo r.ret, bo r.quick, st r.on, i64 r.proto,
   bo r.src.any, st r.src.table, u32 r.src.p.a, i64 r.src.p.n, i64 r.src.lo, i64 r.src.hi,
   bo r.dst.any, st r.dst.table, u32 r.dst.p.a, i64 r.dst.p.n, i64 r.dst.lo, i64 r.dst.hi,
   i64 r.set, i64 r.mask, i64 r.type, bo r.keep, bo r.route.on, st r.route.iface, u32 r.route.gate, bo r.reply.on, st r.reply.iface, u32 r.reply.gate, i64 r.table]
abbrev ifcs (l : List Ifc) : V := .lst 5 false (l.map Ifc.row)
abbrev nmds (l : List Nmd) : V := .lst 2 false (l.map Nmd.row)
abbrev ruls (l : List Rul) : V := .lst 28 false (l.map Rul.row)
abbrev strs (l : List Str) : V := .lst 1 false (l.map fun s => [st s])
def Cfg.row (c : Cfg) : List V := [ifcs c.ifaces, pfxs c.bogons, nmds c.tables, ruls c.rules, i64 c.flows, i64 c.errors]
abbrev Pfx.v (p : Pfx) : V := .agg p.row
abbrev Ifc.v (p : Ifc) : V := .agg p.row
abbrev Nmd.v (p : Nmd) : V := .agg p.row
abbrev Sid.v (p : Sid) : V := .agg p.row
abbrev Pn.v (p : Pn) : V := .agg p.row
abbrev Rul.v (p : Rul) : V := .agg p.row
abbrev Cfg.v (p : Cfg) : V := .agg p.row

/-! ### they are trees -/
def Trees (cs : List V) : Prop := ∀ c ∈ cs, V.Pure c
theorem tr_nil : Trees [] := fun _ h => by cases h
theorem tr_cons {c : V} {cs : List V} (h : c.Pure) (hs : Trees cs) : Trees (c :: cs) := pall_cons h hs
theorem tr_lst {α : Type} {sz : Nat} {full : Bool} {f : α → List V} {l : List α} (h : ∀ x, Trees (f x)) : V.Pure (.lst sz full (l.map f)) :=
  Pure.lst fun row hr => by
    obtain ⟨x, _, rfl⟩ := List.mem_map.1 hr
    exact h x
theorem tr_pfx (p : Pfx) : Trees p.row := tr_cons (Pure.sc _) (tr_cons (Pure.sc _) tr_nil)
theorem tr_ifc (p : Ifc) : Trees p.row := by unfold Ifc.row; repeat (first | exact tr_nil | refine tr_cons (Pure.sc _) ?_)
theorem tr_nmd (p : Nmd) : Trees p.row := tr_cons (Pure.sc _) (tr_cons (tr_lst tr_pfx) tr_nil)
theorem tr_sid (p : Sid) : Trees p.row := by unfold Sid.row; repeat (first | exact tr_nil | refine tr_cons (Pure.sc _) ?_)
theorem tr_pn (p : Pn) : Trees p.row := by unfold Pn.row; repeat (first | exact tr_nil | refine tr_cons (Pure.sc _) ?_)
theorem tr_rul (p : Rul) : Trees p.row := by unfold Rul.row; repeat (first | exact tr_nil | refine tr_cons (Pure.sc _) ?_)
theorem tr_str (s : Str) : Trees [st s] := tr_cons (Pure.sc _) tr_nil
theorem tr_cfg (c : Cfg) : Trees c.row := tr_cons (tr_lst tr_ifc) (tr_cons (tr_lst tr_pfx) (tr_cons (tr_lst tr_nmd) (tr_cons (tr_lst tr_rul) (tr_cons (Pure.sc _) (tr_cons (Pure.sc _) tr_nil)))))
theorem tr_agg {cs : List V} (h : Trees cs) : V.Pure (.agg cs) := Pure.agg h
theorem tr_tup {cs : List V} (h : Trees cs) : V.Pure (.tup cs) := Pure.tup h
theorem tr_ip {cs : List V} (h : Trees cs) : V.Pure (.ip cs) := Pure.ip h
theorem tr_low {n : Nat} {cs : List V} (h : Trees cs) : ∀ c ∈ cs, V.Low n c := fun c hc => Pure.low (h c hc)

/-! ### whole numbers -/
theorem wrap64_id {n : Int} (h0 : -9223372036854775808 ≤ n) (h1 : n < 9223372036854775808) : IntKind.i64.wrap n = n := by
  simp [IntKind.wrap, IntKind.signed, IntKind.bits]; omega
theorem add64 {a b : Int} (h0 : -9223372036854775808 ≤ a + b) (h1 : a + b < 9223372036854775808) : iop .add .i64 a b = some (.int .i64 (a + b)) := by
  simp only [iop]; rw [wrap64_id h0 h1]
theorem sub64 {a b : Int} (h0 : -9223372036854775808 ≤ a - b) (h1 : a - b < 9223372036854775808) : iop .sub .i64 a b = some (.int .i64 (a - b)) := by
  simp only [iop]; rw [wrap64_id h0 h1]
theorem mul64 {a b : Int} (h0 : -9223372036854775808 ≤ a * b) (h1 : a * b < 9223372036854775808) : iop .mul .i64 a b = some (.int .i64 (a * b)) := by
  simp only [iop]; rw [wrap64_id h0 h1]
/-- A counter goes up. -/
theorem inc64 {k : Nat} (h1 : k < 9223372036854775807) : iop .add .i64 (k : Int) 1 = some (.int .i64 ((k + 1 : Nat) : Int)) := by
  simp only [iop]; rw [wrap64_id (by omega) (by omega)]; simp
theorem row_at {α : Type} {f : α → List V} {l : List α} {k : Nat} {x : α} (h : l[k]? = some x) : (l.map f)[((k : Nat) : Int).toNat]? = some (f x) := by
  simp [h]
theorem row_at' {α : Type} {f : α → List V} {l : List α} {k : Nat} {x : α} (h : l[k]? = some x) : (l.map f)[k]? = some (f x) := by
  simp [h]
end Go.VM
