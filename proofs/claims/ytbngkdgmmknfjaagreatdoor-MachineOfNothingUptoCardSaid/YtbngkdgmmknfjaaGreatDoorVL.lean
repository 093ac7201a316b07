/- A law's arguments, read as trees; a row's proof from its law's. -/
import Derived.Test.YtbngkdgmmknfjaaGreatDoorVK
import Derived.Lay
import Derived.Stop.Joined
import Derived.ProofKit
import Derived.LaidMore
import Derived.LaidLaws
import Derived.SevenTiedAt
namespace Go.VM
open Go Go.ChangeShapes Go.RowKit Go.WideShapes Go.ChangeAt

theorem okOne {P : Program} {W : World} {base : Nat} {t : TypeId} {v : Value} (h : Value.okWide P W .any base t v)
    (ht : (∃ k, P.underlying t = some (.int k)) ∨ P.underlying t = some .string ∨ P.underlying t = some .bool ∨ ∃ e, P.underlying t = some (.slice e)) : v.cells = #[v] := by
  cases v with
  | agg cs => rcases ht with ⟨k, ht⟩ | ht | ht | ⟨e, ht⟩ <;> simp [Value.okWide, ht, Cell.okWide, Cell.ok] at h
  | _ => rfl

/-- A parameter of one cell. -/
theorem Rd.argOne {H : Type} {enc : TypeId × Value → H} {P : Program} {W : World} {base : Nat} {t : TypeId} {α : Type} {val : α → V} {ok : α → Prop} {v : Value} {d : DataW H} {p : List MemPlace} (h : Rd P t 1 (fun a => [val a]) ok)
    (hval : Value.okWide P W .any base t v) (ht : (∃ k, P.underlying t = some (.int k)) ∨ P.underlying t = some .string ∨ P.underlying t = some .bool ∨ ∃ e, P.underlying t = some (.slice e))
    (hd : DataW.Trod enc P W 0 (fun _ => true) true t v d p) (hb : Bulk d ≤ big) : ∃ a, ok a ∧ VR (gW W) v (val a) := by
  obtain ⟨fuel, hx⟩ := hd
  obtain ⟨a, h1, h2, h3, h4⟩ := h.2 enc W fuel _ (d, p) hx hb
  refine ⟨a, h1, h4 0 v (val a) ?_ rfl⟩
  rw [okOne hval ht]; rfl

/-- A parameter that is a struct. -/
theorem Rd.argAgg {H : Type} {enc : TypeId × Value → H} {P : Program} {W : World} {base : Nat} {t : TypeId} {sz : Nat} {α : Type} {row : α → List V} {ok : α → Prop} {v : Value} {d : DataW H} {p : List MemPlace} (h : Rd P t sz row ok)
    (hval : Value.okWide P W .any base t v) {fs : Array Field} (ht : P.underlying t = some (.struct fs))
    (hd : DataW.Trod enc P W 0 (fun _ => true) true t v d p) (hb : Bulk d ≤ big) : ∃ a, ok a ∧ VR (gW W) v (.agg (row a)) := by
  obtain ⟨fuel, hx⟩ := hd
  obtain ⟨a, h1, h2, h3, h4⟩ := h.2 enc W fuel _ (d, p) hx hb
  simp only [Value.okWide, ht] at hval
  obtain ⟨cs, rfl, hs, _⟩ := hval
  have e : (Value.agg cs).cells = cs := rfl
  rw [e] at h2 h4
  exact ⟨a, h1, .agg cs _ (by rw [h3]; simpa using h2) fun i c V a1 a2 => h4 i c V (by simpa using a1) a2⟩

theorem bulk_mem {H : Type} {d : DataW H} {ds : List (DataW H)} (h : d ∈ ds) (hb : BulkAll ds ≤ big) : Bulk d ≤ big := Nat.le_trans (bulk_part h) hb

/-- A row's proof from its law's contract; the witness is laid by the kit's own function. -/
theorem law_lifted {H : Type} {enc : TypeId × Value → H} {C : Checked} {os : Os} {f : FuncId} {fn : Func} {s : OpenSpec} {F : Stop.Interp} {conds : List PathCond} {laid : List (String × DataW Unit)}
    (own : ownKnob C.prog.godebug = none) (started : os.Started) (noInit : C.prog.inits.idxOf? f = none) (hfn : C.prog.funcs[f]? = some fn) (args : Array Value)
    (hsh : ((World.laidAll C.prog os laid).forCall (fun _ _ => 0) ⟨#[], args, []⟩).Shaped C.prog)
    (hok : Input.okWideB C.prog ((World.laidAll C.prog os laid).forCall (fun _ _ => 0) ⟨#[], args, []⟩) f ⟨#[], args, []⟩ = true)
    (hrow : s.preRow enc C.prog fn conds false laid ((World.laidAll C.prog os laid).forCall (fun _ _ => 0) ⟨#[], args, []⟩).memory args)
    (contract : ∀ (W : World) (base : Nat) (args : Array Value) (ds gs : List (DataW H)) (before : List MemPlace),
      (∀ (j : Nat) t v, fn.params[j]? = some t → args[j]? = some v → Value.okWide C.prog W .any base t v) →
      DataW.Whole enc C.prog fn.params.toList s.vars false W args.toList ds gs before →
      (∀ k, s.cond = some k → k H (ds ++ gs) = true) → laidMetH C.prog laid W → W.ShapedOpen C.prog →
      Calls C.prog f args W fun e W' => ∃ v, e = .returned v ∧ (s.at F).post enc C.prog fn false true false false W args v W') :
    ReturnsInHanded {} C os f .any (s.preRow enc C.prog fn conds false laid) ((s.at F).post enc C.prog fn false true false false) :=
  returnsInHanded_of_row own started noInit hfn
    ⟨World.laidAll C.prog os laid, fun _ _ => 0, ⟨#[], args, []⟩, World.laidAll_os _ _ _, hsh, (Input.okWide_of_okWideB (base := 0) hok).1, (Input.okWide_of_okWideB hok).2, hrow, by
      simp only [Assume.holds]
      exact ⟨by simp, by simp, fun _ => Modest.zero, by simp, by simp⟩⟩
    fun W base args ds gs before hval hW _ hc _ hL hS _ => contract W base args ds gs before hval hW hc hL hS
end Go.VM
