/- The rules for single operations. -/
import Derived.Test.YtbngkdgmmknfjaaGreatDoorVC
import Derived.Laws.Sem
import Derived.Laws.Cells
namespace Go.VM
open Go
variable {X : Gx}

theorem cell_some {w : World} {b k : Nat} {v : Value} (h : w.cell? ⟨b, k, none⟩ = some v) : ∃ c t fr, w.heap[b]? = some (.cells c t fr) ∧ c[k]? = some v := by
  unfold World.cell? at h
  simp only at h
  split at h
  · rename_i c t fr hb
    exact ⟨c, t, fr, hb, by simpa using h⟩
  · cases h
theorem cell_lt {w : World} {b k : Nat} {v : Value} (h : w.cell? ⟨b, k, none⟩ = some v) : b < w.heap.size := by
  obtain ⟨c, t, fr, hb, _⟩ := cell_some h
  exact (Array.getElem?_eq_some_iff.1 hb).1
theorem cell_of {w : World} {b k : Nat} {v : Value} {c : Array Value} {t : TypeId} {fr : Nat × Nat} (hb : w.heap[b]? = some (.cells c t fr)) (hk : c[k]? = some v) : w.cell? ⟨b, k, none⟩ = some v := by
  unfold World.cell?; simp [hb, hk]

def World.more (w : World) (o : Obj) : World := { w with heap := w.heap.push o }
theorem more_old {w : World} {o : Obj} {b : Nat} (h : b < w.heap.size) : (World.more w o).heap[b]? = w.heap[b]? := by
  simp only [World.more]; rw [Array.getElem?_push_lt h, Array.getElem?_eq_getElem h]
theorem more_new {w : World} {o : Obj} : (World.more w o).heap[w.heap.size]? = some o := Array.getElem?_push_size
theorem more_size {w : World} {o : Obj} : (World.more w o).heap.size = w.heap.size + 1 := by simp [World.more]

theorem get_lt {w : World} {b : Nat} {o : Obj} (h : w.heap[b]? = some o) : b < w.heap.size := (Array.getElem?_eq_some_iff.1 h).1

def G.newLoc (g : G) (l b base sz tot : Nat) : G := { g with loc := fun x => if x = l then some (b, base, sz, tot) else g.loc x }
def H.newRows (h : H) (sz : Nat) (rows : List (List V)) : H := ⟨h.next + 1, (h.next, .rows sz rows false) :: h.bl⟩

theorem HR.new {g : G} {h : H} {w : World} (hh : HR X g h w) (cs : Array Value) (T : TypeId) (sz : Nat) (rows : List (List V)) (tot : Nat) (hsize : tot * sz ≤ cs.size) (hlen : rows.length ≤ tot)
    (hrow : ∀ (i : Nat) row, rows[i]? = some row → row.length = sz)
    (hrel : ∀ (i : Nat) row (j : Nat) c, rows[i]? = some row → row[j]? = some c → ∃ v, cs[i * sz + j]? = some v ∧ VR g v c) :
    Mv g w (g.newLoc h.next w.heap.size 0 sz tot) (World.more w (.cells cs T)) ∧ HR X (g.newLoc h.next w.heap.size 0 sz tot) (h.newRows sz rows) (World.more w (.cells cs T)) := by
  have hf := hh.fresh h.next (Nat.le_refl _)
  have hle : G.le g (g.newLoc h.next w.heap.size 0 sz tot) := by
    refine ⟨fun _ _ _ x => x, fun l x hx => ?_, fun _ _ x => x⟩
    simp only [G.newLoc]
    rw [if_neg (by intro e; subst e; rw [hf.1] at hx; cases hx)]; exact hx
  have hown : ∀ b, (g.newLoc h.next w.heap.size 0 sz tot).owns b → g.owns b ∨ b = w.heap.size := by
    rintro b (⟨l, x, hx, rfl⟩ | hb)
    · simp only [G.newLoc] at hx
      by_cases e : l = h.next
      · rw [if_pos e] at hx; cases hx; exact .inr rfl
      · rw [if_neg e] at hx; exact .inl (.inl ⟨l, x, hx, rfl⟩)
    · exact .inl (.inr hb)
  refine ⟨⟨hle, fun b hb => ?_, fun b k v hb => .inl hb, by rw [more_size]; omega, fun b hb _ => more_old hb, rfl, rfl, rfl⟩, ?_⟩
  · rcases hown b hb with x | x
    · exact .inl x
    · exact .inr (by omega)
  · refine ⟨hh.glk fun b hb _ => more_old hb, fun b hb => ?_, by rw [more_size]; exact Nat.le_succ_of_le hh.n0, ?_, ?_, ?_, ?_, ?_, ?_, ?_⟩
    · rcases hown b hb with x | x
      · exact hh.own0 b x
      · rw [x]; exact hh.n0
    · intro b k v hb
      have h1 := hh.imm b k v hb
      obtain ⟨c, t, fr, h2, h3⟩ := cell_some h1
      exact cell_of (by rw [more_old (get_lt h2)]; exact h2) h3
    · intro l sz' rows' fz hl
      simp only [H.get, H.newRows, lk] at hl
      by_cases e : l = h.next
      · rw [if_pos e] at hl
        cases hl
        refine ⟨w.heap.size, 0, tot, cs, T, (0, 0), by simp [G.newLoc, e], more_new, rfl, hlen, by omega, hrow, ?_, ?_⟩
        · intro i row j c h1 h2
          obtain ⟨v, h3, h4⟩ := hrel i row j c h1 h2
          exact ⟨v, by simpa using h3, h4.mono hle, fun h => by cases h⟩
        · intro k _ _ _
          cases hi : g.imm w.heap.size k with
          | none => exact hi
          | some v => exact absurd (cell_lt (hh.imm _ _ _ hi)) (by omega)
      · rw [if_neg e] at hl
        obtain ⟨b, base, tot', cs', T', fr, h1, h2, h3, h4, h5, h6, h7, h8⟩ := hh.rows l sz' rows' fz hl
        refine ⟨b, base, tot', cs', T', fr, hle.loc _ _ h1, by rw [more_old (get_lt h2)]; exact h2, h3, h4, h5, h6, ?_, h8⟩
        intro i row j c a1 a2
        obtain ⟨v, a3, a4, a5⟩ := h7 i row j c a1 a2
        exact ⟨v, a3, a4.mono hle, a5⟩
    · intro l kv hl
      simp only [H.get, H.newRows, lk] at hl
      by_cases e : l = h.next
      · rw [if_pos e] at hl; cases hl
      · rw [if_neg e] at hl
        obtain ⟨r, es, clock, h1, h2, h3, h4⟩ := hh.maps l kv hl
        exact ⟨r, es, clock, h1, by rw [more_old (get_lt h2)]; exact h2, h3, fun i e k v a1 a2 => ⟨(h4 i e k v a1 a2).1.mono hle, (h4 i e k v a1 a2).2.mono hle⟩⟩
    · intro l T' row hl
      simp only [H.get, H.newRows, lk] at hl
      by_cases e : l = h.next
      · rw [if_pos e] at hl; cases hl
      · rw [if_neg e] at hl
        obtain ⟨b, cs', h1, h2, h3, h4, h5⟩ := hh.cells l T' row hl
        exact ⟨b, cs', hle.loc _ _ h1, by rw [more_old (get_lt h2)]; exact h2, h3, fun j c a1 => by obtain ⟨v, a3, a4⟩ := h4 j c a1; exact ⟨v, a3, a4.mono hle⟩, h5⟩
    · have hz : ∀ l b, l ≠ h.next → ((∃ z, (g.newLoc h.next w.heap.size 0 sz tot).loc l = some z ∧ z.1 = b) ∨ (g.newLoc h.next w.heap.size 0 sz tot).mp l = some b) → ((∃ z, g.loc l = some z ∧ z.1 = b) ∨ g.mp l = some b) := by
        intro l b hl hx
        simpa only [G.newLoc, if_neg hl] using hx
      have hn : ∀ b, ((∃ z, (g.newLoc h.next w.heap.size 0 sz tot).loc h.next = some z ∧ z.1 = b) ∨ (g.newLoc h.next w.heap.size 0 sz tot).mp h.next = some b) → b = w.heap.size := by
        rintro b (⟨z, hz, rfl⟩ | hx)
        · simp only [G.newLoc, if_true, Option.some.injEq] at hz; rw [← hz]
        · simp only [G.newLoc, hf.2] at hx; cases hx
      have ho : ∀ l b, ((∃ z, g.loc l = some z ∧ z.1 = b) ∨ g.mp l = some b) → b < w.heap.size := by
        rintro l b (⟨z, h1, rfl⟩ | h1)
        · exact hh.owned _ (.inl ⟨l, z, h1, rfl⟩)
        · exact hh.owned _ (.inr ⟨l, h1⟩)
      intro l l' x y b hne hl hl' h1 h2
      simp only [H.get, H.newRows, lk] at hl hl'
      by_cases e : l = h.next
      · subst e
        have e' : l' ≠ h.next := fun e => hne e.symm
        have := hn b h1
        have := ho l' b (hz l' b e' h2)
        omega
      · by_cases e' : l' = h.next
        · subst e'
          have := hn b h2
          have := ho l b (hz l b e h1)
          omega
        · rw [if_neg e] at hl
          rw [if_neg e'] at hl'
          exact hh.apart l l' x y b hne hl hl' (hz l b e h1) (hz l' b e' h2)
    · intro l hl
      simp only [H.newRows] at hl
      have := hh.fresh l (by omega)
      refine ⟨?_, this.2⟩
      simp only [G.newLoc]; rw [if_neg (by omega)]; exact this.1
    · intro b hb
      rw [more_size]
      rcases hown b hb with x | x
      · have := hh.owned b x; omega
      · omega

def G.newImm (g : G) (b : Nat) (cs : Array Value) : G := { g with imm := fun x k => if x = b then cs[k]? else g.imm x k }

theorem HR.newImm {g : G} {h : H} {w : World} (hh : HR X g h w) (cs : Array Value) (T : TypeId) :
    Mv g w (g.newImm w.heap.size cs) (World.more w (.cells cs T)) ∧ HR X (g.newImm w.heap.size cs) h (World.more w (.cells cs T)) := by
  have hno : ∀ k, g.imm w.heap.size k = none := by
    intro k
    cases hi : g.imm w.heap.size k with
    | none => rfl
    | some v => exact absurd (cell_lt (hh.imm _ _ _ hi)) (by omega)
  have hle : G.le g (g.newImm w.heap.size cs) := by
    refine ⟨fun b k v x => ?_, fun _ _ x => x, fun _ _ x => x⟩
    simp only [G.newImm]
    rw [if_neg (by intro e; subst e; rw [hno] at x; cases x)]; exact x
  refine ⟨⟨hle, fun b hb => .inl hb, fun b k v hb => ?_, by rw [more_size]; omega, fun b hb _ => more_old hb, rfl, rfl, rfl⟩, ?_⟩
  · simp only [G.newImm] at hb
    by_cases e : b = w.heap.size
    · exact .inr (.inr (by omega))
    · rw [if_neg e] at hb; exact .inl hb
  · refine ⟨hh.glk fun b hb _ => more_old hb, hh.own0, by rw [more_size]; exact Nat.le_succ_of_le hh.n0, ?_, ?_, ?_, ?_, ?_, hh.fresh, ?_⟩
    · intro b k v hb
      simp only [G.newImm] at hb
      by_cases e : b = w.heap.size
      · rw [if_pos e] at hb; subst e; exact cell_of more_new hb
      · rw [if_neg e] at hb
        have h1 := hh.imm b k v hb
        obtain ⟨c, t, fr, h2, h3⟩ := cell_some h1
        exact cell_of (by rw [more_old (get_lt h2)]; exact h2) h3
    · intro l sz' rows' fz hl
      obtain ⟨b, base, tot', cs', T', fr, h1, h2, h3, h4, h5, h6, h7, h8⟩ := hh.rows l sz' rows' fz hl
      have hb := get_lt h2
      refine ⟨b, base, tot', cs', T', fr, h1, by rw [more_old hb]; exact h2, h3, h4, h5, h6, ?_, ?_⟩
      · intro i row j c a1 a2
        obtain ⟨v, a3, a4, a5⟩ := h7 i row j c a1 a2
        exact ⟨v, a3, a4.mono hle, fun a => by simp only [G.newImm]; rw [if_neg (by omega)]; exact a5 a⟩
      · intro k a1 a2 a3
        simp only [G.newImm]; rw [if_neg (by omega)]; exact h8 k a1 a2 a3
    · intro l kv hl
      obtain ⟨r, es, clock, h1, h2, h3, h4⟩ := hh.maps l kv hl
      exact ⟨r, es, clock, h1, by rw [more_old (get_lt h2)]; exact h2, h3, fun i e k v a1 a2 => ⟨(h4 i e k v a1 a2).1.mono hle, (h4 i e k v a1 a2).2.mono hle⟩⟩
    · intro l T' row hl
      obtain ⟨b, cs', h1, h2, h3, h4, h5⟩ := hh.cells l T' row hl
      have hb := get_lt h2
      exact ⟨b, cs', h1, by rw [more_old hb]; exact h2, h3, fun j c a1 => by obtain ⟨v, a3, a4⟩ := h4 j c a1; exact ⟨v, a3, a4.mono hle⟩, fun k => by simp only [G.newImm]; rw [if_neg (by omega)]; exact h5 k⟩
    · exact fun l l' x y b => hh.apart l l' x y b
    · intro b hb
      have := hh.owned b hb
      rw [more_size]; omega

/-! ### from a run to a step -/
theorem opOK_pure {P : Program} {o : Oper} {ρ : Operand → V} {h : H} {v : V}
    (hr : ∀ (g : G) (w : World) (e : Operand → Value), (∀ x ∈ o.op.operands, VR g (e x) (ρ x)) → HR X g h w → ∃ val, (execOp e o).run P w = .ok (.value val) w ∧ VR g val v) : OpOK X P o ρ h v h := by
  intro g w e hx hh
  obtain ⟨val, h1, h2⟩ := hr g w e hx hh
  unfold Goes
  rw [h1]
  exact ⟨g, .refl g w, hh, h2⟩

def evo (env : Env) : Operand → Option V
  | .tmp t => lk env t
  | .const v => some (.sc v)
  | .global g => some (.sc (.pointer (some ⟨g, 0, none⟩)))
  | .func f => some (.fn (.func f) [] [])
theorem ev_of {env : Env} {x : Operand} {v : V} (h : evo env x = some v) : ev env x = v := by
  cases x with
  | tmp t => simp only [evo] at h; simp [ev, Env.get, h]
  | const u => simp only [evo, Option.some.injEq] at h; exact h
  | global g => simp only [evo, Option.some.injEq] at h; exact h
  | func f => simp only [evo, Option.some.injEq] at h; exact h

def evoL (env : Env) : List Operand → Option (List V)
  | [] => some []
  | x :: xs => (evo env x).bind fun v => (evoL env xs).map fun vs => v :: vs
theorem evoL_map {env : Env} : ∀ {xs : List Operand} {vs : List V}, evoL env xs = some vs → xs.map (evo env) = vs.map some
  | [], vs, h => by simp only [evoL, Option.some.injEq] at h; subst h; rfl
  | x :: xs, vs, h => by
    simp only [evoL] at h
    cases hx : evo env x with
    | none => rw [hx] at h; cases h
    | some v =>
      rw [hx] at h
      simp only [Option.bind_some] at h
      cases hr : evoL env xs with
      | none => rw [hr] at h; cases h
      | some ws =>
        rw [hr] at h
        simp only [Option.map_some, Option.some.injEq] at h
        subst h
        simp [hx, evoL_map hr]

section rules
variable {P : Program} {o : Oper} {env : Env} {h : H}

/-- A pure step out of a run that holds in every world. -/
theorem s_pure {v : V} (hr : ∀ (g : G) (w : World) (e : Operand → Value), (∀ x ∈ o.op.operands, VR g (e x) (ev env x)) → ∃ val, (execOp e o).run P w = .ok (.value val) w ∧ VR g val v) : StepV X P o env h v h .p :=
  ⟨fun _ => opOK_pure fun g w e hx _ => hr g w e hx, rfl⟩

theorem s_mv {x : Operand} {v : V} (ho : o.op = .move x) (hx : evo env x = some v) : StepV X P o env h v h .p := by
  refine s_pure fun g w e he => ?_
  have := he x (by rw [ho]; simp [Op.operands])
  rw [ev_of hx] at this
  exact ⟨e x, by simp [execOp, ho], this⟩
theorem s_as {x : Operand} {v : V} (ho : o.op = .assign x) (hx : evo env x = some v) : StepV X P o env h v h .p := by
  refine s_pure fun g w e he => ?_
  have := he x (by rw [ho]; simp [Op.operands])
  rw [ev_of hx] at this
  exact ⟨e x, by simp [execOp, ho], this⟩

theorem s_pickT {c x y : Operand} {b : Bool} {v : V} (ho : o.op = .pick c x y) (hc : evo env c = some (.sc (.bool b))) (hb : b = true) (hx : evo env x = some v) : StepV X P o env h v h .p := by
  refine s_pure fun g w e he => ?_
  have h1 := he c (by rw [ho]; simp [Op.operands])
  have h2 := he x (by rw [ho]; simp [Op.operands])
  rw [ev_of hc] at h1
  rw [ev_of hx] at h2
  exact ⟨e x, by simp [execOp, ho, h1.sc_inv, hb, asBool], h2⟩
theorem s_pickF {c x y : Operand} {b : Bool} {v : V} (ho : o.op = .pick c x y) (hc : evo env c = some (.sc (.bool b))) (hb : b = false) (hy : evo env y = some v) : StepV X P o env h v h .p := by
  refine s_pure fun g w e he => ?_
  have h1 := he c (by rw [ho]; simp [Op.operands])
  have h2 := he y (by rw [ho]; simp [Op.operands])
  rw [ev_of hc] at h1
  rw [ev_of hy] at h2
  exact ⟨e y, by simp [execOp, ho, h1.sc_inv, hb, asBool], h2⟩

/-- Operators on whole numbers. -/
def iop : BinOp → IntKind → Int → Int → Option Value
  | .add, k, a, b => some (.int k (k.wrap (a + b)))
  | .sub, k, a, b => some (.int k (k.wrap (a - b)))
  | .mul, k, a, b => some (.int k (k.wrap (a * b)))
  | .and, k, a, b => some (.int k (k.wrap (BitVec.ofInt k.bits a &&& BitVec.ofInt k.bits b).toNat))
  | .or, k, a, b => some (.int k (k.wrap (BitVec.ofInt k.bits a ||| BitVec.ofInt k.bits b).toNat))
  | .xor, k, a, b => some (.int k (k.wrap (BitVec.ofInt k.bits a ^^^ BitVec.ofInt k.bits b).toNat))
  | .andNot, k, a, b => some (.int k (k.wrap (BitVec.ofInt k.bits a &&& ~~~ BitVec.ofInt k.bits b).toNat))
  | .eql, _, a, b => some (.bool (a == b))
  | .neq, _, a, b => some (.bool (a != b))
  | .lss, _, a, b => some (.bool (decide (a < b)))
  | .leq, _, a, b => some (.bool (decide (a ≤ b)))
  | .gtr, _, a, b => some (.bool (decide (a > b)))
  | .geq, _, a, b => some (.bool (decide (a ≥ b)))
  | _, _, _, _ => none

theorem s_bin {op : BinOp} {T T' : TypeId} {x y : Operand} {k : IntKind} {a b : Int} {r : Value} (ho : o.op = .binOp op T x y T') (hx : evo env x = some (.sc (.int k a))) (hy : evo env y = some (.sc (.int k b)))
    (hr : iop op k a b = some r) : StepV X P o env h (.sc r) h .p := by
  refine s_pure fun g w e he => ?_
  have h1 := he x (by rw [ho]; simp [Op.operands])
  have h2 := he y (by rw [ho]; simp [Op.operands])
  rw [ev_of hx] at h1
  rw [ev_of hy] at h2
  refine ⟨r, ?_, .sc r⟩
  simp only [execOp, ho, h1.sc_inv, h2.sc_inv, eqGuard]
  cases op <;> simp only [iop, Option.some.injEq] at hr <;> first
    | (subst hr; simp [binOp, Op.intArith, Op.intBits, Op.intCmp]; done)
    | cases hr

theorem s_quo {T T' : TypeId} {x y : Operand} {k : IntKind} {a b : Int} (ho : o.op = .binOp .quo T x y T') (hx : evo env x = some (.sc (.int k a))) (hy : evo env y = some (.sc (.int k b)))
    (hb : b ≠ 0) : StepV X P o env h (.sc (.int k (k.wrap (a.tdiv b)))) h .p := by
  refine s_pure fun g w e he => ?_
  have h1 := he x (by rw [ho]; simp [Op.operands])
  have h2 := he y (by rw [ho]; simp [Op.operands])
  rw [ev_of hx] at h1
  rw [ev_of hy] at h2
  refine ⟨_, ?_, .sc _⟩
  simp only [execOp, ho, h1.sc_inv, h2.sc_inv, eqGuard]
  simp [binOp, Op.intDiv, hb]
theorem s_rem {T T' : TypeId} {x y : Operand} {k : IntKind} {a b : Int} (ho : o.op = .binOp .rem T x y T') (hx : evo env x = some (.sc (.int k a))) (hy : evo env y = some (.sc (.int k b)))
    (hb : b ≠ 0) : StepV X P o env h (.sc (.int k (a.tmod b))) h .p := by
  refine s_pure fun g w e he => ?_
  have h1 := he x (by rw [ho]; simp [Op.operands])
  have h2 := he y (by rw [ho]; simp [Op.operands])
  rw [ev_of hx] at h1
  rw [ev_of hy] at h2
  refine ⟨_, ?_, .sc _⟩
  simp only [execOp, ho, h1.sc_inv, h2.sc_inv, eqGuard]
  simp [binOp, Op.intDiv, hb]
theorem s_shl {T T' : TypeId} {x y : Operand} {k k' : IntKind} {a b : Int} (ho : o.op = .binOp .shl T x y T') (hx : evo env x = some (.sc (.int k a))) (hy : evo env y = some (.sc (.int k' b)))
    (hb : 0 ≤ b) : StepV X P o env h (.sc (.int k (k.wrap (a * 2 ^ min b.toNat k.bits)))) h .p := by
  refine s_pure fun g w e he => ?_
  have h1 := he x (by rw [ho]; simp [Op.operands])
  have h2 := he y (by rw [ho]; simp [Op.operands])
  rw [ev_of hx] at h1
  rw [ev_of hy] at h2
  refine ⟨_, ?_, .sc _⟩
  simp only [execOp, ho, h1.sc_inv, h2.sc_inv, eqGuard]
  simp [binOp, Op.shift, Int.not_lt.2 hb]
theorem s_shr {T T' : TypeId} {x y : Operand} {k k' : IntKind} {a b : Int} (ho : o.op = .binOp .shr T x y T') (hx : evo env x = some (.sc (.int k a))) (hy : evo env y = some (.sc (.int k' b)))
    (hb : 0 ≤ b) : StepV X P o env h (.sc (.int k (a.fdiv (2 ^ min b.toNat k.bits)))) h .p := by
  refine s_pure fun g w e he => ?_
  have h1 := he x (by rw [ho]; simp [Op.operands])
  have h2 := he y (by rw [ho]; simp [Op.operands])
  rw [ev_of hx] at h1
  rw [ev_of hy] at h2
  refine ⟨_, ?_, .sc _⟩
  simp only [execOp, ho, h1.sc_inv, h2.sc_inv, eqGuard]
  simp [binOp, Op.shift, Int.not_lt.2 hb]

/-- Operators on strings. -/
def sop : BinOp → ByteArray → ByteArray → Option Value
  | .eql, a, b => some (.bool (a.toList == b.toList))
  | .neq, a, b => some (.bool (!(a.toList == b.toList)))
  | _, _, _ => none
theorem s_str {op : BinOp} {T T' : TypeId} {x y : Operand} {a b : ByteArray} {r : Value} (ho : o.op = .binOp op T x y T') (hx : evo env x = some (.sc (.string a))) (hy : evo env y = some (.sc (.string b)))
    (hr : sop op a b = some r) : StepV X P o env h (.sc r) h .p := by
  refine s_pure fun g w e he => ?_
  have h1 := he x (by rw [ho]; simp [Op.operands])
  have h2 := he y (by rw [ho]; simp [Op.operands])
  rw [ev_of hx] at h1
  rw [ev_of hy] at h2
  refine ⟨r, ?_, .sc r⟩
  simp only [execOp, ho, h1.sc_inv, h2.sc_inv, eqGuard]
  cases op <;> simp only [sop, Option.some.injEq] at hr <;> first
    | (subst hr; simp [binOp, Op.stringOp]; done)
    | cases hr
theorem s_cat {T T' : TypeId} {x y : Operand} {a b : ByteArray} (ho : o.op = .binOp .add T x y T') (hx : evo env x = some (.sc (.string a))) (hy : evo env y = some (.sc (.string b)))
    (hr : a.size + b.size < 9223372036854775808) : StepV X P o env h (.sc (.string (a ++ b))) h .p := by
  refine s_pure fun g w e he => ?_
  have h1 := he x (by rw [ho]; simp [Op.operands])
  have h2 := he y (by rw [ho]; simp [Op.operands])
  rw [ev_of hx] at h1
  rw [ev_of hy] at h2
  refine ⟨_, ?_, .sc _⟩
  simp only [execOp, ho, h1.sc_inv, h2.sc_inv, eqGuard]
  have h3 : ¬ (((a.size + b.size : Nat) : Int) > IntKind.i64.max) := by
    have : IntKind.i64.max = 9223372036854775807 := by decide
    rw [this]; omega
  simp only [binOp, Op.stringOp]
  rw [if_neg h3]
  simp

theorem s_not {T : TypeId} {x : Operand} {b : Bool} (ho : o.op = .unOp .not T x) (hx : evo env x = some (.sc (.bool b))) : StepV X P o env h (.sc (.bool (!b))) h .p := by
  refine s_pure fun g w e he => ?_
  have h1 := he x (by rw [ho]; simp [Op.operands])
  rw [ev_of hx] at h1
  exact ⟨_, by simp [execOp, ho, h1.sc_inv, Op.unary], .sc _⟩
theorem s_compl {T : TypeId} {x : Operand} {k : IntKind} {a : Int} {r : Value} (ho : o.op = .unOp .xor T x) (hx : evo env x = some (.sc (.int k a))) (hr : iop .xor k (if k.signed then -1 else k.max) a = some r) : StepV X P o env h (.sc r) h .p := by
  refine s_pure fun g w e he => ?_
  have h1 := he x (by rw [ho]; simp [Op.operands])
  rw [ev_of hx] at h1
  simp only [iop, Option.some.injEq] at hr
  subst hr
  exact ⟨_, by simp [execOp, ho, h1.sc_inv, Op.unary, Op.intBits], .sc _⟩
theorem s_neg {T : TypeId} {x : Operand} {k : IntKind} {a : Int} (ho : o.op = .unOp .neg T x) (hx : evo env x = some (.sc (.int k a))) : StepV X P o env h (.sc (.int k (k.wrap (0 - a)))) h .p := by
  refine s_pure fun g w e he => ?_
  have h1 := he x (by rw [ho]; simp [Op.operands])
  rw [ev_of hx] at h1
  exact ⟨_, by simp [execOp, ho, h1.sc_inv, Op.unary, Op.intArith], .sc _⟩

theorem run_eqb {T : TypeId} (hu : ∀ w, (underlying T).run P w = .ok .bool w) (a b : Bool) (d : Nat) (w : World) : (Op.equalIn (d + 1) T (.bool a) (.bool b)).run P w = .ok (a == b) w := by
  simp [Op.equalIn, hu]
/-- '==' on two bools. -/
theorem s_beq {T T' : TypeId} {x y : Operand} {a b : Bool} (ho : o.op = .binOp .eql T x y T') (hu : ∀ w, (underlying T).run P w = .ok .bool w) (hx : evo env x = some (.sc (.bool a))) (hy : evo env y = some (.sc (.bool b))) :
    StepV X P o env h (.sc (.bool (a == b))) h .p := by
  refine s_pure fun g w e he => ?_
  have h1 := he x (by rw [ho]; simp [Op.operands])
  have h2 := he y (by rw [ho]; simp [Op.operands])
  rw [ev_of hx] at h1
  rw [ev_of hy] at h2
  refine ⟨_, ?_, .sc _⟩
  simp only [execOp, ho, h1.sc_inv, h2.sc_inv, eqGuard]
  have h3 := run_eqb hu a b 9999 w
  simp only [binOp, Op.equal, Op.maxDepth]
  simp [h3]
theorem s_bne {T T' : TypeId} {x y : Operand} {a b : Bool} (ho : o.op = .binOp .neq T x y T') (hu : ∀ w, (underlying T).run P w = .ok .bool w) (hx : evo env x = some (.sc (.bool a))) (hy : evo env y = some (.sc (.bool b))) :
    StepV X P o env h (.sc (.bool (!(a == b)))) h .p := by
  refine s_pure fun g w e he => ?_
  have h1 := he x (by rw [ho]; simp [Op.operands])
  have h2 := he y (by rw [ho]; simp [Op.operands])
  rw [ev_of hx] at h1
  rw [ev_of hy] at h2
  refine ⟨_, ?_, .sc _⟩
  simp only [execOp, ho, h1.sc_inv, h2.sc_inv, eqGuard]
  have h3 := run_eqb hu a b 9999 w
  simp only [binOp, Op.equal, Op.maxDepth]
  simp [h3]

theorem s_conv {T U : TypeId} {d : TypeDesc} {x : Operand} {k k' : IntKind} {a : Int} (ho : o.op = .convert T U x) (hT : ∀ w, (underlying T).run P w = .ok d w) (hU : ∀ w, (underlying U).run P w = .ok (.int k') w)
    (hx : evo env x = some (.sc (.int k a))) : StepV X P o env h (.sc (.int k' (k'.wrap a))) h .p := by
  refine s_pure fun g w e he => ?_
  have h1 := he x (by rw [ho]; simp [Op.operands])
  rw [ev_of hx] at h1
  exact ⟨_, by simp [execOp, ho, h1.sc_inv, convert, hT, hU, Conv.intToInt], .sc _⟩

theorem s_ext {x : Operand} {n : Nat} {vs : List V} {v : V} (ho : o.op = .extract x n) (hx : evo env x = some (.tup vs)) (hv : vs[n]? = some v) : StepV X P o env h v h .p := by
  refine s_pure fun g w e he => ?_
  have h1 := he x (by rw [ho]; simp [Op.operands])
  rw [ev_of hx] at h1
  generalize hcs : e x = u at h1
  cases h1 with
  | tup cs _ hs hr =>
    have hlt : n < cs.size := by rw [hs]; exact (List.getElem?_eq_some_iff.1 hv).1
    exact ⟨cs[n], by simp [execOp, ho, hcs, Instr.extract, Array.getElem?_eq_getElem hlt], hr n _ _ (Array.getElem?_eq_getElem hlt) hv⟩

theorem s_nilc {x : Operand} {v : V} (ho : o.op = .nilCheck x) (hx : evo env x = some v) (hv : (match v with | .ip _ => true | .ptr .. => true | .fn (.func _) .. => true | _ => false) = true) : StepV X P o env h v h .p := by
  refine s_pure fun g w e he => ?_
  have h1 := he x (by rw [ho]; simp [Op.operands])
  rw [ev_of hx] at h1
  generalize hcs : e x = u at h1
  cases h1 with
  | ip b o' cs f h2 h3 => exact ⟨_, by simp [execOp, ho, hcs], .ip b o' cs f h2 h3⟩
  | ptr l i j b base sz tot h2 => exact ⟨_, by simp [execOp, ho, hcs], .ptr l i j b base sz tot h2⟩
  | fn f a c a' c' h2 h3 h4 h5 =>
    cases f <;> simp at hv
    exact ⟨_, by simp [execOp, ho, hcs], .fn _ a c a' c' h2 h3 h4 h5⟩
  | _ => simp at hv

theorem s_func {f : Fn} {first cap : Array Operand} {a c : List V} (ho : o.op = .makeFunc f first cap) (ha' : evoL env first.toList = some a) (hc' : evoL env cap.toList = some c) : StepV X P o env h (.fn f a c) h .p := by
  have ha := evoL_map ha'
  have hc := evoL_map hc'
  refine s_pure fun g w e he => ?_
  have key : ∀ (xs : Array Operand) (vs : List V), xs.toList.map (evo env) = vs.map some → (∀ x ∈ xs, x ∈ o.op.operands) → (xs.map e).size = vs.length ∧ ∀ (i : Nat) v W, (xs.map e)[i]? = some v → vs[i]? = some W → VR g v W := by
    intro xs vs hv hm
    have hl : xs.size = vs.length := by have := congrArg List.length hv; simpa using this
    refine ⟨by simp [hl], fun i v W h1 h2 => ?_⟩
    rw [Array.getElem?_map] at h1
    cases hx : xs[i]? with
    | none => rw [hx] at h1; cases h1
    | some x =>
      rw [hx] at h1
      simp only [Option.map_some, Option.some.injEq] at h1
      subst h1
      have h3 : (xs.toList.map (evo env))[i]? = some (evo env x) := by simp [hx]
      rw [hv, List.getElem?_map, h2] at h3
      simp only [Option.map_some, Option.some.injEq] at h3
      rw [← ev_of h3.symm]
      exact he x (hm x (Array.mem_of_getElem? hx))
  have k1 := key first a ha (by intro x hx; rw [ho]; simp only [Op.operands]; exact Array.mem_append.2 (.inl hx))
  have k2 := key cap c hc (by intro x hx; rw [ho]; simp only [Op.operands]; exact Array.mem_append.2 (.inr hx))
  exact ⟨_, by simp only [execOp, ho, Instr.makeFunc]; rfl, .fn f _ _ a c k1.1 k2.1 k1.2 k2.2⟩
end rules

end Go.VM
