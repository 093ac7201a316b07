/- Values of Go read as trees, an abstract heap, and the relation to the model's memory. -/
import Derived.Orders
import Derived.LoopN
namespace Go.VM
open Go

inductive V where
  | unk
  | sc (v : Value)
  | agg (cs : List V)
  | tup (vs : List V)
  | lst (sz : Nat) (full : Bool) (rows : List (List V))
  | ip (cs : List V)
  | ptr (l i j : Nat)
  | ms (l i n : Nat) (full : Bool)
  | fn (f : Fn) (first cap : List V)
  | ifc (t : TypeId) (v : V)
  | mp (l : Nat)
  deriving Inhabited

structure G where
  imm : Nat → Nat → Option Value
  loc : Nat → Option (Nat × Nat × Nat × Nat)
  mp : Nat → Option Nat

def G.owns (g : G) (b : Nat) : Prop := (∃ l x, g.loc l = some x ∧ x.1 = b) ∨ (∃ l, g.mp l = some b)

structure G.le (g g' : G) : Prop where
  imm : ∀ b k v, g.imm b k = some v → g'.imm b k = some v
  loc : ∀ l x, g.loc l = some x → g'.loc l = some x
  mp : ∀ l x, g.mp l = some x → g'.mp l = some x

theorem G.le.refl (g : G) : G.le g g := ⟨fun _ _ _ h => h, fun _ _ h => h, fun _ _ h => h⟩
theorem G.le.trans {g g1 g2 : G} (h : G.le g g1) (h' : G.le g1 g2) : G.le g g2 :=
  ⟨fun _ _ _ x => h'.imm _ _ _ (h.imm _ _ _ x), fun _ _ x => h'.loc _ _ (h.loc _ _ x), fun _ _ x => h'.mp _ _ (h.mp _ _ x)⟩

inductive VR (g : G) : Value → V → Prop
  | unk (v : Value) : VR g v .unk
  | sc (v : Value) : VR g v (.sc v)
  | agg (cs : Array Value) (Vs : List V) : cs.size = Vs.length → (∀ (i : Nat) v W, cs[i]? = some v → Vs[i]? = some W → VR g v W) → VR g (.agg cs) (.agg Vs)
  | tup (cs : Array Value) (Vs : List V) : cs.size = Vs.length → (∀ (i : Nat) v W, cs[i]? = some v → Vs[i]? = some W → VR g v W) → VR g (.tuple cs) (.tup Vs)
  | nil (a : Option Addr) (sz : Nat) (full : Bool) : VR g (.slice a 0 0) (.lst sz full [])
  | lst (b o n cap sz : Nat) (full : Bool) (rows : List (List V)) (f : Nat → Nat → Value) : n = rows.length → n ≤ cap → (full = true → cap = n) →
      (∀ (i : Nat) row, rows[i]? = some row → row.length = sz) →
      (∀ (i : Nat) row (j : Nat) c, rows[i]? = some row → row[j]? = some c → g.imm b (o + i * sz + j) = some (f i j)) →
      (∀ (i : Nat) row (j : Nat) c, rows[i]? = some row → row[j]? = some c → VR g (f i j) c) →
      VR g (.slice (some ⟨b, o, none⟩) n cap) (.lst sz full rows)
  | ip (b o : Nat) (cs : List V) (f : Nat → Value) :
      (∀ (j : Nat) c, cs[j]? = some c → g.imm b (o + j) = some (f j)) → (∀ (j : Nat) c, cs[j]? = some c → VR g (f j) c) →
      VR g (.pointer (some ⟨b, o, none⟩)) (.ip cs)
  | ptr (l i j b base sz tot : Nat) : g.loc l = some (b, base, sz, tot) → VR g (.pointer (some ⟨b, base + i * sz + j, none⟩)) (.ptr l i j)
  | ms (l i n cap b base sz tot : Nat) (full : Bool) : g.loc l = some (b, base, sz, tot) → (full = true → cap = n) → (full = false → i + cap = tot) → n ≤ cap → i + cap ≤ tot →
      VR g (.slice (some ⟨b, base + i * sz, none⟩) n cap) (.ms l i n full)
  | fn (f : Fn) (a c : Array Value) (a' c' : List V) : a.size = a'.length → c.size = c'.length →
      (∀ (i : Nat) v W, a[i]? = some v → a'[i]? = some W → VR g v W) → (∀ (i : Nat) v W, c[i]? = some v → c'[i]? = some W → VR g v W) → VR g (.func f a c) (.fn f a' c')
  | ifc (t : TypeId) (v : Value) (W : V) : VR g v W → VR g (.iface t v) (.ifc t W)
  | mp (l r : Nat) : g.mp l = some r → VR g (.map (some r)) (.mp l)

theorem VR.mono {g g' : G} (hg : G.le g g') {v : Value} {W : V} (h : VR g v W) : VR g' v W := by
  induction h with
  | unk v => exact .unk v
  | sc v => exact .sc v
  | agg cs Vs hs _ ih => exact .agg cs Vs hs ih
  | tup cs Vs hs _ ih => exact .tup cs Vs hs ih
  | nil a sz full => exact .nil a sz full
  | lst b o n cap sz full rows f h1 h2 h3 h4 h5 _ ih => exact .lst b o n cap sz full rows f h1 h2 h3 h4 (fun i row j c a b => hg.imm _ _ _ (h5 i row j c a b)) ih
  | ip b o cs f h1 _ ih => exact .ip b o cs f (fun j c a => hg.imm _ _ _ (h1 j c a)) ih
  | ptr l i j b base sz tot h1 => exact .ptr l i j b base sz tot (hg.loc _ _ h1)
  | ms l i n cap b base sz tot full h1 h2 h3 h4 h5 => exact .ms l i n cap b base sz tot full (hg.loc _ _ h1) h2 h3 h4 h5
  | fn f a c a' c' h1 h2 _ _ ih1 ih2 => exact .fn f a c a' c' h1 h2 ih1 ih2
  | ifc t v W _ ih => exact .ifc t v W ih
  | mp l r h1 => exact .mp l r (hg.mp _ _ h1)

theorem VR.sc_inv {g : G} {v u : Value} (h : VR g v (.sc u)) : v = u := by cases h; rfl

/-! ### the abstract heap -/
inductive HB where
  | rows (sz : Nat) (rows : List (List V)) (fz : Bool)
  | map (kv : List (V × V))
  | cell (T : TypeId) (row : List V)
  deriving Inhabited

def lk {α : Type} : List (Nat × α) → Nat → Option α
  | [], _ => none
  | (k, v) :: r, n => if n = k then some v else lk r n

structure H where
  next : Nat
  bl : List (Nat × HB)

def H.get (h : H) (l : Nat) : Option HB := lk h.bl l

/-- A value that one cell can bear. -/
def V.one : V → Bool
  | .unk => false
  | .agg _ => false
  | .tup _ => false
  | .sc (.agg _) => false
  | .sc (.tuple _) => false
  | _ => true

/-- What is known of the blocks that were there ahead of the program's own: it hangs on the first n blocks alone. -/
structure Gx where
  n : Nat
  f : World → Prop
  keep : ∀ w w', (∀ b, b < n → w'.heap[b]? = w.heap[b]?) → f w → f w'

structure HR (X : Gx) (g : G) (h : H) (w : World) : Prop where
  gl : X.f w
  own0 : ∀ b, g.owns b → X.n ≤ b
  n0 : X.n ≤ w.heap.size
  imm : ∀ b k v, g.imm b k = some v → w.cell? ⟨b, k, none⟩ = some v
  rows : ∀ l sz rows fz, h.get l = some (.rows sz rows fz) → ∃ b base tot cs T fr, g.loc l = some (b, base, sz, tot) ∧ w.heap[b]? = some (.cells cs T fr) ∧
    fr.1 = fr.2 ∧ rows.length ≤ tot ∧ base + tot * sz ≤ cs.size ∧ (∀ (i : Nat) row, rows[i]? = some row → row.length = sz) ∧
    (∀ (i : Nat) row (j : Nat) c, rows[i]? = some row → row[j]? = some c → ∃ v, cs[base + i * sz + j]? = some v ∧ VR g v c ∧ (fz = true → g.imm b (base + i * sz + j) = some v)) ∧
    (∀ k, base ≤ k → k < base + tot * sz → (fz = true → base + rows.length * sz ≤ k) → g.imm b k = none)
  maps : ∀ l kv, h.get l = some (.map kv) → ∃ r es clock, g.mp l = some r ∧ w.heap[r]? = some (.map es clock) ∧ es.size = kv.length ∧
    (∀ (i : Nat) (e : MapEntry) k v, es[i]? = some e → kv[i]? = some (k, v) → VR g e.key k ∧ VR g e.val v)
  cells : ∀ l T row, h.get l = some (.cell T row) → ∃ b cs, g.loc l = some (b, 0, row.length, 1) ∧ w.heap[b]? = some (.cells cs T (0, 0)) ∧ cs.size = row.length ∧
    (∀ (j : Nat) c, row[j]? = some c → ∃ v, cs[j]? = some v ∧ VR g v c) ∧ ∀ k, g.imm b k = none
  apart : ∀ l l' x y b, l ≠ l' → h.get l = some x → h.get l' = some y → (∃ z, g.loc l = some z ∧ z.1 = b) ∨ g.mp l = some b → ¬ ((∃ z, g.loc l' = some z ∧ z.1 = b) ∨ g.mp l' = some b)
  fresh : ∀ l, h.next ≤ l → g.loc l = none ∧ g.mp l = none
  owned : ∀ b, g.owns b → b < w.heap.size

/-! ### moves of the world -/
structure Mv (g : G) (w : World) (g' : G) (w' : World) : Prop where
  le : G.le g g'
  own : ∀ b, g'.owns b → g.owns b ∨ w.heap.size ≤ b
  immn : ∀ b k v, g'.imm b k = some v → g.imm b k = some v ∨ g.owns b ∨ w.heap.size ≤ b
  size : w.heap.size ≤ w'.heap.size
  keep : ∀ b, b < w.heap.size → ¬ g.owns b → w'.heap[b]? = w.heap[b]?
  os : w'.os = w.os
  out : w'.output = w.output
  tape : w'.tape = w.tape

theorem Mv.refl (g : G) (w : World) : Mv g w g w :=
  ⟨.refl g, fun _ h => .inl h, fun _ _ _ h => .inl h, Nat.le_refl _, fun _ _ _ => rfl, rfl, rfl, rfl⟩

theorem Mv.trans {g g1 g2 : G} {w w1 w2 : World} (h : Mv g w g1 w1) (h' : Mv g1 w1 g2 w2) : Mv g w g2 w2 where
  le := h.le.trans h'.le
  own b hb := by
    rcases h'.own b hb with x | x
    · exact h.own b x
    · exact .inr (Nat.le_trans h.size x)
  immn b k v hb := by
    rcases h'.immn b k v hb with x | x | x
    · exact h.immn b k v x
    · rcases h.own b x with y | y
      · exact .inr (.inl y)
      · exact .inr (.inr y)
    · exact .inr (.inr (Nat.le_trans h.size x))
  size := Nat.le_trans h.size h'.size
  keep b hb hn := by
    rw [h'.keep b (Nat.lt_of_lt_of_le hb h.size) (fun x => by rcases h.own b x with y | y; exact hn y; omega), h.keep b hb hn]
  os := h'.os.trans h.os
  out := h'.out.trans h.out
  tape := h'.tape.trans h.tape

theorem HR.glk {X : Gx} {g : G} {h : H} {w w' : World} (hh : HR X g h w) (hk : ∀ b, b < w.heap.size → ¬ g.owns b → w'.heap[b]? = w.heap[b]?) : X.f w' :=
  X.keep w w' (fun b hb => hk b (Nat.lt_of_lt_of_le hb hh.n0) fun ho => absurd (hh.own0 b ho) (by omega)) hh.gl

/-- Only the count of draws has moved. -/
theorem Mv.drew (g : G) (w : World) (n : Nat) : Mv g w g { w with drawn := n } :=
  ⟨.refl g, fun _ h => .inl h, fun _ _ _ h => .inl h, Nat.le_refl _, fun _ _ _ => rfl, rfl, rfl, rfl⟩

theorem HR.drew {X : Gx} {g : G} {h : H} {w : World} (n : Nat) (hh : HR X g h w) : HR X g h { w with drawn := n } :=
  ⟨X.keep w _ (fun _ _ => rfl) hh.gl, hh.own0, hh.n0, hh.imm, hh.rows, hh.maps, hh.cells, hh.apart, hh.fresh, hh.owned⟩

/-- The same, where only the blocks below B are sure to keep their names. -/
structure MvB (B : Nat) (g : G) (w : World) (g' : G) (w' : World) : Prop where
  imm : ∀ b k v, g.imm b k = some v → g'.imm b k = some v
  loc : ∀ l x, l < B → g.loc l = some x → g'.loc l = some x
  mp : ∀ l x, l < B → g.mp l = some x → g'.mp l = some x
  own : ∀ b, g'.owns b → g.owns b ∨ w.heap.size ≤ b
  immn : ∀ b k v, g'.imm b k = some v → g.imm b k = some v ∨ g.owns b ∨ w.heap.size ≤ b
  size : w.heap.size ≤ w'.heap.size
  keep : ∀ b, b < w.heap.size → ¬ g.owns b → w'.heap[b]? = w.heap[b]?
  os : w'.os = w.os
  out : w'.output = w.output
  tape : w'.tape = w.tape
theorem Mv.toB {g g' : G} {w w' : World} (B : Nat) (h : Mv g w g' w') : MvB B g w g' w' :=
  ⟨h.le.imm, fun l x _ hx => h.le.loc l x hx, fun l x _ hx => h.le.mp l x hx, h.own, h.immn, h.size, h.keep, h.os, h.out, h.tape⟩
theorem MvB.refl (B : Nat) (g : G) (w : World) : MvB B g w g w := (Mv.refl g w).toB B
theorem MvB.trans {B : Nat} {g g1 g2 : G} {w w1 w2 : World} (h : MvB B g w g1 w1) (h' : MvB B g1 w1 g2 w2) : MvB B g w g2 w2 where
  imm b k v x := h'.imm _ _ _ (h.imm _ _ _ x)
  loc l x hl hx := h'.loc _ _ hl (h.loc _ _ hl hx)
  mp l x hl hx := h'.mp _ _ hl (h.mp _ _ hl hx)
  own b hb := by
    rcases h'.own b hb with x | x
    · exact h.own b x
    · exact .inr (Nat.le_trans h.size x)
  immn b k v hb := by
    rcases h'.immn b k v hb with x | x | x
    · exact h.immn b k v x
    · rcases h.own b x with y | y
      · exact .inr (.inl y)
      · exact .inr (.inr y)
    · exact .inr (.inr (Nat.le_trans h.size x))
  size := Nat.le_trans h.size h'.size
  keep b hb hn := by
    rw [h'.keep b (Nat.lt_of_lt_of_le hb h.size) (fun x => by rcases h.own b x with y | y; exact hn y; omega), h.keep b hb hn]
  os := h'.os.trans h.os
  out := h'.out.trans h.out
  tape := h'.tape.trans h.tape
theorem MvB.full {X : Gx} {B : Nat} {g g' : G} {h : H} {w w' : World} (hh : HR X g h w) (hB : h.next ≤ B) (m : MvB B g w g' w') : Mv g w g' w' := by
  refine ⟨⟨m.imm, fun l x hx => m.loc l x ?_ hx, fun l x hx => m.mp l x ?_ hx⟩, m.own, m.immn, m.size, m.keep, m.os, m.out, m.tape⟩
  · rcases Nat.lt_or_ge l B with h1 | h1
    · exact h1
    · rw [(hh.fresh l (by omega)).1] at hx; cases hx
  · rcases Nat.lt_or_ge l B with h1 | h1
    · exact h1
    · rw [(hh.fresh l (by omega)).2] at hx; cases hx

/-! ### operations -/
def Goes (P : Program) (s : Sem Next) (w : World) (R : Value → World → Prop) : Prop :=
  match s.run P w with
  | .ok (.value v) w' => R v w'
  | .ok .skip w' => R undef w'
  | .ok (.enter f args) w' => Calls P f args w' fun e w'' => ∃ v, e = .returned v ∧ R v w''
  | _ => False

theorem Goes.wp {P : Program} {o : Oper} {a : Act} {w : World} {R : Value → World → Prop} {K : Act → World → Prop} {Q : Exit → Act → World → Prop}
    (h : Goes P (execOp a.eval o) w R) (hK : ∀ v w', R v w' → K (a.put o.dst v) w') : o.wp P a w K Q := by
  unfold Goes at h
  unfold Oper.wp
  generalize (execOp a.eval o).run P w = r at *
  cases r with
  | ok n w' =>
    cases n <;> simp only at h <;> simp only [Oper.upon]
    case value u => exact hK _ _ h
    case skip => exact hK _ _ h
    case enter f args => exact h.mono fun e w'' ⟨v, he, hr⟩ => by subst he; exact hK _ _ hr
  | halt x w' => exact h.elim

def OpOK (X : Gx) (P : Program) (o : Oper) (ρ : Operand → V) (h : H) (v : V) (h' : H) : Prop :=
  ∀ (g : G) (w : World) (e : Operand → Value), (∀ x ∈ o.op.operands, VR g (e x) (ρ x)) → HR X g h w →
    Goes P (execOp e o) w fun val w' => ∃ g', Mv g w g' w' ∧ HR X g' h' w' ∧ VR g' val v

abbrev Env := List (Nat × V)
def Env.get (env : Env) (t : Nat) : V := (lk env t).getD .unk
def Env.put (env : Env) (d : Option Nat) (v : V) : Env :=
  match d with
  | some d => (d, v) :: env
  | none => env
def ev (env : Env) : Operand → V
  | .tmp t => env.get t
  | .const v => .sc v
  | .global g => .sc (.pointer (some ⟨g, 0, none⟩))
  | .func f => .fn (.func f) [] []

structure AR (N : Nat) (g : G) (env : Env) (a : Act) : Prop where
  size : a.tmps.size = N
  defers : a.defers = []
  at_ : ∀ t v, lk env t = some v → VR g (a.tmps.getD t undef) v

theorem AR.mono {N : Nat} {g g' : G} {env : Env} {a : Act} (hg : G.le g g') (h : AR N g env a) : AR N g' env a :=
  ⟨h.size, h.defers, fun t v x => (h.at_ t v x).mono hg⟩

theorem AR.get {N : Nat} {g : G} {env : Env} {a : Act} (h : AR N g env a) (t : Nat) : VR g (a.tmps.getD t undef) (env.get t) := by
  unfold Env.get
  cases hl : lk env t with
  | none => exact .unk _
  | some v => exact h.at_ t v hl

theorem AR.ev {N : Nat} {g : G} {env : Env} {a : Act} (h : AR N g env a) (x : Operand) : VR g (a.eval x) (ev env x) := by
  cases x with
  | tmp t => exact h.get t
  | const v => exact .sc v
  | global g => exact .sc _
  | func f => exact .fn _ _ _ _ _ rfl rfl (by simp) (by simp)

theorem AR.put {N : Nat} {g : G} {env : Env} {a : Act} (h : AR N g env a) {d : Option Nat} (hd : d.all (· < N) = true) {val : Value} {v : V} (hv : VR g val v) :
    AR N g (env.put d v) (a.put d val) := by
  cases d with
  | none => exact h
  | some d =>
    have hd' : d < a.tmps.size := by rw [h.size]; simpa using hd
    refine ⟨by simp [Act.put, h.size], h.defers, fun t u ht => ?_⟩
    simp only [Env.put, lk] at ht
    by_cases e : t = d
    · subst e
      simp only [if_true, Option.some.injEq] at ht
      subst ht
      simpa [Act.put, hd'] using hv
    · simp only [if_neg e] at ht
      have := h.at_ t u ht
      simpa [Act.put, Array.getElem?_setIfInBounds, Ne.symm e] using this

end Go.VM
