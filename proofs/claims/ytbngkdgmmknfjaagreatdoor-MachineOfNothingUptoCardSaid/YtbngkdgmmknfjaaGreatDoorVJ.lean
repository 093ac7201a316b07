/- append to nil or to what is full; make; comparisons with nil; functions of the library by their contracts. -/
import Derived.Test.YtbngkdgmmknfjaaGreatDoorVI
import Derived.Below
namespace Go.VM
open Go
variable {X : Gx}

section rules
variable {P : Program} {o : Oper} {env : Env} {h : H}

/-- The array is new in any case: nothing was there, or there is no room. -/
theorem s_appn {T U E : TypeId} {x y : Operand} {sz : Nat} {olds src : List (List V)} {V0 W : V} {inf : TypeInfo} {z : Value}
    (ho : o.op = .call { callee := .builtin .append, args := #[x, y], argTypes := #[T, U] }) (hu : ∀ w, (underlying T).run P w = .ok (.slice E) w) (hnz : ∃ d, (∀ w, (underlying U).run P w = .ok d w) ∧ ∀ k, d ≠ .int k)
    (hs : ∀ w, (sizeOf E).run P w = .ok sz w) (hi : ∀ w, (typeInfo E).run P w = .ok inf w) (hz : ∀ w, (zeroValue E).run P w = .ok z w) (hzs : z.cells.size = sz)
    (hx : evo env x = some V0) (h0 : (V0 = .sc (.slice none 0 0) ∧ olds = []) ∨ (V0 = .lst sz true olds ∧ ∀ row ∈ olds, row.length = sz)) (hne : src ≠ []) (hy : evo env y = some W) (hsrc : Src X P h W sz src)
    (hb : inf.bytes ≤ 1000) (hn : olds.length + src.length ≤ 100000000000) : StepV X P o env h (.ms h.next 0 (olds.length + src.length) false) (h.newRows sz (olds ++ src)) .w := by
  intro g w e he hh
  have h1 := he x (by rw [ho]; simp [Op.operands, Call.operands])
  have h2 := he y (by rw [ho]; simp [Op.operands, Call.operands])
  rw [ev_of hx] at h1
  rw [ev_of hy] at h2
  obtain ⟨dU, hdU, hdn⟩ := hnz
  obtain ⟨hsr, hsv⟩ := hsrc
  obtain ⟨k1, _⟩ := hsv g w (e y) hh h2
  have hh2 : HR X g h { w with drawn := w.drawn + 1 } := hh.drew _
  obtain ⟨_, k2⟩ := hsv g _ (e y) hh2 h2
  obtain ⟨news, k3, k4, k5⟩ := k2 src.length (Nat.le_refl _)
  have hpos : 0 < src.length := List.length_pos_iff.2 hne
  -- the elder cells
  have hold : ∃ (bs : Option Addr) (cap : Nat) (oldc : List Value), e x = .slice bs olds.length cap ∧ cap = olds.length ∧ (Builtin.firstCells sz olds.length (e x)).run P { w with drawn := w.drawn + 1 } = .ok oldc.toArray { w with drawn := w.drawn + 1 } ∧
      oldc.length = olds.length * sz ∧ (∀ row ∈ olds, row.length = sz) ∧ ∀ (i : Nat) row (j : Nat) c, olds[i]? = some row → row[j]? = some c → ∃ u, oldc[i * sz + j]? = some u ∧ VR g u c := by
    rcases h0 with ⟨rfl, rfl⟩ | ⟨rfl, hrow⟩
    · exact ⟨none, 0, [], h1.sc_inv, rfl, by simp [h1.sc_inv, Builtin.firstCells], by simp, by simp, by simp⟩
    · obtain ⟨_, q⟩ := (src_lst (X := X) (P := P) (h := h) (full := true) hrow).2 g _ (e x) hh2 h1
      obtain ⟨oldc, q1, q2, q3⟩ := q olds.length (Nat.le_refl _)
      have hq3 : ∀ (i : Nat) row (j : Nat) c, olds[i]? = some row → row[j]? = some c → ∃ u, oldc[i * sz + j]? = some u ∧ VR g u c := fun i row j c a b => q3 i row j c (List.getElem?_eq_some_iff.1 a).1 a b
      generalize hcs : e x = u at h1 q1
      cases h1 with
      | nil a _ _ => exact ⟨a, 0, oldc, rfl, rfl, q1, q2, hrow, hq3⟩
      | lst b off n cap _ _ _ f a1 a2 a3 a4 a5 a6 => exact ⟨some ⟨b, off, none⟩, cap, oldc, by rw [a1], by rw [a3 rfl, a1], q1, q2, hrow, hq3⟩
  obtain ⟨bs, cap, oldc, o1, o2, o3, o4, o5, o6⟩ := hold
  subst o2
  rw [o1] at o3
  have hexec : ∀ (r : Value) (w' : World), (Builtin.append_ #[T, U] o.type #[.slice bs olds.length olds.length, e y]).run P w = .ok r w' → (execOp e o).run P w = .ok (.value r) w' := by
    intro r w' hr
    simp only [execOp, ho, resolve, Sem.run_bind, Sem.run_pure, Result.andThen_ok, invoke, builtin]
    simp [o1, hr]
  have hroom : ¬ (olds.length + src.length ≤ olds.length) := by omega
  have hnc := nextcap_le (olds.length + src.length) olds.length (by omega)
  have hbig : ¬ (Builtin.nextslicecap (olds.length + src.length) olds.length * inf.bytes > 2 ^ 48) := by
    have : Builtin.nextslicecap (olds.length + src.length) olds.length * inf.bytes ≤ 200000000512 * 1000 := Nat.mul_le_mul (by omega) hb
    omega
  let nc := (Question.appendCap (olds.length + src.length) olds.length E).cut (w.tape w.drawn (.appendCap (olds.length + src.length) olds.length E))
  have hnc2 : olds.length + src.length ≤ nc := by simp only [nc, Question.cut]; omega
  let cells := oldc.toArray ++ news.toArray ++ Builtin.zeroCells z.cells (nc - (olds.length + src.length))
  have hcsz : cells.size = nc * sz := by
    have : (nc - (olds.length + src.length)) * sz + (olds.length + src.length) * sz = nc * sz := by rw [← Nat.add_mul]; congr 1; omega
    simp only [cells, Array.size_append, List.size_toArray, o4, k4, Builtin.zeroCells, Array.size_map, Array.size_range, hzs]
    rw [Nat.add_mul] at this
    omega
  have hrun : (Builtin.append_ #[T, U] o.type #[.slice bs olds.length olds.length, e y]).run P w = .ok (.slice (some ⟨w.heap.size, 0, none⟩) (olds.length + src.length) nc) (World.more { w with drawn := w.drawn + 1 } (.cells cells E)) := by
    have hlen63 : ¬ (((olds.length + src.length : Nat) : Int) > IntKind.i64.max ∧ (False ∨ inf.bytes = 0)) := by
      have : IntKind.i64.max = 9223372036854775807 := by decide
      rw [this]; omega
    simp only [Builtin.append_]
    cases dU <;> first
      | exact absurd rfl (hdn _)
      | (simp only [List.getElem?_toArray, List.getElem?_cons_zero, List.getElem?_cons_succ, Sem.run_bind, hu, hs, Result.andThen_ok, hdU, Sem.run_pure, Bool.false_eq_true, if_false, k1, hroom, hi, Bool.not_false, if_true]
         rw [if_neg hlen63]
         simp only [Sem.run_bind, hi, Result.andThen_ok]
         rw [if_neg hbig]
         simp only [Sem.run_bind, hi, Sem.run_pure, Result.andThen_ok, run_choose, Question.forced, Bool.false_eq_true, if_false, run_askRoom, o3, k3, hz, newRow, run_newObj]
         rfl)
  have hdl : olds.length = olds.length := rfl
  obtain ⟨q1, q2⟩ := HR.new hh2 cells E sz (olds ++ src) nc (by omega) (by simp; omega) (by
    intro i row g1
    rcases List.mem_append.1 (List.mem_of_getElem? g1) with hm | hm
    · exact o5 row hm
    · exact hsr row hm) (by
    intro i row j c g1 g2
    rw [List.getElem?_append] at g1
    split at g1
    · rename_i hi'
      obtain ⟨v, d1, d2⟩ := o6 i row j c g1 g2
      refine ⟨v, ?_, d2⟩
      have hjl := (List.getElem?_eq_some_iff.1 d1).1
      simp only [cells]
      rw [Array.append_assoc, Array.getElem?_append, if_pos (by simp; exact hjl)]
      simpa using d1
    · rename_i hge
      have hil := (List.getElem?_eq_some_iff.1 g1).1
      obtain ⟨v, d1, d2⟩ := k5 _ row j c hil g1 g2
      refine ⟨v, ?_, d2⟩
      have hjl := (List.getElem?_eq_some_iff.1 d1).1
      have hie : i * sz = olds.length * sz + (i - olds.length) * sz := by rw [← Nat.add_mul]; congr 1; omega
      simp only [cells]
      rw [Array.append_assoc, Array.getElem?_append, if_neg (by simp [o4]; omega), Array.getElem?_append, if_pos (by simp [o4]; omega)]
      rw [← d1]
      simp only [List.size_toArray, o4, List.getElem?_toArray]
      congr 1; omega)
  unfold Goes
  rw [hexec _ _ hrun]
  refine ⟨_, (Mv.drew g w _).trans q1, q2, ?_⟩
  have := VR.ms (g := g.newLoc h.next w.heap.size 0 sz nc) h.next 0 (olds.length + src.length) nc w.heap.size 0 sz nc false (by simp [G.newLoc]) (by intro h; cases h) (by intro _; omega) hnc2 (by omega)
  simpa using this

/-- Nothing is appended. -/
theorem s_app0 {T U E : TypeId} {x y : Operand} {sz : Nat} {V0 W : V}
    (ho : o.op = .call { callee := .builtin .append, args := #[x, y], argTypes := #[T, U] }) (hu : ∀ w, (underlying T).run P w = .ok (.slice E) w) (hnz : ∃ d, (∀ w, (underlying U).run P w = .ok d w) ∧ ∀ k, d ≠ .int k)
    (hs : ∀ w, (sizeOf E).run P w = .ok sz w) (hx : evo env x = some V0) (h0 : V0 = .sc (.slice none 0 0) ∨ (∃ full rows, V0 = .lst sz full rows) ∨ (∃ l i n full, V0 = .ms l i n full)) (hy : evo env y = some W) (hsrc : ∀ h, Src X P h W sz []) : StepV X P o env h V0 h .p := by
  refine s_pureH fun g h w e he hh => ?_
  have h1 := he x (by rw [ho]; simp [Op.operands, Call.operands])
  have h2 := he y (by rw [ho]; simp [Op.operands, Call.operands])
  rw [ev_of hx] at h1
  rw [ev_of hy] at h2
  obtain ⟨dU, hdU, hdn⟩ := hnz
  obtain ⟨k1, k2⟩ := (hsrc h).2 g w (e y) hh h2
  obtain ⟨news, k3, k4, _⟩ := k2 0 (Nat.le_refl _)
  have hnil : news = [] := List.length_eq_zero_iff.1 (by simpa using k4)
  subst hnil
  have hsl : ∃ bs n cap, e x = .slice bs n cap ∧ n ≤ cap := by
    generalize e x = u at h1
    rcases h0 with rfl | ⟨full, rows, rfl⟩ | ⟨l, i, n, full, rfl⟩
    · exact ⟨none, 0, 0, h1.sc_inv, Nat.le_refl _⟩
    · cases h1 with
      | nil a _ _ => exact ⟨a, 0, 0, rfl, Nat.le_refl _⟩
      | lst b off n cap _ _ _ f a1 a2 a3 a4 a5 a6 => exact ⟨_, _, _, rfl, a2⟩
    · cases h1 with
      | ms _ _ _ cap b base sz' tot _ a1 a2 a3 a4 a5 => exact ⟨_, _, _, rfl, a4⟩
  obtain ⟨bs, n, cap, hcs, hle⟩ := hsl
  refine ⟨e x, ?_, h1⟩
  simp only [execOp, ho, resolve, Sem.run_bind, Sem.run_pure, Result.andThen_ok, invoke, builtin]
  have : (Builtin.append_ #[T, U] o.type #[.slice bs n cap, e y]).run P w = .ok (.slice bs n cap) w := by
    simp only [Builtin.append_]
    cases dU <;> first
      | exact absurd rfl (hdn _)
      | (simp only [List.getElem?_toArray, List.getElem?_cons_zero, List.getElem?_cons_succ, Sem.run_bind, hu, hs, Result.andThen_ok, hdU, Sem.run_pure, Bool.false_eq_true, if_false, k1, List.length_nil, Nat.add_zero, hle, if_true, Bool.not_false, k3]
         cases bs <;> simp [storeCells])
  simp [hcs, this]

theorem run_nilp {T E : TypeId} (hu : ∀ w, (underlying T).run P w = .ok (.pointer E) w) (a : Addr) (d : Nat) (w : World) : (Op.equalIn (d + 1) T (.pointer (some a)) (.pointer none)).run P w = .ok false w := by
  simp [Op.equalIn, hu]
theorem run_nilz {T E : TypeId} (hu : ∀ w, (underlying T).run P w = .ok (.pointer E) w) (d : Nat) (w : World) : (Op.equalIn (d + 1) T (.pointer none) (.pointer none)).run P w = .ok true w := by
  simp [Op.equalIn, hu]
/-- nil, and what is not. -/
theorem s_nilp {op : BinOp} {T E : TypeId} {T' : TypeId} {x : Operand} {v : V} (ho : o.op = .binOp op T x (.const (.pointer none)) T') (hu : ∀ w, (underlying T).run P w = .ok (.pointer E) w) (hop : op = .eql ∨ op = .neq)
    (hx : evo env x = some v) (hv : (match v with | .ip _ => true | .ptr .. => true | _ => false) = true) : StepV X P o env h (.sc (.bool (match op with | .neq => true | _ => false))) h .p := by
  refine s_pure fun g w e he => ?_
  have h1 := he x (by rw [ho]; simp [Op.operands])
  have h2 := he (.const (.pointer none)) (by rw [ho]; simp [Op.operands])
  rw [ev_of hx] at h1
  have h2 : e (.const (.pointer none)) = .pointer none := h2.sc_inv
  have hp : ∃ a, e x = .pointer (some a) := by
    generalize e x = u at h1
    cases h1 with
    | ip b o' cs f h2 h3 => exact ⟨_, rfl⟩
    | ptr l i j b base sz tot h2 => exact ⟨_, rfl⟩
    | _ => simp at hv
  obtain ⟨a, ha⟩ := hp
  have h3 := run_nilp hu a 9999
  rcases hop with rfl | rfl
  · refine ⟨_, ?_, .sc _⟩
    simp only [execOp, ho, ha, h2, eqGuard, binOp, Op.equal, Op.maxDepth]
    simp [h3]
  · refine ⟨_, ?_, .sc _⟩
    simp only [execOp, ho, ha, h2, eqGuard, binOp, Op.equal, Op.maxDepth]
    simp [h3]
theorem s_nilz {op : BinOp} {T E : TypeId} {T' : TypeId} {x : Operand} (ho : o.op = .binOp op T x (.const (.pointer none)) T') (hu : ∀ w, (underlying T).run P w = .ok (.pointer E) w) (hop : op = .eql ∨ op = .neq)
    (hx : evo env x = some (.sc (.pointer none))) : StepV X P o env h (.sc (.bool (match op with | .neq => false | _ => true))) h .p := by
  refine s_pure fun g w e he => ?_
  have h1 := he x (by rw [ho]; simp [Op.operands])
  have h2 := he (.const (.pointer none)) (by rw [ho]; simp [Op.operands])
  rw [ev_of hx] at h1
  have h2 : e (.const (.pointer none)) = .pointer none := h2.sc_inv
  have h1 := h1.sc_inv
  have h3 := run_nilz hu 9999
  rcases hop with rfl | rfl
  · refine ⟨_, ?_, .sc _⟩
    simp only [execOp, ho, h1, h2, eqGuard, binOp, Op.equal, Op.maxDepth]
    simp [h3]
  · refine ⟨_, ?_, .sc _⟩
    simp only [execOp, ho, h1, h2, eqGuard, binOp, Op.equal, Op.maxDepth]
    simp [h3]
end rules

/-! ### functions of the library, by their contracts -/
/-- Old memory is as it was; there may be new blocks. -/
structure Same (w w' : World) : Prop where
  size : w.heap.size ≤ w'.heap.size
  block : ∀ b, b < w.heap.size → w'.heap[b]? = w.heap[b]?
  os : w'.os = w.os
  out : w'.output = w.output
  tape : w'.tape = w.tape
theorem Same.refl (w : World) : Same w w := ⟨Nat.le_refl _, fun _ _ => rfl, rfl, rfl, rfl⟩
theorem Same.below {w w' : World} (h : RowKit.Below w.heap.size w w') : Same w w' := ⟨h.size, h.block, h.os, h.output, h.tape⟩
theorem Same.mv {g : G} {h : H} {w w' : World} (hh : HR X g h w) (hs : Same w w') : Mv g w g w' ∧ HR X g h w' := by
  refine ⟨⟨.refl g, fun _ h => .inl h, fun _ _ _ h => .inl h, hs.size, fun b hb _ => hs.block b hb, hs.os, hs.out, hs.tape⟩, ?_⟩
  have hk : ∀ b x, w.heap[b]? = some x → w'.heap[b]? = some x := fun b x hx => by rw [hs.block b (get_lt hx)]; exact hx
  refine ⟨hh.glk fun b hb _ => hs.block b hb, hh.own0, Nat.le_trans hh.n0 hs.size, ?_, ?_, ?_, ?_, hh.apart, hh.fresh, fun b hb => Nat.lt_of_lt_of_le (hh.owned b hb) hs.size⟩
  · intro b k v hb
    obtain ⟨c, t, fr, h2, h3⟩ := cell_some (hh.imm b k v hb)
    exact cell_of (hk b _ h2) h3
  · intro l sz rows fz hl
    obtain ⟨b, base, tot, cs, T, fr, a1, a2, a3⟩ := hh.rows l sz rows fz hl
    exact ⟨b, base, tot, cs, T, fr, a1, hk b _ a2, a3⟩
  · intro l kv hl
    obtain ⟨r, es, clock, a1, a2, a3⟩ := hh.maps l kv hl
    exact ⟨r, es, clock, a1, hk r _ a2, a3⟩
  · intro l T row hl
    obtain ⟨b, cs, a1, a2, a3⟩ := hh.cells l T row hl
    exact ⟨b, cs, a1, hk b _ a2, a3⟩

theorem scs_args {g : G} {as : List Value} {vs : Array Value} (hsz : vs.size = (as.map V.sc).length) (hrel : ∀ (i : Nat) v W, vs[i]? = some v → (as.map V.sc)[i]? = some W → VR g v W) : vs = as.toArray := by
  apply Array.ext'
  apply List.ext_getElem?
  intro i
  simp at hsz
  by_cases hi : i < as.length
  · have := (hrel i vs[i] (.sc as[i]) (Array.getElem?_eq_getElem (by omega)) (by simp [hi])).sc_inv
    simp [hi, show i < vs.size by omega, this]
  · simp [hi, show ¬ i < vs.size by omega]

/-- Scalars in, one scalar out. -/
theorem lib_sc {P : Program} {f : FuncId} {as : List Value} {r : Value} (hc : ∀ w, X.f w → Calls P f as.toArray w fun e w' => e = .returned r ∧ Same w w') : PureOK X P f (as.map V.sc) (.sc r) := by
  intro h g w vs hsz hrel hh
  rw [scs_args hsz hrel]
  refine (hc w hh.gl).mono ?_
  rintro e w' ⟨rfl, hs⟩
  obtain ⟨m, hr⟩ := hs.mv hh
  exact ⟨r, rfl, g, m, hr, .sc r⟩
/-- Scalars in, some scalars out. -/
theorem lib_tup {P : Program} {f : FuncId} {as rs : List Value} (hc : ∀ w, X.f w → Calls P f as.toArray w fun e w' => e = .returned (.tuple rs.toArray) ∧ Same w w') : PureOK X P f (as.map V.sc) (.tup (rs.map V.sc)) := by
  intro h g w vs hsz hrel hh
  rw [scs_args hsz hrel]
  refine (hc w hh.gl).mono ?_
  rintro e w' ⟨rfl, hs⟩
  obtain ⟨m, hr⟩ := hs.mv hh
  refine ⟨_, rfl, g, m, hr, .tup _ _ (by simp) ?_⟩
  intro i v W h1 h2
  simp only [List.getElem?_toArray] at h1
  rw [List.getElem?_map, h1] at h2
  simp only [Option.map_some, Option.some.injEq] at h2
  rw [← h2]; exact .sc _
/-- Scalars in, a new row of scalars out. -/
theorem lib_row {P : Program} {f : FuncId} {as rs : List Value} (hc : ∀ w, X.f w → Calls P f as.toArray w fun e w' => ∃ b cap cs T fr, e = .returned (.slice (some ⟨b, 0, none⟩) rs.length cap) ∧ rs.length ≤ cap ∧ w.heap.size ≤ b ∧ Same w w' ∧
      w'.heap[b]? = some (.cells cs T fr) ∧ ∀ (i : Nat) (v : Value), rs[i]? = some v → cs[i]? = some v) : PureOK X P f (as.map V.sc) (.lst 1 false (rs.map fun v => [V.sc v])) := by
  intro h g w vs hsz hrel hh
  rw [scs_args hsz hrel]
  refine (hc w hh.gl).mono ?_
  rintro e w' ⟨b, cap, cs, T, fr, rfl, hcap, hb, hs, hw', hcs⟩
  obtain ⟨m, hr⟩ := hs.mv hh
  let g' : G := ⟨fun x k => if x = b then cs[k]? else g.imm x k, g.loc, g.mp⟩
  have hno : ∀ k, g.imm b k = none := by
    intro k
    cases hi : g.imm b k with
    | none => rfl
    | some v => exact absurd (cell_lt (hh.imm _ _ _ hi)) (by omega)
  have hle : G.le g g' := by
    refine ⟨fun x k v hx => ?_, fun _ _ x => x, fun _ _ x => x⟩
    simp only [g']
    rw [if_neg (by intro e; subst e; rw [hno] at hx; cases hx)]; exact hx
  have himm : ∀ x k, x < w.heap.size → g'.imm x k = g.imm x k := fun x k hx => by simp only [g']; rw [if_neg (by omega)]
  refine ⟨_, rfl, g', ⟨hle, fun x hx => .inl hx, fun x k v hx => ?_, m.size, m.keep, m.os, m.out, m.tape⟩, ?_, ?_⟩
  · simp only [g'] at hx
    by_cases e : x = b
    · exact .inr (.inr (by omega))
    · rw [if_neg e] at hx; exact .inl hx
  · refine ⟨hr.gl, hh.own0, hr.n0, ?_, ?_, ?_, ?_, hh.apart, hh.fresh, hr.owned⟩
    · intro x k v hx
      simp only [g'] at hx
      by_cases e : x = b
      · rw [if_pos e] at hx; subst e; exact cell_of hw' hx
      · rw [if_neg e] at hx; exact hr.imm x k v hx
    · intro l sz rows fz hl
      obtain ⟨b2, base, tot, cs2, T2, fr2, a1, a2, a3, a4, a5, a6, a7, a8⟩ := hr.rows l sz rows fz hl
      have hb2 : b2 < w.heap.size := hh.owned b2 (.inl ⟨l, _, a1, rfl⟩)
      refine ⟨b2, base, tot, cs2, T2, fr2, a1, a2, a3, a4, a5, a6, ?_, fun k h1 h2 h3 => by rw [himm b2 k hb2]; exact a8 k h1 h2 h3⟩
      intro i row j c h1 h2
      obtain ⟨v, b1, b2', b3⟩ := a7 i row j c h1 h2
      exact ⟨v, b1, b2'.mono hle, fun h => hle.imm _ _ _ (b3 h)⟩
    · intro l kv hl
      obtain ⟨r, es, clock, a1, a2, a3, a4⟩ := hr.maps l kv hl
      exact ⟨r, es, clock, a1, a2, a3, fun i e k v h1 h2 => ⟨(a4 i e k v h1 h2).1.mono hle, (a4 i e k v h1 h2).2.mono hle⟩⟩
    · intro l T row hl
      obtain ⟨b2, cs2, a1, a2, a3, a4, a5⟩ := hr.cells l T row hl
      have hb2 : b2 < w.heap.size := hh.owned b2 (.inl ⟨l, _, a1, rfl⟩)
      exact ⟨b2, cs2, a1, a2, a3, fun j c h1 => by obtain ⟨v, d1, d2⟩ := a4 j c h1; exact ⟨v, d1, d2.mono hle⟩, fun k => by rw [himm b2 k hb2]; exact a5 k⟩
  · have hget : ∀ (i : Nat) row (j : Nat) c, (rs.map fun v => [V.sc v])[i]? = some row → row[j]? = some c → ∃ v, rs[i]? = some v ∧ j = 0 ∧ c = .sc v := by
      intro i row j c h1 h2
      rw [List.getElem?_map] at h1
      cases hv : rs[i]? with
      | none => rw [hv] at h1; cases h1
      | some v =>
        rw [hv] at h1
        simp only [Option.map_some, Option.some.injEq] at h1
        subst h1
        cases j with
        | zero => simp at h2; exact ⟨v, rfl, rfl, h2.symm⟩
        | succ j => simp at h2
    refine .lst b 0 rs.length cap 1 false _ (fun i _ => rs[i]?.getD undef) (by simp) hcap (by intro h; cases h) ?_ ?_ ?_
    · intro i row h1
      rw [List.getElem?_map] at h1
      cases hv : rs[i]? with
      | none => rw [hv] at h1; cases h1
      | some v => rw [hv] at h1; simp only [Option.map_some, Option.some.injEq] at h1; subst h1; rfl
    · intro i row j c h1 h2
      obtain ⟨v, e1, e2, e3⟩ := hget i row j c h1 h2
      subst e2
      simp only [g', if_true, Nat.zero_add, Nat.mul_one, Nat.add_zero, e1, Option.getD_some]
      exact hcs i v e1
    · intro i row j c h1 h2
      obtain ⟨v, e1, e2, e3⟩ := hget i row j c h1 h2
      simp only [e1, Option.getD_some, e3]
      exact .sc v
end Go.VM
