/- Stores, calls, functions. -/
import Derived.Test.YtbngkdgmmknfjaaGreatDoorVE
namespace Go.VM
open Go
variable {X : Gx}

/-! ### a sub-heap -/
structure HSub (h h' : H) : Prop where
  get : ∀ l x, h'.get l = some x → h.get l = some x
  next : h.next ≤ h'.next
theorem HSub.refl (h : H) : HSub h h := ⟨fun _ _ x => x, Nat.le_refl _⟩
theorem HR.sub {g : G} {h h' : H} {w : World} (hs : HSub h h') (hh : HR X g h w) : HR X g h' w :=
  ⟨hh.gl, hh.own0, hh.n0, hh.imm, fun l sz rows fz hl => hh.rows l sz rows fz (hs.get _ _ hl), fun l kv hl => hh.maps l kv (hs.get _ _ hl), fun l T row hl => hh.cells l T row (hs.get _ _ hl),
   fun l l' x y b hne h1 h2 => hh.apart l l' x y b hne (hs.get _ _ h1) (hs.get _ _ h2), fun l hl => hh.fresh l (Nat.le_trans hs.next hl), hh.owned⟩
theorem c_hsub {P : Program} {N B : Nat} {env : Env} {h h' : H} {Q : Exit → Env → H → Prop} {c : Code} (hs : HSub h h') (hc : CodeOK X P N B c env h' Q) : CodeOK X P N B c env h Q :=
  fun g w a ha hh => hc g w a ha (hh.sub hs)

/-! ### stores -/
def setAt (cs : List V) (j : Nat) : List V → List V
  | [] => cs
  | v :: vs => setAt (cs.set j v) (j + 1) vs
theorem setAt_length : ∀ (vs cs : List V) (j : Nat), (setAt cs j vs).length = cs.length
  | [], _, _ => rfl
  | v :: vs, cs, j => by simp [setAt, setAt_length vs]
theorem setAt_below : ∀ (vs cs : List V) (j k : Nat), k < j → (setAt cs j vs)[k]? = cs[k]?
  | [], _, _, _, _ => rfl
  | v :: vs, cs, j, k, h => by
    simp only [setAt]
    rw [setAt_below vs _ (j + 1) k (by omega), List.getElem?_set_ne (by omega)]
theorem setAt_at : ∀ (vs cs : List V) (j k : Nat), j + k < cs.length → k < vs.length → (setAt cs j vs)[j + k]? = vs[k]?
  | [], _, _, _, _, h => by simp at h
  | v :: vs, cs, j, 0, h, _ => by
    simp only [setAt]
    rw [setAt_below vs _ (j + 1) (j + 0) (by omega)]
    simp [show j < cs.length by omega]
  | v :: vs, cs, j, k + 1, h, h' => by
    simp only [setAt]
    rw [show j + (k + 1) = j + 1 + k by omega, setAt_at vs _ (j + 1) k (by simp; omega) (by simpa using h')]
    simp
theorem setAt_above : ∀ (vs cs : List V) (j k : Nat), j + vs.length ≤ k → (setAt cs j vs)[k]? = cs[k]?
  | [], _, _, _, _ => rfl
  | v :: vs, cs, j, k, h => by
    simp only [setAt]
    simp only [List.length_cons] at h
    rw [setAt_above vs _ (j + 1) k (by omega), List.getElem?_set_ne (by omega)]

def H.put (h : H) (l : Nat) (x : HB) : H := ⟨h.next, (l, x) :: h.bl⟩

theorem one_cell {g : G} {v : Value} {c : V} (h : VR g v c) (h1 : c.one = true) : v.oneCell' = true := by
  cases h with
  | sc => cases v <;> first | rfl | (simp [V.one] at h1)
  | unk => simp [V.one] at h1
  | agg => simp [V.one] at h1
  | tup => simp [V.one] at h1
  | _ => rfl

theorem setCell_heap (w : World) (b k : Nat) (v : Value) (x : Nat) : (w.setCell ⟨b, k, none⟩ v).heap[x]? =
    if x = b then (w.heap[b]?).map (fun o => match o with | .cells c t fr => Obj.cells (c.setIfInBounds k v) t fr | o => o) else w.heap[x]? := by
  unfold World.setCell
  simp only [Array.getElem?_modify]
  by_cases e : x = b
  · subst e; simp; congr 1
  · simp [e, Ne.symm e]
theorem setCell_size (w : World) (b k : Nat) (v : Value) : (w.setCell ⟨b, k, none⟩ v).heap.size = w.heap.size := by simp [World.setCell]

/-- One cell of a live block is written. -/
theorem HR.set {g : G} {h : H} {w : World} (hh : HR X g h w) {l sz i j b base tot : Nat} {rows : List (List V)} {row : List V} (hl : h.get l = some (.rows sz rows false)) (hg : g.loc l = some (b, base, sz, tot))
    (hr : rows[i]? = some row) (hj : j < row.length) {v : Value} {c : V} (hv : VR g v c) :
    Mv g w g (w.setCell ⟨b, base + i * sz + j, none⟩ v) ∧ HR X g (h.put l (.rows sz (rows.set i (row.set j c)) false)) (w.setCell ⟨b, base + i * sz + j, none⟩ v) ∧
      (∃ u, w.cell? ⟨b, base + i * sz + j, none⟩ = some u) ∧ w.frozen? ⟨b, base + i * sz + j, none⟩ = false := by
  obtain ⟨b', base', tot', cs, T, fr, a1, a2, a3, a4, a5, a6, a7, a8⟩ := hh.rows l sz rows false hl
  rw [hg] at a1
  cases a1
  have hi : i < rows.length := (List.getElem?_eq_some_iff.1 hr).1
  have hsz : row.length = sz := a6 i row hr
  have hmul : i * sz + sz ≤ tot * sz := by
    have := Nat.mul_le_mul_right sz (show i + 1 ≤ tot by omega)
    rw [Nat.add_mul] at this; omega
  have hoff : base + i * sz + j < cs.size := by omega
  have hno : ∀ x k u, g.imm x k = some u → ¬ (x = b ∧ k = base + i * sz + j) := by
    rintro x k u hx ⟨rfl, rfl⟩
    have := a8 (base + i * sz + j) (by omega) (by omega) (by intro h; cases h)
    rw [this] at hx; cases hx
  have hb : w.heap[b]? = some (.cells cs T fr) := a2
  have hnew : (w.setCell ⟨b, base + i * sz + j, none⟩ v).heap[b]? = some (.cells (cs.setIfInBounds (base + i * sz + j) v) T fr) := by
    rw [setCell_heap, if_pos rfl, hb]; rfl
  have hold : ∀ x, x ≠ b → (w.setCell ⟨b, base + i * sz + j, none⟩ v).heap[x]? = w.heap[x]? := fun x hx => by rw [setCell_heap, if_neg hx]
  refine ⟨⟨.refl g, fun _ h => .inl h, fun _ _ _ h => .inl h, by rw [setCell_size]; omega, fun x hx hn => hold x (by rintro rfl; exact hn (.inl ⟨l, _, hg, rfl⟩)), rfl, rfl, rfl⟩, ?_,
    ⟨cs[base + i * sz + j], cell_of hb (Array.getElem?_eq_getElem hoff)⟩, ?_⟩
  · refine ⟨hh.glk fun x _ hn => hold x (by rintro rfl; exact hn (.inl ⟨l, _, hg, rfl⟩)), hh.own0, by rw [setCell_size]; exact hh.n0, ?_, ?_, ?_, ?_, ?_, hh.fresh, fun x hx => by rw [setCell_size]; exact hh.owned x hx⟩
    · intro x k u hx
      have h1 := hh.imm x k u hx
      obtain ⟨c', t, fr', h2, h3⟩ := cell_some h1
      by_cases e : x = b
      · subst e
        rw [hb] at h2
        cases h2
        exact cell_of hnew (by rw [Array.getElem?_setIfInBounds_ne (fun e => hno x k u hx ⟨rfl, e.symm⟩)]; exact h3)
      · exact cell_of (by rw [hold x e]; exact h2) h3
    · intro l' sz' rows' fz' hl'
      simp only [H.get, H.put, lk] at hl'
      by_cases e : l' = l
      · rw [if_pos e] at hl'
        cases hl'
        subst e
        refine ⟨b, base, tot, _, T, fr, hg, hnew, a3, by simpa using a4, by simpa using a5, ?_, ?_, ?_⟩
        · intro i' row' hi'
          by_cases e2 : i = i'
          · subst e2
            rw [List.getElem?_set_self hi] at hi'
            cases hi'
            simpa using hsz
          · rw [List.getElem?_set_ne e2] at hi'; exact a6 _ _ hi'
        · intro i' row' j' c' hi' hj'
          by_cases e2 : i = i'
          · subst e2
            rw [List.getElem?_set_self hi] at hi'
            cases hi'
            by_cases e3 : j = j'
            · subst e3
              rw [List.getElem?_set_self hj] at hj'
              cases hj'
              exact ⟨v, by simp [hoff], hv, fun h => by cases h⟩
            · rw [List.getElem?_set_ne e3] at hj'
              obtain ⟨u, b1, b2, b3⟩ := a7 i row j' c' hr hj'
              exact ⟨u, by rw [Array.getElem?_setIfInBounds_ne (by omega)]; exact b1, b2, b3⟩
          · rw [List.getElem?_set_ne e2] at hi'
            obtain ⟨u, b1, b2, b3⟩ := a7 i' row' j' c' hi' hj'
            refine ⟨u, ?_, b2, b3⟩
            rw [Array.getElem?_setIfInBounds_ne]
            · exact b1
            · have hj2 : j' < sz := by rw [← a6 _ _ hi']; exact (List.getElem?_eq_some_iff.1 hj').1
              intro e4
              rcases Nat.lt_or_gt_of_ne e2 with h | h
              · have := Nat.mul_le_mul_right sz (show i + 1 ≤ i' by omega)
                rw [Nat.add_mul] at this; omega
              · have := Nat.mul_le_mul_right sz (show i' + 1 ≤ i by omega)
                rw [Nat.add_mul] at this; omega
        · intro k h1 h2 h3
          exact a8 k h1 h2 (by intro h; cases h)
      · rw [if_neg e] at hl'
        obtain ⟨b', base', tot', cs', T', fr', c1, c2, c3, c4, c5, c6, c7, c8⟩ := hh.rows l' sz' rows' fz' hl'
        have hbb : b' ≠ b := by
          rintro rfl
          exact hh.apart l' l _ _ b' e hl' hl (.inl ⟨_, c1, rfl⟩) (.inl ⟨_, hg, rfl⟩)
        exact ⟨b', base', tot', cs', T', fr', c1, by rw [hold b' hbb]; exact c2, c3, c4, c5, c6, c7, c8⟩
    · intro l' kv hl'
      simp only [H.get, H.put, lk] at hl'
      by_cases e : l' = l
      · rw [if_pos e] at hl'; cases hl'
      · rw [if_neg e] at hl'
        obtain ⟨r, es, clock, c1, c2, c3, c4⟩ := hh.maps l' kv hl'
        have hbb : r ≠ b := by
          rintro rfl
          exact hh.apart l' l _ _ r e hl' hl (.inr c1) (.inl ⟨_, hg, rfl⟩)
        exact ⟨r, es, clock, c1, by rw [hold r hbb]; exact c2, c3, c4⟩
    · intro l' T' row' hl'
      simp only [H.get, H.put, lk] at hl'
      by_cases e : l' = l
      · rw [if_pos e] at hl'; cases hl'
      · rw [if_neg e] at hl'
        obtain ⟨b', cs', c1, c2, c3⟩ := hh.cells l' T' row' hl'
        have hbb : b' ≠ b := by
          rintro rfl
          exact hh.apart l' l _ _ b' e hl' hl (.inl ⟨_, c1, rfl⟩) (.inl ⟨_, hg, rfl⟩)
        exact ⟨b', cs', c1, by rw [hold b' hbb]; exact c2, c3⟩
    · intro l1 l2 x y z hne h1 h2
      have conv : ∀ l' x, (h.put l (.rows sz (rows.set i (row.set j c)) false)).get l' = some x → ∃ y, h.get l' = some y := by
        intro l' x hx
        simp only [H.get, H.put, lk] at hx
        by_cases e : l' = l
        · subst e; exact ⟨_, hl⟩
        · rw [if_neg e] at hx; exact ⟨x, hx⟩
      obtain ⟨x', h1'⟩ := conv l1 x h1
      obtain ⟨y', h2'⟩ := conv l2 y h2
      exact hh.apart l1 l2 x' y' z hne h1' h2'
  · unfold World.frozen?
    simp only [hb]
    simp
    omega

theorem HR.setMany {P : Program} {g : G} {l sz i b base tot : Nat} (hg : g.loc l = some (b, base, sz, tot)) : ∀ (vs : List Value) (cs : List V) (h : H) (w : World) (rows : List (List V)) (row : List V) (j k : Nat),
    HR X g h w → h.get l = some (.rows sz rows false) → rows[i]? = some row → j + k + cs.length ≤ row.length → vs.length = cs.length → (∀ (m : Nat) v c, vs[m]? = some v → cs[m]? = some c → VR g v c) → (∀ c ∈ cs, c.one = true) →
    ∃ w' h', (storeCells ⟨b, base + i * sz + j, none⟩ vs k).run P w = .ok () w' ∧ Mv g w g w' ∧ HR X g h' w' ∧ h'.get l = some (.rows sz (rows.set i (setAt row (j + k) cs)) false) ∧
      h'.next = h.next ∧ ∀ l', l' ≠ l → h'.get l' = h.get l'
  | [], [], h, w, rows, row, j, k, hh, hl, hr, _, _, _, _ => by
    refine ⟨w, h, by simp [storeCells], .refl g w, hh, ?_, rfl, fun _ _ => rfl⟩
    have : rows.set i row = rows := by
      apply List.ext_getElem?
      intro m
      by_cases e : i = m
      · subst e; rw [List.getElem?_set_self (List.getElem?_eq_some_iff.1 hr).1, hr]
      · rw [List.getElem?_set_ne e]
    simp [setAt, this, hl]
  | v :: vs, c :: cs, h, w, rows, row, j, k, hh, hl, hr, hlen, hvl, hrel, hone => by
    simp only [List.length_cons] at hlen hvl
    have hv : VR g v c := hrel 0 v c rfl rfl
    obtain ⟨m1, r1, ⟨u, hu⟩, hfz⟩ := HR.set hh hl hg hr (j := j + k) (by omega) hv
    have hi : i < rows.length := (List.getElem?_eq_some_iff.1 hr).1
    obtain ⟨w', h', e1, e2, e3, e4, e5, e6⟩ := HR.setMany (P := P) hg vs cs _ _ (rows.set i (row.set (j + k) c)) (row.set (j + k) c) j (k + 1) r1 (by simp [H.get, H.put, lk]) (by rw [List.getElem?_set_self hi])
      (by simp; omega) (by omega) (fun m v' c' h1 h2 => hrel (m + 1) v' c' (by simpa using h1) (by simpa using h2)) (fun c' hc => hone c' (by simp [hc]))
    refine ⟨w', h', ?_, m1.trans e2, e3, ?_, by rw [e5]; rfl, fun l' hne => by rw [e6 l' hne]; simp [H.get, H.put, lk, hne]⟩
    · simp only [storeCells, Sem.run_bind]
      rw [run_store _ _ _ _ _ (one_cell hv (hone c (by simp))), add_none, Nat.add_assoc (base + i * sz) j k]
      rw [← Nat.add_assoc] at hu hfz
      rw [Nat.add_assoc (base + i * sz) j k] at hu hfz
      simp only [hu, hfz, Bool.false_eq_true, if_false, Result.andThen_ok]
      rw [← Nat.add_assoc (base + i * sz) j k] at *
      exact e1
    · rw [e4, List.set_set]
      simp [setAt, Nat.add_assoc]
  | [], c :: cs, _, _, _, _, _, _, _, _, _, _, h, _, _ => by simp at h
  | v :: vs, [], _, _, _, _, _, _, _, _, _, _, h, _, _ => by simp at h

theorem HR.of_get {g : G} {h h' : H} {w : World} (he : ∀ l, h'.get l = h.get l) (hn : h'.next = h.next) (hh : HR X g h w) : HR X g h' w :=
  hh.sub ⟨fun l x hx => by rw [← he]; exact hx, by omega⟩

section rules
variable {P : Program} {o : Oper} {env : Env} {h : H}
theorem s_st {T : TypeId} {x y : Operand} {n l i j sz : Nat} {rows : List (List V)} {row : List V} {v : V} (ho : o.op = .store T x y) (hs : ∀ w, (sizeOf T).run P w = .ok n w)
    (hx : evo env x = some (.ptr l i j)) (hy : evo env y = some v) (hl : h.get l = some (.rows sz rows false)) (hr : rows[i]? = some row) (hn : v.cells.length = n) (hj : j + n ≤ row.length)
    (hk : v.known = true) (hone : v.cells.all V.one = true) : StepV X P o env h .unk (h.put l (.rows sz (rows.set i (setAt row j v.cells)) false)) .w := by
  intro g w e he hh
  have h1 := he x (by rw [ho]; simp [Op.operands])
  have h2 := he y (by rw [ho]; simp [Op.operands])
  rw [ev_of hx] at h1
  rw [ev_of hy] at h2
  generalize hcs : e x = u at h1
  obtain ⟨c1, c2⟩ := cells_rel h2 (known_spec hk).1 (known_spec hk).2
  obtain ⟨b', base', tot', cs', T', fr', d1, _⟩ := hh.rows l sz rows false hl
  cases h1 with
  | ptr _ _ _ b base sz' tot a1 =>
    rw [a1] at d1
    cases d1
    obtain ⟨w', h', e1, e2, e3, e4, e5, e6⟩ := HR.setMany (P := P) (i := i) a1 (e y).cells.toList v.cells h w rows row j 0 hh hl hr (by omega) (by simpa using c1) (fun m v' c' m1 m2 => c2 m v' c' (by simpa using m1) m2)
      (fun c hc => List.all_eq_true.1 hone c hc)
    unfold Goes
    have hsz : (e y).cells.size = n := by rw [c1, hn]
    have : (execOp e o).run P w = .ok .skip w' := by
      simp [execOp, ho, hcs, Instr.storeAt, Instr.sureAddr, storeVar, hs, hsz, e1]
    rw [this]
    refine ⟨g, e2, HR.of_get (h := h') (fun l' => ?_) (by simp [H.put, e5]) e3, .unk _⟩
    by_cases e : l' = l
    · subst e; rw [e4]; simp [H.get, H.put, lk]
    · rw [e6 l' e]; simp [H.get, H.put, lk, e]
end rules

/-! ### calls -/
def CallOK (X : Gx) (P : Program) (f : FuncId) (args : List V) (h : H) (r : V) (h' : H) : Prop :=
  ∀ (g : G) (w : World) (vs : Array Value), vs.size = args.length → (∀ (i : Nat) v V, vs[i]? = some v → args[i]? = some V → VR g v V) → HR X g h w →
    Calls P f vs w fun e w' => ∃ val, e = .returned val ∧ ∃ g', Mv g w g' w' ∧ HR X g' h' w' ∧ VR g' val r

def PureOK (X : Gx) (P : Program) (f : FuncId) (args : List V) (r : V) : Prop := ∀ h, CallOK X P f args h r h

/-- The relation hangs on what is immutable alone. -/
def V.Pure (W : V) : Prop := ∀ (g g' : G) (v : Value), (∀ b k x, g.imm b k = some x → g'.imm b k = some x) → VR g v W → VR g' v W

theorem Pure.unk : V.Pure .unk := fun _ _ _ _ _ => .unk _
theorem Pure.sc (v : Value) : V.Pure (.sc v) := fun _ _ _ _ h => by rw [h.sc_inv]; exact .sc _
theorem Pure.agg {cs : List V} (h : ∀ c ∈ cs, c.Pure) : V.Pure (.agg cs) := fun g g' v hi hv => by
  cases hv with
  | agg vs _ h1 h2 => exact .agg vs cs h1 fun i v W a1 a2 => h W (List.mem_of_getElem? a2) g g' v hi (h2 i v W a1 a2)
theorem Pure.tup {cs : List V} (h : ∀ c ∈ cs, c.Pure) : V.Pure (.tup cs) := fun g g' v hi hv => by
  cases hv with
  | tup vs _ h1 h2 => exact .tup vs cs h1 fun i v W a1 a2 => h W (List.mem_of_getElem? a2) g g' v hi (h2 i v W a1 a2)
theorem Pure.lst {sz : Nat} {full : Bool} {rows : List (List V)} (h : ∀ row ∈ rows, ∀ c ∈ row, c.Pure) : V.Pure (.lst sz full rows) := fun g g' v hi hv => by
  cases hv with
  | nil _ _ _ => exact .nil _ _ _
  | lst b o n cap _ _ _ f h1 h2 h3 h4 h5 h6 =>
    exact .lst b o n cap sz full rows f h1 h2 h3 h4 (fun i row j c a1 a2 => hi _ _ _ (h5 i row j c a1 a2))
      fun i row j c a1 a2 => h row (List.mem_of_getElem? a1) c (List.mem_of_getElem? a2) g g' _ hi (h6 i row j c a1 a2)
theorem Pure.ip {cs : List V} (h : ∀ c ∈ cs, c.Pure) : V.Pure (.ip cs) := fun g g' v hi hv => by
  cases hv with
  | ip b o _ f h1 h2 => exact .ip b o cs f (fun j c a => hi _ _ _ (h1 j c a)) fun j c a => h c (List.mem_of_getElem? a) g g' _ hi (h2 j c a)
theorem Pure.fn {f : Fn} {a c : List V} (ha : ∀ x ∈ a, x.Pure) (hc : ∀ x ∈ c, x.Pure) : V.Pure (.fn f a c) := fun g g' v hi hv => by
  cases hv with
  | fn _ va vc _ _ h1 h2 h3 h4 =>
    exact .fn f va vc a c h1 h2 (fun i v W a1 a2 => ha W (List.mem_of_getElem? a2) g g' v hi (h3 i v W a1 a2)) fun i v W a1 a2 => hc W (List.mem_of_getElem? a2) g g' v hi (h4 i v W a1 a2)

def H.none : H := ⟨0, []⟩

/-- A call whose memory behind it is of no matter. -/
def CallE (X : Gx) (P : Program) (f : FuncId) (args : List V) (h : H) (r : V) : Prop :=
  ∀ (g : G) (w : World) (vs : Array Value), vs.size = args.length → (∀ (i : Nat) v V, vs[i]? = some v → args[i]? = some V → VR g v V) → HR X g h w →
    Calls P f vs w fun e w' => ∃ val, e = .returned val ∧ ∃ g' h', Mv g w g' w' ∧ HR X g' h' w' ∧ VR g' val r

theorem pure_of_empty {P : Program} {f : FuncId} {args : List V} {r : V} (ha : ∀ x ∈ args, V.Pure x) (hr : V.Pure r) (hc : CallE X P f args H.none r) : PureOK X P f args r := by
  intro h g w vs hsz hrel hh
  let g0 : G := ⟨g.imm, fun _ => Option.none, fun _ => Option.none⟩
  have hno : ∀ b, ¬ g0.owns b := by rintro b (⟨l, x, hx, _⟩ | ⟨l, hx⟩) <;> cases hx
  have h0 : HR X g0 H.none w := ⟨hh.gl, fun b hb => absurd hb (hno b), hh.n0, hh.imm, fun l sz rows fz hl => by simp [H.none, H.get, lk] at hl, fun l kv hl => by simp [H.none, H.get, lk] at hl,
    fun l T row hl => by simp [H.none, H.get, lk] at hl, fun l l' x y b _ hl => by simp [H.none, H.get, lk] at hl, fun _ _ => ⟨rfl, rfl⟩, fun b hb => absurd hb (hno b)⟩
  refine (hc g0 w vs hsz (fun i v V h1 h2 => ha V (List.mem_of_getElem? h2) g g0 v (fun _ _ _ x => x) (hrel i v V h1 h2)) h0).mono ?_
  rintro e w' ⟨val, rfl, g1, h', m, hr1, hv⟩
  refine ⟨val, rfl, ⟨g1.imm, g.loc, g.mp⟩, ?_, ?_, hr g1 _ _ (fun _ _ _ x => x) hv⟩
  · refine ⟨⟨fun b k v hx => m.le.imm b k v hx, fun _ _ x => x, fun _ _ x => x⟩, fun b hb => .inl hb, fun b k v hb => ?_, m.size, fun b hb _ => m.keep b hb (hno b), m.os, m.out, m.tape⟩
    rcases m.immn b k v hb with x | x | x
    · exact .inl x
    · exact absurd x (hno b)
    · exact .inr (.inr x)
  · have hle : G.le g ⟨g1.imm, g.loc, g.mp⟩ := ⟨fun b k v hx => m.le.imm b k v hx, fun _ _ x => x, fun _ _ x => x⟩
    have hkeep : ∀ b x, w.heap[b]? = some x → w'.heap[b]? = some x := fun b x hx => by rw [m.keep b (get_lt hx) (hno b)]; exact hx
    have himm : ∀ b k, b < w.heap.size → g.imm b k = Option.none → g1.imm b k = Option.none := by
      intro b k hb hn
      cases hx : g1.imm b k with
      | none => rfl
      | some v =>
        rcases m.immn b k v hx with x | x | x
        · have : g.imm b k = some v := x
          rw [hn] at this; cases this
        · exact absurd x (hno b)
        · omega
    refine ⟨hr1.gl, hh.own0, Nat.le_trans hh.n0 m.size, hr1.imm, ?_, ?_, ?_, hh.apart, hh.fresh, fun b hb => Nat.lt_of_lt_of_le (hh.owned b hb) m.size⟩
    · intro l sz rows fz hl
      obtain ⟨b, base, tot, cs, T, fr, a1, a2, a3, a4, a5, a6, a7, a8⟩ := hh.rows l sz rows fz hl
      refine ⟨b, base, tot, cs, T, fr, a1, hkeep b _ a2, a3, a4, a5, a6, ?_, fun k h1 h2 h3 => himm b k (get_lt a2) (a8 k h1 h2 h3)⟩
      intro i row j c h1 h2
      obtain ⟨v, b1, b2, b3⟩ := a7 i row j c h1 h2
      exact ⟨v, b1, b2.mono hle, fun h => m.le.imm _ _ _ (b3 h)⟩
    · intro l kv hl
      obtain ⟨r, es, clock, a1, a2, a3, a4⟩ := hh.maps l kv hl
      exact ⟨r, es, clock, a1, hkeep r _ a2, a3, fun i e k v h1 h2 => ⟨(a4 i e k v h1 h2).1.mono hle, (a4 i e k v h1 h2).2.mono hle⟩⟩
    · intro l T row hl
      obtain ⟨b, cs, a1, a2, a3, a4, a5⟩ := hh.cells l T row hl
      exact ⟨b, cs, a1, hkeep b _ a2, a3, fun j c h1 => by obtain ⟨v, b1, b2⟩ := a4 j c h1; exact ⟨v, b1, b2.mono hle⟩, fun k => himm b k (get_lt a2) (a5 k)⟩

section rules
variable {P : Program} {o : Oper} {env : Env} {h : H}

theorem args_rel {g : G} {e : Operand → Value} {xs : Array Operand} {vs : List V} (hv' : evoL env xs.toList = some vs) (hm : ∀ x ∈ xs, VR g (e x) (ev env x)) :
    (xs.map e).size = vs.length ∧ ∀ (i : Nat) v W, (xs.map e)[i]? = some v → vs[i]? = some W → VR g v W := by
  have hv := evoL_map hv'
  have hl : xs.size = vs.length := by have := congrArg List.length hv; simpa using this
  refine ⟨by simp [hl], fun i v W h1 h2 => ?_⟩
  rw [Array.getElem?_map] at h1
  cases hx : xs[i]? with
  | none => rw [hx] at h1; cases h1
  | some x =>
    rw [hx] at h1
    simp only [Option.map_some, Option.some.injEq] at h1
    subst h1
    have h3 : (xs.toList.map (evo env))[i]? = some (evo env x) := by simp [hx]
    rw [hv, List.getElem?_map, h2] at h3
    simp only [Option.map_some, Option.some.injEq] at h3
    rw [← ev_of h3.symm]
    exact hm x (Array.mem_of_getElem? hx)

theorem opOK_call {f : FuncId} {xs : Array Operand} {ts : Array TypeId} {vs : List V} {h' : H} {r : V} (ho : o.op = .call { callee := .value (.func f), args := xs, argTypes := ts })
    (hcall : ∀ args w, (callFunc f args).run P w = .ok (.enter f args) w) (hv : evoL env xs.toList = some vs) (hc : CallOK X P f vs h r h') : OpOK X P o (ev env) h r h' := by
  intro g w e he hh
  have hfn := he (.func f) (by rw [ho]; simp [Op.operands, Call.operands])
  have hxs : ∀ x ∈ xs, VR g (e x) (ev env x) := fun x hx => he x (by rw [ho]; simp only [Op.operands, Call.operands]; exact Array.mem_append.2 (.inr hx))
  obtain ⟨k1, k2⟩ := args_rel hv hxs
  generalize hcs : e (.func f) = u at hfn
  simp only [ev] at hfn
  cases hfn with
  | fn _ a c _ _ h1 h2 _ _ =>
    have ea : a = #[] := by simpa using h1
    have ec : c = #[] := by simpa using h2
    subst ea; subst ec
    have : (execOp e o).run P w = .ok (.enter f (xs.map e)) w := by
      simp [execOp, ho, resolve, hcs, Deferred.ofValue, invoke, hcall]
    unfold Goes
    rw [this]
    exact (hc g w _ k1 k2 hh).mono fun e w' ⟨val, h1, h2⟩ => ⟨val, h1, h2⟩

/-- A call of a function that only computes. -/
theorem s_call {f : FuncId} {xs : Array Operand} {ts : Array TypeId} {vs : List V} {r : V} (hc : PureOK X P f vs r) (ho : o.op = .call { callee := .value (.func f), args := xs, argTypes := ts })
    (hcall : ∀ args w, (callFunc f args).run P w = .ok (.enter f args) w) (hv : evoL env xs.toList = some vs) : StepV X P o env h r h .p :=
  ⟨fun h => opOK_call ho hcall hv (hc h), rfl⟩
/-- A call of a function that works on memory. -/
theorem s_callw {f : FuncId} {xs : Array Operand} {ts : Array TypeId} {vs : List V} {r : V} {h' : H} (hc : CallOK X P f vs h r h') (ho : o.op = .call { callee := .value (.func f), args := xs, argTypes := ts })
    (hcall : ∀ args w, (callFunc f args).run P w = .ok (.enter f args) w) (hv : evoL env xs.toList = some vs) : StepV X P o env h r h' .w :=
  opOK_call ho hcall hv hc

theorem opOK_callv {f : FuncId} {x : Operand} {xs : Array Operand} {ts : Array TypeId} {vs first cap : List V} {h' : H} {r : V} (ho : o.op = .call { callee := .value x, args := xs, argTypes := ts })
    (hcall : ∀ args w, (callFunc f args).run P w = .ok (.enter f args) w) (hx : evo env x = some (.fn (.func f) first cap)) (hv : evoL env xs.toList = some vs) (hc : CallOK X P f (first ++ vs ++ cap) h r h') : OpOK X P o (ev env) h r h' := by
  intro g w e he hh
  have hfn := he x (by rw [ho]; simp [Op.operands, Call.operands])
  have hxs : ∀ x ∈ xs, VR g (e x) (ev env x) := fun x hx => he x (by rw [ho]; simp only [Op.operands, Call.operands]; exact Array.mem_append.2 (.inr hx))
  obtain ⟨k1, k2⟩ := args_rel hv hxs
  generalize hcs : e x = u at hfn
  rw [ev_of hx] at hfn
  cases hfn with
  | fn _ a c _ _ h1 h2 h3 h4 =>
    have : (execOp e o).run P w = .ok (.enter f (a ++ xs.map e ++ c)) w := by
      simp [execOp, ho, resolve, hcs, Deferred.ofValue, invoke, hcall]
    unfold Goes
    rw [this]
    refine (hc g w _ (by simp [h1, h2] at k1 ⊢; omega) ?_ hh).mono fun e w' ⟨val, h1, h2⟩ => ⟨val, h1, h2⟩
    intro i v W b1 b2
    rw [Array.getElem?_append] at b1
    rw [List.getElem?_append] at b2
    have hs1 : (a ++ xs.map e).size = (first ++ vs).length := by simp [h1] at k1 ⊢; omega
    rw [← hs1] at b2
    split at b1
    · rename_i hlt
      rw [if_pos hlt, List.getElem?_append, ← h1] at b2
      rw [Array.getElem?_append] at b1
      split at b1
      · rename_i hlt2; rw [if_pos hlt2] at b2; exact h3 _ _ _ b1 b2
      · rename_i hlt2; rw [if_neg hlt2] at b2; exact k2 _ _ _ b1 b2
    · rename_i hlt
      rw [if_neg hlt] at b2
      exact h4 _ _ _ b1 b2
theorem s_callv {f : FuncId} {x : Operand} {xs : Array Operand} {ts : Array TypeId} {vs first cap : List V} {r : V} (hc : PureOK X P f (first ++ vs ++ cap) r) (ho : o.op = .call { callee := .value x, args := xs, argTypes := ts })
    (hcall : ∀ args w, (callFunc f args).run P w = .ok (.enter f args) w) (hx : evo env x = some (.fn (.func f) first cap)) (hv : evoL env xs.toList = some vs) : StepV X P o env h r h .p :=
  ⟨fun h => opOK_callv ho hcall hx hv (hc h), rfl⟩
theorem s_callvw {f : FuncId} {x : Operand} {xs : Array Operand} {ts : Array TypeId} {vs first cap : List V} {r : V} {h' : H} (hc : CallOK X P f (first ++ vs ++ cap) h r h') (ho : o.op = .call { callee := .value x, args := xs, argTypes := ts })
    (hcall : ∀ args w, (callFunc f args).run P w = .ok (.enter f args) w) (hx : evo env x = some (.fn (.func f) first cap)) (hv : evoL env xs.toList = some vs) : StepV X P o env h r h' .w :=
  opOK_callv ho hcall hx hv hc
end rules

/-! ### a function's body -/
def argEnv (i : Nat) : List V → Env
  | [] => []
  | v :: vs => (i, v) :: argEnv (i + 1) vs

theorem lk_argEnv : ∀ (vs : List V) (i t : Nat) v, lk (argEnv i vs) t = some v → i ≤ t ∧ vs[t - i]? = some v
  | [], _, _, _, h => by simp [argEnv, lk] at h
  | x :: vs, i, t, v, h => by
    simp only [argEnv, lk] at h
    by_cases e : t = i
    · subst e; simp at h; simp [h]
    · rw [if_neg e] at h
      obtain ⟨h1, h2⟩ := lk_argEnv vs (i + 1) t v h
      refine ⟨by omega, ?_⟩
      rw [show t - i = (t - (i + 1)) + 1 by omega]
      simpa using h2

/-- What the results read as. -/
def ResOK (X : Gx) (P : Program) (fn : Func) (env : Env) (h : H) (r : V) : Prop :=
  ∀ (g : G) (w : World) (tmps : Array Value), (∀ t v, lk env t = some v → VR g (tmps.getD t undef) v) → HR X g h w → ∃ val, (results fn tmps).run P w = .ok val w ∧ VR g val r

def RPost (X : Gx) (P : Program) (fn : Func) (r : V) (hf : H) : Exit → Env → H → Prop
  | .normal, env, h => ResOK X P fn env h r ∧ HSub h hf
  | .ret, env, h => ResOK X P fn env h r ∧ HSub h hf
  | _, _, _ => False

theorem call_of {P : Program} {f : FuncId} {fn : Func} {c : Code} {args : List V} {h hf : H} {r : V} (hfn : P.funcs[f]? = some fn) (hb : fn.body = some c) (hlen : args.length ≤ fn.ntmps)
    (hc : CodeOK X P fn.ntmps h.next c (argEnv 0 args) h (RPost X P fn r hf)) : CallOK X P f args h r hf := by
  intro g w vs hsz hrel hh
  refine calls_of_wp hfn hb (wp_mono (hc g w _ ⟨by simp; omega, rfl, fun t v ht => ?_⟩ hh) ?_)
  · obtain ⟨_, h2⟩ := lk_argEnv args 0 t v ht
    simp only [Nat.sub_zero] at h2
    have hlt : t < vs.size := by rw [hsz]; exact (List.getElem?_eq_some_iff.1 h2).1
    have : (vs ++ Array.replicate (fn.ntmps - vs.size) undef).getD t undef = vs[t] := by
      simp [Array.getD_eq_getD_getElem?, Array.getElem?_append, hlt]
    simp only [this]
    exact hrel t _ _ (Array.getElem?_eq_getElem hlt) h2
  · intro e a' w' hp
    cases e with
    | normal =>
      obtain ⟨g', env', h', m, ar, hr, hq, hs⟩ := hp
      obtain ⟨val, h1, h2⟩ := hq g' w' a'.tmps ar.at_ hr
      exact ⟨ar.defers, val, h1, val, rfl, g', m.full hh (Nat.le_refl _), hr.sub hs, h2⟩
    | ret =>
      obtain ⟨g', env', h', m, ar, hr, hq, hs⟩ := hp
      obtain ⟨val, h1, h2⟩ := hq g' w' a'.tmps ar.at_ hr
      exact ⟨ar.defers, val, h1, val, rfl, g', m.full hh (Nat.le_refl _), hr.sub hs, h2⟩
    | exit id =>
      obtain ⟨g', env', h', m, ar, hr, hq⟩ := hp
      exact hq.elim
    | goto l => exact hp.elim
    | panic ch => exact hp.elim
    | outgrown => exact hp.elim

def RPostE (X : Gx) (P : Program) (fn : Func) (r : V) : Exit → Env → H → Prop
  | .normal, env, h => ResOK X P fn env h r
  | .ret, env, h => ResOK X P fn env h r
  | _, _, _ => False

theorem callE_of {P : Program} {f : FuncId} {fn : Func} {c : Code} {args : List V} {h : H} {r : V} (hfn : P.funcs[f]? = some fn) (hb : fn.body = some c) (hlen : args.length ≤ fn.ntmps)
    (hc : CodeOK X P fn.ntmps h.next c (argEnv 0 args) h (RPostE X P fn r)) : CallE X P f args h r := by
  intro g w vs hsz hrel hh
  refine calls_of_wp hfn hb (wp_mono (hc g w _ ⟨by simp; omega, rfl, fun t v ht => ?_⟩ hh) ?_)
  · obtain ⟨_, h2⟩ := lk_argEnv args 0 t v ht
    simp only [Nat.sub_zero] at h2
    have hlt : t < vs.size := by rw [hsz]; exact (List.getElem?_eq_some_iff.1 h2).1
    have : (vs ++ Array.replicate (fn.ntmps - vs.size) undef).getD t undef = vs[t] := by
      simp [Array.getD_eq_getD_getElem?, Array.getElem?_append, hlt]
    simp only [this]
    exact hrel t _ _ (Array.getElem?_eq_getElem hlt) h2
  · intro e a' w' hp
    cases e with
    | normal =>
      obtain ⟨g', env', h', m, ar, hr, hq⟩ := hp
      obtain ⟨val, h1, h2⟩ := hq g' w' a'.tmps ar.at_ hr
      exact ⟨ar.defers, val, h1, val, rfl, g', h', m.full hh (Nat.le_refl _), hr, h2⟩
    | ret =>
      obtain ⟨g', env', h', m, ar, hr, hq⟩ := hp
      obtain ⟨val, h1, h2⟩ := hq g' w' a'.tmps ar.at_ hr
      exact ⟨ar.defers, val, h1, val, rfl, g', h', m.full hh (Nat.le_refl _), hr, h2⟩
    | exit id =>
      obtain ⟨g', env', h', m, ar, hr, hq⟩ := hp
      exact hq.elim
    | goto l => exact hp.elim
    | panic ch => exact hp.elim
    | outgrown => exact hp.elim

/-- The usual case: what comes in and what goes out are trees. -/
theorem pure_of {P : Program} {f : FuncId} {fn : Func} {c : Code} {args : List V} {r : V} (hfn : P.funcs[f]? = some fn) (hb : fn.body = some c) (hlen : args.length ≤ fn.ntmps) (ha : ∀ x ∈ args, V.Pure x) (hr : V.Pure r)
    (hc : CodeOK X P fn.ntmps 0 c (argEnv 0 args) H.none (RPostE X P fn r)) : PureOK X P f args r :=
  pure_of_empty ha hr (callE_of hfn hb hlen hc)

def OneRes (X : Gx) (P : Program) (env : Env) (h : H) (rv : ResultVar) (r : V) : Prop :=
  ∀ (g : G) (w : World) (tmps : Array Value), (∀ t v, lk env t = some v → VR g (tmps.getD t undef) v) → HR X g h w →
    ∃ val, (match rv with | .tmp t => (pure (tmps.getD t undef) : Sem Value) | .cell a t => do loadVar t (← asAddr (tmps.getD a undef))).run P w = .ok val w ∧ VR g val r

theorem one_tmp {P : Program} {env : Env} {h : H} {t : Nat} {v : V} (ht : lk env t = some v) : OneRes X P env h (.tmp t) v :=
  fun _ w tmps hx _ => ⟨tmps.getD t undef, by simp, hx t v ht⟩
theorem one_cell_res {P : Program} {env : Env} {h : H} {t l i j sz n : Nat} {T : TypeId} {agg fz : Bool} {rows : List (List V)} {row : List V} {v : V} (ht : lk env t = some (.ptr l i j)) (ha : ∀ w, (isAgg T).run P w = .ok agg w) (hs : ∀ w, (sizeOf T).run P w = .ok n w)
    (hl : h.get l = some (.rows sz rows fz)) (hr : rows[i]? = some row) (hv : ldv agg n (row.drop j) = some v) : OneRes X P env h (.cell t T) v := by
  intro g w tmps hx hh
  have h1 := hx t _ ht
  generalize hcs : tmps.getD t undef = u at h1
  cases h1 with
  | ptr _ _ _ b base sz' tot h2 =>
    obtain ⟨b', base', tot', cs, T', fr, a1, a2, a3, a4, a5, a6, a7, a8⟩ := hh.rows l sz rows fz hl
    rw [h2] at a1
    cases a1
    obtain ⟨val, h4, h5⟩ := loadVar_run (P := P) (w := w) (b := b) (o := base + i * sz + j) (g := g) ha hs (fun k c hk => by
      rw [List.getElem?_drop] at hk
      obtain ⟨x, b1, b2, b3⟩ := a7 i row (j + k) c hr hk
      exact ⟨x, cell_of a2 (by rw [show base + i * sz + j + k = base + i * sz + (j + k) by omega]; exact b1), b2⟩) hv
    exact ⟨val, by simp [hcs, asAddr, h4], h5⟩

theorem res_1 {P : Program} {fn : Func} {env : Env} {h : H} {r1 : ResultVar} {v1 : V} (hres : fn.results = #[r1]) (h1 : OneRes X P env h r1 v1) : ResOK X P fn env h v1 := by
  intro g w tmps hx hh
  obtain ⟨x1, a1, b1⟩ := h1 g w tmps hx hh
  refine ⟨x1, ?_, b1⟩
  unfold results
  rw [hres]
  simp only [Array.mapM_eq_mapM_toList, List.mapM_cons, List.mapM_nil, Sem.run_bind, Sem.run_map]
  cases r1 <;> simp_all
theorem res_2 {P : Program} {fn : Func} {env : Env} {h : H} {r1 r2 : ResultVar} {v1 v2 : V} (hres : fn.results = #[r1, r2]) (h1 : OneRes X P env h r1 v1) (h2 : OneRes X P env h r2 v2) : ResOK X P fn env h (.tup [v1, v2]) := by
  intro g w tmps hx hh
  obtain ⟨x1, a1, b1⟩ := h1 g w tmps hx hh
  obtain ⟨x2, a2, b2⟩ := h2 g w tmps hx hh
  refine ⟨.tuple #[x1, x2], ?_, .tup _ _ rfl ?_⟩
  · unfold results
    rw [hres]
    simp only [Array.mapM_eq_mapM_toList, List.mapM_cons, List.mapM_nil, Sem.run_bind, Sem.run_map]
    cases r1 <;> cases r2 <;> simp_all
  · intro i v W e1 e2
    match i with
    | 0 => simp at e1 e2; subst e1; subst e2; exact b1
    | 1 => simp at e1 e2; subst e1; subst e2; exact b2
    | i + 2 => simp at e2
theorem res_3 {P : Program} {fn : Func} {env : Env} {h : H} {r1 r2 r3 : ResultVar} {v1 v2 v3 : V} (hres : fn.results = #[r1, r2, r3]) (h1 : OneRes X P env h r1 v1) (h2 : OneRes X P env h r2 v2) (h3 : OneRes X P env h r3 v3) : ResOK X P fn env h (.tup [v1, v2, v3]) := by
  intro g w tmps hx hh
  obtain ⟨x1, a1, b1⟩ := h1 g w tmps hx hh
  obtain ⟨x2, a2, b2⟩ := h2 g w tmps hx hh
  obtain ⟨x3, a3, b3⟩ := h3 g w tmps hx hh
  refine ⟨.tuple #[x1, x2, x3], ?_, .tup _ _ rfl ?_⟩
  · unfold results
    rw [hres]
    simp only [Array.mapM_eq_mapM_toList, List.mapM_cons, List.mapM_nil, Sem.run_bind, Sem.run_map]
    cases r1 <;> cases r2 <;> cases r3 <;> simp_all
  · intro i v W e1 e2
    match i with
    | 0 => simp at e1 e2; subst e1; subst e2; exact b1
    | 1 => simp at e1 e2; subst e1; subst e2; exact b2
    | 2 => simp at e1 e2; subst e1; subst e2; exact b3
    | i + 3 => simp at e2
theorem res_0 {P : Program} {fn : Func} {env : Env} {h : H} (hres : fn.results = #[]) : ResOK X P fn env h (.tup []) := by
  intro g w tmps _ _
  refine ⟨.tuple #[], ?_, .tup _ _ rfl (by simp)⟩
  unfold results
  rw [hres]
  simp

/-! ### one step of a run -/
section run
variable {P : Program} {ops : Array Oper} {o : Oper} {os : List Oper} {env : Env} {h h' : H} {acc : List Cls} {Q : Env → H → List Cls → Prop}
theorem rn {d : Nat} {v : V} {c : Cls} (hg : o.guard = none) (hd : o.dst = some d) (st : StepV X P o env h v h' c) (k : Run X P ops os ((d, v) :: env) h' (c :: acc) Q) : Run X P ops (o :: os) env h acc Q :=
  ⟨v, h', c, by unfold StepOK; rw [hg]; exact st, by rw [hd]; exact k⟩
theorem rn0 {v : V} {c : Cls} (hg : o.guard = none) (hd : o.dst = none) (st : StepV X P o env h v h' c) (k : Run X P ops os env h' (c :: acc) Q) : Run X P ops (o :: os) env h acc Q :=
  ⟨v, h', c, by unfold StepOK; rw [hg]; exact st, by rw [hd]; exact k⟩
theorem ron {d j : Nat} {want b : Bool} {v : V} {c : Cls} (hg : o.guard = some (j, want)) (hd : o.dst = some d) (hb : gv ops env j = some b) (hw : b = want) (st : StepV X P o env h v h' c) (k : Run X P ops os ((d, v) :: env) h' (c :: acc) Q) : Run X P ops (o :: os) env h acc Q :=
  ⟨v, h', c, by unfold StepOK; rw [hg]; exact .inl ⟨b, hb, hw, st⟩, by rw [hd]; exact k⟩
theorem roff {d j : Nat} {want b : Bool} (hg : o.guard = some (j, want)) (hd : o.dst = some d) (hb : gv ops env j = some b) (hw : b = !want) (k : Run X P ops os ((d, .sc undef) :: env) h (.p :: acc) Q) : Run X P ops (o :: os) env h acc Q :=
  ⟨.sc undef, h, .p, by unfold StepOK; rw [hg]; exact .inr ⟨.inl ⟨b, hb, by subst hw; cases want <;> simp⟩, rfl, rfl⟩, by rw [hd]; exact k⟩
theorem rend (hq : Q env h acc) : Run X P ops [] env h acc Q := ⟨env, fun _ _ x => x, hq⟩
end run

theorem Sub.refl (env : Env) : Sub env env := fun _ _ h => h
theorem Sub.trans {a b c : Env} (h : Sub a b) (h' : Sub b c) : Sub a c := fun t v x => h t v (h' t v x)
theorem Sub.put {env env' : Env} (hs : Sub env env') (d : Option Nat) (v : V) : Sub (env.put d v) (env'.put d v) := by
  cases d with
  | none => exact hs
  | some d =>
    intro t u h
    simp only [Env.put, lk] at h ⊢
    by_cases e : t = d
    · rw [if_pos e] at h ⊢; exact h
    · rw [if_neg e] at h ⊢; exact hs t u h

theorem StepV.sub {P : Program} {o : Oper} {env env' : Env} {h h' : H} {v : V} {c : Cls} (hs : Sub env env') (st : StepV X P o env' h v h' c) : StepV X P o env h v h' c := by
  have key : ∀ {h h' : H}, OpOK X P o (ev env') h v h' → OpOK X P o (ev env) h v h' := by
    intro h h' ho g w e hx hh
    refine ho g w e (fun x hm => ?_) hh
    have := hx x hm
    cases x with
    | tmp t =>
      simp only [ev, Env.get] at this ⊢
      cases hl : lk env' t with
      | none => exact .unk _
      | some u => rw [hs t u hl] at this; exact this
    | const u => exact this
    | global u => exact this
    | func f => exact this
  cases c with
  | p => exact ⟨fun h => key (st.1 h), st.2⟩
  | r => exact ⟨key st.1, st.2⟩
  | w => exact key st

theorem gv_sub {ops : Array Oper} {env env' : Env} (hs : Sub env env') {j : Nat} {b : Bool} (h : gv ops env' j = some b) : gv ops env j = some b := by
  unfold gv at *
  cases hd : (ops[j]?).bind (·.dst) with
  | none => rw [hd] at h; cases h
  | some d =>
    rw [hd] at h
    simp only [Env.get] at h ⊢
    cases hl : lk env' d with
    | none => rw [hl] at h; simp at h
    | some u => rw [hs d u hl]; rw [hl] at h; exact h

theorem StepOK.sub {P : Program} {ops : Array Oper} {o : Oper} {env env' : Env} {h h' : H} {v : V} {c : Cls} (hs : Sub env env') (st : StepOK X P ops o env' h v h' c) : StepOK X P ops o env h v h' c := by
  unfold StepOK at *
  cases hgd : o.guard with
  | none => rw [hgd] at st; exact st.sub hs
  | some jw =>
    obtain ⟨j, want⟩ := jw
    rw [hgd] at st
    rcases st with ⟨b, hb, h1, h2⟩ | ⟨h1, h2⟩
    · exact .inl ⟨b, gv_sub hs hb, h1, StepV.sub hs h2⟩
    · refine .inr ⟨?_, h2⟩
      rcases h1 with ⟨b, hb, h1⟩ | ⟨d, hd, h1⟩
      · exact .inl ⟨b, gv_sub hs hb, h1⟩
      · exact .inr ⟨d, hd, hs d _ h1⟩

theorem Run.sub {P : Program} {ops : Array Oper} {Q : Env → H → List Cls → Prop} : ∀ {os : List Oper} {env env' : Env} {h : H} {acc : List Cls}, Sub env env' → Run X P ops os env' h acc Q → Run X P ops os env h acc Q
  | [], _, _, _, _, hs, ⟨e, h1, h2⟩ => ⟨e, hs.trans h1, h2⟩
  | _ :: _, _, _, _, _, hs, ⟨v, h', c, st, k⟩ => ⟨v, h', c, st.sub hs, Run.sub (hs.put _ v) k⟩

theorem Run.mono {P : Program} {ops : Array Oper} {Q Q' : Env → H → List Cls → Prop} : ∀ {os : List Oper} {env : Env} {h : H} {acc : List Cls}, (∀ e h a, Q e h a → Q' e h a) → Run X P ops os env h acc Q → Run X P ops os env h acc Q'
  | [], _, _, _, hq, ⟨e, h1, h2⟩ => ⟨e, h1, hq _ _ _ h2⟩
  | _ :: _, _, _, _, hq, ⟨v, h', c, st, k⟩ => ⟨v, h', c, st, Run.mono hq k⟩

theorem Run.append {P : Program} {ops : Array Oper} {Q : Env → H → List Cls → Prop} : ∀ {os os' : List Oper} {env : Env} {h : H} {acc : List Cls}, Run X P ops os env h acc (fun e h a => Run X P ops os' e h a Q) → Run X P ops (os ++ os') env h acc Q
  | [], _, _, _, _, ⟨_, h1, h2⟩ => Run.sub h1 h2
  | _ :: _, _, _, _, _, ⟨v, h', c, st, k⟩ => ⟨v, h', c, st, Run.append k⟩

/-! ### '&&' and '||': what stands behind the guard is carried out or not -/
/-- All of these are not carried out where the guard j does not hold. -/
def offAll (ops : Array Oper) (j : Nat) (want : Bool) : List Nat → List Oper → Bool
  | _, [] => true
  | ds, o :: os => match o.guard, o.dst with
    | some (j', w'), some d => ((j' == j && w' == want) || (match (ops[j']?).bind (·.dst) with | some e => ds.contains e | none => false)) && offAll ops j want (d :: ds) os
    | _, _ => false

def dsts (os : List Oper) : List Nat := os.filterMap (·.dst)

theorem run_off {P : Program} {ops : Array Oper} {j dj : Nat} {want b : Bool} (hj : (ops[j]?).bind (·.dst) = some dj) (hb : b = !want) : ∀ (os : List Oper) (ds : List Nat) (env : Env) (h : H) (acc cls : List Cls) (Q : Env → H → List Cls → Prop),
    offAll ops j want ds os = true → lk env dj = some (.sc (.bool b)) → (∀ d ∈ ds, lk env d = some (.sc undef)) → (dsts os).contains dj = false → cls.length = os.length → (∀ env' : Env, (∀ d ∈ dsts os, lk env' d = some (.sc undef)) → (∀ t, t ∉ dsts os → lk env' t = lk env t) → Q env' h (cls.reverse ++ acc)) →
    Run X P ops os env h acc Q
  | [], ds, env, h, acc, cls, Q, _, _, _, _, hl, hq => by
    have : cls = [] := List.length_eq_zero_iff.1 hl
    subst this
    exact ⟨env, Sub.refl _, hq env (by simp [dsts]) (fun _ _ => rfl)⟩
  | o :: os, ds, env, h, acc, [], Q, _, _, _, _, hl, _ => by simp at hl
  | o :: os, ds, env, h, acc, c :: cls, Q, ho, hv, hds, hnd, hl, hq => by
    unfold offAll at ho
    cases hgd : o.guard with
    | none => rw [hgd] at ho; simp at ho
    | some jw =>
      obtain ⟨j', w'⟩ := jw
      cases hdd : o.dst with
      | none => rw [hgd, hdd] at ho; simp at ho
      | some d =>
        rw [hgd, hdd] at ho
        simp only [Bool.and_eq_true, Bool.or_eq_true] at ho
        obtain ⟨ho1, ho2⟩ := ho
        have hdsts : dsts (o :: os) = d :: dsts os := by simp [dsts, hdd]
        rw [hdsts] at hnd hq
        have hdj : dj ≠ d := by intro e; subst e; simp at hnd
        refine ⟨.sc undef, h, c, ?_, ?_⟩
        · unfold StepOK
          rw [hgd]
          refine .inr ⟨?_, rfl, rfl⟩
          rcases ho1 with h1 | h1
          · have e1 : j' = j := by simpa using h1.1
            have e2 : w' = want := by simpa using h1.2
            subst e1; subst e2
            refine .inl ⟨b, ?_, by rw [hb]; cases w' <;> simp⟩
            unfold gv
            rw [hj]
            simp [Env.get, hv]
          · refine .inr ?_
            cases he : (ops[j']?).bind (·.dst) with
            | none => rw [he] at h1; cases h1
            | some e => rw [he] at h1; exact ⟨e, he, hds e (by simpa using h1)⟩
        · rw [hdd]
          refine run_off hj hb os (d :: ds) _ h _ cls Q ho2 ?_ ?_ ?_ (by simpa using hl) ?_
          · simp only [Env.put, lk]; rw [if_neg hdj]; exact hv
          · intro x hx
            simp only [Env.put, lk]
            by_cases e : x = d
            · rw [if_pos e]
            · rw [if_neg e]; exact hds x (by simpa [e] using hx)
          · simp at hnd ⊢; exact hnd.2
          · intro env' h1 h2
            have := hq env' ?_ ?_
            · simpa using this
            · intro x hx
              by_cases e : x ∈ dsts os
              · exact h1 x e
              · have : x = d := by simpa [e] using hx
                subst this
                rw [h2 x e]; simp [Env.put, lk]
            · intro t ht
              simp at ht
              rw [h2 t ht.2]; simp [Env.put, lk, ht.1]

theorem sub_of_off {env env' : Env} {ds : List Nat} (hn : ds.all (fun t => (lk env t).isNone) = true) (h2 : ∀ t, t ∉ ds → lk env' t = lk env t) : Sub env' env := by
  intro t v ht
  rw [h2 t ?_]
  · exact ht
  · intro hm
    have := List.all_eq_true.1 hn t hm
    rw [ht] at this
    cases this

section scs
variable {P : Program} {ops : Array Oper} {os os2 : List Oper} {o : Oper} {env : Env} {h : H} {acc acc' : List Cls} {Q : Env → H → List Cls → Prop}

theorem r_or (n : Nat) {j dj d : Nat} {y : Operand} {b c : Bool} (hsp : os.drop n = o :: os2) (hj : (ops[j]?).bind (·.dst) = some dj) (hv : lk env dj = some (.sc (.bool b))) (hg : o.guard = none) (hd : o.dst = some d)
    (ho : o.op = .pick (.tmp dj) (.const (.bool true)) y) (hoff : offAll ops j false [] (os.take n) = true) (hnd : (dsts (os.take n)).contains dj = false) (hn : (dsts (os.take n)).all (fun t => (lk env t).isNone) = true)
    (h1 : b = false → Run X P ops (os.take n) env h acc (fun env1 h1 a1 => (lk env1 dj = some (.sc (.bool b)) ∧ evo env1 y = some (.sc (.bool c)) ∧ Sub env1 env) ∧ h1 = h ∧ a1 = acc'))
    (hlen : acc'.length = acc.length + (os.take n).length ∧ acc'.drop (os.take n).length = acc)
    (k : Run X P ops os2 ((d, .sc (.bool (b || c))) :: env) h (.p :: acc') Q) : Run X P ops os env h acc Q := by
  have hos : os = os.take n ++ o :: os2 := by rw [← hsp, List.take_append_drop]
  rw [hos]
  refine Run.append ?_
  cases hb : b with
  | false =>
    refine Run.mono ?_ (h1 hb)
    rintro e1 h' a1 ⟨⟨e0, e2, e3⟩, rfl, rfl⟩
    refine rn hg hd (s_pickF ho (b := b) e0 hb e2) ?_
    refine Run.sub ?_ k
    rw [hb, Bool.false_or]
    exact e3.put (some d) _
  | true =>
    have hcl : acc' = (acc'.take (os.take n).length).reverse.reverse ++ acc := by
      rw [List.reverse_reverse]
      conv => lhs; rw [← List.take_append_drop (os.take n).length acc', hlen.2]
    refine run_off hj (b := b) (want := false) (by rw [hb]; rfl) (os.take n) [] env h acc (acc'.take (os.take n).length).reverse _ hoff hv (by simp) hnd (by rw [List.length_reverse, List.length_take]; omega) ?_
    intro env' h2 h3
    rw [← hcl]
    have hs := sub_of_off hn h3
    refine rn hg hd (s_pickT ho (b := b) (hs _ _ hv) hb rfl) ?_
    refine Run.sub ?_ k
    rw [hb, Bool.true_or]
    exact hs.put (some d) _

theorem r_and (n : Nat) {j dj d : Nat} {y : Operand} {b c : Bool} (hsp : os.drop n = o :: os2) (hj : (ops[j]?).bind (·.dst) = some dj) (hv : lk env dj = some (.sc (.bool b))) (hg : o.guard = none) (hd : o.dst = some d)
    (ho : o.op = .pick (.tmp dj) y (.const (.bool false))) (hoff : offAll ops j true [] (os.take n) = true) (hnd : (dsts (os.take n)).contains dj = false) (hn : (dsts (os.take n)).all (fun t => (lk env t).isNone) = true)
    (h1 : b = true → Run X P ops (os.take n) env h acc (fun env1 h1 a1 => (lk env1 dj = some (.sc (.bool b)) ∧ evo env1 y = some (.sc (.bool c)) ∧ Sub env1 env) ∧ h1 = h ∧ a1 = acc'))
    (hlen : acc'.length = acc.length + (os.take n).length ∧ acc'.drop (os.take n).length = acc)
    (k : Run X P ops os2 ((d, .sc (.bool (b && c))) :: env) h (.p :: acc') Q) : Run X P ops os env h acc Q := by
  have hos : os = os.take n ++ o :: os2 := by rw [← hsp, List.take_append_drop]
  rw [hos]
  refine Run.append ?_
  cases hb : b with
  | true =>
    refine Run.mono ?_ (h1 hb)
    rintro e1 h' a1 ⟨⟨e0, e2, e3⟩, rfl, rfl⟩
    refine rn hg hd (s_pickT ho (b := b) e0 hb e2) ?_
    refine Run.sub ?_ k
    rw [hb, Bool.true_and]
    exact e3.put (some d) _
  | false =>
    have hcl : acc' = (acc'.take (os.take n).length).reverse.reverse ++ acc := by
      rw [List.reverse_reverse]
      conv => lhs; rw [← List.take_append_drop (os.take n).length acc', hlen.2]
    refine run_off hj (b := b) (want := true) (by rw [hb]; rfl) (os.take n) [] env h acc (acc'.take (os.take n).length).reverse _ hoff hv (by simp) hnd (by rw [List.length_reverse, List.length_take]; omega) ?_
    intro env' h2 h3
    rw [← hcl]
    have hs := sub_of_off hn h3
    refine rn hg hd (s_pickF ho (b := b) (hs _ _ hv) hb rfl) ?_
    refine Run.sub ?_ k
    rw [hb, Bool.false_and]
    exact hs.put (some d) _
end scs

/-! ### names that may be taken anew -/
def V.Low (n : Nat) (W : V) : Prop := ∀ (g g' : G) (v : Value), (∀ b k x, g.imm b k = some x → g'.imm b k = some x) → (∀ l x, l < n → g.loc l = some x → g'.loc l = some x) → (∀ l x, l < n → g.mp l = some x → g'.mp l = some x) → VR g v W → VR g' v W
theorem Pure.low {n : Nat} {W : V} (h : W.Pure) : W.Low n := fun g g' v hi _ _ hv => h g g' v hi hv
theorem Low.sc {n : Nat} (v : Value) : V.Low n (.sc v) := Pure.low (Pure.sc v)
theorem Low.unk {n : Nat} : V.Low n .unk := Pure.low Pure.unk
theorem Low.ptr {n l i j : Nat} (h : Nat.blt l n = true) : V.Low n (.ptr l i j) := fun g g' v _ hl _ hv => by
  cases hv with
  | ptr _ _ _ b base sz tot h1 => exact .ptr l i j b base sz tot (hl _ _ (by simpa [Nat.blt_eq] using h) h1)
theorem Low.ms {n l i k : Nat} {full : Bool} (h : Nat.blt l n = true) : V.Low n (.ms l i k full) := fun g g' v _ hl _ hv => by
  cases hv with
  | ms _ _ _ cap b base sz tot _ h1 h2 h3 h4 h5 => exact .ms l i k cap b base sz tot full (hl _ _ (by simpa [Nat.blt_eq] using h) h1) h2 h3 h4 h5
theorem Low.mp {n l : Nat} (h : Nat.blt l n = true) : V.Low n (.mp l) := fun g g' v _ _ hl hv => by
  cases hv with
  | mp _ r h1 => exact .mp l r (hl _ _ (by simpa [Nat.blt_eq] using h) h1)
theorem Low.agg {n : Nat} {cs : List V} (h : ∀ c ∈ cs, c.Low n) : V.Low n (.agg cs) := fun g g' v hi hl hm hv => by
  cases hv with
  | agg vs _ h1 h2 => exact .agg vs cs h1 fun i v W a1 a2 => h W (List.mem_of_getElem? a2) g g' v hi hl hm (h2 i v W a1 a2)
theorem Low.tup {n : Nat} {cs : List V} (h : ∀ c ∈ cs, c.Low n) : V.Low n (.tup cs) := fun g g' v hi hl hm hv => by
  cases hv with
  | tup vs _ h1 h2 => exact .tup vs cs h1 fun i v W a1 a2 => h W (List.mem_of_getElem? a2) g g' v hi hl hm (h2 i v W a1 a2)
theorem Low.fn {n : Nat} {f : Fn} {a c : List V} (ha : ∀ x ∈ a, x.Low n) (hc : ∀ x ∈ c, x.Low n) : V.Low n (.fn f a c) := fun g g' v hi hl hm hv => by
  cases hv with
  | fn _ va vc _ _ h1 h2 h3 h4 =>
    exact .fn f va vc a c h1 h2 (fun i v W a1 a2 => ha W (List.mem_of_getElem? a2) g g' v hi hl hm (h3 i v W a1 a2)) fun i v W a1 a2 => hc W (List.mem_of_getElem? a2) g g' v hi hl hm (h4 i v W a1 a2)
theorem all_nil {n : Nat} : ∀ c ∈ ([] : List V), c.Low n := fun _ h => by cases h
theorem all_cons {n : Nat} {c : V} {cs : List V} (h : c.Low n) (hs : ∀ c ∈ cs, c.Low n) : ∀ x ∈ c :: cs, x.Low n := fun x hx => by
  rcases List.mem_cons.1 hx with e | e
  · rw [e]; exact h
  · exact hs x e
theorem pall_nil : ∀ c ∈ ([] : List V), c.Pure := fun _ h => by cases h
theorem pall_cons {c : V} {cs : List V} (h : c.Pure) (hs : ∀ c ∈ cs, c.Pure) : ∀ x ∈ c :: cs, x.Pure := fun x hx => by
  rcases List.mem_cons.1 hx with e | e
  · rw [e]; exact h
  · exact hs x e

def ELow (n : Nat) (env : Env) : Prop := ∀ p ∈ env, V.Low n p.2
theorem elow_nil {n : Nat} : ELow n [] := fun _ h => by cases h
theorem elow_cons {n t : Nat} {v : V} {env : Env} (h : v.Low n) (hs : ELow n env) : ELow n ((t, v) :: env) := fun p hp => by
  rcases List.mem_cons.1 hp with e | e
  · rw [e]; exact h
  · exact hs p e
theorem lk_mem {α : Type} : ∀ {l : List (Nat × α)} {t : Nat} {v : α}, lk l t = some v → (t, v) ∈ l
  | [], _, _, h => by cases h
  | (k, u) :: r, t, v, h => by
    simp only [lk] at h
    by_cases e : t = k
    · rw [if_pos e] at h; cases h; rw [e]; simp
    · rw [if_neg e] at h; exact List.mem_cons_of_mem _ (lk_mem h)

def BLow (n : Nat) : HB → Prop
  | .rows _ rows _ => ∀ row ∈ rows, ∀ c ∈ row, V.Low n c
  | .map kv => ∀ p ∈ kv, V.Low n p.1 ∧ V.Low n p.2
  | .cell _ row => ∀ c ∈ row, V.Low n c
def HLow (n : Nat) (bl : List (Nat × HB)) : Prop := ∀ p ∈ bl, p.1 < n ∧ BLow n p.2
theorem hlow_nil {n : Nat} : HLow n [] := fun _ h => by cases h
theorem hlow_cons {n l : Nat} {x : HB} {bl : List (Nat × HB)} (hl : Nat.blt l n = true) (h : BLow n x) (hs : HLow n bl) : HLow n ((l, x) :: bl) := fun p hp => by
  rcases List.mem_cons.1 hp with e | e
  · rw [e]; exact ⟨by simpa [Nat.blt_eq] using hl, h⟩
  · exact hs p e
theorem blow_one {n sz : Nat} {row : List V} {fz : Bool} (h : ∀ c ∈ row, V.Low n c) : BLow n (.rows sz [row] fz) := fun r hr => by
  rw [List.mem_singleton] at hr; rw [hr]; exact h

theorem c_next {P : Program} {N B n : Nat} {env : Env} {h : H} {bl : List (Nat × HB)} {Q : Exit → Env → H → Prop} {c : Code} (hB : B ≤ n) (he : ELow n env) (hl : HLow n bl) (hs : ∀ l x, lk bl l = some x → h.get l = some x)
    (hc : CodeOK X P N B c env ⟨n, bl⟩ Q) : CodeOK X P N B c env h Q := by
  intro g w a ha hh
  let g' : G := ⟨g.imm, fun l => if l < n then g.loc l else Option.none, fun l => if l < n then g.mp l else Option.none⟩
  have hi : ∀ b k x, g.imm b k = some x → g'.imm b k = some x := fun _ _ _ x => x
  have h1 : ∀ l x, l < n → g.loc l = some x → g'.loc l = some x := fun l x hl hx => by simp only [g']; rw [if_pos hl]; exact hx
  have h2 : ∀ l x, l < n → g.mp l = some x → g'.mp l = some x := fun l x hl hx => by simp only [g']; rw [if_pos hl]; exact hx
  have h3 : ∀ l x, g'.loc l = some x → g.loc l = some x := fun l x hx => by
    simp only [g'] at hx; split at hx
    · exact hx
    · cases hx
  have h4 : ∀ l x, g'.mp l = some x → g.mp l = some x := fun l x hx => by
    simp only [g'] at hx; split at hx
    · exact hx
    · cases hx
  have hown : ∀ b, g'.owns b → g.owns b := by
    rintro b (⟨l, x, hx, e⟩ | ⟨l, hx⟩)
    · exact .inl ⟨l, x, h3 l x hx, e⟩
    · exact .inr ⟨l, h4 l _ hx⟩
  have hlow : ∀ l x, lk bl l = some x → l < n ∧ BLow n x := fun l x hx => hl _ (lk_mem hx)
  have ar : AR N g' env a := ⟨ha.size, ha.defers, fun t v ht => he _ (lk_mem ht) g g' _ hi h1 h2 (ha.at_ t v ht)⟩
  have hr : HR X g' ⟨n, bl⟩ w := by
    refine ⟨hh.gl, fun b hb => hh.own0 b (hown b hb), hh.n0, hh.imm, ?_, ?_, ?_, ?_, fun l hl => ⟨by simp only [g']; rw [if_neg (by simpa using hl)], by simp only [g']; rw [if_neg (by simpa using hl)]⟩, fun b hb => hh.owned b (hown b hb)⟩
    · intro l sz rows fz hl'
      obtain ⟨b, base, tot, cs, T, fr, a1, a2, a3, a4, a5, a6, a7, a8⟩ := hh.rows l sz rows fz (hs l _ hl')
      obtain ⟨hln, hbl⟩ := hlow l _ hl'
      refine ⟨b, base, tot, cs, T, fr, h1 _ _ hln a1, a2, a3, a4, a5, a6, ?_, a8⟩
      intro i row j c hi' hj'
      obtain ⟨v, b1, b2, b3⟩ := a7 i row j c hi' hj'
      exact ⟨v, b1, hbl row (List.mem_of_getElem? hi') c (List.mem_of_getElem? hj') g g' v hi h1 h2 b2, b3⟩
    · intro l kv hl'
      obtain ⟨r, es, clock, a1, a2, a3, a4⟩ := hh.maps l kv (hs l _ hl')
      obtain ⟨hln, hbl⟩ := hlow l _ hl'
      refine ⟨r, es, clock, h2 _ _ hln a1, a2, a3, fun i e k v e1 e2 => ?_⟩
      obtain ⟨b1, b2⟩ := hbl (k, v) (List.mem_of_getElem? e2)
      exact ⟨b1 g g' _ hi h1 h2 (a4 i e k v e1 e2).1, b2 g g' _ hi h1 h2 (a4 i e k v e1 e2).2⟩
    · intro l T row hl'
      obtain ⟨b, cs, a1, a2, a3, a4, a5⟩ := hh.cells l T row (hs l _ hl')
      obtain ⟨hln, hbl⟩ := hlow l _ hl'
      exact ⟨b, cs, h1 _ _ hln a1, a2, a3, fun j c hj => by obtain ⟨v, b1, b2⟩ := a4 j c hj; exact ⟨v, b1, hbl c (List.mem_of_getElem? hj) g g' v hi h1 h2 b2⟩, a5⟩
    · intro l l' x y b hne a1 a2 a3 a4
      refine hh.apart l l' x y b hne (hs l x a1) (hs l' y a2) ?_ ?_
      · rcases a3 with ⟨z, hz, e⟩ | a3
        · exact .inl ⟨z, h3 _ _ hz, e⟩
        · exact .inr (h4 _ _ a3)
      · rcases a4 with ⟨z, hz, e⟩ | a4
        · exact .inl ⟨z, h3 _ _ hz, e⟩
        · exact .inr (h4 _ _ a4)
  refine wp_mono (hc g' w a ar hr) fun e a' w' hq => CPost.from ⟨hi, fun l x hl hx => h1 l x (by omega) hx, fun l x hl hx => h2 l x (by omega) hx, fun b hb => .inl (hown b hb), fun b k v hb => .inl hb, Nat.le_refl _, fun _ _ _ => rfl, rfl, rfl, rfl⟩ hq

/-! ### a loop by what holds at its head -/
def LoopQ {α : Type} (I : α → Prop) (μ : α → Nat) (E : α → Env) (Hh : α → List (Nat × HB)) (a : α) (Q : Exit → Env → H → Prop) : Exit → Env → H → Prop
  | .normal, env, h => ∃ b, I b ∧ μ b < μ a ∧ Sub env (E b) ∧ (∀ l x, lk (Hh b) l = some x → h.get l = some x)
  | e, env, h => Q e env h

theorem c_while {P : Program} {N B : Nat} {Q : Exit → Env → H → Prop} {body : Code} {α : Type} (n : Nat) (I : α → Prop) (μ : α → Nat) (E : α → Env) (Hh : α → List (Nat × HB)) (hB : B ≤ n)
    (hE : ∀ a, I a → ELow n (E a)) (hH : ∀ a, I a → HLow n (Hh a))
    (hb : ∀ a, I a → CodeOK X P N B body (E a) ⟨n, Hh a⟩ (LoopQ I μ E Hh a Q)) : ∀ a, I a → CodeOK X P N B (.loop body) (E a) ⟨n, Hh a⟩ Q := by
  have key : ∀ m a, μ a = m → I a → CodeOK X P N B (.loop body) (E a) ⟨n, Hh a⟩ Q := by
    intro m
    induction m using Nat.strongRecOn with
    | _ m ih =>
      intro a hm hI
      refine c_loop ((hb a hI).mono ?_)
      intro e env h hq
      cases e with
      | normal =>
        obtain ⟨b, h1, h2, h3, h4⟩ := hq
        exact c_sub h3 (c_next hB (hE b h1) (hH b h1) h4 (ih (μ b) (by omega) b rfl h1))
      | _ => exact hq
  exact fun a hI => key _ a rfl hI

theorem sub_push {env env0 : Env} {d : Nat} {v : V} (h : lk env0 d = none) (hs : Sub env env0) : Sub ((d, v) :: env) env0 := by
  intro t u ht
  simp only [lk]
  by_cases e : t = d
  · subst e; rw [h] at ht; cases ht
  · rw [if_neg e]; exact hs t u ht

theorem hs_nil {h : H} : ∀ l x, lk ([] : List (Nat × HB)) l = some x → h.get l = some x := fun _ _ h => by cases h
theorem hs_cons {h : H} {k : Nat} {y : HB} {bl : List (Nat × HB)} (hk : h.get k = some y) (hs : ∀ l x, lk bl l = some x → h.get l = some x) : ∀ l x, lk ((k, y) :: bl) l = some x → h.get l = some x := by
  intro l x hx
  simp only [lk] at hx
  by_cases e : l = k
  · rw [if_pos e] at hx; cases hx; rw [e]; exact hk
  · rw [if_neg e] at hx; exact hs l x hx

theorem bnd_nat {env : Env} {d m : Nat} {k : IntKind} {x : Operand} (h : evo env x = some (.sc (.int k (m : Int)))) : bnd env d (some x) = some m := by
  simp only [bnd, h]; rw [if_pos (by omega)]; simp

end Go.VM
