/- append, copy, slices that are made. -/
import Derived.Test.YtbngkdgmmknfjaaGreatDoorVH
namespace Go.VM
open Go
variable {X : Gx}

/-! ### a row of stores into one block -/
theorem store_raw {P : Program} {b o : Nat} {T : TypeId} {fr : Nat × Nat} (hfr : fr.1 = fr.2) : ∀ (vs : List Value) (k : Nat) (w : World) (cs : Array Value), w.heap[b]? = some (.cells cs T fr) → o + k + vs.length ≤ cs.size → (∀ v ∈ vs, v.oneCell' = true) →
    ∃ w' cs', (storeCells ⟨b, o, none⟩ vs k).run P w = .ok () w' ∧ w'.heap[b]? = some (.cells cs' T fr) ∧ cs'.size = cs.size ∧ (∀ x, x < o + k ∨ o + k + vs.length ≤ x → cs'[x]? = cs[x]?) ∧ (∀ j, j < vs.length → cs'[o + k + j]? = vs[j]?) ∧
      (∀ x, x ≠ b → w'.heap[x]? = w.heap[x]?) ∧ w'.heap.size = w.heap.size ∧ w'.os = w.os ∧ w'.output = w.output ∧ w'.tape = w.tape
  | [], k, w, cs, hb, _, _ => ⟨w, cs, by simp [storeCells], hb, rfl, fun _ _ => rfl, fun j hj => by simp at hj, fun _ _ => rfl, rfl, rfl, rfl, rfl⟩
  | v :: vs, k, w, cs, hb, hl, hv => by
    simp only [List.length_cons] at hl
    have hlt : o + k < cs.size := by omega
    have hnew : (w.setCell ⟨b, o + k, none⟩ v).heap[b]? = some (.cells (cs.setIfInBounds (o + k) v) T fr) := by rw [setCell_heap, if_pos rfl, hb]; rfl
    obtain ⟨w', cs', e1, e2, e3, e4, e5, e6, e7, e8, e9, e10⟩ := store_raw (P := P) (o := o) hfr vs (k + 1) _ _ hnew (by simp; omega) (fun u hu => hv u (by simp [hu]))
    have hcell : w.cell? ⟨b, o + k, none⟩ = some cs[o + k] := cell_of hb (Array.getElem?_eq_getElem hlt)
    have hfz : w.frozen? ⟨b, o + k, none⟩ = false := by unfold World.frozen?; simp [hb]; omega
    refine ⟨w', cs', ?_, e2, by simpa using e3, ?_, ?_, ?_, by rw [e7, setCell_size], e8, e9, e10⟩
    · simp only [storeCells, Sem.run_bind, add_none]
      rw [run_store _ _ _ _ _ (hv v (by simp))]
      simp only [hcell, hfz, Bool.false_eq_true, if_false, Result.andThen_ok]
      exact e1
    · intro x hx
      simp only [List.length_cons] at hx
      rw [e4 x (by omega), Array.getElem?_setIfInBounds_ne (by omega)]
    · intro j hj
      cases j with
      | zero =>
        rw [e4 _ (by omega)]
        simp [hlt]
      | succ j =>
        have := e5 j (by simpa using hj)
        rw [show o + k + (j + 1) = o + (k + 1) + j by omega, this]
        simp
    · intro x hx
      rw [e6 x hx, setCell_heap, if_neg hx]

def H.del (h : H) (l : Nat) : H := ⟨h.next, h.bl.filter fun p => !(p.1 == l)⟩
theorem lk_del {α : Type} (l : Nat) : ∀ (bl : List (Nat × α)) (l' : Nat) (x : α), lk (bl.filter fun p => !(p.1 == l)) l' = some x → l' ≠ l ∧ lk bl l' = some x
  | [], _, _, h => by cases h
  | (k, y) :: r, l', x, h => by
    simp only [List.filter_cons] at h
    split at h
    · rename_i hk
      have hk : k ≠ l := by simpa using hk
      simp only [lk] at h ⊢
      by_cases e : l' = k
      · rw [if_pos e] at h ⊢; exact ⟨by omega, h⟩
      · rw [if_neg e] at h ⊢; exact lk_del l r l' x h
    · rename_i hk
      have hk : k = l := by simpa using hk
      obtain ⟨h1, h2⟩ := lk_del l r l' x h
      refine ⟨h1, ?_⟩
      simp only [lk]; rw [if_neg (by omega)]; exact h2

/-- A block of which just the cells from 'base' on are written: it may take another name and other rows. -/
theorem HR.rename {g : G} {h : H} {w w' : World} (hh : HR X g h w) {l sz b base tot : Nat} {rows : List (List V)} (hl : h.get l = some (.rows sz rows false)) (hg : g.loc l = some (b, base, sz, tot))
    {cs cs' : Array Value} {T : TypeId} {fr : Nat × Nat} (hb : w.heap[b]? = some (.cells cs T fr)) (hb' : w'.heap[b]? = some (.cells cs' T fr)) (hfr : fr.1 = fr.2) (hcs : cs'.size = cs.size)
    (hsame : ∀ x, x < base ∨ base + tot * sz ≤ x → cs'[x]? = cs[x]?) (hold : ∀ x, x ≠ b → w'.heap[x]? = w.heap[x]?) (hsz : w'.heap.size = w.heap.size) (hos : w'.os = w.os) (hout : w'.output = w.output) (htp : w'.tape = w.tape)
    (i0 : Nat) (hi0 : i0 ≤ tot) (rows' : List (List V)) (hlen : rows'.length ≤ tot - i0) (hrow : ∀ (i : Nat) row, rows'[i]? = some row → row.length = sz)
    (hrel : ∀ (i : Nat) row (j : Nat) c, rows'[i]? = some row → row[j]? = some c → ∃ v, cs'[base + i0 * sz + i * sz + j]? = some v ∧ VR g v c) :
    Mv g w (g.newLoc h.next b (base + i0 * sz) sz (tot - i0)) w' ∧ HR X (g.newLoc h.next b (base + i0 * sz) sz (tot - i0)) ⟨h.next + 1, (h.next, .rows sz rows' false) :: (h.del l).bl⟩ w' := by
  have hf := hh.fresh h.next (Nat.le_refl _)
  have hown : g.owns b := .inl ⟨l, _, hg, rfl⟩
  have hle : G.le g (g.newLoc h.next b (base + i0 * sz) sz (tot - i0)) := by
    refine ⟨fun _ _ _ x => x, fun l x hx => ?_, fun _ _ x => x⟩
    simp only [G.newLoc]
    rw [if_neg (by intro e; subst e; rw [hf.1] at hx; cases hx)]; exact hx
  have hown' : ∀ x, (g.newLoc h.next b (base + i0 * sz) sz (tot - i0)).owns x → g.owns x := by
    rintro x (⟨l', y, hy, rfl⟩ | hx)
    · simp only [G.newLoc] at hy
      by_cases e : l' = h.next
      · rw [if_pos e] at hy; cases hy; exact hown
      · rw [if_neg e] at hy; exact .inl ⟨l', y, hy, rfl⟩
    · exact .inr hx
  obtain ⟨b1, base1, tot1, cs1, T1, fr1, a1, a2, a3, a4, a5, a6, a7, a8⟩ := hh.rows l sz rows false hl
  rw [hg] at a1
  cases a1
  rw [hb] at a2
  cases a2
  have hno : ∀ k u, g.imm b k = some u → k < base ∨ base + tot * sz ≤ k := by
    intro k u hu
    rcases Nat.lt_or_ge k base with h1 | h1
    · exact .inl h1
    · rcases Nat.lt_or_ge k (base + tot * sz) with h2 | h2
      · rw [a8 k h1 h2 (by intro h; cases h)] at hu; cases hu
      · exact .inr h2
  have hmul : i0 * sz + (tot - i0) * sz = tot * sz := by rw [← Nat.add_mul]; congr 1; omega
  refine ⟨⟨hle, fun x hx => .inl (hown' x hx), fun _ _ _ hx => .inl hx, by omega, fun x hx hn => hold x (by rintro rfl; exact hn hown), hos, hout, htp⟩, ?_⟩
  have hlt : ∀ l', h.get l' ≠ none → l' ≠ h.next := by
    rintro l' hn rfl
    cases hx : h.get h.next with
    | none => exact hn hx
    | some x =>
      cases x with
      | rows sz rows fz => obtain ⟨b2, _, _, _, _, _, c1, _⟩ := hh.rows _ _ _ _ hx; rw [hf.1] at c1; cases c1
      | map kv => obtain ⟨r, _, _, c1, _⟩ := hh.maps _ _ hx; rw [hf.2] at c1; cases c1
      | cell T row => obtain ⟨b2, _, c1, _⟩ := hh.cells _ _ _ hx; rw [hf.1] at c1; cases c1
  have hsub : ∀ l' x, lk ((h.next, HB.rows sz rows' false) :: (h.del l).bl) l' = some x → (l' = h.next ∧ x = .rows sz rows' false) ∨ (l' ≠ h.next ∧ l' ≠ l ∧ h.get l' = some x) := by
    intro l' x hx
    simp only [lk] at hx
    by_cases e : l' = h.next
    · rw [if_pos e] at hx; cases hx; exact .inl ⟨e, rfl⟩
    · rw [if_neg e] at hx
      obtain ⟨h1, h2⟩ := lk_del l h.bl l' x hx
      exact .inr ⟨e, h1, h2⟩
  refine ⟨hh.glk fun x _ hn => hold x (by rintro rfl; exact hn hown), fun x hx => hh.own0 x (hown' x hx), by rw [hsz]; exact hh.n0, ?_, ?_, ?_, ?_, ?_, ?_, fun x hx => by rw [hsz]; exact hh.owned x (hown' x hx)⟩
  · intro x k u hu
    have h1 := hh.imm x k u hu
    obtain ⟨c', t, fr', h2, h3⟩ := cell_some h1
    by_cases e : x = b
    · subst e
      rw [hb] at h2
      cases h2
      exact cell_of hb' (by rw [hsame k (hno k u hu)]; exact h3)
    · exact cell_of (by rw [hold x e]; exact h2) h3
  · intro l' sz' r' fz' hl'
    rcases hsub l' _ hl' with ⟨rfl, e⟩ | ⟨e1, e2, e3⟩
    · cases e
      refine ⟨b, base + i0 * sz, tot - i0, cs', T, fr, by simp [G.newLoc], hb', hfr, hlen, by omega, hrow, ?_, ?_⟩
      · intro i row j c h1 h2
        obtain ⟨v, h3, h4⟩ := hrel i row j c h1 h2
        exact ⟨v, h3, h4.mono hle, fun h => by cases h⟩
      · intro k h1 h2 _
        exact a8 k (by omega) (by omega) (by intro h; cases h)
    · obtain ⟨b', base', tot', cs'', T', fr', c1, c2, c3, c4, c5, c6, c7, c8⟩ := hh.rows l' sz' r' fz' e3
      have hbb : b' ≠ b := by
        rintro rfl
        exact hh.apart l' l _ _ b' e2 e3 hl (.inl ⟨_, c1, rfl⟩) (.inl ⟨_, hg, rfl⟩)
      refine ⟨b', base', tot', cs'', T', fr', hle.loc _ _ c1, by rw [hold b' hbb]; exact c2, c3, c4, c5, c6, ?_, c8⟩
      intro i row j c h1 h2
      obtain ⟨v, d1, d2, d3⟩ := c7 i row j c h1 h2
      exact ⟨v, d1, d2.mono hle, d3⟩
  · intro l' kv hl'
    rcases hsub l' _ hl' with ⟨rfl, e⟩ | ⟨e1, e2, e3⟩
    · cases e
    · obtain ⟨r, es, clock, c1, c2, c3, c4⟩ := hh.maps l' kv e3
      have hbb : r ≠ b := by
        rintro rfl
        exact hh.apart l' l _ _ r e2 e3 hl (.inr c1) (.inl ⟨_, hg, rfl⟩)
      exact ⟨r, es, clock, c1, by rw [hold r hbb]; exact c2, c3, fun i e k v h1 h2 => ⟨(c4 i e k v h1 h2).1.mono hle, (c4 i e k v h1 h2).2.mono hle⟩⟩
  · intro l' T' row' hl'
    rcases hsub l' _ hl' with ⟨rfl, e⟩ | ⟨e1, e2, e3⟩
    · cases e
    · obtain ⟨b', cs'', c1, c2, c3, c4, c5⟩ := hh.cells l' T' row' e3
      have hbb : b' ≠ b := by
        rintro rfl
        exact hh.apart l' l _ _ b' e2 e3 hl (.inl ⟨_, c1, rfl⟩) (.inl ⟨_, hg, rfl⟩)
      exact ⟨b', cs'', hle.loc _ _ c1, by rw [hold b' hbb]; exact c2, c3, fun j c h1 => by obtain ⟨v, d1, d2⟩ := c4 j c h1; exact ⟨v, d1, d2.mono hle⟩, c5⟩
  · have hz : ∀ l' z, l' ≠ h.next → ((∃ y, (g.newLoc h.next b (base + i0 * sz) sz (tot - i0)).loc l' = some y ∧ y.1 = z) ∨ (g.newLoc h.next b (base + i0 * sz) sz (tot - i0)).mp l' = some z) → ((∃ y, g.loc l' = some y ∧ y.1 = z) ∨ g.mp l' = some z) := by
      intro l' z hl' hx
      simpa only [G.newLoc, if_neg hl'] using hx
    have hn : ∀ z, ((∃ y, (g.newLoc h.next b (base + i0 * sz) sz (tot - i0)).loc h.next = some y ∧ y.1 = z) ∨ (g.newLoc h.next b (base + i0 * sz) sz (tot - i0)).mp h.next = some z) → z = b := by
      rintro z (⟨y, hy, rfl⟩ | hx)
      · simp only [G.newLoc, if_true, Option.some.injEq] at hy; rw [← hy]
      · simp only [G.newLoc, hf.2] at hx; cases hx
    intro l1 l2 x y z hne h1 h2 h3 h4
    rcases hsub l1 _ h1 with ⟨rfl, _⟩ | ⟨e1, e2, e3⟩
    · rcases hsub l2 _ h2 with ⟨rfl, _⟩ | ⟨f1, f2, f3⟩
      · exact hne rfl
      · have := hn z h3
        subst this
        exact hh.apart l2 l _ _ z f2 f3 hl (hz l2 z f1 h4) (.inl ⟨_, hg, rfl⟩)
    · rcases hsub l2 _ h2 with ⟨rfl, _⟩ | ⟨f1, f2, f3⟩
      · have := hn z h4
        subst this
        exact hh.apart l1 l _ _ z e2 e3 hl (hz l1 z e1 h3) (.inl ⟨_, hg, rfl⟩)
      · exact hh.apart l1 l2 x y z hne e3 f3 (hz l1 z e1 h3) (hz l2 z f1 h4)
  · intro l' hl'
    simp only at hl'
    have := hh.fresh l' (by omega)
    refine ⟨?_, this.2⟩
    simp only [G.newLoc]; rw [if_neg (by omega)]; exact this.1

/-! ### what is appended or copied: its first n elements as cells -/
def Src (X : Gx) (P : Program) (h : H) (W : V) (sz : Nat) (src : List (List V)) : Prop :=
  (∀ row ∈ src, row.length = sz) ∧ ∀ (g : G) (w : World) (v : Value), HR X g h w → VR g v W →
    (Builtin.lenOf v).run P w = .ok src.length w ∧ ∀ n, n ≤ src.length → ∃ news : List Value, (Builtin.firstCells sz n v).run P w = .ok news.toArray w ∧ news.length = n * sz ∧
      ∀ (i : Nat) row (j : Nat) c, i < n → src[i]? = some row → row[j]? = some c → ∃ u, news[i * sz + j]? = some u ∧ VR g u c

theorem grid {sz n i j : Nat} (hi : i < n) (hj : j < sz) : i * sz + j < n * sz := by
  have := Nat.mul_le_mul_right sz (show i + 1 ≤ n by omega)
  rw [Nat.add_mul] at this; omega

theorem cells_run {P : Program} {w : World} {b o sz n : Nat} (hz : ∀ i j, i < n → j < sz → ∃ u, w.cell? ⟨b, o + i * sz + j, none⟩ = some u) :
    ∃ news : List Value, (loadCells ⟨b, o, none⟩ (n * sz)).run P w = .ok news.toArray w ∧ news.length = n * sz ∧ ∀ i j, i < n → j < sz → news[i * sz + j]? = w.cell? ⟨b, o + i * sz + j, none⟩ := by
  have hex : ∀ k, k < n * sz → ∃ u, w.cell? ⟨b, o + k, none⟩ = some u := by
    intro k hk
    have hs : 0 < sz := Nat.pos_of_ne_zero (by rintro rfl; simp at hk)
    obtain ⟨u, hu⟩ := hz (k / sz) (k % sz) (by rw [Nat.div_lt_iff_lt_mul hs]; exact hk) (Nat.mod_lt _ hs)
    refine ⟨u, ?_⟩
    have := Nat.div_add_mod k sz
    rw [Nat.mul_comm] at this
    rw [Nat.add_assoc, this] at hu
    exact hu
  let f : Nat → Value := fun k => (w.cell? ⟨b, o + k, none⟩).getD undef
  have hr := run_loadCells (P := P) w ⟨b, o, none⟩ (n * sz) f (fun k hk => by
    obtain ⟨u, hu⟩ := hex k hk
    rw [add_none]; simp only [f, hu, Option.getD_some])
  refine ⟨(List.range (n * sz)).map f, hr, by simp, fun i j hi hj => ?_⟩
  have hk := grid hi hj
  rw [List.getElem?_map, List.getElem?_range hk]
  obtain ⟨u, hu⟩ := hex _ hk
  rw [← Nat.add_assoc] at hu
  simp only [Option.map_some, f, ← Nat.add_assoc, hu, Option.getD_some]

theorem src_lst {P : Program} {h : H} {sz : Nat} {full : Bool} {rows : List (List V)} (hr : ∀ row ∈ rows, row.length = sz) : Src X P h (.lst sz full rows) sz rows := by
  refine ⟨hr, fun g w v hh hv => ?_⟩
  cases hv with
  | nil a _ _ =>
    refine ⟨by simp [Builtin.lenOf], fun n hn => ?_⟩
    have : n = 0 := by simpa using hn
    subst this
    exact ⟨[], by cases a <;> simp [Builtin.firstCells, loadCells, loadCellsFrom], by simp, fun i row j c _ h => by simp at h⟩
  | lst b o n cap _ _ _ f h1 h2 h3 h4 h5 h6 =>
    refine ⟨by simp [Builtin.lenOf, h1], fun m hm => ?_⟩
    have hget : ∀ i j, i < m → j < sz → ∃ row c, rows[i]? = some row ∧ row[j]? = some c := by
      intro i j hi hj
      have hlt : i < rows.length := by omega
      have := h4 i _ (List.getElem?_eq_getElem hlt)
      exact ⟨rows[i], rows[i][j], List.getElem?_eq_getElem hlt, List.getElem?_eq_getElem (by omega)⟩
    obtain ⟨news, e1, e2, e3⟩ := cells_run (P := P) (w := w) (b := b) (o := o) (sz := sz) (n := m) (fun i j hi hj => by
      obtain ⟨row, c, g1, g2⟩ := hget i j hi hj
      exact ⟨_, hh.imm _ _ _ (h5 i row j c g1 g2)⟩)
    refine ⟨news, by simpa [Builtin.firstCells] using e1, e2, fun i row j c hi g1 g2 => ?_⟩
    have hj : j < sz := by rw [← h4 i row g1]; exact (List.getElem?_eq_some_iff.1 g2).1
    rw [e3 i j hi hj]
    exact ⟨_, hh.imm _ _ _ (h5 i row j c g1 g2), h6 i row j c g1 g2⟩
theorem src_ms {P : Program} {h : H} {sz l i0 m : Nat} {full fz : Bool} {rows : List (List V)} (hl : h.get l = some (.rows sz rows fz)) (him : i0 + m ≤ rows.length) (hrw : ∀ row ∈ rows, row.length = sz) : Src X P h (.ms l i0 m full) sz ((rows.drop i0).take m) := by
  refine ⟨fun row hr => hrw row (List.mem_of_mem_drop (List.mem_of_mem_take hr)), fun g w v hh hv => ?_⟩
  have hln : ((rows.drop i0).take m).length = m := by simp; omega
  cases hv with
  | ms _ _ _ cap b base sz' tot _ h2 h3 h4 h5 h6 =>
    obtain ⟨b', base', tot', cs, T', fr, a1, a2, a3, a4, a5, a6, a7, a8⟩ := hh.rows l sz rows fz hl
    rw [h2] at a1
    cases a1
    refine ⟨by simp [Builtin.lenOf]; omega, fun n hn => ?_⟩
    rw [hln] at hn
    have hget : ∀ i j, i < n → j < sz → ∃ row c u, rows[i0 + i]? = some row ∧ row[j]? = some c ∧ w.cell? ⟨b, base + i0 * sz + i * sz + j, none⟩ = some u ∧ VR g u c := by
      intro i j hi hj
      have hlt : i0 + i < rows.length := by omega
      have := a6 _ _ (List.getElem?_eq_getElem hlt)
      have hlt2 : j < rows[i0 + i].length := by omega
      obtain ⟨u, c1, c2, _⟩ := a7 _ _ j _ (List.getElem?_eq_getElem hlt) (List.getElem?_eq_getElem hlt2)
      refine ⟨_, _, u, List.getElem?_eq_getElem hlt, List.getElem?_eq_getElem hlt2, cell_of a2 ?_, c2⟩
      rw [Nat.add_mul] at c1
      rw [Nat.add_assoc base, ← Nat.add_assoc base]; simpa [Nat.add_assoc] using c1
    obtain ⟨news, e1, e2, e3⟩ := cells_run (P := P) (w := w) (b := b) (o := base + i0 * sz) (sz := sz) (n := n) (fun i j hi hj => by
      obtain ⟨_, _, u, _, _, hu, _⟩ := hget i j hi hj
      exact ⟨u, hu⟩)
    refine ⟨news, by simpa [Builtin.firstCells] using e1, e2, fun i row j c hi g1 g2 => ?_⟩
    rw [List.getElem?_take_of_lt (by omega), List.getElem?_drop] at g1
    have hj : j < sz := by rw [← a6 _ _ g1]; exact (List.getElem?_eq_some_iff.1 g2).1
    obtain ⟨row', c', u, f1, f2, f3, f4⟩ := hget i j hi hj
    rw [g1] at f1
    cases f1
    rw [g2] at f2
    cases f2
    rw [e3 i j hi hj]
    exact ⟨u, f3, f4⟩
theorem src_str {P : Program} {h : H} (s : List UInt8) : Src X P h (.sc (.string (bs s))) 1 (s.map fun c => [V.sc (.int .u8 c.toNat)]) := by
  refine ⟨by simp, fun g w v hh hv => ?_⟩
  rw [hv.sc_inv]
  refine ⟨by simp [Builtin.lenOf, bs_size], fun n hn => ?_⟩
  have hn' : n ≤ s.length := by simpa using hn
  refine ⟨(s.take n).map fun c => .int .u8 c.toNat, ?_, by simp; omega, ?_⟩
  · simp only [Builtin.firstCells, Sem.run_pure, bs_extract]
    congr 1
    apply Array.ext'
    simp [bs]
  · intro i row j c hi h1 h2
    have hlt : i < s.length := by omega
    simp [hlt] at h1
    subst h1
    cases j with
    | zero =>
      simp at h2
      subst h2
      exact ⟨.int .u8 s[i].toNat, by simp [hi, hlt], .sc _⟩
    | succ j => simp at h2

theorem one_of_src {g : G} {sz n : Nat} {src : List (List V)} {news : List Value} (hone : ∀ row ∈ src, ∀ c ∈ row, V.one c = true) (hrow : ∀ row ∈ src, row.length = sz) (hn : n ≤ src.length) (hl : news.length = n * sz)
    (hrel : ∀ (i : Nat) row (j : Nat) c, i < n → src[i]? = some row → row[j]? = some c → ∃ u, news[i * sz + j]? = some u ∧ VR g u c) : ∀ v ∈ news, v.oneCell' = true := by
  intro v hv
  obtain ⟨k, hk, rfl⟩ := List.mem_iff_getElem.1 hv
  have hs : 0 < sz := Nat.pos_of_ne_zero (by rintro rfl; omega)
  have hi : k / sz < n := by rw [Nat.div_lt_iff_lt_mul hs]; omega
  have hj := Nat.mod_lt k hs
  have hlt : k / sz < src.length := by omega
  have hrl := hrow _ (List.getElem_mem hlt)
  obtain ⟨u, h1, h2⟩ := hrel (k / sz) _ (k % sz) _ hi (List.getElem?_eq_getElem hlt) (List.getElem?_eq_getElem (by rw [hrl]; exact hj))
  have e : k / sz * sz + k % sz = k := by rw [Nat.mul_comm]; exact Nat.div_add_mod k sz
  rw [e, List.getElem?_eq_getElem hk] at h1
  cases h1
  exact one_cell h2 (hone _ (List.getElem_mem hlt) _ (List.getElem_mem _))

theorem nextcap_le (need old : Nat) (h : old < need) : Builtin.nextslicecap need old ≤ 2 * need + 512 := by
  unfold Builtin.nextslicecap
  have hg : ∀ r c, c ≤ 2 * need + 256 → Builtin.growBy need r c ≤ 2 * need + 512 := by
    intro r
    induction r with
    | zero => intro c hc; simp only [Builtin.growBy]; omega
    | succ r ih =>
      intro c hc
      simp only [Builtin.growBy]
      split
      · omega
      · exact ih _ (by omega)
  split
  · omega
  · split
    · omega
    · exact hg _ _ (by omega)

section rules
variable {P : Program} {o : Oper} {env : Env} {h : H}

/-- An append that lays a new array in any case or goes on in the array that is its own. -/
theorem s_app {T U E : TypeId} {x y : Operand} {l i0 m sz : Nat} {rows src : List (List V)} {W : V} {inf : TypeInfo} {z : Value}
    (ho : o.op = .call { callee := .builtin .append, args := #[x, y], argTypes := #[T, U] }) (hu : ∀ w, (underlying T).run P w = .ok (.slice E) w) (hnz : ∃ d, (∀ w, (underlying U).run P w = .ok d w) ∧ ∀ k, d ≠ .int k)
    (hs : ∀ w, (sizeOf E).run P w = .ok sz w) (hi : ∀ w, (typeInfo E).run P w = .ok inf w) (hz : ∀ w, (zeroValue E).run P w = .ok z w) (hzs : z.cells.size = sz)
    (hx : evo env x = some (.ms l i0 m false)) (hl : h.get l = some (.rows sz rows false)) (hend : i0 + m = rows.length) (hy : evo env y = some W) (hsrc : Src X P h W sz src)
    (hone : ∀ row ∈ src, ∀ c ∈ row, V.one c = true) (hb : inf.bytes ≤ 1000) (hn : m + src.length ≤ 100000000000) : StepV X P o env h (.ms h.next 0 (m + src.length) false) ⟨h.next + 1, (h.next, .rows sz (rows.drop i0 ++ src) false) :: (h.del l).bl⟩ .w := by
  intro g w e he hh
  have h1 := he x (by rw [ho]; simp [Op.operands, Call.operands])
  have h2 := he y (by rw [ho]; simp [Op.operands, Call.operands])
  rw [ev_of hx] at h1
  rw [ev_of hy] at h2
  obtain ⟨dU, hdU, hdn⟩ := hnz
  obtain ⟨hsr, hsv⟩ := hsrc
  obtain ⟨k1, k2⟩ := hsv g w (e y) hh h2
  obtain ⟨news, k3, k4, k5⟩ := k2 src.length (Nat.le_refl _)
  have hnone := one_of_src hone hsr (Nat.le_refl _) k4 k5
  generalize hcs : e x = u at h1
  cases h1 with
  | ms _ _ _ cap b base sz' tot _ a1 a2 a3 a4 a5 =>
    obtain ⟨b', base', tot', cs, T', fr, c1, c2, c3, c4, c5, c6, c7, c8⟩ := hh.rows l sz rows false hl
    rw [a1] at c1
    cases c1
    have hcap : i0 + cap = tot := a3 rfl
    have hexec : ∀ (r : Value) (w' : World), (Builtin.append_ #[T, U] o.type #[.slice (some ⟨b, base + i0 * sz, none⟩) m cap, e y]).run P w = .ok r w' → (execOp e o).run P w = .ok (.value r) w' := by
      intro r w' hr
      simp only [execOp, ho, resolve, Sem.run_bind, Sem.run_pure, Result.andThen_ok, invoke, builtin]
      simp [hcs, hr]
    have hold : ∀ (i : Nat) row (j : Nat) c, (rows.drop i0)[i]? = some row → row[j]? = some c → ∃ v, cs[base + i0 * sz + i * sz + j]? = some v ∧ VR g v c ∧ i < m ∧ j < sz := by
      intro i row j c g1 g2
      rw [List.getElem?_drop] at g1
      obtain ⟨v, d1, d2, _⟩ := c7 _ row j c g1 g2
      have hlt := (List.getElem?_eq_some_iff.1 g1).1
      refine ⟨v, ?_, d2, by omega, by rw [← c6 _ _ g1]; exact (List.getElem?_eq_some_iff.1 g2).1⟩
      rw [Nat.add_mul, ← Nat.add_assoc] at d1; exact d1
    have hdl : (rows.drop i0).length = m := by simp; omega
    have hrow' : ∀ (i : Nat) row, (rows.drop i0 ++ src)[i]? = some row → row.length = sz := by
      intro i row g1
      rcases List.mem_append.1 (List.mem_of_getElem? g1) with hm | hm
      · obtain ⟨k, hk⟩ := List.mem_iff_getElem?.1 (List.mem_of_mem_drop hm)
        exact c6 k row hk
      · exact hsr row hm
    by_cases hroom : m + src.length ≤ cap
    · -- in place
      have hmul : i0 * sz + m * sz + src.length * sz ≤ tot * sz := by
        rw [← Nat.add_mul, ← Nat.add_mul]; exact Nat.mul_le_mul_right sz (by omega)
      obtain ⟨w', cs', e1, e2, e3, e4, e5, e6, e7, e8, e9, e10⟩ := store_raw (P := P) (b := b) (o := base + i0 * sz + m * sz) (T := T') c3 news 0 w cs c2 (by rw [k4]; omega) hnone
      have hrun : (Builtin.append_ #[T, U] o.type #[.slice (some ⟨b, base + i0 * sz, none⟩) m cap, e y]).run P w = .ok (.slice (some ⟨b, base + i0 * sz, none⟩) (m + src.length) cap) w' := by
        simp only [Builtin.append_]
        cases dU <;> first
          | exact absurd rfl (hdn _)
          | simp only [List.getElem?_toArray, List.getElem?_cons_zero, List.getElem?_cons_succ, Sem.run_bind, hu, hs, Result.andThen_ok, hdU, Sem.run_pure, Bool.false_eq_true, if_false, k1, hroom, if_true, Bool.not_false, k3, add_none, e1]
      obtain ⟨q1, q2⟩ := HR.rename hh hl a1 c2 e2 c3 e3 (fun x hx => e4 x (by rw [k4]; omega)) e6 e7 e8 e9 e10 i0 (by omega) (rows.drop i0 ++ src) (by simp; omega) hrow' (by
        intro i row j c g1 g2
        rw [List.getElem?_append] at g1
        split at g1
        · obtain ⟨v, d1, d2, d3, d4⟩ := hold i row j c g1 g2
          have := grid d3 d4
          exact ⟨v, by rw [e4 _ (by omega)]; exact d1, d2⟩
        · rename_i hge
          rw [hdl] at g1 hge
          have hil := (List.getElem?_eq_some_iff.1 g1).1
          obtain ⟨v, d1, d2⟩ := k5 _ row j c hil g1 g2
          refine ⟨v, ?_, d2⟩
          have hjl := (List.getElem?_eq_some_iff.1 d1).1
          have := e5 _ hjl
          rw [← d1, ← this]
          have : i * sz = m * sz + (i - m) * sz := by rw [← Nat.add_mul]; congr 1; omega
          congr 1; omega)
      unfold Goes
      rw [hexec _ _ hrun]
      refine ⟨_, q1, q2, ?_⟩
      have := VR.ms (g := g.newLoc h.next b (base + i0 * sz) sz (tot - i0)) h.next 0 (m + src.length) cap b (base + i0 * sz) sz (tot - i0) false (by simp [G.newLoc]) (by intro h; cases h) (by intro _; omega) hroom (by omega)
      simpa using this
    · -- a new array
      have hnc := nextcap_le (m + src.length) cap (by omega)
      have hbig : ¬ (Builtin.nextslicecap (m + src.length) cap * inf.bytes > 2 ^ 48) := by
        have : Builtin.nextslicecap (m + src.length) cap * inf.bytes ≤ 200000000512 * 1000 := Nat.mul_le_mul (by omega) hb
        omega
      obtain ⟨olds, p1, p2, p3⟩ := cells_run (P := P) (w := { w with drawn := w.drawn + 1 }) (b := b) (o := base + i0 * sz) (sz := sz) (n := m) (fun i j hi' hj => by
        have hlt : i0 + i < rows.length := by omega
        have hrl := c6 _ _ (List.getElem?_eq_getElem hlt)
        obtain ⟨u, d1, _⟩ := c7 _ _ j _ (List.getElem?_eq_getElem hlt) (List.getElem?_eq_getElem (show j < rows[i0 + i].length by omega))
        refine ⟨u, cell_of (w := { w with drawn := w.drawn + 1 }) c2 ?_⟩
        rw [Nat.add_mul, ← Nat.add_assoc] at d1; exact d1)
      have hh2 : HR X g h { w with drawn := w.drawn + 1 } := hh.drew _
      obtain ⟨_, k2'⟩ := hsv g _ (e y) hh2 h2
      obtain ⟨news', k3', k4', k5'⟩ := k2' src.length (Nat.le_refl _)
      let nc := (Question.appendCap (m + src.length) cap E).cut (w.tape w.drawn (.appendCap (m + src.length) cap E))
      have hnc2 : m + src.length ≤ nc := by simp only [nc, Question.cut]; omega
      let cells := olds.toArray ++ news'.toArray ++ Builtin.zeroCells z.cells (nc - (m + src.length))
      have hcsz : cells.size = nc * sz := by
        have : (nc - (m + src.length)) * sz + (m + src.length) * sz = nc * sz := by rw [← Nat.add_mul]; congr 1; omega
        simp only [cells, Array.size_append, List.size_toArray, p2, k4', Builtin.zeroCells, Array.size_map, Array.size_range, hzs]
        rw [Nat.add_mul] at this
        omega
      have hrun : (Builtin.append_ #[T, U] o.type #[.slice (some ⟨b, base + i0 * sz, none⟩) m cap, e y]).run P w = .ok (.slice (some ⟨w.heap.size, 0, none⟩) (m + src.length) nc) (World.more { w with drawn := w.drawn + 1 } (.cells cells E)) := by
        have hlen63 : ¬ (((m + src.length : Nat) : Int) > IntKind.i64.max ∧ (False ∨ inf.bytes = 0)) := by
          have : IntKind.i64.max = 9223372036854775807 := by decide
          rw [this]; omega
        have hfirst : (Builtin.firstCells sz m (.slice (some ⟨b, base + i0 * sz, none⟩) m cap)).run P { w with drawn := w.drawn + 1 } = .ok olds.toArray { w with drawn := w.drawn + 1 } := by
          simpa [Builtin.firstCells] using p1
        simp only [Builtin.append_]
        cases dU <;> first
          | exact absurd rfl (hdn _)
          | (simp only [List.getElem?_toArray, List.getElem?_cons_zero, List.getElem?_cons_succ, Sem.run_bind, hu, hs, Result.andThen_ok, hdU, Sem.run_pure, Bool.false_eq_true, if_false, k1, hroom, hi, Bool.not_false, if_true]
             rw [if_neg hlen63]
             simp only [Sem.run_bind, hi, Result.andThen_ok]
             rw [if_neg hbig]
             simp only [Sem.run_bind, hi, Sem.run_pure, Result.andThen_ok, run_choose, Question.forced, Bool.false_eq_true, if_false, run_askRoom, hfirst, k3', hz, newRow, Sem.run_bind, run_newObj]
             rfl)
      have hsubh : HSub h (h.del l) := ⟨fun l' x hx => (lk_del l h.bl l' x hx).2, Nat.le_refl _⟩
      obtain ⟨q1, q2⟩ := HR.new (hh2.sub hsubh) cells E sz (rows.drop i0 ++ src) nc (by omega) (by simp; omega) hrow' (by
        intro i row j c g1 g2
        rw [List.getElem?_append] at g1
        split at g1
        · obtain ⟨v, d1, d2, d3, d4⟩ := hold i row j c g1 g2
          have hk := grid d3 d4
          have hp := p3 i j d3 d4
          rw [cell_of (w := { w with drawn := w.drawn + 1 }) c2 d1] at hp
          refine ⟨v, ?_, d2⟩
          simp only [cells]
          rw [Array.append_assoc, Array.getElem?_append, if_pos (by simp [p2]; exact hk)]
          simpa using hp
        · rename_i hge
          rw [hdl] at g1 hge
          have hil := (List.getElem?_eq_some_iff.1 g1).1
          obtain ⟨v, d1, d2⟩ := k5' _ row j c hil g1 g2
          refine ⟨v, ?_, d2⟩
          have hjl := (List.getElem?_eq_some_iff.1 d1).1
          have hie : i * sz = m * sz + (i - m) * sz := by rw [← Nat.add_mul]; congr 1; omega
          simp only [cells]
          rw [Array.append_assoc, Array.getElem?_append, if_neg (by simp [p2]; omega), Array.getElem?_append, if_pos (by simp [p2]; omega)]
          rw [← d1]
          simp only [List.size_toArray, p2, List.getElem?_toArray]
          congr 1; omega)
      unfold Goes
      rw [hexec _ _ hrun]
      refine ⟨_, (Mv.drew g w _).trans q1, q2, ?_⟩
      have := VR.ms (g := g.newLoc (h.del l).next w.heap.size 0 sz nc) h.next 0 (m + src.length) nc w.heap.size 0 sz nc false (by simp [G.newLoc, H.del]) (by intro h; cases h) (by intro _; omega) hnc2 (by omega)
      simpa using this

end rules
end Go.VM
