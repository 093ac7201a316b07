/- What is frozen; structs and slices that are built; comparisons. -/
import Derived.Test.YtbngkdgmmknfjaaGreatDoorVF
namespace Go.VM
open Go
variable {X : Gx}

/-! ### freezing -/
theorem HR.freeze {g : G} {h : H} {w : World} (hh : HR X g h w) {l sz : Nat} {rows : List (List V)} (hl : h.get l = some (.rows sz rows false)) :
    ∃ g', Mv g w g' w ∧ HR X g' (h.put l (.rows sz rows true)) w := by
  obtain ⟨b, base, tot, cs, T, fr, a1, a2, a3, a4, a5, a6, a7, a8⟩ := hh.rows l sz rows false hl
  let g' : G := ⟨fun x k => if x = b ∧ base ≤ k ∧ k < base + rows.length * sz then cs[k]? else g.imm x k, g.loc, g.mp⟩
  have hle : G.le g g' := by
    refine ⟨fun x k v hx => ?_, fun _ _ x => x, fun _ _ x => x⟩
    simp only [g']
    split
    · rename_i hc
      obtain ⟨rfl, h1, h2⟩ := hc
      have hm := Nat.mul_le_mul_right sz a4
      have := a8 k h1 (by omega) (by intro h; cases h)
      rw [this] at hx; cases hx
    · exact hx
  have hown : g.owns b := .inl ⟨l, _, a1, rfl⟩
  refine ⟨g', ⟨hle, fun x hx => .inl hx, fun x k v hx => ?_, Nat.le_refl _, fun _ _ _ => rfl, rfl, rfl, rfl⟩, ?_⟩
  · simp only [g'] at hx
    split at hx
    · rename_i hc; rw [hc.1]; exact .inr (.inl hown)
    · exact .inl hx
  · refine ⟨hh.gl, hh.own0, hh.n0, ?_, ?_, ?_, ?_, ?_, hh.fresh, hh.owned⟩
    · intro x k v hx
      simp only [g'] at hx
      split at hx
      · rename_i hc; rw [hc.1]; exact cell_of a2 hx
      · exact hh.imm x k v hx
    · intro l' sz' rows' fz' hl'
      simp only [H.get, H.put, lk] at hl'
      by_cases e : l' = l
      · rw [if_pos e] at hl'
        cases hl'
        subst e
        refine ⟨b, base, tot, cs, T, fr, a1, a2, a3, a4, a5, a6, ?_, ?_⟩
        · intro i row j c h1 h2
          obtain ⟨v, c1, c2, c3⟩ := a7 i row j c h1 h2
          refine ⟨v, c1, c2.mono hle, fun _ => ?_⟩
          have hi := (List.getElem?_eq_some_iff.1 h1).1
          have hj : j < sz := by rw [← a6 _ _ h1]; exact (List.getElem?_eq_some_iff.1 h2).1
          have hm := Nat.mul_le_mul_right sz (show i + 1 ≤ rows.length by omega)
          rw [Nat.add_mul] at hm
          simp only [g']
          rw [if_pos ⟨trivial, by omega, by omega⟩]
          exact c1
        · intro k h1 h2 h3
          have := h3 rfl
          simp only [g']
          rw [if_neg (by simp; omega)]
          exact a8 k h1 h2 (by intro h; cases h)
      · rw [if_neg e] at hl'
        obtain ⟨b', base', tot', cs', T', fr', c1, c2, c3, c4, c5, c6, c7, c8⟩ := hh.rows l' sz' rows' fz' hl'
        have hbb : b' ≠ b := by
          rintro rfl
          exact hh.apart l' l _ _ b' e hl' hl (.inl ⟨_, c1, rfl⟩) (.inl ⟨_, a1, rfl⟩)
        refine ⟨b', base', tot', cs', T', fr', c1, c2, c3, c4, c5, c6, ?_, ?_⟩
        · intro i row j c h1 h2
          obtain ⟨v, d1, d2, d3⟩ := c7 i row j c h1 h2
          exact ⟨v, d1, d2.mono hle, fun h => hle.imm _ _ _ (d3 h)⟩
        · intro k h1 h2 h3
          simp only [g']
          rw [if_neg (fun h => hbb h.1)]
          exact c8 k h1 h2 h3
    · intro l' kv hl'
      simp only [H.get, H.put, lk] at hl'
      by_cases e : l' = l
      · rw [if_pos e] at hl'; cases hl'
      · rw [if_neg e] at hl'
        obtain ⟨r, es, clock, c1, c2, c3, c4⟩ := hh.maps l' kv hl'
        exact ⟨r, es, clock, c1, c2, c3, fun i e k v h1 h2 => ⟨(c4 i e k v h1 h2).1.mono hle, (c4 i e k v h1 h2).2.mono hle⟩⟩
    · intro l' T' row' hl'
      simp only [H.get, H.put, lk] at hl'
      by_cases e : l' = l
      · rw [if_pos e] at hl'; cases hl'
      · rw [if_neg e] at hl'
        obtain ⟨b', cs', c1, c2, c3, c4, c5⟩ := hh.cells l' T' row' hl'
        have hbb : b' ≠ b := by
          rintro rfl
          exact hh.apart l' l _ _ b' e hl' hl (.inl ⟨_, c1, rfl⟩) (.inl ⟨_, a1, rfl⟩)
        exact ⟨b', cs', c1, c2, c3, fun j c h1 => by obtain ⟨v, d1, d2⟩ := c4 j c h1; exact ⟨v, d1, d2.mono hle⟩, fun k => by simp only [g']; rw [if_neg (fun h => hbb h.1)]; exact c5 k⟩
    · intro l1 l2 x y z hne h1 h2
      have conv : ∀ l' x, (h.put l (.rows sz rows true)).get l' = some x → ∃ y, h.get l' = some y := by
        intro l' x hx
        simp only [H.get, H.put, lk] at hx
        by_cases e : l' = l
        · subst e; exact ⟨_, hl⟩
        · rw [if_neg e] at hx; exact ⟨x, hx⟩
      obtain ⟨x', h1'⟩ := conv l1 x h1
      obtain ⟨y', h2'⟩ := conv l2 y h2
      exact hh.apart l1 l2 x' y' z hne h1' h2'

theorem c_frz {P : Program} {N B : Nat} {env : Env} {h : H} {Q : Exit → Env → H → Prop} {c : Code} (l : Nat) {sz : Nat} {rows : List (List V)} (hl : h.get l = some (.rows sz rows false))
    (hc : CodeOK X P N B c env (h.put l (.rows sz rows true)) Q) : CodeOK X P N B c env h Q := by
  intro g w a ha hh
  obtain ⟨g', m, hr⟩ := hh.freeze hl
  exact wp_mono (hc g' w a (ha.mono m.le) hr) fun e a' w' hq => CPost.from (m.toB B) hq

/-- What reads as W reads as W' as well. -/
def Conv (X : Gx) (h : H) (W W' : V) : Prop := ∀ (g : G) (w : World) (v : Value), HR X g h w → VR g v W → VR g v W'
theorem conv_refl {h : H} {W : V} : Conv X h W W := fun _ _ _ _ x => x
theorem conv_ptr {h : H} {l i j sz : Nat} {rows : List (List V)} {row : List V} (hl : h.get l = some (.rows sz rows true)) (hr : rows[i]? = some row) : Conv X h (.ptr l i j) (.ip (row.drop j)) := by
  intro g w v hh hv
  cases hv with
  | ptr _ _ _ b base sz' tot h2 =>
    obtain ⟨b', base', tot', cs, T', fr, a1, a2, a3, a4, a5, a6, a7, a8⟩ := hh.rows l sz rows true hl
    rw [h2] at a1
    cases a1
    have hex : ∀ k c, row[k]? = some c → ∃ v, g.imm b (base + i * sz + k) = some v ∧ VR g v c := fun k c hk => by
      obtain ⟨v, _, c2, c3⟩ := a7 i row k c hr hk
      exact ⟨v, c3 rfl, c2⟩
    refine .ip b _ _ (fun k => (g.imm b (base + i * sz + (j + k))).getD undef) ?_ ?_
    · intro k c hk
      rw [List.getElem?_drop] at hk
      obtain ⟨v, h1, h2⟩ := hex _ c hk
      rw [Nat.add_assoc (base + i * sz) j k, h1]; rfl
    · intro k c hk
      rw [List.getElem?_drop] at hk
      obtain ⟨v, h1, h2⟩ := hex _ c hk
      rw [h1]; exact h2
theorem conv_ms {h : H} {l i n sz : Nat} {full : Bool} {rows : List (List V)} (hl : h.get l = some (.rows sz rows true)) (hr : i + n ≤ rows.length) : Conv X h (.ms l i n full) (.lst sz full ((rows.drop i).take n)) := by
  intro g w v hh hv
  cases hv with
  | ms _ _ _ cap b base sz' tot _ h2 h3 h4 h5 h6 =>
    obtain ⟨b', base', tot', cs, T', fr, a1, a2, a3, a4, a5, a6, a7, a8⟩ := hh.rows l sz rows true hl
    rw [h2] at a1
    cases a1
    have hrow : ∀ k row, ((rows.drop i).take n)[k]? = some row → rows[i + k]? = some row := by
      intro k row hk
      rw [List.getElem?_take] at hk
      split at hk
      · rwa [List.getElem?_drop] at hk
      · cases hk
    refine .lst b _ n cap sz full _ (fun k j => (g.imm b (base + i * sz + k * sz + j)).getD undef) (by simp; omega) h5 h3 (fun k row hk => a6 _ _ (hrow k row hk)) ?_ ?_
    · intro k row j c hk hj
      obtain ⟨v, _, c2, c3⟩ := a7 _ row j c (hrow k row hk) hj
      have := c3 rfl
      rw [Nat.add_mul, ← Nat.add_assoc] at this
      rw [this]; rfl
    · intro k row j c hk hj
      obtain ⟨v, _, c2, c3⟩ := a7 _ row j c (hrow k row hk) hj
      have := c3 rfl
      rw [Nat.add_mul, ← Nat.add_assoc] at this
      rw [this]; exact c2
theorem conv_agg {h : H} {cs cs' : List V} (hl : cs'.length = cs.length) (hc : ∀ (i : Nat) W W', cs[i]? = some W → cs'[i]? = some W' → Conv X h W W') : Conv X h (.agg cs) (.agg cs') := by
  intro g w v hh hv
  cases hv with
  | agg vs _ h1 h2 =>
    refine .agg vs cs' (by omega) fun i v W e1 e2 => ?_
    have hlt : i < cs.length := by rw [← hl]; exact (List.getElem?_eq_some_iff.1 e2).1
    exact hc i cs[i] W (List.getElem?_eq_getElem hlt) e2 g w v hh (h2 i v _ e1 (List.getElem?_eq_getElem hlt))
theorem c_conv {P : Program} {N B : Nat} {env : Env} {h : H} {Q : Exit → Env → H → Prop} {c : Code} (t : Nat) {W W' : V} (ht : lk env t = some W) (hw : Conv X h W W') (hc : CodeOK X P N B c ((t, W') :: env) h Q) : CodeOK X P N B c env h Q :=
  fun g w a ha hh => hc g w a ⟨ha.size, ha.defers, fun u v hu => by
    simp only [lk] at hu
    by_cases e : u = t
    · subst e; simp only [if_true, Option.some.injEq] at hu; subst hu; exact hw g w _ hh (ha.at_ u _ ht)
    · rw [if_neg e] at hu; exact ha.at_ u v hu⟩ hh
/-- The same within a block. -/
theorem c_convh {P : Program} {N B : Nat} {env : Env} {h : H} {Q : Exit → Env → H → Prop} {c : Code} (l : Nat) {sz : Nat} {rows rows' : List (List V)} {fz : Bool} (hl : h.get l = some (.rows sz rows fz)) (hlen : rows'.length = rows.length)
    (hw : ∀ (i : Nat) row row', rows[i]? = some row → rows'[i]? = some row' → row'.length = row.length ∧ ∀ (j : Nat) W W', row[j]? = some W → row'[j]? = some W' → Conv X h W W')
    (hc : CodeOK X P N B c env (h.put l (.rows sz rows' fz)) Q) : CodeOK X P N B c env h Q := by
  intro g w a ha hh
  refine hc g w a ha ⟨hh.gl, hh.own0, hh.n0, hh.imm, ?_, ?_, ?_, ?_, hh.fresh, hh.owned⟩
  · intro l' sz' r' fz' hl'
    simp only [H.get, H.put, lk] at hl'
    by_cases e : l' = l
    · rw [if_pos e] at hl'
      cases hl'
      subst e
      obtain ⟨b, base, tot, cs, T, fr, a1, a2, a3, a4, a5, a6, a7, a8⟩ := hh.rows l' sz rows fz hl
      refine ⟨b, base, tot, cs, T, fr, a1, a2, a3, by omega, a5, ?_, ?_, by rw [hlen]; exact a8⟩
      · intro i row' hi
        have hlt : i < rows.length := by rw [← hlen]; exact (List.getElem?_eq_some_iff.1 hi).1
        rw [(hw i _ row' (List.getElem?_eq_getElem hlt) hi).1]
        exact a6 i _ (List.getElem?_eq_getElem hlt)
      · intro i row' j c' hi hj
        have hlt : i < rows.length := by rw [← hlen]; exact (List.getElem?_eq_some_iff.1 hi).1
        obtain ⟨e1, e2⟩ := hw i _ row' (List.getElem?_eq_getElem hlt) hi
        have hlt2 : j < rows[i].length := by rw [← e1]; exact (List.getElem?_eq_some_iff.1 hj).1
        obtain ⟨v, b1, b2, b3⟩ := a7 i _ j _ (List.getElem?_eq_getElem hlt) (List.getElem?_eq_getElem hlt2)
        exact ⟨v, b1, e2 j _ c' (List.getElem?_eq_getElem hlt2) hj g w v hh b2, b3⟩
    · rw [if_neg e] at hl'; exact hh.rows l' sz' r' fz' hl'
  · intro l' kv hl'
    simp only [H.get, H.put, lk] at hl'
    by_cases e : l' = l
    · rw [if_pos e] at hl'; cases hl'
    · rw [if_neg e] at hl'; exact hh.maps l' kv hl'
  · intro l' T' row' hl'
    simp only [H.get, H.put, lk] at hl'
    by_cases e : l' = l
    · rw [if_pos e] at hl'; cases hl'
    · rw [if_neg e] at hl'; exact hh.cells l' T' row' hl'
  · intro l1 l2 x y z hne h1 h2
    have conv : ∀ l' x, (h.put l (.rows sz rows' fz)).get l' = some x → ∃ y, h.get l' = some y := by
      intro l' x hx
      simp only [H.get, H.put, lk] at hx
      by_cases e : l' = l
      · subst e; exact ⟨_, hl⟩
      · rw [if_neg e] at hx; exact ⟨x, hx⟩
    obtain ⟨x', h1'⟩ := conv l1 x h1
    obtain ⟨y', h2'⟩ := conv l2 y h2
    exact hh.apart l1 l2 x' y' z hne h1' h2'

/-! ### what is built -/
def CR (g : G) (cs : Array Value) (Vs : List V) : Prop := cs.size = Vs.length ∧ ∀ (i : Nat) v W, cs[i]? = some v → Vs[i]? = some W → VR g v W

theorem CR.set {g : G} {cs : Array Value} {Vs : List V} (h : CR g cs Vs) {v : Value} {W : V} (hv : VR g v W) (k : Nat) : CR g (cs.setIfInBounds k v) (Vs.set k W) := by
  refine ⟨by simp [h.1], fun i x c h1 h2 => ?_⟩
  by_cases e : k = i
  · subst e
    have hlt : k < Vs.length := by have := (List.getElem?_eq_some_iff.1 h2).1; simpa using this
    rw [List.getElem?_set_self hlt] at h2
    simp [h.1, hlt] at h1
    cases h2
    subst h1
    exact hv
  · rw [List.getElem?_set_ne e] at h2
    rw [Array.getElem?_setIfInBounds_ne e] at h1
    exact h.2 i x c h1 h2

theorem CR.foldl {g : G} (off : Nat) : ∀ (xs : List Value) (Ws : List V) (j : Nat) (cs : Array Value) (Vs : List V), xs.length = Ws.length → (∀ (i : Nat) v W, xs[i]? = some v → Ws[i]? = some W → VR g v W) → CR g cs Vs →
    CR g ((xs.zipIdx j).foldl (fun cs (c, j) => cs.setIfInBounds (off + j) c) cs) (setAt Vs (off + j) Ws)
  | [], [], _, _, _, _, _, h => h
  | x :: xs, W :: Ws, j, cs, Vs, hl, hr, h => by
    simp only [List.zipIdx_cons, List.foldl_cons, setAt]
    exact CR.foldl off xs Ws (j + 1) _ _ (by simpa using hl) (fun i v W h1 h2 => hr (i + 1) v W (by simpa using h1) (by simpa using h2)) (h.set (hr 0 x W rfl rfl) _)
  | [], _ :: _, _, _, _, hl, _, _ => by simp at hl
  | _ :: _, [], _, _, _, hl, _, _ => by simp at hl

def fillV (place : Nat → Option (Nat × Nat)) (cells : List V) : List (Nat × V) → Option (List V)
  | [] => some cells
  | (i, v) :: rest => match place i with
    | none => none
    | some (off, size) => if v.known = true ∧ v.cells.length = size ∧ off + size ≤ cells.length then fillV place (setAt cells off v.cells) rest else none

theorem fill_rel {g : G} {place : Nat → Option (Nat × Nat)} : ∀ (ps : List (Nat × Value)) (Ps : List (Nat × V)) (cs : Array Value) (Vs out : List V), ps.length = Ps.length →
    (∀ (k : Nat) p p', ps[k]? = some p → Ps[k]? = some p' → p.1 = p'.1 ∧ VR g p.2 p'.2) → CR g cs Vs → fillV place Vs Ps = some out → ∃ o, Instr.fill place cs ps = some o ∧ CR g o out
  | [], [], cs, Vs, out, _, _, h, hf => by simp only [fillV, Option.some.injEq] at hf; subst hf; exact ⟨cs, rfl, h⟩
  | (i, v) :: ps, (i', W) :: Ps, cs, Vs, out, hl, hr, h, hf => by
    obtain ⟨e, hv⟩ := hr 0 _ _ rfl rfl
    simp only at e hv
    subst e
    simp only [fillV] at hf
    cases hp : place i with
    | none => rw [hp] at hf; cases hf
    | some os =>
      obtain ⟨off, size⟩ := os
      rw [hp] at hf
      simp only at hf
      split at hf
      · rename_i hc
        obtain ⟨hk, h1, h2⟩ := hc
        obtain ⟨c1, c2⟩ := cells_rel hv (known_spec hk).1 (known_spec hk).2
        obtain ⟨o, e1, e2⟩ := fill_rel ps Ps _ _ out (by simpa using hl) (fun k p p' a b => hr (k + 1) p p' (by simpa using a) (by simpa using b))
          (CR.foldl off v.cells.toList W.cells 0 cs Vs (by simpa using c1) (fun i x c a b => c2 i x c (by simpa using a) b) h) hf
        refine ⟨o, ?_, e2⟩
        simp only [Instr.fill, hp]
        have h3 : v.cells.size = size := c1.trans h1
        have h5 : off + size ≤ Vs.length := h2
        have h4 : cs.size = Vs.length := h.1
        rw [if_neg (by simp; omega)]
        rw [← e1, ← Array.foldl_toList, Array.toList_zipIdx]
      · cases hf
  | [], _ :: _, _, _, _, hl, _, _, _ => by simp at hl
  | _ :: _, [], _, _, _, hl, _, _, _ => by simp at hl

def evoP (env : Env) : List (Nat × Operand) → Option (List (Nat × V))
  | [] => some []
  | (i, x) :: xs => (evo env x).bind fun v => (evoP env xs).map fun vs => (i, v) :: vs
theorem evoP_rel {env : Env} {g : G} {e : Operand → Value} : ∀ {xs : List (Nat × Operand)} {vs : List (Nat × V)}, evoP env xs = some vs → (∀ p ∈ xs, VR g (e p.2) (ev env p.2)) →
    (xs.map fun (i, x) => (i, e x)).length = vs.length ∧ ∀ (k : Nat) p p', (xs.map fun (i, x) => (i, e x))[k]? = some p → vs[k]? = some p' → p.1 = p'.1 ∧ VR g p.2 p'.2
  | [], vs, h, _ => by simp only [evoP, Option.some.injEq] at h; subst h; simp
  | (i, x) :: xs, vs, h, hx => by
    simp only [evoP] at h
    cases hv : evo env x with
    | none => rw [hv] at h; cases h
    | some v =>
      rw [hv] at h
      simp only [Option.bind_some] at h
      cases hr : evoP env xs with
      | none => rw [hr] at h; cases h
      | some ws =>
        rw [hr] at h
        simp only [Option.map_some, Option.some.injEq] at h
        subst h
        obtain ⟨k1, k2⟩ := evoP_rel (g := g) (e := e) hr fun p hp => hx p (by simp [hp])
        refine ⟨by simpa using k1, fun k p p' a b => ?_⟩
        cases k with
        | zero =>
          simp at a b
          subst a; subst b
          have := hx (i, x) (by simp)
          rw [ev_of hv] at this
          exact ⟨rfl, this⟩
        | succ k => exact k2 k p p' (by simpa using a) (by simpa using b)

theorem CR.zero {g : G} (z : Value) : CR g z.cells (zcells z) := by
  refine ⟨by simp [zcells], fun i v W h1 h2 => ?_⟩
  simp only [zcells, List.getElem?_map, Array.getElem?_toList, h1, Option.map_some, Option.some.injEq] at h2
  rw [← h2]; exact .sc _

/-- The places of a struct's fields. -/
inductive PlOK (P : Program) : List Field → List (Nat × Nat) → Prop
  | nil : PlOK P [] []
  | cons {f : Field} {n : Nat} {fs : List Field} {pl : List (Nat × Nat)} (h : ∀ w, (sizeOf f.type).run P w = .ok n w) (hs : PlOK P fs pl) : PlOK P (f :: fs) ((f.offset, n) :: pl)
theorem PlOK.run {P : Program} : ∀ {fs : List Field} {pl : List (Nat × Nat)}, PlOK P fs pl → ∀ w, (fs.mapM (fun f => do pure (f.offset, ← sizeOf f.type) : Field → Sem (Nat × Nat))).run P w = .ok pl w
  | _, _, .nil, w => by simp
  | _, _, .cons h hs, w => by
    have := hs.run w
    simp only [List.mapM_cons, Sem.run_bind, h, Result.andThen_ok, Sem.run_pure]
    rw [this]
    simp

def placesOf (fs : List (Nat × Nat)) (i : Nat) : Option (Nat × Nat) := fs[i]?

section rules
variable {P : Program} {o : Oper} {env : Env} {h : H}

/-- A struct, out of its fields' places. -/
theorem s_build {T : TypeId} {parts : Array (Nat × Operand)} {fs : Array Field} {z : Value} {pl : List (Nat × Nat)} {ps : List (Nat × V)} {out : List V} (ho : o.op = .build T parts) (hz : ∀ w, (zeroValue T).run P w = .ok z w)
    (hu : ∀ w, (underlying T).run P w = .ok (.struct fs) w) (hpl' : PlOK P fs.toList pl)
    (hp : evoP env parts.toList = some ps) (hf : fillV (placesOf pl) (zcells z) ps = some out) : StepV X P o env h (.agg out) h .p := by
  refine s_pure fun g w e he => ?_
  have hx : ∀ p ∈ parts.toList, VR g (e p.2) (ev env p.2) := fun p hp => he p.2 (by
    rw [ho]; simp only [Op.operands]; simp; exact ⟨p.1, by simpa using hp⟩)
  obtain ⟨k1, k2⟩ := evoP_rel (g := g) (e := e) hp hx
  obtain ⟨ov, e1, e2⟩ := fill_rel (place := placesOf pl) _ ps z.cells _ out k1 k2 (CR.zero z) hf
  refine ⟨.agg ov, ?_, .agg _ _ e2.1 e2.2⟩
  have e3 : (fun i => pl[i]?) = placesOf pl := rfl
  have hpl : ∀ w, (fs.mapM (fun f => do pure (f.offset, ← sizeOf f.type) : Field → Sem (Nat × Nat))).run P w = .ok pl.toArray w := by
    intro w
    have := hpl'.run w
    rw [Array.mapM_eq_mapM_toList]
    simp only [Sem.run_map, this, Result.andThen_ok]
  have e4 : (Instr.build T (parts.map fun (i, x) => (i, e x))).run P w = .ok (.agg ov) w := by
    simp only [Instr.build, Sem.run_bind, hz, hu, Result.andThen_ok, hpl, List.getElem?_toArray, e3, Array.toList_map, e1, Sem.run_pure]
  simp only [execOp, ho, Sem.run_bind, e4, Result.andThen_ok, Sem.run_pure]

/-- A slice that a literal makes. -/
theorem fill_all {g : G} {sz : Nat} : ∀ (vs : List V) (m : Nat) (Vs : List V), (∀ v ∈ vs, v.known = true ∧ v.cells.length = sz) → (m + vs.length) * sz ≤ Vs.length →
    ∃ out, fillV (fun i => some (i * sz, sz)) Vs ((vs.zipIdx m).map fun p => (p.2, p.1)) = some out ∧ out.length = Vs.length ∧ (∀ k, k < m * sz → out[k]? = Vs[k]?) ∧
      ∀ (i j : Nat) v c, vs[i]? = some v → v.cells[j]? = some c → out[(m + i) * sz + j]? = some c
  | [], m, Vs, _, _ => ⟨Vs, rfl, rfl, fun _ _ => rfl, by simp⟩
  | v :: vs, m, Vs, hv, hl => by
    obtain ⟨h1, h2⟩ := hv v (by simp)
    simp only [List.length_cons] at hl
    have hm : m * sz + sz ≤ Vs.length := by
      have := Nat.mul_le_mul_right sz (show m + 1 ≤ m + (vs.length + 1) by omega)
      rw [Nat.add_mul m 1] at this; omega
    obtain ⟨out, e1, e2, e3, e4⟩ := fill_all (g := g) vs (m + 1) (setAt Vs (m * sz) v.cells) (fun v' h => hv v' (by simp [h])) (by rw [setAt_length]; rw [show m + 1 + vs.length = m + (vs.length + 1) by omega]; exact hl)
    rw [setAt_length] at e2
    refine ⟨out, ?_, e2, ?_, ?_⟩
    · simp only [List.zipIdx_cons, List.map_cons, fillV]
      rw [if_pos ⟨h1, h2, hm⟩]
      exact e1
    · intro k hk
      rw [e3 k (by rw [Nat.add_mul]; omega), setAt_below _ _ _ _ hk]
    · intro i j w c hi hj
      cases i with
      | zero =>
        simp at hi
        subst hi
        have hjl : j < v.cells.length := (List.getElem?_eq_some_iff.1 hj).1
        rw [Nat.add_zero, e3 _ (by rw [Nat.add_mul]; omega), setAt_at _ _ _ _ (by omega) hjl]
        exact hj
      | succ i =>
        have := e4 i j w c (by simpa using hi) hj
        rwa [show m + 1 + i = m + (i + 1) by omega] at this

theorem s_bs {T E : TypeId} {len sz : Nat} {parts : Array (Nat × Operand)} {z : Value} {vs : List V} (ho : o.op = .buildSlice T len parts) (hu : ∀ w, (underlying T).run P w = .ok (.slice E) w) (hs : ∀ w, (sizeOf E).run P w = .ok sz w)
    (hz : ∀ w, (zeroValue E).run P w = .ok z w) (hi : parts.toList.map (·.1) = List.range len) (hp : evoL env (parts.toList.map (·.2)) = some vs)
    (hv : vs.all (fun v => v.known && (v.cells.length == sz)) = true) (hsz : (sz == 0) = false) (hbig : decide (len * sz ≤ 16777216) = true) : StepV X P o env h (.lst sz true (vs.map V.cells)) h .p := by
  refine ⟨fun h => ?_, rfl⟩
  intro g w e he hh
  have hlen : vs.length = len := by
    have := congrArg List.length (evoL_map hp)
    have h2 := congrArg List.length hi
    simp at this h2; omega
  have hps : evoP env parts.toList = some ((vs.zipIdx 0).map fun p => (p.2, p.1)) := by
    have key : ∀ (xs : List (Nat × Operand)) (vs : List V) (m : Nat), evoL env (xs.map (·.2)) = some vs → xs.map (·.1) = List.range' m xs.length → evoP env xs = some ((vs.zipIdx m).map fun p => (p.2, p.1)) := by
      intro xs
      induction xs with
      | nil => intro vs m h1 _; simp only [List.map_nil, evoL, Option.some.injEq] at h1; subst h1; rfl
      | cons p xs ih =>
        intro vs m h1 h2
        obtain ⟨i, x⟩ := p
        simp only [List.map_cons, evoL] at h1
        simp only [List.map_cons, List.length_cons, List.range'_succ, List.cons.injEq] at h2
        cases hx : evo env x with
        | none => rw [hx] at h1; cases h1
        | some v =>
          rw [hx] at h1
          simp only [Option.bind_some] at h1
          cases hr : evoL env (xs.map (·.2)) with
          | none => rw [hr] at h1; cases h1
          | some ws =>
            rw [hr] at h1
            simp only [Option.map_some, Option.some.injEq] at h1
            subst h1
            simp [evoP, hx, ih ws (m + 1) hr h2.2, List.zipIdx_cons, h2.1]
    have hl2 : parts.toList.length = len := by have := congrArg List.length hi; simpa using this
    exact key _ vs 0 hp (by rw [hl2, ← List.range_eq_range']; exact hi)
  have hvk : ∀ v ∈ vs, v.known = true ∧ v.cells.length = sz := by
    intro v hm
    have := List.all_eq_true.1 hv v hm
    simpa using this
  have hx : ∀ p ∈ parts.toList, VR g (e p.2) (ev env p.2) := fun p hp => he p.2 (by
    rw [ho]; simp only [Op.operands]; simp; exact ⟨p.1, by simpa using hp⟩)
  obtain ⟨k1, k2⟩ := evoP_rel (g := g) (e := e) hps hx
  have hsz0 : sz ≠ 0 := by simpa using hsz
  have hbig' := of_decide_eq_true hbig
  let zs : Array Value := (Array.range (len * sz)).map (z.cells[· % z.cells.size]!)
  have hzs' : zs.size = len * sz := by simp [zs]
  obtain ⟨out, f1, f2, _, f4⟩ := fill_all (g := g) vs 0 (zs.toList.map V.sc) hvk (by simp [hzs', hlen])
  have hcr : CR g zs (zs.toList.map V.sc) := by
    refine ⟨by simp, fun i v W h1 h2 => ?_⟩
    simp only [List.getElem?_map, Array.getElem?_toList, h1, Option.map_some, Option.some.injEq] at h2
    rw [← h2]; exact .sc _
  obtain ⟨ov, e1, e2⟩ := fill_rel (place := fun i => some (i * sz, sz)) _ _ zs _ out k1 k2 hcr f1
  obtain ⟨m, hr⟩ := HR.newImm hh ov E
  have hrun : (execOp e o).run P w = .ok (.value (.slice (some ⟨w.heap.size, 0, none⟩) len len)) (World.more w (.cells ov E)) := by
    have hnb : ¬ (len * sz > 2 ^ 24) := by simp; omega
    simp only [execOp, ho, Instr.buildSlice, Sem.run_bind, hu, hs, Result.andThen_ok, Sem.run_ite, if_neg hnb]
    by_cases hl0 : len * sz = 0
    · have : zs = (Array.range (len * sz)).map ((#[] : Array Value)[· % (#[] : Array Value).size]!) := by
        simp [zs, hl0]
      rw [if_pos hl0]
      simp only [Sem.run_pure, Result.andThen_ok]
      rw [← this]
      simp [e1, newRow, World.more]
    · rw [if_neg hl0]
      simp only [hz, Sem.run_pure, Result.andThen_ok]
      have : (Array.range (len * sz)).map (z.cells[· % z.cells.size]!) = zs := rfl
      rw [this]
      simp [e1, newRow, World.more]
  unfold Goes
  rw [hrun]
  refine ⟨_, m, hr, ?_⟩
  have hov : ∀ (i : Nat) row (j : Nat) c, (vs.map V.cells)[i]? = some row → row[j]? = some c → ∃ v, ov[i * sz + j]? = some v ∧ VR g v c := by
    intro i row j c h1 h2
    rw [List.getElem?_map] at h1
    cases hv' : vs[i]? with
    | none => rw [hv'] at h1; cases h1
    | some v =>
      rw [hv'] at h1
      simp only [Option.map_some, Option.some.injEq] at h1
      subst h1
      have h3 := f4 i j v c hv' h2
      rw [Nat.zero_add] at h3
      have hlt : i * sz + j < ov.size := by rw [e2.1]; exact (List.getElem?_eq_some_iff.1 h3).1
      exact ⟨ov[i * sz + j], Array.getElem?_eq_getElem hlt, e2.2 _ _ _ (Array.getElem?_eq_getElem hlt) h3⟩
  refine .lst w.heap.size 0 len len sz true _ (fun i j => ov[i * sz + j]?.getD undef) (by simp [hlen]) (Nat.le_refl _) (fun _ => rfl) ?_ ?_ ?_
  · intro i row h1
    rw [List.getElem?_map] at h1
    cases hv' : vs[i]? with
    | none => rw [hv'] at h1; cases h1
    | some v =>
      rw [hv'] at h1
      simp only [Option.map_some, Option.some.injEq] at h1
      subst h1
      exact (hvk v (List.mem_of_getElem? hv')).2
  · intro i row j c h1 h2
    obtain ⟨v, h3, _⟩ := hov i row j c h1 h2
    simp only [G.newImm, if_true, Nat.zero_add, h3, Option.getD_some]
  · intro i row j c h1 h2
    obtain ⟨v, h3, h4⟩ := hov i row j c h1 h2
    rw [h3]
    exact h4.mono m.le
end rules
end Go.VM
