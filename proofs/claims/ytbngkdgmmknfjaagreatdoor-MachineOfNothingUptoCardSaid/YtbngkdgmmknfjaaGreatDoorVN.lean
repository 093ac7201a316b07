/- A block's name taken anew; two ways that come together. -/
import Derived.Test.YtbngkdgmmknfjaaGreatDoorVQ
namespace Go.VM
open Go
variable {X : Gx}

/-- The name l read as m. -/
def ren (l m : Nat) : V → V
  | .ms l' i n f => .ms (if l' = l then m else l') i n f
  | .ptr l' i j => .ptr (if l' = l then m else l') i j
  | v => v
theorem ren_ok {g : G} {l m : Nat} (hm : g.loc m = g.loc l) {v : Value} {W : V} (h : VR g v W) : VR g v (ren l m W) := by
  cases h with
  | ptr l' i j b base sz tot h1 =>
    simp only [ren]
    by_cases e : l' = l
    · rw [if_pos e]; subst e; exact .ptr m i j b base sz tot (hm.trans h1)
    · rw [if_neg e]; exact .ptr l' i j b base sz tot h1
  | ms l' i n cap b base sz tot full h1 h2 h3 h4 h5 =>
    simp only [ren]
    by_cases e : l' = l
    · rw [if_pos e]; subst e; exact .ms m i n cap b base sz tot full (hm.trans h1) h2 h3 h4 h5
    · rw [if_neg e]; exact .ms l' i n cap b base sz tot full h1 h2 h3 h4 h5
  | unk v => exact .unk v
  | sc v => exact .sc v
  | agg cs Vs a b => exact .agg cs Vs a b
  | tup cs Vs a b => exact .tup cs Vs a b
  | nil a sz full => exact .nil a sz full
  | lst b o n cap sz full rows f h1 h2 h3 h4 h5 h6 => exact .lst b o n cap sz full rows f h1 h2 h3 h4 h5 h6
  | ip b o cs f h1 h2 => exact .ip b o cs f h1 h2
  | fn f a c a' c' h1 h2 h3 h4 => exact .fn f a c a' c' h1 h2 h3 h4
  | ifc t v W h1 => exact .ifc t v W h1
  | mp l r h1 => exact .mp l r h1

def renB (l m : Nat) : HB → HB
  | .rows sz rows fz => .rows sz (rows.map fun r => r.map (ren l m)) fz
  | b => b
def renH (l m : Nat) : List (Nat × HB) → List (Nat × HB)
  | [] => []
  | (k, b) :: r => (k, renB l m b) :: renH l m r
def renE (l m : Nat) : Env → Env
  | [] => []
  | (k, b) :: r => (k, ren l m b) :: renE l m r
theorem lk_renH (l m : Nat) : ∀ (bl : List (Nat × HB)) (k : Nat), lk (renH l m bl) k = (lk bl k).map (renB l m)
  | [], _ => rfl
  | (k', b) :: r, k => by
    simp only [renH, lk]
    by_cases e : k = k'
    · rw [if_pos e, if_pos e]; rfl
    · rw [if_neg e, if_neg e]; exact lk_renH l m r k
theorem lk_renE (l m : Nat) : ∀ (bl : Env) (k : Nat), lk (renE l m bl) k = (lk bl k).map (ren l m)
  | [], _ => rfl
  | (k', b) :: r, k => by
    simp only [renE, lk]
    by_cases e : k = k'
    · rw [if_pos e, if_pos e]; rfl
    · rw [if_neg e, if_neg e]; exact lk_renE l m r k

theorem HR.renH {g : G} {n l m : Nat} {bl : List (Nat × HB)} {w : World} (hm : g.loc m = g.loc l) (hh : HR X g ⟨n, bl⟩ w) : HR X g ⟨n, renH l m bl⟩ w := by
  have hget : ∀ k y, H.get ⟨n, VM.renH l m bl⟩ k = some y → ∃ y', H.get ⟨n, bl⟩ k = some y' ∧ y = renB l m y' := by
    intro k y hk
    simp only [H.get, lk_renH] at hk ⊢
    cases e : lk bl k with
    | none => rw [e] at hk; cases hk
    | some y' => rw [e] at hk; simp only [Option.map_some, Option.some.injEq] at hk; exact ⟨y', rfl, hk.symm⟩
  refine ⟨hh.gl, hh.own0, hh.n0, hh.imm, ?_, ?_, ?_, ?_, hh.fresh, hh.owned⟩
  · intro k sz rows fz hk
    obtain ⟨y', h1, h2⟩ := hget _ _ hk
    cases y' with
    | map kv => cases h2
    | cell T row => cases h2
    | rows sz' rows' fz' =>
      simp only [renB, HB.rows.injEq] at h2
      obtain ⟨rfl, rfl, rfl⟩ := h2
      obtain ⟨b, base, tot, cs, T, fr, a1, a2, a3, a4, a5, a6, a7, a8⟩ := hh.rows k _ _ _ h1
      refine ⟨b, base, tot, cs, T, fr, a1, a2, a3, by simpa using a4, a5, ?_, ?_, by simpa using a8⟩
      · intro i row hi
        rw [List.getElem?_map] at hi
        cases e : rows'[i]? with
        | none => simp [e] at hi
        | some r => simp [e] at hi; subst hi; simpa using a6 i r e
      · intro i row j c hi hj
        rw [List.getElem?_map] at hi
        cases e : rows'[i]? with
        | none => simp [e] at hi
        | some r =>
          simp [e] at hi; subst hi
          rw [List.getElem?_map] at hj
          cases e2 : r[j]? with
          | none => simp [e2] at hj
          | some u =>
            simp [e2] at hj; subst hj
            obtain ⟨v, b1, b2, b3⟩ := a7 i r j u e e2
            exact ⟨v, b1, ren_ok hm b2, b3⟩
  · intro k kv hk
    obtain ⟨y', h1, h2⟩ := hget _ _ hk
    cases y' with
    | rows sz' rows' fz' => cases h2
    | cell T row => cases h2
    | map kv' => cases h2; exact hh.maps k _ h1
  · intro k T row hk
    obtain ⟨y', h1, h2⟩ := hget _ _ hk
    cases y' with
    | rows sz' rows' fz' => cases h2
    | map kv' => cases h2
    | cell T' row' => cases h2; exact hh.cells k _ _ h1
  · intro k k' x y b hne h1 h2
    obtain ⟨y1, e1, _⟩ := hget _ _ h1
    obtain ⟨y2, e2, _⟩ := hget _ _ h2
    exact hh.apart k k' y1 y2 b hne e1 e2

/-- A block gets the next free name. -/
theorem c_ren {P : Program} {N B : Nat} {env : Env} {h : H} {Q : Exit → Env → H → Prop} {c : Code} (l : Nat) {sz : Nat} {rows : List (List V)} (hl : h.get l = some (.rows sz rows false))
    (hc : CodeOK X P N B c (renE l h.next env) ⟨h.next + 1, renH l h.next ((h.next, .rows sz rows false) :: (h.del l).bl)⟩ Q) : CodeOK X P N B c env h Q := by
  intro g w a ha hh
  obtain ⟨b, base, tot, cs, T, fr, a1, a2, a3, a4, a5, a6, a7, a8⟩ := hh.rows l sz rows false hl
  have hr := hh.rename (w' := w) hl a1 a2 a2 a3 rfl (fun _ _ => rfl) (fun _ _ => rfl) rfl rfl rfl rfl 0 (Nat.zero_le _) rows (by omega) a6 (by
    intro i row j c hi hj
    obtain ⟨v, b1, b2, _⟩ := a7 i row j c hi hj
    exact ⟨v, by simpa using b1, b2⟩)
  obtain ⟨m, hr⟩ := hr
  generalize hg' : g.newLoc h.next b (base + 0 * sz) sz (tot - 0) = g' at m hr
  have hloc : g'.loc h.next = g'.loc l := by
    have h1 := m.le.loc l _ a1
    rw [h1, ← hg']
    simp [G.newLoc]
  have hr2 := hr.renH hloc
  refine wp_mono (hc g' w a ⟨ha.size, ha.defers, fun t v ht => ?_⟩ hr2) fun e a' w' hq => CPost.from (m.toB B) hq
  rw [lk_renE] at ht
  cases e : lk env t with
  | none => rw [e] at ht; cases ht
  | some u =>
    rw [e] at ht
    simp only [Option.map_some, Option.some.injEq] at ht
    subst ht
    exact ren_ok hloc ((ha.at_ t u e).mono m.le)

/-- Two ways that come together. -/
def Meet (env' : Env) (h' : H) : Exit → Env → H → Prop
  | .normal, env, h => Sub env env' ∧ HSub h h'
  | _, _, _ => False
/-- To know less is enough. -/
def QMono (Q : Exit → Env → H → Prop) : Prop := ∀ env env' h h', Sub env env' → HSub h h' → Q .normal env' h' → Q .normal env h
theorem qm_then {P : Program} {N B : Nat} {k : Code} {Q : Exit → Env → H → Prop} : QMono (Then X P N B k Q) := fun _ _ _ _ hs hh hq => c_sub hs (c_hsub hh hq)
theorem qm_block {n : Nat} {Q : Exit → Env → H → Prop} (h : QMono Q) : QMono (InBlock n Q) := fun e e' k k' hs hh hq => h e e' k k' hs hh hq
theorem qm_loop {α : Type} {I : α → Prop} {μ : α → Nat} {E : α → Env} {Hh : α → List (Nat × HB)} {a : α} {Q : Exit → Env → H → Prop} : QMono (LoopQ I μ E Hh a Q) := by
  rintro env env' h h' hs hh ⟨b, h1, h2, h3, h4⟩
  exact ⟨b, h1, h2, hs.trans h3, fun l x hx => hh.get l x (h4 l x hx)⟩
theorem qm_meet {E : Env} {h0 : H} : QMono (Meet E h0) := fun _ _ _ _ hs hh hq => ⟨hs.trans hq.1, ⟨fun l x hx => hh.get l x (hq.2.get l x hx), Nat.le_trans hh.next hq.2.next⟩⟩
theorem c_if {P : Program} {N B : Nat} {env : Env} {h : H} {Q : Exit → Env → H → Prop} {x : Operand} {c1 c2 : Code} {b : Bool} (E : Bool → Env) (Hh : Bool → H) (hb : ev env x = .sc (.bool b)) (hq : QMono Q)
    (h1 : b = true → CodeOK X P N B c1 env h (Meet (E true) (Hh true))) (h2 : b = false → CodeOK X P N B c2 env h (Meet (E false) (Hh false))) (hk : Q .normal (E b) (Hh b)) :
    CodeOK X P N B (.cond x c1 c2) env h Q := by
  have key : ∀ b', b = b' → ∀ e env1 h1, Meet (E b') (Hh b') e env1 h1 → Q e env1 h1 := by
    rintro b' rfl e env1 h1 hm
    cases e <;> simp only [Meet] at hm
    exact hq _ _ _ _ hm.1 hm.2 hk
  refine c_cond hb (fun ht => ?_) (fun hf => ?_)
  · exact (h1 ht).mono (key true ht)
  · exact (h2 hf).mono (key false hf)
section rules
variable {P : Program} {o : Oper} {env : Env} {h : H}
/-- A literal slice whose elements may be written. -/
theorem s_bsm {T E : TypeId} {len sz : Nat} {parts : Array (Nat × Operand)} {z : Value} {vs : List V} (ho : o.op = .buildSlice T len parts) (hu : ∀ w, (underlying T).run P w = .ok (.slice E) w) (hs : ∀ w, (sizeOf E).run P w = .ok sz w)
    (hz : ∀ w, (zeroValue E).run P w = .ok z w) (hi : parts.toList.map (·.1) = List.range len) (hp : evoL env (parts.toList.map (·.2)) = some vs)
    (hv : vs.all (fun v => v.known && (v.cells.length == sz)) = true) (hsz : (sz == 0) = false) (hbig : decide (len * sz ≤ 16777216) = true) : StepV X P o env h (.ms h.next 0 len false) (h.newRows sz (vs.map V.cells)) .w := by
  intro g w e he hh
  have hlen : vs.length = len := by
    have := congrArg List.length (evoL_map hp)
    have h2 := congrArg List.length hi
    simp at this h2; omega
  have hps : evoP env parts.toList = some ((vs.zipIdx 0).map fun p => (p.2, p.1)) := by
    have key : ∀ (xs : List (Nat × Operand)) (vs : List V) (m : Nat), evoL env (xs.map (·.2)) = some vs → xs.map (·.1) = List.range' m xs.length → evoP env xs = some ((vs.zipIdx m).map fun p => (p.2, p.1)) := by
      intro xs
      induction xs with
      | nil => intro vs m h1 _; simp only [List.map_nil, evoL, Option.some.injEq] at h1; subst h1; rfl
      | cons p xs ih =>
        intro vs m h1 h2
        obtain ⟨i, x⟩ := p
        simp only [List.map_cons, evoL] at h1
        simp only [List.map_cons, List.length_cons, List.range'_succ, List.cons.injEq] at h2
        cases hx : evo env x with
        | none => rw [hx] at h1; cases h1
        | some v =>
          rw [hx] at h1
          simp only [Option.bind_some] at h1
          cases hr : evoL env (xs.map (·.2)) with
          | none => rw [hr] at h1; cases h1
          | some ws =>
            rw [hr] at h1
            simp only [Option.map_some, Option.some.injEq] at h1
            subst h1
            simp [evoP, hx, ih ws (m + 1) hr h2.2, List.zipIdx_cons, h2.1]
    have hl2 : parts.toList.length = len := by have := congrArg List.length hi; simpa using this
    exact key _ vs 0 hp (by rw [hl2, ← List.range_eq_range']; exact hi)
  have hvk : ∀ v ∈ vs, v.known = true ∧ v.cells.length = sz := by
    intro v hm
    have := List.all_eq_true.1 hv v hm
    simpa using this
  have hx : ∀ p ∈ parts.toList, VR g (e p.2) (ev env p.2) := fun p hp => he p.2 (by
    rw [ho]; simp only [Op.operands]; simp; exact ⟨p.1, by simpa using hp⟩)
  obtain ⟨k1, k2⟩ := evoP_rel (g := g) (e := e) hps hx
  have hsz0 : sz ≠ 0 := by simpa using hsz
  have hbig' := of_decide_eq_true hbig
  let zs : Array Value := (Array.range (len * sz)).map (z.cells[· % z.cells.size]!)
  have hzs' : zs.size = len * sz := by simp [zs]
  obtain ⟨out, f1, f2, _, f4⟩ := fill_all (g := g) vs 0 (zs.toList.map V.sc) hvk (by simp [hzs', hlen])
  have hcr : CR g zs (zs.toList.map V.sc) := by
    refine ⟨by simp, fun i v W h1 h2 => ?_⟩
    simp only [List.getElem?_map, Array.getElem?_toList, h1, Option.map_some, Option.some.injEq] at h2
    rw [← h2]; exact .sc _
  obtain ⟨ov, e1, e2⟩ := fill_rel (place := fun i => some (i * sz, sz)) _ _ zs _ out k1 k2 hcr f1
  have hov : ∀ (i : Nat) row (j : Nat) c, (vs.map V.cells)[i]? = some row → row[j]? = some c → ∃ v, ov[i * sz + j]? = some v ∧ VR g v c := by
    intro i row j c h1 h2
    rw [List.getElem?_map] at h1
    cases hv' : vs[i]? with
    | none => rw [hv'] at h1; cases h1
    | some v =>
      rw [hv'] at h1
      simp only [Option.map_some, Option.some.injEq] at h1
      subst h1
      have h3 := f4 i j v c hv' h2
      rw [Nat.zero_add] at h3
      have hlt : i * sz + j < ov.size := by rw [e2.1]; exact (List.getElem?_eq_some_iff.1 h3).1
      exact ⟨ov[i * sz + j], Array.getElem?_eq_getElem hlt, e2.2 _ _ _ (Array.getElem?_eq_getElem hlt) h3⟩
  have hvs : (vs.map V.cells).length = len := by simp [hlen]
  obtain ⟨m, hr⟩ := HR.new hh ov E sz (vs.map V.cells) len (by rw [e2.1, f2]; simp [hzs']) (by omega) (by
    intro i row h1
    rw [List.getElem?_map] at h1
    cases hv' : vs[i]? with
    | none => rw [hv'] at h1; cases h1
    | some v =>
      rw [hv'] at h1
      simp only [Option.map_some, Option.some.injEq] at h1
      subst h1
      exact (hvk v (List.mem_of_getElem? hv')).2) hov
  have hrun : (execOp e o).run P w = .ok (.value (.slice (some ⟨w.heap.size, 0, none⟩) len len)) (World.more w (.cells ov E)) := by
    have hnb : ¬ (len * sz > 2 ^ 24) := by simp; omega
    simp only [execOp, ho, Instr.buildSlice, Sem.run_bind, hu, hs, Result.andThen_ok, Sem.run_ite, if_neg hnb]
    by_cases hl0 : len * sz = 0
    · have : zs = (Array.range (len * sz)).map ((#[] : Array Value)[· % (#[] : Array Value).size]!) := by
        simp [zs, hl0]
      rw [if_pos hl0]
      simp only [Sem.run_pure, Result.andThen_ok]
      rw [← this]
      simp [e1, newRow, World.more]
    · rw [if_neg hl0]
      simp only [hz, Sem.run_pure, Result.andThen_ok]
      have : (Array.range (len * sz)).map (z.cells[· % z.cells.size]!) = zs := rfl
      rw [this]
      simp [e1, newRow, World.more]
  unfold Goes
  rw [hrun]
  refine ⟨_, m, hr, ?_⟩
  have := VR.ms (g := g.newLoc h.next w.heap.size 0 sz len) h.next 0 len len w.heap.size 0 sz len false (by simp [G.newLoc]) (by intro h; cases h) (fun _ => by omega) (Nat.le_refl _) (by omega)
  simpa using this
end rules
theorem conv_ms' {h : H} {l i n sz : Nat} {full : Bool} {rows rows' : List (List V)} (hl : h.get l = some (.rows sz rows true)) (hr : i + n ≤ rows.length) (e : (rows.drop i).take n = rows') : Conv X h (.ms l i n full) (.lst sz full rows') := e ▸ conv_ms hl hr
theorem conv_cell {h : H} {W W' : V} (hc : Conv X h W W') : ∀ (i : Nat) row row', [[W]][i]? = some row → [[W']][i]? = some row' → row'.length = row.length ∧ ∀ (j : Nat) U U', row[j]? = some U → row'[j]? = some U' → Conv X h U U' := by
  intro i row row' h1 h2
  match i, h1, h2 with
  | 0, h1, h2 =>
    simp only [List.getElem?_cons_zero, Option.some.injEq] at h1 h2
    subst h1; subst h2
    refine ⟨rfl, fun j U U' a b => ?_⟩
    match j, a, b with
    | 0, a, b =>
      simp only [List.getElem?_cons_zero, Option.some.injEq] at a b
      subst a; subst b
      exact hc
    | j + 1, a, b => simp at a
  | i + 1, h1, h2 => simp at h1
end Go.VM
