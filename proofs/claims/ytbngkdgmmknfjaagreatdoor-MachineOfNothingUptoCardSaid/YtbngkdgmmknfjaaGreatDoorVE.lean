/- The rules for operations on memory, for calls and for functions. -/
import Derived.Test.YtbngkdgmmknfjaaGreatDoorVD
namespace Go.VM
open Go
variable {X : Gx}

theorem add_none (b o j : Nat) : (⟨b, o, none⟩ : Addr).add j = ⟨b, o + j, none⟩ := by
  unfold Addr.add; by_cases h : j = 0 <;> simp [h]

/-- What a load of a type of n cells takes of the cells from here on. -/
def ldv (agg : Bool) (n : Nat) (cs : List V) : Option V :=
  if agg then (if n ≤ cs.length then some (.agg (cs.take n)) else none) else cs[0]?

theorem loadVar_run {P : Program} {w : World} {T : TypeId} {agg : Bool} {n b o : Nat} {g : G} {cs : List V} {v : V} (ha : ∀ w, (isAgg T).run P w = .ok agg w) (hs : ∀ w, (sizeOf T).run P w = .ok n w)
    (hc : ∀ (j : Nat) c, cs[j]? = some c → ∃ x, w.cell? ⟨b, o + j, none⟩ = some x ∧ VR g x c) (hv : ldv agg n cs = some v) : ∃ val, (loadVar T ⟨b, o, none⟩).run P w = .ok val w ∧ VR g val v := by
  unfold ldv at hv
  cases agg with
  | true =>
    simp only [if_true] at hv
    split at hv
    · rename_i hn
      cases hv
      have hex : ∀ j, j < n → ∃ x, w.cell? ⟨b, o + j, none⟩ = some x ∧ ∀ c, cs[j]? = some c → VR g x c := by
        intro j hj
        obtain ⟨x, h1, h2⟩ := hc j cs[j] (List.getElem?_eq_getElem (by omega))
        exact ⟨x, h1, fun c h => by rw [List.getElem?_eq_getElem (by omega)] at h; cases h; exact h2⟩
      let f : Nat → Value := fun j => if hj : j < n then (hex j hj).choose else undef
      have hf : ∀ j (hj : j < n), f j = (hex j hj).choose := fun j hj => by simp only [f]; rw [dif_pos hj]
      have hr := run_loadCells (P := P) w ⟨b, o, none⟩ n f (fun j hj => by rw [add_none, hf j hj]; exact (hex j hj).choose_spec.1)
      refine ⟨.agg ((List.range n).map f).toArray, by simp [loadVar, ha, hs, hr], .agg _ _ (by simp; omega) ?_⟩
      intro i x c h1 h2
      simp only [List.getElem?_toArray, List.getElem?_map] at h1
      have hi : i < n := by
        rcases Nat.lt_or_ge i n with h | h
        · exact h
        · rw [List.getElem?_eq_none (by simp; exact h)] at h1; cases h1
      rw [List.getElem?_range hi] at h1
      simp only [Option.map_some, Option.some.injEq] at h1
      subst h1
      rw [List.getElem?_take_of_lt hi] at h2
      rw [hf i hi]
      exact (hex i hi).choose_spec.2 c h2
    · cases hv
  | false =>
    simp only [Bool.false_eq_true, if_false] at hv
    obtain ⟨x, h1, h2⟩ := hc 0 v hv
    exact ⟨x, by simpa [loadVar, ha] using by rw [show o = o + 0 by rfl, h1], h2⟩

section rules
variable {P : Program} {o : Oper} {env : Env} {h : H}

theorem s_pureH {v : V} (hr : ∀ (g : G) (h : H) (w : World) (e : Operand → Value), (∀ x ∈ o.op.operands, VR g (e x) (ev env x)) → HR X g h w → ∃ val, (execOp e o).run P w = .ok (.value val) w ∧ VR g val v) : StepV X P o env h v h .p :=
  ⟨fun _ => opOK_pure fun g w e hx hh => hr g _ w e hx hh, rfl⟩
theorem s_read {v : V} (hr : ∀ (g : G) (w : World) (e : Operand → Value), (∀ x ∈ o.op.operands, VR g (e x) (ev env x)) → HR X g h w → ∃ val, (execOp e o).run P w = .ok (.value val) w ∧ VR g val v) : StepV X P o env h v h .r :=
  ⟨opOK_pure hr, rfl⟩

/-- A load of immutable cells. -/
theorem s_ldi {T : TypeId} {x : Operand} {agg : Bool} {n : Nat} {cs : List V} {v : V} (ho : o.op = .load T x) (ha : ∀ w, (isAgg T).run P w = .ok agg w) (hs : ∀ w, (sizeOf T).run P w = .ok n w)
    (hx : evo env x = some (.ip cs)) (hv : ldv agg n cs = some v) : StepV X P o env h v h .p := by
  refine s_pureH fun g h w e he hh => ?_
  have h1 := he x (by rw [ho]; simp [Op.operands])
  rw [ev_of hx] at h1
  generalize hcs : e x = u at h1
  cases h1 with
  | ip b off _ f h2 h3 =>
    obtain ⟨val, h4, h5⟩ := loadVar_run (g := g) ha hs (fun j c hj => ⟨f j, hh.imm _ _ _ (h2 j c hj), h3 j c hj⟩) hv
    exact ⟨val, by simp [execOp, ho, hcs, Instr.loadAt, Instr.sureAddr, h4], h5⟩

/-- A load of mutable cells. -/
theorem s_ld {T : TypeId} {x : Operand} {agg : Bool} {n l i j sz : Nat} {rows : List (List V)} {fz : Bool} {row : List V} {v : V} (ho : o.op = .load T x) (ha : ∀ w, (isAgg T).run P w = .ok agg w) (hs : ∀ w, (sizeOf T).run P w = .ok n w)
    (hx : evo env x = some (.ptr l i j)) (hl : h.get l = some (.rows sz rows fz)) (hr : rows[i]? = some row) (hv : ldv agg n (row.drop j) = some v) : StepV X P o env h v h .r := by
  refine s_read fun g w e he hh => ?_
  have h1 := he x (by rw [ho]; simp [Op.operands])
  rw [ev_of hx] at h1
  generalize hcs : e x = u at h1
  cases h1 with
  | ptr _ _ _ b base sz' tot h2 =>
    obtain ⟨b', base', tot', cs, T', fr, a1, a2, a3, a4, a5, a6, a7, a8⟩ := hh.rows l sz rows fz hl
    rw [h2] at a1
    cases a1
    obtain ⟨val, h4, h5⟩ := loadVar_run (P := P) (w := w) (b := b) (o := base + i * sz + j) (g := g) ha hs (fun k c hk => by
      rw [List.getElem?_drop] at hk
      obtain ⟨x, b1, b2, b3⟩ := a7 i row (j + k) c hr hk
      exact ⟨x, cell_of a2 (by rw [show base + i * sz + j + k = base + i * sz + (j + k) by omega]; exact b1), b2⟩) hv
    exact ⟨val, by simp [execOp, ho, hcs, Instr.loadAt, Instr.sureAddr, h4], h5⟩

theorem s_fai {S : TypeId} {x : Operand} {k n : Nat} (off : Nat) {fs : Array Field} {f : Field} {cs : List V} (ho : o.op = .fieldAddr S x k) (hu : ∀ w, (underlying S).run P w = .ok (.struct fs) w) (hf : fs[k]? = some f)
    (hs : ∀ w, (sizeOf f.type).run P w = .ok n w) (hn : (n == 0) = false) (hoff : f.offset = off) (hx : evo env x = some (.ip cs)) : StepV X P o env h (.ip (cs.drop off)) h .p := by
  subst hoff
  refine s_pure fun g w e he => ?_
  have h1 := he x (by rw [ho]; simp [Op.operands])
  rw [ev_of hx] at h1
  generalize hcs : e x = u at h1
  have hn : n ≠ 0 := by simpa using hn
  cases h1 with
  | ip b off' _ f' h2 h3 =>
    refine ⟨.pointer (some ⟨b, off' + f.offset, none⟩), ?_, .ip b _ _ (fun j => f' (f.offset + j)) ?_ ?_⟩
    · simp [execOp, ho, hcs, Instr.fieldAt, Instr.sureAddr, hu, hf, fieldPlace, hs, hn, add_none]
    · intro j c hj
      rw [List.getElem?_drop] at hj
      rw [Nat.add_assoc]
      exact h2 _ c hj
    · intro j c hj
      rw [List.getElem?_drop] at hj
      exact h3 _ c hj
theorem s_fa {S : TypeId} {x : Operand} {k n : Nat} (off : Nat) {fs : Array Field} {f : Field} {l i j : Nat} (ho : o.op = .fieldAddr S x k) (hu : ∀ w, (underlying S).run P w = .ok (.struct fs) w) (hf : fs[k]? = some f)
    (hs : ∀ w, (sizeOf f.type).run P w = .ok n w) (hn : (n == 0) = false) (hoff : f.offset = off) (hx : evo env x = some (.ptr l i j)) : StepV X P o env h (.ptr l i (j + off)) h .p := by
  subst hoff
  refine s_pure fun g w e he => ?_
  have h1 := he x (by rw [ho]; simp [Op.operands])
  rw [ev_of hx] at h1
  generalize hcs : e x = u at h1
  have hn : n ≠ 0 := by simpa using hn
  cases h1 with
  | ptr _ _ _ b base sz' tot h2 =>
    refine ⟨.pointer (some ⟨b, base + i * sz' + (j + f.offset), none⟩), ?_, .ptr l i _ b base sz' tot h2⟩
    simp [execOp, ho, hcs, Instr.fieldAt, Instr.sureAddr, hu, hf, fieldPlace, hs, hn, add_none, Nat.add_assoc]

/-- A field of a struct that is a value. -/
def fldv (agg : Bool) (n off : Nat) (cs : List V) : Option V :=
  if agg then (if off + n ≤ cs.length then some (.agg ((cs.drop off).take n)) else none) else cs[off]?
theorem s_fld {S : TypeId} {x : Operand} {k n : Nat} {agg : Bool} {fs : Array Field} {f : Field} {cs : List V} {v : V} (ho : o.op = .field S x k) (hu : ∀ w, (underlying S).run P w = .ok (.struct fs) w) (hf : fs[k]? = some f)
    (ha : ∀ w, (isAgg f.type).run P w = .ok agg w) (hs : ∀ w, (sizeOf f.type).run P w = .ok n w) (hx : evo env x = some (.agg cs)) (hv : fldv agg n f.offset cs = some v) : StepV X P o env h v h .p := by
  refine s_pure fun g w e he => ?_
  have h1 := he x (by rw [ho]; simp [Op.operands])
  rw [ev_of hx] at h1
  generalize hcs : e x = u at h1
  cases h1 with
  | agg vs _ hl hr =>
    unfold fldv at hv
    cases agg with
    | true =>
      simp only [if_true] at hv
      split at hv
      · rename_i hn
        cases hv
        refine ⟨.agg (vs.extract f.offset (f.offset + n)), by simp [execOp, ho, hcs, Instr.field, asAgg, hu, hf, part, ha, hs], .agg _ _ ?_ ?_⟩
        · simp; omega
        · intro i v W h1 h2
          have hi : i < n := by
            rcases Nat.lt_or_ge i n with h | h
            · exact h
            · rw [List.getElem?_eq_none (by simp; omega)] at h2; cases h2
          rw [List.getElem?_take_of_lt hi, List.getElem?_drop] at h2
          rw [Array.getElem?_extract] at h1
          split at h1
          · exact hr _ _ _ h1 h2
          · cases h1
      · cases hv
    | false =>
      simp only [Bool.false_eq_true, if_false] at hv
      have hlt : f.offset < vs.size := by rw [hl]; exact (List.getElem?_eq_some_iff.1 hv).1
      exact ⟨vs[f.offset], by simp [execOp, ho, hcs, Instr.field, asAgg, hu, hf, part, ha, Array.getElem?_eq_getElem hlt], hr _ _ _ (Array.getElem?_eq_getElem hlt) hv⟩

/-- The place of an element of a slice that is immutable. -/
theorem s_ixi {T E : TypeId} {x y : Operand} {k : IntKind} {n : Int} {sz : Nat} {full : Bool} {rows : List (List V)} {row : List V} (ho : o.op = .indexAddr T x y) (hu : ∀ w, (underlying T).run P w = .ok (.slice E) w)
    (hs : ∀ w, (sizeOf E).run P w = .ok sz w) (hx : evo env x = some (.lst sz full rows)) (hy : evo env y = some (.sc (.int k n))) (h0 : 0 ≤ n) (hr : rows[n.toNat]? = some row) : StepV X P o env h (.ip row) h .p := by
  refine s_pure fun g w e he => ?_
  have h1 := he x (by rw [ho]; simp [Op.operands])
  have h2 := he y (by rw [ho]; simp [Op.operands])
  rw [ev_of hx] at h1
  rw [ev_of hy] at h2
  have h2 := h2.sc_inv
  generalize hcs : e x = u at h1
  have hlt := (List.getElem?_eq_some_iff.1 hr).1
  cases h1 with
  | nil _ _ _ => simp at hr
  | lst b off m cap _ _ _ f a1 a2 a3 a4 a5 a6 =>
    have hn : n < (m : Int) := by omega
    refine ⟨.pointer (some ⟨b, off + n.toNat * sz, none⟩), ?_, .ip b _ _ (f n.toNat) ?_ ?_⟩
    · simp [execOp, ho, hcs, h2, Instr.indexAt, asIntOf, hu, hs, h0, hn, add_none]
    · intro j c hj
      exact a5 _ _ _ _ hr hj
    · intro j c hj
      exact a6 _ _ _ _ hr hj
/-- The place of an element of a slice that is mutable. -/
theorem s_ixm {T E : TypeId} {x y : Operand} {k : IntKind} {n : Int} {l i0 m sz : Nat} {full : Bool} (ho : o.op = .indexAddr T x y) (hu : ∀ w, (underlying T).run P w = .ok (.slice E) w)
    (hs : ∀ w, (sizeOf E).run P w = .ok sz w) (hx : evo env x = some (.ms l i0 m full)) (hy : evo env y = some (.sc (.int k n))) (hl : ∃ rows fz, h.get l = some (.rows sz rows fz)) (h0 : 0 ≤ n) (hm : n < (m : Int)) : StepV X P o env h (.ptr l (i0 + n.toNat) 0) h .r := by
  refine s_read fun g w e he hh => ?_
  have h1 := he x (by rw [ho]; simp [Op.operands])
  have h2 := he y (by rw [ho]; simp [Op.operands])
  rw [ev_of hx] at h1
  rw [ev_of hy] at h2
  have h2 := h2.sc_inv
  generalize hcs : e x = u at h1
  obtain ⟨rows, fz, hl⟩ := hl
  obtain ⟨b', base', tot', cs, T', fr, b1, _⟩ := hh.rows l sz rows fz hl
  cases h1 with
  | ms _ _ _ cap b base sz' tot _ a1 a2 a3 a4 a5 =>
    rw [a1] at b1
    cases b1
    have hp : (⟨b', base' + i0 * sz, none⟩ : Addr).add (n.toNat * sz) = ⟨b', base' + (i0 + n.toNat) * sz, none⟩ := by
      rw [add_none, Nat.add_mul]; congr 1; omega
    exact ⟨.pointer (some ⟨b', base' + (i0 + n.toNat) * sz + 0, none⟩), by simp [execOp, ho, hcs, h2, Instr.indexAt, asIntOf, hu, hs, h0, hm, hp], .ptr _ _ _ _ _ _ _ a1⟩
/-- The place of an element of an array. -/
theorem s_ixa {T E : TypeId} {x y : Operand} {k : IntKind} {n : Int} {len l r j sz : Nat} (ho : o.op = .indexAddr T x y) (hu : ∀ w, (underlying T).run P w = .ok (.array len E) w)
    (hs : ∀ w, (sizeOf E).run P w = .ok sz w) (hx : evo env x = some (.ptr l r j)) (hy : evo env y = some (.sc (.int k n))) (h0 : 0 ≤ n) (hm : n < (len : Int)) : StepV X P o env h (.ptr l r (j + n.toNat * sz)) h .p := by
  refine s_pure fun g w e he => ?_
  have h1 := he x (by rw [ho]; simp [Op.operands])
  have h2 := he y (by rw [ho]; simp [Op.operands])
  rw [ev_of hx] at h1
  rw [ev_of hy] at h2
  have h2 := h2.sc_inv
  generalize hcs : e x = u at h1
  cases h1 with
  | ptr _ _ _ b base sz' tot a1 =>
    have hp : (⟨b, base + r * sz' + j, none⟩ : Addr).add (n.toNat * sz) = ⟨b, base + r * sz' + (j + n.toNat * sz), none⟩ := by
      rw [add_none, Nat.add_assoc]
    exact ⟨.pointer (some ⟨b, base + r * sz' + (j + n.toNat * sz), none⟩), by simp [execOp, ho, hcs, h2, Instr.indexAt, asIntOf, hu, hs, h0, hm, hp, Instr.sureAddr], .ptr _ _ _ _ _ _ _ a1⟩

/-- A byte of a string. -/
theorem s_byte {T : TypeId} {x y : Operand} {k : IntKind} {n : Int} {s : ByteArray} {b : UInt8} (ho : o.op = .index T x y) (hu : ∀ w, (underlying T).run P w = .ok .string w)
    (hx : evo env x = some (.sc (.string s))) (hy : evo env y = some (.sc (.int k n))) (h0 : 0 ≤ n) (hb : s[n.toNat]? = some b) : StepV X P o env h (.sc (.int .u8 b.toNat)) h .p := by
  refine s_pure fun g w e he => ?_
  have h1 := he x (by rw [ho]; simp [Op.operands])
  have h2 := he y (by rw [ho]; simp [Op.operands])
  rw [ev_of hx] at h1
  rw [ev_of hy] at h2
  exact ⟨_, by simp [execOp, ho, h1.sc_inv, h2.sc_inv, Instr.index, asIntOf, hu, h0, hb], .sc _⟩

/-- A cut of a string. -/
def bnd (env : Env) (d : Nat) : Option Operand → Option Nat
  | none => some d
  | some x => match evo env x with
    | some (.sc (.int _ n)) => if 0 ≤ n then some n.toNat else none
    | _ => none
theorem bnd_some {env : Env} {d : Nat} {x : Operand} {m : Nat} (h : bnd env d (some x) = some m) : ∃ k, evo env x = some (.sc (.int k (m : Int))) := by
  simp only [bnd] at h
  split at h
  · rename_i k n hn
    split at h
    · rename_i h0
      cases h
      exact ⟨k, by rw [hn, Int.toNat_of_nonneg h0]⟩
    · cases h
  · cases h
theorem s_cut {T : TypeId} {x : Operand} {lo hi : Option Operand} {s : ByteArray} {l m : Nat} (ho : o.op = .slice T x lo hi none) (hu : ∀ w, (underlying T).run P w = .ok .string w)
    (hx : evo env x = some (.sc (.string s))) (hm : bnd env s.size hi = some m) (hl : bnd env 0 lo = some l) (h1 : l ≤ m) (h2 : m ≤ s.size) : StepV X P o env h (.sc (.string (s.extract l m))) h .p := by
  refine s_pure fun g w e he => ?_
  have hx' := he x (by rw [ho]; simp [Op.operands])
  rw [ev_of hx] at hx'
  refine ⟨_, ?_, .sc _⟩
  have key : ∀ (z : Option Operand), (∀ y, z = some y → y ∈ o.op.operands) → ∀ d m, bnd env d z = some m → (z = none ∧ d = m) ∨ ∃ y k, z = some y ∧ e y = .int k (m : Int) := by
    intro z hz d m hb
    cases z with
    | none => simp only [bnd, Option.some.injEq] at hb; exact .inl ⟨rfl, hb⟩
    | some y =>
      obtain ⟨k, hk⟩ := bnd_some hb
      have := he y (hz y rfl)
      rw [ev_of hk] at this
      exact .inr ⟨y, k, rfl, this.sc_inv⟩
  have kh := key hi (by intro y hy; rw [ho, hy]; simp [Op.operands]) _ _ hm
  have kl := key lo (by intro y hy; rw [ho, hy]; simp [Op.operands]) _ _ hl
  have h3 : (l : Int) ≤ m := by omega
  have h4 : (m : Int) ≤ s.size := by omega
  rcases kh with ⟨rfl, e1⟩ | ⟨y, k, rfl, e1⟩ <;> rcases kl with ⟨rfl, e2⟩ | ⟨z, k', rfl, e2⟩
  · subst e1; subst e2; simp [execOp, ho, hx'.sc_inv, Instr.sliceAt, Instr.slice, hu, Instr.sliceBounds]
  · subst e1; simp [execOp, ho, hx'.sc_inv, Instr.sliceAt, Instr.slice, hu, Instr.sliceBounds, e2, Instr.sliceBound, asIntOf, h1]
  · subst e2; simp [execOp, ho, hx'.sc_inv, Instr.sliceAt, Instr.slice, hu, Instr.sliceBounds, e1, Instr.sliceBound, asIntOf, h2]
  · simp [execOp, ho, hx'.sc_inv, Instr.sliceAt, Instr.slice, hu, Instr.sliceBounds, e1, e2, Instr.sliceBound, asIntOf, h1, h2]

/-- A cut of a slice that is immutable. -/
theorem s_cutl {T E : TypeId} {x : Operand} {lo hi : Option Operand} {sz : Nat} {full : Bool} {rows : List (List V)} {l m : Nat} (ho : o.op = .slice T x lo hi none) (hu : ∀ w, (underlying T).run P w = .ok (.slice E) w)
    (hs : ∀ w, (sizeOf E).run P w = .ok sz w) (hx : evo env x = some (.lst sz full rows)) (hm : bnd env rows.length hi = some m) (hl : bnd env 0 lo = some l) (h1 : l ≤ m) (h2 : m ≤ rows.length) :
    StepV X P o env h (.lst sz false ((rows.take m).drop l)) h .p := by
  refine s_pure fun g w e he => ?_
  have hx' := he x (by rw [ho]; simp [Op.operands])
  rw [ev_of hx] at hx'
  have key : ∀ (z : Option Operand), (∀ y, z = some y → y ∈ o.op.operands) → ∀ d m, bnd env d z = some m → (z = none ∧ d = m) ∨ ∃ y k, z = some y ∧ e y = .int k (m : Int) := by
    intro z hz d m hb
    cases z with
    | none => simp only [bnd, Option.some.injEq] at hb; exact .inl ⟨rfl, hb⟩
    | some y =>
      obtain ⟨k, hk⟩ := bnd_some hb
      have := he y (hz y rfl)
      rw [ev_of hk] at this
      exact .inr ⟨y, k, rfl, this.sc_inv⟩
  have kh := key hi (by intro y hy; rw [ho, hy]; simp [Op.operands]) _ _ hm
  have kl := key lo (by intro y hy; rw [ho, hy]; simp [Op.operands]) _ _ hl
  generalize hcs : e x = u at hx'
  -- the bounds
  have hb : ∀ (n cap : Nat), n = rows.length → n ≤ cap → ∀ w, (Instr.sliceBounds true n cap (lo.map e) (hi.map e) none).run P w = .ok (l, m, cap) w := by
    intro n cap hn hc w
    have h3 : m ≤ cap := by omega
    rcases kh with ⟨rfl, e1⟩ | ⟨y, k, rfl, e1⟩ <;> rcases kl with ⟨rfl, e2⟩ | ⟨z, k', rfl, e2⟩
    · subst e1; subst e2; simp [Instr.sliceBounds, hn]
    · subst e1; simp [Instr.sliceBounds, e2, Instr.sliceBound, asIntOf, hn, h1]
    · subst e2; simp [Instr.sliceBounds, e1, Instr.sliceBound, asIntOf, h3]
    · simp [Instr.sliceBounds, e1, e2, Instr.sliceBound, asIntOf, h1, h3]
  cases hx' with
  | nil a _ _ =>
    have hr := hb 0 0 (by simp) (Nat.le_refl _) w
    have : m = 0 := by simpa using h2
    subst this
    have : l = 0 := by omega
    subst this
    refine ⟨.slice a 0 0, ?_, by simpa using VR.nil a sz false⟩
    cases a <;> simp [execOp, ho, hcs, Instr.sliceAt, Instr.slice, hu, hr, hs]
  | lst b off n cap _ _ _ f a1 a2 a3 a4 a5 a6 =>
    have hr := hb n cap a1 a2 w
    by_cases hcl : cap = l
    · have hrow : (rows.take m).drop l = [] := by
        rw [List.drop_eq_nil_iff]; simp; omega
      rw [hrow]
      refine ⟨.slice (some ⟨b, off, none⟩) (m - l) (cap - l), ?_, .lst b off (m - l) (cap - l) sz false [] (fun _ _ => undef) (by simp; omega) (by omega) (by simp) (by simp) (by simp) (by simp)⟩
      subst hcl
      simp [execOp, ho, hcs, Instr.sliceAt, Instr.slice, hu, hr, hs]
    · refine ⟨.slice (some ⟨b, off + l * sz, none⟩) (m - l) (cap - l), ?_, .lst b _ (m - l) (cap - l) sz false _ (fun i j => f (l + i) j) ?_ ?_ ?_ ?_ ?_ ?_⟩
      · simp [execOp, ho, hcs, Instr.sliceAt, Instr.slice, hu, hr, hs, hcl, add_none]
      · simp; omega
      · omega
      · intro h; cases h
      · intro i row hi
        rw [List.getElem?_drop] at hi
        rw [List.getElem?_take] at hi
        split at hi
        · exact a4 _ _ hi
        · cases hi
      · intro i row j c hi hj
        rw [List.getElem?_drop, List.getElem?_take] at hi
        split at hi
        · have := a5 _ _ _ _ hi hj
          rw [Nat.add_mul, ← Nat.add_assoc] at this
          exact this
        · cases hi
      · intro i row j c hi hj
        rw [List.getElem?_drop, List.getElem?_take] at hi
        split at hi
        · exact a6 _ _ _ _ hi hj
        · cases hi

/-- Lengths. -/
theorem s_lens {T : TypeId} {x : Operand} {s : ByteArray} (ho : o.op = .call { callee := .builtin .len, args := #[x], argTypes := #[T] }) (hu : ∀ w, (underlying T).run P w = .ok .string w)
    (hx : evo env x = some (.sc (.string s))) : StepV X P o env h (.sc (.int .i64 s.size)) h .p := by
  refine s_pure fun g w e he => ?_
  have h1 := he x (by rw [ho]; simp [Op.operands, Call.operands])
  rw [ev_of hx] at h1
  exact ⟨_, by simp [execOp, ho, resolve, invoke, builtin, Builtin.len_, hu, h1.sc_inv, goInt], .sc _⟩
theorem s_lenl {T E : TypeId} {x : Operand} {sz : Nat} {full : Bool} {rows : List (List V)} (ho : o.op = .call { callee := .builtin .len, args := #[x], argTypes := #[T] }) (hu : ∀ w, (underlying T).run P w = .ok (.slice E) w)
    (hx : evo env x = some (.lst sz full rows)) : StepV X P o env h (.sc (.int .i64 rows.length)) h .p := by
  refine s_pure fun g w e he => ?_
  have h1 := he x (by rw [ho]; simp [Op.operands, Call.operands])
  rw [ev_of hx] at h1
  generalize hcs : e x = u at h1
  cases h1 with
  | nil _ _ _ => exact ⟨_, by simp [execOp, ho, resolve, invoke, builtin, Builtin.len_, hu, hcs, goInt], .sc _⟩
  | lst b off n cap _ _ _ f a1 a2 a3 a4 a5 a6 => exact ⟨_, by simp [execOp, ho, resolve, invoke, builtin, Builtin.len_, hu, hcs, goInt, a1], .sc _⟩
theorem s_lenm {T E : TypeId} {x : Operand} {l i n : Nat} {full : Bool} (ho : o.op = .call { callee := .builtin .len, args := #[x], argTypes := #[T] }) (hu : ∀ w, (underlying T).run P w = .ok (.slice E) w)
    (hx : evo env x = some (.ms l i n full)) : StepV X P o env h (.sc (.int .i64 n)) h .p := by
  refine s_pure fun g w e he => ?_
  have h1 := he x (by rw [ho]; simp [Op.operands, Call.operands])
  rw [ev_of hx] at h1
  generalize hcs : e x = u at h1
  cases h1 with
  | ms _ _ _ cap b base sz' tot _ a1 a2 a3 a4 a5 => exact ⟨_, by simp [execOp, ho, resolve, invoke, builtin, Builtin.len_, hu, hcs, goInt], .sc _⟩
theorem s_lenz {T E : TypeId} {x : Operand} (ho : o.op = .call { callee := .builtin .len, args := #[x], argTypes := #[T] }) (hu : ∀ w, (underlying T).run P w = .ok (.slice E) w)
    (hx : evo env x = some (.sc (.slice none 0 0))) : StepV X P o env h (.sc (.int .i64 0)) h .p := by
  refine s_pure fun g w e he => ?_
  have h1 := he x (by rw [ho]; simp [Op.operands, Call.operands])
  rw [ev_of hx] at h1
  exact ⟨_, by simp [execOp, ho, resolve, invoke, builtin, Builtin.len_, hu, h1.sc_inv, goInt], .sc _⟩

/-- min, max of two whole numbers. -/
theorem s_min2 {T T' : TypeId} {x y : Operand} {k k' : IntKind} {a b : Int} (ho : o.op = .call { callee := .builtin .min, args := #[x, y], argTypes := #[T, T'] }) (hx : evo env x = some (.sc (.int k a))) (hy : evo env y = some (.sc (.int k' b))) :
    StepV X P o env h (.sc (.int k (if b < a then b else a))) h .p := by
  refine s_pure fun g w e he => ?_
  have h1 := he x (by rw [ho]; simp [Op.operands, Call.operands])
  have h2 := he y (by rw [ho]; simp [Op.operands, Call.operands])
  rw [ev_of hx] at h1
  rw [ev_of hy] at h2
  exact ⟨_, by simp [execOp, ho, resolve, invoke, builtin, Builtin.min_, Builtin.min2, h1.sc_inv, h2.sc_inv], .sc _⟩
theorem s_max2 {T T' : TypeId} {x y : Operand} {k k' : IntKind} {a b : Int} (ho : o.op = .call { callee := .builtin .max, args := #[x, y], argTypes := #[T, T'] }) (hx : evo env x = some (.sc (.int k a))) (hy : evo env y = some (.sc (.int k' b))) :
    StepV X P o env h (.sc (.int k (if b > a then b else a))) h .p := by
  refine s_pure fun g w e he => ?_
  have h1 := he x (by rw [ho]; simp [Op.operands, Call.operands])
  have h2 := he y (by rw [ho]; simp [Op.operands, Call.operands])
  rw [ev_of hx] at h1
  rw [ev_of hy] at h2
  exact ⟨_, by simp [execOp, ho, resolve, invoke, builtin, Builtin.max_, Builtin.max2, h1.sc_inv, h2.sc_inv], .sc _⟩
end rules

/-! ### memory that is made and written -/
def V.cells : V → List V
  | .agg cs => cs
  | v => [v]

theorem cells_rel {g : G} {v : Value} {W : V} (h : VR g v W) (hW : W ≠ .unk) (hs : ∀ cs, W ≠ .sc (.agg cs)) : v.cells.size = W.cells.length ∧ ∀ (i : Nat) x c, v.cells[i]? = some x → W.cells[i]? = some c → VR g x c := by
  have one : ∀ {v : Value} {W : V}, VR g v W → v.cells = #[v] → W.cells = [W] → v.cells.size = W.cells.length ∧ ∀ (i : Nat) x c, v.cells[i]? = some x → W.cells[i]? = some c → VR g x c := by
    intro v W h e1 e2
    rw [e1, e2]
    refine ⟨rfl, fun i x c h1 h2 => ?_⟩
    cases i with
    | zero => simp at h1 h2; subst h1; subst h2; exact h
    | succ i => simp at h2
  cases h with
  | unk v => exact absurd rfl hW
  | sc v =>
    cases v with
    | agg cs => exact absurd rfl (hs cs)
    | _ => exact one (.sc _) rfl rfl
  | agg cs Vs hl hr => exact ⟨hl, hr⟩
  | tup cs Vs hl hr => exact one (.tup cs Vs hl hr) rfl rfl
  | nil a sz full => exact one (.nil a sz full) rfl rfl
  | lst b o n cap sz full rows f h1 h2 h3 h4 h5 h6 => exact one (.lst b o n cap sz full rows f h1 h2 h3 h4 h5 h6) rfl rfl
  | ip b o cs f h1 h2 => exact one (.ip b o cs f h1 h2) rfl rfl
  | ptr l i j b base sz tot h1 => exact one (.ptr l i j b base sz tot h1) rfl rfl
  | ms l i n cap b base sz tot full h1 h2 h3 h4 h5 => exact one (.ms l i n cap b base sz tot full h1 h2 h3 h4 h5) rfl rfl
  | fn f a c a' c' h1 h2 h3 h4 => exact one (.fn f a c a' c' h1 h2 h3 h4) rfl rfl
  | ifc t v W h1 => exact one (.ifc t v W h1) rfl rfl
  | mp l r h1 => exact one (.mp l r h1) rfl rfl

/-- Not unknown, and no aggregate of the model's. -/
def V.known : V → Bool
  | .unk => false
  | .sc (.agg _) => false
  | _ => true

theorem known_spec {W : V} (h : W.known = true) : W ≠ .unk ∧ ∀ cs, W ≠ .sc (.agg cs) := by
  refine ⟨?_, ?_⟩
  · rintro rfl; simp [V.known] at h
  · rintro cs rfl; simp [V.known] at h

section mem
variable {P : Program} {o : Oper} {env : Env} {h : H}

theorem newVar_step {g : G} {w : World} (hh : HR X g h w) {T : TypeId} {v : Value} {W : V} (hv : VR g v W) (hk : W.known = true) :
    ∃ g', Mv g w g' (World.more w (.cells v.cells T)) ∧ HR X g' (h.newRows W.cells.length [W.cells]) (World.more w (.cells v.cells T)) ∧ VR g' (.pointer (some ⟨w.heap.size, 0, none⟩)) (.ptr h.next 0 0) := by
  obtain ⟨h1, h2⟩ := cells_rel hv (known_spec hk).1 (known_spec hk).2
  obtain ⟨m, r⟩ := HR.new hh v.cells T W.cells.length [W.cells] 1 (by omega) (by simp) (by
    intro i row hi
    cases i with
    | zero => simp at hi; rw [← hi]
    | succ i => simp at hi) (by
    intro i row j c hi hj
    cases i with
    | zero =>
      simp at hi
      subst hi
      have hlt : j < v.cells.size := by rw [h1]; exact (List.getElem?_eq_some_iff.1 hj).1
      exact ⟨v.cells[j], by simp [Array.getElem?_eq_getElem hlt], h2 j _ c (Array.getElem?_eq_getElem hlt) hj⟩
    | succ i => simp at hi)
  refine ⟨_, m, r, ?_⟩
  have := VR.ptr (g := g.newLoc h.next w.heap.size 0 W.cells.length 1) h.next 0 0 w.heap.size 0 W.cells.length 1 (by simp [G.newLoc])
  simpa using this

theorem s_box {T : TypeId} {x : Operand} {v : V} (ho : o.op = .box T x) (hx : evo env x = some v) (hk : v.known = true) : StepV X P o env h (.ptr h.next 0 0) (h.newRows v.cells.length [v.cells]) .w := by
  intro g w e he hh
  have h1 := he x (by rw [ho]; simp [Op.operands])
  rw [ev_of hx] at h1
  obtain ⟨g', m, r, p⟩ := newVar_step hh (T := T) h1 hk
  unfold Goes
  have : (execOp e o).run P w = .ok (.value (.pointer (some ⟨w.heap.size, 0, none⟩))) (World.more w (.cells (e x).cells T)) := by
    simp [execOp, ho, Instr.box, newVar, newRow, World.more]
  rw [this]
  exact ⟨g', m, r, p⟩

/-- A zero value as cells. -/
def zcells (v : Value) : List V := v.cells.toList.map V.sc

theorem s_alloc {T : TypeId} {z : Value} (ho : o.op = .alloc T) (hz : ∀ w, (zeroValue T).run P w = .ok z w) : StepV X P o env h (.ptr h.next 0 0) (h.newRows (zcells z).length [zcells z]) .w := by
  intro g w e he hh
  have hl : (zcells z).length = z.cells.size := by simp [zcells]
  obtain ⟨m, r⟩ := HR.new hh z.cells T (zcells z).length [zcells z] 1 (by omega) (by simp) (by
    intro i row hi
    cases i with
    | zero => simp at hi; rw [← hi]
    | succ i => simp at hi) (by
    intro i row j c hi hj
    cases i with
    | zero =>
      simp at hi
      subst hi
      have hlt : j < z.cells.size := by rw [← hl]; exact (List.getElem?_eq_some_iff.1 hj).1
      refine ⟨z.cells[j], by simp [Array.getElem?_eq_getElem hlt], ?_⟩
      simp only [zcells, List.getElem?_map, Array.getElem?_toList, Array.getElem?_eq_getElem hlt, Option.map_some, Option.some.injEq] at hj
      rw [← hj]
      exact .sc _
    | succ i => simp at hi)
  unfold Goes
  have : (execOp e o).run P w = .ok (.value (.pointer (some ⟨w.heap.size, 0, none⟩))) (World.more w (.cells z.cells T)) := by
    simp [execOp, ho, Instr.alloc, newVar, newRow, World.more, hz]
  rw [this]
  refine ⟨_, m, r, ?_⟩
  have := VR.ptr (g := g.newLoc h.next w.heap.size 0 (zcells z).length 1) h.next 0 0 w.heap.size 0 (zcells z).length 1 (by simp [G.newLoc])
  simpa using this
end mem

end Go.VM
