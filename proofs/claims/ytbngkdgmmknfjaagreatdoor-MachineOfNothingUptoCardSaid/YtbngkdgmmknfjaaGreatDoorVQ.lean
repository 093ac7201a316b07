/- '==' on structs whose cells are numbers, bools and strings. -/
import Derived.Test.YtbngkdgmmknfjaaGreatDoorVJ
namespace Go.VM
open Go

inductive CK where
  | int (k : IntKind)
  | bool
  | str
def CK.fits : CK → Value → Prop
  | .int k, v => ∃ n, v = .int k n
  | .bool, v => ∃ b, v = .bool b
  | .str, v => ∃ s, v = .string s
inductive Fit : List CK → List Value → Prop
  | nil : Fit [] []
  | cons {c : CK} {v : Value} {cs : List CK} {vs : List Value} : c.fits v → Fit cs vs → Fit (c :: cs) (v :: vs)
theorem Fit.length {cs : List CK} {vs : List Value} (h : Fit cs vs) : cs.length = vs.length := by
  induction h with
  | nil => rfl
  | cons _ _ ih => simp [ih]
theorem Fit.split {a b : List CK} : ∀ {vs : List Value}, Fit (a ++ b) vs → Fit a (vs.take a.length) ∧ Fit b (vs.drop a.length) := by
  induction a with
  | nil => intro vs h; exact ⟨.nil, h⟩
  | cons c a ih =>
    intro vs h
    cases h with
    | cons h1 h2 =>
      obtain ⟨x, y⟩ := ih h2
      exact ⟨.cons h1 x, y⟩

def pk : Bool → List Value → Value
  | true, xs => .agg xs.toArray
  | false, xs => xs[0]?.getD undef

/-- Equality at a type whose cells are of these kinds. -/
structure EqT (P : Program) (t : TypeId) (n : Nat) (ag : Bool) (cks : List CK) : Prop where
  agg : ∀ w, (isAgg t).run P w = .ok ag w
  size : ∀ w, (sizeOf t).run P w = .ok cks.length w
  one : ag = false → cks.length = 1
  eq : ∀ w d xs ys, Fit cks xs → Fit cks ys → ∃ r : Bool, (Op.equalIn (n + d) t (pk ag xs) (pk ag ys)).run P w = .ok r w ∧ (r = true ↔ xs = ys)

theorem bytes_beq (a b : ByteArray) : (a == b) = true ↔ a = b := by
  cases a; cases b
  simp only [ByteArray.mk.injEq]
  rename_i x y
  show (x == y) = true ↔ x = y
  exact beq_iff_eq
section leaf
variable {P : Program} {t : TypeId}
theorem EqT.int {k k' : IntKind} (ht : ∀ w, (underlying t).run P w = .ok (.int k') w) (ha : ∀ w, (isAgg t).run P w = .ok false w) (hs : ∀ w, (sizeOf t).run P w = .ok 1 w) : EqT P t 1 false [.int k] := by
  refine ⟨ha, hs, fun _ => rfl, fun w d xs ys hx hy => ?_⟩
  cases hx with
  | cons h1 h2 =>
    cases h2
    cases hy with
    | cons h3 h4 =>
      cases h4
      obtain ⟨a, rfl⟩ := h1
      obtain ⟨b, rfl⟩ := h3
      refine ⟨a == b, ?_, by simp⟩
      rw [Nat.add_comm]
      simp [pk, Op.equalIn, ht]
theorem EqT.bool (ht : ∀ w, (underlying t).run P w = .ok .bool w) (ha : ∀ w, (isAgg t).run P w = .ok false w) (hs : ∀ w, (sizeOf t).run P w = .ok 1 w) : EqT P t 1 false [.bool] := by
  refine ⟨ha, hs, fun _ => rfl, fun w d xs ys hx hy => ?_⟩
  cases hx with
  | cons h1 h2 =>
    cases h2
    cases hy with
    | cons h3 h4 =>
      cases h4
      obtain ⟨a, rfl⟩ := h1
      obtain ⟨b, rfl⟩ := h3
      refine ⟨a == b, ?_, by simp⟩
      rw [Nat.add_comm]
      simp [pk, Op.equalIn, ht]
theorem EqT.str (ht : ∀ w, (underlying t).run P w = .ok .string w) (ha : ∀ w, (isAgg t).run P w = .ok false w) (hs : ∀ w, (sizeOf t).run P w = .ok 1 w) : EqT P t 1 false [.str] := by
  refine ⟨ha, hs, fun _ => rfl, fun w d xs ys hx hy => ?_⟩
  cases hx with
  | cons h1 h2 =>
    cases h2
    cases hy with
    | cons h3 h4 =>
      cases h4
      obtain ⟨a, rfl⟩ := h1
      obtain ⟨b, rfl⟩ := h3
      refine ⟨a == b, ?_, by simp [bytes_beq]⟩
      rw [Nat.add_comm]
      simp [pk, Op.equalIn, ht]
end leaf

inductive EqF (P : Program) (n : Nat) : Nat → List Field → List CK → Prop
  | nil (off : Nat) : EqF P n off [] []
  | cons {off m : Nat} {f : Field} {fs : List Field} {ag : Bool} {a b : List CK} : f.name ≠ "_" → f.offset = off → EqT P f.type m ag a → m ≤ n → EqF P n (off + a.length) fs b → EqF P n off (f :: fs) (a ++ b)

theorem EqF.cons' {P : Program} {n : Nat} {off m : Nat} {f : Field} {fs : List Field} {ag : Bool} {a b cks : List CK} (hT : EqT P f.type m ag a) (hn : f.name ≠ "_") (ho : f.offset = off) (hm : m ≤ n) (hc : cks = a ++ b) (hF : EqF P n (off + a.length) fs b) :
    EqF P n off (f :: fs) cks := hc ▸ .cons hn ho hT hm hF

theorem part_run {P : Program} {t : TypeId} {ag : Bool} {off len : Nat} {X : List Value} {w : World} (ha : (isAgg t).run P w = .ok ag w) (hs : (sizeOf t).run P w = .ok len w) (h1 : ag = false → len = 1) (hl : off + len ≤ X.length) :
    (part t X.toArray off).run P w = .ok (pk ag ((X.drop off).take len)) w := by
  cases ag with
  | true => simp [part, ha, hs, pk, List.extract_eq_take_drop]
  | false =>
    have := h1 rfl
    subst this
    have hlt : off < X.length := by omega
    simp [part, ha, pk, List.getElem?_eq_getElem hlt]

theorem eqf_run {P : Program} {n : Nat} {off : Nat} {fs : List Field} {cks : List CK} (h : EqF P n off fs cks) : ∀ (w : World) (d : Nat) (X Y : List Value), off + cks.length = X.length → off + cks.length = Y.length →
    Fit cks (X.drop off) → Fit cks (Y.drop off) → ∃ r : Bool, (r = true ↔ X.drop off = Y.drop off) ∧
      Sem.run P (forIn fs ((none, ()) : Option Bool × Unit) fun f __s =>
              if f.name = "_" then pure (ForInStep.yield (none, ()))
              else do
                let __do_lift ← part f.type X.toArray f.offset
                let __do_lift_1 ← part f.type Y.toArray f.offset
                let __do_lift ← Op.equalIn (n + d) f.type __do_lift __do_lift_1
                if __do_lift = false then pure (ForInStep.done (some false, ())) else pure (ForInStep.yield (none, ()))) w = .ok (if r = true then (none, ()) else (some false, ())) w := by
  induction h with
  | nil off =>
    intro w d X Y hX hY _ _
    simp only [List.length_nil, Nat.add_zero] at hX hY
    exact ⟨true, by simp [hX, List.drop_eq_nil_of_le, hX ▸ hY], by simp⟩
  | cons hn ho hT hm hF ih =>
    rename_i off m f fs ag a b
    intro w d X Y hX hY fX fY
    simp only [List.length_append] at hX hY
    obtain ⟨x1, x2⟩ := fX.split
    obtain ⟨y1, y2⟩ := fY.split
    rw [List.drop_drop] at x2 y2
    obtain ⟨r1, e1, k1⟩ := hT.eq w (n - m + d) _ _ x1 y1
    have en : m + (n - m + d) = n + d := by omega
    rw [en] at e1
    obtain ⟨r2, k2, e2⟩ := ih w d X Y (by omega) (by omega) x2 y2
    have p1 := part_run (off := off) (X := X) (hT.agg w) (hT.size w) hT.one (by omega)
    have p2 := part_run (off := off) (X := Y) (hT.agg w) (hT.size w) hT.one (by omega)
    have split : X.drop off = Y.drop off ↔ ((X.drop off).take a.length = (Y.drop off).take a.length ∧ X.drop (off + a.length) = Y.drop (off + a.length)) := by
      constructor
      · intro h
        exact ⟨by rw [h], by rw [← List.drop_drop, h, List.drop_drop]⟩
      · rintro ⟨h1, h2⟩
        rw [← List.take_append_drop a.length (X.drop off), ← List.take_append_drop a.length (Y.drop off), List.drop_drop, List.drop_drop, h1, h2]
    cases r1 with
    | false =>
      refine ⟨false, ?_, ?_⟩
      · constructor
        · intro h; cases h
        · intro h
          have := k1.2 (split.1 h).1
          cases this
      · simp [List.forIn_cons, hn, ho, p1, p2, e1]
    | true =>
      refine ⟨r2, ?_, ?_⟩
      · rw [k2, split]
        exact ⟨fun h => ⟨k1.1 rfl, h⟩, fun h => h.2⟩
      · simp only [List.forIn_cons, hn, if_false, ho, Sem.run_bind, p1, p2, e1, Result.andThen_ok, Sem.run_pure, Bool.true_eq_false]
        exact e2

theorem EqT.struct {P : Program} {t : TypeId} {n : Nat} {fs : List Field} {cks : List CK} (ht : ∀ w, (underlying t).run P w = .ok (.struct fs.toArray) w) (ha : ∀ w, (isAgg t).run P w = .ok true w)
    (hs : ∀ w, (sizeOf t).run P w = .ok cks.length w) (hst : P.stoodInHeld t = false) (hF : EqF P n 0 fs cks) : EqT P t (n + 1) true cks := by
  refine ⟨ha, hs, fun h => by (cases h), fun w d xs ys hx hy => ?_⟩
  obtain ⟨r, k, e⟩ := eqf_run hF w d xs ys (by rw [Nat.zero_add]; exact hx.length) (by rw [Nat.zero_add]; exact hy.length) hx hy
  refine ⟨r, ?_, by simpa using k⟩
  have en : n + 1 + d = (n + d) + 1 := by omega
  rw [en]
  simp only [pk, Op.equalIn, Sem.run_bind, ht, Result.andThen_ok]
  simp [hst, e]
  cases r <;> simp

section rule
variable {X : Gx} {P : Program} {o : Oper} {env : Env} {h : H}
/-- '==' and '!=' on structs. -/
theorem s_eqt {T T' : TypeId} {n : Nat} {cks : List CK} {x y : Operand} {a b : List Value} {r : Bool} (E : EqT P T n true cks) (fa : Fit cks a) (fb : Fit cks b) (hr : r = true ↔ a = b) (hg : P.eqGuardType P.depth T = false) (hn : n ≤ 10000)
    (ho : o.op = .binOp .eql T x y T') (hx : evo env x = some (.agg (scs a))) (hy : evo env y = some (.agg (scs b))) : StepV X P o env h (.sc (.bool r)) h .p := by
  refine s_eqs (a := a) (b := b) (r := r) (fun w => ?_) ho hx hy
  obtain ⟨r', e, k⟩ := E.eq w (10000 - n) a b fa fb
  have : r' = r := Bool.eq_iff_iff.2 (k.trans hr.symm)
  subst this
  have en : n + (10000 - n) = Op.maxDepth := by simp [Op.maxDepth]; omega
  rw [en] at e
  simp only [pk] at e
  simp [eqGuard, hg, binOp, Op.equal, e]
theorem s_net {T T' : TypeId} {n : Nat} {cks : List CK} {x y : Operand} {a b : List Value} {r : Bool} (E : EqT P T n true cks) (fa : Fit cks a) (fb : Fit cks b) (hr : r = true ↔ a = b) (hg : P.eqGuardType P.depth T = false) (hn : n ≤ 10000)
    (ho : o.op = .binOp .neq T x y T') (hx : evo env x = some (.agg (scs a))) (hy : evo env y = some (.agg (scs b))) : StepV X P o env h (.sc (.bool (!r))) h .p := by
  refine s_eqs (a := a) (b := b) (r := !r) (fun w => ?_) ho hx hy
  obtain ⟨r', e, k⟩ := E.eq w (10000 - n) a b fa fb
  have : r' = r := Bool.eq_iff_iff.2 (k.trans hr.symm)
  subst this
  have en : n + (10000 - n) = Op.maxDepth := by simp [Op.maxDepth]; omega
  rw [en] at e
  simp only [pk] at e
  simp [eqGuard, hg, binOp, Op.equal, e]
end rule

/-! ### short circuits within short circuits -/
section scg
variable {X : Gx} {P : Program} {ops : Array Oper} {o : Oper} {os os2 : List Oper} {env : Env} {h : H} {acc acc' : List Cls} {Q : Env → H → List Cls → Prop}
theorem gv_lk {ops : Array Oper} {env : Env} {j d : Nat} {b : Bool} (hj : (ops[j]?).bind (·.dst) = some d) (hv : lk env d = some (.sc (.bool b))) : gv ops env j = some b := by
  unfold gv
  rw [hj]
  simp [Env.get, hv]
theorem r_org (n : Nat) {j dj d : Nat} {y : Operand} {b c : Bool} (hsp : os.drop n = o :: os2) (hj : (ops[j]?).bind (·.dst) = some dj) (hv : lk env dj = some (.sc (.bool b))) {j0 d0 : Nat} {want0 b0 : Bool} (hg : o.guard = some (j0, want0)) (hj0 : (ops[j0]?).bind (·.dst) = some d0) (hv0 : lk env d0 = some (.sc (.bool b0))) (hw0 : b0 = want0) (hd : o.dst = some d)
    (ho : o.op = .pick (.tmp dj) (.const (.bool true)) y) (hoff : offAll ops j false [] (os.take n) = true) (hnd : (dsts (os.take n)).contains dj = false) (hn : (dsts (os.take n)).all (fun t => (lk env t).isNone) = true)
    (h1 : b = false → Run X P ops (os.take n) env h acc (fun env1 h1 a1 => (lk env1 dj = some (.sc (.bool b)) ∧ evo env1 y = some (.sc (.bool c)) ∧ Sub env1 env) ∧ h1 = h ∧ a1 = acc'))
    (hlen : acc'.length = acc.length + (os.take n).length ∧ acc'.drop (os.take n).length = acc)
    (k : Run X P ops os2 ((d, .sc (.bool (b || c))) :: env) h (.p :: acc') Q) : Run X P ops os env h acc Q := by
  have hos : os = os.take n ++ o :: os2 := by rw [← hsp, List.take_append_drop]
  rw [hos]
  refine Run.append ?_
  cases hb : b with
  | false =>
    refine Run.mono ?_ (h1 hb)
    rintro e1 h' a1 ⟨⟨e0, e2, e3⟩, rfl, rfl⟩
    refine ron hg hd (gv_lk hj0 (e3 _ _ hv0)) hw0 (s_pickF ho (b := b) e0 hb e2) ?_
    refine Run.sub ?_ k
    rw [hb, Bool.false_or]
    exact e3.put (some d) _
  | true =>
    have hcl : acc' = (acc'.take (os.take n).length).reverse.reverse ++ acc := by
      rw [List.reverse_reverse]
      conv => lhs; rw [← List.take_append_drop (os.take n).length acc', hlen.2]
    refine run_off hj (b := b) (want := false) (by rw [hb]; rfl) (os.take n) [] env h acc (acc'.take (os.take n).length).reverse _ hoff hv (by simp) hnd (by rw [List.length_reverse, List.length_take]; omega) ?_
    intro env' h2 h3
    rw [← hcl]
    have hs := sub_of_off hn h3
    refine ron hg hd (gv_lk hj0 (hs _ _ hv0)) hw0 (s_pickT ho (b := b) (hs _ _ hv) hb rfl) ?_
    refine Run.sub ?_ k
    rw [hb, Bool.true_or]
    exact hs.put (some d) _

theorem r_andg (n : Nat) {j dj d : Nat} {y : Operand} {b c : Bool} (hsp : os.drop n = o :: os2) (hj : (ops[j]?).bind (·.dst) = some dj) (hv : lk env dj = some (.sc (.bool b))) {j0 d0 : Nat} {want0 b0 : Bool} (hg : o.guard = some (j0, want0)) (hj0 : (ops[j0]?).bind (·.dst) = some d0) (hv0 : lk env d0 = some (.sc (.bool b0))) (hw0 : b0 = want0) (hd : o.dst = some d)
    (ho : o.op = .pick (.tmp dj) y (.const (.bool false))) (hoff : offAll ops j true [] (os.take n) = true) (hnd : (dsts (os.take n)).contains dj = false) (hn : (dsts (os.take n)).all (fun t => (lk env t).isNone) = true)
    (h1 : b = true → Run X P ops (os.take n) env h acc (fun env1 h1 a1 => (lk env1 dj = some (.sc (.bool b)) ∧ evo env1 y = some (.sc (.bool c)) ∧ Sub env1 env) ∧ h1 = h ∧ a1 = acc'))
    (hlen : acc'.length = acc.length + (os.take n).length ∧ acc'.drop (os.take n).length = acc)
    (k : Run X P ops os2 ((d, .sc (.bool (b && c))) :: env) h (.p :: acc') Q) : Run X P ops os env h acc Q := by
  have hos : os = os.take n ++ o :: os2 := by rw [← hsp, List.take_append_drop]
  rw [hos]
  refine Run.append ?_
  cases hb : b with
  | true =>
    refine Run.mono ?_ (h1 hb)
    rintro e1 h' a1 ⟨⟨e0, e2, e3⟩, rfl, rfl⟩
    refine ron hg hd (gv_lk hj0 (e3 _ _ hv0)) hw0 (s_pickT ho (b := b) e0 hb e2) ?_
    refine Run.sub ?_ k
    rw [hb, Bool.true_and]
    exact e3.put (some d) _
  | false =>
    have hcl : acc' = (acc'.take (os.take n).length).reverse.reverse ++ acc := by
      rw [List.reverse_reverse]
      conv => lhs; rw [← List.take_append_drop (os.take n).length acc', hlen.2]
    refine run_off hj (b := b) (want := true) (by rw [hb]; rfl) (os.take n) [] env h acc (acc'.take (os.take n).length).reverse _ hoff hv (by simp) hnd (by rw [List.length_reverse, List.length_take]; omega) ?_
    intro env' h2 h3
    rw [← hcl]
    have hs := sub_of_off hn h3
    refine ron hg hd (gv_lk hj0 (hs _ _ hv0)) hw0 (s_pickF ho (b := b) (hs _ _ hv) hb rfl) ?_
    refine Run.sub ?_ k
    rw [hb, Bool.false_and]
    exact hs.put (some d) _
end scg

/-! ### bytes as a text -/
theorem bytes_loop {P : Program} {w : World} {f : Value → ByteArray → Sem (ForInStep ByteArray)} (hf : ∀ n s, f (.int .u8 n) s = pure (.yield (s.push (UInt8.ofNat n.toNat)))) :
    ∀ (l : List UInt8) (s : ByteArray), Sem.run P (forIn (l.map fun b => Value.int .u8 (b.toNat : Int)) s f) w = .ok ⟨s.data ++ l.toArray⟩ w
  | [], s => by simp
  | b :: l, s => by
    simp only [List.map_cons, List.forIn_cons, Sem.run_bind, hf, Sem.run_pure, Result.andThen_ok]
    rw [bytes_loop hf l]
    simp [ByteArray.push]
section
variable {X : Gx} {P : Program} {o : Oper} {env : Env} {h : H}
theorem s_bstr {T U E : TypeId} {x : Operand} {full : Bool} {l : List UInt8} (ho : o.op = .convert T U x) (hT : ∀ w, (underlying T).run P w = .ok (.slice E) w) (hU : ∀ w, (underlying U).run P w = .ok .string w)
    (hE : ∀ w, (underlying E).run P w = .ok (.int .u8) w) (hx : evo env x = some (.lst 1 full (l.map fun b => [V.sc (.int .u8 b.toNat)]))) : StepV X P o env h (.sc (.string (bs l))) h .p := by
  refine s_pureH fun g h w e he hh => ?_
  have h1 := he x (by rw [ho]; simp [Op.operands])
  rw [ev_of hx] at h1
  refine ⟨.string (bs l), ?_, .sc _⟩
  have hsrc := src_lst (X := X) (P := P) (h := h) (sz := 1) (full := full) (rows := l.map fun b => [V.sc (.int .u8 (b.toNat : Int))]) (by
    intro row hr
    obtain ⟨b, _, rfl⟩ := List.mem_map.1 hr
    rfl)
  obtain ⟨_, k⟩ := hsrc.2 g w (e x) hh h1
  obtain ⟨news, k1, k2, k3⟩ := k l.length (by simp)
  have hnews : news = l.map fun b => Value.int .u8 (b.toNat : Int) := by
    apply List.ext_getElem?
    intro i
    by_cases hi : i < l.length
    · obtain ⟨u, h2, h3⟩ := k3 i [V.sc (.int .u8 (l[i].toNat : Int))] 0 _ hi (by simp [hi]) rfl
      simp only [Nat.mul_one, Nat.add_zero] at h2
      rw [h2, h3.sc_inv]
      simp [hi]
    · rw [List.getElem?_eq_none (by simp [k2]; omega), List.getElem?_eq_none (by simp; omega)]
  generalize hcs : e x = u at h1 k1
  have hlen : (l.map fun b => [V.sc (.int .u8 (b.toNat : Int))]).length = l.length := by simp
  generalize hrows : (l.map fun b => [V.sc (.int .u8 (b.toNat : Int))]) = rows at h1 hlen
  have hrun : (Conv.bytesToString u).run P w = .ok (.string (bs l)) w := by
    cases h1 with
    | nil a _ _ =>
      have : l = [] := List.length_eq_zero_iff.1 hlen.symm
      subst this
      cases a <;> simp [Conv.bytesToString, loadCells, loadCellsFrom, bs] <;> rfl
    | lst b off n cap _ _ _ f a1 a2 a3 a4 a5 a6 =>
      rw [hlen] at a1
      subst a1
      have k1' : (loadCells ⟨b, off, none⟩ l.length).run P w = .ok news.toArray w := by simpa [Builtin.firstCells] using k1
      simp only [Conv.bytesToString, Sem.run_bind, k1', Result.andThen_ok, hnews, List.forIn_toArray]
      rw [bytes_loop (fun _ _ => rfl)]
      simp [bs]
  simp only [execOp, ho, Sem.run_bind, convert, hT, hU, hcs, Result.andThen_ok]
  cases h1 with
  | nil a _ _ => cases a <;> simp [hE, hrun]
  | lst b off n cap _ _ _ f a1 a2 a3 a4 a5 a6 => simp [hE, hrun]
end
theorem rows_one {sz : Nat} {r : List V} (h : r.length = sz) : ∀ row ∈ [r], row.length = sz := fun row hr => by rw [List.mem_singleton.1 hr]; exact h
theorem one_one {r : List V} (h : r.all V.one = true) : ∀ row ∈ [r], ∀ c ∈ row, V.one c = true := fun row hr c hc => by
  rw [List.mem_singleton.1 hr] at hc
  exact List.all_eq_true.1 h c hc
section
variable {X : Gx} {P : Program} {env : Env} {h : H} {r : ResultVar}
theorem one_eqb {a b : Bool} (h1 : OneRes X P env h r (.sc (.bool a))) (e : a = b) : OneRes X P env h r (.sc (.bool b)) := e ▸ h1
theorem one_eqs {a b : List UInt8} (h1 : OneRes X P env h r (.sc (.string (bs a)))) (e : a = b) : OneRes X P env h r (.sc (.string (bs b))) := e ▸ h1
theorem one_eqi {k : IntKind} {a b : Int} (h1 : OneRes X P env h r (.sc (.int k a))) (e : a = b) : OneRes X P env h r (.sc (.int k b)) := e ▸ h1
end
end Go.VM
