/- A region that draws its order: one run in the text's order serves every order, where whatever touches memory is ordered. -/
import Derived.Test.YtbngkdgmmknfjaaGreatDoorVB
namespace Go.VM
open Go
variable {X : Gx}

/-! ### 'Region.before' tells only of what must come ahead -/
def befRow (acc : Array Nat) (o : Oper) : Nat :=
  o.after.toList.foldl (fun s e => if Region.binds .any e then s ||| 2 ^ e.on ||| acc.getD e.on 0 else s) 0
def bef (l : List Oper) : Array Nat := l.foldl (fun acc o => acc.push (befRow acc o)) #[]
theorem before_eq (ops : Array Oper) : Region.before ops = bef ops.toList := by
  unfold Region.before bef befRow
  rw [← Array.foldl_toList]
  simp only [Array.foldl_toList]

theorem bef_snoc (l : List Oper) (o : Oper) : bef (l ++ [o]) = (bef l).push (befRow (bef l) o) := by simp [bef]
theorem bef_size (l : List Oper) : (bef l).size = l.length := by
  suffices h : ∀ (l : List Oper) (a : Array Nat), (l.foldl (fun acc o => acc.push (befRow acc o)) a).size = a.size + l.length by
    have := h l #[]; simpa [bef] using this
  intro l
  induction l with
  | nil => simp
  | cons o l ih => intro a; simp only [List.foldl_cons, ih]; simp; omega

theorem befFold_bit (acc : Array Nat) (i : Nat) : ∀ (es : List Edge) (s : Nat),
    (es.foldl (fun s e => if Region.binds .any e then s ||| 2 ^ e.on ||| acc.getD e.on 0 else s) s).testBit i = true →
    s.testBit i = true ∨ ∃ e ∈ es, Region.binds .any e = true ∧ (i = e.on ∨ (acc.getD e.on 0).testBit i = true)
  | [], s, h => .inl h
  | e :: es, s, h => by
    simp only [List.foldl_cons] at h
    rcases befFold_bit acc i es _ h with h1 | ⟨e', he', hb, hx⟩
    · by_cases hb : Region.binds .any e = true
      · rw [if_pos hb] at h1
        simp only [Nat.testBit_or, Bool.or_eq_true] at h1
        rcases h1 with (h1 | h1) | h1
        · exact .inl h1
        · refine .inr ⟨e, by simp, hb, .inl ?_⟩
          rw [Nat.testBit_two_pow] at h1
          exact (of_decide_eq_true h1).symm
        · exact .inr ⟨e, by simp, hb, .inr h1⟩
      · rw [if_neg hb] at h1; exact .inl h1
    · exact .inr ⟨e', by simp [he'], hb, hx⟩

theorem list_snoc_ind {α : Type} {p : List α → Prop} (h0 : p []) (h1 : ∀ l x, p l → p (l ++ [x])) (l : List α) : p l := by
  have : ∀ n (l : List α), l.length = n → p l := by
    intro n
    induction n with
    | zero => intro l hl; rw [List.length_eq_zero_iff.1 hl]; exact h0
    | succ n ih =>
      intro l hl
      have hne : l ≠ [] := by intro e; rw [e] at hl; cases hl
      rw [← List.dropLast_concat_getLast hne]
      exact h1 _ _ (ih _ (by simp [hl]))
  exact this _ l rfl

theorem bef_closed (l : List Oper) : ∀ (L : Nat → Prop), (∀ (j : Nat) o, l[j]? = some o → L j → ∀ e ∈ o.after, Region.binds .any e = true → L e.on) →
    ∀ j, L j → ∀ i, ((bef l).getD j 0).testBit i = true → L i := by
  induction l using list_snoc_ind with
  | h0 => intro L _ j _ i h; simp [bef] at h
  | h1 l o ih =>
    intro L hc j hj i h
    have hcl : ∀ (j : Nat) o, l[j]? = some o → L j → ∀ e ∈ o.after, Region.binds .any e = true → L e.on := by
      intro j o' ho' 
      refine hc j o' ?_
      obtain ⟨hlt, _⟩ := List.getElem?_eq_some_iff.1 ho'
      rw [List.getElem?_append_left hlt]; exact ho'
    rw [bef_snoc] at h
    rcases Nat.lt_trichotomy j l.length with hlt | heq | hgt
    · have : ((bef l).push (befRow (bef l) o)).getD j 0 = (bef l).getD j 0 := by
        simp only [Array.getD_eq_getD_getElem?]
        rw [Array.getElem?_push_lt (by rw [bef_size]; exact hlt)]
        rw [Array.getElem?_eq_getElem (by rw [bef_size]; exact hlt)]
      rw [this] at h
      exact ih L hcl j hj i h
    · have e1 : ((bef l).push (befRow (bef l) o)).getD j 0 = befRow (bef l) o := by
        subst heq
        simp only [Array.getD_eq_getD_getElem?]
        rw [show l.length = (bef l).size from (bef_size l).symm, Array.getElem?_push_size]
        rfl
      rw [e1] at h
      unfold befRow at h
      rcases befFold_bit _ i _ _ h with h1 | ⟨e, he, hb, hx⟩
      · simp at h1
      · have hL : L e.on := by
          refine hc j o ?_ hj e (by simpa using he) hb
          subst heq; simp
        rcases hx with rfl | hx
        · exact hL
        · exact ih L hcl e.on hL i hx
    · have : ((bef l).push (befRow (bef l) o)).getD j 0 = 0 := by
        simp only [Array.getD_eq_getD_getElem?]
        rw [Array.getElem?_eq_none (by simp [bef_size]; omega)]; rfl
      rw [this] at h; simp at h

/-! ### the check -/
def conf : Cls → Cls → Bool
  | .p, _ => false
  | _, .p => false
  | .r, .r => false
  | _, _ => true

def noSelect (o : Oper) : Bool := match o.op with | .select .. => false | _ => true

def orderOK (ops : Array Oper) (acc : List Cls) : Bool :=
  let b := bef ops.toList
  let cls := acc.reverse
  (List.range ops.size).all fun j =>
    noSelect (ops.getD j default) &&
    (ops.getD j default).after.toList.all (fun e => !Region.binds .any e || decide (e.on < j)) &&
    (List.range j).all fun i => (b.getD j 0).testBit i || (!conf (cls.getD i .p) (cls.getD j .p) && (ops.getD i default).apart ops (ops.getD j default))

/-! ### the trace of a run -/
def consF {α : Type} (x : α) (f : Nat → α) : Nat → α
  | 0 => x
  | i + 1 => f i
theorem consF_zero {α : Type} (x : α) (f : Nat → α) : consF x f 0 = x := rfl
theorem consF_succ {α : Type} (x : α) (f : Nat → α) (i : Nat) : consF x f (i + 1) = f i := rfl
theorem run_trace {P : Program} {ops : Array Oper} {Q : Env → H → List Cls → Prop} : ∀ (os : List Oper) (env : Env) (h : H) (acc : List Cls), Run X P ops os env h acc Q →
    ∃ (val : Nat → V) (hp : Nat → H) (cl : Nat → Cls) (envT : Nat → Env), hp 0 = h ∧ envT 0 = env ∧
      (∀ i o, os[i]? = some o → StepOK X P ops o (envT i) (hp i) (val i) (hp (i + 1)) (cl i) ∧ envT (i + 1) = (envT i).put o.dst (val i)) ∧
      ∃ env', Sub (envT os.length) env' ∧ Q env' (hp os.length) (((List.range os.length).map cl).reverse ++ acc)
  | [], env, h, acc, hr => ⟨fun _ => .unk, fun _ => h, fun _ => .p, fun _ => env, rfl, rfl, by simp, by simpa [Run] using hr⟩
  | o :: os, env, h, acc, hr => by
    obtain ⟨v, h', c, hs, hr⟩ := hr
    obtain ⟨val, hp, cl, envT, e1, e2, h3, env', h5, h4⟩ := run_trace os _ _ _ hr
    refine ⟨consF v val, consF h hp, consF c cl, consF env envT, rfl, rfl, ?_, ?_⟩
    · intro i o' hi
      cases i with
      | zero =>
        simp only [List.getElem?_cons_zero, Option.some.injEq] at hi
        subst hi
        simp only [consF_zero, consF_succ]
        rw [e1, e2]
        exact ⟨hs, rfl⟩
      | succ i =>
        simp only [List.getElem?_cons_succ] at hi
        exact h3 i o' hi
    · simp only [List.length_cons]
      rw [List.range_succ_eq_map, List.map_cons, List.reverse_cons, List.map_map]
      refine ⟨env', by rw [consF_succ]; exact h5, ?_⟩
      simpa [Function.comp_def, consF_succ, consF_zero] using h4

section draw
variable {P : Program} {ops : Array Oper}

def dstOf (ops : Array Oper) (i : Nat) : Option Nat := (ops[i]?).bind (·.dst)

/-- The slots when just the operations of L have come up. -/
def envU (ops : Array Oper) (val : Nat → V) (env0 : Env) (L : Nat → Bool) : Nat → Env
  | 0 => env0
  | m + 1 => if L m then (envU ops val env0 L m).put (dstOf ops m) (val m) else envU ops val env0 L m

theorem lk_put {env : Env} {d : Option Nat} {v : V} {t : Nat} (h : d ≠ some t) : lk (env.put d v) t = lk env t := by
  cases d with
  | none => rfl
  | some d => simp only [Env.put, lk]; rw [if_neg (fun e => h (by rw [e]))]

theorem lk_put_same {env : Env} {v : V} {t : Nat} : lk (env.put (some t) v) t = some v := by simp [Env.put, lk]

theorem envU_above {val : Nat → V} {env0 : Env} {L : Nat → Bool} {t i : Nat} : ∀ (d : Nat), (∀ m, i ≤ m → m < i + d → L m = true → dstOf ops m ≠ some t) →
    lk (envU ops val env0 L (i + d)) t = lk (envU ops val env0 L i) t
  | 0, _ => rfl
  | d + 1, h => by
    have ih := envU_above (val := val) (env0 := env0) (L := L) (t := t) (i := i) d (fun m h1 h2 h3 => h m h1 (by omega) h3)
    rw [← Nat.add_assoc]
    simp only [envU]
    split
    · rename_i hl
      rw [lk_put (h (i + d) (by omega) (by omega) hl), ih]
    · exact ih

theorem envU_below {val : Nat → V} {env0 : Env} {L L' : Nat → Bool} {t : Nat} : ∀ (i : Nat), (∀ m, m < i → L m ≠ L' m → dstOf ops m ≠ some t) →
    lk (envU ops val env0 L i) t = lk (envU ops val env0 L' i) t
  | 0, _ => rfl
  | i + 1, h => by
    have ih := envU_below (val := val) (env0 := env0) (L := L) (L' := L') (t := t) i (fun m h1 h2 => h m (by omega) h2)
    simp only [envU]
    by_cases e : L i = L' i
    · rw [e]
      split
      · by_cases hd : dstOf ops i = some t
        · rw [hd]; simp [Env.put, lk]
        · rw [lk_put hd, lk_put hd, ih]
      · exact ih
    · have hd := h i (by omega) e
      split <;> split <;> simp only [lk_put hd, ih]

theorem OpOK.congr {o : Oper} {ρ ρ' : Operand → V} {h h' : H} {v : V} (he : ∀ x ∈ o.op.operands, ρ' x = ρ x) (ho : OpOK X P o ρ h v h') : OpOK X P o ρ' h v h' :=
  fun g w e hx hh => ho g w e (fun x hm => by rw [← he x hm]; exact hx x hm) hh

theorem ev_congr {env env' : Env} {o : Oper} (h : ∀ t ∈ o.looksAt ops, lk env' t = lk env t) : ∀ x ∈ o.op.operands, ev env' x = ev env x := by
  intro x hx
  cases x with
  | tmp t =>
    simp only [ev, Env.get]
    rw [h t ?_]
    simp only [Oper.looksAt, List.mem_append, List.mem_filterMap]
    exact .inl ⟨.tmp t, by simpa using hx, rfl⟩
  | _ => rfl

theorem StepV.congr {o : Oper} {env env' : Env} {h h' : H} {v : V} {c : Cls} (hl : ∀ t ∈ o.looksAt ops, lk env' t = lk env t) (hs : StepV X P o env h v h' c) : StepV X P o env' h v h' c := by
  have he := ev_congr hl
  cases c with
  | p => exact ⟨fun h => (hs.1 h).congr he, hs.2⟩
  | r => exact ⟨hs.1.congr he, hs.2⟩
  | w => exact OpOK.congr he hs

theorem gv_congr {o : Oper} {j : Nat} {want : Bool} (hg : o.guard = some (j, want)) {env env' : Env} (hl : ∀ t ∈ o.looksAt ops, lk env' t = lk env t) : gv ops env' j = gv ops env j := by
  unfold gv
  cases hd : (ops[j]?).bind (·.dst) with
  | none => rfl
  | some d =>
    simp only [Env.get]
    rw [hl d ?_]
    simp only [Oper.looksAt, List.mem_append, hg]
    exact .inr (by rw [hd]; simp)

theorem StepOK.congr {o : Oper} {env env' : Env} {h h' : H} {v : V} {c : Cls} (hl : ∀ t ∈ o.looksAt ops, lk env' t = lk env t) (hs : StepOK X P ops o env h v h' c) : StepOK X P ops o env' h v h' c := by
  unfold StepOK at *
  cases hgd : o.guard with
  | none => rw [hgd] at hs; exact StepV.congr hl hs
  | some jw =>
    obtain ⟨j, want⟩ := jw
    rw [hgd] at hs
    rcases hs with ⟨b, hb, h1, h2⟩ | ⟨h1, h2⟩
    · exact .inl ⟨b, by rw [gv_congr hgd hl]; exact hb, h1, StepV.congr hl h2⟩
    · refine .inr ⟨?_, h2⟩
      rcases h1 with ⟨b, hb, h1⟩ | ⟨d, hd, h1⟩
      · exact .inl ⟨b, by rw [gv_congr hgd hl]; exact hb, h1⟩
      · refine .inr ⟨d, hd, ?_⟩
        rw [hl d ?_]
        · exact h1
        · simp only [Oper.looksAt, List.mem_append, hgd]
          exact .inr (by rw [hd]; simp)

/-- A step that is pure does its work at any heap. -/
theorem StepOK.pure {o : Oper} {env : Env} {h h' : H} {v : V} (h2 : H) (hs : StepOK X P ops o env h v h' .p) : StepOK X P ops o env h2 v h2 .p := by
  unfold StepOK at *
  cases hgd : o.guard with
  | none => rw [hgd] at hs; exact ⟨hs.1, rfl⟩
  | some jw =>
    obtain ⟨j, want⟩ := jw
    rw [hgd] at hs
    rcases hs with ⟨b, hb, h1, h3⟩ | ⟨h1, h3, _⟩
    · exact .inl ⟨b, hb, h1, h3.1, rfl⟩
    · exact .inr ⟨h1, h3, rfl⟩
theorem StepOK.keeps {o : Oper} {env : Env} {h h' : H} {v : V} {c : Cls} (hc : c ≠ .w) (hs : StepOK X P ops o env h v h' c) : h' = h := by
  unfold StepOK at hs
  cases hgd : o.guard with
  | none => rw [hgd] at hs; cases c <;> first | exact hs.2 | exact absurd rfl hc
  | some jw =>
    obtain ⟨j, want⟩ := jw
    rw [hgd] at hs
    rcases hs with ⟨b, hb, h1, h3⟩ | ⟨h1, h3, h4⟩
    · cases c <;> first | exact h3.2 | exact absurd rfl hc
    · exact h4

def on (L : Array Bool) (i : Nat) : Bool := L.getD i false
theorem on_set {L : Array Bool} {i j : Nat} (hi : i < L.size) : on (L.setIfInBounds i true) j = if j = i then true else on L j := by
  unfold on
  simp only [Array.getD_eq_getD_getElem?, Array.getElem?_setIfInBounds]
  by_cases e : i = j
  · subst e; simp [hi]
  · simp [e, Ne.symm e]

structure Inv (X : Gx) (P : Program) (N B : Nat) (ops : Array Oper) (val : Nat → V) (hp : Nat → H) (cl : Nat → Cls) (env0 : Env) (g0 : G) (w0 : World) (fuel : Nat) (L : Array Bool) (a : Act) (w : World) : Prop where
  size : L.size = ops.size
  closed : ∀ (j : Nat) o, ops[j]? = some o → on L j = true → ∀ e ∈ o.after, Region.binds .any e = true → on L e.on = true
  fuel : ((List.range ops.size).filter fun i => !on L i).length = fuel
  st : ∃ g k, MvB B g0 w0 g w ∧ AR N g (envU ops val env0 (on L) ops.size) a ∧ HR X g (hp k) w ∧ k ≤ ops.size ∧ ∀ i, i < ops.size → cl i = .w → (on L i = true ↔ i < k)

theorem filter_length_one {p q : Nat → Bool} {i : Nat} : ∀ {l : List Nat}, l.Nodup → i ∈ l → p i = true → (∀ j, q j = (if j = i then false else p j)) → (l.filter p).length = (l.filter q).length + 1
  | [], _, hi, _, _ => by cases hi
  | x :: l, hn, hi, hp, hq => by
    rw [List.nodup_cons] at hn
    by_cases e : x = i
    · subst e
      have h1 : (x :: l).filter p = x :: l.filter p := by simp [hp]
      have h2 : (x :: l).filter q = l.filter q := by simp [hq]
      have h3 : l.filter q = l.filter p := List.filter_congr fun y hy => by rw [hq, if_neg]; rintro rfl; exact hn.1 hy
      rw [h1, h2, h3]; simp
    · have hi' : i ∈ l := by
        rcases List.mem_cons.1 hi with h | h
        · exact absurd h.symm e
        · exact h
      have ih := filter_length_one hn.2 hi' hp hq
      have hx : q x = p x := by rw [hq, if_neg e]
      by_cases hpx : p x = true
      · simp [hpx, hx, ih]
      · simp [hpx, hx, ih]

theorem hp_same {hp : Nat → H} {cl : Nat → Cls} {n : Nat} (hk : ∀ j, j < n → cl j ≠ .w → hp (j + 1) = hp j) {i : Nat} : ∀ (d : Nat), i + d ≤ n → (∀ j, i ≤ j → j < i + d → cl j ≠ .w) → hp (i + d) = hp i
  | 0, _, _ => rfl
  | d + 1, hn, h => by
    rw [← Nat.add_assoc, hk (i + d) (by omega) (h (i + d) (by omega) (by omega))]
    exact hp_same hk d (by omega) fun j h1 h2 => h j h1 (by omega)

theorem any_of_inv {N B : Nat} {val : Nat → V} {hp : Nat → H} {cl : Nat → Cls} {envT : Nat → Env} {env0 : Env} {g0 : G} {w0 : World} {Q : Exit → Env → H → Prop}
    (hN : dstOK N ops = true) (e0 : envT 0 = env0)
    (hst : ∀ i o, ops[i]? = some o → StepOK X P ops o (envT i) (hp i) (val i) (hp (i + 1)) (cl i) ∧ envT (i + 1) = (envT i).put o.dst (val i))
    (hlow : ∀ (j : Nat) o, ops[j]? = some o → ∀ e ∈ o.after, Region.binds .any e = true → e.on < j)
    (hord : ∀ i j x y, i < j → ops[i]? = some x → ops[j]? = some y → ((Region.before ops).getD j 0).testBit i = true ∨ (conf (cl i) (cl j) = false ∧ x.apart ops y = true))
    (hQ : ∃ env', Sub (envT ops.size) env' ∧ Q .normal env' (hp ops.size)) :
    ∀ (fuel : Nat) (L : Array Bool) (a : Act) (w : World), Inv X P N B ops val hp cl env0 g0 w0 fuel L a w → wpAny P .any ops (CPost X N B g0 w0 Q) fuel L a w := by
  have hT : ∀ i, i ≤ ops.size → envT i = envU ops val env0 (fun _ => true) i := by
    intro i
    induction i with
    | zero => intro _; exact e0
    | succ i ih =>
      intro hi
      have ho : ops[i]? = some (ops[i]'(by omega)) := Array.getElem?_eq_getElem _
      rw [(hst i _ ho).2, ih (by omega)]
      simp [envU, dstOf, ho]
  have hkeep : ∀ j, j < ops.size → cl j ≠ .w → hp (j + 1) = hp j := fun j hj hc =>
    (hst j _ (Array.getElem?_eq_getElem hj)).1.keeps hc
  -- all have come up: the end
  have hend : ∀ (L : Array Bool) (a : Act) (w : World) (fuel : Nat), Inv X P N B ops val hp cl env0 g0 w0 fuel L a w → (∀ i, i < ops.size → on L i = true) → CPost X N B g0 w0 Q .normal a w := by
    intro L a w fuel hI hall
    obtain ⟨g, k, m, ar, hr, hk, hw⟩ := hI.st
    have hhp : hp ops.size = hp k := by
      have := hp_same hkeep (i := k) (ops.size - k) (by omega) (fun j h1 h2 hc => by
        have := (hw j (by omega) hc).1 (hall j (by omega)); omega)
      rwa [show k + (ops.size - k) = ops.size by omega] at this
    obtain ⟨env', hsub, hQ⟩ := hQ
    refine ⟨g, env', hp ops.size, m, ⟨ar.size, ar.defers, fun t v ht' => ?_⟩, by rw [hhp]; exact hr, hQ⟩
    have ht := hsub t v ht'
    refine ar.at_ t v ?_
    rw [hT ops.size (Nat.le_refl _)] at ht
    rw [← ht]
    exact envU_below ops.size fun m' hm' hne => absurd (hall m' hm') hne
  -- something is ready where not all have come up
  have hready : ∀ (L : Array Bool), L.size = ops.size → Region.ready .any ops L = [] → ∀ i, i < ops.size → on L i = true := by
    intro L hL hr i
    induction i using Nat.strongRecOn with
    | _ i ih =>
      intro hi
      rcases Bool.eq_false_or_eq_true (on L i) with h | h
      · exact h
      · exfalso
        have ho : ops[i]? = some (ops[i]'hi) := Array.getElem?_eq_getElem _
        have : i ∈ Region.ready .any ops L := by
          unfold Region.ready
          rw [List.mem_filter]
          refine ⟨List.mem_range.2 hi, ?_⟩
          rw [ho]
          simp only [Option.map_some, Option.getD_some, Bool.and_eq_true, Bool.not_eq_true']
          refine ⟨?_, ?_⟩
          · have : L.getD i true = L.getD i false := by simp [Array.getD_eq_getD_getElem?, Array.getElem?_eq_getElem (hL ▸ hi)]
            rw [this]; exact h
          · rw [Array.all_eq_true_iff_forall_mem]
            intro e he
            rcases Bool.eq_false_or_eq_true (Region.binds .any e) with hb | hb
            · have := hlow i _ ho e he hb
              have := ih e.on this (by omega)
              simp only [on] at this
              simp [hb, this]
            · simp [hb]
        rw [hr] at this
        cases this
  intro fuel
  induction fuel with
  | zero =>
    intro L a w hI
    have hall : ∀ i, i < ops.size → on L i = true := by
      intro i hi
      have h0 := hI.fuel
      rw [List.length_eq_zero_iff, List.filter_eq_nil_iff] at h0
      simpa using h0 i (List.mem_range.2 hi)
    refine ⟨?_, hend L a w 0 hI hall⟩
    unfold Region.ready
    rw [List.filter_eq_nil_iff]
    intro i hi
    have := hall i (List.mem_range.1 hi)
    have e : L.getD i true = L.getD i false := by simp [Array.getD_eq_getD_getElem?, Array.getElem?_eq_getElem (hI.size ▸ List.mem_range.1 hi)]
    simp only [on] at this
    simp [e, this]
  | succ fuel ih =>
    intro L a w hI
    refine ⟨fun hr => hend L a w _ hI (hready L hI.size hr), ?_⟩
    intro i hi
    unfold Region.ready at hi
    rw [List.mem_filter] at hi
    obtain ⟨hi0, hi1⟩ := hi
    have hi0 := List.mem_range.1 hi0
    have ho : ops[i]? = some (ops[i]'hi0) := Array.getElem?_eq_getElem _
    generalize ops[i]'hi0 = o at ho
    rw [ho] at hi1
    simp only [Option.map_some, Option.getD_some, Bool.and_eq_true, Bool.not_eq_true'] at hi1
    obtain ⟨hunl, haft⟩ := hi1
    have hunl : on L i = false := by
      have : L.getD i true = L.getD i false := by simp [Array.getD_eq_getD_getElem?, Array.getElem?_eq_getElem (hI.size ▸ hi0)]
      rw [this] at hunl; exact hunl
    have haft : ∀ e ∈ o.after, Region.binds .any e = true → on L e.on = true := by
      rw [Array.all_eq_true_iff_forall_mem] at haft
      intro e he hb
      have := haft e he
      simpa [hb, on] using this
    obtain ⟨g, k, m, ar, hr, hk, hw⟩ := hI.st
    -- whoever stands behind i and has come up is apart from i
    have hup : ∀ j y, i < j → ops[j]? = some y → on L j = true → conf (cl i) (cl j) = false ∧ o.apart ops y = true := by
      intro j y hij hj hl
      rcases hord i j o y hij ho hj with hb | hb
      · exfalso
        rw [before_eq] at hb
        have := bef_closed ops.toList (fun x => on L x = true) (fun j' o' ho' => hI.closed j' o' (by simpa using ho')) j hl i hb
        rw [hunl] at this; cases this
      · exact hb
    -- whoever stands ahead of i and has not come up is apart from i
    have hdn : ∀ j y, j < i → ops[j]? = some y → on L j = false → conf (cl j) (cl i) = false ∧ y.apart ops o = true := by
      intro j y hij hj hl
      rcases hord j i y o hij hj ho with hb | hb
      · exfalso
        rw [before_eq] at hb
        have := bef_closed ops.toList (fun x => on L x = true ∨ x = i) (fun j' o' ho' hl' e he hbd => by
          have ho'' : ops[j']? = some o' := by simpa using ho'
          rcases hl' with hl' | rfl
          · exact .inl (hI.closed j' o' ho'' hl' e he hbd)
          · rw [ho] at ho''; cases ho''; exact .inl (haft e he hbd)) i (.inr rfl) j hb
        rcases this with h | h
        · rw [hl] at h; cases h
        · omega
      · exact hb
    -- its operands read as they do in the text's order
    have hlook : ∀ t ∈ o.looksAt ops, lk (envU ops val env0 (on L) ops.size) t = lk (envT i) t := by
      intro t ht
      rw [hT i (by omega)]
      have e1 := envU_above (ops := ops) (val := val) (env0 := env0) (L := on L) (t := t) (i := i) (ops.size - i) (fun j h1 h2 h3 h4 => by
        have hji : i < j := by
          rcases Nat.lt_or_eq_of_le h1 with h | h
          · exact h
          · subst h; rw [hunl] at h3; cases h3
        have hj : ops[j]? = some (ops[j]'(by omega)) := Array.getElem?_eq_getElem _
        have := (hup j _ hji hj h3).2
        obtain ⟨_, _, h7⟩ := Oper.apart_spec this
        simp only [dstOf, hj, Option.bind_some] at h4
        exact h7 t h4 ht)
      rw [show i + (ops.size - i) = ops.size by omega] at e1
      rw [e1]
      refine envU_below i fun j hj hne hd => ?_
      have hlj : on L j = false := by simpa using hne
      have hjo : ops[j]? = some (ops[j]'(by omega)) := Array.getElem?_eq_getElem _
      have := (hdn j _ hj hjo hlj).2
      obtain ⟨h5, _, _⟩ := Oper.apart_spec this
      simp only [dstOf, hjo, Option.bind_some] at hd
      exact h5 t hd ht
    obtain ⟨hs, hput⟩ := hst i o ho
    have hs2 := StepOK.congr (env' := envU ops val env0 (on L) ops.size) hlook hs
    have hLi : i < L.size := hI.size ▸ hi0
    -- the new list of what has come up
    have hclosed' : ∀ (j : Nat) o', ops[j]? = some o' → on (L.setIfInBounds i true) j = true → ∀ e ∈ o'.after, Region.binds .any e = true → on (L.setIfInBounds i true) e.on = true := by
      intro j o' hj hl e he hb
      rw [on_set hLi] at hl ⊢
      by_cases e1 : e.on = i
      · rw [if_pos e1]
      · rw [if_neg e1]
        by_cases e2 : j = i
        · subst e2; rw [ho] at hj; cases hj; exact haft e he hb
        · rw [if_neg e2] at hl; exact hI.closed j o' hj hl e he hb
    have hfuel' : ((List.range ops.size).filter fun i' => !on (L.setIfInBounds i true) i').length = fuel := by
      have := filter_length_one (p := fun i' => !on L i') (q := fun i' => !on (L.setIfInBounds i true) i') (i := i) (List.nodup_range (n := ops.size)) (List.mem_range.2 hi0) (by simp [hunl]) (fun j => by
        rw [on_set hLi]; by_cases e : j = i <;> simp [e])
      have h0 := hI.fuel
      omega
    have henv' : ∀ t, lk (envU ops val env0 (on (L.setIfInBounds i true)) ops.size) t = lk ((envU ops val env0 (on L) ops.size).put o.dst (val i)) t := by
      intro t
      by_cases hd : o.dst = some t
      · rw [hd, lk_put_same]
        have e1 := envU_above (ops := ops) (val := val) (env0 := env0) (L := on (L.setIfInBounds i true)) (t := t) (i := i + 1) (ops.size - (i + 1)) (fun j h1 h2 h3 h4 => by
          rw [on_set hLi, if_neg (by omega)] at h3
          have hj : ops[j]? = some (ops[j]'(by omega)) := Array.getElem?_eq_getElem _
          have := (hup j _ (by omega) hj h3).2
          obtain ⟨_, h6, _⟩ := Oper.apart_spec this
          simp only [dstOf, hj, Option.bind_some] at h4
          exact h6 t hd h4)
        rw [show i + 1 + (ops.size - (i + 1)) = ops.size by omega] at e1
        rw [e1]
        simp only [envU]
        rw [if_pos (by rw [on_set hLi, if_pos rfl])]
        simp [dstOf, ho, hd, Env.put, lk]
      · rw [lk_put hd]
        refine envU_below ops.size fun j hj hne hdj => ?_
        rw [on_set hLi] at hne
        by_cases e : j = i
        · subst e; simp only [dstOf, ho, Option.bind_some] at hdj; exact hd hdj
        · rw [if_neg e] at hne; exact hne rfl
    have hfin : ∀ (g' : G) (a' : Act) (w' : World) (k' : Nat), Mv g w g' w' → AR N g' ((envU ops val env0 (on L) ops.size).put o.dst (val i)) a' → HR X g' (hp k') w' → k' ≤ ops.size →
        (∀ j, j < ops.size → cl j = .w → (on (L.setIfInBounds i true) j = true ↔ j < k')) → wpAny P .any ops (CPost X N B g0 w0 Q) fuel (L.setIfInBounds i true) a' w' := by
      intro g' a' w' k' m' ar' hr' hk' hw'
      refine ih _ _ _ ⟨by simp [hI.size], hclosed', hfuel', g', k', m.trans (m'.toB B), ⟨ar'.size, ar'.defers, fun t v ht => ar'.at_ t v ?_⟩, hr', hk', hw'⟩
      rw [← henv' t]; exact ht
    by_cases hcp : cl i = .p
    · rw [hcp] at hs2
      refine wpOp_of_step ho hN ar hr (hs2.pure (hp k)) ?_
      intro g' a' w' m' ar' hr'
      refine hfin g' a' w' k m' ar' hr' hk fun j hj hc => ?_
      rw [on_set hLi, if_neg (by intro e; subst e; rw [hcp] at hc; cases hc)]
      exact hw j hj hc
    · -- memory is as it is in the text's order
      have hjw : ∀ j, j < ops.size → cl j = .w → j < i → on L j = true := by
        intro j hj hc hji
        rcases Bool.eq_false_or_eq_true (on L j) with h | h
        · exact h
        · have := (hdn j _ hji (Array.getElem?_eq_getElem hj) h).1
          rw [hc] at this
          cases hci : cl i <;> rw [hci] at this hcp <;> simp [conf] at this hcp
      have hjw' : ∀ j, j < ops.size → cl j = .w → i < j → on L j = false := by
        intro j hj hc hji
        rcases Bool.eq_false_or_eq_true (on L j) with h | h
        · have := (hup j _ hji (Array.getElem?_eq_getElem hj) h).1
          rw [hc] at this
          cases hci : cl i <;> rw [hci] at this hcp <;> simp [conf] at this hcp
        · exact h
      have hhp : hp k = hp i := by
        rcases Nat.le_total k i with hle | hle
        · have := hp_same hkeep (i := k) (i - k) (by omega) (fun j h1 h2 hc => by
            have h3 := hjw j (by omega) hc (by omega)
            have := (hw j (by omega) hc).1 h3; omega)
          rw [show k + (i - k) = i by omega] at this
          exact this.symm
        · have := hp_same hkeep (i := i) (k - i) (by omega) (fun j h1 h2 hc => by
            have h3 := (hw j (by omega) hc).2 (by omega)
            rcases Nat.lt_or_eq_of_le h1 with h4 | h4
            · rw [hjw' j (by omega) hc h4] at h3; cases h3
            · subst h4; rw [hunl] at h3; cases h3)
          rw [show i + (k - i) = k by omega] at this
          exact this
      rw [hhp] at hr
      refine wpOp_of_step ho hN ar hr hs2 ?_
      intro g' a' w' m' ar' hr'
      by_cases hcw : cl i = .w
      · refine hfin g' a' w' (i + 1) m' ar' hr' (by omega) fun j hj hc => ?_
        rw [on_set hLi]
        by_cases e : j = i
        · subst e; simp
        · rw [if_neg e]
          constructor
          · intro h
            rcases Nat.lt_or_ge i j with h2 | h2
            · rw [hjw' j hj hc h2] at h; cases h
            · omega
          · intro h
            exact hjw j hj hc (by omega)
      · have h1 : hp (i + 1) = hp k := by rw [hkeep i hi0 hcw, hhp]
        rw [h1] at hr'
        refine hfin g' a' w' k m' ar' hr' hk fun j hj hc => ?_
        rw [on_set hLi, if_neg (by intro e; subst e; exact hcw hc)]
        exact hw j hj hc
end draw

theorem c_draw {P : Program} {N B : Nat} {env : Env} {h : H} {Q : Exit → Env → H → Prop} {id : Nat} {ops : Array Oper} (hP : P.follows .mixedOrders = true) (hN : dstOK N ops = true)
    (hr : Run X P ops ops.toList env h [] (fun env h acc => orderOK ops acc = true ∧ Q .normal env h)) : CodeOK X P N B (.region id ops true) env h Q := by
  intro g w a ha hh
  obtain ⟨val, hp, cl, envT, e1, e2, h3, envF, h6, h4, h5⟩ := run_trace _ _ _ _ hr
  rw [Array.length_toList] at h4 h5 h6
  have hord : ∀ j, j < ops.size → (noSelect (ops.getD j default) = true ∧ (∀ e ∈ (ops.getD j default).after, Region.binds .any e = true → e.on < j)) ∧
      ∀ i, i < j → ((Region.before ops).getD j 0).testBit i = true ∨ (conf (cl i) (cl j) = false ∧ (ops.getD i default).apart ops (ops.getD j default) = true) := by
    intro j hj
    unfold orderOK at h4
    rw [List.all_eq_true] at h4
    have := h4 j (List.mem_range.2 hj)
    simp only [Bool.and_eq_true, List.all_eq_true, List.mem_range, Bool.or_eq_true, Bool.not_eq_true', ← before_eq] at this
    obtain ⟨⟨a1, a2⟩, a3⟩ := this
    refine ⟨⟨a1, fun e he hb => ?_⟩, fun i hi => ?_⟩
    · rcases a2 e (by simpa using he) with h | h
      · rw [hb] at h; cases h
      · exact of_decide_eq_true h
    · have hc : ∀ i, i < ops.size → (((List.range ops.size).map cl).reverse ++ []).reverse.getD i Cls.p = cl i := by
        intro i hi
        simp [List.getD_eq_getElem?_getD, hi]
      rcases a3 i hi with h | h
      · exact .inl h
      · rw [hc i (by omega), hc j hj] at h
        exact .inr h
  refine wp_region_any hP ?_
  have ar : AR N g env a := ha
  refine any_of_inv (val := val) (hp := hp) (cl := cl) (envT := envT) (env0 := env) hN e2 (fun i o hi => h3 i o (by simpa using hi)) ?_ ?_ ⟨envF, h6, h5⟩ ops.size _ a _ ⟨by simp, ?_, ?_, g, 0, (Mv.drew g w _).toB B, ?_, by rw [e1]; exact hh.drew _, by omega, ?_⟩
  · intro j o ho e he hb
    obtain ⟨hj, rfl⟩ := Array.getElem?_eq_some_iff.1 ho
    have := (hord j hj).1.2
    rw [Array.getD_eq_getD_getElem?, Array.getElem?_eq_getElem hj] at this
    exact this e he hb
  · intro i j x y hij hi hj
    obtain ⟨hj', rfl⟩ := Array.getElem?_eq_some_iff.1 hj
    obtain ⟨hi', rfl⟩ := Array.getElem?_eq_some_iff.1 hi
    have := (hord j hj').2 i hij
    simp only [Array.getD_eq_getD_getElem?, Array.getElem?_eq_getElem hi', Array.getElem?_eq_getElem hj', Option.getD_some] at this ⊢
    exact this
  · intro j o ho hl
    simp [on, Array.getD_eq_getD_getElem?, Array.getElem?_replicate] at hl
    split at hl <;> cases hl
  · rw [List.filter_eq_self.2]
    · simp
    · intro i hi
      simp [on, Array.getD_eq_getD_getElem?, List.mem_range.1 hi]
  · refine ⟨ar.size, ar.defers, fun t v ht => ar.at_ t v ?_⟩
    have := envU_above (ops := ops) (val := val) (env0 := env) (L := on (Array.replicate ops.size false)) (t := t) (i := 0) ops.size fun m _ hm hl => by
      simp [on, Array.getD_eq_getD_getElem?, show m < ops.size by omega] at hl
    rw [Nat.zero_add] at this
    rw [this] at ht
    exact ht
  · intro i hi _
    simp [on, Array.getD_eq_getD_getElem?, hi]

end Go.VM
