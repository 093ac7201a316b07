/- Judgements over values read as trees: code, regions in text order, regions that draw their order. -/
import Derived.Test.YtbngkdgmmknfjaaGreatDoorVA
namespace Go.VM
open Go
variable {X : Gx}

def CPost (X : Gx) (N B : Nat) (g : G) (w : World) (Q : Exit → Env → H → Prop) : Exit → Act → World → Prop
  | .normal, a', w' => ∃ g' env' h', MvB B g w g' w' ∧ AR N g' env' a' ∧ HR X g' h' w' ∧ Q .normal env' h'
  | .exit id, a', w' => ∃ g' env' h', MvB B g w g' w' ∧ AR N g' env' a' ∧ HR X g' h' w' ∧ Q (.exit id) env' h'
  | .ret, a', w' => ∃ g' env' h', MvB B g w g' w' ∧ AR N g' env' a' ∧ HR X g' h' w' ∧ Q .ret env' h'
  | _, _, _ => False

theorem CPost.from {N B : Nat} {g g1 : G} {w w1 : World} {Q : Exit → Env → H → Prop} (hm : MvB B g w g1 w1) {e : Exit} {a' : Act} {w' : World}
    (h : CPost X N B g1 w1 Q e a' w') : CPost X N B g w Q e a' w' := by
  cases e <;> simp only [CPost] at h ⊢
  all_goals
    obtain ⟨g', env', h', m, r⟩ := h
    exact ⟨g', env', h', hm.trans m, r⟩

def CodeOK (X : Gx) (P : Program) (N B : Nat) (c : Code) (env : Env) (h : H) (Q : Exit → Env → H → Prop) : Prop :=
  ∀ (g : G) (w : World) (a : Act), AR N g env a → HR X g h w → c.wp P (CPost X N B g w Q) a w

theorem CodeOK.mono {P : Program} {N B : Nat} {c : Code} {env : Env} {h : H} {Q Q' : Exit → Env → H → Prop} (hq : ∀ e env h, Q e env h → Q' e env h)
    (hc : CodeOK X P N B c env h Q) : CodeOK X P N B c env h Q' := by
  intro g w a ha hh
  refine wp_mono (hc g w a ha hh) ?_
  intro e a' w' hp
  cases e <;> simp only [CPost] at hp ⊢
  all_goals
    obtain ⟨g', env', h', m, r, s, t⟩ := hp
    exact ⟨g', env', h', m, r, s, hq _ _ _ t⟩

def Then (X : Gx) (P : Program) (N B : Nat) (y : Code) (Q : Exit → Env → H → Prop) : Exit → Env → H → Prop
  | .normal, env, h => CodeOK X P N B y env h Q
  | e, env, h => Q e env h

section
variable {P : Program} {N B : Nat} {env : Env} {h : H} {Q : Exit → Env → H → Prop}

theorem c_seq {x y : Code} (hx : CodeOK X P N B x env h (Then X P N B y Q)) : CodeOK X P N B (.seq x y) env h Q := by
  intro g w a ha hh
  refine wp_seq (wp_mono (hx g w a ha hh) ?_)
  intro e a' w' hp
  cases e <;> simp only [CPost] at hp <;> simp only [Exit.then]
  case normal =>
    obtain ⟨g', env', h', m, r, s, t⟩ := hp
    exact wp_mono (t g' w' a' r s) fun e a2 w2 hq => CPost.from m hq
  all_goals
    obtain ⟨g', env', h', m, r, s, t⟩ := hp
    exact ⟨g', env', h', m, r, s, t⟩

theorem c_skip (hq : Q .normal env h) : CodeOK X P N B .skip env h Q :=
  fun g w _ ha hh => wp_skip ⟨g, env, h, .refl B g w, ha, hh, hq⟩
theorem c_label {l : Nat} (hq : Q .normal env h) : CodeOK X P N B (.label l) env h Q :=
  fun g w _ ha hh => wp_label ⟨g, env, h, .refl B g w, ha, hh, hq⟩
theorem c_ret (hq : Q .ret env h) : CodeOK X P N B .ret env h Q :=
  fun g w _ ha hh => wp_ret ⟨g, env, h, .refl B g w, ha, hh, hq⟩
theorem c_exit {id : Nat} (hq : Q (.exit id) env h) : CodeOK X P N B (.exit id) env h Q :=
  fun g w _ ha hh => wp_exit ⟨g, env, h, .refl B g w, ha, hh, hq⟩
theorem c_cond {c : Operand} {x y : Code} {t : Bool} (hc : ev env c = .sc (.bool t)) (ht : t = true → CodeOK X P N B x env h Q)
    (hf : t = false → CodeOK X P N B y env h Q) : CodeOK X P N B (.cond c x y) env h Q := by
  intro g w a ha hh
  have hv := ha.ev c
  rw [hc] at hv
  have he := hv.sc_inv
  exact wp_cond_split he (fun e => ht e g w a ha hh) (fun e => hf e g w a ha hh)
theorem c_true {c : Operand} {x y : Code} {t : Bool} (hc : ev env c = .sc (.bool t)) (ht : t = true) (hx : CodeOK X P N B x env h Q) : CodeOK X P N B (.cond c x y) env h Q :=
  c_cond hc (fun _ => hx) (fun e => by rw [ht] at e; cases e)
theorem c_false {c : Operand} {x y : Code} {t : Bool} (hc : ev env c = .sc (.bool t)) (ht : t = false) (hx : CodeOK X P N B y env h Q) : CodeOK X P N B (.cond c x y) env h Q :=
  c_cond hc (fun e => by rw [ht] at e; cases e) (fun _ => hx)

def InBlock (id : Nat) (Q : Exit → Env → H → Prop) : Exit → Env → H → Prop
  | .exit id', env, h => if id' = id then Q .normal env h else Q (.exit id') env h
  | e, env, h => Q e env h

theorem c_block {id : Nat} {c : Code} (hc : CodeOK X P N B c env h (InBlock id Q)) : CodeOK X P N B (.block id c) env h Q := by
  intro g w a ha hh
  refine wp_block (wp_mono (hc g w a ha hh) ?_)
  intro e a' w' hp
  cases e <;> simp only [CPost] at hp <;> simp only [Exit.inBlock]
  case exit id' =>
    obtain ⟨g', env', h', m, r, s, t⟩ := hp
    simp only [InBlock] at t
    by_cases hid : id' = id
    · rw [if_pos hid] at t ⊢; exact ⟨g', env', h', m, r, s, t⟩
    · rw [if_neg hid] at t ⊢; exact ⟨g', env', h', m, r, s, t⟩
  all_goals
    obtain ⟨g', env', h', m, r, s, t⟩ := hp
    exact ⟨g', env', h', m, r, s, t⟩
end

/-! ### a loop: one round, then the loop again -/
theorem exitTo_length {id : Nat} : ∀ {k k' : List Item}, exitTo id k = some k' → k'.length < k.length
  | [], _, h => by simp [exitTo] at h
  | x :: k, k', h => by
    cases x with
    | inBlock id' =>
      simp only [exitTo] at h
      by_cases e : (id' == id) = true
      · rw [if_pos e] at h; cases h; simp
      · rw [if_neg e] at h; have := exitTo_length h; simp; omega
    | _ => simp only [exitTo] at h; have := exitTo_length h; simp; omega

theorem Steps.past {P : Program} {m s m' : Machine} (h : Steps P m m') (hs : step P m = .next s) (hne : m' ≠ m) : Steps P s m' := by
  obtain ⟨n, hn⟩ := h
  cases n with
  | zero => simp [runN] at hn; exact absurd hn.symm hne
  | succ n => simp only [runN, hs] at hn; exact ⟨n, hn⟩

theorem lone_todo {fr fr' : Frame} {cs cs' : List Frame} {w w' : World} (h : lone fr cs w = lone fr' cs' w') : fr = fr' := by
  simp [lone] at h; exact h.2.1

theorem wp_loop_once {P : Program} {c : Code} {Q : Exit → Act → World → Prop} {a : Act} {w : World} (hg : ∀ l a w, ¬ Q (.goto l) a w) (ho : ∀ a w, ¬ Q .outgrown a w) (hp : ∀ ch a w, ¬ Q (.panic ch) a w)
    (h : c.wp P (Exit.then (fun a' w' => (Code.loop c).wp P Q a' w') Q) a w) : (Code.loop c).wp P Q a w := by
  intro b k cs
  obtain ⟨e, a₁, w₁, hq, harr⟩ := h b (.inLoop c :: k) cs
  cases e with
  | normal =>
    obtain ⟨e₂, a₂, w₂, hq₂, harr₂⟩ := hq b k cs
    refine ⟨e₂, a₂, w₂, hq₂, .of_steps (.one step_loop) (.of_steps harr (.of_steps (.one step_inLoop) ?_))⟩
    have hs : step P (lone (b.at a₁ (.code (.loop c) :: k)) cs w₁) = .next (lone (b.at a₁ (.code c :: .inLoop c :: k)) cs w₁) := step_loop
    cases e₂ with
    | normal => exact Steps.past harr₂ hs fun x => by have := congrArg Frame.todo (lone_todo x); simp [Frame.at] at this
    | exit id =>
      refine fun k' hk => Steps.past (harr₂ k' hk) hs fun x => ?_
      have h1 := congrArg (fun f : Frame => f.todo.length) (lone_todo x)
      have h2 := exitTo_length hk
      simp [Frame.at] at h1
      omega
    | goto l => exact absurd hq₂ (hg _ _ _)
    | ret =>
      obtain ⟨todo, hst⟩ := harr₂
      exact ⟨todo, Steps.past hst hs fun x => by have := congrArg Frame.mode (lone_todo x); simp [Frame.at] at this⟩
    | panic ch => exact absurd hq₂ (hp _ _ _)
    | outgrown => exact absurd hq₂ (ho _ _)
  | exit id => exact ⟨_, a₁, w₁, hq, .of_steps (.one step_loop) (.pass (x := .inLoop c) rfl (fun _ _ => .inl (by simp)) harr)⟩
  | goto l => exact ⟨_, a₁, w₁, hq, .of_steps (.one step_loop) (.pass (x := .inLoop c) rfl (fun _ _ => .inl (by simp)) harr)⟩
  | ret => exact ⟨_, a₁, w₁, hq, .of_steps (.one step_loop) (.pass (x := .inLoop c) rfl (fun _ _ => .inl (by simp)) harr)⟩
  | panic ch => exact ⟨_, a₁, w₁, hq, .of_steps (.one step_loop) (.pass (x := .inLoop c) rfl (fun _ _ => .inl (by simp)) harr)⟩
  | outgrown => exact ⟨_, a₁, w₁, hq, .of_steps (.one step_loop) (.pass (x := .inLoop c) rfl (fun _ _ => .inl (by simp)) harr)⟩

theorem c_loop {P : Program} {N B : Nat} {env : Env} {h : H} {Q : Exit → Env → H → Prop} {c : Code}
    (hc : CodeOK X P N B c env h (Then X P N B (.loop c) Q)) : CodeOK X P N B (.loop c) env h Q := by
  intro g w a ha hh
  refine wp_loop_once (by simp [CPost]) (by simp [CPost]) (by simp [CPost]) (wp_mono (hc g w a ha hh) ?_)
  intro e a' w' hp
  cases e <;> simp only [CPost] at hp <;> simp only [Exit.then]
  case normal =>
    obtain ⟨g', env', h', m, r, s, t⟩ := hp
    exact wp_mono (t g' w' a' r s) fun e a2 w2 hq => CPost.from m hq
  all_goals
    obtain ⟨g', env', h', m, r, s, t⟩ := hp
    exact ⟨g', env', h', m, r, s, t⟩

/-- Forgetting slots. -/
def Sub (env env' : Env) : Prop := ∀ t v, lk env' t = some v → lk env t = some v
theorem c_sub {P : Program} {N B : Nat} {env env' : Env} {h : H} {Q : Exit → Env → H → Prop} {c : Code} (hs : Sub env env')
    (hc : CodeOK X P N B c env' h Q) : CodeOK X P N B c env h Q :=
  fun g w a ha hh => hc g w a ⟨ha.size, ha.defers, fun t v x => ha.at_ t v (hs t v x)⟩ hh
theorem sub_nil {env : Env} : Sub env [] := fun _ _ h => by cases h
theorem sub_cons {env env' : Env} {t : Nat} {v : V} (h : lk env t = some v) (hs : Sub env env') : Sub env ((t, v) :: env') := by
  intro u x hx
  simp only [lk] at hx
  by_cases e : u = t
  · subst e; simp only [if_true, Option.some.injEq] at hx; subst hx; exact h
  · rw [if_neg e] at hx; exact hs u x hx

/-! ### regions -/
inductive Cls where
  | p | r | w
  deriving DecidableEq

def StepV (X : Gx) (P : Program) (o : Oper) (env : Env) (h : H) (v : V) (h' : H) : Cls → Prop
  | .p => (∀ h, OpOK X P o (ev env) h v h) ∧ h' = h
  | .r => OpOK X P o (ev env) h v h ∧ h' = h
  | .w => OpOK X P o (ev env) h v h'

def gv (ops : Array Oper) (env : Env) (j : Nat) : Option Bool :=
  match (ops[j]?).bind (·.dst) with
  | some d => match env.get d with
    | .sc (.bool b) => some b
    | _ => none
  | none => none

/-- The guard has not been carried out itself. -/
def gvOff (ops : Array Oper) (env : Env) (j : Nat) : Prop := ∃ d, (ops[j]?).bind (·.dst) = some d ∧ lk env d = some (.sc undef)

def StepOK (X : Gx) (P : Program) (ops : Array Oper) (o : Oper) (env : Env) (h : H) (v : V) (h' : H) (c : Cls) : Prop :=
  match o.guard with
  | none => StepV X P o env h v h' c
  | some (j, want) => (∃ b, gv ops env j = some b ∧ b = want ∧ StepV X P o env h v h' c) ∨ (((∃ b, gv ops env j = some b ∧ b ≠ want) ∨ gvOff ops env j) ∧ v = .sc undef ∧ h' = h)

def Run (X : Gx) (P : Program) (ops : Array Oper) : List Oper → Env → H → List Cls → (Env → H → List Cls → Prop) → Prop
  | [], env, h, acc, Q => ∃ env', Sub env env' ∧ Q env' h acc
  | o :: os, env, h, acc, Q => ∃ v h' c, StepOK X P ops o env h v h' c ∧ Run X P ops os (env.put o.dst v) h' (c :: acc) Q

def dstOK (N : Nat) (ops : Array Oper) : Bool := ops.toList.all fun o => o.dst.all (· < N)
theorem dstOK_at {N : Nat} {ops : Array Oper} (h : dstOK N ops = true) {i : Nat} {o : Oper} (hi : ops[i]? = some o) : o.dst.all (· < N) = true :=
  List.all_eq_true.1 h o (by simpa using Array.mem_of_getElem? hi)

theorem yielded_of_gv {N : Nat} {ops : Array Oper} {g : G} {env : Env} {a : Act} (ha : AR N g env a) {j : Nat} {b : Bool} (h : gv ops env j = some b) (hN : dstOK N ops = true) :
    yielded ops a.tmps j = some b := by
  unfold gv at h
  unfold yielded
  cases hd : (ops[j]?).bind (·.dst) with
  | none => rw [hd] at h; cases h
  | some d =>
    rw [hd] at h
    simp only [Option.bind_some] at h ⊢
    have hlt : d < N := by
      cases ho : ops[j]? with
      | none => rw [ho] at hd; cases hd
      | some o =>
        rw [ho] at hd
        simp only [Option.bind_some] at hd
        have := dstOK_at hN ho
        rw [hd] at this
        simpa using this
    have hg := ha.get d
    cases he : env.get d <;> rw [he] at h <;> try (cases h; done)
    rename_i v
    rw [he] at hg
    have e := hg.sc_inv
    cases v <;> simp at h
    subst h
    have hs : d < a.tmps.size := by rw [ha.size]; exact hlt
    simp only [Array.getD_eq_getD_getElem?] at e
    rw [Array.getElem?_eq_getElem hs] at e ⊢
    simp only [Option.getD_some] at e
    rw [e]

theorem yielded_of_off {N : Nat} {ops : Array Oper} {g : G} {env : Env} {a : Act} (ha : AR N g env a) {j : Nat} (h : gvOff ops env j) : yielded ops a.tmps j = none := by
  obtain ⟨d, h1, h2⟩ := h
  have := (ha.at_ d _ h2).sc_inv
  unfold yielded
  rw [h1]
  simp only [Option.bind_some]
  simp only [Array.getD_eq_getD_getElem?] at this
  cases hx : a.tmps[d]? with
  | none => rfl
  | some v => rw [hx] at this; simp only [Option.getD_some] at this; subst this; rfl

theorem wp_of_step {P : Program} {o : Oper} {N : Nat} {g : G} {env : Env} {a : Act} {h h' : H} {w : World} {v : V} {c : Cls} {K : Act → World → Prop} {Q : Exit → Act → World → Prop}
    (ha : AR N g env a) (hh : HR X g h w) (hs : StepV X P o env h v h' c) (hd : o.dst.all (· < N) = true)
    (hK : ∀ g' a' w', Mv g w g' w' → AR N g' (env.put o.dst v) a' → HR X g' h' w' → K a' w') : o.wp P a w K Q := by
  have hop : OpOK X P o (ev env) h v h' := by
    cases c with
    | p => obtain ⟨h1, rfl⟩ := hs; exact h1 h'
    | r => obtain ⟨h1, rfl⟩ := hs; exact h1
    | w => exact hs
  refine Goes.wp (hop g w a.eval (fun x _ => ha.ev x) hh) ?_
  rintro val w' ⟨g', m, hr, hv⟩
  exact hK g' _ w' m ((ha.mono m.le).put hd hv) hr

theorem wanted_none {o : Oper} {y : Nat → Option Bool} (h : o.guard = none) : Region.wanted o y = true := by simp [Region.wanted, h]
theorem wanted_some {o : Oper} {y : Nat → Option Bool} {j : Nat} {want b : Bool} (h : o.guard = some (j, want)) (hy : y j = some b) : Region.wanted o y = (b == want) := by
  simp [Region.wanted, h, hy]

theorem wpOp_of_step {P : Program} {ops : Array Oper} {i : Nat} {o : Oper} (hi : ops[i]? = some o) {N : Nat} (hN : dstOK N ops = true) {g : G} {env : Env} {a : Act} {h h' : H} {w : World} {v : V} {c : Cls}
    {K : Act → World → Prop} {Q : Exit → Act → World → Prop}
    (ha : AR N g env a) (hh : HR X g h w) (hs : StepOK X P ops o env h v h' c)
    (hK : ∀ g' a' w', Mv g w g' w' → AR N g' (env.put o.dst v) a' → HR X g' h' w' → K a' w') : wpOp P ops Q i K a w := by
  have hd : o.dst.all (· < N) = true := dstOK_at hN hi
  unfold wpOp
  simp only [hi]
  unfold StepOK at hs
  cases hgd : o.guard with
  | none =>
    rw [hgd] at hs
    rw [wanted_none hgd, if_pos rfl]
    exact .inl (wp_of_step ha hh hs hd hK)
  | some jw =>
    obtain ⟨j, want⟩ := jw
    rw [hgd] at hs
    rcases hs with ⟨b, hb, rfl, hs⟩ | ⟨hoff, rfl, rfl⟩
    · rw [wanted_some hgd (yielded_of_gv ha hb hN)]
      simp only [beq_self_eq_true, if_true]
      exact .inl (wp_of_step ha hh hs hd hK)
    · have hf : Region.wanted o (yielded ops a.tmps) = false := by
        rcases hoff with ⟨b, hb, hne⟩ | hoff
        · rw [wanted_some hgd (yielded_of_gv ha hb hN)]; simpa using hne
        · simp only [Region.wanted, hgd, yielded_of_off ha hoff]; rfl
      rw [hf]
      simp only [Bool.false_eq_true, if_false]
      exact hK g _ w (.refl g w) (ha.put hd (.sc _)) hh

theorem wpOps_of_run {P : Program} {ops : Array Oper} {N B : Nat} (hN : dstOK N ops = true) {g0 : G} {w0 : World} {Q : Exit → Env → H → Prop} :
    ∀ (os : List Oper) (i : Nat) (env : Env) (h : H) (acc : List Cls) (g : G) (w : World) (a : Act), ops.toList.drop i = os → MvB B g0 w0 g w → AR N g env a → HR X g h w →
      Run X P ops os env h acc (fun env h _ => Q .normal env h) → wpOps P ops (CPost X N B g0 w0 Q) (List.range' i os.length) a w
  | [], i, env, h, acc, g, w, a, _, hm, ha, hh, hr => by
    simp only [List.length_nil, List.range'_zero, wpOps]
    obtain ⟨env', hs, hr⟩ := hr
    exact ⟨g, env', h, hm, ⟨ha.size, ha.defers, fun t v x => ha.at_ t v (hs t v x)⟩, hh, hr⟩
  | o :: os, i, env, h, acc, g, w, a, hd, hm, ha, hh, hr => by
    obtain ⟨v, h', c, hs, hr⟩ := hr
    simp only [List.length_cons, List.range'_succ]
    rw [wpOps_cons]
    have hi : ops[i]? = some o := by
      have : (ops.toList.drop i)[0]? = some o := by rw [hd]; rfl
      simpa using this
    have hd' : ops.toList.drop (i + 1) = os := by
      have : (ops.toList.drop i).drop 1 = os := by rw [hd]; rfl
      rw [List.drop_drop] at this
      exact this
    refine wpOp_of_step hi hN ha hh hs ?_
    intro g' a' w' m ar hr'
    exact wpOps_of_run hN os (i + 1) _ _ _ g' w' a' hd' (hm.trans (m.toB B)) ar hr' hr

theorem c_region {P : Program} {N B : Nat} {env : Env} {h : H} {Q : Exit → Env → H → Prop} {id : Nat} {ops : Array Oper} (hN : dstOK N ops = true)
    (hr : Run X P ops ops.toList env h [] (fun env h _ => Q .normal env h)) : CodeOK X P N B (.region id ops false) env h Q := by
  intro g w a ha hh
  refine wp_region ?_
  have := wpOps_of_run hN ops.toList 0 env h [] g w a rfl (.refl B g w) ha hh hr
  rw [Array.length_toList, ← List.range_eq_range'] at this
  exact this

end Go.VM
