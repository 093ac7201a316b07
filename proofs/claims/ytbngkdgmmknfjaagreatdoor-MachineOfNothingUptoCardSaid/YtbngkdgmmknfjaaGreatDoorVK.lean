/- From the reading of a call's arguments to values as trees; from what a law answers to its row's statement. -/
import Derived.Test.YtbngkdgmmknfjaaGreatDoorVJ
import Derived.Test.YtbngkdgmmknfjaaGreatDoorRows
import Derived.Carry
import Derived.RowKit
import Derived.ChangeSame
import Derived.ChangeArms
import Derived.Deep.Slices
import Derived.Deep.DeepHandedRow
namespace Go.VM
open Go Go.ChangeShapes Go.RowKit

/-- All cells of the world at the call are taken for immutable. -/
def gW (W : World) : G := ⟨fun b k => W.cell? ⟨b, k, none⟩, fun _ => none, fun _ => none⟩
theorem gW_owns (W : World) (b : Nat) : ¬ (gW W).owns b := by rintro (⟨l, x, hx, _⟩ | ⟨l, hx⟩) <;> cases hx
theorem hr_start {X : Gx} {W : World} (hf : X.f W) (hn : X.n ≤ W.heap.size) : HR X (gW W) H.none W :=
  ⟨hf, fun b hb => absurd hb (gW_owns W b), hn, fun _ _ _ h => h, fun l sz rows fz hl => by simp [H.none, H.get, lk] at hl, fun l kv hl => by simp [H.none, H.get, lk] at hl, fun l T row hl => by simp [H.none, H.get, lk] at hl,
    fun l l' x y b _ hl => by simp [H.none, H.get, lk] at hl, fun _ _ => ⟨rfl, rfl⟩, fun b hb => absurd hb (gW_owns W b)⟩
theorem below_of {g' : G} {W W' : World} (m : Mv (gW W) W g' W') : Below W.heap.size W W' :=
  ⟨m.os, m.tape, m.out, m.size, fun k hk => m.keep k hk (gW_owns W k)⟩

/-- A law that answers true. -/
theorem law_run {X : Gx} {P : Program} {f : FuncId} {Vs : List V} {W : World} {args : Array Value} (h : PureOK X P f Vs (.sc (.bool true))) (hsz : args.size = Vs.length)
    (hrel : ∀ (i : Nat) v V, args[i]? = some v → Vs[i]? = some V → VR (gW W) v V) (hf : X.f W) (hn : X.n ≤ W.heap.size) :
    Calls P f args W fun e W' => e = .returned (.bool true) ∧ Below W.heap.size W W' := by
  refine (h H.none (gW W) W args hsz hrel (hr_start hf hn)).mono ?_
  rintro e W' ⟨val, rfl, g', m, _, hv⟩
  rw [hv.sc_inv]
  exact ⟨rfl, below_of m⟩

section
variable {H : Type} {enc : TypeId × Value → H} {P : Program}

theorem trodAll_below (hl : laidOutB P = true) {W W' : World} (hb : Below W.heap.size W W') : ∀ {ts : List TypeId} {vs : List Value} {ds : List (DataW H)} {ps : List MemPlace},
    DataW.TrodAll enc P W 0 (fun _ => true) true ts vs ds ps → ts.all (fun t => P.readableRec t && decide (t < P.types.size)) = true → (∀ x ∈ ps, x.block < W.heap.size) →
      DataW.TrodAll enc P W' 0 (fun b => decide (b < W.heap.size)) true ts vs ds ps
  | [], _, _, _, h, _, _ => by
    obtain ⟨rfl, rfl, rfl⟩ := trodAll_nil h
    exact trodAll_mk0
  | t :: ts, _, _, _, h, hr, hlt => by
    obtain ⟨v, vs, d, ds, p, q, rfl, rfl, rfl, h1, h2⟩ := trodAll_cons h
    simp only [List.all_cons, Bool.and_eq_true, decide_eq_true_eq] at hr
    exact ⟨p, q, Below.trod hl hr.1.1 hr.1.2 h1 hb (fun x hx => hlt x (List.mem_append_left _ hx)), trodAll_below hl hb h2 hr.2 (fun x hx => hlt x (List.mem_append_right _ hx)), rfl⟩

/-- What a law's row asks behind the call. -/
theorem law_post {fn : Func} {s : ChangeSpec} {W W' : World} {args : Array Value} {ds gs : List (DataW H)} {before : List MemPlace} {bt : TypeId}
    (hl : laidOutB P = true) (hpr : fn.params.toList.all (fun t => P.readableRec t && decide (t < P.types.size)) = true) (hrt : fn.resultTypes = #[bt]) (hbt : P.underlying bt = some .bool) (hv : s.vars = [])
    (hW : DataW.Whole enc P fn.params.toList s.vars false W args.toList ds gs before) (hfn : s.fn H ds = { results := [.lit (.bool true)], args := ds }) (hb : Below W.heap.size W W') :
    s.post enc P fn false true false false W args (.bool true) W' := by
  have hW' := hW
  obtain ⟨p, q, hA, hV, rfl, _, _⟩ := hW'
  rw [hv] at hV
  obtain ⟨rfl, rfl⟩ := trodVars_none hV
  have hlt : ∀ x ∈ p, x.block < W.heap.size := fun x hx => by simpa using hW.lt x (List.mem_append_left _ hx)
  refine ⟨ds, [], p ++ [], [], p, [], hW, ?_, ?_, ?_, Below.frame hb _, fun h => by cases h⟩
  · rw [List.append_nil, hfn, hrt]
    exact trodAll_mk1 (shut_bool hbt _)
  · rw [List.append_nil, hfn]
    exact trodAll_below hl hb hA hpr hlt
  · rw [List.append_nil, hfn, hv]
    rfl
end

/-! ### readings -/
section
open Go.Proofs.YtbngkdgmmknfjaaGreatDoor

def Bulk {H : Type} (d : DataW H) : Nat := Rows.uptoBulk d
def BulkAll {H : Type} (d : List (DataW H)) : Nat := Rows.uptoBulkAll d
abbrev big : Nat := 1048576

theorem bulk_agg {H : Type} (l : List (DataW H)) : Bulk (.agg l) = BulkAll l + 1 := by simp [Bulk, BulkAll, Rows.uptoBulk]
theorem bulk_slice {H : Type} (l s : List (DataW H)) : Bulk (.slice l s) = BulkAll l + BulkAll s + 1 := by simp [Bulk, BulkAll, Rows.uptoBulk]
theorem bulk_str {H : Type} (b : List UInt8) : Bulk (DataW.lit (H := H) (.string b)) = b.length + 1 := by simp [Bulk, Rows.uptoBulk]
theorem bulk_pos {H : Type} (d : DataW H) : 1 ≤ Bulk d := by
  unfold Bulk
  cases d with
  | lit l => cases l <;> simp [Rows.uptoBulk]
  | nil => simp [Rows.uptoBulk]
  | ptr d => simp [Rows.uptoBulk]
  | slice elems spare => simp [Rows.uptoBulk]
  | agg parts => simp [Rows.uptoBulk]
  | iface t d => simp [Rows.uptoBulk]
  | map entries => simp [Rows.uptoBulk]
  | held h => simp [Rows.uptoBulk]
theorem bulk_part {H : Type} {d : DataW H} {l : List (DataW H)} (h : d ∈ l) : Bulk d ≤ BulkAll l := by
  unfold Bulk BulkAll
  induction l with
  | nil => cases h
  | cons x r ih =>
    simp only [Rows.uptoBulkAll]
    cases List.mem_cons.1 h with
    | inl e => subst e; omega
    | inr e => have := ih e; omega
theorem bulk_len {H : Type} (l : List (DataW H)) : l.length ≤ BulkAll l := by
  induction l with
  | nil => simp
  | cons x r ih =>
    have h1 := bulk_pos x
    unfold Bulk at h1
    unfold BulkAll at ih ⊢
    simp only [Rows.uptoBulkAll, List.length_cons]; omega

theorem bulk_fit {H : Type} {l : List (DataW H)} (hk : Rows.uptoSmall H l = true) : BulkAll l ≤ big := by simpa [Rows.uptoSmall, BulkAll] using hk

/-- The cells of a type, read: a tree's row. -/
def Rd (P : Program) (t : TypeId) (sz : Nat) {α : Type} (row : α → List V) (ok : α → Prop) : Prop :=
  P.cellsOf t = sz ∧ ∀ {H : Type} (enc : TypeId × Value → H) (W : World) (fuel : Nat) (cs : List Value) (x : DataW H × List MemPlace),
    DataW.trod enc P W 0 (fun _ => true) true fuel t cs = some x → Bulk x.1 ≤ big → ∃ a, ok a ∧ cs.length = sz ∧ (row a).length = sz ∧ ∀ (j : Nat) c v, cs[j]? = some c → (row a)[j]? = some v → VR (gW W) c v

theorem Rd.map {P : Program} {t : TypeId} {sz : Nat} {α β : Type} {row : α → List V} {ok : α → Prop} {row' : β → List V} {ok' : β → Prop} (h : Rd P t sz row ok) (φ : α → β) (hr : ∀ a, row' (φ a) = row a) (hk : ∀ a, ok a → ok' (φ a)) :
    Rd P t sz row' ok' :=
  ⟨h.1, fun enc W fuel cs x hx hb => by
    obtain ⟨a, h1, h2, h3, h4⟩ := h.2 enc W fuel cs x hx hb
    exact ⟨φ a, hk a h1, h2, by rw [hr]; exact h3, fun j c v a1 a2 => h4 j c v a1 (by rw [hr] at a2; exact a2)⟩⟩

theorem Rd.one {P : Program} {t : TypeId} {α : Type} {val : α → Value} {ok : α → Prop} (hc : P.cellsOf t = 1)
    (h : ∀ {H : Type} (enc : TypeId × Value → H) (W : World) (fuel : Nat) (cs : List Value) (x : DataW H × List MemPlace), DataW.trod enc P W 0 (fun _ => true) true fuel t cs = some x → Bulk x.1 ≤ big → ∃ a, ok a ∧ cs = [val a]) :
    Rd P t 1 (fun a => [V.sc (val a)]) ok :=
  ⟨hc, fun enc W fuel cs x hx hb => by
    obtain ⟨a, h1, rfl⟩ := h enc W fuel cs x hx hb
    refine ⟨a, h1, rfl, rfl, fun j c v a1 a2 => ?_⟩
    match j, a1, a2 with
    | 0, a1, a2 =>
      simp only [List.getElem?_cons_zero, Option.some.injEq] at a1 a2
      subst a1; subst a2
      exact .sc _
    | j + 1, a1, a2 => simp at a1⟩

theorem Rd.int {P : Program} {t : TypeId} {k : IntKind} (ht : P.underlying t = some (.int k)) (hc : P.cellsOf t = 1) : Rd P t 1 (fun n : Int => [V.sc (.int k n)]) (fun n => (Lit.int k n).wf = true) :=
  Rd.one hc fun enc W fuel cs x hx _ => by
    cases fuel with
    | zero => simp [DataW.trod] at hx
    | succ m =>
      unfold DataW.trod at hx
      rw [ht] at hx
      split at hx <;> simp_all
theorem Rd.bool {P : Program} {t : TypeId} (ht : P.underlying t = some .bool) (hc : P.cellsOf t = 1) : Rd P t 1 (fun n : Bool => [V.sc (.bool n)]) (fun _ => True) :=
  Rd.one hc fun enc W fuel cs x hx _ => by
    cases fuel with
    | zero => simp [DataW.trod] at hx
    | succ m =>
      unfold DataW.trod at hx
      rw [ht] at hx
      split at hx <;> simp_all
theorem Rd.str {P : Program} {t : TypeId} (ht : P.underlying t = some .string) (hc : P.cellsOf t = 1) : Rd P t 1 (fun s : List UInt8 => [V.sc (.string (bs s))]) (fun s => s.length ≤ big) :=
  Rd.one (val := fun s => .string (bs s)) hc fun enc W fuel cs x hx hb => by
    cases fuel with
    | zero => simp [DataW.trod] at hx
    | succ m =>
      unfold DataW.trod at hx
      rw [ht] at hx
      split at hx <;> try simp_all
      rename_i s
      obtain ⟨_, rfl⟩ := hx
      rw [bulk_str] at hb
      exact ⟨s.data.toList, by omega, by simp [bs]⟩

theorem build_list {α : Type} {p : Nat → α → Prop} : ∀ (n : Nat), (∀ i, i < n → ∃ a, p i a) → ∃ l : List α, l.length = n ∧ ∀ (i : Nat) a, l[i]? = some a → p i a
  | 0, _ => ⟨[], rfl, by simp⟩
  | n + 1, h => by
    obtain ⟨l, h1, h2⟩ := build_list n (fun i hi => h i (by omega))
    obtain ⟨a, ha⟩ := h n (by omega)
    refine ⟨l ++ [a], by simp [h1], fun i b hb => ?_⟩
    by_cases hi : i < n
    · rw [List.getElem?_append_left (by omega)] at hb
      exact h2 i b hb
    · rw [List.getElem?_append_right (by omega)] at hb
      have : i = n := by
        have := (List.getElem?_eq_some_iff.1 hb).1
        simp at this; omega
      subst this
      simp [h1] at hb
      subst hb; exact ha

theorem cells_at {W : World} {base n : Nat} {a : Addr} {cs : List Value} (h : W.cells? base a n = some cs) : cs.length = n ∧ ∀ j c, cs[j]? = some c → W.cell? (a.add j) = some c := by
  unfold World.cells? at h
  split at h
  · refine ⟨by simpa using mapM_some_length h, fun j c hj => ?_⟩
    have hlt : j < n := by
      have := (List.getElem?_eq_some_iff.1 hj).1
      rw [mapM_some_length h] at this
      simpa using this
    have := mapM_some_get h j j (by simp [hlt])
    rw [this, hj]
  · cases h

theorem Rd.slice {P : Program} {t e : TypeId} {sz : Nat} {α : Type} {row : α → List V} {ok : α → Prop} (ht : P.underlying t = some (.slice e)) (hc : P.cellsOf t = 1) (he : Rd P e sz row ok) (hpos : 0 < sz) :
    Rd P t 1 (fun l : List α => [V.lst sz false (l.map row)]) (fun l => l.length ≤ big ∧ ∀ a ∈ l, ok a) := by
  refine ⟨hc, fun enc W fuel cs x hx hb => ?_⟩
  have one : ∀ {v : Value} {l : List α}, VR (gW W) v (.lst sz false (l.map row)) → ∀ (j : Nat) c u, [v][j]? = some c → [V.lst sz false (l.map row)][j]? = some u → VR (gW W) c u := by
    intro v l hv j c u a1 a2
    match j, a1, a2 with
    | 0, a1, a2 =>
      simp only [List.getElem?_cons_zero, Option.some.injEq] at a1 a2
      subst a1; subst a2
      exact hv
    | j + 1, a1, a2 => simp at a1
  rcases Go.Deep.open_slice ht hx with ⟨rfl, rfl⟩ | ⟨a, len, cap, m, n, D, Pl, rfl, _, hlc, _, hm, rfl, hel⟩
  · exact ⟨[], ⟨by simp, by simp⟩, rfl, rfl, one (l := []) (.nil _ _ _)⟩
  · simp only [if_true] at hm
    subst hm
    rw [bulk_slice] at hb
    have hlen : len ≤ big := by
      have := bulk_len ((List.range len).map D)
      simp at this
      omega
    rw [he.1] at hel
    have hget : ∀ i, i < len → ∃ b, ok b ∧ (row b).length = sz ∧ ∀ j v, (row b)[j]? = some v → ∃ c, W.cell? ((a.add (i * sz)).add j) = some c ∧ VR (gW W) c v := by
      intro i hi
      obtain ⟨cs', h1, h2⟩ := hel i (by omega)
      have hbi : Bulk (D i) ≤ big := by
        have := bulk_part (d := D i) (l := (List.range len).map D) (List.mem_map.2 ⟨i, by simpa using hi, rfl⟩)
        omega
      obtain ⟨b, k1, k2, k3, k4⟩ := he.2 enc W _ cs' _ h2 hbi
      obtain ⟨q1, q2⟩ := cells_at h1
      refine ⟨b, k1, k3, fun j v hj => ?_⟩
      have hlt : j < cs'.length := by
        have := (List.getElem?_eq_some_iff.1 hj).1
        omega
      exact ⟨cs'[j], q2 j _ (List.getElem?_eq_getElem hlt), k4 j _ v (List.getElem?_eq_getElem hlt) hj⟩
    obtain ⟨l, hl, hall⟩ := build_list len hget
    refine ⟨l, ⟨by omega, fun b hb' => ?_⟩, rfl, rfl, one ?_⟩
    · obtain ⟨i, hi⟩ := List.mem_iff_getElem?.1 hb'
      exact (hall i b hi).1
    · by_cases hc0 : m = 0
      · have : len = 0 := by omega
        subst this; subst hc0
        have : l = [] := List.length_eq_zero_iff.1 hl
        subst this
        exact .nil _ _ _
      · obtain ⟨cs', h1, _⟩ := hel 0 (by omega)
        obtain ⟨q1, q2⟩ := cells_at h1
        have hs : a.spot = none := by
          have := q2 0 cs'[0] (List.getElem?_eq_getElem (by omega))
          have := World.cell?_spot this
          simpa [Addr.add] using this
        obtain ⟨b, o, spot⟩ := a
        simp only at hs
        subst hs
        refine .lst b o len m sz false _ (fun i j => (W.cell? ⟨b, o + i * sz + j, none⟩).getD undef) (by simp [hl]) hlc (by simp) ?_ ?_ ?_
        · intro i r hr
          rw [List.getElem?_map] at hr
          cases hli : l[i]? with
          | none => simp [hli] at hr
          | some y => simp [hli] at hr; subst hr; exact (hall i y hli).2.1
        · intro i r j c hr hj
          rw [List.getElem?_map] at hr
          cases hli : l[i]? with
          | none => simp [hli] at hr
          | some y =>
            simp [hli] at hr; subst hr
            obtain ⟨u, h1, _⟩ := (hall i y hli).2.2 j c hj
            have h1' : W.cell? ⟨b, o + i * sz + j, none⟩ = some u := by rw [add_none, add_none] at h1; exact h1
            simp [gW, h1']
        · intro i r j c hr hj
          rw [List.getElem?_map] at hr
          cases hli : l[i]? with
          | none => simp [hli] at hr
          | some y =>
            simp [hli] at hr; subst hr
            obtain ⟨u, h1, h2⟩ := (hall i y hli).2.2 j c hj
            have h1' : W.cell? ⟨b, o + i * sz + j, none⟩ = some u := by rw [add_none, add_none] at h1; exact h1
            simpa [h1'] using h2

/-- The fields from an offset on. -/
def RdF (P : Program) (off : Nat) (fs : List Field) (sz : Nat) {α : Type} (row : α → List V) (ok : α → Prop) : Prop :=
  ∀ (H : Type) (enc : TypeId × Value → H) (W : World) (fuel : Nat) (cs : List Value), off + sz = cs.length →
    (∀ f ∈ fs, ∃ y : DataW H × List MemPlace, DataW.trod enc P W 0 (fun _ => true) true fuel f.type ((cs.drop f.offset).take (P.cellsOf f.type)) = some y ∧ Bulk y.1 ≤ big) →
      ∃ a, ok a ∧ (row a).length = sz ∧ ∀ (j : Nat) c v, cs[off + j]? = some c → (row a)[j]? = some v → VR (gW W) c v

theorem RdF.nil {P : Program} {off : Nat} : RdF P off [] 0 (fun _ : Unit => []) (fun _ => True) := fun _ _ _ _ _ _ _ => ⟨(), trivial, rfl, by simp⟩
theorem RdF.cons {P : Program} {off s1 s2 : Nat} {f : Field} {fs : List Field} {α β : Type} {row : α → List V} {ok : α → Prop} {row' : β → List V} {ok' : β → Prop} (hoff : f.offset = off) (h1 : Rd P f.type s1 row ok)
    (h2 : RdF P (off + s1) fs s2 row' ok') : RdF P off (f :: fs) (s1 + s2) (fun x : α × β => row x.1 ++ row' x.2) (fun x => ok x.1 ∧ ok' x.2) := by
  intro H enc W fuel cs hlen hf
  obtain ⟨y, hy, hb⟩ := hf f List.mem_cons_self
  obtain ⟨a, k1, k2, k3, k4⟩ := h1.2 enc W fuel _ y hy hb
  obtain ⟨b, q1, q2, q3⟩ := h2 H enc W fuel cs (by omega) (fun f' hf' => hf f' (List.mem_cons_of_mem _ hf'))
  refine ⟨(a, b), ⟨k1, q1⟩, by simp [k3, q2], fun j c v a1 a2 => ?_⟩
  rw [h1.1, hoff] at k2 k4
  have a2 : (row a ++ row' b)[j]? = some v := a2
  by_cases hj : j < s1
  · rw [List.getElem?_append_left (by omega)] at a2
    refine k4 j c v ?_ a2
    rw [List.getElem?_take_of_lt hj, List.getElem?_drop]
    exact a1
  · rw [List.getElem?_append_right (by omega)] at a2
    refine q3 (j - s1) c v ?_ (by rw [k3] at a2; exact a2)
    rw [← a1]; congr 1; omega
theorem Rd.struct {P : Program} {t : TypeId} {fs : List Field} {sz : Nat} {α : Type} {row : α → List V} {ok : α → Prop} (ht : P.underlying t = some (.struct fs.toArray)) (hc : P.cellsOf t = sz) (h : RdF P 0 fs sz row ok) : Rd P t sz row ok := by
  refine ⟨hc, fun enc W fuel cs x hx hb => ?_⟩
  obtain ⟨xs, n, rfl, rfl, hl, hxl, hget⟩ := DataW.trod_struct ht hx
  rw [hc] at hl
  rw [bulk_agg] at hb
  obtain ⟨a, h1, h2, h3⟩ := h _ enc W n cs (by omega) (fun f hf => by
    obtain ⟨i, hi⟩ := List.mem_iff_getElem?.1 hf
    have := hget i f (by simpa using hi)
    have hlt : i < xs.length := by
      have := (List.getElem?_eq_some_iff.1 hi).1
      simp at hxl; omega
    refine ⟨xs[i], by rw [this, List.getElem?_eq_getElem hlt], ?_⟩
    have := bulk_part (d := xs[i].1) (l := xs.map (·.1)) (List.mem_map.2 ⟨_, List.getElem_mem hlt, rfl⟩)
    omega)
  exact ⟨a, h1, hl, h2, fun j c v a1 a2 => h3 j c v (by simpa using a1) a2⟩
end
end Go.VM
