/- Names that a call has taken and that nobody needs are given back. -/
import Derived.Test.YtbngkdgmmknfjaaGreatDoorVN
namespace Go.VM
open Go
variable {X : Gx}
def G.cut (g : G) (n : Nat) : G := ⟨g.imm, fun l => if l < n then g.loc l else none, fun l => if l < n then g.mp l else none⟩
theorem G.cut_loc {g : G} {n l : Nat} (h : l < n) : (g.cut n).loc l = g.loc l := by simp only [G.cut]; rw [if_pos h]
theorem G.cut_mp {g : G} {n l : Nat} (h : l < n) : (g.cut n).mp l = g.mp l := by simp only [G.cut]; rw [if_pos h]
theorem G.cut_loc' {g : G} {n l : Nat} {x : Nat × Nat × Nat × Nat} (h : (g.cut n).loc l = some x) : g.loc l = some x := by
  simp only [G.cut] at h; split at h
  · exact h
  · cases h
theorem G.cut_mp' {g : G} {n l x : Nat} (h : (g.cut n).mp l = some x) : g.mp l = some x := by
  simp only [G.cut] at h; split at h
  · exact h
  · cases h
theorem G.cut_owns {g : G} {n b : Nat} (h : (g.cut n).owns b) : g.owns b := by
  rcases h with ⟨l, x, hx, e⟩ | ⟨l, hx⟩
  · exact .inl ⟨l, x, G.cut_loc' hx, e⟩
  · exact .inr ⟨l, G.cut_mp' hx⟩
theorem V.Low.cut {n : Nat} {W : V} (h : W.Low n) {g : G} {v : Value} (hv : VR g v W) : VR (g.cut n) v W :=
  h g _ v (fun _ _ _ x => x) (fun l x hl hx => by rw [G.cut_loc hl]; exact hx) (fun l x hl hx => by rw [G.cut_mp hl]; exact hx) hv
theorem HR.cut {g : G} {h : H} {n : Nat} {bl : List (Nat × HB)} {w : World} (hh : HR X g h w) (hl : HLow n bl) (hs : ∀ l x, lk bl l = some x → h.get l = some x) : HR X (g.cut n) ⟨n, bl⟩ w := by
  have hlow : ∀ l x, lk bl l = some x → l < n ∧ BLow n x := fun l x hx => hl _ (lk_mem hx)
  refine ⟨hh.gl, fun b hb => hh.own0 b (G.cut_owns hb), hh.n0, hh.imm, ?_, ?_, ?_, ?_, fun l hl => ⟨by simp only [G.cut]; rw [if_neg (by simpa using hl)], by simp only [G.cut]; rw [if_neg (by simpa using hl)]⟩, fun b hb => hh.owned b (G.cut_owns hb)⟩
  · intro l sz rows fz hl'
    obtain ⟨b, base, tot, cs, T, fr, a1, a2, a3, a4, a5, a6, a7, a8⟩ := hh.rows l sz rows fz (hs l _ hl')
    obtain ⟨hln, hbl⟩ := hlow l _ hl'
    refine ⟨b, base, tot, cs, T, fr, by rw [G.cut_loc hln]; exact a1, a2, a3, a4, a5, a6, ?_, a8⟩
    intro i row j c hi' hj'
    obtain ⟨v, b1, b2, b3⟩ := a7 i row j c hi' hj'
    exact ⟨v, b1, (hbl row (List.mem_of_getElem? hi') c (List.mem_of_getElem? hj')).cut b2, b3⟩
  · intro l kv hl'
    obtain ⟨r, es, clock, a1, a2, a3, a4⟩ := hh.maps l kv (hs l _ hl')
    obtain ⟨hln, hbl⟩ := hlow l _ hl'
    refine ⟨r, es, clock, by rw [G.cut_mp hln]; exact a1, a2, a3, fun i e k v e1 e2 => ?_⟩
    obtain ⟨b1, b2⟩ := hbl (k, v) (List.mem_of_getElem? e2)
    exact ⟨b1.cut (a4 i e k v e1 e2).1, b2.cut (a4 i e k v e1 e2).2⟩
  · intro l T row hl'
    obtain ⟨b, cs, a1, a2, a3, a4, a5⟩ := hh.cells l T row (hs l _ hl')
    obtain ⟨hln, hbl⟩ := hlow l _ hl'
    exact ⟨b, cs, by rw [G.cut_loc hln]; exact a1, a2, a3, fun j c hj => by obtain ⟨v, b1, b2⟩ := a4 j c hj; exact ⟨v, b1, V.Low.cut (hbl c (List.mem_of_getElem? hj)) b2⟩, a5⟩
  · intro l l' x y b hne a1 a2 a3 a4
    refine hh.apart l l' x y b hne (hs l x a1) (hs l' y a2) ?_ ?_
    · rcases a3 with ⟨z, hz, e⟩ | a3
      · exact .inl ⟨z, G.cut_loc' hz, e⟩
      · exact .inr (G.cut_mp' a3)
    · rcases a4 with ⟨z, hz, e⟩ | a4
      · exact .inl ⟨z, G.cut_loc' hz, e⟩
      · exact .inr (G.cut_mp' a4)
/-- What a call leaves may bear names of before it alone. -/
theorem call_keep {P : Program} {f : FuncId} {args : List V} {h h' : H} {r : V} {bl : List (Nat × HB)} (hc : CallOK X P f args h r h') (hr : r.Low h.next) (hl : HLow h.next bl) (hs : ∀ l x, lk bl l = some x → h'.get l = some x) :
    CallOK X P f args h r ⟨h.next, bl⟩ := by
  intro g w vs hsz hrel hh
  refine (hc g w vs hsz hrel hh).mono ?_
  rintro e w' ⟨val, rfl, g', m, hr', hv⟩
  have hlt : ∀ l, (∃ x, g.loc l = some x) ∨ (∃ x, g.mp l = some x) → l < h.next := fun l hx => by
    rcases Nat.lt_or_ge l h.next with h1 | h1
    · exact h1
    · have := hh.fresh l h1
      rcases hx with ⟨x, hx⟩ | ⟨x, hx⟩
      · rw [this.1] at hx; cases hx
      · rw [this.2] at hx; cases hx
  exact ⟨val, rfl, g'.cut h.next, ⟨⟨m.le.imm, fun l x hx => by rw [G.cut_loc (hlt l (.inl ⟨x, hx⟩))]; exact m.le.loc l x hx, fun l x hx => by rw [G.cut_mp (hlt l (.inr ⟨x, hx⟩))]; exact m.le.mp l x hx⟩,
    fun b hb => m.own b (G.cut_owns hb), m.immn, m.size, m.keep, m.os, m.out, m.tape⟩, hr'.cut hl hs, hr.cut hv⟩
/-- The same by the body: what it leaves is what was there, however many names it took. -/
theorem call_of_keep {P : Program} {f : FuncId} {fn : Func} {c : Code} {args : List V} {h : H} {bl : List (Nat × HB)} {r : V} (hfn : P.funcs[f]? = some fn) (hb : fn.body = some c) (hlen : args.length ≤ fn.ntmps) (hr : r.Low h.next) (hl : HLow h.next bl)
    (n : Nat) (hc : CodeOK X P fn.ntmps h.next c (argEnv 0 args) h (RPost X P fn r ⟨n, bl⟩)) : CallOK X P f args h r ⟨h.next, bl⟩ :=
  call_keep (call_of hfn hb hlen hc) hr hl (fun _ _ x => x)
end Go.VM
