/- Strings as lists of bytes. -/
import Derived.Test.YtbngkdgmmknfjaaGreatDoorVG
namespace Go.VM
open Go
variable {X : Gx}

def bs (l : List UInt8) : ByteArray := ⟨l.toArray⟩
theorem len_data (b : ByteArray) : b.data.toList.length = b.size := Array.length_toList
theorem toList_loop (b : ByteArray) : ∀ (d i : Nat) (r : List UInt8), b.size - i = d → ByteArray.toList.loop b i r = r.reverse ++ b.data.toList.drop i
  | 0, i, r, h => by
    unfold ByteArray.toList.loop
    rw [if_neg (by omega)]
    have : b.data.toList.drop i = [] := by
      rw [List.drop_eq_nil_iff, len_data]; omega
    rw [this, List.append_nil]
  | d + 1, i, r, h => by
    unfold ByteArray.toList.loop
    have hi : i < b.size := by omega
    rw [if_pos hi, toList_loop b d (i + 1) _ (by omega)]
    have hl : i < b.data.toList.length := by rw [len_data]; exact hi
    rw [List.drop_eq_getElem_cons hl]
    have : b.get! i = b.data.toList[i] := by
      have h2 : i < b.data.size := by rw [← Array.length_toList]; exact hl
      show b.data[i]! = _
      rw [getElem!_pos b.data i h2, Array.getElem_toList]
    rw [this]
    simp
theorem toList_bs (l : List UInt8) : (bs l).toList = l := by
  unfold ByteArray.toList
  rw [toList_loop _ _ _ _ rfl]
  simp [bs]
theorem bs_size (l : List UInt8) : (bs l).size = l.length := by
  show (List.toArray l).size = l.length
  simp
theorem bs_append (a b : List UInt8) : bs a ++ bs b = bs (a ++ b) := by
  apply ByteArray.ext
  simp [bs, ByteArray.data_append]
theorem bs_extract (a : List UInt8) (l m : Nat) : (bs a).extract l m = bs ((a.take m).drop l) := by
  apply ByteArray.ext
  simp [bs, ByteArray.data_extract]
  rw [List.drop_take]
theorem bs_get (a : List UInt8) (i : Nat) : (bs a)[i]? = a[i]? := by
  by_cases h : i < a.length
  · rw [List.getElem?_eq_getElem h]
    have h2 : i < (bs a).size := by rw [bs_size]; exact h
    rw [getElem?_pos (bs a) i h2]
    congr 1
  · rw [List.getElem?_eq_none (by omega), getElem?_neg (bs a) i (by rw [bs_size]; exact h)]
theorem bs_data (s : ByteArray) : bs s.data.toList = s := by simp [bs]

section rules
variable {P : Program} {o : Oper} {env : Env} {h : H}
theorem s_stre {T T' : TypeId} {x y : Operand} {a b : List UInt8} (ho : o.op = .binOp .eql T x y T') (hx : evo env x = some (.sc (.string (bs a)))) (hy : evo env y = some (.sc (.string (bs b)))) : StepV X P o env h (.sc (.bool (a == b))) h .p := by
  have := s_str (X := X) (P := P) (h := h) ho hx hy rfl
  rwa [toList_bs, toList_bs] at this
theorem s_strn {T T' : TypeId} {x y : Operand} {a b : List UInt8} (ho : o.op = .binOp .neq T x y T') (hx : evo env x = some (.sc (.string (bs a)))) (hy : evo env y = some (.sc (.string (bs b)))) : StepV X P o env h (.sc (.bool (!(a == b)))) h .p := by
  have := s_str (X := X) (P := P) (h := h) ho hx hy rfl
  rwa [toList_bs, toList_bs] at this
theorem s_catb {T T' : TypeId} {x y : Operand} {a b : List UInt8} (ho : o.op = .binOp .add T x y T') (hx : evo env x = some (.sc (.string (bs a)))) (hy : evo env y = some (.sc (.string (bs b))))
    (hr : a.length + b.length < 9223372036854775808) : StepV X P o env h (.sc (.string (bs (a ++ b)))) h .p := by
  have := s_cat (X := X) (P := P) (h := h) ho hx hy (by rw [bs_size, bs_size]; exact hr)
  rwa [bs_append] at this
theorem s_lenb {T : TypeId} {x : Operand} {s : List UInt8} (ho : o.op = .call { callee := .builtin .len, args := #[x], argTypes := #[T] }) (hu : ∀ w, (underlying T).run P w = .ok .string w)
    (hx : evo env x = some (.sc (.string (bs s)))) : StepV X P o env h (.sc (.int .i64 s.length)) h .p := by
  have := s_lens (X := X) (P := P) (h := h) ho hu hx
  rwa [bs_size] at this
theorem s_byteb {T : TypeId} {x y : Operand} {k : IntKind} {n : Int} {s : List UInt8} {b : UInt8} (ho : o.op = .index T x y) (hu : ∀ w, (underlying T).run P w = .ok .string w)
    (hx : evo env x = some (.sc (.string (bs s)))) (hy : evo env y = some (.sc (.int k n))) (h0 : 0 ≤ n) (hb : s[n.toNat]? = some b) : StepV X P o env h (.sc (.int .u8 b.toNat)) h .p :=
  s_byte ho hu hx hy h0 (by rw [bs_get]; exact hb)
theorem s_cutb {T : TypeId} {x : Operand} {lo hi : Option Operand} {s : List UInt8} {l m : Nat} (ho : o.op = .slice T x lo hi none) (hu : ∀ w, (underlying T).run P w = .ok .string w)
    (hx : evo env x = some (.sc (.string (bs s)))) (hm : bnd env s.length hi = some m) (hl : bnd env 0 lo = some l) (h1 : l ≤ m) (h2 : m ≤ s.length) : StepV X P o env h (.sc (.string (bs ((s.take m).drop l)))) h .p := by
  have := s_cut (X := X) (P := P) (h := h) ho hu hx (by rw [bs_size]; exact hm) hl h1 (by rw [bs_size]; exact h2)
  rwa [bs_extract] at this

/-- '==' on structs whose cells are scalars, out of what the model's comparison comes to. -/
def scs : List Value → List V := fun l => l.map V.sc
theorem agg_scs {g : G} {v : Value} {l : List Value} (h : VR g v (.agg (scs l))) : v = .agg l.toArray := by
  cases h with
  | agg cs _ h1 h2 =>
    congr 1
    apply Array.ext'
    apply List.ext_getElem?
    intro i
    simp only [scs, List.length_map] at h1
    by_cases hi : i < l.length
    · have hc : i < cs.size := by omega
      have := (h2 i cs[i] (.sc l[i]) (Array.getElem?_eq_getElem hc) (by simp [scs, List.getElem?_eq_getElem hi])).sc_inv
      simp [hc, hi, this]
    · simp [List.getElem?_eq_none (Nat.le_of_not_lt hi), Array.getElem?_eq_none (show cs.size ≤ i by omega)]
theorem s_eqs {T T' : TypeId} {op : BinOp} {x y : Operand} {a b : List Value} {r : Bool} (hrun : ∀ w, (do eqGuard op T x y (.agg a.toArray) (.agg b.toArray); binOp op T (.agg a.toArray) (.agg b.toArray) : Sem Value).run P w = .ok (.bool r) w)
    (ho : o.op = .binOp op T x y T') (hx : evo env x = some (.agg (scs a))) (hy : evo env y = some (.agg (scs b))) : StepV X P o env h (.sc (.bool r)) h .p := by
  refine s_pure fun g w e he => ?_
  have h1 := he x (by rw [ho]; simp [Op.operands])
  have h2 := he y (by rw [ho]; simp [Op.operands])
  rw [ev_of hx] at h1
  rw [ev_of hy] at h2
  refine ⟨.bool r, ?_, .sc _⟩
  have h3 := hrun w
  simp only [execOp, ho, agg_scs h1, agg_scs h2]
  simp only [Sem.run_bind] at h3 ⊢
  rw [h3]
  simp
end rules
end Go.VM
