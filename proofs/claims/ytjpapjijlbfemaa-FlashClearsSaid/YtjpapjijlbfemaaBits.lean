/- Plain words on texts' bits, as texts: no Go, no program. -/
import Derived.Test.YtjpapjijlbfemaaPlain
namespace Go.Proofs.Ytjpapjijlbfemaa

def andT (a b : ByteArray) : ByteArray := bs (mixL andB a.data.toList b.data.toList)
def orT (a b : ByteArray) : ByteArray := bs (mixL orB a.data.toList b.data.toList)
def xorT (a b : ByteArray) : ByteArray := bs (mixL xorB a.data.toList b.data.toList)
def notT (a : ByteArray) : ByteArray := bs (notL a.data.toList)
def onesT (n : Nat) : ByteArray := bs (List.replicate n 255)
def zerosT (n : Nat) : ByteArray := bs (List.replicate n 0)
theorem andT_size (a b : ByteArray) : (andT a b).size = a.size := by rw [andT, bs_size, mixL_length, toList_length]
theorem orT_size (a b : ByteArray) : (orT a b).size = a.size := by rw [orT, bs_size, mixL_length, toList_length]
theorem xorT_size (a b : ByteArray) : (xorT a b).size = a.size := by rw [xorT, bs_size, mixL_length, toList_length]
theorem notL_length (a : List UInt8) : (notL a).length = a.length := by rw [notL_map, List.length_map]
theorem notT_size (a : ByteArray) : (notT a).size = a.size := by rw [notT, bs_size, notL_length, toList_length]
theorem onesT_size (n : Nat) : (onesT n).size = n := by rw [onesT, bs_size, List.length_replicate]
theorem zerosT_size (n : Nat) : (zerosT n).size = n := by rw [zerosT, bs_size, List.length_replicate]

theorem u8x {x y : UInt8} (h : ∀ i (hi : i < 8), x.toBitVec[i] = y.toBitVec[i]) : x = y := UInt8.eq_of_toBitVec_eq (BitVec.eq_of_getElem_eq fun i hi => h i hi)

/-! ### Place by place -/
/-- What stands at place i of a mix. -/
theorem mixL_getElem? {f : UInt8 → UInt8 → UInt8} (a b : List UInt8) (i : Nat) : (mixL f a b)[i]? = (match a[i]?, b[i]? with | some x, some y => some (f x y) | some x, none => some x | none, _ => none) := by
  induction a generalizing b i with
  | nil => rw [mixL_nil_left]; simp
  | cons x a ih =>
    cases b with
    | nil =>
      rw [mixL_nil]
      cases h : (x :: a)[i]? <;> simp
    | cons y b =>
      rw [mixL_cons]
      cases i with
      | zero => simp
      | succ i => simpa using ih b i

theorem mixL_all {f : UInt8 → UInt8 → UInt8} {a b c : List UInt8} (hl : c.length = a.length) (h : ∀ i (ha : i < a.length) (hc : i < c.length), c[i] = match b[i]? with | some y => f a[i] y | none => a[i]) : mixL f a b = c := by
  apply List.ext_getElem?
  intro i
  rw [mixL_getElem?]
  by_cases hi : i < a.length
  · have hc : i < c.length := by omega
    rw [List.getElem?_eq_getElem hi, List.getElem?_eq_getElem hc, h i hi hc]
    cases b[i]? <;> rfl
  · have h1 := List.getElem?_eq_none (Nat.le_of_not_lt hi)
    have h2 : c[i]? = none := List.getElem?_eq_none (by rw [hl]; exact Nat.le_of_not_lt hi)
    rw [h1, h2]

/-- What is mixed with more that stands for nothing is the same. -/
theorem mixL_pad {f : UInt8 → UInt8 → UInt8} (u : UInt8) (hu : ∀ x, f x u = x) (a b : List UInt8) (k : Nat) : mixL f a (b ++ List.replicate k u) = mixL f a b := by
  induction a generalizing b with
  | nil => rw [mixL_nil_left, mixL_nil_left]
  | cons x a ih =>
    cases b with
    | nil =>
      rw [mixL_nil, List.nil_append]
      clear ih
      induction k generalizing x a with
      | zero => rfl
      | succ k ihk =>
        rw [List.replicate_succ, mixL_cons, hu]
        cases a with
        | nil => rw [mixL_nil_left]
        | cons y a => rw [ihk]
    | cons y b => rw [List.cons_append, mixL_cons, mixL_cons, ih]
/-- A mix of more that swallows is that more. -/
theorem mixL_swallow {f : UInt8 → UInt8 → UInt8} (u : UInt8) (hu : ∀ x, f u x = u) : ∀ (a b : List UInt8) (k : Nat), mixL f (a ++ List.replicate k u) b = mixL f a b ++ List.replicate k u
  | [], b, k => by
    rw [mixL_nil_left, List.nil_append]
    show mixL f (List.replicate k u) b = List.replicate k u
    induction k generalizing b with
    | zero => exact mixL_nil_left f b
    | succ k ih =>
      cases b with
      | nil => rw [mixL_nil]
      | cons y b => rw [List.replicate_succ, mixL_cons, hu, ih]
  | x :: a, [], k => by rw [mixL_nil, mixL_nil]
  | x :: a, y :: b, k => by rw [List.cons_append, mixL_cons, mixL_cons, List.cons_append, mixL_swallow u hu a b k]

theorem andB_ones (x : UInt8) : andB x 255 = x := by
  have h : ∀ c : Fin 256, andB (UInt8.ofNat c.val) 255 = UInt8.ofNat c.val := by decide +kernel
  have := h ⟨x.toNat, x.toNat_lt⟩
  simpa using this
theorem orB_ones (x : UInt8) : orB 255 x = 255 := by
  have h : ∀ c : Fin 256, orB 255 (UInt8.ofNat c.val) = 255 := by decide +kernel
  have := h ⟨x.toNat, x.toNat_lt⟩
  simpa using this

end Go.Proofs.Ytjpapjijlbfemaa
