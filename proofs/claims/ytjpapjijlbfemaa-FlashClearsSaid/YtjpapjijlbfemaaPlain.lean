/- Plain words on texts of bytes: no Go, no program. -/
namespace Go.Proofs.Ytjpapjijlbfemaa

/-- A text out of its bytes. -/
def bs (l : List UInt8) : ByteArray := ⟨l.toArray⟩
theorem bs_toList (l : List UInt8) : (bs l).data.toList = l := by simp [bs]
theorem bs_size (l : List UInt8) : (bs l).size = l.length := by simp [bs, ByteArray.size]
theorem bs_of (s : ByteArray) : bs s.data.toList = s := by simp [bs]
theorem toList_length (s : ByteArray) : s.data.toList.length = s.size := by rw [Array.length_toList]; rfl
theorem bs_inj {a b : List UInt8} (h : bs a = bs b) : a = b := by
  have := congrArg (fun s : ByteArray => s.data.toList) h
  simpa [bs] using this
theorem text_ext {s t : ByteArray} (h : s.data.toList = t.data.toList) : s = t := by rw [← bs_of s, ← bs_of t, h]

/-! ### Bits, byte by byte -/
def andB (x y : UInt8) : UInt8 := x &&& y
def orB (x y : UInt8) : UInt8 := x ||| y
def xorB (x y : UInt8) : UInt8 := x ^^^ y
def notB (x _y : UInt8) : UInt8 := ~~~ x

/-- Something is done with the bytes of two texts, place by place; where the second one ends the first one stays. -/
def mixL (f : UInt8 → UInt8 → UInt8) : List UInt8 → List UInt8 → List UInt8
  | x :: a, y :: b => f x y :: mixL f a b
  | a, _ => a

section
variable (f : UInt8 → UInt8 → UInt8)
theorem mixL_nil (a : List UInt8) : mixL f a [] = a := by cases a <;> rfl
theorem mixL_nil_left (b : List UInt8) : mixL f [] b = [] := by cases b <;> rfl
theorem mixL_cons (x y : UInt8) (a b : List UInt8) : mixL f (x :: a) (y :: b) = f x y :: mixL f a b := rfl
theorem mixL_length (a b : List UInt8) : (mixL f a b).length = a.length := by
  induction a generalizing b with
  | nil => cases b <;> rfl
  | cons x a ih => cases b with
    | nil => rfl
    | cons y b => simp [mixL, ih]

/-- A mix in its k-th round. -/
def mixTo (a b : List UInt8) (k : Nat) : List UInt8 := mixL f (a.take k) b ++ a.drop k

theorem mixTo_zero (a b : List UInt8) : mixTo f a b 0 = a := by cases b <;> simp [mixTo, mixL]
theorem mixTo_all (a b : List UInt8) (k : Nat) (h : k = min a.length b.length) : mixTo f a b k = mixL f a b := by
  subst h
  unfold mixTo
  induction a generalizing b with
  | nil => cases b <;> simp [mixL]
  | cons x a ih => cases b with
    | nil => simp [mixL]
    | cons y b => simp only [List.length_cons, Nat.succ_min_succ, List.take_succ_cons, List.drop_succ_cons, mixL, List.cons_append]; rw [ih]
theorem mixTo_length (a b : List UInt8) (k : Nat) : (mixTo f a b k).length = a.length := by
  unfold mixTo
  rw [List.length_append, mixL_length]; simp; omega
theorem mixTo_set (a b : List UInt8) (k : Nat) (ha : k < a.length) (hb : k < b.length) : mixTo f a b (k + 1) = (mixTo f a b k).set k (f a[k] b[k]) := by
  unfold mixTo
  induction k generalizing a b with
  | zero =>
    match a, b, ha, hb with
    | x :: a, y :: b, _, _ => cases b <;> simp [mixL]
  | succ k ih =>
    match a, b, ha, hb with
    | x :: a, y :: b, ha, hb =>
      simp only [List.take_succ_cons, List.drop_succ_cons, mixL, List.cons_append, List.set_cons_succ, List.getElem_cons_succ]
      rw [← ih a b (by simpa using ha) (by simpa using hb)]
end

/-- All bits turned. -/
def notL (a : List UInt8) : List UInt8 := mixL notB a a
theorem notL_map (a : List UInt8) : notL a = a.map (~~~ ·) := by
  unfold notL
  induction a with
  | nil => rfl
  | cons x a ih => simp [mixL, notB, ih]

/-- How many bits of a byte are ones. -/
def pop (c : UInt8) : Nat := (c.toNat % 2) + (c.toNat / 2 % 2) + (c.toNat / 4 % 2) + (c.toNat / 8 % 2) + (c.toNat / 16 % 2) + (c.toNat / 32 % 2) + (c.toNat / 64 % 2) + (c.toNat / 128 % 2)
def count (l : List UInt8) : Nat := (l.map pop).sum
theorem pop_le (c : UInt8) : pop c ≤ 8 := by unfold pop; omega
theorem count_le (l : List UInt8) : count l ≤ 8 * l.length := by
  induction l with
  | nil => simp [count]
  | cons c l ih => have := pop_le c; simp only [count, List.map_cons, List.sum_cons, List.length_cons] at *; omega
theorem count_append (a b : List UInt8) : count (a ++ b) = count a + count b := by simp [count]
theorem count_take (l : List UInt8) (k : Nat) (h : k < l.length) : count (l.take (k + 1)) = count (l.take k) + pop l[k] := by
  rw [List.take_succ_eq_append_getElem h, count_append]; simp [count]

/-! ### Numbers as bytes, the lowest ones first -/
def numL : List UInt8 → Nat
  | [] => 0
  | c :: l => c.toNat + 256 * numL l
theorem numL_append (a b : List UInt8) : numL (a ++ b) = numL a + 256 ^ a.length * numL b := by
  induction a with
  | nil => simp [numL]
  | cons c a ih => simp only [List.cons_append, numL, ih, List.length_cons, Nat.pow_succ]; rw [Nat.mul_add, Nat.mul_comm (256 ^ a.length) 256, Nat.mul_assoc]; omega
theorem numL_lt (l : List UInt8) : numL l < 256 ^ l.length := by
  induction l with
  | nil => simp [numL]
  | cons c l ih =>
    have := c.toNat_lt
    simp only [numL, List.length_cons, Nat.pow_succ]
    omega
theorem numL_take (l : List UInt8) (k : Nat) (h : k < l.length) : numL (l.take (k + 1)) = numL (l.take k) + 256 ^ k * l[k].toNat := by
  rw [List.take_succ_eq_append_getElem h, numL_append]
  rw [List.length_take, Nat.min_eq_left (by omega)]; simp [numL]

/-- The bytes of a number, so many. -/
def putL (n : Nat) : Nat → List UInt8
  | 0 => []
  | k + 1 => UInt8.ofNat n :: putL (n / 256) k
theorem putL_length (n k : Nat) : (putL n k).length = k := by
  induction k generalizing n with
  | zero => rfl
  | succ k ih => simp [putL, ih]
theorem numL_putL (n k : Nat) (h : n < 256 ^ k) : numL (putL n k) = n := by
  induction k generalizing n with
  | zero => simp at h; simp [putL, numL, h]
  | succ k ih =>
    have h2 : n / 256 < 256 ^ k := by rw [Nat.pow_succ] at h; omega
    simp only [putL, numL, ih _ h2, UInt8.toNat_ofNat']
    omega
theorem putL_numL (l : List UInt8) : putL (numL l) l.length = l := by
  induction l with
  | nil => rfl
  | cons c l ih =>
    have hc := c.toNat_lt
    have e1 : UInt8.ofNat (c.toNat + 256 * numL l) = c := by apply UInt8.toNat_inj.1; rw [UInt8.toNat_ofNat']; omega
    have e2 : (c.toNat + 256 * numL l) / 256 = numL l := by omega
    simp only [numL, List.length_cons, putL, e1, e2, ih]
theorem putL_succ (n k : Nat) : putL n (k + 1) = putL n k ++ [UInt8.ofNat (n / 256 ^ k)] := by
  induction k generalizing n with
  | zero => simp [putL]
  | succ k ih =>
    rw [putL, ih (n / 256)]
    simp only [putL, List.cons_append, Nat.div_div_eq_div_mul]
    rw [Nat.pow_succ, Nat.mul_comm]

end Go.Proofs.Ytjpapjijlbfemaa
