/- Texts of this proof, one behind the other: Plain, CrcPlain, Bits. -/

/- Plain words on texts of bytes: no Go, no program. -/
namespace Go.Proofs.YtmabpnkdagipfaaGreat

/-- A text out of its bytes. -/
def bs (l : List UInt8) : ByteArray := ⟨l.toArray⟩
theorem bs_toList (l : List UInt8) : (bs l).data.toList = l := by simp [bs]
theorem bs_size (l : List UInt8) : (bs l).size = l.length := by simp [bs, ByteArray.size]
theorem bs_of (s : ByteArray) : bs s.data.toList = s := by simp [bs]
theorem toList_length (s : ByteArray) : s.data.toList.length = s.size := by rw [Array.length_toList]; rfl
theorem bs_inj {a b : List UInt8} (h : bs a = bs b) : a = b := by
  have := congrArg (fun s : ByteArray => s.data.toList) h
  simpa [bs] using this
theorem text_ext {s t : ByteArray} (h : s.data.toList = t.data.toList) : s = t := by rw [← bs_of s, ← bs_of t, h]

/-! ### Bits, byte by byte -/
def andB (x y : UInt8) : UInt8 := x &&& y
def orB (x y : UInt8) : UInt8 := x ||| y
def xorB (x y : UInt8) : UInt8 := x ^^^ y
def notB (x _y : UInt8) : UInt8 := ~~~ x

/-- Something is done with the bytes of two texts, place by place; where the second one ends the first one stays. -/
def mixL (f : UInt8 → UInt8 → UInt8) : List UInt8 → List UInt8 → List UInt8
  | x :: a, y :: b => f x y :: mixL f a b
  | a, _ => a

section
variable (f : UInt8 → UInt8 → UInt8)
theorem mixL_nil (a : List UInt8) : mixL f a [] = a := by cases a <;> rfl
theorem mixL_nil_left (b : List UInt8) : mixL f [] b = [] := by cases b <;> rfl
theorem mixL_cons (x y : UInt8) (a b : List UInt8) : mixL f (x :: a) (y :: b) = f x y :: mixL f a b := rfl
theorem mixL_length (a b : List UInt8) : (mixL f a b).length = a.length := by
  induction a generalizing b with
  | nil => cases b <;> rfl
  | cons x a ih => cases b with
    | nil => rfl
    | cons y b => simp [mixL, ih]

/-- A mix in its k-th round. -/
def mixTo (a b : List UInt8) (k : Nat) : List UInt8 := mixL f (a.take k) b ++ a.drop k

theorem mixTo_zero (a b : List UInt8) : mixTo f a b 0 = a := by cases b <;> simp [mixTo, mixL]
theorem mixTo_all (a b : List UInt8) (k : Nat) (h : k = min a.length b.length) : mixTo f a b k = mixL f a b := by
  subst h
  unfold mixTo
  induction a generalizing b with
  | nil => cases b <;> simp [mixL]
  | cons x a ih => cases b with
    | nil => simp [mixL]
    | cons y b => simp only [List.length_cons, Nat.succ_min_succ, List.take_succ_cons, List.drop_succ_cons, mixL, List.cons_append]; rw [ih]
theorem mixTo_length (a b : List UInt8) (k : Nat) : (mixTo f a b k).length = a.length := by
  unfold mixTo
  rw [List.length_append, mixL_length]; simp; omega
theorem mixTo_set (a b : List UInt8) (k : Nat) (ha : k < a.length) (hb : k < b.length) : mixTo f a b (k + 1) = (mixTo f a b k).set k (f a[k] b[k]) := by
  unfold mixTo
  induction k generalizing a b with
  | zero =>
    match a, b, ha, hb with
    | x :: a, y :: b, _, _ => cases b <;> simp [mixL]
  | succ k ih =>
    match a, b, ha, hb with
    | x :: a, y :: b, ha, hb =>
      simp only [List.take_succ_cons, List.drop_succ_cons, mixL, List.cons_append, List.set_cons_succ, List.getElem_cons_succ]
      rw [← ih a b (by simpa using ha) (by simpa using hb)]
end

/-- All bits turned. -/
def notL (a : List UInt8) : List UInt8 := mixL notB a a
theorem notL_map (a : List UInt8) : notL a = a.map (~~~ ·) := by
  unfold notL
  induction a with
  | nil => rfl
  | cons x a ih => simp [mixL, notB, ih]

/-- How many bits of a byte are ones. -/
def pop (c : UInt8) : Nat := (c.toNat % 2) + (c.toNat / 2 % 2) + (c.toNat / 4 % 2) + (c.toNat / 8 % 2) + (c.toNat / 16 % 2) + (c.toNat / 32 % 2) + (c.toNat / 64 % 2) + (c.toNat / 128 % 2)
def count (l : List UInt8) : Nat := (l.map pop).sum
theorem pop_le (c : UInt8) : pop c ≤ 8 := by unfold pop; omega
theorem count_le (l : List UInt8) : count l ≤ 8 * l.length := by
  induction l with
  | nil => simp [count]
  | cons c l ih => have := pop_le c; simp only [count, List.map_cons, List.sum_cons, List.length_cons] at *; omega
theorem count_append (a b : List UInt8) : count (a ++ b) = count a + count b := by simp [count]
theorem count_take (l : List UInt8) (k : Nat) (h : k < l.length) : count (l.take (k + 1)) = count (l.take k) + pop l[k] := by
  rw [List.take_succ_eq_append_getElem h, count_append]; simp [count]

/-! ### Numbers as bytes, the lowest ones first -/
def numL : List UInt8 → Nat
  | [] => 0
  | c :: l => c.toNat + 256 * numL l
theorem numL_append (a b : List UInt8) : numL (a ++ b) = numL a + 256 ^ a.length * numL b := by
  induction a with
  | nil => simp [numL]
  | cons c a ih => simp only [List.cons_append, numL, ih, List.length_cons, Nat.pow_succ]; rw [Nat.mul_add, Nat.mul_comm (256 ^ a.length) 256, Nat.mul_assoc]; omega
theorem numL_lt (l : List UInt8) : numL l < 256 ^ l.length := by
  induction l with
  | nil => simp [numL]
  | cons c l ih =>
    have := c.toNat_lt
    simp only [numL, List.length_cons, Nat.pow_succ]
    omega
theorem numL_take (l : List UInt8) (k : Nat) (h : k < l.length) : numL (l.take (k + 1)) = numL (l.take k) + 256 ^ k * l[k].toNat := by
  rw [List.take_succ_eq_append_getElem h, numL_append]
  rw [List.length_take, Nat.min_eq_left (by omega)]; simp [numL]

/-- The bytes of a number, so many. -/
def putL (n : Nat) : Nat → List UInt8
  | 0 => []
  | k + 1 => UInt8.ofNat n :: putL (n / 256) k
theorem putL_length (n k : Nat) : (putL n k).length = k := by
  induction k generalizing n with
  | zero => rfl
  | succ k ih => simp [putL, ih]
theorem numL_putL (n k : Nat) (h : n < 256 ^ k) : numL (putL n k) = n := by
  induction k generalizing n with
  | zero => simp at h; simp [putL, numL, h]
  | succ k ih =>
    have h2 : n / 256 < 256 ^ k := by rw [Nat.pow_succ] at h; omega
    simp only [putL, numL, ih _ h2, UInt8.toNat_ofNat']
    omega
theorem putL_numL (l : List UInt8) : putL (numL l) l.length = l := by
  induction l with
  | nil => rfl
  | cons c l ih =>
    have hc := c.toNat_lt
    have e1 : UInt8.ofNat (c.toNat + 256 * numL l) = c := by apply UInt8.toNat_inj.1; rw [UInt8.toNat_ofNat']; omega
    have e2 : (c.toNat + 256 * numL l) / 256 = numL l := by omega
    simp only [numL, List.length_cons, putL, e1, e2, ih]
theorem putL_succ (n k : Nat) : putL n (k + 1) = putL n k ++ [UInt8.ofNat (n / 256 ^ k)] := by
  induction k generalizing n with
  | zero => simp [putL]
  | succ k ih =>
    rw [putL, ih (n / 256)]
    simp only [putL, List.cons_append, Nat.div_div_eq_div_mul]
    rw [Nat.pow_succ, Nat.mul_comm]

end Go.Proofs.YtmabpnkdagipfaaGreat

/- The sum of layer 2 (crc), in plain Lean: the register, a step, a text, a seal, what bursts do. -/
namespace Go.Proofs.YtmabpnkdagipfaaGreat.Oc

/-- One bit's step of the sum's register. -/
def S (n : Nat) : Nat := if n % 2 = 1 then n / 2 ^^^ 3988292384 else n / 2

theorem half_xor (a b : Nat) : (a ^^^ b) / 2 = a / 2 ^^^ b / 2 := by
  have h := Nat.shiftRight_xor_distrib (a := a) (b := b) (i := 1)
  simpa [Nat.shiftRight_eq_div_pow] using h

theorem odd_xor (a b : Nat) : (a ^^^ b) % 2 = (a % 2 + b % 2) % 2 := by
  have h := Nat.xor_mod_two_pow (a := a) (b := b) (n := 1)
  simp at h
  rw [h]
  rcases Nat.mod_two_eq_zero_or_one a with ha | ha <;> rcases Nat.mod_two_eq_zero_or_one b with hb | hb <;> simp [ha, hb]

theorem S_xor (a b : Nat) : S (a ^^^ b) = S a ^^^ S b := by
  unfold S
  rw [odd_xor, half_xor]
  rcases Nat.mod_two_eq_zero_or_one a with ha | ha <;> rcases Nat.mod_two_eq_zero_or_one b with hb | hb <;> simp [ha, hb]
  · rw [Nat.xor_assoc]
  · rw [Nat.xor_assoc, Nat.xor_comm (b / 2), ← Nat.xor_assoc]
  · rw [Nat.xor_assoc, ← Nat.xor_assoc 3988292384, Nat.xor_comm 3988292384, Nat.xor_assoc, Nat.xor_self, Nat.xor_zero]

theorem S_lt (a : Nat) (h : a < 4294967296) : S a < 4294967296 := by
  unfold S
  split
  · exact Nat.xor_lt_two_pow (n := 32) (by omega) (by omega)
  · omega

theorem S_dbl (a : Nat) : S (2 * a) = a := by
  unfold S
  rw [if_neg (by omega)]
  omega

theorem S_zero (a : Nat) (ha : a < 4294967296) (h : S a = 0) : a = 0 := by
  unfold S at h
  split at h
  · have e : a / 2 = 3988292384 := by
      have := congrArg (· ^^^ 3988292384) h
      simpa [Nat.xor_assoc] using this
    omega
  · omega

/-- k bits' steps. -/
def Sk : Nat → Nat → Nat
  | 0, n => n
  | k + 1, n => Sk k (S n)

theorem Sk_xor (k a b : Nat) : Sk k (a ^^^ b) = Sk k a ^^^ Sk k b := by
  induction k generalizing a b with
  | zero => rfl
  | succ k ih => simp only [Sk]; rw [S_xor, ih]

theorem Sk_lt (k a : Nat) (h : a < 4294967296) : Sk k a < 4294967296 := by
  induction k generalizing a with
  | zero => exact h
  | succ k ih => exact ih _ (S_lt a h)

theorem Sk_zero (k a : Nat) (ha : a < 4294967296) (h : Sk k a = 0) : a = 0 := by
  induction k generalizing a with
  | zero => exact h
  | succ k ih => exact S_zero a ha (ih _ (S_lt a ha) h)

theorem Sk_shl (k a : Nat) : Sk k (2 ^ k * a) = a := by
  induction k generalizing a with
  | zero => simp [Sk]
  | succ k ih => simp only [Sk]; rw [Nat.pow_succ, Nat.mul_comm (2 ^ k) 2, Nat.mul_assoc, S_dbl, ih]

theorem Sk_add (j k a : Nat) : Sk (j + k) a = Sk k (Sk j a) := by
  induction j generalizing a with
  | zero => simp [Sk]
  | succ j ih => rw [Nat.succ_add]; simp only [Sk]; exact ih _

theorem Sk_0 (k : Nat) : Sk k 0 = 0 := by
  induction k with
  | zero => rfl
  | succ k ih => exact ih

/-- The register behind a text. -/
def on (n : Nat) (l : List UInt8) : Nat := l.foldl (fun n c => Sk 8 (n ^^^ c.toNat)) n

theorem byte_lt (n : Nat) (c : UInt8) (h : n < 4294967296) : n ^^^ c.toNat < 4294967296 :=
  Nat.xor_lt_two_pow (n := 32) h (by have := c.toNat_lt; omega)

theorem on_nil (n : Nat) : on n [] = n := rfl
theorem on_cons (n : Nat) (c : UInt8) (l : List UInt8) : on n (c :: l) = on (Sk 8 (n ^^^ c.toNat)) l := rfl
theorem on_append (n : Nat) (a b : List UInt8) : on n (a ++ b) = on (on n a) b := by simp [on, List.foldl_append]
theorem on_lt (n : Nat) (l : List UInt8) (h : n < 4294967296) : on n l < 4294967296 := by
  induction l generalizing n with
  | nil => exact h
  | cons c l ih => exact ih _ (Sk_lt 8 _ (byte_lt n c h))

/-- Bit by bit, all of two texts of one length. -/
def xorL (a b : List UInt8) : List UInt8 := List.zipWith (· ^^^ ·) a b

theorem xor4 (a b c d : Nat) : (a ^^^ b) ^^^ (c ^^^ d) = (a ^^^ c) ^^^ (b ^^^ d) := by
  rw [Nat.xor_assoc, Nat.xor_assoc, ← Nat.xor_assoc b, Nat.xor_comm b c, Nat.xor_assoc c]

theorem on_xor (m n : Nat) (a b : List UInt8) (h : a.length = b.length) : on (m ^^^ n) (xorL a b) = on m a ^^^ on n b := by
  induction a generalizing m n b with
  | nil => cases b with
    | nil => rfl
    | cons => simp at h
  | cons c a ih => cases b with
    | nil => simp at h
    | cons d b =>
      simp only [xorL, List.zipWith_cons_cons, on_cons]
      rw [← ih _ _ b (by simpa using h), UInt8.toNat_xor, xor4, Sk_xor]
      rfl

theorem on_zeros (k : Nat) : on 0 (List.replicate k 0) = 0 := by
  induction k with
  | zero => rfl
  | succ k ih => rw [List.replicate_succ, on_cons]; simpa [Sk_0] using ih

theorem on_zero_inj (n k : Nat) (hn : n < 4294967296) (h : on n (List.replicate k 0) = 0) : n = 0 := by
  induction k generalizing n with
  | zero => exact h
  | succ k ih =>
    rw [List.replicate_succ, on_cons] at h
    simp only [UInt8.toNat_ofNat, Nat.zero_mod, Nat.xor_zero] at h
    exact Sk_zero 8 n hn (ih _ (Sk_lt 8 n hn) h)

/-- The number that four bytes are, the lowest first. -/
def num4 (a b c d : UInt8) : Nat := a.toNat + 256 * b.toNat + 65536 * c.toNat + 16777216 * d.toNat

theorem xor_high (a b : Nat) (ha : a < 256) : a ^^^ (256 * b) = a + 256 * b := by
  have := Nat.two_pow_add_eq_or_of_lt (i := 8) ha b
  have h2 : 256 * b ^^^ a = 256 * b ||| a := by
    apply Nat.eq_of_testBit_eq
    intro i
    simp only [Nat.testBit_xor, Nat.testBit_or]
    by_cases hi : i < 8
    · have : (256 * b).testBit i = false := by
        rw [show 256 * b = 2 ^ 8 * b from rfl, Nat.testBit_two_pow_mul]; simp; omega
      rw [this]; simp
    · have : a.testBit i = false := Nat.testBit_lt_two_pow (Nat.lt_of_lt_of_le ha (by have := Nat.pow_le_pow_right (n := 2) (by decide) (Nat.le_of_not_lt hi); simpa using this))
      rw [this]; simp
  rw [Nat.xor_comm, h2]
  have e : 256 * b + a = 256 * b ||| a := this
  omega

theorem four (a b c d : UInt8) (n : Nat) : on n [a, b, c, d] = Sk 32 (n ^^^ num4 a b c d) := by
  have h1 : ∀ (x : Nat) (m : Nat) (u : UInt8), Sk 8 (x ^^^ (u.toNat + 256 * m)) = Sk 8 (x ^^^ u.toNat) ^^^ m := by
    intro x m u
    rw [← xor_high u.toNat m u.toNat_lt, ← Nat.xor_assoc, Sk_xor 8 _ (256 * m)]
    congr 1
    exact Sk_shl 8 m
  have e : num4 a b c d = a.toNat + 256 * (b.toNat + 256 * (c.toNat + 256 * d.toNat)) := by unfold num4; omega
  rw [e, show (32 : Nat) = 8 + (8 + (8 + 8)) from rfl, Sk_add, h1, Sk_add, h1, Sk_add, h1]
  simp only [on_cons, on_nil]

theorem num4_lt (a b c d : UInt8) : num4 a b c d < 4294967296 := by
  have := a.toNat_lt; have := b.toNat_lt; have := c.toNat_lt; have := d.toNat_lt
  unfold num4; omega

theorem num4_zero (a b c d : UInt8) (h : num4 a b c d = 0) : a = 0 ∧ b = 0 ∧ c = 0 ∧ d = 0 := by
  unfold num4 at h
  refine ⟨?_, ?_, ?_, ?_⟩ <;> (apply UInt8.toNat_inj.1; simp; omega)

/-- A register of ones alone. -/
def ones32 : Nat := 4294967295

/-- The sum of a text. -/
def sum (l : List UInt8) : Nat := on ones32 l ^^^ ones32

theorem sum_lt (l : List UInt8) : sum l < 4294967296 :=
  Nat.xor_lt_two_pow (n := 32) (on_lt _ _ (by decide)) (by decide)

/-- A number's four bytes, the lowest first. -/
def le4 (n : Nat) : List UInt8 := [UInt8.ofNat n, UInt8.ofNat (n / 256), UInt8.ofNat (n / 65536), UInt8.ofNat (n / 16777216)]

theorem num4_le4 (n : Nat) (h : n < 4294967296) : num4 (UInt8.ofNat n) (UInt8.ofNat (n / 256)) (UInt8.ofNat (n / 65536)) (UInt8.ofNat (n / 16777216)) = n := by
  unfold num4
  simp only [UInt8.toNat_ofNat']
  omega

theorem le4_num4 (a b c d : UInt8) : le4 (num4 a b c d) = [a, b, c, d] := by
  have := a.toNat_lt; have := b.toNat_lt; have := c.toNat_lt; have := d.toNat_lt
  have e : ∀ (n : Nat) (u : UInt8), n % 256 = u.toNat → UInt8.ofNat n = u := by
    intro n u h
    apply UInt8.toNat_inj.1
    rw [UInt8.toNat_ofNat', ← h]
  unfold le4 num4
  rw [e _ a (by omega), e _ b (by omega), e _ c (by omega), e _ d (by omega)]

/-- A text, and its sum behind it. -/
def seal4 (l : List UInt8) : List UInt8 := l ++ le4 (sum l)

/-- What the register is behind whatever is sealed. -/
def residue : Nat := Sk 32 ones32

theorem xor_cancel (a b c : Nat) (h : a ^^^ b = a ^^^ c) : b = c := by
  have := congrArg (a ^^^ ·) h
  simpa [← Nat.xor_assoc] using this

theorem on_seal4 (l : List UInt8) : on ones32 (seal4 l) = residue := by
  unfold seal4
  rw [on_append, le4, four, num4_le4 _ (sum_lt l)]
  unfold sum residue
  rw [← Nat.xor_assoc, Nat.xor_self, Nat.zero_xor]

theorem Sk_inj (k a b : Nat) (ha : a < 4294967296) (hb : b < 4294967296) (h : Sk k a = Sk k b) : a = b := by
  have h0 : Sk k (a ^^^ b) = 0 := by rw [Sk_xor, h, Nat.xor_self]
  have := Sk_zero k _ (Nat.xor_lt_two_pow (n := 32) ha hb) h0
  exact xor_cancel b a b (by rw [Nat.xor_comm b a, this, Nat.xor_self])

/-- A text is a seal where the register behind it is the residue. -/
theorem seal4_of_on (t : List UInt8) (a b c d : UInt8) (h : on ones32 (t ++ [a, b, c, d]) = residue) : t ++ [a, b, c, d] = seal4 t := by
  rw [on_append, four] at h
  have ht := on_lt ones32 t (by decide)
  have e := Sk_inj 32 _ _ (Nat.xor_lt_two_pow (n := 32) ht (num4_lt a b c d)) (by decide) h
  unfold seal4 sum
  have e2 : num4 a b c d = on ones32 t ^^^ ones32 := by
    apply xor_cancel (on ones32 t)
    rw [e, ← Nat.xor_assoc, Nat.xor_self, Nat.zero_xor]
  rw [← e2, le4_num4]

/-- What is turned in four bytes turns the register, but for none. -/
theorem on_burst (k m : Nat) (a b c d : UInt8) (h : on 0 (List.replicate k 0 ++ [a, b, c, d] ++ List.replicate m 0) = 0) : a = 0 ∧ b = 0 ∧ c = 0 ∧ d = 0 := by
  rw [on_append, on_append, on_zeros, four, Nat.zero_xor] at h
  have h2 := on_zero_inj _ m (Sk_lt 32 _ (num4_lt a b c d)) h
  exact num4_zero a b c d (Sk_zero 32 _ (num4_lt a b c d) h2)

theorem on_turned (n : Nat) (t e : List UInt8) (hl : t.length = e.length) : on n (xorL t e) = on n t ^^^ on 0 e := by
  have := on_xor n 0 t e hl
  simpa using this

theorem xorL_zeros (t : List UInt8) : xorL t (List.replicate t.length 0) = t := by
  induction t with
  | nil => rfl
  | cons c t ih => simpa [xorL, List.replicate_succ] using ih

end Go.Proofs.YtmabpnkdagipfaaGreat.Oc

/- Plain words on texts' bits, as texts: no Go, no program. -/
namespace Go.Proofs.YtmabpnkdagipfaaGreat

def andT (a b : ByteArray) : ByteArray := bs (mixL andB a.data.toList b.data.toList)
def orT (a b : ByteArray) : ByteArray := bs (mixL orB a.data.toList b.data.toList)
def xorT (a b : ByteArray) : ByteArray := bs (mixL xorB a.data.toList b.data.toList)
def notT (a : ByteArray) : ByteArray := bs (notL a.data.toList)
def onesT (n : Nat) : ByteArray := bs (List.replicate n 255)
def zerosT (n : Nat) : ByteArray := bs (List.replicate n 0)
theorem andT_size (a b : ByteArray) : (andT a b).size = a.size := by rw [andT, bs_size, mixL_length, toList_length]
theorem orT_size (a b : ByteArray) : (orT a b).size = a.size := by rw [orT, bs_size, mixL_length, toList_length]
theorem xorT_size (a b : ByteArray) : (xorT a b).size = a.size := by rw [xorT, bs_size, mixL_length, toList_length]
theorem notL_length (a : List UInt8) : (notL a).length = a.length := by rw [notL_map, List.length_map]
theorem notT_size (a : ByteArray) : (notT a).size = a.size := by rw [notT, bs_size, notL_length, toList_length]
theorem onesT_size (n : Nat) : (onesT n).size = n := by rw [onesT, bs_size, List.length_replicate]
theorem zerosT_size (n : Nat) : (zerosT n).size = n := by rw [zerosT, bs_size, List.length_replicate]

theorem u8x {x y : UInt8} (h : ∀ i (hi : i < 8), x.toBitVec[i] = y.toBitVec[i]) : x = y := UInt8.eq_of_toBitVec_eq (BitVec.eq_of_getElem_eq fun i hi => h i hi)

/-! ### Place by place -/
/-- What stands at place i of a mix. -/
theorem mixL_getElem? {f : UInt8 → UInt8 → UInt8} (a b : List UInt8) (i : Nat) : (mixL f a b)[i]? = (match a[i]?, b[i]? with | some x, some y => some (f x y) | some x, none => some x | none, _ => none) := by
  induction a generalizing b i with
  | nil => rw [mixL_nil_left]; simp
  | cons x a ih =>
    cases b with
    | nil =>
      rw [mixL_nil]
      cases h : (x :: a)[i]? <;> simp
    | cons y b =>
      rw [mixL_cons]
      cases i with
      | zero => simp
      | succ i => simpa using ih b i

theorem mixL_all {f : UInt8 → UInt8 → UInt8} {a b c : List UInt8} (hl : c.length = a.length) (h : ∀ i (ha : i < a.length) (hc : i < c.length), c[i] = match b[i]? with | some y => f a[i] y | none => a[i]) : mixL f a b = c := by
  apply List.ext_getElem?
  intro i
  rw [mixL_getElem?]
  by_cases hi : i < a.length
  · have hc : i < c.length := by omega
    rw [List.getElem?_eq_getElem hi, List.getElem?_eq_getElem hc, h i hi hc]
    cases b[i]? <;> rfl
  · have h1 := List.getElem?_eq_none (Nat.le_of_not_lt hi)
    have h2 : c[i]? = none := List.getElem?_eq_none (by rw [hl]; exact Nat.le_of_not_lt hi)
    rw [h1, h2]

/-- What is mixed with more that stands for nothing is the same. -/
theorem mixL_pad {f : UInt8 → UInt8 → UInt8} (u : UInt8) (hu : ∀ x, f x u = x) (a b : List UInt8) (k : Nat) : mixL f a (b ++ List.replicate k u) = mixL f a b := by
  induction a generalizing b with
  | nil => rw [mixL_nil_left, mixL_nil_left]
  | cons x a ih =>
    cases b with
    | nil =>
      rw [mixL_nil, List.nil_append]
      clear ih
      induction k generalizing x a with
      | zero => rfl
      | succ k ihk =>
        rw [List.replicate_succ, mixL_cons, hu]
        cases a with
        | nil => rw [mixL_nil_left]
        | cons y a => rw [ihk]
    | cons y b => rw [List.cons_append, mixL_cons, mixL_cons, ih]
/-- A mix of more that swallows is that more. -/
theorem mixL_swallow {f : UInt8 → UInt8 → UInt8} (u : UInt8) (hu : ∀ x, f u x = u) : ∀ (a b : List UInt8) (k : Nat), mixL f (a ++ List.replicate k u) b = mixL f a b ++ List.replicate k u
  | [], b, k => by
    rw [mixL_nil_left, List.nil_append]
    show mixL f (List.replicate k u) b = List.replicate k u
    induction k generalizing b with
    | zero => exact mixL_nil_left f b
    | succ k ih =>
      cases b with
      | nil => rw [mixL_nil]
      | cons y b => rw [List.replicate_succ, mixL_cons, hu, ih]
  | x :: a, [], k => by rw [mixL_nil, mixL_nil]
  | x :: a, y :: b, k => by rw [List.cons_append, mixL_cons, mixL_cons, List.cons_append, mixL_swallow u hu a b k]

theorem andB_ones (x : UInt8) : andB x 255 = x := by
  have h : ∀ c : Fin 256, andB (UInt8.ofNat c.val) 255 = UInt8.ofNat c.val := by decide +kernel
  have := h ⟨x.toNat, x.toNat_lt⟩
  simpa using this
theorem orB_ones (x : UInt8) : orB 255 x = 255 := by
  have h : ∀ c : Fin 256, orB 255 (UInt8.ofNat c.val) = 255 := by decide +kernel
  have := h ⟨x.toNat, x.toNat_lt⟩
  simpa using this

end Go.Proofs.YtmabpnkdagipfaaGreat
