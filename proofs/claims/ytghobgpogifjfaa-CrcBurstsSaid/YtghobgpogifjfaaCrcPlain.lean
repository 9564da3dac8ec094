/- The sum of layer 2 (crc), in plain Lean: the register, a step, a text, a seal, what bursts do. -/
import Derived.Test.YtghobgpogifjfaaPlain
namespace Go.Proofs.Ytghobgpogifjfaa.Oc

/-- One bit's step of the sum's register. -/
def S (n : Nat) : Nat := if n % 2 = 1 then n / 2 ^^^ 3988292384 else n / 2

theorem half_xor (a b : Nat) : (a ^^^ b) / 2 = a / 2 ^^^ b / 2 := by
  have h := Nat.shiftRight_xor_distrib (a := a) (b := b) (i := 1)
  simpa [Nat.shiftRight_eq_div_pow] using h

theorem odd_xor (a b : Nat) : (a ^^^ b) % 2 = (a % 2 + b % 2) % 2 := by
  have h := Nat.xor_mod_two_pow (a := a) (b := b) (n := 1)
  simp at h
  rw [h]
  rcases Nat.mod_two_eq_zero_or_one a with ha | ha <;> rcases Nat.mod_two_eq_zero_or_one b with hb | hb <;> simp [ha, hb]

theorem S_xor (a b : Nat) : S (a ^^^ b) = S a ^^^ S b := by
  unfold S
  rw [odd_xor, half_xor]
  rcases Nat.mod_two_eq_zero_or_one a with ha | ha <;> rcases Nat.mod_two_eq_zero_or_one b with hb | hb <;> simp [ha, hb]
  · rw [Nat.xor_assoc]
  · rw [Nat.xor_assoc, Nat.xor_comm (b / 2), ← Nat.xor_assoc]
  · rw [Nat.xor_assoc, ← Nat.xor_assoc 3988292384, Nat.xor_comm 3988292384, Nat.xor_assoc, Nat.xor_self, Nat.xor_zero]

theorem S_lt (a : Nat) (h : a < 4294967296) : S a < 4294967296 := by
  unfold S
  split
  · exact Nat.xor_lt_two_pow (n := 32) (by omega) (by omega)
  · omega

theorem S_dbl (a : Nat) : S (2 * a) = a := by
  unfold S
  rw [if_neg (by omega)]
  omega

theorem S_zero (a : Nat) (ha : a < 4294967296) (h : S a = 0) : a = 0 := by
  unfold S at h
  split at h
  · have e : a / 2 = 3988292384 := by
      have := congrArg (· ^^^ 3988292384) h
      simpa [Nat.xor_assoc] using this
    omega
  · omega

/-- k bits' steps. -/
def Sk : Nat → Nat → Nat
  | 0, n => n
  | k + 1, n => Sk k (S n)

theorem Sk_xor (k a b : Nat) : Sk k (a ^^^ b) = Sk k a ^^^ Sk k b := by
  induction k generalizing a b with
  | zero => rfl
  | succ k ih => simp only [Sk]; rw [S_xor, ih]

theorem Sk_lt (k a : Nat) (h : a < 4294967296) : Sk k a < 4294967296 := by
  induction k generalizing a with
  | zero => exact h
  | succ k ih => exact ih _ (S_lt a h)

theorem Sk_zero (k a : Nat) (ha : a < 4294967296) (h : Sk k a = 0) : a = 0 := by
  induction k generalizing a with
  | zero => exact h
  | succ k ih => exact S_zero a ha (ih _ (S_lt a ha) h)

theorem Sk_shl (k a : Nat) : Sk k (2 ^ k * a) = a := by
  induction k generalizing a with
  | zero => simp [Sk]
  | succ k ih => simp only [Sk]; rw [Nat.pow_succ, Nat.mul_comm (2 ^ k) 2, Nat.mul_assoc, S_dbl, ih]

theorem Sk_add (j k a : Nat) : Sk (j + k) a = Sk k (Sk j a) := by
  induction j generalizing a with
  | zero => simp [Sk]
  | succ j ih => rw [Nat.succ_add]; simp only [Sk]; exact ih _

theorem Sk_0 (k : Nat) : Sk k 0 = 0 := by
  induction k with
  | zero => rfl
  | succ k ih => exact ih

/-- The register behind a text. -/
def on (n : Nat) (l : List UInt8) : Nat := l.foldl (fun n c => Sk 8 (n ^^^ c.toNat)) n

theorem byte_lt (n : Nat) (c : UInt8) (h : n < 4294967296) : n ^^^ c.toNat < 4294967296 :=
  Nat.xor_lt_two_pow (n := 32) h (by have := c.toNat_lt; omega)

theorem on_nil (n : Nat) : on n [] = n := rfl
theorem on_cons (n : Nat) (c : UInt8) (l : List UInt8) : on n (c :: l) = on (Sk 8 (n ^^^ c.toNat)) l := rfl
theorem on_append (n : Nat) (a b : List UInt8) : on n (a ++ b) = on (on n a) b := by simp [on, List.foldl_append]
theorem on_lt (n : Nat) (l : List UInt8) (h : n < 4294967296) : on n l < 4294967296 := by
  induction l generalizing n with
  | nil => exact h
  | cons c l ih => exact ih _ (Sk_lt 8 _ (byte_lt n c h))

/-- Bit by bit, all of two texts of one length. -/
def xorL (a b : List UInt8) : List UInt8 := List.zipWith (· ^^^ ·) a b

theorem xor4 (a b c d : Nat) : (a ^^^ b) ^^^ (c ^^^ d) = (a ^^^ c) ^^^ (b ^^^ d) := by
  rw [Nat.xor_assoc, Nat.xor_assoc, ← Nat.xor_assoc b, Nat.xor_comm b c, Nat.xor_assoc c]

theorem on_xor (m n : Nat) (a b : List UInt8) (h : a.length = b.length) : on (m ^^^ n) (xorL a b) = on m a ^^^ on n b := by
  induction a generalizing m n b with
  | nil => cases b with
    | nil => rfl
    | cons => simp at h
  | cons c a ih => cases b with
    | nil => simp at h
    | cons d b =>
      simp only [xorL, List.zipWith_cons_cons, on_cons]
      rw [← ih _ _ b (by simpa using h), UInt8.toNat_xor, xor4, Sk_xor]
      rfl

theorem on_zeros (k : Nat) : on 0 (List.replicate k 0) = 0 := by
  induction k with
  | zero => rfl
  | succ k ih => rw [List.replicate_succ, on_cons]; simpa [Sk_0] using ih

theorem on_zero_inj (n k : Nat) (hn : n < 4294967296) (h : on n (List.replicate k 0) = 0) : n = 0 := by
  induction k generalizing n with
  | zero => exact h
  | succ k ih =>
    rw [List.replicate_succ, on_cons] at h
    simp only [UInt8.toNat_ofNat, Nat.zero_mod, Nat.xor_zero] at h
    exact Sk_zero 8 n hn (ih _ (Sk_lt 8 n hn) h)

/-- The number that four bytes are, the lowest first. -/
def num4 (a b c d : UInt8) : Nat := a.toNat + 256 * b.toNat + 65536 * c.toNat + 16777216 * d.toNat

theorem xor_high (a b : Nat) (ha : a < 256) : a ^^^ (256 * b) = a + 256 * b := by
  have := Nat.two_pow_add_eq_or_of_lt (i := 8) ha b
  have h2 : 256 * b ^^^ a = 256 * b ||| a := by
    apply Nat.eq_of_testBit_eq
    intro i
    simp only [Nat.testBit_xor, Nat.testBit_or]
    by_cases hi : i < 8
    · have : (256 * b).testBit i = false := by
        rw [show 256 * b = 2 ^ 8 * b from rfl, Nat.testBit_two_pow_mul]; simp; omega
      rw [this]; simp
    · have : a.testBit i = false := Nat.testBit_lt_two_pow (Nat.lt_of_lt_of_le ha (by have := Nat.pow_le_pow_right (n := 2) (by decide) (Nat.le_of_not_lt hi); simpa using this))
      rw [this]; simp
  rw [Nat.xor_comm, h2]
  have e : 256 * b + a = 256 * b ||| a := this
  omega

theorem four (a b c d : UInt8) (n : Nat) : on n [a, b, c, d] = Sk 32 (n ^^^ num4 a b c d) := by
  have h1 : ∀ (x : Nat) (m : Nat) (u : UInt8), Sk 8 (x ^^^ (u.toNat + 256 * m)) = Sk 8 (x ^^^ u.toNat) ^^^ m := by
    intro x m u
    rw [← xor_high u.toNat m u.toNat_lt, ← Nat.xor_assoc, Sk_xor 8 _ (256 * m)]
    congr 1
    exact Sk_shl 8 m
  have e : num4 a b c d = a.toNat + 256 * (b.toNat + 256 * (c.toNat + 256 * d.toNat)) := by unfold num4; omega
  rw [e, show (32 : Nat) = 8 + (8 + (8 + 8)) from rfl, Sk_add, h1, Sk_add, h1, Sk_add, h1]
  simp only [on_cons, on_nil]

theorem num4_lt (a b c d : UInt8) : num4 a b c d < 4294967296 := by
  have := a.toNat_lt; have := b.toNat_lt; have := c.toNat_lt; have := d.toNat_lt
  unfold num4; omega

theorem num4_zero (a b c d : UInt8) (h : num4 a b c d = 0) : a = 0 ∧ b = 0 ∧ c = 0 ∧ d = 0 := by
  unfold num4 at h
  refine ⟨?_, ?_, ?_, ?_⟩ <;> (apply UInt8.toNat_inj.1; simp; omega)

/-- A register of ones alone. -/
def ones32 : Nat := 4294967295

/-- The sum of a text. -/
def sum (l : List UInt8) : Nat := on ones32 l ^^^ ones32

theorem sum_lt (l : List UInt8) : sum l < 4294967296 :=
  Nat.xor_lt_two_pow (n := 32) (on_lt _ _ (by decide)) (by decide)

/-- A number's four bytes, the lowest first. -/
def le4 (n : Nat) : List UInt8 := [UInt8.ofNat n, UInt8.ofNat (n / 256), UInt8.ofNat (n / 65536), UInt8.ofNat (n / 16777216)]

theorem num4_le4 (n : Nat) (h : n < 4294967296) : num4 (UInt8.ofNat n) (UInt8.ofNat (n / 256)) (UInt8.ofNat (n / 65536)) (UInt8.ofNat (n / 16777216)) = n := by
  unfold num4
  simp only [UInt8.toNat_ofNat']
  omega

theorem le4_num4 (a b c d : UInt8) : le4 (num4 a b c d) = [a, b, c, d] := by
  have := a.toNat_lt; have := b.toNat_lt; have := c.toNat_lt; have := d.toNat_lt
  have e : ∀ (n : Nat) (u : UInt8), n % 256 = u.toNat → UInt8.ofNat n = u := by
    intro n u h
    apply UInt8.toNat_inj.1
    rw [UInt8.toNat_ofNat', ← h]
  unfold le4 num4
  rw [e _ a (by omega), e _ b (by omega), e _ c (by omega), e _ d (by omega)]

/-- A text, and its sum behind it. -/
def seal4 (l : List UInt8) : List UInt8 := l ++ le4 (sum l)

/-- What the register is behind whatever is sealed. -/
def residue : Nat := Sk 32 ones32

theorem xor_cancel (a b c : Nat) (h : a ^^^ b = a ^^^ c) : b = c := by
  have := congrArg (a ^^^ ·) h
  simpa [← Nat.xor_assoc] using this

theorem on_seal4 (l : List UInt8) : on ones32 (seal4 l) = residue := by
  unfold seal4
  rw [on_append, le4, four, num4_le4 _ (sum_lt l)]
  unfold sum residue
  rw [← Nat.xor_assoc, Nat.xor_self, Nat.zero_xor]

theorem Sk_inj (k a b : Nat) (ha : a < 4294967296) (hb : b < 4294967296) (h : Sk k a = Sk k b) : a = b := by
  have h0 : Sk k (a ^^^ b) = 0 := by rw [Sk_xor, h, Nat.xor_self]
  have := Sk_zero k _ (Nat.xor_lt_two_pow (n := 32) ha hb) h0
  exact xor_cancel b a b (by rw [Nat.xor_comm b a, this, Nat.xor_self])

/-- A text is a seal where the register behind it is the residue. -/
theorem seal4_of_on (t : List UInt8) (a b c d : UInt8) (h : on ones32 (t ++ [a, b, c, d]) = residue) : t ++ [a, b, c, d] = seal4 t := by
  rw [on_append, four] at h
  have ht := on_lt ones32 t (by decide)
  have e := Sk_inj 32 _ _ (Nat.xor_lt_two_pow (n := 32) ht (num4_lt a b c d)) (by decide) h
  unfold seal4 sum
  have e2 : num4 a b c d = on ones32 t ^^^ ones32 := by
    apply xor_cancel (on ones32 t)
    rw [e, ← Nat.xor_assoc, Nat.xor_self, Nat.zero_xor]
  rw [← e2, le4_num4]

/-- What is turned in four bytes turns the register, but for none. -/
theorem on_burst (k m : Nat) (a b c d : UInt8) (h : on 0 (List.replicate k 0 ++ [a, b, c, d] ++ List.replicate m 0) = 0) : a = 0 ∧ b = 0 ∧ c = 0 ∧ d = 0 := by
  rw [on_append, on_append, on_zeros, four, Nat.zero_xor] at h
  have h2 := on_zero_inj _ m (Sk_lt 32 _ (num4_lt a b c d)) h
  exact num4_zero a b c d (Sk_zero 32 _ (num4_lt a b c d) h2)

theorem on_turned (n : Nat) (t e : List UInt8) (hl : t.length = e.length) : on n (xorL t e) = on n t ^^^ on 0 e := by
  have := on_xor n 0 t e hl
  simpa using this

theorem xorL_zeros (t : List UInt8) : xorL t (List.replicate t.length 0) = t := by
  induction t with
  | nil => rfl
  | cons c t ih => simpa [xorL, List.replicate_succ] using ih

end Go.Proofs.Ytghobgpogifjfaa.Oc
