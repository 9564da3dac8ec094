/- Texts of this proof, one behind the other: Ref2, Ref4. -/
import Derived.Test.YtmabpnkdagipfaaJ9
import Derived.Test.YtmabpnkdagipfaaJ13

/- What ouroborosref02's functions come to. -/
namespace Go.Proofs.Ytmabpnkdagipfaa
open Go.RowKit

theorem Oc.S_div (n b : Nat) (hb : b < 2) (h : n % 2 ≠ b) : Oc.S (n ^^^ b) = n / 2 ^^^ 3988292384 := by
  have h1 := Oc.odd_xor n b
  have h2 := Oc.half_xor n b
  have e : b / 2 = 0 := by omega
  rw [e, Nat.xor_zero] at h2
  unfold Oc.S
  rw [if_pos (by omega), h2]
theorem Oc.S_even (n b : Nat) (hb : b < 2) (h : n % 2 = b) : Oc.S (n ^^^ b) = n / 2 := by
  have h1 := Oc.odd_xor n b
  have h2 := Oc.half_xor n b
  have e : b / 2 = 0 := by omega
  rw [e, Nat.xor_zero] at h2
  unfold Oc.S
  rw [if_neg (by omega), h2]

/-- Where the register stands behind k of a byte's bits, and what is left of the byte. -/
theorem Oc.bit_step (n c : Nat) (k : Nat) : Oc.Sk (k + 1) (n ^^^ c % 2 ^ (k + 1)) = Oc.S (Oc.Sk k (n ^^^ c % 2 ^ k) ^^^ (c / 2 ^ k % 2)) := by
  have h1 : c % 2 ^ (k + 1) = c % 2 ^ k ^^^ 2 ^ k * (c / 2 ^ k % 2) := by
    apply Nat.eq_of_testBit_eq
    intro i
    rw [Nat.testBit_xor, Nat.testBit_mod_two_pow, Nat.testBit_mod_two_pow, Nat.testBit_two_pow_mul]
    have h2 : (c / 2 ^ k % 2).testBit (i - k) = (decide (i - k < 1) && c.testBit (i - k + k)) := by
      have := Nat.testBit_mod_two_pow (c / 2 ^ k) 1 (i - k)
      rw [Nat.pow_one] at this
      rw [this, Nat.testBit_div_two_pow]
    rw [h2]
    rcases Nat.lt_trichotomy i k with h | rfl | h
    · have a1 : i < k + 1 := by omega
      have a2 : ¬ k ≤ i := by omega
      simp [a1, a2, h]
    · simp
    · have a1 : ¬ i < k + 1 := by omega
      have a2 : ¬ i < k := by omega
      have a3 : ¬ i - k < 1 := by omega
      simp [a1, a2, a3]
  rw [h1, ← Nat.xor_assoc, Oc.Sk_xor]
  have h3 : Oc.Sk (k + 1) (2 ^ k * (c / 2 ^ k % 2)) = Oc.S (c / 2 ^ k % 2) := by
    rw [Oc.Sk_succ, Oc.Sk_shl]
  rw [h3, Oc.Sk_succ, ← Oc.S_xor]

theorem flip_bits2 (n : Nat) (h : n < 4294967296) : bits .xor .u32 (n : Int) 4294967295 = ((n ^^^ 4294967295 : Nat) : Int) := u32_xor_nat n 4294967295 h (by decide)

end Go.Proofs.Ytmabpnkdagipfaa

/- What ouroborosref04's functions come to. -/
namespace Go.Proofs.Ytmabpnkdagipfaa
open Go.RowKit

/-- A record of a payload. -/
def makeT (s : ByteArray) : ByteArray := sealT s ++ notT (sealT s)
theorem makeT_size (s : ByteArray) : (makeT s).size = 2 * (s.size + 4) := by rw [makeT, app_size, notT_size, sealT_size]; omega
def sizeF (n : Int) : Int := if n < 0 ∨ 4000 < n then 0 else 2 * (n + 4)
def rreadT (s : ByteArray) : ByteArray × Int :=
  if s.size < 8 ∨ s.size % 2 = 1 then (bs [], 2) else if makeT (s.extract 0 (s.size / 2 - 4)) = s then (s.extract 0 (s.size / 2 - 4), 0) else (bs [], 2)

def clearT (s : ByteArray) : Bool := decide (s = bs (List.replicate s.size 255))
end Go.Proofs.Ytmabpnkdagipfaa
