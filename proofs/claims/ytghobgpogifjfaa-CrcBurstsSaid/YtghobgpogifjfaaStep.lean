/- A step of package crc by its table, and a text's run: walked. -/
import Derived.Test.YtghobgpogifjfaaFill
import Derived.Test.YtghobgpogifjfaaGrow
namespace Go.Proofs.Ytghobgpogifjfaa
open Go.RowKit

theorem Oc.split16 (a : Nat) : a % 16 ^^^ 16 * (a / 16) = a := by
  have h : a % 16 ^^^ 16 * (a / 16) = a % 16 + 16 * (a / 16) := by
    rw [Nat.xor_comm]
    have := Nat.two_pow_add_eq_or_of_lt (i := 4) (b := a % 16) (by omega) (a / 16)
    have hx : 2 ^ 4 * (a / 16) ^^^ a % 16 = 2 ^ 4 * (a / 16) ||| a % 16 := by
      apply Nat.eq_of_testBit_eq
      intro i
      rw [Nat.testBit_xor, Nat.testBit_or, Nat.testBit_two_pow_mul]
      by_cases hi : i < 4
      · have : ¬ 4 ≤ i := by omega
        simp [this]
      · have hz : (a % 16).testBit i = false := Nat.testBit_lt_two_pow (Nat.lt_of_lt_of_le (Nat.mod_lt _ (by decide)) (Nat.pow_le_pow_right (n := 2) (i := 4) (by decide) (by omega)))
        simp [hz]
    have e : 16 * (a / 16) = 2 ^ 4 * (a / 16) := by omega
    rw [e, hx, ← this]
    omega
  rw [h]
  omega

theorem Oc.div_xor (n p : Nat) (hp : p < 16) : (n ^^^ p) / 16 = n / 16 := by
  have h := Nat.shiftRight_xor_distrib (a := n) (b := p) (i := 4)
  simp only [Nat.shiftRight_eq_div_pow] at h
  have e : p / 2 ^ 4 = 0 := Nat.div_eq_of_lt hp
  rw [e, Nat.xor_zero] at h
  exact h

theorem Oc.step4 (n p : Nat) (hp : p < 16) : Oc.Sk 4 ((n ^^^ p) % 16) ^^^ n / 16 = Oc.Sk 4 (n ^^^ p) := by
  have h := Oc.split16 (n ^^^ p)
  have hs : Oc.Sk 4 (16 * ((n ^^^ p) / 16)) = (n ^^^ p) / 16 := Oc.Sk_shl 4 _
  rw [Oc.div_xor n p hp] at h hs
  have := Oc.Sk_xor 4 ((n ^^^ p) % 16) (16 * (n / 16))
  rw [h, hs] at this
  exact this.symm

theorem Oc.step8 (n c : Nat) : Oc.Sk 4 (Oc.Sk 4 (n ^^^ c % 16) ^^^ c / 16) = Oc.Sk 8 (n ^^^ c) := by
  have h := Oc.split16 c
  have hs : Oc.Sk 4 (16 * (c / 16)) = c / 16 := Oc.Sk_shl 4 _
  have := Oc.Sk_xor 4 (n ^^^ c % 16) (16 * (c / 16))
  rw [Nat.xor_assoc, h, hs] at this
  rw [← this]
  exact (Oc.Sk_add 4 4 _).symm

def TabOk (w W : World) : Prop := Tab w W 0 0 (rowsTo 0) ∨ Tab w W 1 0 (rowsTo 16)

theorem do_calls {w W : World} (h : TabOk w W) :
    Calls Try.prog 65 #[.pointer (some ⟨w.heap.size, 0, none⟩), .func (.func 66) #[.pointer (some ⟨w.heap.size, 0, none⟩)] #[]] W fun e W' => e = .returned (.tuple #[]) ∧ Tab w W' 1 0 (rowsTo 16) := by
  rcases h with h | h
  · exact do_first h
  · exact do_again _ h

theorem rowsTo_get (i : Nat) (h : i < 16) : (rowsTo 16)[i]'(by rw [rowsTo_length]; exact h) = ((Oc.Sk 4 i : Nat) : Int) := by
  simp [rowsTo, h]

set_option maxRecDepth 100000 in
theorem step_calls {w W : World} (h : TabOk w W) (n p : Nat) (hn : n < 4294967296) (hp : p < 16) :
    Calls Try.prog 54 #[.pointer (some ⟨w.heap.size, 0, none⟩), .int .u32 n, .int .u8 p] W fun e W' => e = .returned (.int .u32 (Oc.Sk 4 (n ^^^ p) : Nat)) ∧ Tab w W' 1 0 (rowsTo 16) := by
  have hmf : ∀ (fn : Fn) (first cap : Array Value) (w : World), (Instr.makeFunc fn first cap).run Try.prog w = .ok (.func fn first cap) w := fun _ _ _ _ => rfl
  have b1 : bits .xor .u32 (n : Int) (p : Int) = ((n ^^^ p : Nat) : Int) := u32_xor_nat n p hn (by omega)
  have hx : n ^^^ p < 4294967296 := Nat.xor_lt_two_pow (n := 32) hn (by omega)
  have b2 : bits .and .u32 ((n ^^^ p : Nat) : Int) 15 = (((n ^^^ p) % 16 : Nat) : Int) := by
    have := u32_and_nat (n ^^^ p) 15 hx (by decide)
    rw [show (15 : Nat) = 2 ^ 4 - 1 from rfl, Nat.and_two_pow_sub_one_eq_mod] at this
    exact this
  have hr : (n ^^^ p) % 16 < 16 := Nat.mod_lt _ (by decide)
  have hs := Oc.Sk_lt 4 ((n ^^^ p) % 16) (by omega)
  have b3 : bits .xor .u32 ((Oc.Sk 4 ((n ^^^ p) % 16) : Nat) : Int) ((n : Int) / 16) = ((Oc.Sk 4 (n ^^^ p) : Nat) : Int) := by
    have := u32_xor_nat (Oc.Sk 4 ((n ^^^ p) % 16)) (n / 16) hs (by omega)
    rw [Oc.step4 n p hp] at this
    exact this
  generalize n ^^^ p = x at *
  go_enter Try.func54, Try.ntmps54
  go_wp2_with (go_at_call 65; refine (do_calls h).mono ?_; rintro e W2 ⟨rfl, h2⟩; have hc := h2.atRow (x % 16) (by rw [rowsTo_length]; exact hr); rw [rowsTo_get _ hr] at hc)
  exact bodyPost_ret (v := .int .u32 (Oc.Sk 4 x : Nat)) (results_one rfl rfl) rfl ⟨rfl, h2⟩

end Go.Proofs.Ytghobgpogifjfaa
