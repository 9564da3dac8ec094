/- Texts of this proof, one behind the other: CrcSum. -/
import Derived.Test.YtmabpnkdagipfaaGreatJ6
import Derived.Test.YtmabpnkdagipfaaGreatJ8

/- What crc.Sum, Add, Seal, Open come to. -/
namespace Go.Proofs.YtmabpnkdagipfaaGreat
open Go.RowKit

theorem flip32 (n : Nat) (h : n < 4294967296) : n ^^^ 4294967295 = 4294967295 - n := by
  apply Nat.eq_of_testBit_eq
  intro i
  rw [Nat.testBit_xor]
  have h1 : 4294967295 - n = 2 ^ 32 - (n + 1) := by omega
  rw [h1, Nat.testBit_two_pow_sub_succ (by omega : n < 2 ^ 32), show (4294967295 : Nat) = 2 ^ 32 - 1 from rfl, Nat.testBit_two_pow_sub_one]
  by_cases hi : i < 32
  · simp [hi]
  · have : n.testBit i = false := Nat.testBit_lt_two_pow (Nat.lt_of_lt_of_le (by omega : n < 2 ^ 32) (Nat.pow_le_pow_right (by decide) (by omega)))
    simp [hi, this]

theorem flip_bits (n : Nat) (h : n < 4294967296) : bits .xor .u32 IntKind.u32.max (n : Int) = ((n ^^^ 4294967295 : Nat) : Int) := by
  have := u32_xor_nat 4294967295 n (by decide) h
  rw [Nat.xor_comm] at this
  exact this
theorem wrap_u32 (n : Nat) (h : n < 4294967296) : wrap64 (n : Int) = n := by
  unfold wrap64
  omega

theorem sum_calls (s : ByteArray) (w : World) (hs : s.size ≤ 140737488355328) :
    Calls Tryz.prog 81 #[.string s] w fun e w' => e = .returned (.int .i64 (Oc.sum s.data.toList : Nat)) ∧ Below w.heap.size w w' := by
  have hx : bits .xor .u32 IntKind.u32.max ((Oc.on 4294967295 s.data.toList : Nat) : Int) = ((Oc.sum s.data.toList : Nat) : Int) := flip_bits _ (Oc.on_lt 4294967295 s.data.toList (by decide))
  have hw := wrap_u32 _ (Oc.sum_lt s.data.toList)
  go_enter Tryz.func81, Tryz.ntmps81
  go_wp2_with (go_at_call 96; refine (on_calls 4294967295 s _ (by decide) hs).mono ?_; rintro e w' ⟨rfl, hb⟩)
  exact bodyPost_ret (v := .int .i64 (Oc.sum s.data.toList : Nat)) (results_one rfl rfl) rfl ⟨rfl, hb⟩

/-- What has sum n, and s behind it. -/
def Oc.more (n : Nat) (l : List UInt8) : Nat := Oc.on (n ^^^ 4294967295) l ^^^ 4294967295
theorem Oc.more_lt (n : Nat) (l : List UInt8) (h : n < 4294967296) : Oc.more n l < 4294967296 := Nat.xor_lt_two_pow (n := 32) (Oc.on_lt _ _ (Nat.xor_lt_two_pow (n := 32) h (by decide))) (by decide)
theorem Oc.more_sum (a b : List UInt8) : Oc.more (Oc.sum a) b = Oc.sum (a ++ b) := by
  unfold Oc.more Oc.sum Oc.ones32
  rw [Nat.xor_assoc, Nat.xor_self, Nat.xor_zero, Oc.on_append]
theorem Oc.more_more (n : Nat) (a b : List UInt8) : Oc.more (Oc.more n a) b = Oc.more n (a ++ b) := by
  unfold Oc.more
  rw [Nat.xor_assoc, Nat.xor_self, Nat.xor_zero, Oc.on_append]

/-! ### The seal -/
theorem text_ne {a b : ByteArray} (h : ¬ a = b) : (a.toList == b.toList) = false := by
  rw [beq_eq_false_iff_ne, ByteArray.toList_eq, ByteArray.toList_eq]
  exact fun e => h (text_ext e)
def sealT (s : ByteArray) : ByteArray := s ++ bs (putL (Oc.sum s.data.toList) 4)
theorem app_size (a b : ByteArray) : (a ++ b).size = a.size + b.size := by simp
theorem sealT_size (s : ByteArray) : (sealT s).size = s.size + 4 := by rw [sealT, app_size, bs_size, putL_length]
def openT (s : ByteArray) : ByteArray × Int := if s.size < 4 then (bs [], 2) else if sealT (s.extract 0 (s.size - 4)) = s then (s.extract 0 (s.size - 4), 0) else (bs [], 2)

set_option maxRecDepth 100000 in
theorem seal_calls (s : ByteArray) (w : World) (hs : s.size ≤ 140737488355327) :
    Calls Tryz.prog 56 #[.string s] w fun e w' => e = .returned (.string (sealT s)) ∧ Below w.heap.size w w' := by
  have hlt := Oc.sum_lt s.data.toList
  have hp : putL (Oc.sum s.data.toList) 4 = putL (Oc.sum s.data.toList) 4 := rfl
  have hz : (bs (putL (Oc.sum s.data.toList) 4)).size = 4 := by rw [bs_size, putL_length]
  have hd : sealT s = s ++ bs (putL (Oc.sum s.data.toList) 4) := rfl
  clear hp
  generalize sealT s = T at *
  have hsum := fun w => sum_calls s w (by omega)
  generalize Oc.sum s.data.toList = n at *
  have HL := Lib.hid hlt
  have HD := Lib.hid hd
  have HZ := Lib.hid hz
  clear hlt hd hz
  go_enter Tryz.func56, Tryz.ntmps56
  go_wp2_with fail
  refine (hsum _).mono ?_
  rintro e w1 ⟨rfl, hb1⟩
  go_wp2_with fail
  refine (put_some n 4 _ (by decide) (by decide) (by have := HL.out; omega)).mono ?_
  rintro e w2 ⟨hb2, h2⟩
  have h3 : e = .returned (.tuple #[.string (bs (putL n 4)), .int .i64 0]) := by
    rcases h2 with ⟨_, h⟩ | ⟨h, _⟩
    · exact h
    · exact absurd HL.out (by have e : (256 : Nat) ^ 4 = 4294967296 := by decide
                              omega)
  subst h3
  clear h2
  have hz := HZ.out
  go_wp2_with fail
  exact bodyPost_ret (v := .string T) (results_one rfl (by rw [HD.out]; rfl)) rfl ⟨rfl, Ups.trans hb1 hb2⟩

set_option maxRecDepth 100000 in
theorem open_calls (s : ByteArray) (w : World) (hs : s.size ≤ 140737488355327) :
    Calls Tryz.prog 51 #[.string s] w fun e w' => e = .returned (.tuple #[.string (openT s).1, .int .i64 (openT s).2]) ∧ Below w.heap.size w w' := by
  by_cases h4 : s.size < 4
  · have ho : openT s = (bs [], 2) := by unfold openT; rw [if_pos h4]
    rw [ho]
    have h4' : (s.size : Int) < 4 := by omega
    clear ho h4
    go_enter Tryz.func51, Tryz.ntmps51
    go_wp2
    go_ret2
    exact ⟨rfl, Below.refl _ _⟩
  · have h4' : ¬ (s.size : Int) < 4 := by omega
    have hT : (s.extract 0 (s.size - 4)).size = s.size - 4 := by simp
    have hsl : ((s.size : Int) - 4).toNat = s.size - 4 := by omega
    by_cases he : sealT (s.extract 0 (s.size - 4)) = s
    · have ho : openT s = (s.extract 0 (s.size - 4), 0) := by unfold openT; rw [if_neg h4, if_pos he]
      rw [ho]
      have hse := fun w => seal_calls (s.extract 0 (s.size - 4)) w (by omega)
      rw [he] at hse
      clear ho he
      go_enter Tryz.func51, Tryz.ntmps51
      go_wp2_with fail
      refine (hse _).mono ?_
      rintro e w1 ⟨rfl, hb1⟩
      go_wp2_with fail
      go_ret2
      exact ⟨rfl, hb1⟩
    · have ho : openT s = (bs [], 2) := by unfold openT; rw [if_neg h4, if_neg he]
      rw [ho]
      have hse := fun w => seal_calls (s.extract 0 (s.size - 4)) w (by omega)
      generalize sealT (s.extract 0 (s.size - 4)) = T at *
      have hne := text_ne he
      clear ho
      go_enter Tryz.func51, Tryz.ntmps51
      go_wp2_with fail
      refine (hse _).mono ?_
      rintro e w1 ⟨rfl, hb1⟩
      go_wp2_with fail
      go_ret2
      exact ⟨rfl, hb1⟩

end Go.Proofs.YtmabpnkdagipfaaGreat
