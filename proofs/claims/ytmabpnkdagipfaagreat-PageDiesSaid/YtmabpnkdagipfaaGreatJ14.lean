/- Texts of this proof, one behind the other: Ref2, Ref4. -/
import Derived.Test.YtmabpnkdagipfaaGreatJ9
import Derived.Test.YtmabpnkdagipfaaGreatJ13

/- What ouroborosref02's functions come to. -/
namespace Go.Proofs.YtmabpnkdagipfaaGreat
open Go.RowKit

theorem Oc.S_div (n b : Nat) (hb : b < 2) (h : n % 2 ≠ b) : Oc.S (n ^^^ b) = n / 2 ^^^ 3988292384 := by
  have h1 := Oc.odd_xor n b
  have h2 := Oc.half_xor n b
  have e : b / 2 = 0 := by omega
  rw [e, Nat.xor_zero] at h2
  unfold Oc.S
  rw [if_pos (by omega), h2]
theorem Oc.S_even (n b : Nat) (hb : b < 2) (h : n % 2 = b) : Oc.S (n ^^^ b) = n / 2 := by
  have h1 := Oc.odd_xor n b
  have h2 := Oc.half_xor n b
  have e : b / 2 = 0 := by omega
  rw [e, Nat.xor_zero] at h2
  unfold Oc.S
  rw [if_neg (by omega), h2]

theorem rstep_calls (n b : Nat) (w : World) (hn : n < 4294967296) (hb : b < 2) :
    Calls Tryz.prog 103 #[.int .u32 n, .int .u32 b] w fun e w' => e = .returned (.int .u32 (Oc.S (n ^^^ b) : Nat)) ∧ w = w' := by
  by_cases h : n % 2 = b
  · have hS := Oc.S_even n b hb h
    rw [hS]
    have h' : ((n : Int) % 2 != b) = false := by
      have : (n : Int) % 2 = b := by omega
      simp [this]
    clear hS h
    go_enter Tryz.func103, Tryz.ntmps103
    go_wp2
    go_ret
    exact ⟨by simp, rfl⟩
  · have hS := Oc.S_div n b hb h
    rw [hS]
    have h' : ((n : Int) % 2 != b) = true := by
      have : ¬ (n : Int) % 2 = b := by omega
      simpa using this
    have hx : bits .xor .u32 ((n : Int) / 2) 3988292384 = ((n / 2 ^^^ 3988292384 : Nat) : Int) := poly_bits (n / 2) (by omega)
    clear hS h
    go_enter Tryz.func103, Tryz.ntmps103
    go_wp2
    go_ret
    exact ⟨by simp, rfl⟩

/-- Where the register stands behind k of a byte's bits, and what is left of the byte. -/
theorem Oc.bit_step (n c : Nat) (k : Nat) : Oc.Sk (k + 1) (n ^^^ c % 2 ^ (k + 1)) = Oc.S (Oc.Sk k (n ^^^ c % 2 ^ k) ^^^ (c / 2 ^ k % 2)) := by
  have h1 : c % 2 ^ (k + 1) = c % 2 ^ k ^^^ 2 ^ k * (c / 2 ^ k % 2) := by
    apply Nat.eq_of_testBit_eq
    intro i
    rw [Nat.testBit_xor, Nat.testBit_mod_two_pow, Nat.testBit_mod_two_pow, Nat.testBit_two_pow_mul]
    have h2 : (c / 2 ^ k % 2).testBit (i - k) = (decide (i - k < 1) && c.testBit (i - k + k)) := by
      have := Nat.testBit_mod_two_pow (c / 2 ^ k) 1 (i - k)
      rw [Nat.pow_one] at this
      rw [this, Nat.testBit_div_two_pow]
    rw [h2]
    rcases Nat.lt_trichotomy i k with h | rfl | h
    · have a1 : i < k + 1 := by omega
      have a2 : ¬ k ≤ i := by omega
      simp [a1, a2, h]
    · simp
    · have a1 : ¬ i < k + 1 := by omega
      have a2 : ¬ i < k := by omega
      have a3 : ¬ i - k < 1 := by omega
      simp [a1, a2, a3]
  rw [h1, ← Nat.xor_assoc, Oc.Sk_xor]
  have h3 : Oc.Sk (k + 1) (2 ^ k * (c / 2 ^ k % 2)) = Oc.S (c / 2 ^ k % 2) := by
    rw [Oc.Sk_succ, Oc.Sk_shl]
  rw [h3, Oc.Sk_succ, ← Oc.S_xor]

set_option maxRecDepth 100000 in
theorem ron_calls (n : Nat) (s : ByteArray) (w : World) (hn : n < 4294967296) (hs : s.size ≤ 140737488355328) :
    Calls Tryz.prog 97 #[.int .u32 n, .string s] w fun e w' => e = .returned (.int .u32 (Oc.on n s.data.toList : Nat)) ∧ w = w' := by
  go_enter Tryz.func97, Tryz.ntmps97
  go_wp2
  go_loop [0, 5] (fun m i => ∃ k : Nat, k ≤ s.size ∧ i = .int .i64 k ∧ m = .int .u32 (Oc.on n (s.data.toList.take k) : Nat)) (fun _ i => s.size - (intOf i).toNat)
  case atStart => exact ⟨0, Nat.zero_le _, rfl, rfl⟩
  case round =>
    obtain ⟨k, hk, rfl, rfl⟩ := hrel
    by_cases hlt : k < s.size
    · have hl : k < s.data.toList.length := by rw [toList_length]; exact hlt
      have hnext := on_take n s.data.toList k hl
      have hget : s.data.toList[k] = s[k]'hlt := rfl
      rw [hget] at hnext
      have hN := Oc.on_lt n (s.data.toList.take k) hn
      generalize Oc.on n (s.data.toList.take k) = N at *
      have hc8 := (s[k]'hlt).toNat_lt
      have HS := Lib.hid hnext
      clear hnext hget hl
      go_wp2
      generalize (s[k]'hlt).toNat = c at *
      go_loop [0, 6, 7] (fun m x j => ∃ q : Nat, q ≤ 8 ∧ j = .int .i64 q ∧ x = .int .u32 (c / 2 ^ q : Nat) ∧ m = .int .u32 (Oc.Sk q (N ^^^ c % 2 ^ q) : Nat)) (fun _ _ j => 8 - (intOf j).toNat)
      case atStart => exact ⟨0, by decide, rfl, by simp, by simp [Oc.Sk, Nat.mod_one]⟩
      case round =>
        obtain ⟨q, hq, rfl, rfl, rfl⟩ := hrel
        by_cases hlq : q < 8
        · have hb := Oc.bit_step N c q
          have hM : Oc.Sk q (N ^^^ c % 2 ^ q) < 4294967296 := Oc.Sk_lt _ _ (Nat.xor_lt_two_pow (n := 32) hN (Nat.lt_of_le_of_lt (Nat.mod_le _ _) (by omega)))
          have hd : c / 2 ^ (q + 1) = c / 2 ^ q / 2 := by rw [Nat.pow_succ, Nat.div_div_eq_div_mul]
          have hx : c / 2 ^ q < 256 := Nat.lt_of_le_of_lt (Nat.div_le_self _ _) (by omega)
          generalize Oc.Sk q (N ^^^ c % 2 ^ q) = M at *
          generalize c / 2 ^ q = x at *
          have hst := fun w => rstep_calls M (x % 2) w hM (Nat.mod_lt _ (by decide))
          have HB := Lib.hid hb
          have HD := Lib.hid hd
          clear hb hd
          go_wp2_with fail
          refine (hst _).mono ?_
          rintro e w' ⟨rfl, rfl⟩
          go_wp2_with fail
          go_round
          case rel => exact ⟨q + 1, by omega, by go_num, by rw [HD.out]; go_num, by rw [HB.out]⟩
          case measure => simp [intOf]; omega
        · obtain rfl : q = 8 := by omega
          have h8 : c % 2 ^ 8 = c := Nat.mod_eq_of_lt hc8
          rw [h8]
          go_wp2_with fail
          go_round
          case rel => exact ⟨k + 1, by omega, by go_num, by rw [HS.out]⟩
          case measure => simp [intOf]; omega
    · have hall : s.data.toList.take k = s.data.toList := List.take_of_length_le (by rw [toList_length]; omega)
      rw [hall]
      go_wp2
      go_ret
      exact ⟨rfl, rfl⟩

theorem flip_bits2 (n : Nat) (h : n < 4294967296) : bits .xor .u32 (n : Int) 4294967295 = ((n ^^^ 4294967295 : Nat) : Int) := u32_xor_nat n 4294967295 h (by decide)

theorem rsum_core (R M : Nat) (s : ByteArray) (w : World) (hx : bits .xor .u32 (R : Int) 4294967295 = (M : Int)) (hw : wrap64 (M : Int) = M)
    (hc : ∀ w, Calls Tryz.prog 97 #[.int .u32 4294967295, .string s] w fun e w' => e = .returned (.int .u32 R) ∧ w = w') :
    Calls Tryz.prog 86 #[.string s] w fun e w' => e = .returned (.int .i64 M) ∧ w = w' := by
  go_enter Tryz.func86, Tryz.ntmps86
  go_wp2_with fail
  refine (hc _).mono ?_
  rintro e w1 ⟨rfl, rfl⟩
  go_wp2_with fail
  exact bodyPost_ret (v := .int .i64 M) (results_one rfl (by simp [hw])) rfl ⟨rfl, rfl⟩
theorem rsum_calls (s : ByteArray) (w : World) (hs : s.size ≤ 140737488355328) :
    Calls Tryz.prog 86 #[.string s] w fun e w' => e = .returned (.int .i64 (Oc.sum s.data.toList : Nat)) ∧ w = w' :=
  rsum_core (Oc.on 4294967295 s.data.toList) _ s w (flip_bits2 _ (Oc.on_lt 4294967295 s.data.toList (by decide))) (wrap_u32 _ (Oc.sum_lt s.data.toList)) (fun w => ron_calls 4294967295 s w (by decide) hs)

set_option maxRecDepth 100000 in
theorem rseal_calls (s : ByteArray) (w : World) (hs : s.size ≤ 140737488355327) :
    Calls Tryz.prog 73 #[.string s] w fun e w' => e = .returned (.string (sealT s)) ∧ Below w.heap.size w w' := by
  have hlt := Oc.sum_lt s.data.toList
  have hz : (bs (putL (Oc.sum s.data.toList) 4)).size = 4 := by rw [bs_size, putL_length]
  have hd : sealT s = s ++ bs (putL (Oc.sum s.data.toList) 4) := rfl
  generalize sealT s = T at *
  have hsum := fun w => rsum_calls s w (by omega)
  generalize Oc.sum s.data.toList = n at *
  have HL := Lib.hid hlt
  have HD := Lib.hid hd
  have HZ := Lib.hid hz
  clear hlt hd hz
  go_enter Tryz.func73, Tryz.ntmps73
  go_wp2_with fail
  refine (hsum _).mono ?_
  rintro e w1 ⟨rfl, rfl⟩
  go_wp2_with fail
  refine (ref_put_some n 4 _ (by decide) (by decide) (by have := HL.out; omega)).mono ?_
  rintro e w2 ⟨hb2, h2⟩
  have h3 : e = .returned (.tuple #[.string (bs (putL n 4)), .int .i64 0]) := by
    rcases h2 with ⟨_, h⟩ | ⟨h, _⟩
    · exact h
    · exact absurd HL.out (by have e : (256 : Nat) ^ 4 = 4294967296 := by decide
                              omega)
  subst h3
  clear h2
  have hz := HZ.out
  go_wp2_with fail
  exact bodyPost_ret (v := .string T) (results_one rfl (by rw [HD.out]; rfl)) rfl ⟨rfl, hb2⟩

end Go.Proofs.YtmabpnkdagipfaaGreat

/- What ouroborosref04's functions come to. -/
namespace Go.Proofs.YtmabpnkdagipfaaGreat
open Go.RowKit

/-- A record of a payload. -/
def makeT (s : ByteArray) : ByteArray := sealT s ++ notT (sealT s)
theorem makeT_size (s : ByteArray) : (makeT s).size = 2 * (s.size + 4) := by rw [makeT, app_size, notT_size, sealT_size]; omega
def sizeF (n : Int) : Int := if n < 0 ∨ 4000 < n then 0 else 2 * (n + 4)
def rreadT (s : ByteArray) : ByteArray × Int :=
  if s.size < 8 ∨ s.size % 2 = 1 then (bs [], 2) else if makeT (s.extract 0 (s.size / 2 - 4)) = s then (s.extract 0 (s.size / 2 - 4), 0) else (bs [], 2)

theorem rnot_t (a : ByteArray) (w : World) (h : a.size ≤ 100000) :
    Calls Tryz.prog 67 #[.string a] w fun e w' => e = .returned (.string (notT a)) ∧ Ups w w' := ref_not a w h

set_option maxRecDepth 100000 in
theorem rmake_calls (s : ByteArray) (w : World) (hs : s.size ≤ 90000) :
    Calls Tryz.prog 44 #[.string s] w fun e w' => e = .returned (.string (makeT s)) ∧ Ups w w' := by
  have z := sealT_size s
  have z2 := notT_size (sealT s)
  have hd : makeT s = sealT s ++ notT (sealT s) := rfl
  have hsl := fun w => rseal_calls s w (by omega)
  generalize makeT s = M at *
  generalize sealT s = T at *
  have HD := Lib.hid hd
  clear hd
  go_enter Tryz.func44, Tryz.ntmps44
  go_wp2_with fail
  refine (hsl _).mono ?_
  rintro e w1 ⟨rfl, hb1⟩
  go_wp2_with fail
  refine (rnot_t T _ (by omega)).mono ?_
  rintro e w2 ⟨rfl, hb2⟩
  go_wp2_with fail
  exact bodyPost_ret (v := .string M) (results_one rfl (by rw [HD.out]; rfl)) rfl ⟨rfl, Ups.trans hb1 hb2⟩

set_option maxRecDepth 100000 in
theorem rsize_calls (n : Int) (w : World) :
    Calls Tryz.prog 30 #[.int .i64 n] w fun e w' => e = .returned (.int .i64 (sizeF n)) ∧ w = w' := by
  by_cases h : n < 0
  · have hf : sizeF n = 0 := by unfold sizeF; rw [if_pos (.inl h)]
    rw [hf]
    clear hf
    go_enter Tryz.func30, Tryz.ntmps30
    go_wp2
    go_ret
    exact ⟨rfl, rfl⟩
  by_cases h2 : 4000 < n
  · have hf : sizeF n = 0 := by unfold sizeF; rw [if_pos (.inr h2)]
    rw [hf]
    clear hf
    go_enter Tryz.func30, Tryz.ntmps30
    go_wp2
    go_ret
    exact ⟨rfl, rfl⟩
  · have hf : sizeF n = 2 * (n + 4) := by unfold sizeF; rw [if_neg (by omega)]
    rw [hf]
    clear hf
    go_enter Tryz.func30, Tryz.ntmps30
    go_wp2
    go_ret
    exact ⟨by simp, rfl⟩

set_option maxRecDepth 100000 in
theorem rread_calls (s : ByteArray) (w : World) (hs : s.size ≤ 90000) :
    Calls Tryz.prog 33 #[.string s] w fun e w' => e = .returned (.tuple #[.string (rreadT s).1, .int .i64 (rreadT s).2]) ∧ Ups w w' := by
  by_cases h8 : s.size < 8
  · have hf : rreadT s = (bs [], 2) := by unfold rreadT; rw [if_pos (.inl h8)]
    rw [hf]
    have h8' : (s.size : Int) < 8 := by omega
    clear hf h8
    go_enter Tryz.func33, Tryz.ntmps33
    go_wp2
    go_ret2
    exact ⟨rfl, Ups.refl _⟩
  have h8' : ¬ (s.size : Int) < 8 := by omega
  by_cases ho : s.size % 2 = 1
  · have hf : rreadT s = (bs [], 2) := by unfold rreadT; rw [if_pos (.inr ho)]
    rw [hf]
    have ho' : (s.size : Int) % 2 = 1 := by omega
    clear hf ho
    go_enter Tryz.func33, Tryz.ntmps33
    go_wp2
    go_ret2
    exact ⟨rfl, Ups.refl _⟩
  have ho' : ¬ (s.size : Int) % 2 = 1 := by omega
  have hT : (s.extract 0 (s.size / 2 - 4)).size = s.size / 2 - 4 := by simp; omega
  have hsl : ((s.size : Int) / 2 - 4).toNat = s.size / 2 - 4 := by omega
  have hin : (0 : Int) ≤ (s.size : Int) / 2 - 4 ∧ (s.size : Int) / 2 - 4 ≤ s.size := by omega
  by_cases he : makeT (s.extract 0 (s.size / 2 - 4)) = s
  · have hf : rreadT s = (s.extract 0 (s.size / 2 - 4), 0) := by unfold rreadT; rw [if_neg (by omega), if_pos he]
    rw [hf]
    have hse := fun w => rmake_calls (s.extract 0 (s.size / 2 - 4)) w (by omega)
    rw [he] at hse
    clear hf he h8 ho
    go_enter Tryz.func33, Tryz.ntmps33
    go_wp2_with fail
    refine (hse _).mono ?_
    rintro e w1 ⟨rfl, hb1⟩
    go_wp2_with fail
    go_ret2
    exact ⟨rfl, hb1⟩
  · have hf : rreadT s = (bs [], 2) := by unfold rreadT; rw [if_neg (by omega), if_neg he]
    rw [hf]
    have hse := fun w => rmake_calls (s.extract 0 (s.size / 2 - 4)) w (by omega)
    generalize makeT (s.extract 0 (s.size / 2 - 4)) = T at *
    have hne := text_ne he
    clear hf h8 ho
    go_enter Tryz.func33, Tryz.ntmps33
    go_wp2_with fail
    refine (hse _).mono ?_
    rintro e w1 ⟨rfl, hb1⟩
    go_wp2_with fail
    go_ret2
    exact ⟨rfl, hb1⟩

def clearT (s : ByteArray) : Bool := decide (s = bs (List.replicate s.size 255))
set_option maxRecDepth 100000 in
theorem rclear_calls (s : ByteArray) (w : World) (hs : s.size ≤ 90000) :
    Calls Tryz.prog 34 #[.string s] w fun e w' => e = .returned (.bool (clearT s)) ∧ Ups w w' := by
  have hon := fun w => ref_ones s.size w (by omega)
  by_cases he : s = bs (List.replicate s.size 255)
  · have hf : clearT s = true := by unfold clearT; exact decide_eq_true he
    rw [hf]
    rw [← he] at hon
    clear hf he
    go_enter Tryz.func34, Tryz.ntmps34
    go_wp2_with fail
    refine (hon _).mono ?_
    rintro e w1 ⟨rfl, hb1⟩
    go_wp2_with fail
    go_ret
    exact ⟨by simp, hb1⟩
  · have hf : clearT s = false := by unfold clearT; exact decide_eq_false he
    rw [hf]
    have hne := text_ne he
    generalize bs (List.replicate s.size 255) = T at *
    clear hf he
    go_enter Tryz.func34, Tryz.ntmps34
    go_wp2_with fail
    refine (hon _).mono ?_
    rintro e w1 ⟨rfl, hb1⟩
    go_wp2_with fail
    go_ret
    exact ⟨by simp, hb1⟩

end Go.Proofs.YtmabpnkdagipfaaGreat
