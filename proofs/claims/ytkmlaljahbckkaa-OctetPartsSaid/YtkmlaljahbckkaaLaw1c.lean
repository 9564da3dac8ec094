/- The laws of layer 1 (octet) on bits: the walks. -/
import Derived.Test.YtkmlaljahbckkaaLaw1b
import Derived.Outline
namespace Go.Proofs.Ytkmlaljahbckkaa
open Go.RowKit

set_option maxRecDepth 100000 in
set_option maxHeartbeats 1000000 in
theorem bits_walk (a b : ByteArray) (n : Int) (w : World) :
    Calls Try.prog 4 #[.string a, .string b, .int .i64 n] w fun e w' => e = .returned (.bool true) ∧ Below w.heap.size w w' := by
  by_cases h1 : (300 : Int) < a.size
  · go_enter Try.func4, Try.ntmps4
    go_wp2_with fail
    refine (works1 _).mono ?_
    rintro e w1 ⟨rfl, hb1⟩
    go_wp2_with fail
    exact bodyPost_ret (v := .bool true) (results_one rfl rfl) rfl ⟨rfl, hb1⟩
  by_cases h2 : (300 : Int) < b.size
  · go_enter Try.func4, Try.ntmps4
    go_wp2_with fail
    refine (works1 _).mono ?_
    rintro e w1 ⟨rfl, hb1⟩
    go_wp2_with fail
    exact bodyPost_ret (v := .bool true) (results_one rfl rfl) rfl ⟨rfl, hb1⟩
  by_cases h3 : (300 : Int) < n
  · by_cases h4 : n ≤ 100000
    · go_enter Try.func4, Try.ntmps4
      go_wp2_with fail
      refine (works1 _).mono ?_
      rintro e w1 ⟨rfl, hb1⟩
      go_wp2_with fail
      exact bodyPost_ret (v := .bool true) (results_one rfl rfl) rfl ⟨rfl, hb1⟩
    · go_enter Try.func4, Try.ntmps4
      go_wp2_with fail
      refine (works1 _).mono ?_
      rintro e w1 ⟨rfl, hb1⟩
      go_wp2_with fail
      refine (rand_t a b _ (by omega)).mono ?_
      rintro e w2 ⟨rfl, hb2⟩
      go_wp2_with fail
      refine (ror_t a b _ (by omega)).mono ?_
      rintro e w3 ⟨rfl, hb3⟩
      go_wp2_with fail
      refine (rxor_t a b _ (by omega)).mono ?_
      rintro e w4 ⟨rfl, hb4⟩
      go_wp2_with fail
      refine (rnot_t a _ (by omega)).mono ?_
      rintro e w5 ⟨rfl, hb5⟩
      go_wp2_with fail
      refine (rones_t n _).mono ?_
      rintro e w6 ⟨rfl, hb6⟩
      go_wp2_with fail
      refine (rcount_t a _ (by omega)).mono ?_
      rintro e w7 ⟨rfl, rfl⟩
      go_wp2_with fail
      refine (and_t a b _ (by omega) (by omega)).mono ?_
      rintro e w8 ⟨rfl, hb8⟩
      go_wp2_with fail
      refine (or_t a b _ (by omega) (by omega)).mono ?_
      rintro e w9 ⟨rfl, hb9⟩
      go_wp2_with fail
      refine (xor_t a b _ (by omega) (by omega)).mono ?_
      rintro e w10 ⟨rfl, hb10⟩
      go_wp2_with fail
      refine (not_t a _ (by omega)).mono ?_
      rintro e w11 ⟨rfl, hb11⟩
      go_wp2_with fail
      refine (ones_t n _).mono ?_
      rintro e w12 ⟨rfl, hb12⟩
      go_wp2_with fail
      refine (count_t a _ (by omega)).mono ?_
      rintro e w13 ⟨rfl, rfl⟩
      go_wp2_with fail
      exact bodyPost_ret (v := .bool true) (results_one rfl rfl) rfl ⟨rfl, Ups.trans hb1 (Ups.trans hb2 (Ups.trans hb3 (Ups.trans hb4 (Ups.trans hb5 (Ups.trans hb6 (Ups.trans hb8 (Ups.trans hb9 (Ups.trans hb10 (Ups.trans hb11 (hb12))))))))))⟩
  · go_enter Try.func4, Try.ntmps4
    go_wp2_with fail
    refine (works1 _).mono ?_
    rintro e w1 ⟨rfl, hb1⟩
    go_wp2_with fail
    refine (rand_t a b _ (by omega)).mono ?_
    rintro e w2 ⟨rfl, hb2⟩
    go_wp2_with fail
    refine (ror_t a b _ (by omega)).mono ?_
    rintro e w3 ⟨rfl, hb3⟩
    go_wp2_with fail
    refine (rxor_t a b _ (by omega)).mono ?_
    rintro e w4 ⟨rfl, hb4⟩
    go_wp2_with fail
    refine (rnot_t a _ (by omega)).mono ?_
    rintro e w5 ⟨rfl, hb5⟩
    go_wp2_with fail
    refine (rones_t n _).mono ?_
    rintro e w6 ⟨rfl, hb6⟩
    go_wp2_with fail
    refine (rcount_t a _ (by omega)).mono ?_
    rintro e w7 ⟨rfl, rfl⟩
    go_wp2_with fail
    refine (and_t a b _ (by omega) (by omega)).mono ?_
    rintro e w8 ⟨rfl, hb8⟩
    go_wp2_with fail
    refine (or_t a b _ (by omega) (by omega)).mono ?_
    rintro e w9 ⟨rfl, hb9⟩
    go_wp2_with fail
    refine (xor_t a b _ (by omega) (by omega)).mono ?_
    rintro e w10 ⟨rfl, hb10⟩
    go_wp2_with fail
    refine (not_t a _ (by omega)).mono ?_
    rintro e w11 ⟨rfl, hb11⟩
    go_wp2_with fail
    refine (ones_t n _).mono ?_
    rintro e w12 ⟨rfl, hb12⟩
    go_wp2_with fail
    refine (count_t a _ (by omega)).mono ?_
    rintro e w13 ⟨rfl, rfl⟩
    go_wp2_with fail
    exact bodyPost_ret (v := .bool true) (results_one rfl rfl) rfl ⟨rfl, Ups.trans hb1 (Ups.trans hb2 (Ups.trans hb3 (Ups.trans hb4 (Ups.trans hb5 (Ups.trans hb6 (Ups.trans hb8 (Ups.trans hb9 (Ups.trans hb10 (Ups.trans hb11 (hb12))))))))))⟩

set_option maxRecDepth 100000 in
set_option maxHeartbeats 1000000 in
theorem turns_walk (a b : ByteArray) (w : World) :
    Calls Try.prog 6 #[.string a, .string b] w fun e w' => e = .returned (.bool true) ∧ Below w.heap.size w w' := by
  by_cases h1 : (300 : Int) < a.size
  · go_enter Try.func6, Try.ntmps6
    go_wp2_with fail
    refine (works1 _).mono ?_
    rintro e w1 ⟨rfl, hb1⟩
    go_wp2_with fail
    exact bodyPost_ret (v := .bool true) (results_one rfl rfl) rfl ⟨rfl, hb1⟩
  by_cases h2 : (300 : Int) < b.size
  · go_enter Try.func6, Try.ntmps6
    go_wp2_with fail
    refine (works1 _).mono ?_
    rintro e w1 ⟨rfl, hb1⟩
    go_wp2_with fail
    exact bodyPost_ret (v := .bool true) (results_one rfl rfl) rfl ⟨rfl, hb1⟩
  by_cases h3 : (a.size : Int) = b.size
  · have h3' : b.size = a.size := by omega
    have f1 := t_not2 a
    have f2 := t_xor2 a b
    have f3 := t_and1 a
    have f4 := t_or1 a
    have s1 := tNot_size a
    have s2 := tXor_size a b
    have s3 := tAnd_size a b
    have s4 := tOr_size a b
    have s5 := tNot_size b
    have g1 := t_d1 a b h3'
    have g2 := t_d2 a b h3'
    have g3 := t_and a b h3'
    have g4 := t_or a b h3'
    have g5 := t_xor a b h3'
    go_enter Try.func6, Try.ntmps6
    go_wp2_with fail
    refine (works1 _).mono ?_
    rintro e w1 ⟨rfl, hb1⟩
    go_wp2_with fail
    refine (not_t a _ (by omega)).mono ?_
    rintro e w2 ⟨rfl, hb2⟩
    go_wp2_with fail
    refine (not_t (tNot a) _ (by omega)).mono ?_
    rintro e w3 ⟨rfl, hb3⟩
    go_wp2_with fail
    refine (xor_t a b _ (by omega) (by omega)).mono ?_
    rintro e w4 ⟨rfl, hb4⟩
    go_wp2_with fail
    refine (xor_t (tXor a b) b _ (by omega) (by omega)).mono ?_
    rintro e w5 ⟨rfl, hb5⟩
    go_wp2_with fail
    refine (and_t a a _ (by omega) (by omega)).mono ?_
    rintro e w6 ⟨rfl, hb6⟩
    go_wp2_with fail
    refine (or_t a a _ (by omega) (by omega)).mono ?_
    rintro e w7 ⟨rfl, hb7⟩
    go_wp2_with fail
    refine (and_t a b _ (by omega) (by omega)).mono ?_
    rintro e w8 ⟨rfl, hb8⟩
    go_wp2_with fail
    refine (not_t (tAnd a b) _ (by omega)).mono ?_
    rintro e w9 ⟨rfl, hb9⟩
    go_wp2_with fail
    refine (not_t a _ (by omega)).mono ?_
    rintro e w10 ⟨rfl, hb10⟩
    go_wp2_with fail
    refine (not_t b _ (by omega)).mono ?_
    rintro e w11 ⟨rfl, hb11⟩
    go_wp2_with fail
    refine (or_t (tNot a) (tNot b) _ (by omega) (by omega)).mono ?_
    rintro e w12 ⟨rfl, hb12⟩
    go_wp2_with fail
    refine (or_t a b _ (by omega) (by omega)).mono ?_
    rintro e w13 ⟨rfl, hb13⟩
    go_wp2_with fail
    refine (not_t (tOr a b) _ (by omega)).mono ?_
    rintro e w14 ⟨rfl, hb14⟩
    go_wp2_with fail
    refine (not_t a _ (by omega)).mono ?_
    rintro e w15 ⟨rfl, hb15⟩
    go_wp2_with fail
    refine (not_t b _ (by omega)).mono ?_
    rintro e w16 ⟨rfl, hb16⟩
    go_wp2_with fail
    refine (and_t (tNot a) (tNot b) _ (by omega) (by omega)).mono ?_
    rintro e w17 ⟨rfl, hb17⟩
    go_wp2_with fail
    refine (and_t a b _ (by omega) (by omega)).mono ?_
    rintro e w18 ⟨rfl, hb18⟩
    go_wp2_with fail
    refine (and_t b a _ (by omega) (by omega)).mono ?_
    rintro e w19 ⟨rfl, hb19⟩
    go_wp2_with fail
    refine (or_t a b _ (by omega) (by omega)).mono ?_
    rintro e w20 ⟨rfl, hb20⟩
    go_wp2_with fail
    refine (or_t b a _ (by omega) (by omega)).mono ?_
    rintro e w21 ⟨rfl, hb21⟩
    go_wp2_with fail
    refine (xor_t a b _ (by omega) (by omega)).mono ?_
    rintro e w22 ⟨rfl, hb22⟩
    go_wp2_with fail
    refine (xor_t b a _ (by omega) (by omega)).mono ?_
    rintro e w23 ⟨rfl, hb23⟩
    go_wp2_with fail
    exact bodyPost_ret (v := .bool true) (results_one rfl rfl) rfl ⟨rfl, Ups.trans hb1 (Ups.trans hb2 (Ups.trans hb3 (Ups.trans hb4 (Ups.trans hb5 (Ups.trans hb6 (Ups.trans hb7 (Ups.trans hb8 (Ups.trans hb9 (Ups.trans hb10 (Ups.trans hb11 (Ups.trans hb12 (Ups.trans hb13 (Ups.trans hb14 (Ups.trans hb15 (Ups.trans hb16 (Ups.trans hb17 (Ups.trans hb18 (Ups.trans hb19 (Ups.trans hb20 (Ups.trans hb21 (Ups.trans hb22 (hb23))))))))))))))))))))))⟩
  · have f1 := t_not2 a
    have f2 := t_xor2 a b
    have f3 := t_and1 a
    have f4 := t_or1 a
    have s1 := tNot_size a
    have s2 := tXor_size a b
    have s3 := tAnd_size a b
    have s4 := tOr_size a b
    have s5 := tNot_size b
    go_enter Try.func6, Try.ntmps6
    go_wp2_with fail
    refine (works1 _).mono ?_
    rintro e w1 ⟨rfl, hb1⟩
    go_wp2_with fail
    refine (not_t a _ (by omega)).mono ?_
    rintro e w2 ⟨rfl, hb2⟩
    go_wp2_with fail
    refine (not_t (tNot a) _ (by omega)).mono ?_
    rintro e w3 ⟨rfl, hb3⟩
    go_wp2_with fail
    refine (xor_t a b _ (by omega) (by omega)).mono ?_
    rintro e w4 ⟨rfl, hb4⟩
    go_wp2_with fail
    refine (xor_t (tXor a b) b _ (by omega) (by omega)).mono ?_
    rintro e w5 ⟨rfl, hb5⟩
    go_wp2_with fail
    refine (and_t a a _ (by omega) (by omega)).mono ?_
    rintro e w6 ⟨rfl, hb6⟩
    go_wp2_with fail
    refine (or_t a a _ (by omega) (by omega)).mono ?_
    rintro e w7 ⟨rfl, hb7⟩
    go_wp2_with fail
    exact bodyPost_ret (v := .bool true) (results_one rfl rfl) rfl ⟨rfl, Ups.trans hb1 (Ups.trans hb2 (Ups.trans hb3 (Ups.trans hb4 (Ups.trans hb5 (Ups.trans hb6 (hb7))))))⟩

set_option maxRecDepth 100000 in
set_option maxHeartbeats 1000000 in
theorem counts_walk (a b : ByteArray) (w : World) :
    Calls Try.prog 7 #[.string a, .string b] w fun e w' => e = .returned (.bool true) ∧ Below w.heap.size w w' := by
  by_cases h1 : (300 : Int) < a.size
  · go_enter Try.func7, Try.ntmps7
    go_wp2_with fail
    refine (works1 _).mono ?_
    rintro e w1 ⟨rfl, hb1⟩
    go_wp2_with fail
    exact bodyPost_ret (v := .bool true) (results_one rfl rfl) rfl ⟨rfl, hb1⟩
  by_cases h3 : (b.size : Int) = a.size
  · have h3' : b.size = a.size := by omega
    have s1 := tAnd_size a b
    have s2 := tOr_size a b
    have s3 := tXor_size a b
    have s4 := tNot_size a
    have s5 : (tOnes a.size).size = a.size := by unfold tOnes; rw [if_neg (by omega), bs_size]; simp
    have n0 := t_count_le a
    have n1 := t_count_le b
    have n2 := t_count_le (tAnd a b)
    have n3 := t_count_le (tOr a b)
    have n4 := t_count_le (tXor a b)
    have n5 := t_count_le (tNot a)
    have n6 := t_count_le (tOnes a.size)
    have c1 := t_c1 a b h3'
    have c2 := t_c2 a b h3'
    have c3 := t_c3 a
    have c4 := t_c4 a.size (by omega)
    go_enter Try.func7, Try.ntmps7
    go_wp2_with fail
    refine (works1 _).mono ?_
    rintro e w1 ⟨rfl, hb1⟩
    go_wp2_with fail
    refine (and_t a b _ (by omega) (by omega)).mono ?_
    rintro e w2 ⟨rfl, hb2⟩
    go_wp2_with fail
    refine (count_t (tAnd a b) _ (by omega)).mono ?_
    rintro e w3 ⟨rfl, rfl⟩
    go_wp2_with fail
    refine (or_t a b _ (by omega) (by omega)).mono ?_
    rintro e w4 ⟨rfl, hb4⟩
    go_wp2_with fail
    refine (count_t (tOr a b) _ (by omega)).mono ?_
    rintro e w5 ⟨rfl, rfl⟩
    go_wp2_with fail
    refine (xor_t a b _ (by omega) (by omega)).mono ?_
    rintro e w6 ⟨rfl, hb6⟩
    go_wp2_with fail
    refine (count_t (tXor a b) _ (by omega)).mono ?_
    rintro e w7 ⟨rfl, rfl⟩
    go_wp2_with fail
    refine (count_t a _ (by omega)).mono ?_
    rintro e w8 ⟨rfl, rfl⟩
    go_wp2_with fail
    refine (count_t b _ (by omega)).mono ?_
    rintro e w9 ⟨rfl, rfl⟩
    go_wp2_with fail
    refine (count_t a _ (by omega)).mono ?_
    rintro e w10 ⟨rfl, rfl⟩
    go_wp2_with fail
    refine (not_t a _ (by omega)).mono ?_
    rintro e w11 ⟨rfl, hb11⟩
    go_wp2_with fail
    refine (count_t (tNot a) _ (by omega)).mono ?_
    rintro e w12 ⟨rfl, rfl⟩
    go_wp2_with fail
    refine (ones_t a.size _).mono ?_
    rintro e w13 ⟨rfl, hb13⟩
    go_wp2_with fail
    refine (count_t (tOnes a.size) _ (by omega)).mono ?_
    rintro e w14 ⟨rfl, rfl⟩
    go_wp2_with fail
    exact bodyPost_ret (v := .bool true) (results_one rfl rfl) rfl ⟨rfl, Ups.trans hb1 (Ups.trans hb2 (Ups.trans hb4 (Ups.trans hb6 (Ups.trans hb11 (hb13)))))⟩
  · have h3n : ((b.size : Int) != a.size) = true := by simpa using h3
    go_enter Try.func7, Try.ntmps7
    go_wp2_with fail
    refine (works1 _).mono ?_
    rintro e w1 ⟨rfl, hb1⟩
    go_wp2_with fail
    exact bodyPost_ret (v := .bool true) (results_one rfl rfl) rfl ⟨rfl, hb1⟩

set_option maxRecDepth 100000 in
set_option maxHeartbeats 1000000 in
theorem lattice_walk (a b c : ByteArray) (w : World) :
    Calls Try.prog 8 #[.string a, .string b, .string c] w fun e w' => e = .returned (.bool true) ∧ Below w.heap.size w w' := by
  by_cases h1 : (300 : Int) < a.size
  · go_enter Try.func8, Try.ntmps8
    go_wp2_with fail
    refine (works1 _).mono ?_
    rintro e w1 ⟨rfl, hb1⟩
    go_wp2_with fail
    exact bodyPost_ret (v := .bool true) (results_one rfl rfl) rfl ⟨rfl, hb1⟩
  by_cases h2 : (b.size : Int) = a.size
  · by_cases h3 : (c.size : Int) = a.size
    · have h2' : b.size = a.size := by omega
      have h3' : c.size = a.size := by omega
      have s0 := tAnd_size a b
      have s1 := tOr_size a b
      have s2 := tAnd_size a c
      have s3 := tOr_size a c
      have s4 := tAnd_size b c
      have s5 := tOr_size b c
      have f1 := t_l1 a b h2'
      have f2 := t_l2 a b h2'
      have f3 := t_l3 a b c h2' h3'
      have f4 := t_l4 a b c h2' h3'
      go_enter Try.func8, Try.ntmps8
      go_wp2_with fail
      refine (works1 _).mono ?_
      rintro e w1 ⟨rfl, hb1⟩
      go_wp2_with fail
      refine (or_t a b _ (by omega) (by omega)).mono ?_
      rintro e w2 ⟨rfl, hb2⟩
      go_wp2_with fail
      refine (and_t a (tOr a b) _ (by omega) (by omega)).mono ?_
      rintro e w3 ⟨rfl, hb3⟩
      go_wp2_with fail
      refine (and_t a b _ (by omega) (by omega)).mono ?_
      rintro e w4 ⟨rfl, hb4⟩
      go_wp2_with fail
      refine (or_t a (tAnd a b) _ (by omega) (by omega)).mono ?_
      rintro e w5 ⟨rfl, hb5⟩
      go_wp2_with fail
      refine (or_t b c _ (by omega) (by omega)).mono ?_
      rintro e w6 ⟨rfl, hb6⟩
      go_wp2_with fail
      refine (and_t a (tOr b c) _ (by omega) (by omega)).mono ?_
      rintro e w7 ⟨rfl, hb7⟩
      go_wp2_with fail
      refine (and_t a b _ (by omega) (by omega)).mono ?_
      rintro e w8 ⟨rfl, hb8⟩
      go_wp2_with fail
      refine (and_t a c _ (by omega) (by omega)).mono ?_
      rintro e w9 ⟨rfl, hb9⟩
      go_wp2_with fail
      refine (or_t (tAnd a b) (tAnd a c) _ (by omega) (by omega)).mono ?_
      rintro e w10 ⟨rfl, hb10⟩
      go_wp2_with fail
      refine (and_t b c _ (by omega) (by omega)).mono ?_
      rintro e w11 ⟨rfl, hb11⟩
      go_wp2_with fail
      refine (or_t a (tAnd b c) _ (by omega) (by omega)).mono ?_
      rintro e w12 ⟨rfl, hb12⟩
      go_wp2_with fail
      refine (or_t a b _ (by omega) (by omega)).mono ?_
      rintro e w13 ⟨rfl, hb13⟩
      go_wp2_with fail
      refine (or_t a c _ (by omega) (by omega)).mono ?_
      rintro e w14 ⟨rfl, hb14⟩
      go_wp2_with fail
      refine (and_t (tOr a b) (tOr a c) _ (by omega) (by omega)).mono ?_
      rintro e w15 ⟨rfl, hb15⟩
      go_wp2_with fail
      exact bodyPost_ret (v := .bool true) (results_one rfl rfl) rfl ⟨rfl, Ups.trans hb1 (Ups.trans hb2 (Ups.trans hb3 (Ups.trans hb4 (Ups.trans hb5 (Ups.trans hb6 (Ups.trans hb7 (Ups.trans hb8 (Ups.trans hb9 (Ups.trans hb10 (Ups.trans hb11 (Ups.trans hb12 (Ups.trans hb13 (Ups.trans hb14 (hb15))))))))))))))⟩
    · have h3n : ((c.size : Int) != a.size) = true := by simpa using h3
      go_enter Try.func8, Try.ntmps8
      go_wp2_with fail
      refine (works1 _).mono ?_
      rintro e w1 ⟨rfl, hb1⟩
      go_wp2_with fail
      exact bodyPost_ret (v := .bool true) (results_one rfl rfl) rfl ⟨rfl, hb1⟩
  · have h2n : ((b.size : Int) != a.size) = true := by simpa using h2
    go_enter Try.func8, Try.ntmps8
    go_wp2_with fail
    refine (works1 _).mono ?_
    rintro e w1 ⟨rfl, hb1⟩
    go_wp2_with fail
    exact bodyPost_ret (v := .bool true) (results_one rfl rfl) rfl ⟨rfl, hb1⟩

set_option maxRecDepth 100000 in
set_option maxHeartbeats 1000000 in
theorem parts_walk (a b c d : ByteArray) (w : World) :
    Calls Try.prog 9 #[.string a, .string b, .string c, .string d] w fun e w' => e = .returned (.bool true) ∧ Below w.heap.size w w' := by
  by_cases h1 : (300 : Int) < a.size
  · go_enter Try.func9, Try.ntmps9
    go_wp2_with fail
    refine (works1 _).mono ?_
    rintro e w1 ⟨rfl, hb1⟩
    go_wp2_with fail
    exact bodyPost_ret (v := .bool true) (results_one rfl rfl) rfl ⟨rfl, hb1⟩
  by_cases h2 : (300 : Int) < c.size
  · go_enter Try.func9, Try.ntmps9
    go_wp2_with fail
    refine (works1 _).mono ?_
    rintro e w1 ⟨rfl, hb1⟩
    go_wp2_with fail
    exact bodyPost_ret (v := .bool true) (results_one rfl rfl) rfl ⟨rfl, hb1⟩
  by_cases h3 : (b.size : Int) = a.size
  · by_cases h4 : (d.size : Int) = c.size
    · have h3' : b.size = a.size := by omega
      have h4' : d.size = c.size := by omega
      have s1 : (a ++ c).size = a.size + c.size := by simp
      have s2 : (b ++ d).size = b.size + d.size := by simp
      have f1 := t_pand a b c d h3'
      have f2 := t_por a b c d h3'
      have f3 := t_pxor a b c d h3'
      have f4 := t_pnot a c
      have f5 := t_pcount a c
      have n1 := t_count_le a
      have n2 := t_count_le c
      have z0 := tAnd_size a b
      have z1 := tAnd_size c d
      have z2 := tOr_size a b
      have z3 := tOr_size c d
      have z4 := tXor_size a b
      have z5 := tXor_size c d
      have z6 := tNot_size a
      have z7 := tNot_size c
      go_enter Try.func9, Try.ntmps9
      go_wp2_with fail
      refine (works1 _).mono ?_
      rintro e w1 ⟨rfl, hb1⟩
      go_wp2_with fail
      refine (and_t (a ++ c) (b ++ d) _ (by omega) (by omega)).mono ?_
      rintro e w2 ⟨rfl, hb2⟩
      go_wp2_with fail
      refine (and_t a b _ (by omega) (by omega)).mono ?_
      rintro e w3 ⟨rfl, hb3⟩
      go_wp2_with fail
      refine (and_t c d _ (by omega) (by omega)).mono ?_
      rintro e w4 ⟨rfl, hb4⟩
      go_wp2_with fail
      refine (or_t (a ++ c) (b ++ d) _ (by omega) (by omega)).mono ?_
      rintro e w5 ⟨rfl, hb5⟩
      go_wp2_with fail
      refine (or_t a b _ (by omega) (by omega)).mono ?_
      rintro e w6 ⟨rfl, hb6⟩
      go_wp2_with fail
      refine (or_t c d _ (by omega) (by omega)).mono ?_
      rintro e w7 ⟨rfl, hb7⟩
      go_wp2_with fail
      refine (xor_t (a ++ c) (b ++ d) _ (by omega) (by omega)).mono ?_
      rintro e w8 ⟨rfl, hb8⟩
      go_wp2_with fail
      refine (xor_t a b _ (by omega) (by omega)).mono ?_
      rintro e w9 ⟨rfl, hb9⟩
      go_wp2_with fail
      refine (xor_t c d _ (by omega) (by omega)).mono ?_
      rintro e w10 ⟨rfl, hb10⟩
      go_wp2_with fail
      refine (not_t (a ++ c) _ (by omega)).mono ?_
      rintro e w11 ⟨rfl, hb11⟩
      go_wp2_with fail
      refine (not_t a _ (by omega)).mono ?_
      rintro e w12 ⟨rfl, hb12⟩
      go_wp2_with fail
      refine (not_t c _ (by omega)).mono ?_
      rintro e w13 ⟨rfl, hb13⟩
      go_wp2_with fail
      refine (count_t (a ++ c) _ (by omega)).mono ?_
      rintro e w14 ⟨rfl, rfl⟩
      go_wp2_with fail
      refine (count_t a _ (by omega)).mono ?_
      rintro e w15 ⟨rfl, rfl⟩
      go_wp2_with fail
      refine (count_t c _ (by omega)).mono ?_
      rintro e w16 ⟨rfl, rfl⟩
      go_wp2_with fail
      exact bodyPost_ret (v := .bool true) (results_one rfl rfl) rfl ⟨rfl, Ups.trans hb1 (Ups.trans hb2 (Ups.trans hb3 (Ups.trans hb4 (Ups.trans hb5 (Ups.trans hb6 (Ups.trans hb7 (Ups.trans hb8 (Ups.trans hb9 (Ups.trans hb10 (Ups.trans hb11 (Ups.trans hb12 (hb13))))))))))))⟩
    · have h4n : ((d.size : Int) != c.size) = true := by simpa using h4
      go_enter Try.func9, Try.ntmps9
      go_wp2_with fail
      refine (works1 _).mono ?_
      rintro e w1 ⟨rfl, hb1⟩
      go_wp2_with fail
      exact bodyPost_ret (v := .bool true) (results_one rfl rfl) rfl ⟨rfl, hb1⟩
  · have h3n : ((b.size : Int) != a.size) = true := by simpa using h3
    go_enter Try.func9, Try.ntmps9
    go_wp2_with fail
    refine (works1 _).mono ?_
    rintro e w1 ⟨rfl, hb1⟩
    go_wp2_with fail
    exact bodyPost_ret (v := .bool true) (results_one rfl rfl) rfl ⟨rfl, hb1⟩

end Go.Proofs.Ytkmlaljahbckkaa
