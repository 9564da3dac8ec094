/- The laws CrcJoins and CrcMixes of layer 2: walked. -/
import Derived.Test.YtghobgpogifjfaaLaw2
namespace Go.Proofs.Ytghobgpogifjfaa
open Go.RowKit

theorem app_toList (a b : ByteArray) : (a ++ b).data.toList = a.data.toList ++ b.data.toList := by simp
/-- The sum of a text, as a number. -/
def sumT (s : ByteArray) : Nat := Oc.sum s.data.toList
theorem sum_t (s : ByteArray) (w : World) (hs : s.size ≤ 140737488355327) :
    Calls Try.prog 22 #[.string s] w fun e w' => e = .returned (.int .i64 (sumT s)) ∧ Ups w w' := sum_calls s w (by omega)
theorem add_t (s t : ByteArray) (w : World) (ht : t.size ≤ 140737488355327) :
    Calls Try.prog 17 #[.int .i64 (sumT s), .string t] w fun e w' => e = .returned (.tuple #[.int .i64 (sumT (s ++ t)), .int .i64 0]) ∧ Ups w w' := by
  have := add_some (sumT s) t w (Oc.sum_lt _) (by omega)
  unfold sumT at this ⊢
  rw [Oc.more_sum, ← app_toList] at this
  exact this
theorem app_assoc (a b c : ByteArray) : a ++ (b ++ c) = a ++ b ++ c := text_ext (by simp)

set_option maxRecDepth 100000 in
set_option maxHeartbeats 1000000 in
theorem joins_walk (s t u : ByteArray) (w : World) :
    Calls Try.prog 5 #[.string s, .string t, .string u] w fun e w' => e = .returned (.bool true) ∧ Below w.heap.size w w' := by
  by_cases h1 : (200 : Int) < s.size
  · go_enter Try.func5, Try.ntmps5
    go_wp2_with fail
    refine (works2 _).mono ?_
    rintro e w1 ⟨rfl, hb1⟩
    go_wp2_with fail
    exact bodyPost_ret (v := .bool true) (results_one rfl rfl) rfl ⟨rfl, hb1⟩
  by_cases h2 : (200 : Int) < t.size
  · go_enter Try.func5, Try.ntmps5
    go_wp2_with fail
    refine (works2 _).mono ?_
    rintro e w1 ⟨rfl, hb1⟩
    go_wp2_with fail
    exact bodyPost_ret (v := .bool true) (results_one rfl rfl) rfl ⟨rfl, hb1⟩
  by_cases h3 : (200 : Int) < u.size
  · go_enter Try.func5, Try.ntmps5
    go_wp2_with fail
    refine (works2 _).mono ?_
    rintro e w1 ⟨rfl, hb1⟩
    go_wp2_with fail
    exact bodyPost_ret (v := .bool true) (results_one rfl rfl) rfl ⟨rfl, hb1⟩
  have z1 := app_size t u
  have z2 := app_size s t
  have z3 := app_size (s ++ t) u
  have hadd := fun w => add_t s (t ++ u) w (by omega)
  rw [app_assoc] at hadd
  go_enter Try.func5, Try.ntmps5
  go_wp2_with fail
  refine (works2 _).mono ?_
  rintro e w1 ⟨rfl, hb1⟩
  go_wp2_with fail
  refine (sum_t s _ (by omega)).mono ?_
  rintro e w2 ⟨rfl, hb2⟩
  go_wp2_with fail
  refine (add_t s t _ (by omega)).mono ?_
  rintro e w3 ⟨rfl, hb3⟩
  go_wp2_with fail
  refine (add_t (s ++ t) u _ (by omega)).mono ?_
  rintro e w4 ⟨rfl, hb4⟩
  go_wp2_with fail
  refine (sum_t s _ (by omega)).mono ?_
  rintro e w5 ⟨rfl, hb5⟩
  go_wp2_with fail
  refine (hadd _).mono ?_
  rintro e w6 ⟨rfl, hb6⟩
  go_wp2_with fail
  refine (sum_t (s ++ t) _ (by omega)).mono ?_
  rintro e w7 ⟨rfl, hb7⟩
  go_wp2_with fail
  refine (sum_t (s ++ t ++ u) _ (by omega)).mono ?_
  rintro e w8 ⟨rfl, hb8⟩
  go_wp2_with fail
  exact bodyPost_ret (v := .bool true) (results_one rfl rfl) rfl ⟨rfl, Ups.trans hb1 (Ups.trans hb2 (Ups.trans hb3 (Ups.trans hb4 (Ups.trans hb5 (Ups.trans hb6 (Ups.trans hb7 hb8))))))⟩

/-! ### Mixes -/
theorem i64_xor_nat (a b : Nat) (ha : a < 4294967296) (hb : b < 4294967296) : bits .xor .i64 (a : Int) (b : Int) = ((a ^^^ b : Nat) : Int) := by
  have hx : a ^^^ b < 2 ^ 32 := Nat.xor_lt_two_pow (by omega) (by omega)
  show IntKind.i64.wrap ((BitVec.ofInt 64 (a : Int) ^^^ BitVec.ofInt 64 (b : Int)).toNat : Int) = _
  rw [BitVec.toNat_xor, ofInt_u64 a (by omega), ofInt_u64 b (by omega), IntKind.wrap_i64]
  omega
def tXor (a b : ByteArray) : ByteArray := bs (mixL xorB a.data.toList b.data.toList)
theorem tXor_size (a b : ByteArray) : (tXor a b).size = a.size := by rw [tXor, bs_size, mixL_length, toList_length]
theorem xor_t (a b : ByteArray) (w : World) (ha : a.size ≤ 140737488355328) (hb : b.size ≤ 140737488355328) :
    Calls Try.prog 24 #[.string a, .string b] w fun e w' => e = .returned (.string (tXor a b)) ∧ Ups w w' := xor_calls a b w ha hb
theorem mixL_xorL : ∀ (a b : List UInt8), b.length = a.length → mixL xorB a b = Oc.xorL a b
  | [], [], _ => rfl
  | [], _ :: _, h => by simp at h
  | _ :: _, [], h => by simp at h
  | x :: a, y :: b, h => by
    rw [mixL_cons, mixL_xorL a b (by simpa using h)]
    rfl
theorem sum_mixes (s t u : ByteArray) (h1 : t.size = s.size) (h2 : u.size = s.size) : sumT (tXor (tXor s t) u) = sumT s ^^^ sumT t ^^^ sumT u := by
  have l1 : t.data.toList.length = s.data.toList.length := by rw [toList_length, toList_length, h1]
  have l2 : u.data.toList.length = s.data.toList.length := by rw [toList_length, toList_length, h2]
  unfold sumT tXor
  rw [bs_toList, bs_toList]
  generalize s.data.toList = a at *
  generalize t.data.toList = b at *
  generalize u.data.toList = c at *
  rw [mixL_xorL a b l1]
  have l3 : (Oc.xorL a b).length = a.length := by simp [Oc.xorL, l1]
  rw [mixL_xorL _ c (by rw [l3]; exact l2)]
  have e1 := Oc.on_xor (Oc.ones32 ^^^ Oc.ones32) Oc.ones32 (Oc.xorL a b) c (by rw [l3, l2])
  have e2 := Oc.on_xor Oc.ones32 Oc.ones32 a b l1.symm
  rw [e2] at e1
  rw [Nat.xor_self, Nat.zero_xor] at e1
  unfold Oc.sum
  rw [e1]
  generalize Oc.on Oc.ones32 a = A
  generalize Oc.on Oc.ones32 b = B
  generalize Oc.on Oc.ones32 c = C
  generalize Oc.ones32 = o
  rw [Oc.xor4 A o B o, Nat.xor_self, Nat.xor_zero]
  rw [Nat.xor_assoc]

set_option maxRecDepth 100000 in
set_option maxHeartbeats 1000000 in
theorem mixes_walk (s t u : ByteArray) (w : World) :
    Calls Try.prog 7 #[.string s, .string t, .string u] w fun e w' => e = .returned (.bool true) ∧ Below w.heap.size w w' := by
  by_cases h1 : (200 : Int) < s.size
  · go_enter Try.func7, Try.ntmps7
    go_wp2_with fail
    refine (works2 _).mono ?_
    rintro e w1 ⟨rfl, hb1⟩
    go_wp2_with fail
    exact bodyPost_ret (v := .bool true) (results_one rfl rfl) rfl ⟨rfl, hb1⟩
  by_cases h2 : (t.size : Int) = s.size
  · by_cases h3 : (u.size : Int) = s.size
    · have h2' : t.size = s.size := by omega
      have h3' : u.size = s.size := by omega
      have z1 := tXor_size s t
      have z2 := tXor_size (tXor s t) u
      have hm := sum_mixes s t u h2' h3'
      have b1 : sumT s < 4294967296 := Oc.sum_lt _
      have b2 : sumT t < 4294967296 := Oc.sum_lt _
      have b3 : sumT u < 4294967296 := Oc.sum_lt _
      go_enter Try.func7, Try.ntmps7
      go_wp2_with fail
      refine (works2 _).mono ?_
      rintro e w1 ⟨rfl, hb1⟩
      go_wp2_with fail
      refine (xor_t s t _ (by omega) (by omega)).mono ?_
      rintro e w2 ⟨rfl, hb2⟩
      go_wp2_with fail
      refine (xor_t (tXor s t) u _ (by omega) (by omega)).mono ?_
      rintro e w3 ⟨rfl, hb3⟩
      go_wp2_with fail
      refine (sum_t (tXor (tXor s t) u) _ (by omega)).mono ?_
      rintro e w4 ⟨rfl, hb4⟩
      rw [hm]
      have x1 := i64_xor_nat (sumT s) (sumT t) b1 b2
      have x2 := i64_xor_nat (sumT s ^^^ sumT t) (sumT u) (Nat.xor_lt_two_pow (n := 32) b1 b2) b3
      clear hm b1 b2 b3 z1 z2
      generalize hp : sumT s ^^^ sumT t = p at *
      generalize hq : p ^^^ sumT u = q at *
      clear hp hq
      go_wp2_with fail
      refine (sum_t s _ (by omega)).mono ?_
      rintro e w5 ⟨rfl, hb5⟩
      go_wp2_with fail
      refine (sum_t t _ (by omega)).mono ?_
      rintro e w6 ⟨rfl, hb6⟩
      go_wp2_with fail
      refine (sum_t u _ (by omega)).mono ?_
      rintro e w7 ⟨rfl, hb7⟩
      go_wp2_with fail
      exact bodyPost_ret (v := .bool true) (results_one rfl rfl) rfl ⟨rfl, Ups.trans hb1 (Ups.trans hb2 (Ups.trans hb3 (Ups.trans hb4 (Ups.trans hb5 (Ups.trans hb6 hb7)))))⟩
    · have h3n : ((u.size : Int) != s.size) = true := by simpa using h3
      go_enter Try.func7, Try.ntmps7
      go_wp2_with fail
      refine (works2 _).mono ?_
      rintro e w1 ⟨rfl, hb1⟩
      go_wp2_with fail
      exact bodyPost_ret (v := .bool true) (results_one rfl rfl) rfl ⟨rfl, hb1⟩
  · have h2n : ((t.size : Int) != s.size) = true := by simpa using h2
    go_enter Try.func7, Try.ntmps7
    go_wp2_with fail
    refine (works2 _).mono ?_
    rintro e w1 ⟨rfl, hb1⟩
    go_wp2_with fail
    exact bodyPost_ret (v := .bool true) (results_one rfl rfl) rfl ⟨rfl, hb1⟩

end Go.Proofs.Ytghobgpogifjfaa
