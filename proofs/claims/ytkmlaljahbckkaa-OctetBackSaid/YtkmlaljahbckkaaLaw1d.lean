/- The law OctetBack of layer 1: walked. -/
import Derived.Test.YtkmlaljahbckkaaLaw1b
namespace Go.Proofs.Ytkmlaljahbckkaa
open Go.RowKit

theorem putF_ok (n wd : Nat) (h1 : 1 ≤ wd) (h7 : wd ≤ 7) (hn : n < 256 ^ wd) : putF n wd = (putL n wd, 0) := by
  have g : ¬ ((wd : Int) < 1 ∨ (7 : Int) < wd ∨ (n : Int) < 0) := by omega
  have hn' : (n : Int).toNat < 256 ^ (wd : Int).toNat := by simpa using hn
  unfold putF
  rw [if_neg g, if_pos hn']
  rfl
theorem putF_none (n wd : Int) (h : ¬ (1 ≤ wd ∧ wd ≤ 7 ∧ 0 ≤ n ∧ n.toNat < 256 ^ wd.toNat)) : putF n wd = ([], 1) := by
  unfold putF
  by_cases g : wd < 1 ∨ 7 < wd ∨ n < 0
  · rw [if_pos g]
  · rw [if_neg g, if_neg (fun hn => h ⟨by omega, by omega, by omega, hn⟩)]
theorem getF_ok (l : List UInt8) (at_ wd : Nat) (h1 : 1 ≤ wd) (h7 : wd ≤ 7) (ha : at_ + wd ≤ l.length) : getF l at_ wd = (((numL ((l.drop at_).take wd) : Nat) : Int), 0) := by
  have g1 : ¬ ((wd : Int) < 1 ∨ (7 : Int) < wd) := by omega
  have g2 : ¬ ((at_ : Int) < 0 ∨ (l.length : Int) < at_ ∨ (l.length : Int) - at_ < wd) := by omega
  unfold getF
  rw [if_neg g1, if_neg g2]
  rfl
theorem getF_none (l : List UInt8) (wd : Int) (h : ¬ (1 ≤ wd ∧ wd ≤ 7 ∧ wd ≤ l.length)) : (getF l 0 wd).1 = 0 ∧ ((getF l 0 wd).2 = 1 ∨ (getF l 0 wd).2 = 2) := by
  unfold getF
  by_cases g1 : wd < 1 ∨ 7 < wd
  · rw [if_pos g1]; exact ⟨rfl, .inl rfl⟩
  · rw [if_neg g1, if_pos (by omega)]; exact ⟨rfl, .inr rfl⟩

/-- What is put is got again, whatever is ahead of it and behind it. -/
theorem get_put (a b : List UInt8) (n wd : Nat) (h1 : 1 ≤ wd) (h7 : wd ≤ 7) (hn : n < 256 ^ wd) : getF (a ++ putL n wd ++ b) a.length wd = ((n : Int), 0) := by
  rw [getF_ok _ a.length wd h1 h7 (by simp [putL_length])]
  have e : ((a ++ putL n wd ++ b).drop a.length).take wd = putL n wd := by
    rw [List.append_assoc, List.drop_left]
    have := List.take_left (l₁ := putL n wd) (l₂ := b)
    rw [putL_length] at this
    exact this
  rw [e, numL_putL n wd hn]
/-- What is got is put just so. -/
theorem put_get (l : List UInt8) (wd : Nat) (h1 : 1 ≤ wd) (h7 : wd ≤ 7) (hl : wd ≤ l.length) : getF l 0 wd = (((numL (l.take wd) : Nat) : Int), 0) ∧ putF ((numL (l.take wd) : Nat) : Int) wd = (l.take wd, 0) := by
  have hlen : (l.take wd).length = wd := by rw [List.length_take]; omega
  refine ⟨by have := getF_ok l 0 wd h1 h7 (by omega); rw [List.drop_zero] at this; exact this, ?_⟩
  have hlt := numL_lt (l.take wd)
  rw [hlen] at hlt
  rw [putF_ok _ wd h1 h7 hlt]
  have := putL_numL (l.take wd)
  rw [hlen] at this
  rw [this]

theorem bs_take (s : ByteArray) (k : Nat) : bs (s.data.toList.take k) = s.extract 0 k := text_ext (by rw [bs_toList]; simp [ByteArray.data_extract])

set_option maxRecDepth 100000 in
set_option maxHeartbeats 1000000 in
theorem back_AC (n wd : Int) (a b : ByteArray) (w : World) (ha : a.size ≤ 300) (hb : b.size ≤ 300) (hwd : wd ≤ 9223372036854775807) (P : ByteArray) (h7 : P.size ≤ 7) (hl : (P.size : Int) = wd) (hP : ∀ w : World, Calls Try.prog 11 #[.int .i64 n, .int .i64 wd] w fun e w' => e = .returned (.tuple #[.string P, .int .i64 0]) ∧ Ups w w') (hG : ∀ w : World, Calls Try.prog 13 #[.string (a ++ P ++ b), .int .i64 a.size, .int .i64 wd] w fun e w' => e = .returned (.tuple #[.int .i64 n, .int .i64 0]) ∧ Ups w w') (k : Int) (hw0 : 0 ≤ wd) (hw1 : wd ≤ b.size) (hK : ∀ w : World, Calls Try.prog 13 #[.string b, .int .i64 0, .int .i64 wd] w fun e w' => e = .returned (.tuple #[.int .i64 k, .int .i64 0]) ∧ Ups w w') (hT : ∀ w : World, Calls Try.prog 11 #[.int .i64 k, .int .i64 wd] w fun e w' => e = .returned (.tuple #[.string (b.extract 0 wd.toNat), .int .i64 0]) ∧ Ups w w') :
    Calls Try.prog 5 #[.int .i64 n, .int .i64 wd, .string a, .string b] w fun e w' => e = .returned (.bool true) ∧ Below w.heap.size w w' := by
  have h1 : ¬ (300 : Int) < a.size := by omega
  have h2 : ¬ (300 : Int) < b.size := by omega
  have hnil : (bs []).toList = [] := by decide +kernel
  have z1 : (a ++ P).size = a.size + P.size := by simp
  have z2 : (a ++ P ++ b).size = a.size + P.size + b.size := by simp
  have s1 : ¬ wd < 0 := by omega
  have s2 : ¬ (b.size : Int) < wd := by omega
  have s3 : ¬ b.size < wd.toNat := by omega
  go_enter Try.func5, Try.ntmps5
  go_wp2_with fail
  refine (works1 _).mono ?_
  rintro e w1 ⟨rfl, hb1⟩
  go_wp2_with fail
  refine (hP _).mono ?_
  rintro e w2 ⟨rfl, hb2⟩
  go_wp2_with fail
  refine (hG _).mono ?_
  rintro e w3 ⟨rfl, hb3⟩
  go_wp2_with fail
  refine (hK _).mono ?_
  rintro e w4 ⟨rfl, hb4⟩
  go_wp2_with fail
  refine (hT _).mono ?_
  rintro e w5 ⟨rfl, hb5⟩
  go_wp2_with fail
  exact bodyPost_ret (v := .bool true) (results_one rfl rfl) rfl ⟨rfl, Ups.trans hb1 (Ups.trans hb2 (Ups.trans hb3 (Ups.trans hb4 (hb5))))⟩

set_option maxRecDepth 100000 in
set_option maxHeartbeats 1000000 in
theorem back_AD1 (n wd : Int) (a b : ByteArray) (w : World) (ha : a.size ≤ 300) (hb : b.size ≤ 300) (hwd : wd ≤ 9223372036854775807) (P : ByteArray) (h7 : P.size ≤ 7) (hl : (P.size : Int) = wd) (hP : ∀ w : World, Calls Try.prog 11 #[.int .i64 n, .int .i64 wd] w fun e w' => e = .returned (.tuple #[.string P, .int .i64 0]) ∧ Ups w w') (hG : ∀ w : World, Calls Try.prog 13 #[.string (a ++ P ++ b), .int .i64 a.size, .int .i64 wd] w fun e w' => e = .returned (.tuple #[.int .i64 n, .int .i64 0]) ∧ Ups w w') (X : ByteArray) (y : Int) (hK : ∀ w : World, Calls Try.prog 13 #[.string b, .int .i64 0, .int .i64 wd] w fun e w' => e = .returned (.tuple #[.int .i64 0, .int .i64 1]) ∧ Ups w w') (hT : ∀ w : World, Calls Try.prog 11 #[.int .i64 0, .int .i64 wd] w fun e w' => e = .returned (.tuple #[.string X, .int .i64 y]) ∧ Ups w w') :
    Calls Try.prog 5 #[.int .i64 n, .int .i64 wd, .string a, .string b] w fun e w' => e = .returned (.bool true) ∧ Below w.heap.size w w' := by
  have h1 : ¬ (300 : Int) < a.size := by omega
  have h2 : ¬ (300 : Int) < b.size := by omega
  have hnil : (bs []).toList = [] := by decide +kernel
  have z1 : (a ++ P).size = a.size + P.size := by simp
  have z2 : (a ++ P ++ b).size = a.size + P.size + b.size := by simp
  go_enter Try.func5, Try.ntmps5
  go_wp2_with fail
  refine (works1 _).mono ?_
  rintro e w1 ⟨rfl, hb1⟩
  go_wp2_with fail
  refine (hP _).mono ?_
  rintro e w2 ⟨rfl, hb2⟩
  go_wp2_with fail
  refine (hG _).mono ?_
  rintro e w3 ⟨rfl, hb3⟩
  go_wp2_with fail
  refine (hK _).mono ?_
  rintro e w4 ⟨rfl, hb4⟩
  go_wp2_with fail
  refine (hT _).mono ?_
  rintro e w5 ⟨rfl, hb5⟩
  go_wp2_with fail
  exact bodyPost_ret (v := .bool true) (results_one rfl rfl) rfl ⟨rfl, Ups.trans hb1 (Ups.trans hb2 (Ups.trans hb3 (Ups.trans hb4 (hb5))))⟩

set_option maxRecDepth 100000 in
set_option maxHeartbeats 1000000 in
theorem back_AD2 (n wd : Int) (a b : ByteArray) (w : World) (ha : a.size ≤ 300) (hb : b.size ≤ 300) (hwd : wd ≤ 9223372036854775807) (P : ByteArray) (h7 : P.size ≤ 7) (hl : (P.size : Int) = wd) (hP : ∀ w : World, Calls Try.prog 11 #[.int .i64 n, .int .i64 wd] w fun e w' => e = .returned (.tuple #[.string P, .int .i64 0]) ∧ Ups w w') (hG : ∀ w : World, Calls Try.prog 13 #[.string (a ++ P ++ b), .int .i64 a.size, .int .i64 wd] w fun e w' => e = .returned (.tuple #[.int .i64 n, .int .i64 0]) ∧ Ups w w') (X : ByteArray) (y : Int) (hK : ∀ w : World, Calls Try.prog 13 #[.string b, .int .i64 0, .int .i64 wd] w fun e w' => e = .returned (.tuple #[.int .i64 0, .int .i64 2]) ∧ Ups w w') (hT : ∀ w : World, Calls Try.prog 11 #[.int .i64 0, .int .i64 wd] w fun e w' => e = .returned (.tuple #[.string X, .int .i64 y]) ∧ Ups w w') :
    Calls Try.prog 5 #[.int .i64 n, .int .i64 wd, .string a, .string b] w fun e w' => e = .returned (.bool true) ∧ Below w.heap.size w w' := by
  have h1 : ¬ (300 : Int) < a.size := by omega
  have h2 : ¬ (300 : Int) < b.size := by omega
  have hnil : (bs []).toList = [] := by decide +kernel
  have z1 : (a ++ P).size = a.size + P.size := by simp
  have z2 : (a ++ P ++ b).size = a.size + P.size + b.size := by simp
  go_enter Try.func5, Try.ntmps5
  go_wp2_with fail
  refine (works1 _).mono ?_
  rintro e w1 ⟨rfl, hb1⟩
  go_wp2_with fail
  refine (hP _).mono ?_
  rintro e w2 ⟨rfl, hb2⟩
  go_wp2_with fail
  refine (hG _).mono ?_
  rintro e w3 ⟨rfl, hb3⟩
  go_wp2_with fail
  refine (hK _).mono ?_
  rintro e w4 ⟨rfl, hb4⟩
  go_wp2_with fail
  refine (hT _).mono ?_
  rintro e w5 ⟨rfl, hb5⟩
  go_wp2_with fail
  exact bodyPost_ret (v := .bool true) (results_one rfl rfl) rfl ⟨rfl, Ups.trans hb1 (Ups.trans hb2 (Ups.trans hb3 (Ups.trans hb4 (hb5))))⟩

set_option maxRecDepth 100000 in
set_option maxHeartbeats 1000000 in
theorem back_BC (n wd : Int) (a b : ByteArray) (w : World) (ha : a.size ≤ 300) (hb : b.size ≤ 300) (hwd : wd ≤ 9223372036854775807) (hP : ∀ w : World, Calls Try.prog 11 #[.int .i64 n, .int .i64 wd] w fun e w' => e = .returned (.tuple #[.string (bs []), .int .i64 1]) ∧ Ups w w') (k : Int) (hw0 : 0 ≤ wd) (hw1 : wd ≤ b.size) (hK : ∀ w : World, Calls Try.prog 13 #[.string b, .int .i64 0, .int .i64 wd] w fun e w' => e = .returned (.tuple #[.int .i64 k, .int .i64 0]) ∧ Ups w w') (hT : ∀ w : World, Calls Try.prog 11 #[.int .i64 k, .int .i64 wd] w fun e w' => e = .returned (.tuple #[.string (b.extract 0 wd.toNat), .int .i64 0]) ∧ Ups w w') :
    Calls Try.prog 5 #[.int .i64 n, .int .i64 wd, .string a, .string b] w fun e w' => e = .returned (.bool true) ∧ Below w.heap.size w w' := by
  have h1 : ¬ (300 : Int) < a.size := by omega
  have h2 : ¬ (300 : Int) < b.size := by omega
  have hnil : (bs []).toList = [] := by decide +kernel
  have s1 : ¬ wd < 0 := by omega
  have s2 : ¬ (b.size : Int) < wd := by omega
  have s3 : ¬ b.size < wd.toNat := by omega
  go_enter Try.func5, Try.ntmps5
  go_wp2_with fail
  refine (works1 _).mono ?_
  rintro e w1 ⟨rfl, hb1⟩
  go_wp2_with fail
  refine (hP _).mono ?_
  rintro e w2 ⟨rfl, hb2⟩
  go_wp2_with fail
  refine (hK _).mono ?_
  rintro e w4 ⟨rfl, hb4⟩
  go_wp2_with fail
  refine (hT _).mono ?_
  rintro e w5 ⟨rfl, hb5⟩
  go_wp2_with fail
  exact bodyPost_ret (v := .bool true) (results_one rfl rfl) rfl ⟨rfl, Ups.trans hb1 (Ups.trans hb2 (Ups.trans hb4 (hb5)))⟩

set_option maxRecDepth 100000 in
set_option maxHeartbeats 1000000 in
theorem back_BD1 (n wd : Int) (a b : ByteArray) (w : World) (ha : a.size ≤ 300) (hb : b.size ≤ 300) (hwd : wd ≤ 9223372036854775807) (hP : ∀ w : World, Calls Try.prog 11 #[.int .i64 n, .int .i64 wd] w fun e w' => e = .returned (.tuple #[.string (bs []), .int .i64 1]) ∧ Ups w w') (X : ByteArray) (y : Int) (hK : ∀ w : World, Calls Try.prog 13 #[.string b, .int .i64 0, .int .i64 wd] w fun e w' => e = .returned (.tuple #[.int .i64 0, .int .i64 1]) ∧ Ups w w') (hT : ∀ w : World, Calls Try.prog 11 #[.int .i64 0, .int .i64 wd] w fun e w' => e = .returned (.tuple #[.string X, .int .i64 y]) ∧ Ups w w') :
    Calls Try.prog 5 #[.int .i64 n, .int .i64 wd, .string a, .string b] w fun e w' => e = .returned (.bool true) ∧ Below w.heap.size w w' := by
  have h1 : ¬ (300 : Int) < a.size := by omega
  have h2 : ¬ (300 : Int) < b.size := by omega
  have hnil : (bs []).toList = [] := by decide +kernel
  go_enter Try.func5, Try.ntmps5
  go_wp2_with fail
  refine (works1 _).mono ?_
  rintro e w1 ⟨rfl, hb1⟩
  go_wp2_with fail
  refine (hP _).mono ?_
  rintro e w2 ⟨rfl, hb2⟩
  go_wp2_with fail
  refine (hK _).mono ?_
  rintro e w4 ⟨rfl, hb4⟩
  go_wp2_with fail
  refine (hT _).mono ?_
  rintro e w5 ⟨rfl, hb5⟩
  go_wp2_with fail
  exact bodyPost_ret (v := .bool true) (results_one rfl rfl) rfl ⟨rfl, Ups.trans hb1 (Ups.trans hb2 (Ups.trans hb4 (hb5)))⟩

set_option maxRecDepth 100000 in
set_option maxHeartbeats 1000000 in
theorem back_BD2 (n wd : Int) (a b : ByteArray) (w : World) (ha : a.size ≤ 300) (hb : b.size ≤ 300) (hwd : wd ≤ 9223372036854775807) (hP : ∀ w : World, Calls Try.prog 11 #[.int .i64 n, .int .i64 wd] w fun e w' => e = .returned (.tuple #[.string (bs []), .int .i64 1]) ∧ Ups w w') (X : ByteArray) (y : Int) (hK : ∀ w : World, Calls Try.prog 13 #[.string b, .int .i64 0, .int .i64 wd] w fun e w' => e = .returned (.tuple #[.int .i64 0, .int .i64 2]) ∧ Ups w w') (hT : ∀ w : World, Calls Try.prog 11 #[.int .i64 0, .int .i64 wd] w fun e w' => e = .returned (.tuple #[.string X, .int .i64 y]) ∧ Ups w w') :
    Calls Try.prog 5 #[.int .i64 n, .int .i64 wd, .string a, .string b] w fun e w' => e = .returned (.bool true) ∧ Below w.heap.size w w' := by
  have h1 : ¬ (300 : Int) < a.size := by omega
  have h2 : ¬ (300 : Int) < b.size := by omega
  have hnil : (bs []).toList = [] := by decide +kernel
  go_enter Try.func5, Try.ntmps5
  go_wp2_with fail
  refine (works1 _).mono ?_
  rintro e w1 ⟨rfl, hb1⟩
  go_wp2_with fail
  refine (hP _).mono ?_
  rintro e w2 ⟨rfl, hb2⟩
  go_wp2_with fail
  refine (hK _).mono ?_
  rintro e w4 ⟨rfl, hb4⟩
  go_wp2_with fail
  refine (hT _).mono ?_
  rintro e w5 ⟨rfl, hb5⟩
  go_wp2_with fail
  exact bodyPost_ret (v := .bool true) (results_one rfl rfl) rfl ⟨rfl, Ups.trans hb1 (Ups.trans hb2 (Ups.trans hb4 (hb5)))⟩

theorem put_ups (n wd : Int) (w : World) (r : List UInt8) (k : Int) (hn : n ≤ 9223372036854775807) (h : putF n wd = (r, k)) :
    Calls Try.prog 11 #[.int .i64 n, .int .i64 wd] w fun e w' => e = .returned (.tuple #[.string (bs r), .int .i64 k]) ∧ Ups w w' := by
  have := put_total n wd w hn
  rw [h] at this
  exact this
theorem get_ups (s : ByteArray) (at_ wd : Int) (w : World) (r k : Int) (hs : s.size ≤ 140737488355328) (h : getF s.data.toList at_ wd = (r, k)) :
    Calls Try.prog 13 #[.string s, .int .i64 at_, .int .i64 wd] w fun e w' => e = .returned (.tuple #[.int .i64 r, .int .i64 k]) ∧ Ups w w' := by
  refine (get_total s at_ wd w hs).mono ?_
  rintro e w' ⟨rfl, rfl⟩
  rw [h]
  exact ⟨rfl, Ups.refl _⟩

set_option maxRecDepth 100000 in
set_option maxHeartbeats 1000000 in
theorem back_walk (n wd : Int) (a b : ByteArray) (w : World) (hn : n ≤ 9223372036854775807) (hwd : wd ≤ 9223372036854775807) :
    Calls Try.prog 5 #[.int .i64 n, .int .i64 wd, .string a, .string b] w fun e w' => e = .returned (.bool true) ∧ Below w.heap.size w w' := by
  by_cases h1 : (300 : Int) < a.size
  · go_enter Try.func5, Try.ntmps5
    go_wp2_with fail
    refine (works1 _).mono ?_
    rintro e w1 ⟨rfl, hb1⟩
    go_wp2_with fail
    exact bodyPost_ret (v := .bool true) (results_one rfl rfl) rfl ⟨rfl, hb1⟩
  by_cases h2 : (300 : Int) < b.size
  · go_enter Try.func5, Try.ntmps5
    go_wp2_with fail
    refine (works1 _).mono ?_
    rintro e w1 ⟨rfl, hb1⟩
    go_wp2_with fail
    exact bodyPost_ret (v := .bool true) (results_one rfl rfl) rfl ⟨rfl, hb1⟩
  have ha : a.size ≤ 300 := by omega
  have hb : b.size ≤ 300 := by omega
  -- the second half
  have second : (∃ k, 0 ≤ wd ∧ wd ≤ b.size ∧ k ≤ 9223372036854775807 ∧ getF b.data.toList 0 wd = (k, 0) ∧ putF k wd = (b.data.toList.take wd.toNat, 0)) ∨ getF b.data.toList 0 wd = (0, 1) ∨ getF b.data.toList 0 wd = (0, 2) := by
    by_cases h : 1 ≤ wd ∧ wd ≤ 7 ∧ wd ≤ b.data.toList.length
    · obtain ⟨d, rfl⟩ := Int.eq_ofNat_of_zero_le (by omega : 0 ≤ wd)
      have hp := put_get b.data.toList d (by omega) (by omega) (by omega)
      have hlt := numL_lt (b.data.toList.take d)
      rw [List.length_take, Nat.min_eq_left (by omega)] at hlt
      have h7 : 256 ^ d ≤ 256 ^ 7 := Nat.pow_le_pow_right (by decide) (by omega)
      have hl := toList_length b
      exact .inl ⟨_, by omega, by omega, by omega, hp.1, by simpa using hp.2⟩
    · have := getF_none b.data.toList wd h
      right
      rcases this with ⟨e1, e2 | e2⟩
      · exact .inl (Prod.ext e1 e2)
      · exact .inr (Prod.ext e1 e2)
  by_cases h : 1 ≤ wd ∧ wd ≤ 7 ∧ 0 ≤ n ∧ n.toNat < 256 ^ wd.toNat
  · obtain ⟨g1, g2, g3, g4⟩ := h
    obtain ⟨d, rfl⟩ := Int.eq_ofNat_of_zero_le (by omega : 0 ≤ wd)
    obtain ⟨m, rfl⟩ := Int.eq_ofNat_of_zero_le g3
    have hp := putF_ok m d (by omega) (by omega) (by simpa using g4)
    have hg := get_put a.data.toList b.data.toList m d (by omega) (by omega) (by simpa using g4)
    have hg' : getF (a ++ bs (putL m d) ++ b).data.toList a.size d = ((m : Int), 0) := by
      rw [app_toList, app_toList, bs_toList, ← toList_length]
      exact hg
    have hz : (a ++ bs (putL m d) ++ b).size ≤ 140737488355328 := by
      have e : (a ++ bs (putL m d) ++ b).size = a.size + (bs (putL m d)).size + b.size := by simp
      rw [e, bs_size, putL_length]
      omega
    have hl : ((bs (putL m d)).size : Int) = d := by rw [bs_size, putL_length]
    have h7 : (bs (putL m d)).size ≤ 7 := by omega
    rcases second with ⟨k, k1, k2, k3, k4, k5⟩ | k4 | k4
    · exact back_AC m d a b w ha hb hwd _ h7 hl (fun w => put_ups _ _ w _ _ hn hp) (fun w => get_ups _ _ _ w _ _ hz hg') k k1 k2 (fun w => get_ups _ _ _ w _ _ (by omega) k4) (fun w => by have := put_ups _ _ w _ _ k3 k5; rwa [bs_take] at this)
    · exact back_AD1 m d a b w ha hb hwd _ h7 hl (fun w => put_ups _ _ w _ _ hn hp) (fun w => get_ups _ _ _ w _ _ hz hg') _ _ (fun w => get_ups _ _ _ w _ _ (by omega) k4) (fun w => put_ups _ _ w _ _ (by decide) rfl)
    · exact back_AD2 m d a b w ha hb hwd _ h7 hl (fun w => put_ups _ _ w _ _ hn hp) (fun w => get_ups _ _ _ w _ _ hz hg') _ _ (fun w => get_ups _ _ _ w _ _ (by omega) k4) (fun w => put_ups _ _ w _ _ (by decide) rfl)
  · have hp := putF_none n wd h
    rcases second with ⟨k, k1, k2, k3, k4, k5⟩ | k4 | k4
    · exact back_BC n wd a b w ha hb hwd (fun w => put_ups _ _ w _ _ hn hp) k k1 k2 (fun w => get_ups _ _ _ w _ _ (by omega) k4) (fun w => by have := put_ups _ _ w _ _ k3 k5; rwa [bs_take] at this)
    · exact back_BD1 n wd a b w ha hb hwd (fun w => put_ups _ _ w _ _ hn hp) _ _ (fun w => get_ups _ _ _ w _ _ (by omega) k4) (fun w => put_ups _ _ w _ _ (by decide) rfl)
    · exact back_BD2 n wd a b w ha hb hwd (fun w => put_ups _ _ w _ _ hn hp) _ _ (fun w => get_ups _ _ _ w _ _ (by omega) k4) (fun w => put_ups _ _ w _ _ (by decide) rfl)

end Go.Proofs.Ytkmlaljahbckkaa
