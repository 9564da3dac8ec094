/- The laws of layer 2 (crc) that take texts and numbers alone: walked. -/
import Derived.Test.YtghobgpogifjfaaWorks2
import Derived.Test.YtghobgpogifjfaaMix
namespace Go.Proofs.Ytghobgpogifjfaa
open Go.RowKit

theorem wf_le {n : Int} (h : (Lit.int .i64 n).wf = true) : n ≤ 9223372036854775807 := by
  simp only [Lit.wf, Bool.and_eq_true, decide_eq_true_eq] at h
  exact Int.le_trans h.2 (by decide)

/-- What Add answers, whatever it is asked. -/
def addF (n : Int) (l : List UInt8) : Int × Int := if n < 0 ∨ 4294967295 < n then (0, 1) else ((Oc.more n.toNat l : Nat), 0)
theorem add_total (n : Int) (s : ByteArray) (w : World) (hs : s.size ≤ 140737488355327) :
    Calls Try.prog 17 #[.int .i64 n, .string s] w fun e w' => e = .returned (.tuple #[.int .i64 (addF n s.data.toList).1, .int .i64 (addF n s.data.toList).2]) ∧ Ups w w' := by
  by_cases h : n < 0 ∨ 4294967295 < n
  · have := add_arg n s w h
    unfold addF
    rw [if_pos h]
    exact this
  · obtain ⟨n, rfl⟩ := Int.eq_ofNat_of_zero_le (by omega : 0 ≤ n)
    have := add_some n s w (by omega) (by omega)
    unfold addF
    rw [if_neg h]
    exact this
theorem radd_total (n : Int) (s : ByteArray) (w : World) (hs : s.size ≤ 140737488355327) :
    Calls Try.prog 18 #[.int .i64 n, .string s] w fun e w' => e = .returned (.tuple #[.int .i64 (addF n s.data.toList).1, .int .i64 (addF n s.data.toList).2]) ∧ w = w' := by
  by_cases h : n < 0 ∨ 4294967295 < n
  · have := radd_arg n s w h
    unfold addF
    rw [if_pos h]
    exact this
  · obtain ⟨n, rfl⟩ := Int.eq_ofNat_of_zero_le (by omega : 0 ≤ n)
    have := radd_some n s w (by omega) (by omega)
    unfold addF
    rw [if_neg h]
    exact this

set_option maxRecDepth 100000 in
set_option maxHeartbeats 1000000 in
theorem tells2_walk (s : ByteArray) (n : Int) (w : World) :
    Calls Try.prog 3 #[.string s, .int .i64 n] w fun e w' => e = .returned (.bool true) ∧ Below w.heap.size w w' := by
  by_cases h1 : (200 : Int) < s.size
  · go_enter Try.func3, Try.ntmps3
    go_wp2_with fail
    refine (works2 _).mono ?_
    rintro e w1 ⟨rfl, hb1⟩
    go_wp2_with fail
    exact bodyPost_ret (v := .bool true) (results_one rfl rfl) rfl ⟨rfl, hb1⟩
  · go_enter Try.func3, Try.ntmps3
    go_wp2_with fail
    refine (works2 _).mono ?_
    rintro e w1 ⟨rfl, hb1⟩
    go_wp2_with fail
    refine (rsum_calls s _ (by omega)).mono ?_
    rintro e w2 ⟨rfl, rfl⟩
    go_wp2_with fail
    refine (add_total n s _ (by omega)).mono ?_
    rintro e w2 ⟨rfl, hb2⟩
    go_wp2_with fail
    refine (radd_total n s _ (by omega)).mono ?_
    rintro e w3 ⟨rfl, rfl⟩
    go_wp2_with fail
    refine (rseal_calls s _ (by omega)).mono ?_
    rintro e w3 ⟨rfl, hb3⟩
    go_wp2_with fail
    refine (open_calls s _ (by omega)).mono ?_
    rintro e w4 ⟨rfl, hb4⟩
    go_wp2_with fail
    refine (ropen_calls s _ (by omega)).mono ?_
    rintro e w5 ⟨rfl, hb5⟩
    go_wp2_with fail
    refine (sum_calls s _ (by omega)).mono ?_
    rintro e w6 ⟨rfl, hb6⟩
    go_wp2_with fail
    refine (seal_calls s _ (by omega)).mono ?_
    rintro e w7 ⟨rfl, hb7⟩
    go_wp2_with fail
    exact bodyPost_ret (v := .bool true) (results_one rfl rfl) rfl ⟨rfl, Ups.trans hb1 (Ups.trans hb2 (Ups.trans hb3 (Ups.trans hb4 (Ups.trans hb5 (Ups.trans hb6 hb7)))))⟩

/-! ### Back -/
theorem extract_front (a b : ByteArray) : (a ++ b).extract 0 a.size = a := by
  apply text_ext
  simp [ByteArray.data_extract]
  exact List.take_of_length_le (by rw [toList_length]; exact Nat.le_refl _)
theorem open_seal (s : ByteArray) : openT (sealT s) = (s, 0) := by
  have h1 : (sealT s).size = s.size + 4 := sealT_size s
  have h2 : (sealT s).extract 0 ((sealT s).size - 4) = s := by
    rw [h1, Nat.add_sub_cancel]
    exact extract_front s _
  unfold openT
  rw [if_neg (by omega), h2, if_pos rfl]
theorem open_back (t : ByteArray) : ((openT t).2 = 0 ∧ sealT (openT t).1 = t) ∨ (openT t).2 = 2 ∧ (openT t).1 = bs [] := by
  unfold openT
  split
  · exact .inr ⟨rfl, rfl⟩
  · split
    · rename_i h
      exact .inl ⟨rfl, h⟩
    · exact .inr ⟨rfl, rfl⟩
theorem openT_size (t : ByteArray) : (openT t).1.size ≤ t.size := by
  unfold openT
  split
  · simp [bs_size]
  · split
    · simp
    · simp [bs_size]

set_option maxRecDepth 100000 in
set_option maxHeartbeats 1000000 in
theorem back2_walk (s t : ByteArray) (w : World) :
    Calls Try.prog 4 #[.string s, .string t] w fun e w' => e = .returned (.bool true) ∧ Below w.heap.size w w' := by
  by_cases h1 : (200 : Int) < s.size
  · go_enter Try.func4, Try.ntmps4
    go_wp2_with fail
    refine (works2 _).mono ?_
    rintro e w1 ⟨rfl, hb1⟩
    go_wp2_with fail
    exact bodyPost_ret (v := .bool true) (results_one rfl rfl) rfl ⟨rfl, hb1⟩
  by_cases h2 : (200 : Int) < t.size
  · go_enter Try.func4, Try.ntmps4
    go_wp2_with fail
    refine (works2 _).mono ?_
    rintro e w1 ⟨rfl, hb1⟩
    go_wp2_with fail
    exact bodyPost_ret (v := .bool true) (results_one rfl rfl) rfl ⟨rfl, hb1⟩
  have hz := sealT_size s
  have ho := open_seal s
  have hoc := fun w => open_calls (sealT s) w (by omega)
  rw [ho] at hoc
  have hv := openT_size t
  have hot := fun w => open_calls t w (by omega)
  have hback := open_back t
  generalize openT t = v at *
  obtain ⟨v, f⟩ := v
  simp only at hback hot hv
  clear ho
  rcases hback with ⟨rfl, hse⟩ | ⟨rfl, rfl⟩
  · have hsv := fun w => seal_calls v w (by omega)
    rw [hse] at hsv
    clear hse
    go_enter Try.func4, Try.ntmps4
    go_wp2_with fail
    refine (works2 _).mono ?_
    rintro e w1 ⟨rfl, hb1⟩
    go_wp2_with fail
    refine (seal_calls s _ (by omega)).mono ?_
    rintro e w2 ⟨rfl, hb2⟩
    go_wp2_with fail
    refine (hoc _).mono ?_
    rintro e w3 ⟨rfl, hb3⟩
    go_wp2_with fail
    refine (hot _).mono ?_
    rintro e w4 ⟨rfl, hb4⟩
    go_wp2_with fail
    refine (hsv _).mono ?_
    rintro e w5 ⟨rfl, hb5⟩
    go_wp2_with fail
    exact bodyPost_ret (v := .bool true) (results_one rfl rfl) rfl ⟨rfl, Ups.trans hb1 (Ups.trans hb2 (Ups.trans hb3 (Ups.trans hb4 hb5)))⟩
  · go_enter Try.func4, Try.ntmps4
    go_wp2_with fail
    refine (works2 _).mono ?_
    rintro e w1 ⟨rfl, hb1⟩
    go_wp2_with fail
    refine (seal_calls s _ (by omega)).mono ?_
    rintro e w2 ⟨rfl, hb2⟩
    go_wp2_with fail
    refine (hoc _).mono ?_
    rintro e w3 ⟨rfl, hb3⟩
    go_wp2_with fail
    refine (hot _).mono ?_
    rintro e w4 ⟨rfl, hb4⟩
    have hnil : (bs []).toList = [] := by decide +kernel
    go_wp2_with fail
    exact bodyPost_ret (v := .bool true) (results_one rfl rfl) rfl ⟨rfl, Ups.trans hb1 (Ups.trans hb2 (Ups.trans hb3 hb4))⟩

end Go.Proofs.Ytghobgpogifjfaa
