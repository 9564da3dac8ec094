/- The laws of layer 1 (octet): the number laws, walked. -/
import Derived.Test.YtkmlaljahbckkaaWorks1
import Derived.Test.YtkmlaljahbckkaaRefOct
import Derived.Test.YtkmlaljahbckkaaRefMix
import Derived.Test.YtkmlaljahbckkaaRefCount
import Derived.Outline
namespace Go.Proofs.Ytkmlaljahbckkaa
open Go.RowKit

theorem wf_le {n : Int} (h : (Lit.int .i64 n).wf = true) : n ≤ 9223372036854775807 := by
  simp only [Lit.wf, Bool.and_eq_true, decide_eq_true_eq] at h
  exact Int.le_trans h.2 (by decide)
theorem wf_ge {n : Int} (h : (Lit.int .i64 n).wf = true) : -9223372036854775808 ≤ n := by
  simp only [Lit.wf, Bool.and_eq_true, decide_eq_true_eq] at h
  exact Int.le_trans (by decide) h.1

/-- What Put answers, whatever it is asked. -/
def putF (n wd : Int) : List UInt8 × Int :=
  if wd < 1 ∨ 7 < wd ∨ n < 0 then ([], 1) else if n.toNat < 256 ^ wd.toNat then (putL n.toNat wd.toNat, 0) else ([], 1)
/-- What Get answers, whatever it is asked. -/
def getF (s : List UInt8) (at_ wd : Int) : Int × Int :=
  if wd < 1 ∨ 7 < wd then (0, 1) else if at_ < 0 ∨ (s.length : Int) < at_ ∨ (s.length : Int) - at_ < wd then (0, 2) else ((numL ((s.drop at_.toNat).take wd.toNat) : Nat), 0)

theorem put_ends {n wd : Nat} {w w' : World} {e : Ending} (h : PutEnds n wd w e w') (h1 : 1 ≤ wd) (h7 : wd ≤ 7) :
    e = .returned (.tuple #[.string (bs (putF n wd).1), .int .i64 (putF n wd).2]) ∧ Below w.heap.size w w' := by
  have g : ¬ ((wd : Int) < 1 ∨ (7 : Int) < wd ∨ (n : Int) < 0) := by omega
  obtain ⟨hb, ⟨hn, rfl⟩ | ⟨hn, rfl⟩⟩ := h
  · have hn' : (n : Int).toNat < 256 ^ (wd : Int).toNat := by simpa using hn
    unfold putF
    rw [if_neg g, if_pos hn']
    exact ⟨rfl, hb⟩
  · have hn' : ¬ (n : Int).toNat < 256 ^ (wd : Int).toNat := by simpa using hn
    unfold putF
    rw [if_neg g, if_neg hn']
    exact ⟨rfl, hb⟩

theorem put_total (n wd : Int) (w : World) (hn : n ≤ 9223372036854775807) :
    Calls Try.prog 11 #[.int .i64 n, .int .i64 wd] w fun e w' => e = .returned (.tuple #[.string (bs (putF n wd).1), .int .i64 (putF n wd).2]) ∧ Below w.heap.size w w' := by
  by_cases h : wd < 1 ∨ 7 < wd ∨ n < 0
  · have := put_arg n wd w h
    simp only [putF, if_pos h]
    exact this
  · obtain ⟨n, rfl⟩ := Int.eq_ofNat_of_zero_le (by omega : 0 ≤ n)
    obtain ⟨wd, rfl⟩ := Int.eq_ofNat_of_zero_le (by omega : 0 ≤ wd)
    refine (put_some n wd w (by omega) (by omega) (by omega)).mono ?_
    intro e w' he
    exact put_ends he (by omega) (by omega)
theorem ref_put_total (n wd : Int) (w : World) (hn : n ≤ 9223372036854775807) :
    Calls Try.prog 12 #[.int .i64 n, .int .i64 wd] w fun e w' => e = .returned (.tuple #[.string (bs (putF n wd).1), .int .i64 (putF n wd).2]) ∧ Below w.heap.size w w' := by
  by_cases h : wd < 1 ∨ 7 < wd ∨ n < 0
  · have := ref_put_arg n wd w h
    simp only [putF, if_pos h]
    exact this
  · obtain ⟨n, rfl⟩ := Int.eq_ofNat_of_zero_le (by omega : 0 ≤ n)
    obtain ⟨wd, rfl⟩ := Int.eq_ofNat_of_zero_le (by omega : 0 ≤ wd)
    refine (ref_put_some n wd w (by omega) (by omega) (by omega)).mono ?_
    intro e w' he
    exact put_ends he (by omega) (by omega)
theorem get_total (s : ByteArray) (at_ wd : Int) (w : World) (hs : s.size ≤ 140737488355328) :
    Calls Try.prog 13 #[.string s, .int .i64 at_, .int .i64 wd] w fun e w' => e = .returned (.tuple #[.int .i64 (getF s.data.toList at_ wd).1, .int .i64 (getF s.data.toList at_ wd).2]) ∧ w = w' := by
  by_cases h : wd < 1 ∨ 7 < wd
  · have := get_arg s at_ wd w h
    simp only [getF, if_pos h]
    exact this
  · by_cases h2 : at_ < 0 ∨ (s.size : Int) < at_ ∨ (s.size : Int) - at_ < wd
    · have := get_form s at_ wd w hs (by omega) (by omega) h2
      simp only [getF, if_neg h, toList_length, if_pos h2]
      exact this
    · obtain ⟨at_, rfl⟩ := Int.eq_ofNat_of_zero_le (by omega : 0 ≤ at_)
      obtain ⟨wd, rfl⟩ := Int.eq_ofNat_of_zero_le (by omega : 0 ≤ wd)
      have := get_ok s at_ wd w (by omega) (by omega) (by omega) hs
      simp only [getF, if_neg h, toList_length, if_neg h2]
      exact this
theorem ref_get_total (s : ByteArray) (at_ wd : Int) (w : World) (hs : s.size ≤ 140737488355328) :
    Calls Try.prog 14 #[.string s, .int .i64 at_, .int .i64 wd] w fun e w' => e = .returned (.tuple #[.int .i64 (getF s.data.toList at_ wd).1, .int .i64 (getF s.data.toList at_ wd).2]) ∧ w = w' := by
  by_cases h : wd < 1 ∨ 7 < wd
  · have := ref_get_arg s at_ wd w h
    simp only [getF, if_pos h]
    exact this
  · by_cases h2 : at_ < 0 ∨ (s.size : Int) < at_ ∨ (s.size : Int) - at_ < wd
    · have := ref_get_form s at_ wd w hs (by omega) (by omega) h2
      simp only [getF, if_neg h, toList_length, if_pos h2]
      exact this
    · obtain ⟨at_, rfl⟩ := Int.eq_ofNat_of_zero_le (by omega : 0 ≤ at_)
      obtain ⟨wd, rfl⟩ := Int.eq_ofNat_of_zero_le (by omega : 0 ≤ wd)
      have := ref_get_ok s at_ wd w (by omega) (by omega) (by omega) hs
      simp only [getF, if_neg h, toList_length, if_neg h2]
      exact this

set_option maxRecDepth 100000 in
set_option maxHeartbeats 1000000 in
theorem numbers_walk (n wd : Int) (s : ByteArray) (at_ : Int) (w : World) (hn : n ≤ 9223372036854775807) :
    Calls Try.prog 3 #[.int .i64 n, .int .i64 wd, .string s, .int .i64 at_] w fun e w' => e = .returned (.bool true) ∧ Below w.heap.size w w' := by
  by_cases h : (300 : Int) < s.size
  · go_enter Try.func3, Try.ntmps3
    go_wp2_with fail
    refine (works1 _).mono ?_
    rintro e w1 ⟨rfl, hb1⟩
    go_wp2_with fail
    exact bodyPost_ret (v := .bool true) (results_one rfl rfl) rfl ⟨rfl, hb1⟩
  · go_enter Try.func3, Try.ntmps3
    go_wp2_with fail
    refine (works1 _).mono ?_
    rintro e w1 ⟨rfl, hb1⟩
    go_wp2_with fail
    refine (put_total n wd _ hn).mono ?_
    rintro e w2 ⟨rfl, hb2⟩
    go_wp2_with fail
    refine (ref_put_total n wd _ hn).mono ?_
    rintro e w3 ⟨rfl, hb3⟩
    go_wp2_with fail
    refine (get_total s at_ wd _ (by omega)).mono ?_
    rintro e w4 ⟨rfl, rfl⟩
    go_wp2_with fail
    refine (ref_get_total s at_ wd _ (by omega)).mono ?_
    rintro e w4 ⟨rfl, rfl⟩
    go_wp2_with fail
    exact bodyPost_ret (v := .bool true) (results_one rfl rfl) rfl ⟨rfl, Ups.trans hb1 (Ups.trans hb2 hb3)⟩

end Go.Proofs.Ytkmlaljahbckkaa
