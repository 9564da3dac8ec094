/- The fixed facts of layer 2's statements: walked. -/
import Derived.Test.YtghobgpogifjfaaRef2
import Derived.Outline
namespace Go.Proofs.Ytghobgpogifjfaa
open Go.RowKit

theorem ring_seal : sealT ⟨#[114, 105, 110, 103]⟩ = ⟨#[114, 105, 110, 103, 118, 245, 220, 143]⟩ := by decide +kernel
theorem ring_open : openT ⟨#[114, 105, 110, 103, 118, 245, 220, 143]⟩ = (⟨#[114, 105, 110, 103]⟩, 0) := by decide +kernel
theorem ring_not : openT ⟨#[114, 105, 110, 103, 118, 245, 220, 143, 120]⟩ = (⟨#[]⟩, 2) := by decide +kernel
theorem sum5 : Oc.sum [49, 50, 51, 52, 53] = 3421846044 := by decide +kernel
theorem sum9 : Oc.sum [49, 50, 51, 52, 53, 54, 55, 56, 57] = 3421780262 := by decide +kernel

theorem sum_val (l : List UInt8) (r : Int) (w : World) (hl : l.length ≤ 300) (hr : ((Oc.sum l : Nat) : Int) = r) :
    Calls Try.prog 22 #[.string ⟨l.toArray⟩] w fun e w' => e = .returned (.int .i64 r) ∧ Ups w w' := by
  subst hr
  have := sum_calls (bs l) w (by rw [bs_size]; omega)
  rw [bs_toList] at this
  exact this
theorem seal_val (s r : ByteArray) (w : World) (hs : s.size ≤ 300) (hr : sealT s = r) :
    Calls Try.prog 23 #[.string s] w fun e w' => e = .returned (.string r) ∧ Ups w w' := by
  subst hr
  exact seal_calls s w (by omega)
theorem open_val (s r : ByteArray) (k : Int) (w : World) (hs : s.size ≤ 305) (hr : openT s = (r, k)) :
    Calls Try.prog 20 #[.string s] w fun e w' => e = .returned (.tuple #[.string r, .int .i64 k]) ∧ Ups w w' := by
  have := open_calls s w (by omega)
  rw [hr] at this
  exact this
theorem add_val (n r : Nat) (s : ByteArray) (w : World) (hn : n < 4294967296) (hs : s.size ≤ 300) (hr : Oc.more n s.data.toList = r) :
    Calls Try.prog 17 #[.int .i64 n, .string s] w fun e w' => e = .returned (.tuple #[.int .i64 r, .int .i64 0]) ∧ Ups w w' := by
  subst hr
  exact add_some n s w hn (by omega)

set_option maxRecDepth 100000 in
set_option maxHeartbeats 1000000 in
theorem works2 (w : World) : Calls Try.prog 15 #[] w fun e w' => e = .returned (.bool true) ∧ Below w.heap.size w w' := by
  go_enter Try.func15, Try.ntmps15
  go_wp2_with fail
  refine (seal_val _ _ _ (by decide +kernel) ring_seal).mono ?_
  rintro e w1 ⟨rfl, hb1⟩
  go_wp2_with fail
  refine (open_val _ _ _ _ (by decide +kernel) ring_open).mono ?_
  rintro e w2 ⟨rfl, hb2⟩
  go_wp2_with fail
  refine (open_val _ _ _ _ (by decide +kernel) ring_not).mono ?_
  rintro e w3 ⟨rfl, hb3⟩
  go_wp2_with fail
  refine (sum_val [49, 50, 51, 52, 53] 3421846044 _ (by decide) (by decide +kernel)).mono ?_
  rintro e w4 ⟨rfl, hb4⟩
  go_wp2_with fail
  refine (add_val 3421846044 3421780262 _ _ (by decide) (by decide +kernel) (by decide +kernel)).mono ?_
  rintro e w5 ⟨rfl, hb5⟩
  go_wp2_with fail
  refine (add_arg (-1) _ _ (.inl (by decide))).mono ?_
  rintro e w6 ⟨rfl, hb6⟩
  go_wp2_with fail
  refine (sum_val [49, 50, 51, 52, 53, 54, 55, 56, 57] 3421780262 _ (by decide) (by decide +kernel)).mono ?_
  rintro e w7 ⟨rfl, hb7⟩
  go_wp2_with fail
  refine (sum_val [] 0 _ (by decide) (by decide +kernel)).mono ?_
  rintro e w8 ⟨rfl, hb8⟩
  go_wp2_with fail
  exact bodyPost_ret (v := .bool true) (results_one rfl rfl) rfl ⟨rfl, Ups.trans hb1 (Ups.trans hb2 (Ups.trans hb3 (Ups.trans hb4 (Ups.trans hb5 (Ups.trans hb6 (Ups.trans hb7 hb8))))))⟩

end Go.Proofs.Ytghobgpogifjfaa
