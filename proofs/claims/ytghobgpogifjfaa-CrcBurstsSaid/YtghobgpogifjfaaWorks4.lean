/- The fixed facts of layer 4's statements: walked. -/
import Derived.Test.YtghobgpogifjfaaRec2
import Derived.Test.YtghobgpogifjfaaClear
import Derived.Test.YtghobgpogifjfaaCount
import Derived.Outline
namespace Go.Proofs.Ytghobgpogifjfaa
open Go.RowKit

theorem k_make : makeT ⟨#[107]⟩ = ⟨#[107, 93, 87, 98, 8, 148, 162, 168, 157, 247]⟩ := by decide +kernel
theorem k_read : readT ⟨#[107, 93, 87, 98, 8, 148, 162, 168, 157, 247]⟩ = (⟨#[107]⟩, 0) := by decide +kernel
theorem k_not : readT ⟨#[107, 93, 87, 98, 8, 148, 162, 168, 157, 247, 120]⟩ = (⟨#[]⟩, 2) := by decide +kernel
theorem ones_read : readT (bs (List.replicate 10 255)) = (⟨#[]⟩, 2) := by decide +kernel

theorem make_val (s r : ByteArray) (w : World) (hs : s.size ≤ 300) (hr : makeT s = r) :
    Calls Try.prog 31 #[.string s] w fun e w' => e = .returned (.string r) ∧ Ups w w' := by
  subst hr
  exact make_calls s w (by omega)
theorem read_val (s r : ByteArray) (k : Int) (w : World) (hs : s.size ≤ 300) (hr : readT s = (r, k)) :
    Calls Try.prog 27 #[.string s] w fun e w' => e = .returned (.tuple #[.string r, .int .i64 k]) ∧ Ups w w' := by
  have := read_calls s w (by omega)
  rw [hr] at this
  exact this
theorem clear_val (s : ByteArray) (b : Bool) (w : World) (hs : s.size ≤ 300) (hr : clearB s = b) :
    Calls Try.prog 33 #[.string s] w fun e w' => e = .returned (.bool b) ∧ Ups w w' := by
  have := clear_calls s w (by omega)
  rw [hr] at this
  exact this

set_option maxRecDepth 100000 in
set_option maxHeartbeats 1000000 in
theorem works4 (w : World) : Calls Try.prog 25 #[] w fun e w' => e = .returned (.bool true) ∧ Ups w w' := by
  have h10 := ones_read
  generalize hon : bs (List.replicate 10 255) = on10 at *
  have hz10 : on10.size = 10 := by rw [← hon, bs_size]; rfl
  have hc10 := fun w => ones_calls 10 w (by decide)
  rw [hon] at hc10
  clear hon
  go_enter Try.func25, Try.ntmps25
  go_wp2_with fail
  refine (make_val _ _ _ (by decide +kernel) k_make).mono ?_
  rintro e w1 ⟨rfl, hb1⟩
  go_wp2_with fail
  refine (read_val _ _ _ _ (by decide +kernel) k_read).mono ?_
  rintro e w2 ⟨rfl, hb2⟩
  go_wp2_with fail
  refine (read_val _ _ _ _ (by decide +kernel) k_not).mono ?_
  rintro e w3 ⟨rfl, hb3⟩
  go_wp2_with fail
  refine (hc10 _).mono ?_
  rintro e w4 ⟨rfl, hb4⟩
  go_wp2_with fail
  refine (read_val _ _ _ _ (by omega) h10).mono ?_
  rintro e w5 ⟨rfl, hb5⟩
  go_wp2_with fail
  refine (size_calls 1 _).mono ?_
  rintro e w6 ⟨rfl, rfl⟩
  have s1 : sizeF 1 = 10 := by decide
  have s2 : sizeF (-1) = 0 := by decide
  go_wp2_with fail
  refine (size_calls (-1) _).mono ?_
  rintro e w6 ⟨rfl, rfl⟩
  go_wp2_with fail
  refine (ones_calls 3 _ (by decide)).mono ?_
  rintro e w6 ⟨rfl, hb6⟩
  go_wp2_with fail
  refine (clear_val (bs (List.replicate 3 255)) true _ (by decide +kernel) (by decide +kernel)).mono ?_
  rintro e w7 ⟨rfl, hb7⟩
  go_wp2_with fail
  refine (clear_val ⟨#[]⟩ true _ (by decide +kernel) (by decide +kernel)).mono ?_
  rintro e w8 ⟨rfl, hb8⟩
  go_wp2_with fail
  refine (clear_val _ false _ (by decide +kernel) (by decide +kernel)).mono ?_
  rintro e w9 ⟨rfl, hb9⟩
  go_wp2_with fail
  exact bodyPost_ret (v := .bool true) (results_one rfl rfl) rfl ⟨rfl, Ups.trans hb1 (Ups.trans hb2 (Ups.trans hb3 (Ups.trans hb4 (Ups.trans hb5 (Ups.trans hb6 (Ups.trans hb7 (Ups.trans hb8 hb9)))))))⟩

end Go.Proofs.Ytghobgpogifjfaa
