/- What ouroborosref04's functions come to. -/
import Derived.Test.YtghobgpogifjfaaRef2
import Derived.Test.YtghobgpogifjfaaRefNot
namespace Go.Proofs.Ytghobgpogifjfaa
open Go.RowKit

def notT (a : ByteArray) : ByteArray := bs (notL a.data.toList)
theorem notT_size (a : ByteArray) : (notT a).size = a.size := by rw [notT, bs_size, notL_map, List.length_map, toList_length]
/-- A record of a payload. -/
def makeT (s : ByteArray) : ByteArray := sealT s ++ notT (sealT s)
theorem makeT_size (s : ByteArray) : (makeT s).size = 2 * (s.size + 4) := by rw [makeT, app_size, notT_size, sealT_size]; omega
def sizeF (n : Int) : Int := if n < 0 ∨ 4000 < n then 0 else 2 * (n + 4)
def rreadT (s : ByteArray) : ByteArray × Int :=
  if s.size < 8 ∨ s.size % 2 = 1 then (bs [], 2) else if makeT (s.extract 0 (s.size / 2 - 4)) = s then (s.extract 0 (s.size / 2 - 4), 0) else (bs [], 2)

theorem rnot_t (a : ByteArray) (w : World) (h : a.size ≤ 100000) :
    Calls Try.prog 44 #[.string a] w fun e w' => e = .returned (.string (notT a)) ∧ Ups w w' := ref_not a w h

set_option maxRecDepth 100000 in
theorem rmake_calls (s : ByteArray) (w : World) (hs : s.size ≤ 90000) :
    Calls Try.prog 26 #[.string s] w fun e w' => e = .returned (.string (makeT s)) ∧ Ups w w' := by
  have z := sealT_size s
  have z2 := notT_size (sealT s)
  have hd : makeT s = sealT s ++ notT (sealT s) := rfl
  have hsl := fun w => rseal_calls s w (by omega)
  generalize makeT s = M at *
  generalize sealT s = T at *
  have HD := Lib.hid hd
  clear hd
  go_enter Try.func26, Try.ntmps26
  go_wp2_with fail
  refine (hsl _).mono ?_
  rintro e w1 ⟨rfl, hb1⟩
  go_wp2_with fail
  refine (rnot_t T _ (by omega)).mono ?_
  rintro e w2 ⟨rfl, hb2⟩
  go_wp2_with fail
  exact bodyPost_ret (v := .string M) (results_one rfl (by rw [HD.out]; rfl)) rfl ⟨rfl, Ups.trans hb1 hb2⟩

set_option maxRecDepth 100000 in
theorem rsize_calls (n : Int) (w : World) :
    Calls Try.prog 29 #[.int .i64 n] w fun e w' => e = .returned (.int .i64 (sizeF n)) ∧ w = w' := by
  by_cases h : n < 0
  · have hf : sizeF n = 0 := by unfold sizeF; rw [if_pos (.inl h)]
    rw [hf]
    clear hf
    go_enter Try.func29, Try.ntmps29
    go_wp2
    go_ret
    exact ⟨rfl, rfl⟩
  by_cases h2 : 4000 < n
  · have hf : sizeF n = 0 := by unfold sizeF; rw [if_pos (.inr h2)]
    rw [hf]
    clear hf
    go_enter Try.func29, Try.ntmps29
    go_wp2
    go_ret
    exact ⟨rfl, rfl⟩
  · have hf : sizeF n = 2 * (n + 4) := by unfold sizeF; rw [if_neg (by omega)]
    rw [hf]
    clear hf
    go_enter Try.func29, Try.ntmps29
    go_wp2
    go_ret
    exact ⟨by simp, rfl⟩

set_option maxRecDepth 100000 in
theorem rread_calls (s : ByteArray) (w : World) (hs : s.size ≤ 90000) :
    Calls Try.prog 28 #[.string s] w fun e w' => e = .returned (.tuple #[.string (rreadT s).1, .int .i64 (rreadT s).2]) ∧ Ups w w' := by
  by_cases h8 : s.size < 8
  · have hf : rreadT s = (bs [], 2) := by unfold rreadT; rw [if_pos (.inl h8)]
    rw [hf]
    have h8' : (s.size : Int) < 8 := by omega
    clear hf h8
    go_enter Try.func28, Try.ntmps28
    go_wp2
    go_ret2
    exact ⟨rfl, Ups.refl _⟩
  have h8' : ¬ (s.size : Int) < 8 := by omega
  by_cases ho : s.size % 2 = 1
  · have hf : rreadT s = (bs [], 2) := by unfold rreadT; rw [if_pos (.inr ho)]
    rw [hf]
    have ho' : (s.size : Int) % 2 = 1 := by omega
    clear hf ho
    go_enter Try.func28, Try.ntmps28
    go_wp2
    go_ret2
    exact ⟨rfl, Ups.refl _⟩
  have ho' : ¬ (s.size : Int) % 2 = 1 := by omega
  have hT : (s.extract 0 (s.size / 2 - 4)).size = s.size / 2 - 4 := by simp; omega
  have hsl : ((s.size : Int) / 2 - 4).toNat = s.size / 2 - 4 := by omega
  have hin : (0 : Int) ≤ (s.size : Int) / 2 - 4 ∧ (s.size : Int) / 2 - 4 ≤ s.size := by omega
  by_cases he : makeT (s.extract 0 (s.size / 2 - 4)) = s
  · have hf : rreadT s = (s.extract 0 (s.size / 2 - 4), 0) := by unfold rreadT; rw [if_neg (by omega), if_pos he]
    rw [hf]
    have hse := fun w => rmake_calls (s.extract 0 (s.size / 2 - 4)) w (by omega)
    rw [he] at hse
    clear hf he h8 ho
    go_enter Try.func28, Try.ntmps28
    go_wp2_with fail
    refine (hse _).mono ?_
    rintro e w1 ⟨rfl, hb1⟩
    go_wp2_with fail
    go_ret2
    exact ⟨rfl, hb1⟩
  · have hf : rreadT s = (bs [], 2) := by unfold rreadT; rw [if_neg (by omega), if_neg he]
    rw [hf]
    have hse := fun w => rmake_calls (s.extract 0 (s.size / 2 - 4)) w (by omega)
    generalize makeT (s.extract 0 (s.size / 2 - 4)) = T at *
    have hne := text_ne he
    clear hf h8 ho
    go_enter Try.func28, Try.ntmps28
    go_wp2_with fail
    refine (hse _).mono ?_
    rintro e w1 ⟨rfl, hb1⟩
    go_wp2_with fail
    go_ret2
    exact ⟨rfl, hb1⟩

def clearT (s : ByteArray) : Bool := decide (s = bs (List.replicate s.size 255))
set_option maxRecDepth 100000 in
theorem rclear_calls (s : ByteArray) (w : World) (hs : s.size ≤ 90000) :
    Calls Try.prog 30 #[.string s] w fun e w' => e = .returned (.bool (clearT s)) ∧ Ups w w' := by
  have hon := fun w => ref_ones s.size w (by omega)
  by_cases he : s = bs (List.replicate s.size 255)
  · have hf : clearT s = true := by unfold clearT; exact decide_eq_true he
    rw [hf]
    rw [← he] at hon
    clear hf he
    go_enter Try.func30, Try.ntmps30
    go_wp2_with fail
    refine (hon _).mono ?_
    rintro e w1 ⟨rfl, hb1⟩
    go_wp2_with fail
    go_ret
    exact ⟨by simp, hb1⟩
  · have hf : clearT s = false := by unfold clearT; exact decide_eq_false he
    rw [hf]
    have hne := text_ne he
    generalize bs (List.replicate s.size 255) = T at *
    clear hf he
    go_enter Try.func30, Try.ntmps30
    go_wp2_with fail
    refine (hon _).mono ?_
    rintro e w1 ⟨rfl, hb1⟩
    go_wp2_with fail
    go_ret
    exact ⟨by simp, hb1⟩

end Go.Proofs.Ytghobgpogifjfaa
