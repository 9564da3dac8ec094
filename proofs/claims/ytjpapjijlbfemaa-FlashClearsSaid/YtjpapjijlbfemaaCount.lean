/- What octet.Count and octet.Ones come to: walked; the library's part by the shelf. -/
import Derived.Test.YtjpapjijlbfemaaProg
import Derived.Test.YtjpapjijlbfemaaWords
import Derived.Test.YtjpapjijlbfemaaShelf
import Derived.WalkSpells
import Derived.WalkLawsBesides
import Derived.KernelRfl
namespace Go.Proofs.Ytjpapjijlbfemaa
open Go.RowKit

theorem popTab : ∀ x : Fin 256, Lib.onesCount x.val = pop (UInt8.ofNat x.val) := by decide +kernel
theorem pop_ones (c : UInt8) : Lib.onesCount c.toNat = pop c := by
  have h := popTab ⟨c.toNat, c.toNat_lt⟩
  simpa using h

theorem pop_calls (c : UInt8) (w : World) :
    Calls Try.prog 61 #[.int .u8 c.toNat] w fun e w' => e = .returned (.int .i64 (pop c)) ∧ w = w' := by
  have hc := c.toNat_lt
  refine (Try.bits_OnesCount8 (c.toNat : Int) w (by omega) (by omega)).mono ?_
  rintro e w' ⟨rfl, rfl⟩
  rw [Int.toNat_natCast, pop_ones]
  exact ⟨rfl, rfl⟩

theorem count_calls (s : ByteArray) (w : World) (hs : s.size ≤ 140737488355328) :
    Calls Try.prog 30 #[.string s] w fun e w' => e = .returned (.int .i64 (count s.data.toList)) ∧ w = w' := by
  go_enter Try.func30, Try.ntmps30
  go_wp2
  go_loop [3, 7] (fun n i => ∃ k : Nat, k ≤ s.size ∧ i = .int .i64 k ∧ n = .int .i64 (count (s.data.toList.take k))) (fun _ i => s.size - (intOf i).toNat)
  case atStart => exact ⟨0, Nat.zero_le _, rfl, rfl⟩
  case round =>
    obtain ⟨k, hk, rfl, rfl⟩ := hrel
    by_cases hlt : k < s.size
    · have hl : k < s.data.toList.length := by rw [toList_length]; exact hlt
      have hnext := count_take s.data.toList k hl
      have hget : s.data.toList[k] = s[k]'hlt := rfl
      rw [hget] at hnext
      have hN := count_le (s.data.toList.take k)
      have hlen : (s.data.toList.take k).length = k := by rw [List.length_take, toList_length]; omega
      rw [hlen] at hN
      have hp := pop_le (s[k]'hlt)
      have HS := Lib.hid hnext
      clear hnext hget hlen hl
      generalize count (s.data.toList.take k) = N at *
      go_wp2_with (go_at_call 61; refine (pop_calls (s[k]'hlt) _).mono ?_; rintro e w' ⟨rfl, rfl⟩)
      go_round
      case rel => exact ⟨k + 1, by omega, by go_num, by rw [HS.out]; go_num⟩
      case measure => simp [intOf]; omega
    · have hall : s.data.toList.take k = s.data.toList := List.take_of_length_le (by rw [toList_length]; omega)
      rw [hall]
      go_wp2
      go_ret
      exact ⟨rfl, rfl⟩

theorem repeat_ff (n : Nat) : Lib.repeatL [255] n = List.replicate n 255 := by
  induction n with
  | zero => rfl
  | succ n ih => simp only [Lib.repeatL, ih, List.replicate_succ]; rfl

theorem ones_none (n : Int) (w : World) (h : n < 0 ∨ 100000 < n) :
    Calls Try.prog 44 #[.int .i64 n] w fun e w' => e = .returned (.string (bs [])) ∧ w = w' := by
  by_cases h1 : n < 0
  · go_enter Try.func44, Try.ntmps44
    go_wp2
    go_ret
    exact ⟨rfl, rfl⟩
  · have h2 : 100000 < n := by omega
    clear h
    go_enter Try.func44, Try.ntmps44
    go_wp2
    go_ret
    exact ⟨rfl, rfl⟩

theorem ones_calls (n : Nat) (w : World) (h : n ≤ 100000) :
    Calls Try.prog 44 #[.int .i64 n] w fun e w' => e = .returned (.string (bs (List.replicate n 255))) ∧ Below w.heap.size w w' := by
  have h1 : ¬ (n : Int) < 0 := by omega
  have h2 : ¬ (100000 : Int) < n := by omega
  have hff := repeat_ff n
  have HFF := Lib.hid hff
  clear hff
  go_enter Try.func44, Try.ntmps44
  go_wp2_with (go_at_call 64; refine (Try.strings_Repeat _ n _ (by omega) (by simp [ByteArray.size]; omega)).mono ?_; rintro e w' ⟨rfl, hb⟩)
  go_ret
  refine ⟨?_, hb⟩
  show Ending.returned (.string ⟨(Lib.repeatL [255] n).toArray⟩) = _
  rw [HFF.out]; rfl

end Go.Proofs.Ytjpapjijlbfemaa
