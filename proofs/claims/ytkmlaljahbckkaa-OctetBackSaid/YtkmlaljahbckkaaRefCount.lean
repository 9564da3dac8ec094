/- What ouroborosref01.Count comes to: walked. -/
import Derived.Test.YtkmlaljahbckkaaRefMix
namespace Go.Proofs.Ytkmlaljahbckkaa
open Go.RowKit

/-- How many ones a number below 256 has. -/
def popN (x : Nat) : Nat := pop (UInt8.ofNat x)
theorem popN_all : ∀ x : Fin 256, popN x.val = x.val % 2 + popN (x.val / 2) := by decide +kernel
theorem popN_step (x : Nat) (h : x < 256) : popN x = x % 2 + popN (x / 2) := popN_all ⟨x, h⟩
theorem popN_byte (c : UInt8) : popN c.toNat = pop c := by unfold popN; simp

set_option maxHeartbeats 800000 in
theorem ref_count (s : ByteArray) (w : World) (hs : s.size ≤ 140737488355328) :
    Calls Try.prog 20 #[.string s] w fun e w' => e = .returned (.int .i64 (count s.data.toList)) ∧ w = w' := by
  go_enter Try.func20, Try.ntmps20
  go_wp2
  go_loop [3, 4, 5] (fun n i _ => ∃ k : Nat, k ≤ s.size ∧ i = .int .i64 k ∧ n = .int .i64 (count (s.data.toList.take k))) (fun _ i _ => s.size - (intOf i).toNat)
  case atStart => exact ⟨0, Nat.zero_le _, rfl, rfl⟩
  case round =>
    obtain ⟨k, hk, rfl, rfl⟩ := hrel
    by_cases hlt : k < s.size
    · have hl : k < s.data.toList.length := by rw [toList_length]; exact hlt
      have hnext := count_take s.data.toList k hl
      have hnext' : count (s.data.toList.take (k + 1)) = count (s.data.toList.take k) + popN (s[k]'hlt).toNat := by rw [popN_byte]; exact hnext
      have hN := count_le (s.data.toList.take k)
      have hlen : (s.data.toList.take k).length = k := by rw [List.length_take, toList_length]; omega
      rw [hlen] at hN
      have hp := pop_le (s[k]'hlt)
      rw [← popN_byte] at hp
      have hc := (s[k]'hlt).toNat_lt
      have HS := Lib.hid hnext'
      clear hnext hnext' hlen hl
      generalize count (s.data.toList.take k) = N at *
      generalize hcc : (s[k]'hlt).toNat = c at *
      go_wp2
      go_loop [3, 5] (fun n x => ∃ m y : Nat, y ≤ c ∧ m + popN y = popN c ∧ x = .int .u8 y ∧ n = .int .i64 (N + m : Nat)) (fun _ x => (intOf x).toNat)
      case atStart => exact ⟨0, c, Nat.le_refl _, by omega, by rw [← hcc], rfl⟩
      case round =>
        obtain ⟨m, y, hy, hm, rfl, rfl⟩ := hrel
        have hst := popN_step y (by omega)
        have HM := Lib.hid hm
        have HST := Lib.hid hst
        have hm8 : m ≤ 8 := by omega
        clear hm hst hcc
        by_cases hpos : 0 < y
        · go_wp2
          go_round
          case rel =>
            have := HM.out
            have := HST.out
            exact ⟨m + y % 2, y / 2, by omega, by omega, by go_num, by go_num⟩
          case measure => simp [intOf]; omega
        · obtain rfl : y = 0 := by omega
          have h0 : m = popN c := by have := HM.out; have h00 : popN 0 = 0 := by decide +kernel
                                     omega
          have H0 := Lib.hid h0
          clear h0
          go_wp2
          go_round
          case rel => exact ⟨k + 1, by omega, by go_num, by rw [HS.out, H0.out]⟩
          case measure => simp [intOf]; omega
    · have hall : s.data.toList.take k = s.data.toList := List.take_of_length_le (by rw [toList_length]; omega)
      rw [hall]
      go_wp2
      go_ret
      exact ⟨rfl, rfl⟩

end Go.Proofs.Ytkmlaljahbckkaa
