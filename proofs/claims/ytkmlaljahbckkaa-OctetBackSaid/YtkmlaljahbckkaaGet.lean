/- What octet.Get and octet.Count come to: walked once each. -/
import Derived.Test.YtkmlaljahbckkaaProg
import Derived.Test.YtkmlaljahbckkaaWords
import Derived.WalkSpells
import Derived.WalkLawsBesides
import Derived.KernelRfl
import Derived.Laws.BitsAllLaws
namespace Go.Proofs.Ytkmlaljahbckkaa
open Go.RowKit

theorem get_arg (s : ByteArray) (at_ wd : Int) (w : World) (h : wd < 1 ∨ 7 < wd) :
    Calls Try.prog 13 #[.string s, .int .i64 at_, .int .i64 wd] w fun e w' => e = .returned (.tuple #[.int .i64 0, .int .i64 1]) ∧ w = w' := by
  rcases h with h | h
  · go_enter Try.func13, Try.ntmps13
    go_wp2
    go_ret2
    exact ⟨rfl, rfl⟩
  · have h1 : ¬ wd < 1 := by omega
    go_enter Try.func13, Try.ntmps13
    go_wp2
    go_ret2
    exact ⟨rfl, rfl⟩

theorem get_form (s : ByteArray) (at_ wd : Int) (w : World) (hs : s.size ≤ 140737488355328) (h1 : 1 ≤ wd) (h7 : wd ≤ 7) (h : at_ < 0 ∨ (s.size : Int) < at_ ∨ (s.size : Int) - at_ < wd) :
    Calls Try.prog 13 #[.string s, .int .i64 at_, .int .i64 wd] w fun e w' => e = .returned (.tuple #[.int .i64 0, .int .i64 2]) ∧ w = w' := by
  have g1 : ¬ wd < 1 := by omega
  have g2 : ¬ 7 < wd := by omega
  by_cases a1 : at_ < 0
  · go_enter Try.func13, Try.ntmps13
    go_wp2
    go_ret2
    exact ⟨rfl, rfl⟩
  by_cases a2 : (s.size : Int) < at_
  · go_enter Try.func13, Try.ntmps13
    go_wp2
    go_ret2
    exact ⟨rfl, rfl⟩
  have a3 : (s.size : Int) - at_ < wd := by omega
  clear h
  go_enter Try.func13, Try.ntmps13
  go_wp2
  go_ret2
  exact ⟨rfl, rfl⟩

theorem getStep (N k c : Nat) (hk : k < 7) (hN : N < 256 ^ k) (hc : c < 256) : bits .or .i64 (N : Int) (wrap64 (wrap64 (c : Int) * 2 ^ (8 * k))) = ((N + 256 ^ k * c : Nat) : Int) := by
  have e8 : (2 : Nat) ^ (8 * k) = 256 ^ k := by rw [Nat.pow_mul]
  have hp : 256 ^ k ≤ 256 ^ 6 := Nat.pow_le_pow_right (by decide) (by omega)
  have e1 : wrap64 (c : Int) = c := by unfold wrap64; omega
  have e2 : ((2 : Int) ^ (8 * k)) = ((256 ^ k : Nat) : Int) := by rw [← e8]; simp
  have hm : 256 ^ k * c ≤ 256 ^ 6 * 255 := Nat.mul_le_mul hp (by omega)
  have e3 : (c : Int) * ((256 ^ k : Nat) : Int) = ((256 ^ k * c : Nat) : Int) := by rw [Nat.mul_comm, Int.natCast_mul]
  rw [e1, e2, e3]
  have e4 : wrap64 ((256 ^ k * c : Nat) : Int) = ((256 ^ k * c : Nat) : Int) := by
    generalize 256 ^ k * c = M at *
    unfold wrap64; omega
  rw [e4]
  have ho := (bits_nat .i64 63 (by decide) (fun n h0 h1 => by rw [IntKind.wrap_i64]; omega) N (256 ^ k * c) (by omega) (by omega)).2
  rw [ho]
  congr 1
  rw [Nat.or_comm, nat_join (8 * k) (256 ^ k * c) N (by rw [e8]; simp) (by rw [e8]; exact hN)]
  omega

theorem get_ok (s : ByteArray) (at_ wd : Nat) (w : World) (h1 : 1 ≤ wd) (h7 : wd ≤ 7) (ha : at_ + wd ≤ s.size) (hs : s.size ≤ 140737488355328) :
    Calls Try.prog 13 #[.string s, .int .i64 at_, .int .i64 wd] w fun e w' => e = .returned (.tuple #[.int .i64 (numL ((s.data.toList.drop at_).take wd)), .int .i64 0]) ∧ w = w' := by
  have g1 : ¬ (wd : Int) < 1 := by omega
  have g2 : ¬ (7 : Int) < wd := by omega
  have g3 : ¬ (at_ : Int) < 0 := by omega
  have g4 : ¬ (s.size : Int) < at_ := by omega
  have g5 : ¬ (s.size : Int) - at_ < wd := by omega
  go_enter Try.func13, Try.ntmps13
  go_wp2
  go_loop [8, 35] (fun n i => ∃ k : Nat, k ≤ wd ∧ i = .int .i64 k ∧ n = .int .i64 (numL ((s.data.toList.drop at_).take k))) (fun _ i => wd - (intOf i).toNat)
  case atStart => exact ⟨0, Nat.zero_le _, rfl, rfl⟩
  case round =>
    obtain ⟨k, hk, rfl, rfl⟩ := hrel
    by_cases hlt : k < wd
    · have hi : at_ + k < s.size := by omega
      have hl : k < (s.data.toList.drop at_).length := by rw [List.length_drop, toList_length]; omega
      have hlen : ((s.data.toList.drop at_).take k).length = k := by rw [List.length_take]; omega
      have hN := numL_lt ((s.data.toList.drop at_).take k)
      rw [hlen] at hN
      have hnext := numL_take (s.data.toList.drop at_) k hl
      have hget : (s.data.toList.drop at_)[k] = s[at_ + k] := by rw [List.getElem_drop]; rfl
      rw [hget] at hnext
      have hstep := getStep _ k s[at_ + k].toNat (by omega) hN (s[at_ + k].toNat_lt)
      rw [← hnext] at hstep
      have HS := Lib.hid hstep
      clear hstep hnext hget hN hlen hl
      generalize numL ((s.data.toList.drop at_).take k) = N at *
      go_wp2
      go_round
      case rel => exact ⟨k + 1, by omega, by go_num, by rw [← HS.out]⟩
      case measure => simp [intOf]; omega
    · obtain rfl : k = wd := by omega
      go_wp2
      go_ret2
      exact ⟨rfl, rfl⟩

end Go.Proofs.Ytkmlaljahbckkaa
