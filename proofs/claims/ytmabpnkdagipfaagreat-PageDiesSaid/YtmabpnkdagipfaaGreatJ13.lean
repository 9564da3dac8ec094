/- Texts of this proof, one behind the other: RefPut. -/
import Derived.Test.YtmabpnkdagipfaaGreatJ8
import Derived.Test.YtmabpnkdagipfaaGreatJ12

/- What ouroborosref01.Put, Get, Ones, Not and Count come to: walked once each. -/
namespace Go.Proofs.YtmabpnkdagipfaaGreat
open Go.RowKit

theorem ref_put_arg (n wd : Int) (w : World) (h : wd < 1 ∨ 7 < wd ∨ n < 0) :
    Calls Tryz.prog 85 #[.int .i64 n, .int .i64 wd] w fun e w' => e = .returned (.tuple #[.string (bs []), .int .i64 1]) ∧ Below w.heap.size w w' := by
  by_cases h1 : wd < 1
  · go_enter Tryz.func85, Tryz.ntmps85
    go_wp2
    go_ret2
    exact ⟨rfl, Below.refl _ _⟩
  by_cases h2 : 7 < wd
  · go_enter Tryz.func85, Tryz.ntmps85
    go_wp2
    go_ret2
    exact ⟨rfl, Below.refl _ _⟩
  · have h3 : n < 0 := by omega
    clear h
    go_enter Tryz.func85, Tryz.ntmps85
    go_wp2
    go_ret2
    exact ⟨rfl, Below.refl _ _⟩

theorem vsN_rem (n k : Nat) : vsN n k % 256 = psN n k := by unfold vsN psN; omega
theorem vsN_le (n k : Nat) : 0 ≤ vsN n k ∧ vsN n k ≤ n := by
  have := Nat.div_le_self n (256 ^ k)
  unfold vsN
  generalize n / 256 ^ k = m at *
  omega

set_option maxHeartbeats 800000 in
theorem ref_put_some (n wd : Nat) (w : World) (h1 : 1 ≤ wd) (h7 : wd ≤ 7) (hn : n < 9223372036854775808) :
    Calls Tryz.prog 85 #[.int .i64 n, .int .i64 wd] w (PutEnds n wd w) := by
  have g1 : ¬ (wd : Int) < 1 := by omega
  have g2 : ¬ (7 : Int) < wd := by omega
  have g3 : ¬ (n : Int) < 0 := by omega
  obtain ⟨i0, hi, hz0, hz1, hz2⟩ := info_parts info_u8
  have HI := Lib.hid (And.intro hi (And.intro hz0 (And.intro hz1 hz2)))
  clear hi hz0 hz1 hz2
  go_enter Tryz.func85, Tryz.ntmps85
  go_wp2
  go_loopw [0, 6, 7] (fun m v i wr => ∃ k : Nat, k ≤ wd ∧ i = .int .i64 k ∧ m = .int .i64 (vsN n k) ∧ wr.ownsRow w.heap.size 5 1 v (putL n k).length ((putL n k).map enc8) ∧ Below w.heap.size w wr)
    (fun _ _ i _ => wd - (intOf i).toNat)
  case atStart => exact ⟨0, Nat.zero_le _, rfl, by simp [vsN], World.ownsRow_nil _ _ _ _, Below.refl _ _⟩
  case round =>
    obtain ⟨k, hk, rfl, rfl, hown, hbel⟩ := hrel
    obtain ⟨b0, b1⟩ := vsN_le n k
    by_cases hlt : k < wd
    · rw [putL_length] at hown
      obtain ⟨hi, hz0, hz1, hz2⟩ := HI.out
      have hsz := hbel.size
      have HB := Lib.hid hbel
      have e1 := vsN_rem n k
      have e2 := vsN_succ n k
      have e3 := psN_byte n k
      obtain ⟨p0, p1⟩ := psN_lt n k
      have HN := Lib.hid (putL_succ n k)
      have HE3 := Lib.hid e3
      clear hbel e3
      go_wp2_with (at_builtin; refine wpList_append_own _ rfl _ _ 80 rfl w.heap.size 5 i0 (.int .u8 0) 1 1 Tryz.underlying80 hi hz0 hz1 hz2 rfl (by decide) _ _ _ rfl (hown.alloc _) ⟨wr.heap.size, 0, none⟩ 1 1 [.int .u8 (psN n k)] rfl rfl (cell_one_new _ _ _) (by simp [Value.oneCell']) (by unfold maxLen; omega) (by omega) (by simp; omega) ?_; intro v' w1 hown' hgrow _)
      have hb2 := below_append HB.out hown hgrow
      clear hi hz0 hz1 hz2 e1
      go_wp2
      go_roundw
      case rel =>
        refine ⟨k + 1, by omega, by go_num, by rw [vsN_succ], ?_, hb2⟩
        rw [HN.out]
        refine own_snoc ?_
        rw [putL_length]
        have := HE3.out
        rw [this] at hown'
        exact hown'
      case measure => simp [intOf]; omega
    · obtain rfl : k = wd := by omega
      have hcv := string_of_own hown
      have hlen := putL_length n k
      clear hown
      have HL := Lib.hid hlen
      clear hlen
      by_cases hf : n < 256 ^ k
      · have hv : ¬ 0 < vsN n k := by unfold vsN; rw [Nat.div_eq_of_lt hf]; decide
        have HF := Lib.hid hf
        clear hf
        go_wp2
        go_ret2
        exact ⟨hbel, .inl ⟨HF.out, rfl⟩⟩
      · have hv : 0 < vsN n k := by
          unfold vsN
          have := Nat.div_pos (Nat.le_of_not_lt hf) (Nat.pow_pos (n := k) (show 0 < 256 by decide))
          omega
        have HF := Lib.hid (Nat.le_of_not_lt hf)
        clear hf
        go_wp2
        go_ret2
        exact ⟨hbel, .inr ⟨HF.out, rfl⟩⟩

end Go.Proofs.YtmabpnkdagipfaaGreat
