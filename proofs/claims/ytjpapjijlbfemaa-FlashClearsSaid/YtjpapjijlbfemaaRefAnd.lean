/- What ouroborosref01.And comes to: walked. -/
import Derived.Test.YtjpapjijlbfemaaRefMem
namespace Go.Proofs.Ytjpapjijlbfemaa
open Go.RowKit

theorem ref_and_bits (x y : UInt8) : bits .and .u8 x.toNat y.toNat = ((andB x y).toNat : Int) := by rw [u8_and_nat _ _ x.toNat_lt y.toNat_lt]; rfl

set_option maxHeartbeats 800000 in
theorem ref_and (a b : ByteArray) (w : World) (ha : a.size ≤ 140737488355328) :
    Calls Try.prog 46 #[.string a, .string b] w fun e w' => e = .returned (.string (bs (mixL andB a.data.toList b.data.toList))) ∧ Below w.heap.size w w' := by
  obtain ⟨i0, hi, hz0, hz1, hz2⟩ := info_parts info_u8
  have HI := Lib.hid (And.intro hi (And.intro hz0 (And.intro hz1 hz2)))
  clear hi hz0 hz1 hz2
  go_enter Try.func46, Try.ntmps46
  go_wp2
  go_loopw [5, 6] (fun v i wr => ∃ k : Nat, k ≤ a.size ∧ i = .int .i64 k ∧ wr.ownsRow w.heap.size 5 1 v ((mixL andB a.data.toList b.data.toList).take k).length (((mixL andB a.data.toList b.data.toList).take k).map enc8) ∧ Below w.heap.size w wr)
    (fun _ i _ => a.size - (intOf i).toNat)
  case atStart => exact ⟨0, Nat.zero_le _, rfl, World.ownsRow_nil _ _ _ _, Below.refl _ _⟩
  case round =>
    obtain ⟨k, hk, rfl, hown, hbel⟩ := hrel
    have hlenA : (mixL andB a.data.toList b.data.toList).length = a.size := by rw [mixL_length, toList_length]
    by_cases hlt : k < a.size
    · have hl1 : k < a.data.toList.length := by rw [toList_length]; exact hlt
      have hl2 : k < (mixL andB a.data.toList b.data.toList).length := by rw [hlenA]; exact hlt
      have htake : ((mixL andB a.data.toList b.data.toList).take k).length = k := by rw [List.length_take]; omega
      have hnext := List.take_succ_eq_append_getElem hl2
      rw [mixL_get andB _ _ k hl1 hl2] at hnext
      rw [htake] at hown
      obtain ⟨hi, hz0, hz1, hz2⟩ := HI.out
      have hsz := hbel.size
      have HB := Lib.hid hbel
      have HT := Lib.hid htake
      clear hbel hlenA htake hl2
      by_cases hkb : k < b.size
      · have hl3 : k < b.data.toList.length := by rw [toList_length]; exact hkb
        rw [dif_pos hl3] at hnext
        have hb1 : bits .and .u8 ((a[k]'hlt).toNat : Int) ((b[k]'hkb).toNat : Int) = ((andB (a[k]'hlt) (b[k]'hkb)).toNat : Int) := ref_and_bits _ _
        have hnext' : (mixL andB a.data.toList b.data.toList).take (k + 1) = (mixL andB a.data.toList b.data.toList).take k ++ [andB (a[k]'hlt) (b[k]'hkb)] := hnext
        have HN := Lib.hid hnext'
        clear hnext hnext' hl1 hl3
        generalize (mixL andB a.data.toList b.data.toList).take k = L at *
        go_wp2_with (at_builtin; refine wpList_append_own _ rfl _ _ 44 rfl w.heap.size 5 i0 (.int .u8 0) 1 1 Try.underlying44 hi hz0 hz1 hz2 rfl (by decide) _ _ _ rfl (hown.alloc _) ⟨wr.heap.size, 0, none⟩ 1 1 [enc8 (andB (a[k]'hlt) (b[k]'hkb))] rfl rfl (cell_one_new _ _ _) (by simp [enc8_one]) (by unfold maxLen; omega) (by omega) (by simp; omega) ?_; intro v' w1 hown' hgrow _)
        have hb2 := below_append HB.out hown hgrow
        clear hi hz0 hz1 hz2 hb1
        go_wp2
        go_roundw
        case rel =>
          refine ⟨k + 1, by omega, by go_num, ?_, hb2⟩
          rw [HN.out]
          have hT := HT.out
          refine own_snoc ?_
          rw [hT]
          exact hown'
        case measure => simp [intOf]; omega
      · rw [dif_neg (by rw [toList_length]; exact hkb)] at hnext
        have hnext' : (mixL andB a.data.toList b.data.toList).take (k + 1) = (mixL andB a.data.toList b.data.toList).take k ++ [a[k]'hlt] := hnext
        have HN := Lib.hid hnext'
        clear hnext hnext' hl1
        generalize (mixL andB a.data.toList b.data.toList).take k = L at *
        go_wp2_with (at_builtin; refine wpList_append_own _ rfl _ _ 44 rfl w.heap.size 5 i0 (.int .u8 0) 1 1 Try.underlying44 hi hz0 hz1 hz2 rfl (by decide) _ _ _ rfl (hown.alloc _) ⟨wr.heap.size, 0, none⟩ 1 1 [enc8 (a[k]'hlt)] rfl rfl (cell_one_new _ _ _) (by simp [enc8_one]) (by unfold maxLen; omega) (by omega) (by simp; omega) ?_; intro v' w1 hown' hgrow _)
        have hb2 := below_append HB.out hown hgrow
        clear hi hz0 hz1 hz2
        go_wp2
        go_roundw
        case rel =>
          refine ⟨k + 1, by omega, by go_num, ?_, hb2⟩
          rw [HN.out]
          have hT := HT.out
          refine own_snoc ?_
          rw [hT]
          exact hown'
        case measure => simp [intOf]; omega
    · rw [List.take_of_length_le (by rw [hlenA]; omega)] at hown
      have hcv := string_of_own hown
      clear hown hlenA
      go_wp2
      go_ret
      exact ⟨rfl, hbel⟩

end Go.Proofs.Ytjpapjijlbfemaa
