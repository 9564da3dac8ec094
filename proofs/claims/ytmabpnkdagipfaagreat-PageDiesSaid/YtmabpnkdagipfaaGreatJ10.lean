/- Texts of this proof, one behind the other: Mix. -/
import Derived.Test.YtmabpnkdagipfaaGreatProg
import Derived.WalkSpells
import Derived.WalkLawsBesides
import Derived.KernelRfl
import Derived.StillTailTactics
import Derived.Laws.BitsAllLaws
import Derived.Test.YtmabpnkdagipfaaGreatJ2

/- What octet.And, Or, Xor, Not, Get, Count come to: walked once each. -/
namespace Go.Proofs.YtmabpnkdagipfaaGreat
open Go.RowKit

theorem and_bits (x y : UInt8) : bits .and .u8 x.toNat y.toNat = ((andB x y).toNat : Int) := by rw [u8_and_nat _ _ x.toNat_lt y.toNat_lt]; rfl
theorem or_bits (x y : UInt8) : bits .or .u8 x.toNat y.toNat = ((orB x y).toNat : Int) := by rw [u8_or_nat _ _ x.toNat_lt y.toNat_lt]; rfl
theorem xor_bits (x y : UInt8) : bits .xor .u8 x.toNat y.toNat = ((xorB x y).toNat : Int) := by rw [u8_xor_nat _ _ x.toNat_lt y.toNat_lt]; rfl
theorem not_fin : ∀ x : Fin 256, 255 ^^^ x.val = 255 - x.val := by decide +kernel
theorem not_nat (x : Nat) (h : x < 256) : 255 ^^^ x = 255 - x := not_fin ⟨x, h⟩
theorem not_bits (x y : UInt8) : bits .xor .u8 255 x.toNat = ((notB x y).toNat : Int) := by
  have h := u8_xor_nat 255 x.toNat (by decide) x.toNat_lt
  have e : ((255 : Nat) : Int) = 255 := rfl
  rw [e] at h
  rw [h]
  have := x.toNat_lt
  unfold notB
  rw [UInt8.toNat_not, not_nat _ this]
  rfl

theorem and_one (x y : UInt8) (w : World) :
    Calls Tryz.prog 156 #[.int .u8 x.toNat, .int .u8 y.toNat] w fun e w' => e = .returned (.int .u8 (andB x y).toNat) ∧ w = w' := by
  have h := and_bits x y
  have H := Lib.hid h
  clear h
  go_enter Tryz.func156, Tryz.ntmps156
  go_wp2
  go_ret
  exact ⟨by rw [← H.out]; rfl, rfl⟩

set_option maxRecDepth 100000 in
set_option maxHeartbeats 800000 in
theorem and_mix (a b : ByteArray) (w : World) (ha : a.size ≤ 140737488355328) (_hb : b.size ≤ 140737488355328) :
    Calls Tryz.prog 76 #[.string a, .string b, .func (.func 156) #[] #[]] w fun e w' => e = .returned (.string (bs (mixL andB a.data.toList b.data.toList))) ∧ Below w.heap.size w w' := by
  have hcv := fun (w : World) (s : ByteArray) => run_bytes_of_string (P := Tryz.prog) w 9 80 5 s Tryz.underlying9 Tryz.underlying80 Tryz.underlying5
  go_enter Tryz.func76, Tryz.ntmps76
  go_wp2
  clear hcv
  all_goals
    generalize hcap : grownCap w a.size 0 5 = cap
    have hB0 := (Buf.new w 5 a cap).drew
    generalize hz : (bytesRow a cap).size = z at *
    have hBel0 : Below w.heap.size w (w.alloc (.cells (bytesRow a cap) 5 (z, z + 1))).drew := ((Below.refl _ w).alloc (Nat.le_refl _) _).drew
    generalize (w.alloc (.cells (bytesRow a cap) 5 (z, z + 1))).drew = W1 at *
    clear hz hcap
    have HB0 := Lib.hid hB0
    clear hB0
    go_loopw [8, 16] (fun _ i wr => ∃ k : Nat, k ≤ min a.size b.size ∧ i = .int .i64 k ∧ Buf wr 5 w.heap.size cap z (mixTo andB a.data.toList b.data.toList k) ∧ Below w.heap.size w wr) (fun _ i _ => a.size - (intOf i).toNat)
    case atStart => exact ⟨0, Nat.zero_le _, rfl, by rw [mixTo_zero]; exact HB0.out, hBel0⟩
    case round =>
      obtain ⟨k, hk, rfl, hBuf, hBel⟩ := hrel
      by_cases hlt : k < min a.size b.size
      · have hka : k < a.size := by omega
        have hkb : k < b.size := by omega
        have hl : k < (mixTo andB a.data.toList b.data.toList k).length := by rw [mixTo_length, toList_length]; exact hka
        obtain ⟨v0, hc⟩ : ∃ v, wr.cell? ⟨w.heap.size, k, none⟩ = some v := ⟨_, hBuf.cell k hl⟩
        have hf := hBuf.frozen k hl
        have HBuf := Lib.hid hBuf
        have HL := Lib.hid hl
        clear hBuf HB0 hl
        go_wp2
        refine wp_region_still_tail 11 (by kernel_rfl) (by kernel_rfl) ?_
        simp only [List.take_succ_cons, List.take_zero, List.drop_succ_cons, List.drop_zero]
        clear hk hlt h
        have i0 : (0 : Int) ≤ (k : Int) := by omega
        have i1 : (k : Int) < (a.size : Int) := by omega
        have i2 : (k : Int) < (b.size : Int) := by omega
        iterate 9 still_step
        still_call ((and_one _ _ _).mono fun _ _ ⟨he, hw⟩ => ⟨he, hw.symm⟩)
        still_step
        refine wpStill_nil ?_
        go_wp2
        go_roundw
        case rel =>
          refine ⟨k + 1, by omega, by go_num, ?_, ?_⟩
          · rw [mixTo_set andB _ _ k (by rw [toList_length]; exact hka) (by rw [toList_length]; exact hkb)]
            exact (HBuf.out.set k HL.out _).drew
          · exact (hBel.setCell (Nat.le_refl _) _).drew
        case measure => simp [intOf]; omega
      · have hk' : k = min a.size b.size := by omega
        have hall := mixTo_all andB a.data.toList b.data.toList k (by rw [toList_length, toList_length]; exact hk')
        have hlen : (mixL andB a.data.toList b.data.toList).length = a.size := by rw [mixL_length, toList_length]
        rw [hall] at hBuf
        have hbk := run_convert_bytes_back (P := Tryz.prog) wr 80 9 5 ⟨w.heap.size, 0, none⟩ cap (mixL andB a.data.toList b.data.toList) Tryz.underlying80 Tryz.underlying5 Tryz.underlying9
          (fun j hj => by rw [addr0]; exact hBuf.cell j hj)
        rw [hlen] at hbk
        clear HB0 hBuf hall hlen hk'
        go_wp2
        go_ret
        exact ⟨rfl, hBel⟩

theorem and_calls (a b : ByteArray) (w : World) (ha : a.size ≤ 140737488355328) (hb : b.size ≤ 140737488355328) :
    Calls Tryz.prog 155 #[.string a, .string b] w fun e w' => e = .returned (.string (bs (mixL andB a.data.toList b.data.toList))) ∧ Below w.heap.size w w' := by
  go_enter Tryz.func155, Tryz.ntmps155
  go_wp2_with (go_at_call 76; refine (and_mix a b _ ha hb).mono ?_; rintro e w' ⟨rfl, hb1⟩)
  go_ret
  exact ⟨rfl, hb1⟩

theorem or_one (x y : UInt8) (w : World) :
    Calls Tryz.prog 152 #[.int .u8 x.toNat, .int .u8 y.toNat] w fun e w' => e = .returned (.int .u8 (orB x y).toNat) ∧ w = w' := by
  have h := or_bits x y
  have H := Lib.hid h
  clear h
  go_enter Tryz.func152, Tryz.ntmps152
  go_wp2
  go_ret
  exact ⟨by rw [← H.out]; rfl, rfl⟩

set_option maxRecDepth 100000 in
set_option maxHeartbeats 800000 in
theorem or_mix (a b : ByteArray) (w : World) (ha : a.size ≤ 140737488355328) (_hb : b.size ≤ 140737488355328) :
    Calls Tryz.prog 76 #[.string a, .string b, .func (.func 152) #[] #[]] w fun e w' => e = .returned (.string (bs (mixL orB a.data.toList b.data.toList))) ∧ Below w.heap.size w w' := by
  have hcv := fun (w : World) (s : ByteArray) => run_bytes_of_string (P := Tryz.prog) w 9 80 5 s Tryz.underlying9 Tryz.underlying80 Tryz.underlying5
  go_enter Tryz.func76, Tryz.ntmps76
  go_wp2
  clear hcv
  all_goals
    generalize hcap : grownCap w a.size 0 5 = cap
    have hB0 := (Buf.new w 5 a cap).drew
    generalize hz : (bytesRow a cap).size = z at *
    have hBel0 : Below w.heap.size w (w.alloc (.cells (bytesRow a cap) 5 (z, z + 1))).drew := ((Below.refl _ w).alloc (Nat.le_refl _) _).drew
    generalize (w.alloc (.cells (bytesRow a cap) 5 (z, z + 1))).drew = W1 at *
    clear hz hcap
    have HB0 := Lib.hid hB0
    clear hB0
    go_loopw [8, 16] (fun _ i wr => ∃ k : Nat, k ≤ min a.size b.size ∧ i = .int .i64 k ∧ Buf wr 5 w.heap.size cap z (mixTo orB a.data.toList b.data.toList k) ∧ Below w.heap.size w wr) (fun _ i _ => a.size - (intOf i).toNat)
    case atStart => exact ⟨0, Nat.zero_le _, rfl, by rw [mixTo_zero]; exact HB0.out, hBel0⟩
    case round =>
      obtain ⟨k, hk, rfl, hBuf, hBel⟩ := hrel
      by_cases hlt : k < min a.size b.size
      · have hka : k < a.size := by omega
        have hkb : k < b.size := by omega
        have hl : k < (mixTo orB a.data.toList b.data.toList k).length := by rw [mixTo_length, toList_length]; exact hka
        obtain ⟨v0, hc⟩ : ∃ v, wr.cell? ⟨w.heap.size, k, none⟩ = some v := ⟨_, hBuf.cell k hl⟩
        have hf := hBuf.frozen k hl
        have HBuf := Lib.hid hBuf
        have HL := Lib.hid hl
        clear hBuf HB0 hl
        go_wp2
        refine wp_region_still_tail 11 (by kernel_rfl) (by kernel_rfl) ?_
        simp only [List.take_succ_cons, List.take_zero, List.drop_succ_cons, List.drop_zero]
        clear hk hlt h
        have i0 : (0 : Int) ≤ (k : Int) := by omega
        have i1 : (k : Int) < (a.size : Int) := by omega
        have i2 : (k : Int) < (b.size : Int) := by omega
        iterate 9 still_step
        still_call ((or_one _ _ _).mono fun _ _ ⟨he, hw⟩ => ⟨he, hw.symm⟩)
        still_step
        refine wpStill_nil ?_
        go_wp2
        go_roundw
        case rel =>
          refine ⟨k + 1, by omega, by go_num, ?_, ?_⟩
          · rw [mixTo_set orB _ _ k (by rw [toList_length]; exact hka) (by rw [toList_length]; exact hkb)]
            exact (HBuf.out.set k HL.out _).drew
          · exact (hBel.setCell (Nat.le_refl _) _).drew
        case measure => simp [intOf]; omega
      · have hk' : k = min a.size b.size := by omega
        have hall := mixTo_all orB a.data.toList b.data.toList k (by rw [toList_length, toList_length]; exact hk')
        have hlen : (mixL orB a.data.toList b.data.toList).length = a.size := by rw [mixL_length, toList_length]
        rw [hall] at hBuf
        have hbk := run_convert_bytes_back (P := Tryz.prog) wr 80 9 5 ⟨w.heap.size, 0, none⟩ cap (mixL orB a.data.toList b.data.toList) Tryz.underlying80 Tryz.underlying5 Tryz.underlying9
          (fun j hj => by rw [addr0]; exact hBuf.cell j hj)
        rw [hlen] at hbk
        clear HB0 hBuf hall hlen hk'
        go_wp2
        go_ret
        exact ⟨rfl, hBel⟩

theorem or_calls (a b : ByteArray) (w : World) (ha : a.size ≤ 140737488355328) (hb : b.size ≤ 140737488355328) :
    Calls Tryz.prog 151 #[.string a, .string b] w fun e w' => e = .returned (.string (bs (mixL orB a.data.toList b.data.toList))) ∧ Below w.heap.size w w' := by
  go_enter Tryz.func151, Tryz.ntmps151
  go_wp2_with (go_at_call 76; refine (or_mix a b _ ha hb).mono ?_; rintro e w' ⟨rfl, hb1⟩)
  go_ret
  exact ⟨rfl, hb1⟩

theorem not_one (x y : UInt8) (w : World) :
    Calls Tryz.prog 77 #[.int .u8 x.toNat, .int .u8 y.toNat] w fun e w' => e = .returned (.int .u8 (notB x y).toNat) ∧ w = w' := by
  have h := not_bits x y
  have H := Lib.hid h
  clear h
  go_enter Tryz.func77, Tryz.ntmps77
  go_wp2
  go_ret
  exact ⟨by rw [← H.out]; rfl, rfl⟩

set_option maxRecDepth 100000 in
set_option maxHeartbeats 800000 in
theorem not_mix (a b : ByteArray) (w : World) (ha : a.size ≤ 140737488355328) (_hb : b.size ≤ 140737488355328) :
    Calls Tryz.prog 76 #[.string a, .string b, .func (.func 77) #[] #[]] w fun e w' => e = .returned (.string (bs (mixL notB a.data.toList b.data.toList))) ∧ Below w.heap.size w w' := by
  have hcv := fun (w : World) (s : ByteArray) => run_bytes_of_string (P := Tryz.prog) w 9 80 5 s Tryz.underlying9 Tryz.underlying80 Tryz.underlying5
  go_enter Tryz.func76, Tryz.ntmps76
  go_wp2
  clear hcv
  all_goals
    generalize hcap : grownCap w a.size 0 5 = cap
    have hB0 := (Buf.new w 5 a cap).drew
    generalize hz : (bytesRow a cap).size = z at *
    have hBel0 : Below w.heap.size w (w.alloc (.cells (bytesRow a cap) 5 (z, z + 1))).drew := ((Below.refl _ w).alloc (Nat.le_refl _) _).drew
    generalize (w.alloc (.cells (bytesRow a cap) 5 (z, z + 1))).drew = W1 at *
    clear hz hcap
    have HB0 := Lib.hid hB0
    clear hB0
    go_loopw [8, 16] (fun _ i wr => ∃ k : Nat, k ≤ min a.size b.size ∧ i = .int .i64 k ∧ Buf wr 5 w.heap.size cap z (mixTo notB a.data.toList b.data.toList k) ∧ Below w.heap.size w wr) (fun _ i _ => a.size - (intOf i).toNat)
    case atStart => exact ⟨0, Nat.zero_le _, rfl, by rw [mixTo_zero]; exact HB0.out, hBel0⟩
    case round =>
      obtain ⟨k, hk, rfl, hBuf, hBel⟩ := hrel
      by_cases hlt : k < min a.size b.size
      · have hka : k < a.size := by omega
        have hkb : k < b.size := by omega
        have hl : k < (mixTo notB a.data.toList b.data.toList k).length := by rw [mixTo_length, toList_length]; exact hka
        obtain ⟨v0, hc⟩ : ∃ v, wr.cell? ⟨w.heap.size, k, none⟩ = some v := ⟨_, hBuf.cell k hl⟩
        have hf := hBuf.frozen k hl
        have HBuf := Lib.hid hBuf
        have HL := Lib.hid hl
        clear hBuf HB0 hl
        go_wp2
        refine wp_region_still_tail 11 (by kernel_rfl) (by kernel_rfl) ?_
        simp only [List.take_succ_cons, List.take_zero, List.drop_succ_cons, List.drop_zero]
        clear hk hlt h
        have i0 : (0 : Int) ≤ (k : Int) := by omega
        have i1 : (k : Int) < (a.size : Int) := by omega
        have i2 : (k : Int) < (b.size : Int) := by omega
        iterate 9 still_step
        still_call ((not_one _ _ _).mono fun _ _ ⟨he, hw⟩ => ⟨he, hw.symm⟩)
        still_step
        refine wpStill_nil ?_
        go_wp2
        go_roundw
        case rel =>
          refine ⟨k + 1, by omega, by go_num, ?_, ?_⟩
          · rw [mixTo_set notB _ _ k (by rw [toList_length]; exact hka) (by rw [toList_length]; exact hkb)]
            exact (HBuf.out.set k HL.out _).drew
          · exact (hBel.setCell (Nat.le_refl _) _).drew
        case measure => simp [intOf]; omega
      · have hk' : k = min a.size b.size := by omega
        have hall := mixTo_all notB a.data.toList b.data.toList k (by rw [toList_length, toList_length]; exact hk')
        have hlen : (mixL notB a.data.toList b.data.toList).length = a.size := by rw [mixL_length, toList_length]
        rw [hall] at hBuf
        have hbk := run_convert_bytes_back (P := Tryz.prog) wr 80 9 5 ⟨w.heap.size, 0, none⟩ cap (mixL notB a.data.toList b.data.toList) Tryz.underlying80 Tryz.underlying5 Tryz.underlying9
          (fun j hj => by rw [addr0]; exact hBuf.cell j hj)
        rw [hlen] at hbk
        clear HB0 hBuf hall hlen hk'
        go_wp2
        go_ret
        exact ⟨rfl, hBel⟩

theorem not_calls (a : ByteArray) (w : World) (ha : a.size ≤ 140737488355328) :
    Calls Tryz.prog 50 #[.string a] w fun e w' => e = .returned (.string (bs (notL a.data.toList))) ∧ Below w.heap.size w w' := by
  go_enter Tryz.func50, Tryz.ntmps50
  go_wp2_with (go_at_call 76; refine (not_mix a a _ ha ha).mono ?_; rintro e w' ⟨rfl, hb1⟩)
  go_ret
  exact ⟨rfl, hb1⟩

end Go.Proofs.YtmabpnkdagipfaaGreat
