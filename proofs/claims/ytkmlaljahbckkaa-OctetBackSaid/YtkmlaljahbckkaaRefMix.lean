/- What ouroborosref01's functions come to: walked once each. -/
import Derived.Test.YtkmlaljahbckkaaProg
import Derived.Test.YtkmlaljahbckkaaWords
import Derived.WalkSpells
import Derived.WalkLawsBesides
import Derived.KernelRfl
import Derived.Laws.BitsAllLaws
import Derived.Deep.AppendLies
namespace Go.Proofs.Ytkmlaljahbckkaa
open Go.RowKit

theorem info_u8 : (Try.prog.info? 5).map (fun i => (i.zero, i.size, i.bytes)) = some (some (.int .u8 0), 1, 1) := by kernel_rfl

/-- A byte as a value. -/
def enc8 (c : UInt8) : Value := .int .u8 c.toNat
theorem enc8_one (c : UInt8) : (enc8 c).oneCell' = true := rfl

/-- 'string(b)' of a row of the call's own. -/
theorem string_of_own {w : World} {B : Nat} {v : Value} {l : List UInt8} (h : w.ownsRow B 5 1 v l.length (l.map enc8)) :
    (convert 38 9 v).run Try.prog w = .ok (.string (bs l)) w := by
  rcases Nat.eq_zero_or_pos l.length with h0 | h0
  · have hl : l = [] := List.eq_nil_of_length_eq_zero h0
    subst hl
    rcases h.2 with ⟨rfl, _⟩ | ⟨g, cap, cur, rfl, _, _, _, _⟩
    · rw [run_convert_bytes_string w 38 9 5 none 0 0 Try.underlying38 Try.underlying5 Try.underlying9]
      rfl
    · exact run_convert_bytes_back (P := Try.prog) w 38 9 5 ⟨g, 0, none⟩ cap [] Try.underlying38 Try.underlying5 Try.underlying9 (fun j hj => by simp at hj)
  · obtain ⟨g, cap, rfl, _, _⟩ := h.form h0
    exact run_convert_bytes_back (P := Try.prog) w 38 9 5 ⟨g, 0, none⟩ cap l Try.underlying38 Try.underlying5 Try.underlying9 (fun j hj => by
      have := h.cells (g := g) rfl j (enc8 l[j]) (by simp [hj])
      simpa [enc8] using this)

theorem own_base {w : World} {B : Nat} {e : TypeId} {size n : Nat} {v : Value} {xs : List Value} (h : w.ownsRow B e size v n xs) {g : Nat} (hg : v.ownBlock = some g) : B ≤ g := by
  rcases h.2 with ⟨rfl, _⟩ | ⟨g', cap, cur, rfl, hb, _⟩
  · simp [Value.ownBlock] at hg
  · simp [Value.ownBlock] at hg
    omega

/-- Behind an append of one element. -/
theorem below_append {w wr w1 : World} {o : Obj} {e : TypeId} {size n : Nat} {v : Value} {xs : List Value} (hb : Below w.heap.size w wr) (h : wr.ownsRow w.heap.size e size v n xs) (hg : (wr.alloc o).grownBy w1 v.ownBlock) : Below w.heap.size w w1 :=
  (hb.alloc hb.size o).grown hg (by have := hb.size; simp; omega) (fun _ hk => own_base h hk)

/-- A row with one byte more. -/
theorem own_snoc {w : World} {B : Nat} {v : Value} {l : List UInt8} {c : UInt8} (h : w.ownsRow B 5 1 v (l.length + 1) (l.map enc8 ++ [enc8 c])) : w.ownsRow B 5 1 v (l ++ [c]).length ((l ++ [c]).map enc8) := by
  simpa using h

theorem mixL_get (f : UInt8 → UInt8 → UInt8) (a b : List UInt8) (k : Nat) (h : k < a.length) (h' : k < (mixL f a b).length) : (mixL f a b)[k] = if hb : k < b.length then f a[k] b[k] else a[k] := by
  induction k generalizing a b with
  | zero =>
    match a, b, h with
    | x :: a, [], _ => simp [mixL]
    | x :: a, y :: b, _ => simp [mixL]
  | succ k ih =>
    match a, b, h with
    | x :: a, [], _ => simp [mixL]
    | x :: a, y :: b, h => simp only [mixL, List.getElem_cons_succ, List.length_cons, Nat.add_lt_add_iff_right]; exact ih a b (by simpa using h) _

theorem ref_and_bits (x y : UInt8) : bits .and .u8 x.toNat y.toNat = ((andB x y).toNat : Int) := by rw [u8_and_nat _ _ x.toNat_lt y.toNat_lt]; rfl

set_option maxHeartbeats 800000 in
theorem ref_and (a b : ByteArray) (w : World) (ha : a.size ≤ 140737488355328) :
    Calls Try.prog 15 #[.string a, .string b] w fun e w' => e = .returned (.string (bs (mixL andB a.data.toList b.data.toList))) ∧ Below w.heap.size w w' := by
  obtain ⟨i0, hi, hz0, hz1, hz2⟩ := info_parts info_u8
  have HI := Lib.hid (And.intro hi (And.intro hz0 (And.intro hz1 hz2)))
  clear hi hz0 hz1 hz2
  go_enter Try.func15, Try.ntmps15
  go_wp2
  go_loopw [5, 6] (fun v i wr => ∃ k : Nat, k ≤ a.size ∧ i = .int .i64 k ∧ wr.ownsRow w.heap.size 5 1 v ((mixL andB a.data.toList b.data.toList).take k).length (((mixL andB a.data.toList b.data.toList).take k).map enc8) ∧ Below w.heap.size w wr)
    (fun _ i _ => a.size - (intOf i).toNat)
  case atStart => exact ⟨0, Nat.zero_le _, rfl, World.ownsRow_nil _ _ _ _, Below.refl _ _⟩
  case round =>
    obtain ⟨k, hk, rfl, hown, hbel⟩ := hrel
    have hlenA : (mixL andB a.data.toList b.data.toList).length = a.size := by rw [mixL_length, toList_length]
    by_cases hlt : k < a.size
    · have hl1 : k < a.data.toList.length := by rw [toList_length]; exact hlt
      have hl2 : k < (mixL andB a.data.toList b.data.toList).length := by rw [hlenA]; exact hlt
      have htake : ((mixL andB a.data.toList b.data.toList).take k).length = k := by rw [List.length_take]; omega
      have hnext := List.take_succ_eq_append_getElem hl2
      rw [mixL_get andB _ _ k hl1 hl2] at hnext
      rw [htake] at hown
      obtain ⟨hi, hz0, hz1, hz2⟩ := HI.out
      have hsz := hbel.size
      have HB := Lib.hid hbel
      have HT := Lib.hid htake
      clear hbel hlenA htake hl2
      by_cases hkb : k < b.size
      · have hl3 : k < b.data.toList.length := by rw [toList_length]; exact hkb
        rw [dif_pos hl3] at hnext
        have hb1 : bits .and .u8 ((a[k]'hlt).toNat : Int) ((b[k]'hkb).toNat : Int) = ((andB (a[k]'hlt) (b[k]'hkb)).toNat : Int) := ref_and_bits _ _
        have hnext' : (mixL andB a.data.toList b.data.toList).take (k + 1) = (mixL andB a.data.toList b.data.toList).take k ++ [andB (a[k]'hlt) (b[k]'hkb)] := hnext
        have HN := Lib.hid hnext'
        clear hnext hnext' hl1 hl3
        generalize (mixL andB a.data.toList b.data.toList).take k = L at *
        go_wp2_with (at_builtin; refine wpList_append_own _ rfl _ _ 38 rfl w.heap.size 5 i0 (.int .u8 0) 1 1 Try.underlying38 hi hz0 hz1 hz2 rfl (by decide) _ _ _ rfl (hown.alloc _) ⟨wr.heap.size, 0, none⟩ 1 1 [enc8 (andB (a[k]'hlt) (b[k]'hkb))] rfl rfl (cell_one_new _ _ _) (by simp [enc8_one]) (by unfold maxLen; omega) (by omega) (by simp; omega) ?_; intro v' w1 hown' hgrow _)
        have hb2 := below_append HB.out hown hgrow
        clear hi hz0 hz1 hz2 hb1
        go_wp2
        go_roundw
        case rel =>
          refine ⟨k + 1, by omega, by go_num, ?_, hb2⟩
          rw [HN.out]
          have hT := HT.out
          refine own_snoc ?_
          rw [hT]
          exact hown'
        case measure => simp [intOf]; omega
      · rw [dif_neg (by rw [toList_length]; exact hkb)] at hnext
        have hnext' : (mixL andB a.data.toList b.data.toList).take (k + 1) = (mixL andB a.data.toList b.data.toList).take k ++ [a[k]'hlt] := hnext
        have HN := Lib.hid hnext'
        clear hnext hnext' hl1
        generalize (mixL andB a.data.toList b.data.toList).take k = L at *
        go_wp2_with (at_builtin; refine wpList_append_own _ rfl _ _ 38 rfl w.heap.size 5 i0 (.int .u8 0) 1 1 Try.underlying38 hi hz0 hz1 hz2 rfl (by decide) _ _ _ rfl (hown.alloc _) ⟨wr.heap.size, 0, none⟩ 1 1 [enc8 (a[k]'hlt)] rfl rfl (cell_one_new _ _ _) (by simp [enc8_one]) (by unfold maxLen; omega) (by omega) (by simp; omega) ?_; intro v' w1 hown' hgrow _)
        have hb2 := below_append HB.out hown hgrow
        clear hi hz0 hz1 hz2
        go_wp2
        go_roundw
        case rel =>
          refine ⟨k + 1, by omega, by go_num, ?_, hb2⟩
          rw [HN.out]
          have hT := HT.out
          refine own_snoc ?_
          rw [hT]
          exact hown'
        case measure => simp [intOf]; omega
    · rw [List.take_of_length_le (by rw [hlenA]; omega)] at hown
      have hcv := string_of_own hown
      clear hown hlenA
      go_wp2
      go_ret
      exact ⟨rfl, hbel⟩

theorem ref_or_bits (x y : UInt8) : bits .or .u8 x.toNat y.toNat = ((orB x y).toNat : Int) := by rw [u8_or_nat _ _ x.toNat_lt y.toNat_lt]; rfl

set_option maxHeartbeats 800000 in
theorem ref_or (a b : ByteArray) (w : World) (ha : a.size ≤ 140737488355328) :
    Calls Try.prog 16 #[.string a, .string b] w fun e w' => e = .returned (.string (bs (mixL orB a.data.toList b.data.toList))) ∧ Below w.heap.size w w' := by
  obtain ⟨i0, hi, hz0, hz1, hz2⟩ := info_parts info_u8
  have HI := Lib.hid (And.intro hi (And.intro hz0 (And.intro hz1 hz2)))
  clear hi hz0 hz1 hz2
  go_enter Try.func16, Try.ntmps16
  go_wp2
  go_loopw [5, 6] (fun v i wr => ∃ k : Nat, k ≤ a.size ∧ i = .int .i64 k ∧ wr.ownsRow w.heap.size 5 1 v ((mixL orB a.data.toList b.data.toList).take k).length (((mixL orB a.data.toList b.data.toList).take k).map enc8) ∧ Below w.heap.size w wr)
    (fun _ i _ => a.size - (intOf i).toNat)
  case atStart => exact ⟨0, Nat.zero_le _, rfl, World.ownsRow_nil _ _ _ _, Below.refl _ _⟩
  case round =>
    obtain ⟨k, hk, rfl, hown, hbel⟩ := hrel
    have hlenA : (mixL orB a.data.toList b.data.toList).length = a.size := by rw [mixL_length, toList_length]
    by_cases hlt : k < a.size
    · have hl1 : k < a.data.toList.length := by rw [toList_length]; exact hlt
      have hl2 : k < (mixL orB a.data.toList b.data.toList).length := by rw [hlenA]; exact hlt
      have htake : ((mixL orB a.data.toList b.data.toList).take k).length = k := by rw [List.length_take]; omega
      have hnext := List.take_succ_eq_append_getElem hl2
      rw [mixL_get orB _ _ k hl1 hl2] at hnext
      rw [htake] at hown
      obtain ⟨hi, hz0, hz1, hz2⟩ := HI.out
      have hsz := hbel.size
      have HB := Lib.hid hbel
      have HT := Lib.hid htake
      clear hbel hlenA htake hl2
      by_cases hkb : k < b.size
      · have hl3 : k < b.data.toList.length := by rw [toList_length]; exact hkb
        rw [dif_pos hl3] at hnext
        have hb1 : bits .or .u8 ((a[k]'hlt).toNat : Int) ((b[k]'hkb).toNat : Int) = ((orB (a[k]'hlt) (b[k]'hkb)).toNat : Int) := ref_or_bits _ _
        have hnext' : (mixL orB a.data.toList b.data.toList).take (k + 1) = (mixL orB a.data.toList b.data.toList).take k ++ [orB (a[k]'hlt) (b[k]'hkb)] := hnext
        have HN := Lib.hid hnext'
        clear hnext hnext' hl1 hl3
        generalize (mixL orB a.data.toList b.data.toList).take k = L at *
        go_wp2_with (at_builtin; refine wpList_append_own _ rfl _ _ 38 rfl w.heap.size 5 i0 (.int .u8 0) 1 1 Try.underlying38 hi hz0 hz1 hz2 rfl (by decide) _ _ _ rfl (hown.alloc _) ⟨wr.heap.size, 0, none⟩ 1 1 [enc8 (orB (a[k]'hlt) (b[k]'hkb))] rfl rfl (cell_one_new _ _ _) (by simp [enc8_one]) (by unfold maxLen; omega) (by omega) (by simp; omega) ?_; intro v' w1 hown' hgrow _)
        have hb2 := below_append HB.out hown hgrow
        clear hi hz0 hz1 hz2 hb1
        go_wp2
        go_roundw
        case rel =>
          refine ⟨k + 1, by omega, by go_num, ?_, hb2⟩
          rw [HN.out]
          have hT := HT.out
          refine own_snoc ?_
          rw [hT]
          exact hown'
        case measure => simp [intOf]; omega
      · rw [dif_neg (by rw [toList_length]; exact hkb)] at hnext
        have hnext' : (mixL orB a.data.toList b.data.toList).take (k + 1) = (mixL orB a.data.toList b.data.toList).take k ++ [a[k]'hlt] := hnext
        have HN := Lib.hid hnext'
        clear hnext hnext' hl1
        generalize (mixL orB a.data.toList b.data.toList).take k = L at *
        go_wp2_with (at_builtin; refine wpList_append_own _ rfl _ _ 38 rfl w.heap.size 5 i0 (.int .u8 0) 1 1 Try.underlying38 hi hz0 hz1 hz2 rfl (by decide) _ _ _ rfl (hown.alloc _) ⟨wr.heap.size, 0, none⟩ 1 1 [enc8 (a[k]'hlt)] rfl rfl (cell_one_new _ _ _) (by simp [enc8_one]) (by unfold maxLen; omega) (by omega) (by simp; omega) ?_; intro v' w1 hown' hgrow _)
        have hb2 := below_append HB.out hown hgrow
        clear hi hz0 hz1 hz2
        go_wp2
        go_roundw
        case rel =>
          refine ⟨k + 1, by omega, by go_num, ?_, hb2⟩
          rw [HN.out]
          have hT := HT.out
          refine own_snoc ?_
          rw [hT]
          exact hown'
        case measure => simp [intOf]; omega
    · rw [List.take_of_length_le (by rw [hlenA]; omega)] at hown
      have hcv := string_of_own hown
      clear hown hlenA
      go_wp2
      go_ret
      exact ⟨rfl, hbel⟩

theorem ref_xor_bits (x y : UInt8) : bits .xor .u8 x.toNat y.toNat = ((xorB x y).toNat : Int) := by rw [u8_xor_nat _ _ x.toNat_lt y.toNat_lt]; rfl

set_option maxHeartbeats 800000 in
theorem ref_xor (a b : ByteArray) (w : World) (ha : a.size ≤ 140737488355328) :
    Calls Try.prog 17 #[.string a, .string b] w fun e w' => e = .returned (.string (bs (mixL xorB a.data.toList b.data.toList))) ∧ Below w.heap.size w w' := by
  obtain ⟨i0, hi, hz0, hz1, hz2⟩ := info_parts info_u8
  have HI := Lib.hid (And.intro hi (And.intro hz0 (And.intro hz1 hz2)))
  clear hi hz0 hz1 hz2
  go_enter Try.func17, Try.ntmps17
  go_wp2
  go_loopw [5, 6] (fun v i wr => ∃ k : Nat, k ≤ a.size ∧ i = .int .i64 k ∧ wr.ownsRow w.heap.size 5 1 v ((mixL xorB a.data.toList b.data.toList).take k).length (((mixL xorB a.data.toList b.data.toList).take k).map enc8) ∧ Below w.heap.size w wr)
    (fun _ i _ => a.size - (intOf i).toNat)
  case atStart => exact ⟨0, Nat.zero_le _, rfl, World.ownsRow_nil _ _ _ _, Below.refl _ _⟩
  case round =>
    obtain ⟨k, hk, rfl, hown, hbel⟩ := hrel
    have hlenA : (mixL xorB a.data.toList b.data.toList).length = a.size := by rw [mixL_length, toList_length]
    by_cases hlt : k < a.size
    · have hl1 : k < a.data.toList.length := by rw [toList_length]; exact hlt
      have hl2 : k < (mixL xorB a.data.toList b.data.toList).length := by rw [hlenA]; exact hlt
      have htake : ((mixL xorB a.data.toList b.data.toList).take k).length = k := by rw [List.length_take]; omega
      have hnext := List.take_succ_eq_append_getElem hl2
      rw [mixL_get xorB _ _ k hl1 hl2] at hnext
      rw [htake] at hown
      obtain ⟨hi, hz0, hz1, hz2⟩ := HI.out
      have hsz := hbel.size
      have HB := Lib.hid hbel
      have HT := Lib.hid htake
      clear hbel hlenA htake hl2
      by_cases hkb : k < b.size
      · have hl3 : k < b.data.toList.length := by rw [toList_length]; exact hkb
        rw [dif_pos hl3] at hnext
        have hb1 : bits .xor .u8 ((a[k]'hlt).toNat : Int) ((b[k]'hkb).toNat : Int) = ((xorB (a[k]'hlt) (b[k]'hkb)).toNat : Int) := ref_xor_bits _ _
        have hnext' : (mixL xorB a.data.toList b.data.toList).take (k + 1) = (mixL xorB a.data.toList b.data.toList).take k ++ [xorB (a[k]'hlt) (b[k]'hkb)] := hnext
        have HN := Lib.hid hnext'
        clear hnext hnext' hl1 hl3
        generalize (mixL xorB a.data.toList b.data.toList).take k = L at *
        go_wp2_with (at_builtin; refine wpList_append_own _ rfl _ _ 38 rfl w.heap.size 5 i0 (.int .u8 0) 1 1 Try.underlying38 hi hz0 hz1 hz2 rfl (by decide) _ _ _ rfl (hown.alloc _) ⟨wr.heap.size, 0, none⟩ 1 1 [enc8 (xorB (a[k]'hlt) (b[k]'hkb))] rfl rfl (cell_one_new _ _ _) (by simp [enc8_one]) (by unfold maxLen; omega) (by omega) (by simp; omega) ?_; intro v' w1 hown' hgrow _)
        have hb2 := below_append HB.out hown hgrow
        clear hi hz0 hz1 hz2 hb1
        go_wp2
        go_roundw
        case rel =>
          refine ⟨k + 1, by omega, by go_num, ?_, hb2⟩
          rw [HN.out]
          have hT := HT.out
          refine own_snoc ?_
          rw [hT]
          exact hown'
        case measure => simp [intOf]; omega
      · rw [dif_neg (by rw [toList_length]; exact hkb)] at hnext
        have hnext' : (mixL xorB a.data.toList b.data.toList).take (k + 1) = (mixL xorB a.data.toList b.data.toList).take k ++ [a[k]'hlt] := hnext
        have HN := Lib.hid hnext'
        clear hnext hnext' hl1
        generalize (mixL xorB a.data.toList b.data.toList).take k = L at *
        go_wp2_with (at_builtin; refine wpList_append_own _ rfl _ _ 38 rfl w.heap.size 5 i0 (.int .u8 0) 1 1 Try.underlying38 hi hz0 hz1 hz2 rfl (by decide) _ _ _ rfl (hown.alloc _) ⟨wr.heap.size, 0, none⟩ 1 1 [enc8 (a[k]'hlt)] rfl rfl (cell_one_new _ _ _) (by simp [enc8_one]) (by unfold maxLen; omega) (by omega) (by simp; omega) ?_; intro v' w1 hown' hgrow _)
        have hb2 := below_append HB.out hown hgrow
        clear hi hz0 hz1 hz2
        go_wp2
        go_roundw
        case rel =>
          refine ⟨k + 1, by omega, by go_num, ?_, hb2⟩
          rw [HN.out]
          have hT := HT.out
          refine own_snoc ?_
          rw [hT]
          exact hown'
        case measure => simp [intOf]; omega
    · rw [List.take_of_length_le (by rw [hlenA]; omega)] at hown
      have hcv := string_of_own hown
      clear hown hlenA
      go_wp2
      go_ret
      exact ⟨rfl, hbel⟩

end Go.Proofs.Ytkmlaljahbckkaa
