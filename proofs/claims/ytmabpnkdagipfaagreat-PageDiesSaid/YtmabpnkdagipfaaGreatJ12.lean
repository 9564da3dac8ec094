/- Texts of this proof, one behind the other: RefMem, RefXor, RefNot, RefAnd, RefOr. -/
import Derived.Test.YtmabpnkdagipfaaGreatProg
import Derived.WalkSpells
import Derived.WalkLawsBesides
import Derived.KernelRfl
import Derived.Laws.BitsAllLaws
import Derived.Deep.AppendLies
import Derived.Test.YtmabpnkdagipfaaGreatJ2

/- What ouroborosref01's functions come to: walked once each. -/
namespace Go.Proofs.YtmabpnkdagipfaaGreat
open Go.RowKit

theorem info_u8 : (Tryz.prog.info? 5).map (fun i => (i.zero, i.size, i.bytes)) = some (some (.int .u8 0), 1, 1) := by kernel_rfl

/-- A byte as a value. -/
def enc8 (c : UInt8) : Value := .int .u8 c.toNat
theorem enc8_one (c : UInt8) : (enc8 c).oneCell' = true := rfl

/-- 'string(b)' of a row of the call's own. -/
theorem string_of_own {w : World} {B : Nat} {v : Value} {l : List UInt8} (h : w.ownsRow B 5 1 v l.length (l.map enc8)) :
    (convert 80 9 v).run Tryz.prog w = .ok (.string (bs l)) w := by
  rcases Nat.eq_zero_or_pos l.length with h0 | h0
  · have hl : l = [] := List.eq_nil_of_length_eq_zero h0
    subst hl
    rcases h.2 with ⟨rfl, _⟩ | ⟨g, cap, cur, rfl, _, _, _, _⟩
    · rw [run_convert_bytes_string w 80 9 5 none 0 0 Tryz.underlying80 Tryz.underlying5 Tryz.underlying9]
      rfl
    · exact run_convert_bytes_back (P := Tryz.prog) w 80 9 5 ⟨g, 0, none⟩ cap [] Tryz.underlying80 Tryz.underlying5 Tryz.underlying9 (fun j hj => by simp at hj)
  · obtain ⟨g, cap, rfl, _, _⟩ := h.form h0
    exact run_convert_bytes_back (P := Tryz.prog) w 80 9 5 ⟨g, 0, none⟩ cap l Tryz.underlying80 Tryz.underlying5 Tryz.underlying9 (fun j hj => by
      have := h.cells (g := g) rfl j (enc8 l[j]) (by simp [hj])
      simpa [enc8] using this)

theorem own_base {w : World} {B : Nat} {e : TypeId} {size n : Nat} {v : Value} {xs : List Value} (h : w.ownsRow B e size v n xs) {g : Nat} (hg : v.ownBlock = some g) : B ≤ g := by
  rcases h.2 with ⟨rfl, _⟩ | ⟨g', cap, cur, rfl, hb, _⟩
  · simp [Value.ownBlock] at hg
  · simp [Value.ownBlock] at hg
    omega

/-- Behind an append of one element. -/
theorem below_append {w wr w1 : World} {o : Obj} {e : TypeId} {size n : Nat} {v : Value} {xs : List Value} (hb : Below w.heap.size w wr) (h : wr.ownsRow w.heap.size e size v n xs) (hg : (wr.alloc o).grownBy w1 v.ownBlock) : Below w.heap.size w w1 :=
  (hb.alloc hb.size o).grown hg (by have := hb.size; simp; omega) (fun _ hk => own_base h hk)

/-- A row with one byte more. -/
theorem own_snoc {w : World} {B : Nat} {v : Value} {l : List UInt8} {c : UInt8} (h : w.ownsRow B 5 1 v (l.length + 1) (l.map enc8 ++ [enc8 c])) : w.ownsRow B 5 1 v (l ++ [c]).length ((l ++ [c]).map enc8) := by
  simpa using h

theorem mixL_get (f : UInt8 → UInt8 → UInt8) (a b : List UInt8) (k : Nat) (h : k < a.length) (h' : k < (mixL f a b).length) : (mixL f a b)[k] = if hb : k < b.length then f a[k] b[k] else a[k] := by
  induction k generalizing a b with
  | zero =>
    match a, b, h with
    | x :: a, [], _ => simp [mixL]
    | x :: a, y :: b, _ => simp [mixL]
  | succ k ih =>
    match a, b, h with
    | x :: a, [], _ => simp [mixL]
    | x :: a, y :: b, h => simp only [mixL, List.getElem_cons_succ, List.length_cons, Nat.add_lt_add_iff_right]; exact ih a b (by simpa using h) _

end Go.Proofs.YtmabpnkdagipfaaGreat

/- What ouroborosref01.Xor comes to: walked. -/
namespace Go.Proofs.YtmabpnkdagipfaaGreat
open Go.RowKit

theorem ref_xor_bits (x y : UInt8) : bits .xor .u8 x.toNat y.toNat = ((xorB x y).toNat : Int) := by rw [u8_xor_nat _ _ x.toNat_lt y.toNat_lt]; rfl

set_option maxHeartbeats 800000 in
theorem ref_xor (a b : ByteArray) (w : World) (ha : a.size ≤ 140737488355328) :
    Calls Tryz.prog 84 #[.string a, .string b] w fun e w' => e = .returned (.string (bs (mixL xorB a.data.toList b.data.toList))) ∧ Below w.heap.size w w' := by
  obtain ⟨i0, hi, hz0, hz1, hz2⟩ := info_parts info_u8
  have HI := Lib.hid (And.intro hi (And.intro hz0 (And.intro hz1 hz2)))
  clear hi hz0 hz1 hz2
  go_enter Tryz.func84, Tryz.ntmps84
  go_wp2
  go_loopw [5, 6] (fun v i wr => ∃ k : Nat, k ≤ a.size ∧ i = .int .i64 k ∧ wr.ownsRow w.heap.size 5 1 v ((mixL xorB a.data.toList b.data.toList).take k).length (((mixL xorB a.data.toList b.data.toList).take k).map enc8) ∧ Below w.heap.size w wr)
    (fun _ i _ => a.size - (intOf i).toNat)
  case atStart => exact ⟨0, Nat.zero_le _, rfl, World.ownsRow_nil _ _ _ _, Below.refl _ _⟩
  case round =>
    obtain ⟨k, hk, rfl, hown, hbel⟩ := hrel
    have hlenA : (mixL xorB a.data.toList b.data.toList).length = a.size := by rw [mixL_length, toList_length]
    by_cases hlt : k < a.size
    · have hl1 : k < a.data.toList.length := by rw [toList_length]; exact hlt
      have hl2 : k < (mixL xorB a.data.toList b.data.toList).length := by rw [hlenA]; exact hlt
      have htake : ((mixL xorB a.data.toList b.data.toList).take k).length = k := by rw [List.length_take]; omega
      have hnext := List.take_succ_eq_append_getElem hl2
      rw [mixL_get xorB _ _ k hl1 hl2] at hnext
      rw [htake] at hown
      obtain ⟨hi, hz0, hz1, hz2⟩ := HI.out
      have hsz := hbel.size
      have HB := Lib.hid hbel
      have HT := Lib.hid htake
      clear hbel hlenA htake hl2
      by_cases hkb : k < b.size
      · have hl3 : k < b.data.toList.length := by rw [toList_length]; exact hkb
        rw [dif_pos hl3] at hnext
        have hb1 : bits .xor .u8 ((a[k]'hlt).toNat : Int) ((b[k]'hkb).toNat : Int) = ((xorB (a[k]'hlt) (b[k]'hkb)).toNat : Int) := ref_xor_bits _ _
        have hnext' : (mixL xorB a.data.toList b.data.toList).take (k + 1) = (mixL xorB a.data.toList b.data.toList).take k ++ [xorB (a[k]'hlt) (b[k]'hkb)] := hnext
        have HN := Lib.hid hnext'
        clear hnext hnext' hl1 hl3
        generalize (mixL xorB a.data.toList b.data.toList).take k = L at *
        go_wp2_with (at_builtin; refine wpList_append_own _ rfl _ _ 80 rfl w.heap.size 5 i0 (.int .u8 0) 1 1 Tryz.underlying80 hi hz0 hz1 hz2 rfl (by decide) _ _ _ rfl (hown.alloc _) ⟨wr.heap.size, 0, none⟩ 1 1 [enc8 (xorB (a[k]'hlt) (b[k]'hkb))] rfl rfl (cell_one_new _ _ _) (by simp [enc8_one]) (by unfold maxLen; omega) (by omega) (by simp; omega) ?_; intro v' w1 hown' hgrow _)
        have hb2 := below_append HB.out hown hgrow
        clear hi hz0 hz1 hz2 hb1
        go_wp2
        go_roundw
        case rel =>
          refine ⟨k + 1, by omega, by go_num, ?_, hb2⟩
          rw [HN.out]
          have hT := HT.out
          refine own_snoc ?_
          rw [hT]
          exact hown'
        case measure => simp [intOf]; omega
      · rw [dif_neg (by rw [toList_length]; exact hkb)] at hnext
        have hnext' : (mixL xorB a.data.toList b.data.toList).take (k + 1) = (mixL xorB a.data.toList b.data.toList).take k ++ [a[k]'hlt] := hnext
        have HN := Lib.hid hnext'
        clear hnext hnext' hl1
        generalize (mixL xorB a.data.toList b.data.toList).take k = L at *
        go_wp2_with (at_builtin; refine wpList_append_own _ rfl _ _ 80 rfl w.heap.size 5 i0 (.int .u8 0) 1 1 Tryz.underlying80 hi hz0 hz1 hz2 rfl (by decide) _ _ _ rfl (hown.alloc _) ⟨wr.heap.size, 0, none⟩ 1 1 [enc8 (a[k]'hlt)] rfl rfl (cell_one_new _ _ _) (by simp [enc8_one]) (by unfold maxLen; omega) (by omega) (by simp; omega) ?_; intro v' w1 hown' hgrow _)
        have hb2 := below_append HB.out hown hgrow
        clear hi hz0 hz1 hz2
        go_wp2
        go_roundw
        case rel =>
          refine ⟨k + 1, by omega, by go_num, ?_, hb2⟩
          rw [HN.out]
          have hT := HT.out
          refine own_snoc ?_
          rw [hT]
          exact hown'
        case measure => simp [intOf]; omega
    · rw [List.take_of_length_le (by rw [hlenA]; omega)] at hown
      have hcv := string_of_own hown
      clear hown hlenA
      go_wp2
      go_ret
      exact ⟨rfl, hbel⟩

end Go.Proofs.YtmabpnkdagipfaaGreat

/- What ouroborosref01.Ones and Not come to: walked. -/
namespace Go.Proofs.YtmabpnkdagipfaaGreat
open Go.RowKit

set_option maxHeartbeats 400000 in
theorem ref_ones (n : Nat) (w : World) (h : n ≤ 100000) :
    Calls Tryz.prog 58 #[.int .i64 n] w fun e w' => e = .returned (.string (bs (List.replicate n 255))) ∧ Below w.heap.size w w' := by
  obtain ⟨i0, hi, hz0, hz1, hz2⟩ := info_parts info_u8
  have HI := Lib.hid (And.intro hi (And.intro hz0 (And.intro hz1 hz2)))
  clear hi hz0 hz1 hz2
  have hle : (n : Int) ≤ 100000 := by omega
  go_enter Tryz.func58, Tryz.ntmps58
  go_wp2
  go_loopw [3, 4] (fun v i wr => ∃ k : Nat, k ≤ n ∧ i = .int .i64 k ∧ wr.ownsRow w.heap.size 5 1 v k ((List.replicate k 255).map enc8) ∧ Below w.heap.size w wr)
    (fun _ i _ => n - (intOf i).toNat)
  case atStart => exact ⟨0, Nat.zero_le _, rfl, World.ownsRow_nil _ _ _ _, Below.refl _ _⟩
  case round =>
    obtain ⟨k, hk, rfl, hown, hbel⟩ := hrel
    by_cases hlt : k < n
    · obtain ⟨hi, hz0, hz1, hz2⟩ := HI.out
      have hsz := hbel.size
      have HB := Lib.hid hbel
      clear hbel
      generalize hL : (List.replicate k (255 : UInt8)).map enc8 = L at *
      have HL := Lib.hid hL
      clear hL
      go_wp2_with (at_builtin; refine wpList_append_own _ rfl _ _ 80 rfl w.heap.size 5 i0 (.int .u8 0) 1 1 Tryz.underlying80 hi hz0 hz1 hz2 rfl (by decide) _ _ _ rfl (hown.alloc _) ⟨wr.heap.size, 0, none⟩ 1 1 [.int .u8 255] rfl rfl (cell_one_new _ _ _) (by simp [Value.oneCell']) (by unfold maxLen; omega) (by omega) (by simp; omega) ?_; intro v' w1 hown' hgrow _)
      have hb2 := below_append HB.out hown hgrow
      clear hi hz0 hz1 hz2
      go_wp2
      go_roundw
      case rel =>
        refine ⟨k + 1, by omega, by go_num, ?_, hb2⟩
        rw [List.replicate_succ', List.map_append, HL.out]
        exact hown'
      case measure => simp [intOf]; omega
    · obtain rfl : k = n := by omega
      have hlen : (List.replicate k (255 : UInt8)).length = k := by simp
      have hcv := string_of_own (l := List.replicate k 255) (by rw [hlen]; exact hown)
      clear hown hlen
      go_wp2
      go_ret
      exact ⟨rfl, hbel⟩

theorem ref_ones_none (n : Int) (w : World) (h : n < 0 ∨ 100000 < n) :
    Calls Tryz.prog 58 #[.int .i64 n] w fun e w' => e = .returned (.string (bs [])) ∧ w = w' := by
  have hcv := fun w : World => string_of_own (w := w) (B := 0) (v := .slice none 0 0) (l := []) (World.ownsRow_nil _ _ _ _)
  by_cases h1 : n < 0
  · have h2 : ¬ 0 < n := by omega
    have h3 : decide (0 < n) = false := by simpa using h2
    go_enter Tryz.func58, Tryz.ntmps58
    go_wp2
    refine wp_loop_rounds 1 ?_
    rw [rounds_succ]
    go_wp2
    go_ret
    exact ⟨rfl, rfl⟩
  · have h2 : 0 < n := by omega
    have h3 : ¬ n ≤ 100000 := by omega
    have h4 : decide (n ≤ 100000) = false := by simpa using h3
    clear h
    go_enter Tryz.func58, Tryz.ntmps58
    go_wp2
    refine wp_loop_rounds 1 ?_
    rw [rounds_succ]
    go_wp2
    go_ret
    exact ⟨rfl, rfl⟩

theorem xor_ones (l : List UInt8) : mixL xorB (List.replicate l.length 255) l = notL l := by
  rw [notL_map]
  induction l with
  | nil => rfl
  | cons c l ih =>
    simp only [List.length_cons, List.replicate_succ, mixL, List.map_cons, ih]
    congr 1

theorem ref_not (s : ByteArray) (w : World) (h : s.size ≤ 100000) :
    Calls Tryz.prog 67 #[.string s] w fun e w' => e = .returned (.string (bs (notL s.data.toList))) ∧ Below w.heap.size w w' := by
  have hx := xor_ones s.data.toList
  rw [toList_length] at hx
  have HX := Lib.hid hx
  clear hx
  go_enter Tryz.func67, Tryz.ntmps67
  go_wp2_with (first | (go_at_call 58; refine (ref_ones s.size _ h).mono ?_; rintro e w1 ⟨rfl, hb1⟩) | (go_at_call 84; refine (ref_xor _ s _ (by rw [bs_size]; simp; omega)).mono ?_; rintro e w2 ⟨rfl, hb2⟩))
  go_ret
  refine ⟨?_, hb1.trans (hb2.mono hb1.size)⟩
  rw [bs_toList, HX.out]
  rfl


end Go.Proofs.YtmabpnkdagipfaaGreat

/- What ouroborosref01.And comes to: walked. -/
namespace Go.Proofs.YtmabpnkdagipfaaGreat
open Go.RowKit

theorem ref_and_bits (x y : UInt8) : bits .and .u8 x.toNat y.toNat = ((andB x y).toNat : Int) := by rw [u8_and_nat _ _ x.toNat_lt y.toNat_lt]; rfl

set_option maxHeartbeats 800000 in
theorem ref_and (a b : ByteArray) (w : World) (ha : a.size ≤ 140737488355328) :
    Calls Tryz.prog 71 #[.string a, .string b] w fun e w' => e = .returned (.string (bs (mixL andB a.data.toList b.data.toList))) ∧ Below w.heap.size w w' := by
  obtain ⟨i0, hi, hz0, hz1, hz2⟩ := info_parts info_u8
  have HI := Lib.hid (And.intro hi (And.intro hz0 (And.intro hz1 hz2)))
  clear hi hz0 hz1 hz2
  go_enter Tryz.func71, Tryz.ntmps71
  go_wp2
  go_loopw [5, 6] (fun v i wr => ∃ k : Nat, k ≤ a.size ∧ i = .int .i64 k ∧ wr.ownsRow w.heap.size 5 1 v ((mixL andB a.data.toList b.data.toList).take k).length (((mixL andB a.data.toList b.data.toList).take k).map enc8) ∧ Below w.heap.size w wr)
    (fun _ i _ => a.size - (intOf i).toNat)
  case atStart => exact ⟨0, Nat.zero_le _, rfl, World.ownsRow_nil _ _ _ _, Below.refl _ _⟩
  case round =>
    obtain ⟨k, hk, rfl, hown, hbel⟩ := hrel
    have hlenA : (mixL andB a.data.toList b.data.toList).length = a.size := by rw [mixL_length, toList_length]
    by_cases hlt : k < a.size
    · have hl1 : k < a.data.toList.length := by rw [toList_length]; exact hlt
      have hl2 : k < (mixL andB a.data.toList b.data.toList).length := by rw [hlenA]; exact hlt
      have htake : ((mixL andB a.data.toList b.data.toList).take k).length = k := by rw [List.length_take]; omega
      have hnext := List.take_succ_eq_append_getElem hl2
      rw [mixL_get andB _ _ k hl1 hl2] at hnext
      rw [htake] at hown
      obtain ⟨hi, hz0, hz1, hz2⟩ := HI.out
      have hsz := hbel.size
      have HB := Lib.hid hbel
      have HT := Lib.hid htake
      clear hbel hlenA htake hl2
      by_cases hkb : k < b.size
      · have hl3 : k < b.data.toList.length := by rw [toList_length]; exact hkb
        rw [dif_pos hl3] at hnext
        have hb1 : bits .and .u8 ((a[k]'hlt).toNat : Int) ((b[k]'hkb).toNat : Int) = ((andB (a[k]'hlt) (b[k]'hkb)).toNat : Int) := ref_and_bits _ _
        have hnext' : (mixL andB a.data.toList b.data.toList).take (k + 1) = (mixL andB a.data.toList b.data.toList).take k ++ [andB (a[k]'hlt) (b[k]'hkb)] := hnext
        have HN := Lib.hid hnext'
        clear hnext hnext' hl1 hl3
        generalize (mixL andB a.data.toList b.data.toList).take k = L at *
        go_wp2_with (at_builtin; refine wpList_append_own _ rfl _ _ 80 rfl w.heap.size 5 i0 (.int .u8 0) 1 1 Tryz.underlying80 hi hz0 hz1 hz2 rfl (by decide) _ _ _ rfl (hown.alloc _) ⟨wr.heap.size, 0, none⟩ 1 1 [enc8 (andB (a[k]'hlt) (b[k]'hkb))] rfl rfl (cell_one_new _ _ _) (by simp [enc8_one]) (by unfold maxLen; omega) (by omega) (by simp; omega) ?_; intro v' w1 hown' hgrow _)
        have hb2 := below_append HB.out hown hgrow
        clear hi hz0 hz1 hz2 hb1
        go_wp2
        go_roundw
        case rel =>
          refine ⟨k + 1, by omega, by go_num, ?_, hb2⟩
          rw [HN.out]
          have hT := HT.out
          refine own_snoc ?_
          rw [hT]
          exact hown'
        case measure => simp [intOf]; omega
      · rw [dif_neg (by rw [toList_length]; exact hkb)] at hnext
        have hnext' : (mixL andB a.data.toList b.data.toList).take (k + 1) = (mixL andB a.data.toList b.data.toList).take k ++ [a[k]'hlt] := hnext
        have HN := Lib.hid hnext'
        clear hnext hnext' hl1
        generalize (mixL andB a.data.toList b.data.toList).take k = L at *
        go_wp2_with (at_builtin; refine wpList_append_own _ rfl _ _ 80 rfl w.heap.size 5 i0 (.int .u8 0) 1 1 Tryz.underlying80 hi hz0 hz1 hz2 rfl (by decide) _ _ _ rfl (hown.alloc _) ⟨wr.heap.size, 0, none⟩ 1 1 [enc8 (a[k]'hlt)] rfl rfl (cell_one_new _ _ _) (by simp [enc8_one]) (by unfold maxLen; omega) (by omega) (by simp; omega) ?_; intro v' w1 hown' hgrow _)
        have hb2 := below_append HB.out hown hgrow
        clear hi hz0 hz1 hz2
        go_wp2
        go_roundw
        case rel =>
          refine ⟨k + 1, by omega, by go_num, ?_, hb2⟩
          rw [HN.out]
          have hT := HT.out
          refine own_snoc ?_
          rw [hT]
          exact hown'
        case measure => simp [intOf]; omega
    · rw [List.take_of_length_le (by rw [hlenA]; omega)] at hown
      have hcv := string_of_own hown
      clear hown hlenA
      go_wp2
      go_ret
      exact ⟨rfl, hbel⟩

end Go.Proofs.YtmabpnkdagipfaaGreat

/- What ouroborosref01.Or comes to: walked. -/
namespace Go.Proofs.YtmabpnkdagipfaaGreat
open Go.RowKit

theorem ref_or_bits (x y : UInt8) : bits .or .u8 x.toNat y.toNat = ((orB x y).toNat : Int) := by rw [u8_or_nat _ _ x.toNat_lt y.toNat_lt]; rfl

set_option maxHeartbeats 800000 in
theorem ref_or (a b : ByteArray) (w : World) (ha : a.size ≤ 140737488355328) :
    Calls Tryz.prog 66 #[.string a, .string b] w fun e w' => e = .returned (.string (bs (mixL orB a.data.toList b.data.toList))) ∧ Below w.heap.size w w' := by
  obtain ⟨i0, hi, hz0, hz1, hz2⟩ := info_parts info_u8
  have HI := Lib.hid (And.intro hi (And.intro hz0 (And.intro hz1 hz2)))
  clear hi hz0 hz1 hz2
  go_enter Tryz.func66, Tryz.ntmps66
  go_wp2
  go_loopw [5, 6] (fun v i wr => ∃ k : Nat, k ≤ a.size ∧ i = .int .i64 k ∧ wr.ownsRow w.heap.size 5 1 v ((mixL orB a.data.toList b.data.toList).take k).length (((mixL orB a.data.toList b.data.toList).take k).map enc8) ∧ Below w.heap.size w wr)
    (fun _ i _ => a.size - (intOf i).toNat)
  case atStart => exact ⟨0, Nat.zero_le _, rfl, World.ownsRow_nil _ _ _ _, Below.refl _ _⟩
  case round =>
    obtain ⟨k, hk, rfl, hown, hbel⟩ := hrel
    have hlenA : (mixL orB a.data.toList b.data.toList).length = a.size := by rw [mixL_length, toList_length]
    by_cases hlt : k < a.size
    · have hl1 : k < a.data.toList.length := by rw [toList_length]; exact hlt
      have hl2 : k < (mixL orB a.data.toList b.data.toList).length := by rw [hlenA]; exact hlt
      have htake : ((mixL orB a.data.toList b.data.toList).take k).length = k := by rw [List.length_take]; omega
      have hnext := List.take_succ_eq_append_getElem hl2
      rw [mixL_get orB _ _ k hl1 hl2] at hnext
      rw [htake] at hown
      obtain ⟨hi, hz0, hz1, hz2⟩ := HI.out
      have hsz := hbel.size
      have HB := Lib.hid hbel
      have HT := Lib.hid htake
      clear hbel hlenA htake hl2
      by_cases hkb : k < b.size
      · have hl3 : k < b.data.toList.length := by rw [toList_length]; exact hkb
        rw [dif_pos hl3] at hnext
        have hb1 : bits .or .u8 ((a[k]'hlt).toNat : Int) ((b[k]'hkb).toNat : Int) = ((orB (a[k]'hlt) (b[k]'hkb)).toNat : Int) := ref_or_bits _ _
        have hnext' : (mixL orB a.data.toList b.data.toList).take (k + 1) = (mixL orB a.data.toList b.data.toList).take k ++ [orB (a[k]'hlt) (b[k]'hkb)] := hnext
        have HN := Lib.hid hnext'
        clear hnext hnext' hl1 hl3
        generalize (mixL orB a.data.toList b.data.toList).take k = L at *
        go_wp2_with (at_builtin; refine wpList_append_own _ rfl _ _ 80 rfl w.heap.size 5 i0 (.int .u8 0) 1 1 Tryz.underlying80 hi hz0 hz1 hz2 rfl (by decide) _ _ _ rfl (hown.alloc _) ⟨wr.heap.size, 0, none⟩ 1 1 [enc8 (orB (a[k]'hlt) (b[k]'hkb))] rfl rfl (cell_one_new _ _ _) (by simp [enc8_one]) (by unfold maxLen; omega) (by omega) (by simp; omega) ?_; intro v' w1 hown' hgrow _)
        have hb2 := below_append HB.out hown hgrow
        clear hi hz0 hz1 hz2 hb1
        go_wp2
        go_roundw
        case rel =>
          refine ⟨k + 1, by omega, by go_num, ?_, hb2⟩
          rw [HN.out]
          have hT := HT.out
          refine own_snoc ?_
          rw [hT]
          exact hown'
        case measure => simp [intOf]; omega
      · rw [dif_neg (by rw [toList_length]; exact hkb)] at hnext
        have hnext' : (mixL orB a.data.toList b.data.toList).take (k + 1) = (mixL orB a.data.toList b.data.toList).take k ++ [a[k]'hlt] := hnext
        have HN := Lib.hid hnext'
        clear hnext hnext' hl1
        generalize (mixL orB a.data.toList b.data.toList).take k = L at *
        go_wp2_with (at_builtin; refine wpList_append_own _ rfl _ _ 80 rfl w.heap.size 5 i0 (.int .u8 0) 1 1 Tryz.underlying80 hi hz0 hz1 hz2 rfl (by decide) _ _ _ rfl (hown.alloc _) ⟨wr.heap.size, 0, none⟩ 1 1 [enc8 (a[k]'hlt)] rfl rfl (cell_one_new _ _ _) (by simp [enc8_one]) (by unfold maxLen; omega) (by omega) (by simp; omega) ?_; intro v' w1 hown' hgrow _)
        have hb2 := below_append HB.out hown hgrow
        clear hi hz0 hz1 hz2
        go_wp2
        go_roundw
        case rel =>
          refine ⟨k + 1, by omega, by go_num, ?_, hb2⟩
          rw [HN.out]
          have hT := HT.out
          refine own_snoc ?_
          rw [hT]
          exact hown'
        case measure => simp [intOf]; omega
    · rw [List.take_of_length_le (by rw [hlenA]; omega)] at hown
      have hcv := string_of_own hown
      clear hown hlenA
      go_wp2
      go_ret
      exact ⟨rfl, hbel⟩

end Go.Proofs.YtmabpnkdagipfaaGreat
