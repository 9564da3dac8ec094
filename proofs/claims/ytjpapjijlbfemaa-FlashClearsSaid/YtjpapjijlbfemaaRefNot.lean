/- What ouroborosref01.Ones and Not come to: walked. -/
import Derived.Test.YtjpapjijlbfemaaRefXor
namespace Go.Proofs.Ytjpapjijlbfemaa
open Go.RowKit

set_option maxHeartbeats 400000 in
theorem ref_ones (n : Nat) (w : World) (h : n ≤ 100000) :
    Calls Try.prog 42 #[.int .i64 n] w fun e w' => e = .returned (.string (bs (List.replicate n 255))) ∧ Below w.heap.size w w' := by
  obtain ⟨i0, hi, hz0, hz1, hz2⟩ := info_parts info_u8
  have HI := Lib.hid (And.intro hi (And.intro hz0 (And.intro hz1 hz2)))
  clear hi hz0 hz1 hz2
  have hle : (n : Int) ≤ 100000 := by omega
  go_enter Try.func42, Try.ntmps42
  go_wp2
  go_loopw [3, 4] (fun v i wr => ∃ k : Nat, k ≤ n ∧ i = .int .i64 k ∧ wr.ownsRow w.heap.size 5 1 v k ((List.replicate k 255).map enc8) ∧ Below w.heap.size w wr)
    (fun _ i _ => n - (intOf i).toNat)
  case atStart => exact ⟨0, Nat.zero_le _, rfl, World.ownsRow_nil _ _ _ _, Below.refl _ _⟩
  case round =>
    obtain ⟨k, hk, rfl, hown, hbel⟩ := hrel
    by_cases hlt : k < n
    · obtain ⟨hi, hz0, hz1, hz2⟩ := HI.out
      have hsz := hbel.size
      have HB := Lib.hid hbel
      clear hbel
      generalize hL : (List.replicate k (255 : UInt8)).map enc8 = L at *
      have HL := Lib.hid hL
      clear hL
      go_wp2_with (at_builtin; refine wpList_append_own _ rfl _ _ 44 rfl w.heap.size 5 i0 (.int .u8 0) 1 1 Try.underlying44 hi hz0 hz1 hz2 rfl (by decide) _ _ _ rfl (hown.alloc _) ⟨wr.heap.size, 0, none⟩ 1 1 [.int .u8 255] rfl rfl (cell_one_new _ _ _) (by simp [Value.oneCell']) (by unfold maxLen; omega) (by omega) (by simp; omega) ?_; intro v' w1 hown' hgrow _)
      have hb2 := below_append HB.out hown hgrow
      clear hi hz0 hz1 hz2
      go_wp2
      go_roundw
      case rel =>
        refine ⟨k + 1, by omega, by go_num, ?_, hb2⟩
        rw [List.replicate_succ', List.map_append, HL.out]
        exact hown'
      case measure => simp [intOf]; omega
    · obtain rfl : k = n := by omega
      have hlen : (List.replicate k (255 : UInt8)).length = k := by simp
      have hcv := string_of_own (l := List.replicate k 255) (by rw [hlen]; exact hown)
      clear hown hlen
      go_wp2
      go_ret
      exact ⟨rfl, hbel⟩

theorem ref_ones_none (n : Int) (w : World) (h : n < 0 ∨ 100000 < n) :
    Calls Try.prog 42 #[.int .i64 n] w fun e w' => e = .returned (.string (bs [])) ∧ w = w' := by
  have hcv := fun w : World => string_of_own (w := w) (B := 0) (v := .slice none 0 0) (l := []) (World.ownsRow_nil _ _ _ _)
  by_cases h1 : n < 0
  · have h2 : ¬ 0 < n := by omega
    have h3 : decide (0 < n) = false := by simpa using h2
    go_enter Try.func42, Try.ntmps42
    go_wp2
    refine wp_loop_rounds 1 ?_
    rw [rounds_succ]
    go_wp2
    go_ret
    exact ⟨rfl, rfl⟩
  · have h2 : 0 < n := by omega
    have h3 : ¬ n ≤ 100000 := by omega
    have h4 : decide (n ≤ 100000) = false := by simpa using h3
    clear h
    go_enter Try.func42, Try.ntmps42
    go_wp2
    refine wp_loop_rounds 1 ?_
    rw [rounds_succ]
    go_wp2
    go_ret
    exact ⟨rfl, rfl⟩

theorem xor_ones (l : List UInt8) : mixL xorB (List.replicate l.length 255) l = notL l := by
  rw [notL_map]
  induction l with
  | nil => rfl
  | cons c l ih =>
    simp only [List.length_cons, List.replicate_succ, mixL, List.map_cons, ih]
    congr 1

theorem ref_not (s : ByteArray) (w : World) (h : s.size ≤ 100000) :
    Calls Try.prog 45 #[.string s] w fun e w' => e = .returned (.string (bs (notL s.data.toList))) ∧ Below w.heap.size w w' := by
  have hx := xor_ones s.data.toList
  rw [toList_length] at hx
  have HX := Lib.hid hx
  clear hx
  go_enter Try.func45, Try.ntmps45
  go_wp2_with (first | (go_at_call 42; refine (ref_ones s.size _ h).mono ?_; rintro e w1 ⟨rfl, hb1⟩) | (go_at_call 50; refine (ref_xor _ s _ (by rw [bs_size]; simp; omega)).mono ?_; rintro e w2 ⟨rfl, hb2⟩))
  go_ret
  refine ⟨?_, hb1.trans (hb2.mono hb1.size)⟩
  rw [bs_toList, HX.out]
  rfl


end Go.Proofs.Ytjpapjijlbfemaa
