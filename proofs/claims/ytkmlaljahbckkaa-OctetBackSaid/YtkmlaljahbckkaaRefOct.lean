/- What ouroborosref01.Put, Get, Ones, Not and Count come to: walked once each. -/
import Derived.Test.YtkmlaljahbckkaaRefMix
import Derived.Test.YtkmlaljahbckkaaPut
import Derived.Test.YtkmlaljahbckkaaGet
namespace Go.Proofs.Ytkmlaljahbckkaa
open Go.RowKit

theorem ref_put_arg (n wd : Int) (w : World) (h : wd < 1 ∨ 7 < wd ∨ n < 0) :
    Calls Try.prog 12 #[.int .i64 n, .int .i64 wd] w fun e w' => e = .returned (.tuple #[.string (bs []), .int .i64 1]) ∧ Below w.heap.size w w' := by
  by_cases h1 : wd < 1
  · go_enter Try.func12, Try.ntmps12
    go_wp2
    go_ret2
    exact ⟨rfl, Below.refl _ _⟩
  by_cases h2 : 7 < wd
  · go_enter Try.func12, Try.ntmps12
    go_wp2
    go_ret2
    exact ⟨rfl, Below.refl _ _⟩
  · have h3 : n < 0 := by omega
    clear h
    go_enter Try.func12, Try.ntmps12
    go_wp2
    go_ret2
    exact ⟨rfl, Below.refl _ _⟩

theorem vsN_rem (n k : Nat) : vsN n k % 256 = psN n k := by unfold vsN psN; omega
theorem vsN_le (n k : Nat) : 0 ≤ vsN n k ∧ vsN n k ≤ n := by
  have := Nat.div_le_self n (256 ^ k)
  unfold vsN
  generalize n / 256 ^ k = m at *
  omega

set_option maxHeartbeats 800000 in
theorem ref_put_some (n wd : Nat) (w : World) (h1 : 1 ≤ wd) (h7 : wd ≤ 7) (hn : n < 9223372036854775808) :
    Calls Try.prog 12 #[.int .i64 n, .int .i64 wd] w (PutEnds n wd w) := by
  have g1 : ¬ (wd : Int) < 1 := by omega
  have g2 : ¬ (7 : Int) < wd := by omega
  have g3 : ¬ (n : Int) < 0 := by omega
  obtain ⟨i0, hi, hz0, hz1, hz2⟩ := info_parts info_u8
  have HI := Lib.hid (And.intro hi (And.intro hz0 (And.intro hz1 hz2)))
  clear hi hz0 hz1 hz2
  go_enter Try.func12, Try.ntmps12
  go_wp2
  go_loopw [0, 6, 7] (fun m v i wr => ∃ k : Nat, k ≤ wd ∧ i = .int .i64 k ∧ m = .int .i64 (vsN n k) ∧ wr.ownsRow w.heap.size 5 1 v (putL n k).length ((putL n k).map enc8) ∧ Below w.heap.size w wr)
    (fun _ _ i _ => wd - (intOf i).toNat)
  case atStart => exact ⟨0, Nat.zero_le _, rfl, by simp [vsN], World.ownsRow_nil _ _ _ _, Below.refl _ _⟩
  case round =>
    obtain ⟨k, hk, rfl, rfl, hown, hbel⟩ := hrel
    obtain ⟨b0, b1⟩ := vsN_le n k
    by_cases hlt : k < wd
    · rw [putL_length] at hown
      obtain ⟨hi, hz0, hz1, hz2⟩ := HI.out
      have hsz := hbel.size
      have HB := Lib.hid hbel
      have e1 := vsN_rem n k
      have e2 := vsN_succ n k
      have e3 := psN_byte n k
      obtain ⟨p0, p1⟩ := psN_lt n k
      have HN := Lib.hid (putL_succ n k)
      have HE3 := Lib.hid e3
      clear hbel e3
      go_wp2_with (at_builtin; refine wpList_append_own _ rfl _ _ 38 rfl w.heap.size 5 i0 (.int .u8 0) 1 1 Try.underlying38 hi hz0 hz1 hz2 rfl (by decide) _ _ _ rfl (hown.alloc _) ⟨wr.heap.size, 0, none⟩ 1 1 [.int .u8 (psN n k)] rfl rfl (cell_one_new _ _ _) (by simp [Value.oneCell']) (by unfold maxLen; omega) (by omega) (by simp; omega) ?_; intro v' w1 hown' hgrow _)
      have hb2 := below_append HB.out hown hgrow
      clear hi hz0 hz1 hz2 e1
      go_wp2
      go_roundw
      case rel =>
        refine ⟨k + 1, by omega, by go_num, by rw [vsN_succ], ?_, hb2⟩
        rw [HN.out]
        refine own_snoc ?_
        rw [putL_length]
        have := HE3.out
        rw [this] at hown'
        exact hown'
      case measure => simp [intOf]; omega
    · obtain rfl : k = wd := by omega
      have hcv := string_of_own hown
      have hlen := putL_length n k
      clear hown
      have HL := Lib.hid hlen
      clear hlen
      by_cases hf : n < 256 ^ k
      · have hv : ¬ 0 < vsN n k := by unfold vsN; rw [Nat.div_eq_of_lt hf]; decide
        have HF := Lib.hid hf
        clear hf
        go_wp2
        go_ret2
        exact ⟨hbel, .inl ⟨HF.out, rfl⟩⟩
      · have hv : 0 < vsN n k := by
          unfold vsN
          have := Nat.div_pos (Nat.le_of_not_lt hf) (Nat.pow_pos (n := k) (show 0 < 256 by decide))
          omega
        have HF := Lib.hid (Nat.le_of_not_lt hf)
        clear hf
        go_wp2
        go_ret2
        exact ⟨hbel, .inr ⟨HF.out, rfl⟩⟩

theorem ref_get_arg (s : ByteArray) (at_ wd : Int) (w : World) (h : wd < 1 ∨ 7 < wd) :
    Calls Try.prog 14 #[.string s, .int .i64 at_, .int .i64 wd] w fun e w' => e = .returned (.tuple #[.int .i64 0, .int .i64 1]) ∧ w = w' := by
  rcases h with h | h
  · go_enter Try.func14, Try.ntmps14
    go_wp2
    go_ret2
    exact ⟨rfl, rfl⟩
  · have h1 : ¬ wd < 1 := by omega
    go_enter Try.func14, Try.ntmps14
    go_wp2
    go_ret2
    exact ⟨rfl, rfl⟩

theorem ref_get_form (s : ByteArray) (at_ wd : Int) (w : World) (_hs : s.size ≤ 140737488355328) (h1 : 1 ≤ wd) (h7 : wd ≤ 7) (h : at_ < 0 ∨ (s.size : Int) < at_ ∨ (s.size : Int) - at_ < wd) :
    Calls Try.prog 14 #[.string s, .int .i64 at_, .int .i64 wd] w fun e w' => e = .returned (.tuple #[.int .i64 0, .int .i64 2]) ∧ w = w' := by
  have g1 : ¬ wd < 1 := by omega
  have g2 : ¬ 7 < wd := by omega
  by_cases a1 : at_ < 0
  · go_enter Try.func14, Try.ntmps14
    go_wp2
    go_ret2
    exact ⟨rfl, rfl⟩
  by_cases a2 : (s.size : Int) < at_
  · go_enter Try.func14, Try.ntmps14
    go_wp2
    go_ret2
    exact ⟨rfl, rfl⟩
  have a3 : (s.size : Int) - at_ < wd := by omega
  clear h
  go_enter Try.func14, Try.ntmps14
  go_wp2
  go_ret2
  exact ⟨rfl, rfl⟩

/-- What is left of a text's bytes from place j on, so many as make wd. -/
def tailN (l : List UInt8) (at_ wd j : Nat) : Nat := numL ((l.drop (at_ + j)).take (wd - j))
theorem tailN_step (l : List UInt8) (at_ wd j : Nat) (hj : j < wd) (hl : at_ + j < l.length) : tailN l at_ wd j = 256 * tailN l at_ wd (j + 1) + l[at_ + j].toNat := by
  unfold tailN
  rw [List.drop_eq_getElem_cons hl, show wd - j = (wd - (j + 1)) + 1 by omega, List.take_succ_cons]
  simp only [numL, Nat.add_assoc]
  omega
theorem tailN_lt (l : List UInt8) (at_ wd j : Nat) (h : wd ≤ 7) : tailN l at_ wd (j + 1) < 281474976710656 := by
  unfold tailN
  have h1 := numL_lt ((l.drop (at_ + (j + 1))).take (wd - (j + 1)))
  have h2 : ((l.drop (at_ + (j + 1))).take (wd - (j + 1))).length ≤ 6 := by simp; omega
  have h3 := Nat.pow_le_pow_right (n := 256) (by decide) h2
  omega

set_option maxHeartbeats 400000 in
theorem ref_get_ok (s : ByteArray) (at_ wd : Nat) (w : World) (h1 : 1 ≤ wd) (h7 : wd ≤ 7) (ha : at_ + wd ≤ s.size) (hs : s.size ≤ 140737488355328) :
    Calls Try.prog 14 #[.string s, .int .i64 at_, .int .i64 wd] w fun e w' => e = .returned (.tuple #[.int .i64 (numL ((s.data.toList.drop at_).take wd)), .int .i64 0]) ∧ w = w' := by
  have g1 : ¬ (wd : Int) < 1 := by omega
  have g2 : ¬ (7 : Int) < wd := by omega
  have g3 : ¬ (at_ : Int) < 0 := by omega
  have g4 : ¬ (s.size : Int) < at_ := by omega
  have g5 : ¬ (s.size : Int) - at_ < wd := by omega
  go_enter Try.func14, Try.ntmps14
  go_wp2
  go_loop [8, 9] (fun n i => ∃ j : Nat, j ≤ wd ∧ i = .int .i64 ((j : Int) - 1) ∧ n = .int .i64 (tailN s.data.toList at_ wd j)) (fun _ i => (intOf i + 1).toNat)
  case atStart => exact ⟨wd, Nat.le_refl _, rfl, by simp [tailN, numL]⟩
  case round =>
    obtain ⟨j, hj, rfl, rfl⟩ := hrel
    rcases Nat.eq_zero_or_pos j with rfl | hpos
    · have hneg : ¬ (0 : Int) ≤ ((0 : Nat) : Int) - 1 := by decide
      go_wp2
      go_ret2
      refine ⟨?_, rfl⟩
      simp [tailN]
    · obtain ⟨j, rfl⟩ : ∃ q, j = q + 1 := ⟨j - 1, by omega⟩
      have hi : at_ + j < s.size := by omega
      have hst := tailN_step s.data.toList at_ wd j (by omega) (by rw [toList_length]; exact hi)
      have hst' : tailN s.data.toList at_ wd j = 256 * tailN s.data.toList at_ wd (j + 1) + (s[at_ + j]'hi).toNat := hst
      have hlt := tailN_lt s.data.toList at_ wd j h7
      have hc := (s[at_ + j]'hi).toNat_lt
      have HS := Lib.hid hst'
      clear hst hst'
      generalize tailN s.data.toList at_ wd (j + 1) = N at *
      have e1 : ((j + 1 : Nat) : Int) - 1 = (j : Int) := by omega
      rw [e1]
      clear e1
      go_wp2
      go_round
      case rel => exact ⟨j, by omega, rfl, by rw [HS.out]; go_num⟩
      case measure => simp [intOf]

set_option maxHeartbeats 400000 in
theorem ref_ones (n : Nat) (w : World) (h : n ≤ 100000) :
    Calls Try.prog 19 #[.int .i64 n] w fun e w' => e = .returned (.string (bs (List.replicate n 255))) ∧ Below w.heap.size w w' := by
  obtain ⟨i0, hi, hz0, hz1, hz2⟩ := info_parts info_u8
  have HI := Lib.hid (And.intro hi (And.intro hz0 (And.intro hz1 hz2)))
  clear hi hz0 hz1 hz2
  have hle : (n : Int) ≤ 100000 := by omega
  go_enter Try.func19, Try.ntmps19
  go_wp2
  go_loopw [3, 4] (fun v i wr => ∃ k : Nat, k ≤ n ∧ i = .int .i64 k ∧ wr.ownsRow w.heap.size 5 1 v k ((List.replicate k 255).map enc8) ∧ Below w.heap.size w wr)
    (fun _ i _ => n - (intOf i).toNat)
  case atStart => exact ⟨0, Nat.zero_le _, rfl, World.ownsRow_nil _ _ _ _, Below.refl _ _⟩
  case round =>
    obtain ⟨k, hk, rfl, hown, hbel⟩ := hrel
    by_cases hlt : k < n
    · obtain ⟨hi, hz0, hz1, hz2⟩ := HI.out
      have hsz := hbel.size
      have HB := Lib.hid hbel
      clear hbel
      generalize hL : (List.replicate k (255 : UInt8)).map enc8 = L at *
      have HL := Lib.hid hL
      clear hL
      go_wp2_with (at_builtin; refine wpList_append_own _ rfl _ _ 38 rfl w.heap.size 5 i0 (.int .u8 0) 1 1 Try.underlying38 hi hz0 hz1 hz2 rfl (by decide) _ _ _ rfl (hown.alloc _) ⟨wr.heap.size, 0, none⟩ 1 1 [.int .u8 255] rfl rfl (cell_one_new _ _ _) (by simp [Value.oneCell']) (by unfold maxLen; omega) (by omega) (by simp; omega) ?_; intro v' w1 hown' hgrow _)
      have hb2 := below_append HB.out hown hgrow
      clear hi hz0 hz1 hz2
      go_wp2
      go_roundw
      case rel =>
        refine ⟨k + 1, by omega, by go_num, ?_, hb2⟩
        rw [List.replicate_succ', List.map_append, HL.out]
        exact hown'
      case measure => simp [intOf]; omega
    · obtain rfl : k = n := by omega
      have hlen : (List.replicate k (255 : UInt8)).length = k := by simp
      have hcv := string_of_own (l := List.replicate k 255) (by rw [hlen]; exact hown)
      clear hown hlen
      go_wp2
      go_ret
      exact ⟨rfl, hbel⟩

theorem ref_ones_none (n : Int) (w : World) (h : n < 0 ∨ 100000 < n) :
    Calls Try.prog 19 #[.int .i64 n] w fun e w' => e = .returned (.string (bs [])) ∧ w = w' := by
  have hcv := fun w : World => string_of_own (w := w) (B := 0) (v := .slice none 0 0) (l := []) (World.ownsRow_nil _ _ _ _)
  by_cases h1 : n < 0
  · have h2 : ¬ 0 < n := by omega
    have h3 : decide (0 < n) = false := by simpa using h2
    go_enter Try.func19, Try.ntmps19
    go_wp2
    refine wp_loop_rounds 1 ?_
    rw [rounds_succ]
    go_wp2
    go_ret
    exact ⟨rfl, rfl⟩
  · have h2 : 0 < n := by omega
    have h3 : ¬ n ≤ 100000 := by omega
    have h4 : decide (n ≤ 100000) = false := by simpa using h3
    clear h
    go_enter Try.func19, Try.ntmps19
    go_wp2
    refine wp_loop_rounds 1 ?_
    rw [rounds_succ]
    go_wp2
    go_ret
    exact ⟨rfl, rfl⟩

theorem xor_ones (l : List UInt8) : mixL xorB (List.replicate l.length 255) l = notL l := by
  rw [notL_map]
  induction l with
  | nil => rfl
  | cons c l ih =>
    simp only [List.length_cons, List.replicate_succ, mixL, List.map_cons, ih]
    congr 1

theorem ref_not (s : ByteArray) (w : World) (h : s.size ≤ 100000) :
    Calls Try.prog 18 #[.string s] w fun e w' => e = .returned (.string (bs (notL s.data.toList))) ∧ Below w.heap.size w w' := by
  have hx := xor_ones s.data.toList
  rw [toList_length] at hx
  have HX := Lib.hid hx
  clear hx
  go_enter Try.func18, Try.ntmps18
  go_wp2_with (first | (go_at_call 19; refine (ref_ones s.size _ h).mono ?_; rintro e w1 ⟨rfl, hb1⟩) | (go_at_call 17; refine (ref_xor _ s _ (by rw [bs_size]; simp; omega)).mono ?_; rintro e w2 ⟨rfl, hb2⟩))
  go_ret
  refine ⟨?_, hb1.trans (hb2.mono hb1.size)⟩
  rw [bs_toList, HX.out]
  rfl


end Go.Proofs.Ytkmlaljahbckkaa
