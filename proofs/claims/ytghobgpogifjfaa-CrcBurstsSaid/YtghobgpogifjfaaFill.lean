/- The table of package crc: its filling, walked. -/
import Derived.Test.YtghobgpogifjfaaTab
namespace Go.Proofs.Ytghobgpogifjfaa
open Go.RowKit

theorem low_bit (n : Nat) (h : n < 4294967296) : bits .and .u32 (n : Int) 1 = ((n % 2 : Nat) : Int) := by
  have := u32_and_nat n 1 h (by decide)
  rw [Nat.and_one_is_mod] at this
  exact this
theorem poly_bits (n : Nat) (h : n < 4294967296) : bits .xor .u32 (n : Int) 3988292384 = ((n ^^^ 3988292384 : Nat) : Int) := u32_xor_nat n 3988292384 h (by decide)

theorem Oc.Sk_succ (k n : Nat) : Oc.Sk (k + 1) n = Oc.S (Oc.Sk k n) := by
  have := Oc.Sk_add k 1 n
  exact this

set_option maxRecDepth 100000 in
theorem fill_calls {w W : World} (h : Tab w W 0 1 (rowsTo 0)) :
    Calls Try.prog 66 #[.pointer (some ⟨w.heap.size, 0, none⟩)] W fun e W' => e = .returned (.tuple #[]) ∧ Tab w W' 0 1 (rowsTo 16) := by
  go_enter Try.func66, Try.ntmps66
  go_wp2
  go_loopw [5] (fun i wr => ∃ k : Nat, k ≤ 16 ∧ i = .int .i64 k ∧ Tab w wr 0 1 (rowsTo k)) (fun i _ => 16 - (intOf i).toNat)
  case atStart => exact ⟨0, by decide, rfl, h⟩
  case round =>
    obtain ⟨k, hk, rfl, ht⟩ := hrel
    by_cases hlt : k < 16
    · go_wp2
      go_loop [3, 10] (fun n j => ∃ m : Nat, m ≤ 4 ∧ j = .int .i64 m ∧ n = .int .u32 (Oc.Sk m k)) (fun _ j => 4 - (intOf j).toNat)
      case atStart => exact ⟨0, by decide, rfl, by go_num⟩
      case round =>
        obtain ⟨m, hm, rfl, rfl⟩ := hrel
        by_cases hlm : m < 4
        · have hN := Oc.Sk_lt m k (by omega)
          have hS : Oc.Sk (m + 1) k = Oc.S (Oc.Sk m k) := Oc.Sk_succ m k
          generalize Oc.Sk m k = N at *
          have HS := Lib.hid hS
          clear hS
          have hl := low_bit N hN
          have hp := poly_bits (N / 2) (by omega)
          by_cases hodd : N % 2 = 1
          · rw [hodd] at hl
            have e2 : ((N : Int) / 2) = ((N / 2 : Nat) : Int) := by omega
            have HE := Lib.hid e2
            have HP := Lib.hid hp
            clear e2 hp
            go_wp2
            go_round
            case rel => exact ⟨m + 1, by omega, by go_num, by rw [HS.out, HE.out, HP.out, Oc.S, if_pos hodd]⟩
            case measure => simp [intOf]; omega
          · have he : N % 2 = 0 := by omega
            rw [he] at hl
            go_wp2
            go_round
            case rel => exact ⟨m + 1, by omega, by go_num, by rw [HS.out, Oc.S, if_neg hodd]; go_num⟩
            case measure => simp [intOf]; omega
        · obtain rfl : m = 4 := by omega
          have hc := ht.atRow k (by rw [rowsTo_length]; exact hlt)
          have hz := ht.frozen (3 + k)
          go_wp2
          go_roundw
          case rel =>
            have h2 := ht.setRow k ((Oc.Sk 4 k : Nat) : Int)
            rw [rowsTo_set] at h2
            exact ⟨k + 1, by omega, by go_num, h2⟩
          case measure => simp [intOf]; omega
    · obtain rfl : k = 16 := by omega
      go_wp2
      go_end0
      exact ⟨rfl, ht⟩

set_option maxRecDepth 100000 in
set_option maxHeartbeats 1600000 in
/-- '(*sync.Once).doSlow' at the table, not yet filled. -/
theorem slow_calls {w W : World} (h : Tab w W 0 0 (rowsTo 0)) :
    Calls Try.prog 74 #[.pointer (some ⟨w.heap.size, 0, none⟩), .func (.func 66) #[.pointer (some ⟨w.heap.size, 0, none⟩)] #[]] W fun e W' => e = .returned (.tuple #[]) ∧ Tab w W' 1 0 (rowsTo 16) := by
  have h1 := h.set1 1
  go_enter_defers Try.func74, Try.ntmps74
  go_wp2_with (first | (go_at_call 78; refine (once_lock ⟨w.heap.size, 1, none⟩ _ h.at1 (h.frozen 1)).mono ?_; rintro e w' ⟨rfl, rfl⟩) | (go_at_call 73; refine (once_load ⟨w.heap.size, 0, none⟩ 0 false _ h1.at0 rfl).mono ?_; rintro e w' ⟨rfl, rfl⟩) | (go_at_call 66; refine (fill_calls h1).mono ?_; rintro e w2 ⟨rfl, h2⟩))
  -- the door: two deferred calls, the last laid first
  have h3 := h2.drew.set0 1
  have h4 := h3.set1 0
  refine leaves_cons (f := 80) (args := #[.pointer (some ⟨w.heap.size, 0, none⟩), .bool true]) (by simp) (by simp [go_sem]) ?_
  refine (once_store ⟨w.heap.size, 0, none⟩ (.int .u32 0) .returning _ h2.at0 (h2.frozen 0)).mono ?_
  rintro e u' w'' ⟨rfl, rfl, rfl⟩
  refine leaves_cons (f := 79) (args := #[.pointer (some ⟨w.heap.size, 1, none⟩)]) (by simp [settle]) (by simp [go_sem]) ?_
  refine (once_unlock ⟨w.heap.size, 1, none⟩ _ _ h3.at1 (h3.frozen 1)).mono ?_
  rintro e u' w'' ⟨rfl, rfl, rfl⟩
  simp [Leaves, settle, results, Try.results74]
  exact h4

theorem do_first {w W : World} (h : Tab w W 0 0 (rowsTo 0)) :
    Calls Try.prog 65 #[.pointer (some ⟨w.heap.size, 0, none⟩), .func (.func 66) #[.pointer (some ⟨w.heap.size, 0, none⟩)] #[]] W fun e W' => e = .returned (.tuple #[]) ∧ Tab w W' 1 0 (rowsTo 16) := by
  go_enter Try.func65, Try.ntmps65
  go_wp2_with (first | (go_at_call 73; refine (once_load ⟨w.heap.size, 0, none⟩ 0 false _ h.at0 rfl).mono ?_; rintro e w' ⟨rfl, rfl⟩) | (go_at_call 74; refine (slow_calls h).mono ?_; rintro e w' ⟨rfl, h2⟩))
  go_end0
  exact ⟨rfl, h2⟩

theorem do_again {w W : World} (fv : Value) (h : Tab w W 1 0 (rowsTo 16)) :
    Calls Try.prog 65 #[.pointer (some ⟨w.heap.size, 0, none⟩), fv] W fun e W' => e = .returned (.tuple #[]) ∧ Tab w W' 1 0 (rowsTo 16) := by
  go_enter Try.func65, Try.ntmps65
  go_wp2_with (go_at_call 73; refine (once_load ⟨w.heap.size, 0, none⟩ 1 true _ h.at0 rfl).mono ?_; rintro e w' ⟨rfl, rfl⟩)
  go_end0
  exact ⟨rfl, h⟩

end Go.Proofs.Ytghobgpogifjfaa
