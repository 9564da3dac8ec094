/- What ouroboroslaw03.Few comes to. -/
import Derived.Test.YtjpapjijlbfemaaFlNew
import Derived.LoopTactic
namespace Go.Proofs.Ytjpapjijlbfemaa
open Go.RowKit

set_option maxRecDepth 100000 in
set_option maxHeartbeats 2000000 in
theorem few_calls (f : Fl) (v : Value) (w : World) (h : FlAt w v f) (hf : FlFit f) :
    Calls Try.prog 10 #[v] w fun e W' => ∃ r : Bool, e = .returned (.bool r) ∧ (r = true → f.pages.length ≤ 8 ∧ f.wear.length ≤ 20) ∧ Ups w W' := by
  obtain ⟨p, q, rfl, ⟨a, c, rfl, hp⟩, ⟨a', c', rfl, _⟩⟩ := h
  have hu1 : Ups w (w.alloc (.cells #[.slice a f.pages.length c, .slice a' f.wear.length c', .int .i64 f.fuse, .string f.torn, .bool f.dead] 25)) := (Below.refl _ w).alloc (Nat.le_refl _) _
  have HP := Lib.hid hp
  have hf1 := hf.1
  have hf2 := hf.2.1
  clear hp hf
  go_enter Try.func10, Try.ntmps10
  go_wp2_with fail
  go_loop [3] (fun i => ∃ k : Nat, k ≤ f.pages.length ∧ i = .int .i64 k) (fun i => f.pages.length - (intOf i).toNat)
  case atStart => exact ⟨0, Nat.zero_le _, rfl⟩
  case round =>
    obtain ⟨k, hk, rfl⟩ := hrel
    have last : ∀ r : Bool, r = (decide ((f.pages.length : Int) ≤ 8) && decide ((f.wear.length : Int) ≤ 20)) → r = true → f.pages.length ≤ 8 ∧ f.wear.length ≤ 20 := by
      rintro r rfl h
      simp only [Bool.and_eq_true, decide_eq_true_eq] at h
      omega
    have LAST := Lib.hid last
    clear last
    by_cases ha : (k : Int) < f.pages.length
    · by_cases hb : (k : Int) ≤ 8
      · obtain ⟨b, off, rfl, hj⟩ := HP.out (by omega)
        have hc := hj k (by omega)
        have hbl := lt_of_cell hc
        simp only at hbl
        clear hj
        generalize f.pages.getD k ByteArray.empty = s at *
        by_cases h1 : (4000 : Int) < s.size
        · by_cases h2 : (s.size : Int) ≤ 8192
          · go_wp2_with fail
            exact bodyPost_ret (v := .bool false) (results_one rfl rfl) rfl (.inl ⟨rfl, hu1⟩)
          · go_wp2_with fail
            go_round
            case rel => exact ⟨k + 1, by omega, by go_num⟩
            case measure => simp [intOf]; omega
        · go_wp2_with fail
          go_round
          case rel => exact ⟨k + 1, by omega, by go_num⟩
          case measure => simp [intOf]; omega
      · by_cases h3 : (f.pages.length : Int) ≤ 8
        · omega
        · go_wp2_with fail
          exact bodyPost_ret (v := .bool false) (results_one rfl rfl) rfl (.inl ⟨rfl, hu1⟩)
    · by_cases h3 : (f.pages.length : Int) ≤ 8
      · by_cases h4 : (f.wear.length : Int) ≤ 20
        · go_wp2_with fail
          exact bodyPost_ret (v := .bool true) (results_one rfl rfl) rfl (.inr ⟨rfl, by omega, hu1⟩)
        · go_wp2_with fail
          exact bodyPost_ret (v := .bool false) (results_one rfl rfl) rfl (.inl ⟨rfl, hu1⟩)
      · go_wp2_with fail
        exact bodyPost_ret (v := .bool false) (results_one rfl rfl) rfl (.inl ⟨rfl, hu1⟩)

end Go.Proofs.Ytjpapjijlbfemaa
