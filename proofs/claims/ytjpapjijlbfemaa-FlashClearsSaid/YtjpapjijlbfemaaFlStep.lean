/- What the steps' methods come to. -/
import Derived.Test.YtjpapjijlbfemaaFlMask
import Derived.Test.YtjpapjijlbfemaaOctT
namespace Go.Proofs.Ytjpapjijlbfemaa
open Go.RowKit

set_option maxRecDepth 100000 in
theorem erase_whole (old : ByteArray) (w : World) (h : old.size ≤ 100000) :
    Calls Try.prog 97 #[.agg #[], .string old] w fun e W' => e = .returned (.string (onesT old.size)) ∧ Ups w W' := by
  have hu : ∀ C t, Ups w (w.alloc (.cells C t)) := fun C t => (Below.refl _ w).alloc (Nat.le_refl _) _
  go_enter Try.func97, Try.ntmps97
  go_wp2_with fail
  refine (oones_t old.size _ h).mono ?_
  rintro e w1 ⟨rfl, hb1⟩
  go_wp2_with fail
  go_ret
  exact ⟨rfl, Ups.trans (hu _ _) hb1⟩

set_option maxRecDepth 100000 in
theorem erase_torn (old mask : ByteArray) (w : World) (h1 : old.size ≤ 140737488355328) (h2 : mask.size ≤ 140737488355328) :
    Calls Try.prog 96 #[.agg #[], .string old, .string mask] w fun e W' => e = .returned (.string (orT old mask)) ∧ Ups w W' := by
  have hu : ∀ C t, Ups w (w.alloc (.cells C t)) := fun C t => (Below.refl _ w).alloc (Nat.le_refl _) _
  go_enter Try.func96, Try.ntmps96
  go_wp2_with fail
  refine (oor_t old mask _ h1 h2).mono ?_
  rintro e w1 ⟨rfl, hb1⟩
  go_wp2_with fail
  go_ret
  exact ⟨rfl, Ups.trans (hu _ _) hb1⟩

set_option maxRecDepth 100000 in
theorem program_whole (data old : ByteArray) (w : World) (h1 : old.size ≤ 140737488355328) (h3 : data.size ≤ 140737488355328) :
    Calls Try.prog 99 #[.agg #[.string data], .string old] w fun e W' => e = .returned (.string (andT old data)) ∧ Ups w W' := by
  have hu : ∀ C t, Ups w (w.alloc (.cells C t)) := fun C t => (Below.refl _ w).alloc (Nat.le_refl _) _
  go_enter Try.func99, Try.ntmps99
  go_wp2_with fail
  refine (oand_t old data _ h1 h3).mono ?_
  rintro e w1 ⟨rfl, hb1⟩
  go_wp2_with fail
  go_ret
  exact ⟨rfl, Ups.trans (hu _ _) hb1⟩

set_option maxRecDepth 100000 in
theorem program_torn (data old mask : ByteArray) (w : World) (h1 : old.size ≤ 140737488355328) (h2 : mask.size ≤ 140737488355328) (h3 : data.size ≤ 140737488355328) :
    Calls Try.prog 98 #[.agg #[.string data], .string old, .string mask] w fun e W' => e = .returned (.string (andT old (orT data (notT mask)))) ∧ Ups w W' := by
  have hu : ∀ C t, Ups w (w.alloc (.cells C t)) := fun C t => (Below.refl _ w).alloc (Nat.le_refl _) _
  have hcell : ∀ W, Ups (World.drew (w.alloc (.cells #[.string data] 55))) W → W.cell? ⟨w.heap.size, 0, none⟩ = some (.string data) := fun W hU => cell_ups (drew_ups hU) (by rw [World.cell?_alloc_mark]; rfl)
  go_enter Try.func98, Try.ntmps98
  go_wp2_with fail
  refine wp_region_parts (N := 7) (n := 14) (ks := [isV (.string old), isV (.pointer (some ⟨w.heap.size, 0, none⟩)), isV (.string data), isV (.string mask), isV (.string (notT mask)), isV (.string (orT data (notT mask))), isV (.string (andT old (orT data (notT mask))))]) (by decide +kernel) (by decide +kernel) (by decide +kernel) (by simp) rfl (by decide +kernel) ⟨steady_is _, steady_is _, steady_is _, steady_is _, steady_is _, steady_is _, steady_is _, trivial⟩ ?_ ?_
  · refine And.intro (fun ac W hO hU H => ?_) ?_
    · have h1 : ac.tmps[1]? = some (.string old) := (hO 1 rfl).trans rfl
      exact growOp_plain rfl (parts_value (by simp [go_sem, h1]))
    refine And.intro (fun ac W hO hU H => ?_) ?_
    · have h3 : ac.tmps[3]? = some (.pointer (some ⟨w.heap.size, 0, none⟩)) := (hO 3 rfl).trans rfl
      exact growOp_plain rfl (parts_value (by simp [go_sem, h3]))
    refine And.intro (fun ac W hO hU H => ?_) ?_
    · have h8 : ac.tmps[8]? = some (.pointer (some ⟨w.heap.size, 0, none⟩)) := isV_get (W := W) (H 1 8 rfl)
      have hc := hcell W hU
      exact growOp_plain rfl (parts_value (by simp [go_sem, h8, hc]))
    refine And.intro (fun ac W hO hU H => ?_) ?_
    · have h2 : ac.tmps[2]? = some (.string mask) := (hO 2 rfl).trans rfl
      exact growOp_plain rfl (parts_value (by simp [go_sem, h2]))
    refine And.intro (fun ac W hO hU H => ?_) ?_
    · have h10 : ac.tmps[10]? = some (.string mask) := isV_get (W := W) (H 3 10 rfl)
      exact growOp_plain rfl (parts_call_is (args := #[.string mask]) (by simp [go_sem, h10]) (onot_t mask W h2))
    refine And.intro (fun ac W hO hU H => ?_) ?_
    · have h9 : ac.tmps[9]? = some (.string data) := isV_get (W := W) (H 2 9 rfl)
      have h11 : ac.tmps[11]? = some (.string (notT mask)) := isV_get (W := W) (H 4 11 rfl)
      exact growOp_plain rfl (parts_call_is (args := #[.string data, .string (notT mask)]) (by simp [go_sem, h9, h11]) (oor_t _ _ W h3 (by rw [notT_size]; exact h2)))
    refine And.intro (fun ac W hO hU H => ?_) ?_
    · have h7 : ac.tmps[7]? = some (.string old) := isV_get (W := W) (H 0 7 rfl)
      have h12 : ac.tmps[12]? = some (.string (orT data (notT mask))) := isV_get (W := W) (H 5 12 rfl)
      exact growOp_plain rfl (parts_call_is (args := #[.string old, .string (orT data (notT mask))]) (by simp [go_sem, h7, h12]) (oand_t _ _ W h1 (by rw [orT_size]; exact h3)))
    exact trivial
  · intro W xs hU hks
    obtain ⟨y0, rfl, g0⟩ := holdAll_is hks
    obtain ⟨y1, rfl, g1⟩ := holdAll_is g0
    obtain ⟨y2, rfl, g2⟩ := holdAll_is g1
    obtain ⟨y3, rfl, g3⟩ := holdAll_is g2
    obtain ⟨y4, rfl, g4⟩ := holdAll_is g3
    obtain ⟨y5, rfl, g5⟩ := holdAll_is g4
    obtain ⟨y6, rfl, g6⟩ := holdAll_is g5
    obtain rfl := holdAll_nil g6
    clear hks g0 g1 g2 g3 g4 g5 g6
    simp only [List.take_succ_cons, List.take_zero, List.drop_succ_cons, List.drop_zero, endTmps, List.setIfInBounds_toArray, List.set]
    go_wp2_with fail
    go_ret
    exact ⟨rfl, Ups.trans (hu _ _) (drew_ups hU)⟩

end Go.Proofs.Ytjpapjijlbfemaa
