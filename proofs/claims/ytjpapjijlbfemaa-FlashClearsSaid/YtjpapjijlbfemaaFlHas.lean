/- What flash.has comes to. -/
import Derived.Test.YtjpapjijlbfemaaFlCheck
namespace Go.Proofs.Ytjpapjijlbfemaa
open Go.RowKit

def hasB (f : Fl) (page : Int) : Bool := checkB f && decide (0 ≤ page) && decide (page < f.pages.length)

set_option maxRecDepth 100000 in
set_option maxHeartbeats 1000000 in
theorem has_calls (f : Fl) (v : Value) (page : Int) (w : World) (h : FlAt w v f) (hb1 : f.pages.length ≤ 9223372036854775807) (hb2 : f.wear.length ≤ 9223372036854775807) :
    Calls Try.prog 32 #[v, .int .i64 page] w fun e W' => e = .returned (.bool (hasB f page)) ∧ Ups w W' := by
  have h0 := h
  obtain ⟨p, q, rfl, ⟨a, c, rfl, hp⟩, ⟨a', c', rfl, hq⟩⟩ := h
  have hbel : Ups w (w.alloc (.cells #[.slice a f.pages.length c, .slice a' f.wear.length c', .int .i64 f.fuse, .string f.torn, .bool f.dead] 25)) := (Below.refl _ w).alloc (Nat.le_refl _) _
  have hc := check_calls f _ _ (h0.ups hbel) hb1 hb2
  have hcell : (w.alloc (.cells #[.slice a f.pages.length c, .slice a' f.wear.length c', .int .i64 f.fuse, .string f.torn, .bool f.dead] 25)).cell? ⟨w.heap.size, 0, none⟩ = some (.slice a f.pages.length c) := by
    rw [World.cell?_alloc_mark]
    rfl
  have hh : hasB f page = (checkB f && decide (0 ≤ page) && decide (page < f.pages.length)) := rfl
  generalize hasB f page = r at *
  have HH := Lib.hid hh
  clear hh h0 hp hq
  cases hk : checkB f with
  | false =>
    rw [hk] at hc
    have hr : r = false := by rw [HH.out, hk]; rfl
    subst hr
    clear HH hk
    go_enter Try.func32, Try.ntmps32
    go_wp2_with fail
    refine hc.mono ?_
    rintro e w1 ⟨rfl, hb⟩
    go_wp2_with fail
    go_ret
    exact ⟨rfl, Ups.trans hbel hb⟩
  | true =>
    rw [hk] at hc
    have hr : r = (decide (0 ≤ page) && decide (page < f.pages.length)) := by rw [HH.out, hk, Bool.true_and]
    clear HH hk
    by_cases h1 : 0 ≤ page
    · rw [decide_eq_true h1, Bool.true_and] at hr
      subst hr
      go_enter Try.func32, Try.ntmps32
      go_wp2_with fail
      refine hc.mono ?_
      rintro e w1 ⟨rfl, hb⟩
      have hcell1 := cell_ups hb hcell
      go_wp2_with fail
      go_ret
      exact ⟨rfl, Ups.trans hbel hb⟩
    · rw [decide_eq_false h1, Bool.false_and] at hr
      subst hr
      go_enter Try.func32, Try.ntmps32
      go_wp2_with fail
      refine hc.mono ?_
      rintro e w1 ⟨rfl, hb⟩
      go_wp2_with fail
      go_ret
      exact ⟨rfl, Ups.trans hbel hb⟩

end Go.Proofs.Ytjpapjijlbfemaa
