/- What flash.Same comes to. -/
import Derived.Test.YtjpapjijlbfemaaFlWith
namespace Go.Proofs.Ytjpapjijlbfemaa
open Go.RowKit

def sameB (f g : Fl) : Bool := decide (f.pages = g.pages) && decide (f.wear = g.wear) && (f.fuse == g.fuse) && (f.torn.toList == g.torn.toList) && (f.dead == g.dead)

set_option maxRecDepth 100000 in
set_option maxHeartbeats 1000000 in
theorem same_calls (f g : Fl) (v v' : Value) (w : World) (h : FlAt w v f) (h' : FlAt w v' g) (b1 : f.pages.length ≤ 1000000) (b2 : g.pages.length ≤ 1000000) (b3 : f.wear.length ≤ 1000000) (b4 : g.wear.length ≤ 1000000) :
    Calls Try.prog 26 #[v, v'] w fun e W' => e = .returned (.bool (sameB f g)) ∧ Ups w W' := by
  obtain ⟨p, q, rfl, hp, hq⟩ := h
  obtain ⟨p', q', rfl, hp', hq'⟩ := h'
  have heT := fun W (hu : Ups w W) => equal_texts (hp.ups hu) (hp'.ups hu) b1 b2
  have heI := fun W (hu : Ups w W) => equal_ints (hq.ups hu) (hq'.ups hu) b3 b4
  obtain ⟨a1, c1, rfl, _⟩ := hp
  obtain ⟨a2, c2, rfl, _⟩ := hq
  obtain ⟨a3, c3, rfl, _⟩ := hp'
  obtain ⟨a4, c4, rfl, _⟩ := hq'
  have hs : sameB f g = (decide (f.pages = g.pages) && decide (f.wear = g.wear) && (f.fuse == g.fuse) && (f.torn.toList == g.torn.toList) && (f.dead == g.dead)) := rfl
  rw [hs]
  clear hs
  generalize decide (f.pages = g.pages) = P at *
  generalize decide (f.wear = g.wear) = Q at *
  go_enter Try.func26, Try.ntmps26
  go_wp2_with fail
  have o2 := ((Own.start w).alloc (.cells #[.slice a1 f.pages.length c1, .slice a2 f.wear.length c2, .int .i64 f.fuse, .string f.torn, .bool f.dead] 25)).alloc (.cells #[.slice a3 g.pages.length c3, .slice a4 g.wear.length c4, .int .i64 g.fuse, .string g.torn, .bool g.dead] 25)
  have hu2 : Ups w ((w.alloc (.cells #[.slice a1 f.pages.length c1, .slice a2 f.wear.length c2, .int .i64 f.fuse, .string f.torn, .bool f.dead] 25)).alloc (.cells #[.slice a3 g.pages.length c3, .slice a4 g.wear.length c4, .int .i64 g.fuse, .string g.torn, .bool g.dead] 25)) := o2.bel
  have hk0 := o2.at w.heap.size 0 rfl rfl
  have hk1 := o2.at (w.heap.size + 1) 1 rfl rfl
  clear o2
  generalize (w.alloc (.cells #[.slice a1 f.pages.length c1, .slice a2 f.wear.length c2, .int .i64 f.fuse, .string f.torn, .bool f.dead] 25)).alloc (.cells #[.slice a3 g.pages.length c3, .slice a4 g.wear.length c4, .int .i64 g.fuse, .string g.torn, .bool g.dead] 25) = W2 at *
  refine (heT _ hu2).mono ?_
  rintro e W3 ⟨rfl, hb3⟩
  have cA : ∀ j v, (#[.slice a1 f.pages.length c1, .slice a2 f.wear.length c2, .int .i64 f.fuse, .string f.torn, .bool f.dead] : Array Value)[j]? = some v → W3.cell? ⟨w.heap.size, j, none⟩ = some v := fun j v h => cell_ups hb3 (by rw [cell_of hk0]; exact h)
  have cB : ∀ j v, (#[.slice a3 g.pages.length c3, .slice a4 g.wear.length c4, .int .i64 g.fuse, .string g.torn, .bool g.dead] : Array Value)[j]? = some v → W3.cell? ⟨w.heap.size + 1, j, none⟩ = some v := fun j v h => cell_ups hb3 (by rw [cell_of hk1]; exact h)
  have k1 := cA 1 _ rfl
  have m1 := cB 1 _ rfl
  clear hk0 hk1
  have HA := Lib.hid cA
  have HB := Lib.hid cB
  clear cA cB
  cases P
  · go_wp2_with fail
    go_ret
    exact ⟨by simp, Ups.trans hu2 hb3⟩
  · go_wp2_with fail
    refine (heI _ (Ups.trans hu2 hb3)).mono ?_
    rintro e W4 ⟨rfl, hb4⟩
    have k2 := cell_ups hb4 (HA.out 2 _ rfl)
    have k3 := cell_ups hb4 (HA.out 3 _ rfl)
    have k4 := cell_ups hb4 (HA.out 4 _ rfl)
    have m2 := cell_ups hb4 (HB.out 2 _ rfl)
    have m3 := cell_ups hb4 (HB.out 3 _ rfl)
    have m4 := cell_ups hb4 (HB.out 4 _ rfl)
    have hu := Ups.trans hu2 (Ups.trans hb3 hb4)
    cases Q
    · go_wp2_with fail
      go_ret
      exact ⟨by simp, hu⟩
    · cases e1 : (f.fuse == g.fuse)
      · go_wp2_with fail
        go_ret
        exact ⟨by simp; intro h; exact absurd h (by simpa using e1), hu⟩
      · cases e2 : (f.torn.toList == g.torn.toList)
        · go_wp2_with fail
          go_ret
          exact ⟨by simp; simp at e1; try simp at e2; simp_all, hu⟩
        · go_wp2_with fail
          go_ret
          exact ⟨by simp; simp at e1; try simp at e2; simp_all, hu⟩

end Go.Proofs.Ytjpapjijlbfemaa
