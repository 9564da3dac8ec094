/- What ouroborosref03.Wake, Rot, Free, Same come to. -/
import Derived.Test.YtjpapjijlbfemaaRefOps
namespace Go.Proofs.Ytjpapjijlbfemaa
open Go.RowKit

set_option maxRecDepth 100000 in
set_option maxHeartbeats 2000000 in
theorem rwake_calls (f : Fl) (v : Value) (fuse : Int) (torn : ByteArray) (w : World) (h : FlAt w v f) (hf : FlFit f) :
    Calls Try.prog 19 #[v, .int .i64 fuse, .string torn] w fun e W' => ∃ v', e = .returned (.tuple #[v', .int .i64 (wakeF f fuse torn).2]) ∧ FlNew w v W' v' (wakeF f fuse torn).1 := by
  have hall := h
  obtain ⟨p, q, rfl, hT, hI⟩ := h
  have hrP : RowOff (w.heap.size + 1) p := hT.off (Nat.le_succ _)
  have hrQ : RowOff (w.heap.size + 1) q := hI.off (Nat.le_succ _)
  have hT0 := hT
  have hI0 := hI
  obtain ⟨a, c, rfl, hp⟩ := hT0
  obtain ⟨a', c', rfl, _⟩ := hI0
  have hu2 : Ups w ((w.alloc (.cells #[.slice a f.pages.length c, .slice a' f.wear.length c', .int .i64 f.fuse, .string f.torn, .bool f.dead] 25)).alloc (.cells #[.slice none 0 0, .slice none 0 0, .int .i64 0, .string { data := #[] }, .bool false] 25)) := ((Own.start w).alloc (.cells #[.slice a f.pages.length c, .slice a' f.wear.length c', .int .i64 f.fuse, .string f.torn, .bool f.dead] 25) |>.alloc (.cells #[.slice none 0 0, .slice none 0 0, .int .i64 0, .string { data := #[] }, .bool false] 25)).bel
  have hk0 : ((w.alloc (.cells #[.slice a f.pages.length c, .slice a' f.wear.length c', .int .i64 f.fuse, .string f.torn, .bool f.dead] 25)).alloc (.cells #[.slice none 0 0, .slice none 0 0, .int .i64 0, .string { data := #[] }, .bool false] 25)).heap[w.heap.size]? = some (.cells #[.slice a f.pages.length c, .slice a' f.wear.length c', .int .i64 f.fuse, .string f.torn, .bool f.dead] 25) := ((Own.start w).alloc (.cells #[.slice a f.pages.length c, .slice a' f.wear.length c', .int .i64 f.fuse, .string f.torn, .bool f.dead] 25) |>.alloc (.cells #[.slice none 0 0, .slice none 0 0, .int .i64 0, .string { data := #[] }, .bool false] 25)).at w.heap.size 0 rfl rfl
  have hk1 : ((w.alloc (.cells #[.slice a f.pages.length c, .slice a' f.wear.length c', .int .i64 f.fuse, .string f.torn, .bool f.dead] 25)).alloc (.cells #[.slice none 0 0, .slice none 0 0, .int .i64 0, .string { data := #[] }, .bool false] 25)).heap[w.heap.size + 1]? = some (.cells #[.slice none 0 0, .slice none 0 0, .int .i64 0, .string { data := #[] }, .bool false] 25) := ((Own.start w).alloc (.cells #[.slice a f.pages.length c, .slice a' f.wear.length c', .int .i64 f.fuse, .string f.torn, .bool f.dead] 25) |>.alloc (.cells #[.slice none 0 0, .slice none 0 0, .int .i64 0, .string { data := #[] }, .bool false] 25)).at (w.heap.size + 1) 1 rfl rfl
  have hz2 : w.heap.size + 1 < ((w.alloc (.cells #[.slice a f.pages.length c, .slice a' f.wear.length c', .int .i64 f.fuse, .string f.torn, .bool f.dead] 25)).alloc (.cells #[.slice none 0 0, .slice none 0 0, .int .i64 0, .string { data := #[] }, .bool false] 25)).heap.size := (Array.getElem?_eq_some_iff.1 hk1).1
  have hch := rcheck_calls f _ _ (hall.ups hu2) hf
  cases hb : checkB f with
  | false =>
    have he : wakeF f fuse torn = (f, 1) := by simp [wakeF, hb]
    rw [he]
    rw [hb] at hch
    clear he hb
    go_enter Try.func19, Try.ntmps19
    go_wp2_with fail
    refine hch.mono ?_
    rintro e w3 ⟨rfl, hb3⟩
    obtain ⟨k0, k1, k2, k3, k4⟩ := block_cells (block_ups hk0 hb3)
    have hzz := block_ups hk1 hb3
    obtain ⟨d0, d1, d2, d3, d4⟩ := block_cells hzz
    have y0 := block_frozen hzz 0
    have y1 := block_frozen hzz 1
    have y2 := block_frozen hzz 2
    have y3 := block_frozen hzz 3
    have y4 := block_frozen hzz 4
    have hu3 := Ups.trans hu2 hb3
    have HA := Lib.hid hall
    clear hall hT hI hch hk0 hk1 hzz hf
    go_wp2_with fail
    refine bodyPost_ret (v := .tuple #[.agg #[.slice a f.pages.length c, .slice a' f.wear.length c', .int .i64 f.fuse, .string f.torn, .bool f.dead], .int .i64 1]) ?_ rfl ⟨_, rfl, ?_⟩
    · simp [results, Try.results19, go_sem, d0, d1, d2, d3, d4]
    · exact fl_stored hu3 (Nat.le_succ _) (HA.out.ups hu3) (FlOff.mk hrP hrQ) (fun B hB ho => ho) rfl
  | true =>
    rw [hb] at hch
    by_cases ht : torn.size ≤ 64
    · have he : wakeF f fuse torn = ({ f with dead := false, fuse := fuse, torn := torn }, 0) := by simp [wakeF, hb, ht]
      rw [he]
      have ht' : ¬ (64 : Int) < torn.size := by omega
      clear he hb ht
      go_enter Try.func19, Try.ntmps19
      go_wp2_with fail
      refine hch.mono ?_
      rintro e w3 ⟨rfl, hb3⟩
      have hk3 := block_ups hk0 hb3
      obtain ⟨k0, k1, k2, k3, k4⟩ := block_cells hk3
      have x2 := block_frozen hk3 2
      have x3 := block_frozen hk3 3
      have x4 := block_frozen hk3 4
      have hzz := block_ups hk1 hb3
      obtain ⟨d0, d1, d2, d3, d4⟩ := block_cells hzz
      have y0 := block_frozen hzz 0
      have y1 := block_frozen hzz 1
      have y2 := block_frozen hzz 2
      have y3 := block_frozen hzz 3
      have y4 := block_frozen hzz 4
      have hu3 := Ups.trans hu2 hb3
      have HA := Lib.hid hall
      have hb1 : But w.heap.size w3 (((w3.setCell ⟨w.heap.size, 4, none⟩ (.bool false)).setCell ⟨w.heap.size, 2, none⟩ (.int .i64 fuse)).setCell ⟨w.heap.size, 3, none⟩ (.string torn)) := (((But.refl _ _).set 4 _).set 2 _).set 3 _
      have HT := Lib.hid ((hT.ups hu3).but hb1 (hT.off (Nat.le_refl _)))
      have HI := Lib.hid ((hI.ups hu3).but hb1 (hI.off (Nat.le_refl _)))
      clear hall hT hI hch hk0 hk1 hzz hf hk3
      go_wp2_with fail
      refine bodyPost_ret (v := .tuple #[.agg #[.slice a f.pages.length c, .slice a' f.wear.length c', .int .i64 fuse, .string torn, .bool false], .int .i64 0]) ?_ rfl ⟨_, rfl, ?_⟩
      · simp [results, Try.results19, go_sem, d0, d1, d2, d3, d4]
      · exact fl_stored (hb1.below hu3 (Nat.le_refl _)) (Nat.le_succ _) ⟨_, _, rfl, HT.out, HI.out⟩ (FlOff.mk hrP hrQ) (fun B hB ho => FlOff.mk ho.fst ho.snd) rfl
    · have he : wakeF f fuse torn = (f, 1) := by simp [wakeF, hb, ht]
      rw [he]
      have ht' : (64 : Int) < torn.size := by omega
      clear he hb ht
      go_enter Try.func19, Try.ntmps19
      go_wp2_with fail
      refine hch.mono ?_
      rintro e w3 ⟨rfl, hb3⟩
      obtain ⟨k0, k1, k2, k3, k4⟩ := block_cells (block_ups hk0 hb3)
      have hzz := block_ups hk1 hb3
      obtain ⟨d0, d1, d2, d3, d4⟩ := block_cells hzz
      have y0 := block_frozen hzz 0
      have y1 := block_frozen hzz 1
      have y2 := block_frozen hzz 2
      have y3 := block_frozen hzz 3
      have y4 := block_frozen hzz 4
      have hu3 := Ups.trans hu2 hb3
      have HA := Lib.hid hall
      clear hall hT hI hch hk0 hk1 hzz hf
      go_wp2_with fail
      refine bodyPost_ret (v := .tuple #[.agg #[.slice a f.pages.length c, .slice a' f.wear.length c', .int .i64 f.fuse, .string f.torn, .bool f.dead], .int .i64 1]) ?_ rfl ⟨_, rfl, ?_⟩
      · simp [results, Try.results19, go_sem, d0, d1, d2, d3, d4]
      · exact fl_stored hu3 (Nat.le_succ _) (HA.out.ups hu3) (FlOff.mk hrP hrQ) (fun B hB ho => ho) rfl


set_option maxRecDepth 100000 in
set_option maxHeartbeats 1000000 in
theorem rsame_calls (f g : Fl) (v v' : Value) (w : World) (h : FlAt w v f) (h' : FlAt w v' g) (b1 : f.pages.length ≤ 1000000) (b3 : f.wear.length ≤ 1000000) :
    Calls Try.prog 15 #[v, v'] w fun e W' => e = .returned (.bool (sameB f g)) ∧ Ups w W' := by
  obtain ⟨p, q, rfl, hp, hq⟩ := h
  obtain ⟨p', q', rfl, hp', hq'⟩ := h'
  have heT := fun W (hu : Ups w W) => rtexts_calls (hp.ups hu) (hp'.ups hu) b1
  have heI := fun W (hu : Ups w W) => rints_calls (hq.ups hu) (hq'.ups hu) b3
  obtain ⟨a1, c1, rfl, _⟩ := hp
  obtain ⟨a2, c2, rfl, _⟩ := hq
  obtain ⟨a3, c3, rfl, _⟩ := hp'
  obtain ⟨a4, c4, rfl, _⟩ := hq'
  have hs : sameB f g = (decide (f.pages = g.pages) && decide (f.wear = g.wear) && (f.fuse == g.fuse) && (f.torn.toList == g.torn.toList) && (f.dead == g.dead)) := rfl
  rw [hs]
  clear hs
  generalize decide (f.pages = g.pages) = P at *
  generalize decide (f.wear = g.wear) = Q at *
  go_enter Try.func15, Try.ntmps15
  go_wp2_with fail
  have o2 := ((Own.start w).alloc (.cells #[.slice a1 f.pages.length c1, .slice a2 f.wear.length c2, .int .i64 f.fuse, .string f.torn, .bool f.dead] 25)).alloc (.cells #[.slice a3 g.pages.length c3, .slice a4 g.wear.length c4, .int .i64 g.fuse, .string g.torn, .bool g.dead] 25)
  have hu2 : Ups w ((w.alloc (.cells #[.slice a1 f.pages.length c1, .slice a2 f.wear.length c2, .int .i64 f.fuse, .string f.torn, .bool f.dead] 25)).alloc (.cells #[.slice a3 g.pages.length c3, .slice a4 g.wear.length c4, .int .i64 g.fuse, .string g.torn, .bool g.dead] 25)) := o2.bel
  have hk0 := o2.at w.heap.size 0 rfl rfl
  have hk1 := o2.at (w.heap.size + 1) 1 rfl rfl
  clear o2
  generalize (w.alloc (.cells #[.slice a1 f.pages.length c1, .slice a2 f.wear.length c2, .int .i64 f.fuse, .string f.torn, .bool f.dead] 25)).alloc (.cells #[.slice a3 g.pages.length c3, .slice a4 g.wear.length c4, .int .i64 g.fuse, .string g.torn, .bool g.dead] 25) = W2 at *
  refine (heT _ hu2).mono ?_
  rintro e W3 ⟨rfl, hb3⟩
  have cA : ∀ j v, (#[.slice a1 f.pages.length c1, .slice a2 f.wear.length c2, .int .i64 f.fuse, .string f.torn, .bool f.dead] : Array Value)[j]? = some v → W3.cell? ⟨w.heap.size, j, none⟩ = some v := fun j v h => cell_ups hb3 (by rw [cell_of hk0]; exact h)
  have cB : ∀ j v, (#[.slice a3 g.pages.length c3, .slice a4 g.wear.length c4, .int .i64 g.fuse, .string g.torn, .bool g.dead] : Array Value)[j]? = some v → W3.cell? ⟨w.heap.size + 1, j, none⟩ = some v := fun j v h => cell_ups hb3 (by rw [cell_of hk1]; exact h)
  have k1 := cA 1 _ rfl
  have m1 := cB 1 _ rfl
  clear hk0 hk1
  have HA := Lib.hid cA
  have HB := Lib.hid cB
  clear cA cB
  cases P
  · go_wp2_with fail
    go_ret
    exact ⟨by simp, Ups.trans hu2 hb3⟩
  · go_wp2_with fail
    refine (heI _ (Ups.trans hu2 hb3)).mono ?_
    rintro e W4 ⟨rfl, hb4⟩
    have k2 := cell_ups hb4 (HA.out 2 _ rfl)
    have k3 := cell_ups hb4 (HA.out 3 _ rfl)
    have k4 := cell_ups hb4 (HA.out 4 _ rfl)
    have m2 := cell_ups hb4 (HB.out 2 _ rfl)
    have m3 := cell_ups hb4 (HB.out 3 _ rfl)
    have m4 := cell_ups hb4 (HB.out 4 _ rfl)
    have hu := Ups.trans hu2 (Ups.trans hb3 hb4)
    cases Q
    · go_wp2_with fail
      go_ret
      exact ⟨by simp, hu⟩
    · cases e1 : (f.fuse == g.fuse)
      · go_wp2_with fail
        go_ret
        exact ⟨by simp; intro h; exact absurd h (by simpa using e1), hu⟩
      · cases e2 : (f.torn.toList == g.torn.toList)
        · go_wp2_with fail
          go_ret
          exact ⟨by simp; simp at e1; try simp at e2; simp_all, hu⟩
        · go_wp2_with fail
          go_ret
          exact ⟨by simp; simp at e1; try simp at e2; simp_all, hu⟩


set_option maxRecDepth 100000 in
set_option maxHeartbeats 4000000 in
theorem rrot_none (pages : List ByteArray) (wear : List Int) (fuse : Int) (ftorn : ByteArray) (dead : Bool) (v : Value) (page at_ : Int) (s : ByteArray) (w : World) (h : FlAt w v (⟨pages, wear, fuse, ftorn, dead⟩ : Fl)) (hf : FlFit (⟨pages, wear, fuse, ftorn, dead⟩ : Fl)) (hb : hasB (⟨pages, wear, fuse, ftorn, dead⟩ : Fl) page = false) :
    Calls Try.prog 21 #[v, .int .i64 page, .int .i64 at_, .string s] w fun e W' => ∃ v', e = .returned (.tuple #[v', .int .i64 (rotF (⟨pages, wear, fuse, ftorn, dead⟩ : Fl) page at_ s).2]) ∧ FlNew w v W' v' (rotF (⟨pages, wear, fuse, ftorn, dead⟩ : Fl) page at_ s).1 := by
  have hall := h
  obtain ⟨p, q, rfl, hT, hI⟩ := h
  simp only at hT hI
  have hrP : RowOff (w.heap.size + 1) p := hT.off (Nat.le_succ _)
  have hrQ : RowOff (w.heap.size + 1) q := hI.off (Nat.le_succ _)
  have hT0 := hT
  have hI0 := hI
  obtain ⟨a, c, rfl, hp⟩ := hT0
  obtain ⟨a', c', rfl, _⟩ := hI0
  have hu2 : Ups w ((w.alloc (.cells #[.slice a pages.length c, .slice a' wear.length c', .int .i64 fuse, .string ftorn, .bool dead] 25)).alloc (.cells #[.slice none 0 0, .slice none 0 0, .int .i64 0, .string { data := #[] }, .bool false] 25)) := ((Own.start w).alloc (.cells #[.slice a pages.length c, .slice a' wear.length c', .int .i64 fuse, .string ftorn, .bool dead] 25) |>.alloc (.cells #[.slice none 0 0, .slice none 0 0, .int .i64 0, .string { data := #[] }, .bool false] 25)).bel
  have hk0 : ((w.alloc (.cells #[.slice a pages.length c, .slice a' wear.length c', .int .i64 fuse, .string ftorn, .bool dead] 25)).alloc (.cells #[.slice none 0 0, .slice none 0 0, .int .i64 0, .string { data := #[] }, .bool false] 25)).heap[w.heap.size]? = some (.cells #[.slice a pages.length c, .slice a' wear.length c', .int .i64 fuse, .string ftorn, .bool dead] 25) := ((Own.start w).alloc (.cells #[.slice a pages.length c, .slice a' wear.length c', .int .i64 fuse, .string ftorn, .bool dead] 25) |>.alloc (.cells #[.slice none 0 0, .slice none 0 0, .int .i64 0, .string { data := #[] }, .bool false] 25)).at w.heap.size 0 rfl rfl
  have hk1 : ((w.alloc (.cells #[.slice a pages.length c, .slice a' wear.length c', .int .i64 fuse, .string ftorn, .bool dead] 25)).alloc (.cells #[.slice none 0 0, .slice none 0 0, .int .i64 0, .string { data := #[] }, .bool false] 25)).heap[w.heap.size + 1]? = some (.cells #[.slice none 0 0, .slice none 0 0, .int .i64 0, .string { data := #[] }, .bool false] 25) := ((Own.start w).alloc (.cells #[.slice a pages.length c, .slice a' wear.length c', .int .i64 fuse, .string ftorn, .bool dead] 25) |>.alloc (.cells #[.slice none 0 0, .slice none 0 0, .int .i64 0, .string { data := #[] }, .bool false] 25)).at (w.heap.size + 1) 1 rfl rfl
  have hz2 : w.heap.size + 1 < ((w.alloc (.cells #[.slice a pages.length c, .slice a' wear.length c', .int .i64 fuse, .string ftorn, .bool dead] 25)).alloc (.cells #[.slice none 0 0, .slice none 0 0, .int .i64 0, .string { data := #[] }, .bool false] 25)).heap.size := (Array.getElem?_eq_some_iff.1 hk1).1
  have hst := rpage_calls _ _ page _ (hall.ups hu2) hf
  have he : rotF (⟨pages, wear, fuse, ftorn, dead⟩ : Fl) page at_ s = ((⟨pages, wear, fuse, ftorn, dead⟩ : Fl), 1) := by simp [rotF, standsB, hb]
  rw [he]
  rw [hb] at hst
  clear he hb
  go_enter Try.func21, Try.ntmps21
  go_wp2_with fail
  refine hst.mono ?_
  rintro e w3 ⟨rfl, hb3⟩
  obtain ⟨k0, k1, k2, k3, k4⟩ := block_cells (block_ups hk0 hb3)
  have hzz := block_ups hk1 hb3
  obtain ⟨d0, d1, d2, d3, d4⟩ := block_cells hzz
  have y0 := block_frozen hzz 0
  have y1 := block_frozen hzz 1
  have y2 := block_frozen hzz 2
  have y3 := block_frozen hzz 3
  have y4 := block_frozen hzz 4
  have hu3 := Ups.trans hu2 hb3
  have HA := Lib.hid hall
  clear hall hT hI hst hk0 hk1 hzz hf
  go_wp2_with fail
  refine bodyPost_ret (v := .tuple #[.agg #[.slice a pages.length c, .slice a' wear.length c', .int .i64 fuse, .string ftorn, .bool dead], .int .i64 1]) ?_ rfl ⟨_, rfl, ?_⟩
  · simp [results, Try.results21, go_sem, d0, d1, d2, d3, d4]
  · exact fl_stored hu3 (Nat.le_succ _) (HA.out.ups hu3) (FlOff.mk hrP hrQ) (fun B hB ho => ho) rfl

set_option maxRecDepth 100000 in
set_option maxHeartbeats 4000000 in
theorem rrot_much (pages : List ByteArray) (wear : List Int) (fuse : Int) (ftorn : ByteArray) (dead : Bool) (v : Value) (n : Nat) (at_ : Int) (s : ByteArray) (w : World) (h : FlAt w v (⟨pages, wear, fuse, ftorn, dead⟩ : Fl)) (hf : FlFit (⟨pages, wear, fuse, ftorn, dead⟩ : Fl)) (hb : hasB (⟨pages, wear, fuse, ftorn, dead⟩ : Fl) n = true) (hn : n < pages.length) (h4 : (4 : Int) < s.size) :
    Calls Try.prog 21 #[v, .int .i64 n, .int .i64 at_, .string s] w fun e W' => ∃ v', e = .returned (.tuple #[v', .int .i64 (rotF (⟨pages, wear, fuse, ftorn, dead⟩ : Fl) n at_ s).2]) ∧ FlNew w v W' v' (rotF (⟨pages, wear, fuse, ftorn, dead⟩ : Fl) n at_ s).1 := by
  have hall := h
  obtain ⟨p, q, rfl, hT, hI⟩ := h
  simp only at hT hI
  have hrP : RowOff (w.heap.size + 1) p := hT.off (Nat.le_succ _)
  have hrQ : RowOff (w.heap.size + 1) q := hI.off (Nat.le_succ _)
  have hT0 := hT
  have hI0 := hI
  obtain ⟨a, c, rfl, hp⟩ := hT0
  obtain ⟨a', c', rfl, _⟩ := hI0
  have hu2 : Ups w ((w.alloc (.cells #[.slice a pages.length c, .slice a' wear.length c', .int .i64 fuse, .string ftorn, .bool dead] 25)).alloc (.cells #[.slice none 0 0, .slice none 0 0, .int .i64 0, .string { data := #[] }, .bool false] 25)) := ((Own.start w).alloc (.cells #[.slice a pages.length c, .slice a' wear.length c', .int .i64 fuse, .string ftorn, .bool dead] 25) |>.alloc (.cells #[.slice none 0 0, .slice none 0 0, .int .i64 0, .string { data := #[] }, .bool false] 25)).bel
  have hk0 : ((w.alloc (.cells #[.slice a pages.length c, .slice a' wear.length c', .int .i64 fuse, .string ftorn, .bool dead] 25)).alloc (.cells #[.slice none 0 0, .slice none 0 0, .int .i64 0, .string { data := #[] }, .bool false] 25)).heap[w.heap.size]? = some (.cells #[.slice a pages.length c, .slice a' wear.length c', .int .i64 fuse, .string ftorn, .bool dead] 25) := ((Own.start w).alloc (.cells #[.slice a pages.length c, .slice a' wear.length c', .int .i64 fuse, .string ftorn, .bool dead] 25) |>.alloc (.cells #[.slice none 0 0, .slice none 0 0, .int .i64 0, .string { data := #[] }, .bool false] 25)).at w.heap.size 0 rfl rfl
  have hk1 : ((w.alloc (.cells #[.slice a pages.length c, .slice a' wear.length c', .int .i64 fuse, .string ftorn, .bool dead] 25)).alloc (.cells #[.slice none 0 0, .slice none 0 0, .int .i64 0, .string { data := #[] }, .bool false] 25)).heap[w.heap.size + 1]? = some (.cells #[.slice none 0 0, .slice none 0 0, .int .i64 0, .string { data := #[] }, .bool false] 25) := ((Own.start w).alloc (.cells #[.slice a pages.length c, .slice a' wear.length c', .int .i64 fuse, .string ftorn, .bool dead] 25) |>.alloc (.cells #[.slice none 0 0, .slice none 0 0, .int .i64 0, .string { data := #[] }, .bool false] 25)).at (w.heap.size + 1) 1 rfl rfl
  have hz2 : w.heap.size + 1 < ((w.alloc (.cells #[.slice a pages.length c, .slice a' wear.length c', .int .i64 fuse, .string ftorn, .bool dead] 25)).alloc (.cells #[.slice none 0 0, .slice none 0 0, .int .i64 0, .string { data := #[] }, .bool false] 25)).heap.size := (Array.getElem?_eq_some_iff.1 hk1).1
  have hst := rpage_calls _ _ n _ (hall.ups hu2) hf
  rw [hb] at hst
  have hck := (has_facts hb).1
  obtain ⟨b, off, rfl, hp'⟩ := hp (by omega)
  obtain ⟨c1, c2, c3, c4, c5, c6⟩ := check_facts hck
  simp only at c1 c2 c3 c4 c5
  have sn := old_size hck hn
  have s0 := old_size hck (n := 0) c1
  have sn1 := sn.2.1
  have sm : (maskOf (⟨pages, wear, fuse, ftorn, dead⟩ : Fl)).size ≤ 8192 := by rw [maskOf, maskT_size]; omega
  have s01 := s0.2.1
  have hip : (n : Int) < pages.length := by omega
  have hb1 : pages.length ≤ 1000 := by omega
  have hc0' : w.cell? ⟨b, off + n, none⟩ = some (.string (oldT (⟨pages, wear, fuse, ftorn, dead⟩ : Fl) n)) := hp' n hn
  have hwn : n < wear.length := by omega
  have hw6 : wear.length ≤ 1000 := by omega
  have hwz : wear.getD n 0 ∈ wear := by rw [List.getD_eq_getElem?_getD, List.getElem?_eq_getElem hwn]; exact List.getElem_mem _
  have hw1 := (c5 _ hwz).1
  have hw2 := (c5 _ hwz).2
  have hmk : ∀ W, Ups w W → Calls Try.prog 39 #[.agg #[.slice (some ⟨b, off, none⟩) pages.length c, .slice a' wear.length c', .int .i64 fuse, .string ftorn, .bool dead]] W fun e W' => e = .returned (.string (maskOf (⟨pages, wear, fuse, ftorn, dead⟩ : Fl))) ∧ Ups W W' := fun W hU => rmask_calls (⟨pages, wear, fuse, ftorn, dead⟩ : Fl) _ W (hall.ups hU) (oldT (⟨pages, wear, fuse, ftorn, dead⟩ : Fl) 0) c1 rfl (by simp only; omega) s01 c4
  have he : rotF (⟨pages, wear, fuse, ftorn, dead⟩ : Fl) n at_ s = ((⟨pages, wear, fuse, ftorn, dead⟩ : Fl), 1) := by
    have : ¬ s.size ≤ 4 := by omega
    simp [rotF, this]
  rw [he]
  generalize oldT (⟨pages, wear, fuse, ftorn, dead⟩ : Fl) n = old at *
  clear he hb c3 c5 c6 hp hp' s0 sn hwz hck hmk
  go_enter Try.func21, Try.ntmps21
  go_wp2_with fail
  refine hst.mono ?_
  rintro e w3 ⟨rfl, hb3⟩
  have hu3 := Ups.trans hu2 hb3
  have hk03 := block_ups hk0 hb3
  have hzz3 := block_ups hk1 hb3
  have hz3 : w.heap.size + 1 < w3.heap.size := Nat.lt_of_lt_of_le hz2 hb3.size
  have hcells := fun W (hU : Ups (World.drew w3) W) => block_cells (block_ups hk03 (drew_ups hU))
  have hc0 := fun W (hU : Ups (World.drew w3) W) => (hcells W hU).1
  have hcold := fun W (hU : Ups (World.drew w3) W) => cell_ups (Ups.trans hu3 (drew_ups hU)) hc0'
  have hfl := fun W (hU : Ups (World.drew w3) W) => hall.ups (Ups.trans hu3 (drew_ups hU))
  have hsize := fun W (hU : Ups (World.drew w3) W) => Nat.lt_of_lt_of_le hz3 (drew_ups hU).size
  obtain ⟨k0, k1, k2, k3, k4⟩ := block_cells hk03
  have hcc := cell_ups hu3 hc0'
  have HA := Lib.hid hall
  clear hT hI hst hk0 hk1 hk03
  have hzz := hzz3
  obtain ⟨d0, d1, d2, d3, d4⟩ := block_cells hzz
  have y0 := block_frozen hzz 0
  have y1 := block_frozen hzz 1
  have y2 := block_frozen hzz 2
  have y3 := block_frozen hzz 3
  have y4 := block_frozen hzz 4
  clear hcells hc0 hcold hfl hsize hall hzz3 hzz
  go_wp2_with fail
  refine bodyPost_ret (v := .tuple #[.agg #[.slice (some ⟨b, off, none⟩) pages.length c, .slice a' wear.length c', .int .i64 fuse, .string ftorn, .bool dead], .int .i64 1]) ?_ rfl ⟨_, rfl, ?_⟩
  · simp [results, Try.results21, go_sem, d0, d1, d2, d3, d4]
  · exact fl_stored hu3 (Nat.le_succ _) (HA.out.ups hu3) (FlOff.mk hrP hrQ) (fun B hB ho => ho) rfl

set_option maxRecDepth 100000 in
set_option maxHeartbeats 4000000 in
theorem rrot_low (pages : List ByteArray) (wear : List Int) (fuse : Int) (ftorn : ByteArray) (dead : Bool) (v : Value) (n : Nat) (at_ : Int) (s : ByteArray) (w : World) (h : FlAt w v (⟨pages, wear, fuse, ftorn, dead⟩ : Fl)) (hf : FlFit (⟨pages, wear, fuse, ftorn, dead⟩ : Fl)) (hb : hasB (⟨pages, wear, fuse, ftorn, dead⟩ : Fl) n = true) (hn : n < pages.length) (h4 : ¬ (4 : Int) < s.size) (h1 : at_ < 0) :
    Calls Try.prog 21 #[v, .int .i64 n, .int .i64 at_, .string s] w fun e W' => ∃ v', e = .returned (.tuple #[v', .int .i64 (rotF (⟨pages, wear, fuse, ftorn, dead⟩ : Fl) n at_ s).2]) ∧ FlNew w v W' v' (rotF (⟨pages, wear, fuse, ftorn, dead⟩ : Fl) n at_ s).1 := by
  have hall := h
  obtain ⟨p, q, rfl, hT, hI⟩ := h
  simp only at hT hI
  have hrP : RowOff (w.heap.size + 1) p := hT.off (Nat.le_succ _)
  have hrQ : RowOff (w.heap.size + 1) q := hI.off (Nat.le_succ _)
  have hT0 := hT
  have hI0 := hI
  obtain ⟨a, c, rfl, hp⟩ := hT0
  obtain ⟨a', c', rfl, _⟩ := hI0
  have hu2 : Ups w ((w.alloc (.cells #[.slice a pages.length c, .slice a' wear.length c', .int .i64 fuse, .string ftorn, .bool dead] 25)).alloc (.cells #[.slice none 0 0, .slice none 0 0, .int .i64 0, .string { data := #[] }, .bool false] 25)) := ((Own.start w).alloc (.cells #[.slice a pages.length c, .slice a' wear.length c', .int .i64 fuse, .string ftorn, .bool dead] 25) |>.alloc (.cells #[.slice none 0 0, .slice none 0 0, .int .i64 0, .string { data := #[] }, .bool false] 25)).bel
  have hk0 : ((w.alloc (.cells #[.slice a pages.length c, .slice a' wear.length c', .int .i64 fuse, .string ftorn, .bool dead] 25)).alloc (.cells #[.slice none 0 0, .slice none 0 0, .int .i64 0, .string { data := #[] }, .bool false] 25)).heap[w.heap.size]? = some (.cells #[.slice a pages.length c, .slice a' wear.length c', .int .i64 fuse, .string ftorn, .bool dead] 25) := ((Own.start w).alloc (.cells #[.slice a pages.length c, .slice a' wear.length c', .int .i64 fuse, .string ftorn, .bool dead] 25) |>.alloc (.cells #[.slice none 0 0, .slice none 0 0, .int .i64 0, .string { data := #[] }, .bool false] 25)).at w.heap.size 0 rfl rfl
  have hk1 : ((w.alloc (.cells #[.slice a pages.length c, .slice a' wear.length c', .int .i64 fuse, .string ftorn, .bool dead] 25)).alloc (.cells #[.slice none 0 0, .slice none 0 0, .int .i64 0, .string { data := #[] }, .bool false] 25)).heap[w.heap.size + 1]? = some (.cells #[.slice none 0 0, .slice none 0 0, .int .i64 0, .string { data := #[] }, .bool false] 25) := ((Own.start w).alloc (.cells #[.slice a pages.length c, .slice a' wear.length c', .int .i64 fuse, .string ftorn, .bool dead] 25) |>.alloc (.cells #[.slice none 0 0, .slice none 0 0, .int .i64 0, .string { data := #[] }, .bool false] 25)).at (w.heap.size + 1) 1 rfl rfl
  have hz2 : w.heap.size + 1 < ((w.alloc (.cells #[.slice a pages.length c, .slice a' wear.length c', .int .i64 fuse, .string ftorn, .bool dead] 25)).alloc (.cells #[.slice none 0 0, .slice none 0 0, .int .i64 0, .string { data := #[] }, .bool false] 25)).heap.size := (Array.getElem?_eq_some_iff.1 hk1).1
  have hst := rpage_calls _ _ n _ (hall.ups hu2) hf
  rw [hb] at hst
  have hck := (has_facts hb).1
  obtain ⟨b, off, rfl, hp'⟩ := hp (by omega)
  obtain ⟨c1, c2, c3, c4, c5, c6⟩ := check_facts hck
  simp only at c1 c2 c3 c4 c5
  have sn := old_size hck hn
  have s0 := old_size hck (n := 0) c1
  have sn1 := sn.2.1
  have sm : (maskOf (⟨pages, wear, fuse, ftorn, dead⟩ : Fl)).size ≤ 8192 := by rw [maskOf, maskT_size]; omega
  have s01 := s0.2.1
  have hip : (n : Int) < pages.length := by omega
  have hb1 : pages.length ≤ 1000 := by omega
  have hc0' : w.cell? ⟨b, off + n, none⟩ = some (.string (oldT (⟨pages, wear, fuse, ftorn, dead⟩ : Fl) n)) := hp' n hn
  have hwn : n < wear.length := by omega
  have hw6 : wear.length ≤ 1000 := by omega
  have hwz : wear.getD n 0 ∈ wear := by rw [List.getD_eq_getElem?_getD, List.getElem?_eq_getElem hwn]; exact List.getElem_mem _
  have hw1 := (c5 _ hwz).1
  have hw2 := (c5 _ hwz).2
  have hmk : ∀ W, Ups w W → Calls Try.prog 39 #[.agg #[.slice (some ⟨b, off, none⟩) pages.length c, .slice a' wear.length c', .int .i64 fuse, .string ftorn, .bool dead]] W fun e W' => e = .returned (.string (maskOf (⟨pages, wear, fuse, ftorn, dead⟩ : Fl))) ∧ Ups W W' := fun W hU => rmask_calls (⟨pages, wear, fuse, ftorn, dead⟩ : Fl) _ W (hall.ups hU) (oldT (⟨pages, wear, fuse, ftorn, dead⟩ : Fl) 0) c1 rfl (by simp only; omega) s01 c4
  have he : rotF (⟨pages, wear, fuse, ftorn, dead⟩ : Fl) n at_ s = ((⟨pages, wear, fuse, ftorn, dead⟩ : Fl), 1) := by
    have : standsB (⟨pages, wear, fuse, ftorn, dead⟩ : Fl) n at_ s.size = false := by
      simp only [standsB, hb, Bool.true_and, Int.toNat_natCast]
      simp
      try omega
    simp [rotF, this]
  rw [he]
  generalize oldT (⟨pages, wear, fuse, ftorn, dead⟩ : Fl) n = old at *
  clear he hb c3 c5 c6 hp hp' s0 sn hwz hck hmk
  go_enter Try.func21, Try.ntmps21
  go_wp2_with fail
  refine hst.mono ?_
  rintro e w3 ⟨rfl, hb3⟩
  have hu3 := Ups.trans hu2 hb3
  have hk03 := block_ups hk0 hb3
  have hzz3 := block_ups hk1 hb3
  have hz3 : w.heap.size + 1 < w3.heap.size := Nat.lt_of_lt_of_le hz2 hb3.size
  have hcells := fun W (hU : Ups (World.drew w3) W) => block_cells (block_ups hk03 (drew_ups hU))
  have hc0 := fun W (hU : Ups (World.drew w3) W) => (hcells W hU).1
  have hcold := fun W (hU : Ups (World.drew w3) W) => cell_ups (Ups.trans hu3 (drew_ups hU)) hc0'
  have hfl := fun W (hU : Ups (World.drew w3) W) => hall.ups (Ups.trans hu3 (drew_ups hU))
  have hsize := fun W (hU : Ups (World.drew w3) W) => Nat.lt_of_lt_of_le hz3 (drew_ups hU).size
  obtain ⟨k0, k1, k2, k3, k4⟩ := block_cells hk03
  have hcc := cell_ups hu3 hc0'
  have HA := Lib.hid hall
  clear hT hI hst hk0 hk1 hk03
  have hzz := hzz3
  obtain ⟨d0, d1, d2, d3, d4⟩ := block_cells hzz
  have y0 := block_frozen hzz 0
  have y1 := block_frozen hzz 1
  have y2 := block_frozen hzz 2
  have y3 := block_frozen hzz 3
  have y4 := block_frozen hzz 4
  clear hcells hc0 hcold hfl hsize hall hzz3 hzz
  go_wp2_with fail
  refine bodyPost_ret (v := .tuple #[.agg #[.slice (some ⟨b, off, none⟩) pages.length c, .slice a' wear.length c', .int .i64 fuse, .string ftorn, .bool dead], .int .i64 1]) ?_ rfl ⟨_, rfl, ?_⟩
  · simp [results, Try.results21, go_sem, d0, d1, d2, d3, d4]
  · exact fl_stored hu3 (Nat.le_succ _) (HA.out.ups hu3) (FlOff.mk hrP hrQ) (fun B hB ho => ho) rfl

set_option maxRecDepth 100000 in
set_option maxHeartbeats 4000000 in
theorem rrot_high (pages : List ByteArray) (wear : List Int) (fuse : Int) (ftorn : ByteArray) (dead : Bool) (v : Value) (n : Nat) (at_ : Int) (s : ByteArray) (w : World) (h : FlAt w v (⟨pages, wear, fuse, ftorn, dead⟩ : Fl)) (hf : FlFit (⟨pages, wear, fuse, ftorn, dead⟩ : Fl)) (hb : hasB (⟨pages, wear, fuse, ftorn, dead⟩ : Fl) n = true) (hn : n < pages.length) (h4 : ¬ (4 : Int) < s.size) (h1 : ¬ at_ < 0) (h2 : ((oldT (⟨pages, wear, fuse, ftorn, dead⟩ : Fl) n).size : Int) < at_) :
    Calls Try.prog 21 #[v, .int .i64 n, .int .i64 at_, .string s] w fun e W' => ∃ v', e = .returned (.tuple #[v', .int .i64 (rotF (⟨pages, wear, fuse, ftorn, dead⟩ : Fl) n at_ s).2]) ∧ FlNew w v W' v' (rotF (⟨pages, wear, fuse, ftorn, dead⟩ : Fl) n at_ s).1 := by
  have hall := h
  obtain ⟨p, q, rfl, hT, hI⟩ := h
  simp only at hT hI
  have hrP : RowOff (w.heap.size + 1) p := hT.off (Nat.le_succ _)
  have hrQ : RowOff (w.heap.size + 1) q := hI.off (Nat.le_succ _)
  have hT0 := hT
  have hI0 := hI
  obtain ⟨a, c, rfl, hp⟩ := hT0
  obtain ⟨a', c', rfl, _⟩ := hI0
  have hu2 : Ups w ((w.alloc (.cells #[.slice a pages.length c, .slice a' wear.length c', .int .i64 fuse, .string ftorn, .bool dead] 25)).alloc (.cells #[.slice none 0 0, .slice none 0 0, .int .i64 0, .string { data := #[] }, .bool false] 25)) := ((Own.start w).alloc (.cells #[.slice a pages.length c, .slice a' wear.length c', .int .i64 fuse, .string ftorn, .bool dead] 25) |>.alloc (.cells #[.slice none 0 0, .slice none 0 0, .int .i64 0, .string { data := #[] }, .bool false] 25)).bel
  have hk0 : ((w.alloc (.cells #[.slice a pages.length c, .slice a' wear.length c', .int .i64 fuse, .string ftorn, .bool dead] 25)).alloc (.cells #[.slice none 0 0, .slice none 0 0, .int .i64 0, .string { data := #[] }, .bool false] 25)).heap[w.heap.size]? = some (.cells #[.slice a pages.length c, .slice a' wear.length c', .int .i64 fuse, .string ftorn, .bool dead] 25) := ((Own.start w).alloc (.cells #[.slice a pages.length c, .slice a' wear.length c', .int .i64 fuse, .string ftorn, .bool dead] 25) |>.alloc (.cells #[.slice none 0 0, .slice none 0 0, .int .i64 0, .string { data := #[] }, .bool false] 25)).at w.heap.size 0 rfl rfl
  have hk1 : ((w.alloc (.cells #[.slice a pages.length c, .slice a' wear.length c', .int .i64 fuse, .string ftorn, .bool dead] 25)).alloc (.cells #[.slice none 0 0, .slice none 0 0, .int .i64 0, .string { data := #[] }, .bool false] 25)).heap[w.heap.size + 1]? = some (.cells #[.slice none 0 0, .slice none 0 0, .int .i64 0, .string { data := #[] }, .bool false] 25) := ((Own.start w).alloc (.cells #[.slice a pages.length c, .slice a' wear.length c', .int .i64 fuse, .string ftorn, .bool dead] 25) |>.alloc (.cells #[.slice none 0 0, .slice none 0 0, .int .i64 0, .string { data := #[] }, .bool false] 25)).at (w.heap.size + 1) 1 rfl rfl
  have hz2 : w.heap.size + 1 < ((w.alloc (.cells #[.slice a pages.length c, .slice a' wear.length c', .int .i64 fuse, .string ftorn, .bool dead] 25)).alloc (.cells #[.slice none 0 0, .slice none 0 0, .int .i64 0, .string { data := #[] }, .bool false] 25)).heap.size := (Array.getElem?_eq_some_iff.1 hk1).1
  have hst := rpage_calls _ _ n _ (hall.ups hu2) hf
  rw [hb] at hst
  have hck := (has_facts hb).1
  obtain ⟨b, off, rfl, hp'⟩ := hp (by omega)
  obtain ⟨c1, c2, c3, c4, c5, c6⟩ := check_facts hck
  simp only at c1 c2 c3 c4 c5
  have sn := old_size hck hn
  have s0 := old_size hck (n := 0) c1
  have sn1 := sn.2.1
  have sm : (maskOf (⟨pages, wear, fuse, ftorn, dead⟩ : Fl)).size ≤ 8192 := by rw [maskOf, maskT_size]; omega
  have s01 := s0.2.1
  have hip : (n : Int) < pages.length := by omega
  have hb1 : pages.length ≤ 1000 := by omega
  have hc0' : w.cell? ⟨b, off + n, none⟩ = some (.string (oldT (⟨pages, wear, fuse, ftorn, dead⟩ : Fl) n)) := hp' n hn
  have hwn : n < wear.length := by omega
  have hw6 : wear.length ≤ 1000 := by omega
  have hwz : wear.getD n 0 ∈ wear := by rw [List.getD_eq_getElem?_getD, List.getElem?_eq_getElem hwn]; exact List.getElem_mem _
  have hw1 := (c5 _ hwz).1
  have hw2 := (c5 _ hwz).2
  have hmk : ∀ W, Ups w W → Calls Try.prog 39 #[.agg #[.slice (some ⟨b, off, none⟩) pages.length c, .slice a' wear.length c', .int .i64 fuse, .string ftorn, .bool dead]] W fun e W' => e = .returned (.string (maskOf (⟨pages, wear, fuse, ftorn, dead⟩ : Fl))) ∧ Ups W W' := fun W hU => rmask_calls (⟨pages, wear, fuse, ftorn, dead⟩ : Fl) _ W (hall.ups hU) (oldT (⟨pages, wear, fuse, ftorn, dead⟩ : Fl) 0) c1 rfl (by simp only; omega) s01 c4
  have he : rotF (⟨pages, wear, fuse, ftorn, dead⟩ : Fl) n at_ s = ((⟨pages, wear, fuse, ftorn, dead⟩ : Fl), 1) := by
    have : standsB (⟨pages, wear, fuse, ftorn, dead⟩ : Fl) n at_ s.size = false := by
      simp only [standsB, hb, Bool.true_and, Int.toNat_natCast]
      simp
      try omega
    simp [rotF, this]
  rw [he]
  generalize oldT (⟨pages, wear, fuse, ftorn, dead⟩ : Fl) n = old at *
  clear he hb c3 c5 c6 hp hp' s0 sn hwz hck hmk
  go_enter Try.func21, Try.ntmps21
  go_wp2_with fail
  refine hst.mono ?_
  rintro e w3 ⟨rfl, hb3⟩
  have hu3 := Ups.trans hu2 hb3
  have hk03 := block_ups hk0 hb3
  have hzz3 := block_ups hk1 hb3
  have hz3 : w.heap.size + 1 < w3.heap.size := Nat.lt_of_lt_of_le hz2 hb3.size
  have hcells := fun W (hU : Ups (World.drew w3) W) => block_cells (block_ups hk03 (drew_ups hU))
  have hc0 := fun W (hU : Ups (World.drew w3) W) => (hcells W hU).1
  have hcold := fun W (hU : Ups (World.drew w3) W) => cell_ups (Ups.trans hu3 (drew_ups hU)) hc0'
  have hfl := fun W (hU : Ups (World.drew w3) W) => hall.ups (Ups.trans hu3 (drew_ups hU))
  have hsize := fun W (hU : Ups (World.drew w3) W) => Nat.lt_of_lt_of_le hz3 (drew_ups hU).size
  obtain ⟨k0, k1, k2, k3, k4⟩ := block_cells hk03
  have hcc := cell_ups hu3 hc0'
  have HA := Lib.hid hall
  clear hT hI hst hk0 hk1 hk03
  have hzz := hzz3
  obtain ⟨d0, d1, d2, d3, d4⟩ := block_cells hzz
  have y0 := block_frozen hzz 0
  have y1 := block_frozen hzz 1
  have y2 := block_frozen hzz 2
  have y3 := block_frozen hzz 3
  have y4 := block_frozen hzz 4
  clear hcells hc0 hcold hfl hsize hall hzz3 hzz
  go_wp2_with fail
  refine bodyPost_ret (v := .tuple #[.agg #[.slice (some ⟨b, off, none⟩) pages.length c, .slice a' wear.length c', .int .i64 fuse, .string ftorn, .bool dead], .int .i64 1]) ?_ rfl ⟨_, rfl, ?_⟩
  · simp [results, Try.results21, go_sem, d0, d1, d2, d3, d4]
  · exact fl_stored hu3 (Nat.le_succ _) (HA.out.ups hu3) (FlOff.mk hrP hrQ) (fun B hB ho => ho) rfl

set_option maxRecDepth 100000 in
set_option maxHeartbeats 4000000 in
theorem rrot_long (pages : List ByteArray) (wear : List Int) (fuse : Int) (ftorn : ByteArray) (dead : Bool) (v : Value) (n : Nat) (at_ : Int) (s : ByteArray) (w : World) (h : FlAt w v (⟨pages, wear, fuse, ftorn, dead⟩ : Fl)) (hf : FlFit (⟨pages, wear, fuse, ftorn, dead⟩ : Fl)) (hb : hasB (⟨pages, wear, fuse, ftorn, dead⟩ : Fl) n = true) (hn : n < pages.length) (h4 : ¬ (4 : Int) < s.size) (h1 : ¬ at_ < 0) (h2 : ¬ ((oldT (⟨pages, wear, fuse, ftorn, dead⟩ : Fl) n).size : Int) < at_) (h3 : ((oldT (⟨pages, wear, fuse, ftorn, dead⟩ : Fl) n).size : Int) - at_ < s.size) :
    Calls Try.prog 21 #[v, .int .i64 n, .int .i64 at_, .string s] w fun e W' => ∃ v', e = .returned (.tuple #[v', .int .i64 (rotF (⟨pages, wear, fuse, ftorn, dead⟩ : Fl) n at_ s).2]) ∧ FlNew w v W' v' (rotF (⟨pages, wear, fuse, ftorn, dead⟩ : Fl) n at_ s).1 := by
  have hall := h
  obtain ⟨p, q, rfl, hT, hI⟩ := h
  simp only at hT hI
  have hrP : RowOff (w.heap.size + 1) p := hT.off (Nat.le_succ _)
  have hrQ : RowOff (w.heap.size + 1) q := hI.off (Nat.le_succ _)
  have hT0 := hT
  have hI0 := hI
  obtain ⟨a, c, rfl, hp⟩ := hT0
  obtain ⟨a', c', rfl, _⟩ := hI0
  have hu2 : Ups w ((w.alloc (.cells #[.slice a pages.length c, .slice a' wear.length c', .int .i64 fuse, .string ftorn, .bool dead] 25)).alloc (.cells #[.slice none 0 0, .slice none 0 0, .int .i64 0, .string { data := #[] }, .bool false] 25)) := ((Own.start w).alloc (.cells #[.slice a pages.length c, .slice a' wear.length c', .int .i64 fuse, .string ftorn, .bool dead] 25) |>.alloc (.cells #[.slice none 0 0, .slice none 0 0, .int .i64 0, .string { data := #[] }, .bool false] 25)).bel
  have hk0 : ((w.alloc (.cells #[.slice a pages.length c, .slice a' wear.length c', .int .i64 fuse, .string ftorn, .bool dead] 25)).alloc (.cells #[.slice none 0 0, .slice none 0 0, .int .i64 0, .string { data := #[] }, .bool false] 25)).heap[w.heap.size]? = some (.cells #[.slice a pages.length c, .slice a' wear.length c', .int .i64 fuse, .string ftorn, .bool dead] 25) := ((Own.start w).alloc (.cells #[.slice a pages.length c, .slice a' wear.length c', .int .i64 fuse, .string ftorn, .bool dead] 25) |>.alloc (.cells #[.slice none 0 0, .slice none 0 0, .int .i64 0, .string { data := #[] }, .bool false] 25)).at w.heap.size 0 rfl rfl
  have hk1 : ((w.alloc (.cells #[.slice a pages.length c, .slice a' wear.length c', .int .i64 fuse, .string ftorn, .bool dead] 25)).alloc (.cells #[.slice none 0 0, .slice none 0 0, .int .i64 0, .string { data := #[] }, .bool false] 25)).heap[w.heap.size + 1]? = some (.cells #[.slice none 0 0, .slice none 0 0, .int .i64 0, .string { data := #[] }, .bool false] 25) := ((Own.start w).alloc (.cells #[.slice a pages.length c, .slice a' wear.length c', .int .i64 fuse, .string ftorn, .bool dead] 25) |>.alloc (.cells #[.slice none 0 0, .slice none 0 0, .int .i64 0, .string { data := #[] }, .bool false] 25)).at (w.heap.size + 1) 1 rfl rfl
  have hz2 : w.heap.size + 1 < ((w.alloc (.cells #[.slice a pages.length c, .slice a' wear.length c', .int .i64 fuse, .string ftorn, .bool dead] 25)).alloc (.cells #[.slice none 0 0, .slice none 0 0, .int .i64 0, .string { data := #[] }, .bool false] 25)).heap.size := (Array.getElem?_eq_some_iff.1 hk1).1
  have hst := rpage_calls _ _ n _ (hall.ups hu2) hf
  rw [hb] at hst
  have hck := (has_facts hb).1
  obtain ⟨b, off, rfl, hp'⟩ := hp (by omega)
  obtain ⟨c1, c2, c3, c4, c5, c6⟩ := check_facts hck
  simp only at c1 c2 c3 c4 c5
  have sn := old_size hck hn
  have s0 := old_size hck (n := 0) c1
  have sn1 := sn.2.1
  have sm : (maskOf (⟨pages, wear, fuse, ftorn, dead⟩ : Fl)).size ≤ 8192 := by rw [maskOf, maskT_size]; omega
  have s01 := s0.2.1
  have hip : (n : Int) < pages.length := by omega
  have hb1 : pages.length ≤ 1000 := by omega
  have hc0' : w.cell? ⟨b, off + n, none⟩ = some (.string (oldT (⟨pages, wear, fuse, ftorn, dead⟩ : Fl) n)) := hp' n hn
  have hwn : n < wear.length := by omega
  have hw6 : wear.length ≤ 1000 := by omega
  have hwz : wear.getD n 0 ∈ wear := by rw [List.getD_eq_getElem?_getD, List.getElem?_eq_getElem hwn]; exact List.getElem_mem _
  have hw1 := (c5 _ hwz).1
  have hw2 := (c5 _ hwz).2
  have hmk : ∀ W, Ups w W → Calls Try.prog 39 #[.agg #[.slice (some ⟨b, off, none⟩) pages.length c, .slice a' wear.length c', .int .i64 fuse, .string ftorn, .bool dead]] W fun e W' => e = .returned (.string (maskOf (⟨pages, wear, fuse, ftorn, dead⟩ : Fl))) ∧ Ups W W' := fun W hU => rmask_calls (⟨pages, wear, fuse, ftorn, dead⟩ : Fl) _ W (hall.ups hU) (oldT (⟨pages, wear, fuse, ftorn, dead⟩ : Fl) 0) c1 rfl (by simp only; omega) s01 c4
  have he : rotF (⟨pages, wear, fuse, ftorn, dead⟩ : Fl) n at_ s = ((⟨pages, wear, fuse, ftorn, dead⟩ : Fl), 1) := by
    have : standsB (⟨pages, wear, fuse, ftorn, dead⟩ : Fl) n at_ s.size = false := by
      simp only [standsB, hb, Bool.true_and, Int.toNat_natCast]
      simp
      try omega
    simp [rotF, this]
  rw [he]
  have hwr : IntKind.i64.wrap (((oldT (⟨pages, wear, fuse, ftorn, dead⟩ : Fl) n).size : Int) - at_) = (oldT (⟨pages, wear, fuse, ftorn, dead⟩ : Fl) n).size - at_ := (IntWalk.i64_left _).trans (IntWalk.wrap64_in _ ⟨by omega, by omega⟩)
  generalize oldT (⟨pages, wear, fuse, ftorn, dead⟩ : Fl) n = old at *
  clear he hb c3 c5 c6 hp hp' s0 sn hwz hck hmk
  go_enter Try.func21, Try.ntmps21
  go_wp2_with fail
  refine hst.mono ?_
  rintro e w3 ⟨rfl, hb3⟩
  have hu3 := Ups.trans hu2 hb3
  have hk03 := block_ups hk0 hb3
  have hzz3 := block_ups hk1 hb3
  have hz3 : w.heap.size + 1 < w3.heap.size := Nat.lt_of_lt_of_le hz2 hb3.size
  have hcells := fun W (hU : Ups (World.drew w3) W) => block_cells (block_ups hk03 (drew_ups hU))
  have hc0 := fun W (hU : Ups (World.drew w3) W) => (hcells W hU).1
  have hcold := fun W (hU : Ups (World.drew w3) W) => cell_ups (Ups.trans hu3 (drew_ups hU)) hc0'
  have hfl := fun W (hU : Ups (World.drew w3) W) => hall.ups (Ups.trans hu3 (drew_ups hU))
  have hsize := fun W (hU : Ups (World.drew w3) W) => Nat.lt_of_lt_of_le hz3 (drew_ups hU).size
  obtain ⟨k0, k1, k2, k3, k4⟩ := block_cells hk03
  have hcc := cell_ups hu3 hc0'
  have HA := Lib.hid hall
  clear hT hI hst hk0 hk1 hk03
  have hzz := hzz3
  obtain ⟨d0, d1, d2, d3, d4⟩ := block_cells hzz
  have y0 := block_frozen hzz 0
  have y1 := block_frozen hzz 1
  have y2 := block_frozen hzz 2
  have y3 := block_frozen hzz 3
  have y4 := block_frozen hzz 4
  clear hcells hc0 hcold hfl hsize hall hzz3 hzz
  go_wp2_with fail
  refine bodyPost_ret (v := .tuple #[.agg #[.slice (some ⟨b, off, none⟩) pages.length c, .slice a' wear.length c', .int .i64 fuse, .string ftorn, .bool dead], .int .i64 1]) ?_ rfl ⟨_, rfl, ?_⟩
  · simp [results, Try.results21, go_sem, d0, d1, d2, d3, d4]
  · exact fl_stored hu3 (Nat.le_succ _) (HA.out.ups hu3) (FlOff.mk hrP hrQ) (fun B hB ho => ho) rfl

set_option maxRecDepth 100000 in
set_option maxHeartbeats 4000000 in
theorem rrot_live (pages : List ByteArray) (wear : List Int) (fuse : Int) (ftorn : ByteArray) (dead : Bool) (v : Value) (n k : Nat) (s : ByteArray) (w : World) (h : FlAt w v (⟨pages, wear, fuse, ftorn, dead⟩ : Fl)) (hf : FlFit (⟨pages, wear, fuse, ftorn, dead⟩ : Fl)) (hb : hasB (⟨pages, wear, fuse, ftorn, dead⟩ : Fl) n = true) (hn : n < pages.length) (hks : k + s.size ≤ (oldT (⟨pages, wear, fuse, ftorn, dead⟩ : Fl) n).size) (h4 : s.size ≤ 4) :
    Calls Try.prog 21 #[v, .int .i64 n, .int .i64 k, .string s] w fun e W' => ∃ v', e = .returned (.tuple #[v', .int .i64 (rotF (⟨pages, wear, fuse, ftorn, dead⟩ : Fl) n k s).2]) ∧ FlNew w v W' v' (rotF (⟨pages, wear, fuse, ftorn, dead⟩ : Fl) n k s).1 := by
  have hall := h
  obtain ⟨p, q, rfl, hT, hI⟩ := h
  simp only at hT hI
  have hrP : RowOff (w.heap.size + 1) p := hT.off (Nat.le_succ _)
  have hrQ : RowOff (w.heap.size + 1) q := hI.off (Nat.le_succ _)
  have hT0 := hT
  have hI0 := hI
  obtain ⟨a, c, rfl, hp⟩ := hT0
  obtain ⟨a', c', rfl, _⟩ := hI0
  have hu2 : Ups w ((w.alloc (.cells #[.slice a pages.length c, .slice a' wear.length c', .int .i64 fuse, .string ftorn, .bool dead] 25)).alloc (.cells #[.slice none 0 0, .slice none 0 0, .int .i64 0, .string { data := #[] }, .bool false] 25)) := ((Own.start w).alloc (.cells #[.slice a pages.length c, .slice a' wear.length c', .int .i64 fuse, .string ftorn, .bool dead] 25) |>.alloc (.cells #[.slice none 0 0, .slice none 0 0, .int .i64 0, .string { data := #[] }, .bool false] 25)).bel
  have hk0 : ((w.alloc (.cells #[.slice a pages.length c, .slice a' wear.length c', .int .i64 fuse, .string ftorn, .bool dead] 25)).alloc (.cells #[.slice none 0 0, .slice none 0 0, .int .i64 0, .string { data := #[] }, .bool false] 25)).heap[w.heap.size]? = some (.cells #[.slice a pages.length c, .slice a' wear.length c', .int .i64 fuse, .string ftorn, .bool dead] 25) := ((Own.start w).alloc (.cells #[.slice a pages.length c, .slice a' wear.length c', .int .i64 fuse, .string ftorn, .bool dead] 25) |>.alloc (.cells #[.slice none 0 0, .slice none 0 0, .int .i64 0, .string { data := #[] }, .bool false] 25)).at w.heap.size 0 rfl rfl
  have hk1 : ((w.alloc (.cells #[.slice a pages.length c, .slice a' wear.length c', .int .i64 fuse, .string ftorn, .bool dead] 25)).alloc (.cells #[.slice none 0 0, .slice none 0 0, .int .i64 0, .string { data := #[] }, .bool false] 25)).heap[w.heap.size + 1]? = some (.cells #[.slice none 0 0, .slice none 0 0, .int .i64 0, .string { data := #[] }, .bool false] 25) := ((Own.start w).alloc (.cells #[.slice a pages.length c, .slice a' wear.length c', .int .i64 fuse, .string ftorn, .bool dead] 25) |>.alloc (.cells #[.slice none 0 0, .slice none 0 0, .int .i64 0, .string { data := #[] }, .bool false] 25)).at (w.heap.size + 1) 1 rfl rfl
  have hz2 : w.heap.size + 1 < ((w.alloc (.cells #[.slice a pages.length c, .slice a' wear.length c', .int .i64 fuse, .string ftorn, .bool dead] 25)).alloc (.cells #[.slice none 0 0, .slice none 0 0, .int .i64 0, .string { data := #[] }, .bool false] 25)).heap.size := (Array.getElem?_eq_some_iff.1 hk1).1
  have hst := rpage_calls _ _ n _ (hall.ups hu2) hf
  rw [hb] at hst
  have hck := (has_facts hb).1
  obtain ⟨b, off, rfl, hp'⟩ := hp (by omega)
  obtain ⟨c1, c2, c3, c4, c5, c6⟩ := check_facts hck
  simp only at c1 c2 c3 c4 c5
  have sn := old_size hck hn
  have s0 := old_size hck (n := 0) c1
  have sn1 := sn.2.1
  have sm : (maskOf (⟨pages, wear, fuse, ftorn, dead⟩ : Fl)).size ≤ 8192 := by rw [maskOf, maskT_size]; omega
  have s01 := s0.2.1
  have hip : (n : Int) < pages.length := by omega
  have hb1 : pages.length ≤ 1000 := by omega
  have hc0' : w.cell? ⟨b, off + n, none⟩ = some (.string (oldT (⟨pages, wear, fuse, ftorn, dead⟩ : Fl) n)) := hp' n hn
  have hwn : n < wear.length := by omega
  have hw6 : wear.length ≤ 1000 := by omega
  have hwz : wear.getD n 0 ∈ wear := by rw [List.getD_eq_getElem?_getD, List.getElem?_eq_getElem hwn]; exact List.getElem_mem _
  have hw1 := (c5 _ hwz).1
  have hw2 := (c5 _ hwz).2
  have hmk : ∀ W, Ups w W → Calls Try.prog 39 #[.agg #[.slice (some ⟨b, off, none⟩) pages.length c, .slice a' wear.length c', .int .i64 fuse, .string ftorn, .bool dead]] W fun e W' => e = .returned (.string (maskOf (⟨pages, wear, fuse, ftorn, dead⟩ : Fl))) ∧ Ups W W' := fun W hU => rmask_calls (⟨pages, wear, fuse, ftorn, dead⟩ : Fl) _ W (hall.ups hU) (oldT (⟨pages, wear, fuse, ftorn, dead⟩ : Fl) 0) c1 rfl (by simp only; omega) s01 c4
  have hsb : standsB (⟨pages, wear, fuse, ftorn, dead⟩ : Fl) n k s.size = true := by
    simp only [standsB, hb, Bool.true_and, Int.toNat_natCast]
    simp
    omega
  have he : rotF (⟨pages, wear, fuse, ftorn, dead⟩ : Fl) n k s = ((⟨pages.set n (xorT (oldT (⟨pages, wear, fuse, ftorn, dead⟩ : Fl) n) (zerosT k ++ s)), wear, fuse, ftorn, dead⟩ : Fl), 0) := by rw [rotF, hsb]; simp [h4]
  rw [he]
  generalize oldT (⟨pages, wear, fuse, ftorn, dead⟩ : Fl) n = old at *
  clear he hb hsb c3 c5 c6 hp hp' s0 sn hwz hck hmk
  have h4' : ¬ (4 : Int) < s.size := by omega
  have hsz1 : (zerosT k).size + s.size ≤ 8196 := by rw [zerosT_size]; omega
  have tk1 : ¬ (k : Int) < 0 := by omega
  have tk2 : ¬ (old.size : Int) < k := by omega
  have tk3 : ¬ (old.size : Int) - k < s.size := by omega
  have hwr : IntKind.i64.wrap ((old.size : Int) - k) = old.size - k := (IntWalk.i64_left _).trans (IntWalk.wrap64_in _ ⟨by omega, by omega⟩)
  go_enter Try.func21, Try.ntmps21
  go_wp2_with fail
  refine hst.mono ?_
  rintro e w3 ⟨rfl, hb3⟩
  have hu3 := Ups.trans hu2 hb3
  have hk03 := block_ups hk0 hb3
  have hzz3 := block_ups hk1 hb3
  have hz3 : w.heap.size + 1 < w3.heap.size := Nat.lt_of_lt_of_le hz2 hb3.size
  have hcells := fun W (hU : Ups (World.drew w3) W) => block_cells (block_ups hk03 (drew_ups hU))
  have hc0 := fun W (hU : Ups (World.drew w3) W) => (hcells W hU).1
  have hcold := fun W (hU : Ups (World.drew w3) W) => cell_ups (Ups.trans hu3 (drew_ups hU)) hc0'
  have hfl := fun W (hU : Ups (World.drew w3) W) => hall.ups (Ups.trans hu3 (drew_ups hU))
  have hsize := fun W (hU : Ups (World.drew w3) W) => Nat.lt_of_lt_of_le hz3 (drew_ups hU).size
  obtain ⟨k0, k1, k2, k3, k4⟩ := block_cells hk03
  have hcc := cell_ups hu3 hc0'
  have HA := Lib.hid hall
  clear hT hI hst hk0 hk1 hk03
  go_wp2_with fail
  refine wp_region_parts (N := 14) (n := 61) (ks := [isV (.agg #[.slice (some ⟨b, off, none⟩) pages.length c, .slice a' wear.length c', .int .i64 fuse, .string ftorn, .bool dead]), isV (.int .i64 n), isV (.pointer (some ⟨w.heap.size, 0, none⟩)), isV (.slice (some ⟨b, off, none⟩) pages.length c), isV (.int .i64 n), isV (.pointer (some ⟨b, off + n, none⟩)), isV (.string old), isV (.int .i64 k), slV (List.replicate k 0), isV (.string (zerosT k)), isV (.string s), isV (.string (zerosT k ++ s)), isV (.string (xorT old (zerosT k ++ s))), fun v' W' => FlAt W' v' (⟨pages.set n (xorT old (zerosT k ++ s)), wear, fuse, ftorn, dead⟩ : Fl) ∧ ∀ B, B ≤ w.heap.size + 1 → FlOff B (.agg #[.slice (some ⟨b, off, none⟩) pages.length c, .slice a' wear.length c', .int .i64 fuse, .string ftorn, .bool dead]) → FlOff B v']) (by decide +kernel) (by decide +kernel) (by decide +kernel) (by simp) rfl (by decide +kernel) ⟨steady_is _, steady_is _, steady_is _, steady_is _, steady_is _, steady_is _, steady_is _, steady_is _, steady_sl _, steady_is _, steady_is _, steady_is _, steady_is _, fun _ _ _ h hu => ⟨h.1.ups hu, h.2⟩, trivial⟩ ?_ ?_
  · refine And.intro (fun ac W hO hU H => ?_) ?_
    · have h4 : ac.tmps[4]? = some (.pointer (some ⟨w.heap.size, 0, none⟩)) := (hO 4 rfl).trans rfl
      obtain ⟨k0, k1, k2, k3, k4⟩ := hcells W hU
      exact growOp_plain rfl (parts_value (by simp [go_sem, h4, k0, k1, k2, k3, k4]))
    refine And.intro (fun ac W hO hU H => ?_) ?_
    · have h1 : ac.tmps[1]? = some (.int .i64 n) := (hO 1 rfl).trans rfl
      exact growOp_plain rfl (parts_value (by simp [go_sem, h1]))
    refine And.intro (fun ac W hO hU H => ?_) ?_
    · have h4 : ac.tmps[4]? = some (.pointer (some ⟨w.heap.size, 0, none⟩)) := (hO 4 rfl).trans rfl
      exact growOp_plain rfl (parts_value (by simp [go_sem, h4]))
    refine And.intro (fun ac W hO hU H => ?_) ?_
    · have h49 : ac.tmps[49]? = some (.pointer (some ⟨w.heap.size, 0, none⟩)) := isV_get (W := W) (H 2 49 rfl)
      have f0 := hc0 W hU
      exact growOp_plain rfl (parts_value (by simp [go_sem, h49, f0]))
    refine And.intro (fun ac W hO hU H => ?_) ?_
    · have h1 : ac.tmps[1]? = some (.int .i64 n) := (hO 1 rfl).trans rfl
      exact growOp_plain rfl (parts_value (by simp [go_sem, h1]))
    refine And.intro (fun ac W hO hU H => ?_) ?_
    · have h50 : ac.tmps[50]? = some (.slice (some ⟨b, off, none⟩) pages.length c) := isV_get (W := W) (H 3 50 rfl)
      have h51 : ac.tmps[51]? = some (.int .i64 n) := isV_get (W := W) (H 4 51 rfl)
      exact growOp_plain rfl (parts_value (by simp [go_sem, h50, h51, hip]))
    refine And.intro (fun ac W hO hU H => ?_) ?_
    · have h52 : ac.tmps[52]? = some (.pointer (some ⟨b, off + n, none⟩)) := isV_get (W := W) (H 5 52 rfl)
      have f0 := hcold W hU
      exact growOp_plain rfl (parts_value (by simp [go_sem, h52, f0]))
    refine And.intro (fun ac W hO hU H => ?_) ?_
    · have h2 : ac.tmps[2]? = some (.int .i64 k) := (hO 2 rfl).trans rfl
      exact growOp_plain rfl (parts_value (by simp [go_sem, h2]))
    refine And.intro (fun ac W hO hU H => ?_) ?_
    · have h54 : ac.tmps[54]? = some (.int .i64 k) := isV_get (W := W) (H 7 54 rfl)
      exact growOp_plain rfl (parts_make k (by omega) rfl (eval_tmp h54) (eval_tmp h54))
    refine And.intro (fun ac W hO hU H => ?_) ?_
    · obtain ⟨v55, h55, q55⟩ := H 8 55 rfl
      exact growOp_plain rfl (parts_conv h55 q55 rfl)
    refine And.intro (fun ac W hO hU H => ?_) ?_
    · have h3 : ac.tmps[3]? = some (.string s) := (hO 3 rfl).trans rfl
      exact growOp_plain rfl (parts_value (by simp [go_sem, h3]))
    refine And.intro (fun ac W hO hU H => ?_) ?_
    · have h56 : ac.tmps[56]? = some (.string (zerosT k)) := isV_get (W := W) (H 9 56 rfl)
      have h57 : ac.tmps[57]? = some (.string s) := isV_get (W := W) (H 10 57 rfl)
      exact growOp_plain rfl (parts_value (by simp [go_sem, h56, h57]; try omega))
    refine And.intro (fun ac W hO hU H => ?_) ?_
    · have h53 : ac.tmps[53]? = some (.string old) := isV_get (W := W) (H 6 53 rfl)
      have h58 : ac.tmps[58]? = some (.string (zerosT k ++ s)) := isV_get (W := W) (H 11 58 rfl)
      exact growOp_plain rfl (parts_call_is (args := #[.string old, .string (zerosT k ++ s)]) (by simp [go_sem, h53, h58]) (qxor_t _ _ W (by omega)))
    refine And.intro (fun ac W hO hU H => ?_) ?_
    · have h47 : ac.tmps[47]? = some (.agg #[.slice (some ⟨b, off, none⟩) pages.length c, .slice a' wear.length c', .int .i64 fuse, .string ftorn, .bool dead]) := isV_get (W := W) (H 0 47 rfl)
      have h48 : ac.tmps[48]? = some (.int .i64 n) := isV_get (W := W) (H 1 48 rfl)
      have h59 : ac.tmps[59]? = some (.string (xorT old (zerosT k ++ s))) := isV_get (W := W) (H 12 59 rfl)
      exact growOp_plain rfl (parts_call (f := 37) (args := #[.agg #[.slice (some ⟨b, off, none⟩) pages.length c, .slice a' wear.length c', .int .i64 fuse, .string ftorn, .bool dead], .int .i64 n, .string (xorT old (zerosT k ++ s))]) (by simp [go_sem, h47, h48, h59]) (kd_first (hfl W hU) (hsize W hU) (rwith_calls _ _ n _ W (hfl W hU) hn hb1)))
    exact trivial
  · intro W xs hU hks
    obtain ⟨y0, rfl, g0⟩ := holdAll_is hks
    obtain ⟨y1, rfl, g1⟩ := holdAll_is g0
    obtain ⟨y2, rfl, g2⟩ := holdAll_is g1
    obtain ⟨y3, rfl, g3⟩ := holdAll_is g2
    obtain ⟨y4, rfl, g4⟩ := holdAll_is g3
    obtain ⟨y5, rfl, g5⟩ := holdAll_is g4
    obtain ⟨y6, rfl, g6⟩ := holdAll_is g5
    obtain ⟨y7, rfl, g7⟩ := holdAll_is g6
    obtain ⟨v8, y8, rfl, q8, g8⟩ := holdAll_cons g7
    obtain ⟨y9, rfl, g9⟩ := holdAll_is g8
    obtain ⟨y10, rfl, g10⟩ := holdAll_is g9
    obtain ⟨y11, rfl, g11⟩ := holdAll_is g10
    obtain ⟨y12, rfl, g12⟩ := holdAll_is g11
    obtain ⟨v13, y13, rfl, q13, g13⟩ := holdAll_cons g12
    obtain rfl := holdAll_nil g13
    clear hks g0 g1 g2 g3 g4 g5 g6 g7 g8 g9 g10 g11 g12 g13
    simp only [List.take_succ_cons, List.take_zero, List.drop_succ_cons, List.drop_zero, endTmps, List.setIfInBounds_toArray, List.set]
    have hzz := block_ups hzz3 (drew_ups hU)
    obtain ⟨d0, d1, d2, d3, d4⟩ := block_cells hzz
    have y0 := block_frozen hzz 0
    have y1 := block_frozen hzz 1
    have y2 := block_frozen hzz 2
    have y3 := block_frozen hzz 3
    have y4 := block_frozen hzz 4
    have huW := Ups.trans hu3 (drew_ups hU)
    obtain ⟨hread, hoff⟩ := q13
    have HB := Lib.hid hread
    have HO := Lib.hid hoff
    obtain ⟨_, _, rfl, ⟨ap, cp, rfl, _⟩, ⟨aq, cq, rfl, _⟩⟩ := hread
    clear hoff hzz hcells hc0 hcold hfl hsize hall hzz3 hks
    go_wp2_with fail
    refine bodyPost_ret (v := .tuple #[.agg #[.slice ap (pages.set n (xorT old (zerosT k ++ s))).length cp, .slice aq wear.length cq, .int .i64 fuse, .string ftorn, .bool dead], .int .i64 0]) ?_ rfl ⟨_, rfl, ?_⟩
    · simp [results, Try.results21, go_sem, d0, d1, d2, d3, d4]
    · exact fl_stored huW (Nat.le_succ _) HB.out (HO.out _ (Nat.le_refl _) (FlOff.mk hrP hrQ)) (fun B hB ho => HO.out B (by omega) (FlOff.mk ho.fst ho.snd)) (by simp )

theorem rrot_calls (f : Fl) (v : Value) (page at_ : Int) (s : ByteArray) (w : World) (h : FlAt w v f) (hf : FlFit f) (ha : at_ ≤ 9223372036854775807) :
    Calls Try.prog 21 #[v, .int .i64 page, .int .i64 at_, .string s] w fun e W' => ∃ v', e = .returned (.tuple #[v', .int .i64 (rotF f page at_ s).2]) ∧ FlNew w v W' v' (rotF f page at_ s).1 := by
  obtain ⟨pages, wear, fuse, ftorn, dead⟩ := f
  cases hb : hasB (⟨pages, wear, fuse, ftorn, dead⟩ : Fl) page with
  | false => exact rrot_none pages wear fuse ftorn dead v page at_ s w h hf hb
  | true =>
    obtain ⟨hck, n, rfl, hn⟩ := has_facts hb
    by_cases h4 : (4 : Int) < s.size
    · exact rrot_much pages wear fuse ftorn dead v n at_ s w h hf hb hn h4
    by_cases h1 : at_ < 0
    · exact rrot_low pages wear fuse ftorn dead v n at_ s w h hf hb hn h4 h1
    by_cases h2 : ((oldT ⟨pages, wear, fuse, ftorn, dead⟩ n).size : Int) < at_
    · exact rrot_high pages wear fuse ftorn dead v n at_ s w h hf hb hn h4 h1 h2
    by_cases h3 : ((oldT ⟨pages, wear, fuse, ftorn, dead⟩ n).size : Int) - at_ < s.size
    · exact rrot_long pages wear fuse ftorn dead v n at_ s w h hf hb hn h4 h1 h2 h3
    obtain ⟨k, rfl⟩ : ∃ k : Nat, at_ = k := ⟨at_.toNat, by omega⟩
    exact rrot_live pages wear fuse ftorn dead v n k s w h hf hb hn (by omega) (by omega)

theorem free_eq (s : ByteArray) : (s.toList == (onesT s.size).toList) = decide (count s.data.toList = 8 * s.size) := by
  have hc : ∀ l : List UInt8, count l = 8 * l.length ↔ l = List.replicate l.length 255 := by
    intro l
    induction l with
    | nil => simp [count]
    | cons c l ih =>
      have h1 := count_le l
      have h2 : pop c ≤ 8 ∧ (pop c = 8 ↔ c = 255) := by
        have h : ∀ c : Fin 256, pop (UInt8.ofNat c.val) ≤ 8 ∧ (pop (UInt8.ofNat c.val) = 8 ↔ UInt8.ofNat c.val = 255) := by decide +kernel
        have := h ⟨c.toNat, c.toNat_lt⟩
        simpa using this
      have h3 : count (c :: l) = pop c + count l := by simp [count]
      rw [h3, List.length_cons, List.replicate_succ, List.cons.injEq, ← ih, ← h2.2]
      omega
  have := hc s.data.toList
  rw [toList_length] at this
  rw [Bool.eq_iff_iff, beq_iff_eq, decide_eq_true_eq, this, ByteArray.toList_eq, ByteArray.toList_eq, onesT, bs_toList]

set_option maxRecDepth 100000 in
set_option maxHeartbeats 4000000 in
theorem rfree_none (f : Fl) (v : Value) (n : Int) (w : World) (h : FlAt w v f) (hf : FlFit f) (hb : hasB f n = false) :
    Calls Try.prog 23 #[v, .int .i64 n] w fun e W' => e = .returned (.bool false) ∧ Ups w W' := by
  have hall := h
  obtain ⟨pages, wear, fuse, ftorn, dead⟩ := f
  obtain ⟨p, q, rfl, ⟨a, c, rfl, hp⟩, ⟨a', c', rfl, _⟩⟩ := h
  have hu1 : Ups w (w.alloc (.cells #[.slice a pages.length c, .slice a' wear.length c', .int .i64 fuse, .string ftorn, .bool dead] 25)) := (Below.refl _ w).alloc (Nat.le_refl _) _
  have hk0 : (w.alloc (.cells #[.slice a pages.length c, .slice a' wear.length c', .int .i64 fuse, .string ftorn, .bool dead] 25)).heap[w.heap.size]? = some (.cells #[.slice a pages.length c, .slice a' wear.length c', .int .i64 fuse, .string ftorn, .bool dead] 25) := alloc_at w _
  have hcells := fun W (hU : Ups (World.drew (w.alloc (.cells #[.slice a pages.length c, .slice a' wear.length c', .int .i64 fuse, .string ftorn, .bool dead] 25))) W) => block_cells (block_ups hk0 (drew_ups hU))
  have hpg : ∀ W, Ups (World.drew (w.alloc (.cells #[.slice a pages.length c, .slice a' wear.length c', .int .i64 fuse, .string ftorn, .bool dead] 25))) W → Calls Try.prog 35 #[.agg #[.slice a pages.length c, .slice a' wear.length c', .int .i64 fuse, .string ftorn, .bool dead], .int .i64 n] W fun e W' => e = .returned (.bool false) ∧ Ups W W' := by
    intro W hU
    have := rpage_calls _ _ n W (hall.ups (Ups.trans hu1 (drew_ups hU))) hf
    rwa [hb] at this
  clear hp hall
  go_enter Try.func23, Try.ntmps23
  go_wp2_with fail
  refine wp_region_parts (N := 18) (n := 23) (ks := [isV (.agg #[.slice a pages.length c, .slice a' wear.length c', .int .i64 fuse, .string ftorn, .bool dead]), isV (.int .i64 n), isV (.bool false), isV (.bool false), isV (undef), isV (undef), isV (undef), isV (undef), isV (undef), isV (undef), isV (undef), isV (undef), isV (undef), isV (undef), isV (undef), isV (undef), isV (undef), isV (.bool false)]) (by decide +kernel) (by decide +kernel) (by decide +kernel) (by simp) rfl (by decide +kernel) ⟨steady_is _, steady_is _, steady_is _, steady_is _, steady_is _, steady_is _, steady_is _, steady_is _, steady_is _, steady_is _, steady_is _, steady_is _, steady_is _, steady_is _, steady_is _, steady_is _, steady_is _, steady_is _, trivial⟩ ?_ ?_
  · refine And.intro (fun ac W hO hU H => ?_) ?_
    · have h2 : ac.tmps[2]? = some (.pointer (some ⟨w.heap.size, 0, none⟩)) := (hO 2 rfl).trans rfl
      obtain ⟨k0, k1, k2, k3, k4⟩ := hcells W hU
      exact growOp_plain rfl (parts_value (by simp [go_sem, h2, k0, k1, k2, k3, k4]))
    refine And.intro (fun ac W hO hU H => ?_) ?_
    · have h1 : ac.tmps[1]? = some (.int .i64 n) := (hO 1 rfl).trans rfl
      exact growOp_plain rfl (parts_value (by simp [go_sem, h1]))
    refine And.intro (fun ac W hO hU H => ?_) ?_
    · have h5 : ac.tmps[5]? = some (.agg #[.slice a pages.length c, .slice a' wear.length c', .int .i64 fuse, .string ftorn, .bool dead]) := isV_get (W := W) (H 0 5 rfl)
      have h6 : ac.tmps[6]? = some (.int .i64 n) := isV_get (W := W) (H 1 6 rfl)
      exact growOp_plain rfl (parts_call_is (args := #[.agg #[.slice a pages.length c, .slice a' wear.length c', .int .i64 fuse, .string ftorn, .bool dead], .int .i64 n]) (by simp [go_sem, h5, h6]) (hpg W hU))
    refine And.intro (fun ac W hO hU H => ?_) ?_
    · have h7 : ac.tmps[7]? = some (.bool false) := isV_get (W := W) (H 2 7 rfl)
      exact growOp_plain rfl (parts_value (by simp [go_sem, h7]))
    refine And.intro (fun ac W hO hU H => ?_) ?_
    · have hg : ac.tmps[8]? = some (.bool false) := isV_get (W := W) (H 3 8 rfl)
      exact growOp_left rfl rfl hg Ups.refl rfl
    refine And.intro (fun ac W hO hU H => ?_) ?_
    · have hg : ac.tmps[8]? = some (.bool false) := isV_get (W := W) (H 3 8 rfl)
      exact growOp_left rfl rfl hg Ups.refl rfl
    refine And.intro (fun ac W hO hU H => ?_) ?_
    · have hg : ac.tmps[8]? = some (.bool false) := isV_get (W := W) (H 3 8 rfl)
      exact growOp_left rfl rfl hg Ups.refl rfl
    refine And.intro (fun ac W hO hU H => ?_) ?_
    · have hg : ac.tmps[8]? = some (.bool false) := isV_get (W := W) (H 3 8 rfl)
      exact growOp_left rfl rfl hg Ups.refl rfl
    refine And.intro (fun ac W hO hU H => ?_) ?_
    · have hg : ac.tmps[8]? = some (.bool false) := isV_get (W := W) (H 3 8 rfl)
      exact growOp_left rfl rfl hg Ups.refl rfl
    refine And.intro (fun ac W hO hU H => ?_) ?_
    · have hg : ac.tmps[8]? = some (.bool false) := isV_get (W := W) (H 3 8 rfl)
      exact growOp_left rfl rfl hg Ups.refl rfl
    refine And.intro (fun ac W hO hU H => ?_) ?_
    · have hg : ac.tmps[8]? = some (.bool false) := isV_get (W := W) (H 3 8 rfl)
      exact growOp_left rfl rfl hg Ups.refl rfl
    refine And.intro (fun ac W hO hU H => ?_) ?_
    · have hg : ac.tmps[8]? = some (.bool false) := isV_get (W := W) (H 3 8 rfl)
      exact growOp_left rfl rfl hg Ups.refl rfl
    refine And.intro (fun ac W hO hU H => ?_) ?_
    · have hg : ac.tmps[8]? = some (.bool false) := isV_get (W := W) (H 3 8 rfl)
      exact growOp_left rfl rfl hg Ups.refl rfl
    refine And.intro (fun ac W hO hU H => ?_) ?_
    · have hg : ac.tmps[8]? = some (.bool false) := isV_get (W := W) (H 3 8 rfl)
      exact growOp_left rfl rfl hg Ups.refl rfl
    refine And.intro (fun ac W hO hU H => ?_) ?_
    · have hg : ac.tmps[8]? = some (.bool false) := isV_get (W := W) (H 3 8 rfl)
      exact growOp_left rfl rfl hg Ups.refl rfl
    refine And.intro (fun ac W hO hU H => ?_) ?_
    · have hg : ac.tmps[8]? = some (.bool false) := isV_get (W := W) (H 3 8 rfl)
      exact growOp_left rfl rfl hg Ups.refl rfl
    refine And.intro (fun ac W hO hU H => ?_) ?_
    · have hg : ac.tmps[8]? = some (.bool false) := isV_get (W := W) (H 3 8 rfl)
      exact growOp_left rfl rfl hg Ups.refl rfl
    refine And.intro (fun ac W hO hU H => ?_) ?_
    · have h8 : ac.tmps[8]? = some (.bool false) := isV_get (W := W) (H 3 8 rfl)
      have h21 : ac.tmps[21]? = some (undef) := isV_get (W := W) (H 16 21 rfl)
      exact growOp_plain rfl (parts_value (by simp [go_sem, h8, h21]))
    exact trivial
  · intro W xs hU hks
    obtain ⟨y0, rfl, g0⟩ := holdAll_is hks
    obtain ⟨y1, rfl, g1⟩ := holdAll_is g0
    obtain ⟨y2, rfl, g2⟩ := holdAll_is g1
    obtain ⟨y3, rfl, g3⟩ := holdAll_is g2
    obtain ⟨y4, rfl, g4⟩ := holdAll_is g3
    obtain ⟨y5, rfl, g5⟩ := holdAll_is g4
    obtain ⟨y6, rfl, g6⟩ := holdAll_is g5
    obtain ⟨y7, rfl, g7⟩ := holdAll_is g6
    obtain ⟨y8, rfl, g8⟩ := holdAll_is g7
    obtain ⟨y9, rfl, g9⟩ := holdAll_is g8
    obtain ⟨y10, rfl, g10⟩ := holdAll_is g9
    obtain ⟨y11, rfl, g11⟩ := holdAll_is g10
    obtain ⟨y12, rfl, g12⟩ := holdAll_is g11
    obtain ⟨y13, rfl, g13⟩ := holdAll_is g12
    obtain ⟨y14, rfl, g14⟩ := holdAll_is g13
    obtain ⟨y15, rfl, g15⟩ := holdAll_is g14
    obtain ⟨y16, rfl, g16⟩ := holdAll_is g15
    obtain ⟨y17, rfl, g17⟩ := holdAll_is g16
    obtain rfl := holdAll_nil g17
    clear hks g0 g1 g2 g3 g4 g5 g6 g7 g8 g9 g10 g11 g12 g13 g14 g15 g16 g17
    simp only [List.take_succ_cons, List.take_zero, List.drop_succ_cons, List.drop_zero, endTmps, List.setIfInBounds_toArray, List.set]
    go_wp2_with fail
    go_ret
    exact ⟨rfl, Ups.trans hu1 (drew_ups hU)⟩

set_option maxRecDepth 100000 in
set_option maxHeartbeats 4000000 in
theorem rfree_some (f : Fl) (v : Value) (n : Nat) (w : World) (h : FlAt w v f) (hf : FlFit f) (hb : hasB f n = true) (hn : n < f.pages.length) :
    Calls Try.prog 23 #[v, .int .i64 n] w fun e W' => e = .returned (.bool (decide (count (oldT f n).data.toList = 8 * (oldT f n).size))) ∧ Ups w W' := by
  have hall := h
  have hso := (old_size (has_facts hb).1 hn).2.1
  obtain ⟨pages, wear, fuse, ftorn, dead⟩ := f
  obtain ⟨p, q, rfl, ⟨a, c, rfl, hp⟩, ⟨a', c', rfl, _⟩⟩ := h
  simp only at hn
  obtain ⟨b, off, rfl, hp'⟩ := hp (Nat.lt_of_le_of_lt (Nat.zero_le _) hn)
  have hu1 : Ups w (w.alloc (.cells #[.slice (some ⟨b, off, none⟩) pages.length c, .slice a' wear.length c', .int .i64 fuse, .string ftorn, .bool dead] 25)) := (Below.refl _ w).alloc (Nat.le_refl _) _
  have hk0 : (w.alloc (.cells #[.slice (some ⟨b, off, none⟩) pages.length c, .slice a' wear.length c', .int .i64 fuse, .string ftorn, .bool dead] 25)).heap[w.heap.size]? = some (.cells #[.slice (some ⟨b, off, none⟩) pages.length c, .slice a' wear.length c', .int .i64 fuse, .string ftorn, .bool dead] 25) := alloc_at w _
  have hcells := fun W (hU : Ups (World.drew (w.alloc (.cells #[.slice (some ⟨b, off, none⟩) pages.length c, .slice a' wear.length c', .int .i64 fuse, .string ftorn, .bool dead] 25))) W) => block_cells (block_ups hk0 (drew_ups hU))
  have hc0 := fun W (hU : Ups (World.drew (w.alloc (.cells #[.slice (some ⟨b, off, none⟩) pages.length c, .slice a' wear.length c', .int .i64 fuse, .string ftorn, .bool dead] 25))) W) => (hcells W hU).1
  have hcold : ∀ W, Ups (World.drew (w.alloc (.cells #[.slice (some ⟨b, off, none⟩) pages.length c, .slice a' wear.length c', .int .i64 fuse, .string ftorn, .bool dead] 25))) W → W.cell? ⟨b, off + n, none⟩ = some (.string (oldT ⟨pages, wear, fuse, ftorn, dead⟩ n)) := fun W hU => cell_ups (Ups.trans hu1 (drew_ups hU)) (hp' n hn)
  have hip : (n : Int) < pages.length := by omega
  have hpg : ∀ W, Ups (World.drew (w.alloc (.cells #[.slice (some ⟨b, off, none⟩) pages.length c, .slice a' wear.length c', .int .i64 fuse, .string ftorn, .bool dead] 25))) W → Calls Try.prog 35 #[.agg #[.slice (some ⟨b, off, none⟩) pages.length c, .slice a' wear.length c', .int .i64 fuse, .string ftorn, .bool dead], .int .i64 n] W fun e W' => e = .returned (.bool true) ∧ Ups W W' := by
    intro W hU
    have := rpage_calls _ _ n W (hall.ups (Ups.trans hu1 (drew_ups hU))) hf
    rwa [hb] at this
  have hfe := free_eq (oldT ⟨pages, wear, fuse, ftorn, dead⟩ n)
  rw [← hfe]
  generalize oldT ⟨pages, wear, fuse, ftorn, dead⟩ n = old at *
  obtain ⟨bb, hbb⟩ : ∃ bb, (old.toList == (onesT old.size).toList) = bb := ⟨_, rfl⟩
  rw [hbb]
  clear hp hp' hall hfe
  go_enter Try.func23, Try.ntmps23
  go_wp2_with fail
  refine wp_region_parts (N := 18) (n := 23) (ks := [isV (.agg #[.slice (some ⟨b, off, none⟩) pages.length c, .slice a' wear.length c', .int .i64 fuse, .string ftorn, .bool dead]), isV (.int .i64 n), isV (.bool true), isV (.bool true), isV (.pointer (some ⟨w.heap.size, 0, none⟩)), isV (.slice (some ⟨b, off, none⟩) pages.length c), isV (.int .i64 n), isV (.pointer (some ⟨b, off + n, none⟩)), isV (.string old), isV (.pointer (some ⟨w.heap.size, 0, none⟩)), isV (.slice (some ⟨b, off, none⟩) pages.length c), isV (.int .i64 n), isV (.pointer (some ⟨b, off + n, none⟩)), isV (.string old), isV (.int .i64 (old.size : Nat)), isV (.string (onesT old.size)), isV (.bool bb), isV (.bool bb)]) (by decide +kernel) (by decide +kernel) (by decide +kernel) (by simp) rfl (by decide +kernel) ⟨steady_is _, steady_is _, steady_is _, steady_is _, steady_is _, steady_is _, steady_is _, steady_is _, steady_is _, steady_is _, steady_is _, steady_is _, steady_is _, steady_is _, steady_is _, steady_is _, steady_is _, steady_is _, trivial⟩ ?_ ?_
  · refine And.intro (fun ac W hO hU H => ?_) ?_
    · have h2 : ac.tmps[2]? = some (.pointer (some ⟨w.heap.size, 0, none⟩)) := (hO 2 rfl).trans rfl
      obtain ⟨k0, k1, k2, k3, k4⟩ := hcells W hU
      exact growOp_plain rfl (parts_value (by simp [go_sem, h2, k0, k1, k2, k3, k4]))
    refine And.intro (fun ac W hO hU H => ?_) ?_
    · have h1 : ac.tmps[1]? = some (.int .i64 n) := (hO 1 rfl).trans rfl
      exact growOp_plain rfl (parts_value (by simp [go_sem, h1]))
    refine And.intro (fun ac W hO hU H => ?_) ?_
    · have h5 : ac.tmps[5]? = some (.agg #[.slice (some ⟨b, off, none⟩) pages.length c, .slice a' wear.length c', .int .i64 fuse, .string ftorn, .bool dead]) := isV_get (W := W) (H 0 5 rfl)
      have h6 : ac.tmps[6]? = some (.int .i64 n) := isV_get (W := W) (H 1 6 rfl)
      exact growOp_plain rfl (parts_call_is (args := #[.agg #[.slice (some ⟨b, off, none⟩) pages.length c, .slice a' wear.length c', .int .i64 fuse, .string ftorn, .bool dead], .int .i64 n]) (by simp [go_sem, h5, h6]) (hpg W hU))
    refine And.intro (fun ac W hO hU H => ?_) ?_
    · have h7 : ac.tmps[7]? = some (.bool true) := isV_get (W := W) (H 2 7 rfl)
      exact growOp_plain rfl (parts_value (by simp [go_sem, h7]))
    refine And.intro (fun ac W hO hU H => ?_) ?_
    · have h2 : ac.tmps[2]? = some (.pointer (some ⟨w.heap.size, 0, none⟩)) := (hO 2 rfl).trans rfl
      have hg : ac.tmps[8]? = some (.bool true) := isV_get (W := W) (H 3 8 rfl)
      exact growOp_done rfl rfl hg (parts_value (by simp [go_sem, h2]))
    refine And.intro (fun ac W hO hU H => ?_) ?_
    · have h9 : ac.tmps[9]? = some (.pointer (some ⟨w.heap.size, 0, none⟩)) := isV_get (W := W) (H 4 9 rfl)
      have hg : ac.tmps[8]? = some (.bool true) := isV_get (W := W) (H 3 8 rfl)
      have f0 := hc0 W hU
      exact growOp_done rfl rfl hg (parts_value (by simp [go_sem, h9, f0]))
    refine And.intro (fun ac W hO hU H => ?_) ?_
    · have h1 : ac.tmps[1]? = some (.int .i64 n) := (hO 1 rfl).trans rfl
      have hg : ac.tmps[8]? = some (.bool true) := isV_get (W := W) (H 3 8 rfl)
      exact growOp_done rfl rfl hg (parts_value (by simp [go_sem, h1]))
    refine And.intro (fun ac W hO hU H => ?_) ?_
    · have h10 : ac.tmps[10]? = some (.slice (some ⟨b, off, none⟩) pages.length c) := isV_get (W := W) (H 5 10 rfl)
      have h11 : ac.tmps[11]? = some (.int .i64 n) := isV_get (W := W) (H 6 11 rfl)
      have hg : ac.tmps[8]? = some (.bool true) := isV_get (W := W) (H 3 8 rfl)
      exact growOp_done rfl rfl hg (parts_value (by simp [go_sem, h10, h11, hip]))
    refine And.intro (fun ac W hO hU H => ?_) ?_
    · have h12 : ac.tmps[12]? = some (.pointer (some ⟨b, off + n, none⟩)) := isV_get (W := W) (H 7 12 rfl)
      have hg : ac.tmps[8]? = some (.bool true) := isV_get (W := W) (H 3 8 rfl)
      have f0 := hcold W hU
      exact growOp_done rfl rfl hg (parts_value (by simp [go_sem, h12, f0]))
    refine And.intro (fun ac W hO hU H => ?_) ?_
    · have h2 : ac.tmps[2]? = some (.pointer (some ⟨w.heap.size, 0, none⟩)) := (hO 2 rfl).trans rfl
      have hg : ac.tmps[8]? = some (.bool true) := isV_get (W := W) (H 3 8 rfl)
      exact growOp_done rfl rfl hg (parts_value (by simp [go_sem, h2]))
    refine And.intro (fun ac W hO hU H => ?_) ?_
    · have h14 : ac.tmps[14]? = some (.pointer (some ⟨w.heap.size, 0, none⟩)) := isV_get (W := W) (H 9 14 rfl)
      have hg : ac.tmps[8]? = some (.bool true) := isV_get (W := W) (H 3 8 rfl)
      have f0 := hc0 W hU
      exact growOp_done rfl rfl hg (parts_value (by simp [go_sem, h14, f0]))
    refine And.intro (fun ac W hO hU H => ?_) ?_
    · have h1 : ac.tmps[1]? = some (.int .i64 n) := (hO 1 rfl).trans rfl
      have hg : ac.tmps[8]? = some (.bool true) := isV_get (W := W) (H 3 8 rfl)
      exact growOp_done rfl rfl hg (parts_value (by simp [go_sem, h1]))
    refine And.intro (fun ac W hO hU H => ?_) ?_
    · have h15 : ac.tmps[15]? = some (.slice (some ⟨b, off, none⟩) pages.length c) := isV_get (W := W) (H 10 15 rfl)
      have h16 : ac.tmps[16]? = some (.int .i64 n) := isV_get (W := W) (H 11 16 rfl)
      have hg : ac.tmps[8]? = some (.bool true) := isV_get (W := W) (H 3 8 rfl)
      exact growOp_done rfl rfl hg (parts_value (by simp [go_sem, h15, h16, hip]))
    refine And.intro (fun ac W hO hU H => ?_) ?_
    · have h17 : ac.tmps[17]? = some (.pointer (some ⟨b, off + n, none⟩)) := isV_get (W := W) (H 12 17 rfl)
      have hg : ac.tmps[8]? = some (.bool true) := isV_get (W := W) (H 3 8 rfl)
      have f0 := hcold W hU
      exact growOp_done rfl rfl hg (parts_value (by simp [go_sem, h17, f0]))
    refine And.intro (fun ac W hO hU H => ?_) ?_
    · have h18 : ac.tmps[18]? = some (.string old) := isV_get (W := W) (H 13 18 rfl)
      have hg : ac.tmps[8]? = some (.bool true) := isV_get (W := W) (H 3 8 rfl)
      exact growOp_done rfl rfl hg (parts_value (by simp [go_sem, h18]))
    refine And.intro (fun ac W hO hU H => ?_) ?_
    · have h19 : ac.tmps[19]? = some (.int .i64 (old.size : Nat)) := isV_get (W := W) (H 14 19 rfl)
      have hg : ac.tmps[8]? = some (.bool true) := isV_get (W := W) (H 3 8 rfl)
      exact growOp_done rfl rfl hg (parts_call_is (args := #[.int .i64 (old.size : Nat)]) (by simp [go_sem, h19]) (qones_t _ W (by omega)))
    refine And.intro (fun ac W hO hU H => ?_) ?_
    · have h13 : ac.tmps[13]? = some (.string old) := isV_get (W := W) (H 8 13 rfl)
      have h20 : ac.tmps[20]? = some (.string (onesT old.size)) := isV_get (W := W) (H 15 20 rfl)
      have hg : ac.tmps[8]? = some (.bool true) := isV_get (W := W) (H 3 8 rfl)
      exact growOp_done rfl rfl hg (parts_value (by simp [go_sem, h13, h20, hbb]))
    refine And.intro (fun ac W hO hU H => ?_) ?_
    · have h8 : ac.tmps[8]? = some (.bool true) := isV_get (W := W) (H 3 8 rfl)
      have h21 : ac.tmps[21]? = some (.bool bb) := isV_get (W := W) (H 16 21 rfl)
      exact growOp_plain rfl (parts_value (by simp [go_sem, h8, h21]))
    exact trivial
  · intro W xs hU hks
    obtain ⟨y0, rfl, g0⟩ := holdAll_is hks
    obtain ⟨y1, rfl, g1⟩ := holdAll_is g0
    obtain ⟨y2, rfl, g2⟩ := holdAll_is g1
    obtain ⟨y3, rfl, g3⟩ := holdAll_is g2
    obtain ⟨y4, rfl, g4⟩ := holdAll_is g3
    obtain ⟨y5, rfl, g5⟩ := holdAll_is g4
    obtain ⟨y6, rfl, g6⟩ := holdAll_is g5
    obtain ⟨y7, rfl, g7⟩ := holdAll_is g6
    obtain ⟨y8, rfl, g8⟩ := holdAll_is g7
    obtain ⟨y9, rfl, g9⟩ := holdAll_is g8
    obtain ⟨y10, rfl, g10⟩ := holdAll_is g9
    obtain ⟨y11, rfl, g11⟩ := holdAll_is g10
    obtain ⟨y12, rfl, g12⟩ := holdAll_is g11
    obtain ⟨y13, rfl, g13⟩ := holdAll_is g12
    obtain ⟨y14, rfl, g14⟩ := holdAll_is g13
    obtain ⟨y15, rfl, g15⟩ := holdAll_is g14
    obtain ⟨y16, rfl, g16⟩ := holdAll_is g15
    obtain ⟨y17, rfl, g17⟩ := holdAll_is g16
    obtain rfl := holdAll_nil g17
    clear hks g0 g1 g2 g3 g4 g5 g6 g7 g8 g9 g10 g11 g12 g13 g14 g15 g16 g17
    simp only [List.take_succ_cons, List.take_zero, List.drop_succ_cons, List.drop_zero, endTmps, List.setIfInBounds_toArray, List.set]
    go_wp2_with fail
    go_ret
    exact ⟨rfl, Ups.trans hu1 (drew_ups hU)⟩

theorem rfree_calls (f : Fl) (v : Value) (page : Int) (w : World) (h : FlAt w v f) (hf : FlFit f) :
    Calls Try.prog 23 #[v, .int .i64 page] w fun e W' => e = .returned (.bool (freeB f page)) ∧ Ups w W' := by
  cases hb : hasB f page with
  | false =>
    have he : freeB f page = false := by simp [freeB, hb]
    rw [he]
    exact rfree_none f v page w h hf hb
  | true =>
    obtain ⟨hck, n, rfl, hn⟩ := has_facts hb
    have he : freeB f n = decide (count (oldT f n).data.toList = 8 * (oldT f n).size) := by simp [freeB, hb]
    rw [he]
    exact rfree_some f v n w h hf hb hn

end Go.Proofs.Ytjpapjijlbfemaa
