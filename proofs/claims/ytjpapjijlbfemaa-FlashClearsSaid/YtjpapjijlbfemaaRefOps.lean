/- What ouroborosref03's other functions come to. -/
import Derived.Test.YtjpapjijlbfemaaRefMask
import Derived.Test.YtjpapjijlbfemaaRefAnd
import Derived.Test.YtjpapjijlbfemaaRefOr
namespace Go.Proofs.Ytjpapjijlbfemaa
open Go.RowKit

theorem qor_t (a b : ByteArray) (w : World) (ha : a.size ≤ 140737488355328) :
    Calls Try.prog 38 #[.string a, .string b] w fun e w' => e = .returned (.string (orT a b)) ∧ Ups w w' := ref_or a b w ha
theorem qand_t (a b : ByteArray) (w : World) (ha : a.size ≤ 140737488355328) :
    Calls Try.prog 46 #[.string a, .string b] w fun e w' => e = .returned (.string (andT a b)) ∧ Ups w w' := ref_and a b w ha
theorem qxor_t (a b : ByteArray) (w : World) (ha : a.size ≤ 140737488355328) :
    Calls Try.prog 50 #[.string a, .string b] w fun e w' => e = .returned (.string (xorT a b)) ∧ Ups w w' := ref_xor a b w ha
theorem qnot_t (a : ByteArray) (w : World) (ha : a.size ≤ 100000) :
    Calls Try.prog 45 #[.string a] w fun e w' => e = .returned (.string (notT a)) ∧ Ups w w' := ref_not a w ha
theorem qones_t (n : Nat) (w : World) (ha : n ≤ 100000) :
    Calls Try.prog 42 #[.int .i64 n] w fun e w' => e = .returned (.string (onesT n)) ∧ Ups w w' := ref_ones n w ha

theorem kd_first {P : Program} {w W : World} {A : Value} {g g' : Fl} {f : FuncId} {args : Array Value} (_h : FlAt W A g) (hz : w.heap.size + 1 < W.heap.size) (hc : Calls P f args W fun e W' => ∃ v', e = .returned v' ∧ FlNew W A W' v' g') :
    Calls P f args W fun e W' => ∃ x, e = .returned x ∧ (FlAt W' x g' ∧ ∀ B, B ≤ w.heap.size + 1 → FlOff B A → FlOff B x) ∧ Ups W W' := by
  refine hc.mono ?_
  rintro e W' ⟨v', rfl, hn⟩
  exact ⟨v', rfl, ⟨hn.reads, fun B hB ho => hn.off B (by omega) ho⟩, hn.ups⟩
theorem kd_step {P : Program} {w W : World} {A v : Value} {g g' : Fl} {f : FuncId} {args : Array Value} (hq : FlAt W v g ∧ ∀ B, B ≤ w.heap.size + 1 → FlOff B A → FlOff B v) (hz : w.heap.size + 1 < W.heap.size) (hc : Calls P f args W fun e W' => ∃ v', e = .returned v' ∧ FlNew W v W' v' g') :
    Calls P f args W fun e W' => ∃ x, e = .returned x ∧ (FlAt W' x g' ∧ ∀ B, B ≤ w.heap.size + 1 → FlOff B A → FlOff B x) ∧ Ups W W' := by
  refine hc.mono ?_
  rintro e W' ⟨v', rfl, hn⟩
  exact ⟨v', rfl, ⟨hn.reads, fun B hB ho => hn.off B (by omega) (hq.2 B hB ho)⟩, hn.ups⟩

set_option maxRecDepth 100000 in
set_option maxHeartbeats 4000000 in
theorem rerase_none (pages : List ByteArray) (wear : List Int) (fuse : Int) (ftorn : ByteArray) (dead : Bool) (v : Value) (page : Int) (w : World) (h : FlAt w v (⟨pages, wear, fuse, ftorn, dead⟩ : Fl)) (hf : FlFit (⟨pages, wear, fuse, ftorn, dead⟩ : Fl)) (hb : hasB (⟨pages, wear, fuse, ftorn, dead⟩ : Fl) page = false) :
    Calls Try.prog 12 #[v, .int .i64 page] w fun e W' => ∃ v', e = .returned (.tuple #[v', .int .i64 (eraseF (⟨pages, wear, fuse, ftorn, dead⟩ : Fl) page).2]) ∧ FlNew w v W' v' (eraseF (⟨pages, wear, fuse, ftorn, dead⟩ : Fl) page).1 := by
  have hall := h
  obtain ⟨p, q, rfl, hT, hI⟩ := h
  simp only at hT hI
  have hrP : RowOff (w.heap.size + 1) p := hT.off (Nat.le_succ _)
  have hrQ : RowOff (w.heap.size + 1) q := hI.off (Nat.le_succ _)
  have hT0 := hT
  have hI0 := hI
  obtain ⟨a, c, rfl, hp⟩ := hT0
  obtain ⟨a', c', rfl, _⟩ := hI0
  have hu2 : Ups w ((w.alloc (.cells #[.slice a pages.length c, .slice a' wear.length c', .int .i64 fuse, .string ftorn, .bool dead] 25)).alloc (.cells #[.slice none 0 0, .slice none 0 0, .int .i64 0, .string { data := #[] }, .bool false] 25)) := ((Own.start w).alloc (.cells #[.slice a pages.length c, .slice a' wear.length c', .int .i64 fuse, .string ftorn, .bool dead] 25) |>.alloc (.cells #[.slice none 0 0, .slice none 0 0, .int .i64 0, .string { data := #[] }, .bool false] 25)).bel
  have hk0 : ((w.alloc (.cells #[.slice a pages.length c, .slice a' wear.length c', .int .i64 fuse, .string ftorn, .bool dead] 25)).alloc (.cells #[.slice none 0 0, .slice none 0 0, .int .i64 0, .string { data := #[] }, .bool false] 25)).heap[w.heap.size]? = some (.cells #[.slice a pages.length c, .slice a' wear.length c', .int .i64 fuse, .string ftorn, .bool dead] 25) := ((Own.start w).alloc (.cells #[.slice a pages.length c, .slice a' wear.length c', .int .i64 fuse, .string ftorn, .bool dead] 25) |>.alloc (.cells #[.slice none 0 0, .slice none 0 0, .int .i64 0, .string { data := #[] }, .bool false] 25)).at w.heap.size 0 rfl rfl
  have hk1 : ((w.alloc (.cells #[.slice a pages.length c, .slice a' wear.length c', .int .i64 fuse, .string ftorn, .bool dead] 25)).alloc (.cells #[.slice none 0 0, .slice none 0 0, .int .i64 0, .string { data := #[] }, .bool false] 25)).heap[w.heap.size + 1]? = some (.cells #[.slice none 0 0, .slice none 0 0, .int .i64 0, .string { data := #[] }, .bool false] 25) := ((Own.start w).alloc (.cells #[.slice a pages.length c, .slice a' wear.length c', .int .i64 fuse, .string ftorn, .bool dead] 25) |>.alloc (.cells #[.slice none 0 0, .slice none 0 0, .int .i64 0, .string { data := #[] }, .bool false] 25)).at (w.heap.size + 1) 1 rfl rfl
  have hz2 : w.heap.size + 1 < ((w.alloc (.cells #[.slice a pages.length c, .slice a' wear.length c', .int .i64 fuse, .string ftorn, .bool dead] 25)).alloc (.cells #[.slice none 0 0, .slice none 0 0, .int .i64 0, .string { data := #[] }, .bool false] 25)).heap.size := (Array.getElem?_eq_some_iff.1 hk1).1
  have hst := rpage_calls _ _ page _ (hall.ups hu2) hf
  have he : eraseF (⟨pages, wear, fuse, ftorn, dead⟩ : Fl) page = ((⟨pages, wear, fuse, ftorn, dead⟩ : Fl), 1) := by simp [eraseF, hb]
  rw [he]
  rw [hb] at hst
  clear he hb
  go_enter Try.func12, Try.ntmps12
  go_wp2_with fail
  refine hst.mono ?_
  rintro e w3 ⟨rfl, hb3⟩
  obtain ⟨k0, k1, k2, k3, k4⟩ := block_cells (block_ups hk0 hb3)
  have hzz := block_ups hk1 hb3
  obtain ⟨d0, d1, d2, d3, d4⟩ := block_cells hzz
  have y0 := block_frozen hzz 0
  have y1 := block_frozen hzz 1
  have y2 := block_frozen hzz 2
  have y3 := block_frozen hzz 3
  have y4 := block_frozen hzz 4
  have hu3 := Ups.trans hu2 hb3
  have HA := Lib.hid hall
  clear hall hT hI hst hk0 hk1 hzz hf
  go_wp2_with fail
  refine bodyPost_ret (v := .tuple #[.agg #[.slice a pages.length c, .slice a' wear.length c', .int .i64 fuse, .string ftorn, .bool dead], .int .i64 1]) ?_ rfl ⟨_, rfl, ?_⟩
  · simp [results, Try.results12, go_sem, d0, d1, d2, d3, d4]
  · exact fl_stored hu3 (Nat.le_succ _) (HA.out.ups hu3) (FlOff.mk hrP hrQ) (fun B hB ho => ho) rfl

set_option maxRecDepth 100000 in
set_option maxHeartbeats 4000000 in
theorem rerase_dead (pages : List ByteArray) (wear : List Int) (fuse : Int) (ftorn : ByteArray) (v : Value) (n : Nat) (w : World) (h : FlAt w v (⟨pages, wear, fuse, ftorn, true⟩ : Fl)) (hf : FlFit (⟨pages, wear, fuse, ftorn, true⟩ : Fl)) (hb : hasB (⟨pages, wear, fuse, ftorn, true⟩ : Fl) n = true) (hn : n < pages.length) :
    Calls Try.prog 12 #[v, .int .i64 n] w fun e W' => ∃ v', e = .returned (.tuple #[v', .int .i64 (eraseF (⟨pages, wear, fuse, ftorn, true⟩ : Fl) n).2]) ∧ FlNew w v W' v' (eraseF (⟨pages, wear, fuse, ftorn, true⟩ : Fl) n).1 := by
  have hall := h
  obtain ⟨p, q, rfl, hT, hI⟩ := h
  simp only at hT hI
  have hrP : RowOff (w.heap.size + 1) p := hT.off (Nat.le_succ _)
  have hrQ : RowOff (w.heap.size + 1) q := hI.off (Nat.le_succ _)
  have hT0 := hT
  have hI0 := hI
  obtain ⟨a, c, rfl, hp⟩ := hT0
  obtain ⟨a', c', rfl, _⟩ := hI0
  have hu2 : Ups w ((w.alloc (.cells #[.slice a pages.length c, .slice a' wear.length c', .int .i64 fuse, .string ftorn, .bool true] 25)).alloc (.cells #[.slice none 0 0, .slice none 0 0, .int .i64 0, .string { data := #[] }, .bool false] 25)) := ((Own.start w).alloc (.cells #[.slice a pages.length c, .slice a' wear.length c', .int .i64 fuse, .string ftorn, .bool true] 25) |>.alloc (.cells #[.slice none 0 0, .slice none 0 0, .int .i64 0, .string { data := #[] }, .bool false] 25)).bel
  have hk0 : ((w.alloc (.cells #[.slice a pages.length c, .slice a' wear.length c', .int .i64 fuse, .string ftorn, .bool true] 25)).alloc (.cells #[.slice none 0 0, .slice none 0 0, .int .i64 0, .string { data := #[] }, .bool false] 25)).heap[w.heap.size]? = some (.cells #[.slice a pages.length c, .slice a' wear.length c', .int .i64 fuse, .string ftorn, .bool true] 25) := ((Own.start w).alloc (.cells #[.slice a pages.length c, .slice a' wear.length c', .int .i64 fuse, .string ftorn, .bool true] 25) |>.alloc (.cells #[.slice none 0 0, .slice none 0 0, .int .i64 0, .string { data := #[] }, .bool false] 25)).at w.heap.size 0 rfl rfl
  have hk1 : ((w.alloc (.cells #[.slice a pages.length c, .slice a' wear.length c', .int .i64 fuse, .string ftorn, .bool true] 25)).alloc (.cells #[.slice none 0 0, .slice none 0 0, .int .i64 0, .string { data := #[] }, .bool false] 25)).heap[w.heap.size + 1]? = some (.cells #[.slice none 0 0, .slice none 0 0, .int .i64 0, .string { data := #[] }, .bool false] 25) := ((Own.start w).alloc (.cells #[.slice a pages.length c, .slice a' wear.length c', .int .i64 fuse, .string ftorn, .bool true] 25) |>.alloc (.cells #[.slice none 0 0, .slice none 0 0, .int .i64 0, .string { data := #[] }, .bool false] 25)).at (w.heap.size + 1) 1 rfl rfl
  have hz2 : w.heap.size + 1 < ((w.alloc (.cells #[.slice a pages.length c, .slice a' wear.length c', .int .i64 fuse, .string ftorn, .bool true] 25)).alloc (.cells #[.slice none 0 0, .slice none 0 0, .int .i64 0, .string { data := #[] }, .bool false] 25)).heap.size := (Array.getElem?_eq_some_iff.1 hk1).1
  have hst := rpage_calls _ _ n _ (hall.ups hu2) hf
  rw [hb] at hst
  have hck := (has_facts hb).1
  obtain ⟨b, off, rfl, hp'⟩ := hp (by omega)
  obtain ⟨c1, c2, c3, c4, c5, c6⟩ := check_facts hck
  simp only at c1 c2 c3 c4 c5
  have sn := old_size hck hn
  have s0 := old_size hck (n := 0) c1
  have sn1 := sn.2.1
  have sm : (maskOf (⟨pages, wear, fuse, ftorn, true⟩ : Fl)).size ≤ 8192 := by rw [maskOf, maskT_size]; omega
  have s01 := s0.2.1
  have hip : (n : Int) < pages.length := by omega
  have hb1 : pages.length ≤ 1000 := by omega
  have hc0' : w.cell? ⟨b, off + n, none⟩ = some (.string (oldT (⟨pages, wear, fuse, ftorn, true⟩ : Fl) n)) := hp' n hn
  have hwn : n < wear.length := by omega
  have hw6 : wear.length ≤ 1000 := by omega
  have hwz : wear.getD n 0 ∈ wear := by rw [List.getD_eq_getElem?_getD, List.getElem?_eq_getElem hwn]; exact List.getElem_mem _
  have hw1 := (c5 _ hwz).1
  have hw2 := (c5 _ hwz).2
  have hmk : ∀ W, Ups w W → Calls Try.prog 39 #[.agg #[.slice (some ⟨b, off, none⟩) pages.length c, .slice a' wear.length c', .int .i64 fuse, .string ftorn, .bool true]] W fun e W' => e = .returned (.string (maskOf (⟨pages, wear, fuse, ftorn, true⟩ : Fl))) ∧ Ups W W' := fun W hU => rmask_calls (⟨pages, wear, fuse, ftorn, true⟩ : Fl) _ W (hall.ups hU) (oldT (⟨pages, wear, fuse, ftorn, true⟩ : Fl) 0) c1 rfl (by simp only; omega) s01 c4
  have he : eraseF (⟨pages, wear, fuse, ftorn, true⟩ : Fl) n = ((⟨pages, wear, fuse, ftorn, true⟩ : Fl), 8) := by simp [eraseF, hb, stepF]
  rw [he]
  clear he hb c3 c5 c6 hp hp' s0 sn hwz hck hmk
  go_enter Try.func12, Try.ntmps12
  go_wp2_with fail
  refine hst.mono ?_
  rintro e w3 ⟨rfl, hb3⟩
  have hu3 := Ups.trans hu2 hb3
  have hk03 := block_ups hk0 hb3
  have hzz3 := block_ups hk1 hb3
  have hz3 : w.heap.size + 1 < w3.heap.size := Nat.lt_of_lt_of_le hz2 hb3.size
  have hcells := fun W (hU : Ups (World.drew w3) W) => block_cells (block_ups hk03 (drew_ups hU))
  have hc0 := fun W (hU : Ups (World.drew w3) W) => (hcells W hU).1
  have hcold := fun W (hU : Ups (World.drew w3) W) => cell_ups (Ups.trans hu3 (drew_ups hU)) hc0'
  have hfl := fun W (hU : Ups (World.drew w3) W) => hall.ups (Ups.trans hu3 (drew_ups hU))
  have hsize := fun W (hU : Ups (World.drew w3) W) => Nat.lt_of_lt_of_le hz3 (drew_ups hU).size
  obtain ⟨k0, k1, k2, k3, k4⟩ := block_cells hk03
  have hcc := cell_ups hu3 hc0'
  have HA := Lib.hid hall
  clear hT hI hst hk0 hk1 hk03
  have hzz := hzz3
  obtain ⟨d0, d1, d2, d3, d4⟩ := block_cells hzz
  have y0 := block_frozen hzz 0
  have y1 := block_frozen hzz 1
  have y2 := block_frozen hzz 2
  have y3 := block_frozen hzz 3
  have y4 := block_frozen hzz 4
  clear hcells hc0 hcold hfl hsize hall hzz3 hzz
  go_wp2_with fail
  refine bodyPost_ret (v := .tuple #[.agg #[.slice (some ⟨b, off, none⟩) pages.length c, .slice a' wear.length c', .int .i64 fuse, .string ftorn, .bool true], .int .i64 8]) ?_ rfl ⟨_, rfl, ?_⟩
  · simp [results, Try.results12, go_sem, d0, d1, d2, d3, d4]
  · exact fl_stored hu3 (Nat.le_succ _) (HA.out.ups hu3) (FlOff.mk hrP hrQ) (fun B hB ho => ho) rfl

set_option maxRecDepth 100000 in
set_option maxHeartbeats 4000000 in
theorem rerase_zero (pages : List ByteArray) (wear : List Int) (fuse : Int) (ftorn : ByteArray) (v : Value) (n : Nat) (w : World) (h : FlAt w v (⟨pages, wear, fuse, ftorn, false⟩ : Fl)) (hf : FlFit (⟨pages, wear, fuse, ftorn, false⟩ : Fl)) (hb : hasB (⟨pages, wear, fuse, ftorn, false⟩ : Fl) n = true) (hn : n < pages.length) (h0 : fuse = 0) :
    Calls Try.prog 12 #[v, .int .i64 n] w fun e W' => ∃ v', e = .returned (.tuple #[v', .int .i64 (eraseF (⟨pages, wear, fuse, ftorn, false⟩ : Fl) n).2]) ∧ FlNew w v W' v' (eraseF (⟨pages, wear, fuse, ftorn, false⟩ : Fl) n).1 := by
  have hall := h
  obtain ⟨p, q, rfl, hT, hI⟩ := h
  simp only at hT hI
  have hrP : RowOff (w.heap.size + 1) p := hT.off (Nat.le_succ _)
  have hrQ : RowOff (w.heap.size + 1) q := hI.off (Nat.le_succ _)
  have hT0 := hT
  have hI0 := hI
  obtain ⟨a, c, rfl, hp⟩ := hT0
  obtain ⟨a', c', rfl, _⟩ := hI0
  have hu2 : Ups w ((w.alloc (.cells #[.slice a pages.length c, .slice a' wear.length c', .int .i64 fuse, .string ftorn, .bool false] 25)).alloc (.cells #[.slice none 0 0, .slice none 0 0, .int .i64 0, .string { data := #[] }, .bool false] 25)) := ((Own.start w).alloc (.cells #[.slice a pages.length c, .slice a' wear.length c', .int .i64 fuse, .string ftorn, .bool false] 25) |>.alloc (.cells #[.slice none 0 0, .slice none 0 0, .int .i64 0, .string { data := #[] }, .bool false] 25)).bel
  have hk0 : ((w.alloc (.cells #[.slice a pages.length c, .slice a' wear.length c', .int .i64 fuse, .string ftorn, .bool false] 25)).alloc (.cells #[.slice none 0 0, .slice none 0 0, .int .i64 0, .string { data := #[] }, .bool false] 25)).heap[w.heap.size]? = some (.cells #[.slice a pages.length c, .slice a' wear.length c', .int .i64 fuse, .string ftorn, .bool false] 25) := ((Own.start w).alloc (.cells #[.slice a pages.length c, .slice a' wear.length c', .int .i64 fuse, .string ftorn, .bool false] 25) |>.alloc (.cells #[.slice none 0 0, .slice none 0 0, .int .i64 0, .string { data := #[] }, .bool false] 25)).at w.heap.size 0 rfl rfl
  have hk1 : ((w.alloc (.cells #[.slice a pages.length c, .slice a' wear.length c', .int .i64 fuse, .string ftorn, .bool false] 25)).alloc (.cells #[.slice none 0 0, .slice none 0 0, .int .i64 0, .string { data := #[] }, .bool false] 25)).heap[w.heap.size + 1]? = some (.cells #[.slice none 0 0, .slice none 0 0, .int .i64 0, .string { data := #[] }, .bool false] 25) := ((Own.start w).alloc (.cells #[.slice a pages.length c, .slice a' wear.length c', .int .i64 fuse, .string ftorn, .bool false] 25) |>.alloc (.cells #[.slice none 0 0, .slice none 0 0, .int .i64 0, .string { data := #[] }, .bool false] 25)).at (w.heap.size + 1) 1 rfl rfl
  have hz2 : w.heap.size + 1 < ((w.alloc (.cells #[.slice a pages.length c, .slice a' wear.length c', .int .i64 fuse, .string ftorn, .bool false] 25)).alloc (.cells #[.slice none 0 0, .slice none 0 0, .int .i64 0, .string { data := #[] }, .bool false] 25)).heap.size := (Array.getElem?_eq_some_iff.1 hk1).1
  have hst := rpage_calls _ _ n _ (hall.ups hu2) hf
  rw [hb] at hst
  have hck := (has_facts hb).1
  obtain ⟨b, off, rfl, hp'⟩ := hp (by omega)
  obtain ⟨c1, c2, c3, c4, c5, c6⟩ := check_facts hck
  simp only at c1 c2 c3 c4 c5
  have sn := old_size hck hn
  have s0 := old_size hck (n := 0) c1
  have sn1 := sn.2.1
  have sm : (maskOf (⟨pages, wear, fuse, ftorn, false⟩ : Fl)).size ≤ 8192 := by rw [maskOf, maskT_size]; omega
  have s01 := s0.2.1
  have hip : (n : Int) < pages.length := by omega
  have hb1 : pages.length ≤ 1000 := by omega
  have hc0' : w.cell? ⟨b, off + n, none⟩ = some (.string (oldT (⟨pages, wear, fuse, ftorn, false⟩ : Fl) n)) := hp' n hn
  have hwn : n < wear.length := by omega
  have hw6 : wear.length ≤ 1000 := by omega
  have hwz : wear.getD n 0 ∈ wear := by rw [List.getD_eq_getElem?_getD, List.getElem?_eq_getElem hwn]; exact List.getElem_mem _
  have hw1 := (c5 _ hwz).1
  have hw2 := (c5 _ hwz).2
  have hmk : ∀ W, Ups w W → Calls Try.prog 39 #[.agg #[.slice (some ⟨b, off, none⟩) pages.length c, .slice a' wear.length c', .int .i64 fuse, .string ftorn, .bool false]] W fun e W' => e = .returned (.string (maskOf (⟨pages, wear, fuse, ftorn, false⟩ : Fl))) ∧ Ups W W' := fun W hU => rmask_calls (⟨pages, wear, fuse, ftorn, false⟩ : Fl) _ W (hall.ups hU) (oldT (⟨pages, wear, fuse, ftorn, false⟩ : Fl) 0) c1 rfl (by simp only; omega) s01 c4
  have he : eraseF (⟨pages, wear, fuse, ftorn, false⟩ : Fl) n = ((⟨pages.set n (orT (oldT (⟨pages, wear, fuse, ftorn, false⟩ : Fl) n) (maskOf (⟨pages, wear, fuse, ftorn, false⟩ : Fl))), wear, fuse, ftorn, true⟩ : Fl), 8) := by
    simp only [eraseF, hb, if_true, Int.toNat_natCast, stepF]
    simp [h0]
  rw [he]
  clear he hb c3 c5 c6 hp hp' s0 sn hwz hck
  generalize oldT (⟨pages, wear, fuse, ftorn, false⟩ : Fl) n = old at *
  generalize maskOf (⟨pages, wear, fuse, ftorn, false⟩ : Fl) = mask at *
  generalize oldT (⟨pages, wear, fuse, ftorn, false⟩ : Fl) 0 = first at *
  have hz0 : (fuse == 0) = true := by simp [h0]
  clear h0
  go_enter Try.func12, Try.ntmps12
  go_wp2_with fail
  refine hst.mono ?_
  rintro e w3 ⟨rfl, hb3⟩
  have hu3 := Ups.trans hu2 hb3
  have hk03 := block_ups hk0 hb3
  have hzz3 := block_ups hk1 hb3
  have hz3 : w.heap.size + 1 < w3.heap.size := Nat.lt_of_lt_of_le hz2 hb3.size
  have hcells := fun W (hU : Ups (World.drew w3) W) => block_cells (block_ups hk03 (drew_ups hU))
  have hc0 := fun W (hU : Ups (World.drew w3) W) => (hcells W hU).1
  have hcold := fun W (hU : Ups (World.drew w3) W) => cell_ups (Ups.trans hu3 (drew_ups hU)) hc0'
  have hfl := fun W (hU : Ups (World.drew w3) W) => hall.ups (Ups.trans hu3 (drew_ups hU))
  have hsize := fun W (hU : Ups (World.drew w3) W) => Nat.lt_of_lt_of_le hz3 (drew_ups hU).size
  obtain ⟨k0, k1, k2, k3, k4⟩ := block_cells hk03
  have hcc := cell_ups hu3 hc0'
  have HA := Lib.hid hall
  clear hT hI hst hk0 hk1 hk03
  go_wp2_with fail
  refine wp_region_parts (N := 12) (n := 42) (ks := [isV (.agg #[.slice (some ⟨b, off, none⟩) pages.length c, .slice a' wear.length c', .int .i64 fuse, .string ftorn, .bool false]), isV (.int .i64 n), isV (.pointer (some ⟨w.heap.size, 0, none⟩)), isV (.slice (some ⟨b, off, none⟩) pages.length c), isV (.int .i64 n), isV (.pointer (some ⟨b, off + n, none⟩)), isV (.string old), isV (.agg #[.slice (some ⟨b, off, none⟩) pages.length c, .slice a' wear.length c', .int .i64 fuse, .string ftorn, .bool false]), isV (.string mask), isV (.string (orT old mask)), fun v' W' => FlAt W' v' (⟨pages.set n (orT old mask), wear, fuse, ftorn, false⟩ : Fl) ∧ ∀ B, B ≤ w.heap.size + 1 → FlOff B (.agg #[.slice (some ⟨b, off, none⟩) pages.length c, .slice a' wear.length c', .int .i64 fuse, .string ftorn, .bool false]) → FlOff B v', fun v' W' => FlAt W' v' (⟨pages.set n (orT old mask), wear, fuse, ftorn, true⟩ : Fl) ∧ ∀ B, B ≤ w.heap.size + 1 → FlOff B (.agg #[.slice (some ⟨b, off, none⟩) pages.length c, .slice a' wear.length c', .int .i64 fuse, .string ftorn, .bool false]) → FlOff B v']) (by decide +kernel) (by decide +kernel) (by decide +kernel) (by simp) rfl (by decide +kernel) ⟨steady_is _, steady_is _, steady_is _, steady_is _, steady_is _, steady_is _, steady_is _, steady_is _, steady_is _, steady_is _, fun _ _ _ h hu => ⟨h.1.ups hu, h.2⟩, fun _ _ _ h hu => ⟨h.1.ups hu, h.2⟩, trivial⟩ ?_ ?_
  · refine And.intro (fun ac W hO hU H => ?_) ?_
    · have h2 : ac.tmps[2]? = some (.pointer (some ⟨w.heap.size, 0, none⟩)) := (hO 2 rfl).trans rfl
      obtain ⟨k0, k1, k2, k3, k4⟩ := hcells W hU
      exact growOp_plain rfl (parts_value (by simp [go_sem, h2, k0, k1, k2, k3, k4]))
    refine And.intro (fun ac W hO hU H => ?_) ?_
    · have h1 : ac.tmps[1]? = some (.int .i64 n) := (hO 1 rfl).trans rfl
      exact growOp_plain rfl (parts_value (by simp [go_sem, h1]))
    refine And.intro (fun ac W hO hU H => ?_) ?_
    · have h2 : ac.tmps[2]? = some (.pointer (some ⟨w.heap.size, 0, none⟩)) := (hO 2 rfl).trans rfl
      exact growOp_plain rfl (parts_value (by simp [go_sem, h2]))
    refine And.intro (fun ac W hO hU H => ?_) ?_
    · have h19 : ac.tmps[19]? = some (.pointer (some ⟨w.heap.size, 0, none⟩)) := isV_get (W := W) (H 2 19 rfl)
      have f0 := hc0 W hU
      exact growOp_plain rfl (parts_value (by simp [go_sem, h19, f0]))
    refine And.intro (fun ac W hO hU H => ?_) ?_
    · have h1 : ac.tmps[1]? = some (.int .i64 n) := (hO 1 rfl).trans rfl
      exact growOp_plain rfl (parts_value (by simp [go_sem, h1]))
    refine And.intro (fun ac W hO hU H => ?_) ?_
    · have h20 : ac.tmps[20]? = some (.slice (some ⟨b, off, none⟩) pages.length c) := isV_get (W := W) (H 3 20 rfl)
      have h21 : ac.tmps[21]? = some (.int .i64 n) := isV_get (W := W) (H 4 21 rfl)
      exact growOp_plain rfl (parts_value (by simp [go_sem, h20, h21, hip]))
    refine And.intro (fun ac W hO hU H => ?_) ?_
    · have h22 : ac.tmps[22]? = some (.pointer (some ⟨b, off + n, none⟩)) := isV_get (W := W) (H 5 22 rfl)
      have f0 := hcold W hU
      exact growOp_plain rfl (parts_value (by simp [go_sem, h22, f0]))
    refine And.intro (fun ac W hO hU H => ?_) ?_
    · have h2 : ac.tmps[2]? = some (.pointer (some ⟨w.heap.size, 0, none⟩)) := (hO 2 rfl).trans rfl
      obtain ⟨k0, k1, k2, k3, k4⟩ := hcells W hU
      exact growOp_plain rfl (parts_value (by simp [go_sem, h2, k0, k1, k2, k3, k4]))
    refine And.intro (fun ac W hO hU H => ?_) ?_
    · have h24 : ac.tmps[24]? = some (.agg #[.slice (some ⟨b, off, none⟩) pages.length c, .slice a' wear.length c', .int .i64 fuse, .string ftorn, .bool false]) := isV_get (W := W) (H 7 24 rfl)
      exact growOp_plain rfl (parts_call_is (args := #[.agg #[.slice (some ⟨b, off, none⟩) pages.length c, .slice a' wear.length c', .int .i64 fuse, .string ftorn, .bool false]]) (by simp [go_sem, h24]) (hmk W (Ups.trans hu3 (drew_ups hU))))
    refine And.intro (fun ac W hO hU H => ?_) ?_
    · have h23 : ac.tmps[23]? = some (.string old) := isV_get (W := W) (H 6 23 rfl)
      have h25 : ac.tmps[25]? = some (.string mask) := isV_get (W := W) (H 8 25 rfl)
      exact growOp_plain rfl (parts_call_is (args := #[.string old, .string mask]) (by simp [go_sem, h23, h25]) (qor_t _ _ W (by omega)))
    refine And.intro (fun ac W hO hU H => ?_) ?_
    · have h17 : ac.tmps[17]? = some (.agg #[.slice (some ⟨b, off, none⟩) pages.length c, .slice a' wear.length c', .int .i64 fuse, .string ftorn, .bool false]) := isV_get (W := W) (H 0 17 rfl)
      have h18 : ac.tmps[18]? = some (.int .i64 n) := isV_get (W := W) (H 1 18 rfl)
      have h26 : ac.tmps[26]? = some (.string (orT old mask)) := isV_get (W := W) (H 9 26 rfl)
      exact growOp_plain rfl (parts_call (f := 37) (args := #[.agg #[.slice (some ⟨b, off, none⟩) pages.length c, .slice a' wear.length c', .int .i64 fuse, .string ftorn, .bool false], .int .i64 n, .string (orT old mask)]) (by simp [go_sem, h17, h18, h26]) (kd_first (hfl W hU) (hsize W hU) (rwith_calls _ _ n _ W (hfl W hU) hn hb1)))
    refine And.intro (fun ac W hO hU H => ?_) ?_
    · obtain ⟨v27, h27, q27⟩ := H 10 27 rfl
      exact growOp_plain rfl (parts_call (f := 36) (args := #[v27]) (by simp [go_sem, h27]) (kd_step q27 (hsize W hU) (rdead_calls _ _ W q27.1)))
    exact trivial
  · intro W xs hU hks
    obtain ⟨y0, rfl, g0⟩ := holdAll_is hks
    obtain ⟨y1, rfl, g1⟩ := holdAll_is g0
    obtain ⟨y2, rfl, g2⟩ := holdAll_is g1
    obtain ⟨y3, rfl, g3⟩ := holdAll_is g2
    obtain ⟨y4, rfl, g4⟩ := holdAll_is g3
    obtain ⟨y5, rfl, g5⟩ := holdAll_is g4
    obtain ⟨y6, rfl, g6⟩ := holdAll_is g5
    obtain ⟨y7, rfl, g7⟩ := holdAll_is g6
    obtain ⟨y8, rfl, g8⟩ := holdAll_is g7
    obtain ⟨y9, rfl, g9⟩ := holdAll_is g8
    obtain ⟨v10, y10, rfl, q10, g10⟩ := holdAll_cons g9
    obtain ⟨v11, y11, rfl, q11, g11⟩ := holdAll_cons g10
    obtain rfl := holdAll_nil g11
    clear hks g0 g1 g2 g3 g4 g5 g6 g7 g8 g9 g10 g11
    simp only [List.take_succ_cons, List.take_zero, List.drop_succ_cons, List.drop_zero, endTmps, List.setIfInBounds_toArray, List.set]
    have hzz := block_ups hzz3 (drew_ups hU)
    obtain ⟨d0, d1, d2, d3, d4⟩ := block_cells hzz
    have y0 := block_frozen hzz 0
    have y1 := block_frozen hzz 1
    have y2 := block_frozen hzz 2
    have y3 := block_frozen hzz 3
    have y4 := block_frozen hzz 4
    have huW := Ups.trans hu3 (drew_ups hU)
    obtain ⟨hread, hoff⟩ := q11
    have HB := Lib.hid hread
    have HO := Lib.hid hoff
    obtain ⟨_, _, rfl, ⟨ap, cp, rfl, _⟩, ⟨aq, cq, rfl, _⟩⟩ := hread
    clear hoff hzz hcells hc0 hcold hfl hsize hall hzz3 hmk
    go_wp2_with fail
    refine bodyPost_ret (v := .tuple #[.agg #[.slice ap (pages.set n (orT old mask)).length cp, .slice aq wear.length cq, .int .i64 fuse, .string ftorn, .bool true], .int .i64 8]) ?_ rfl ⟨_, rfl, ?_⟩
    · simp [results, Try.results12, go_sem, d0, d1, d2, d3, d4]
    · exact fl_stored huW (Nat.le_succ _) HB.out (HO.out _ (Nat.le_refl _) (FlOff.mk hrP hrQ)) (fun B hB ho => HO.out B (by omega) (FlOff.mk ho.fst ho.snd)) (by simp )

set_option maxRecDepth 100000 in
set_option maxHeartbeats 4000000 in
theorem rerase_more (pages : List ByteArray) (wear : List Int) (fuse : Int) (ftorn : ByteArray) (v : Value) (n : Nat) (w : World) (h : FlAt w v (⟨pages, wear, fuse, ftorn, false⟩ : Fl)) (hf : FlFit (⟨pages, wear, fuse, ftorn, false⟩ : Fl)) (hb : hasB (⟨pages, wear, fuse, ftorn, false⟩ : Fl) n = true) (hn : n < pages.length) (h0 : ¬ fuse = 0) :
    Calls Try.prog 12 #[v, .int .i64 n] w fun e W' => ∃ v', e = .returned (.tuple #[v', .int .i64 (eraseF (⟨pages, wear, fuse, ftorn, false⟩ : Fl) n).2]) ∧ FlNew w v W' v' (eraseF (⟨pages, wear, fuse, ftorn, false⟩ : Fl) n).1 := by
  have hall := h
  obtain ⟨p, q, rfl, hT, hI⟩ := h
  simp only at hT hI
  have hrP : RowOff (w.heap.size + 1) p := hT.off (Nat.le_succ _)
  have hrQ : RowOff (w.heap.size + 1) q := hI.off (Nat.le_succ _)
  have hT0 := hT
  have hI0 := hI
  obtain ⟨a, c, rfl, hp⟩ := hT0
  obtain ⟨a', c', rfl, _⟩ := hI0
  have hu2 : Ups w ((w.alloc (.cells #[.slice a pages.length c, .slice a' wear.length c', .int .i64 fuse, .string ftorn, .bool false] 25)).alloc (.cells #[.slice none 0 0, .slice none 0 0, .int .i64 0, .string { data := #[] }, .bool false] 25)) := ((Own.start w).alloc (.cells #[.slice a pages.length c, .slice a' wear.length c', .int .i64 fuse, .string ftorn, .bool false] 25) |>.alloc (.cells #[.slice none 0 0, .slice none 0 0, .int .i64 0, .string { data := #[] }, .bool false] 25)).bel
  have hk0 : ((w.alloc (.cells #[.slice a pages.length c, .slice a' wear.length c', .int .i64 fuse, .string ftorn, .bool false] 25)).alloc (.cells #[.slice none 0 0, .slice none 0 0, .int .i64 0, .string { data := #[] }, .bool false] 25)).heap[w.heap.size]? = some (.cells #[.slice a pages.length c, .slice a' wear.length c', .int .i64 fuse, .string ftorn, .bool false] 25) := ((Own.start w).alloc (.cells #[.slice a pages.length c, .slice a' wear.length c', .int .i64 fuse, .string ftorn, .bool false] 25) |>.alloc (.cells #[.slice none 0 0, .slice none 0 0, .int .i64 0, .string { data := #[] }, .bool false] 25)).at w.heap.size 0 rfl rfl
  have hk1 : ((w.alloc (.cells #[.slice a pages.length c, .slice a' wear.length c', .int .i64 fuse, .string ftorn, .bool false] 25)).alloc (.cells #[.slice none 0 0, .slice none 0 0, .int .i64 0, .string { data := #[] }, .bool false] 25)).heap[w.heap.size + 1]? = some (.cells #[.slice none 0 0, .slice none 0 0, .int .i64 0, .string { data := #[] }, .bool false] 25) := ((Own.start w).alloc (.cells #[.slice a pages.length c, .slice a' wear.length c', .int .i64 fuse, .string ftorn, .bool false] 25) |>.alloc (.cells #[.slice none 0 0, .slice none 0 0, .int .i64 0, .string { data := #[] }, .bool false] 25)).at (w.heap.size + 1) 1 rfl rfl
  have hz2 : w.heap.size + 1 < ((w.alloc (.cells #[.slice a pages.length c, .slice a' wear.length c', .int .i64 fuse, .string ftorn, .bool false] 25)).alloc (.cells #[.slice none 0 0, .slice none 0 0, .int .i64 0, .string { data := #[] }, .bool false] 25)).heap.size := (Array.getElem?_eq_some_iff.1 hk1).1
  have hst := rpage_calls _ _ n _ (hall.ups hu2) hf
  rw [hb] at hst
  have hck := (has_facts hb).1
  obtain ⟨b, off, rfl, hp'⟩ := hp (by omega)
  obtain ⟨c1, c2, c3, c4, c5, c6⟩ := check_facts hck
  simp only at c1 c2 c3 c4 c5
  have sn := old_size hck hn
  have s0 := old_size hck (n := 0) c1
  have sn1 := sn.2.1
  have sm : (maskOf (⟨pages, wear, fuse, ftorn, false⟩ : Fl)).size ≤ 8192 := by rw [maskOf, maskT_size]; omega
  have s01 := s0.2.1
  have hip : (n : Int) < pages.length := by omega
  have hb1 : pages.length ≤ 1000 := by omega
  have hc0' : w.cell? ⟨b, off + n, none⟩ = some (.string (oldT (⟨pages, wear, fuse, ftorn, false⟩ : Fl) n)) := hp' n hn
  have hwn : n < wear.length := by omega
  have hw6 : wear.length ≤ 1000 := by omega
  have hwz : wear.getD n 0 ∈ wear := by rw [List.getD_eq_getElem?_getD, List.getElem?_eq_getElem hwn]; exact List.getElem_mem _
  have hw1 := (c5 _ hwz).1
  have hw2 := (c5 _ hwz).2
  have hmk : ∀ W, Ups w W → Calls Try.prog 39 #[.agg #[.slice (some ⟨b, off, none⟩) pages.length c, .slice a' wear.length c', .int .i64 fuse, .string ftorn, .bool false]] W fun e W' => e = .returned (.string (maskOf (⟨pages, wear, fuse, ftorn, false⟩ : Fl))) ∧ Ups W W' := fun W hU => rmask_calls (⟨pages, wear, fuse, ftorn, false⟩ : Fl) _ W (hall.ups hU) (oldT (⟨pages, wear, fuse, ftorn, false⟩ : Fl) 0) c1 rfl (by simp only; omega) s01 c4
  have he : eraseF (⟨pages, wear, fuse, ftorn, false⟩ : Fl) n = (burntF (⟨pages.set n (onesT (oldT (⟨pages, wear, fuse, ftorn, false⟩ : Fl) n).size), wear.set n (min (wear.getD n 0 + 1) 2147483647), fuse, ftorn, false⟩ : Fl), 0) := by
    simp only [eraseF, hb, if_true, Int.toNat_natCast, stepF, burntF]
    simp [h0]
  rw [he]
  clear he hb c3 c5 c6 hp hp' s0 sn hwz hck
  generalize oldT (⟨pages, wear, fuse, ftorn, false⟩ : Fl) n = old at *
  generalize maskOf (⟨pages, wear, fuse, ftorn, false⟩ : Fl) = mask at *
  generalize oldT (⟨pages, wear, fuse, ftorn, false⟩ : Fl) 0 = first at *
  have hz0 : (fuse == 0) = false := by simpa using h0
  clear h0
  go_enter Try.func12, Try.ntmps12
  go_wp2_with fail
  refine hst.mono ?_
  rintro e w3 ⟨rfl, hb3⟩
  have hu3 := Ups.trans hu2 hb3
  have hk03 := block_ups hk0 hb3
  have hzz3 := block_ups hk1 hb3
  have hz3 : w.heap.size + 1 < w3.heap.size := Nat.lt_of_lt_of_le hz2 hb3.size
  have hcells := fun W (hU : Ups (World.drew w3) W) => block_cells (block_ups hk03 (drew_ups hU))
  have hc0 := fun W (hU : Ups (World.drew w3) W) => (hcells W hU).1
  have hcold := fun W (hU : Ups (World.drew w3) W) => cell_ups (Ups.trans hu3 (drew_ups hU)) hc0'
  have hfl := fun W (hU : Ups (World.drew w3) W) => hall.ups (Ups.trans hu3 (drew_ups hU))
  have hsize := fun W (hU : Ups (World.drew w3) W) => Nat.lt_of_lt_of_le hz3 (drew_ups hU).size
  obtain ⟨k0, k1, k2, k3, k4⟩ := block_cells hk03
  have hcc := cell_ups hu3 hc0'
  have HA := Lib.hid hall
  clear hT hI hst hk0 hk1 hk03
  go_wp2_with fail
  refine wp_region_parts (N := 13) (n := 42) (ks := [isV (.agg #[.slice (some ⟨b, off, none⟩) pages.length c, .slice a' wear.length c', .int .i64 fuse, .string ftorn, .bool false]), isV (.int .i64 n), isV (.pointer (some ⟨w.heap.size, 0, none⟩)), isV (.slice (some ⟨b, off, none⟩) pages.length c), isV (.int .i64 n), isV (.pointer (some ⟨b, off + n, none⟩)), isV (.string old), isV (.int .i64 (old.size : Nat)), isV (.string (onesT old.size)), fun v' W' => FlAt W' v' (⟨pages.set n (onesT old.size), wear, fuse, ftorn, false⟩ : Fl) ∧ ∀ B, B ≤ w.heap.size + 1 → FlOff B (.agg #[.slice (some ⟨b, off, none⟩) pages.length c, .slice a' wear.length c', .int .i64 fuse, .string ftorn, .bool false]) → FlOff B v', isV (.int .i64 n), fun v' W' => FlAt W' v' (⟨pages.set n (onesT old.size), wear.set n (min (wear.getD n 0 + 1) 2147483647), fuse, ftorn, false⟩ : Fl) ∧ ∀ B, B ≤ w.heap.size + 1 → FlOff B (.agg #[.slice (some ⟨b, off, none⟩) pages.length c, .slice a' wear.length c', .int .i64 fuse, .string ftorn, .bool false]) → FlOff B v', fun v' W' => FlAt W' v' (burntF (⟨pages.set n (onesT old.size), wear.set n (min (wear.getD n 0 + 1) 2147483647), fuse, ftorn, false⟩ : Fl)) ∧ ∀ B, B ≤ w.heap.size + 1 → FlOff B (.agg #[.slice (some ⟨b, off, none⟩) pages.length c, .slice a' wear.length c', .int .i64 fuse, .string ftorn, .bool false]) → FlOff B v']) (by decide +kernel) (by decide +kernel) (by decide +kernel) (by simp) rfl (by decide +kernel) ⟨steady_is _, steady_is _, steady_is _, steady_is _, steady_is _, steady_is _, steady_is _, steady_is _, steady_is _, fun _ _ _ h hu => ⟨h.1.ups hu, h.2⟩, steady_is _, fun _ _ _ h hu => ⟨h.1.ups hu, h.2⟩, fun _ _ _ h hu => ⟨h.1.ups hu, h.2⟩, trivial⟩ ?_ ?_
  · refine And.intro (fun ac W hO hU H => ?_) ?_
    · have h2 : ac.tmps[2]? = some (.pointer (some ⟨w.heap.size, 0, none⟩)) := (hO 2 rfl).trans rfl
      obtain ⟨k0, k1, k2, k3, k4⟩ := hcells W hU
      exact growOp_plain rfl (parts_value (by simp [go_sem, h2, k0, k1, k2, k3, k4]))
    refine And.intro (fun ac W hO hU H => ?_) ?_
    · have h1 : ac.tmps[1]? = some (.int .i64 n) := (hO 1 rfl).trans rfl
      exact growOp_plain rfl (parts_value (by simp [go_sem, h1]))
    refine And.intro (fun ac W hO hU H => ?_) ?_
    · have h2 : ac.tmps[2]? = some (.pointer (some ⟨w.heap.size, 0, none⟩)) := (hO 2 rfl).trans rfl
      exact growOp_plain rfl (parts_value (by simp [go_sem, h2]))
    refine And.intro (fun ac W hO hU H => ?_) ?_
    · have h31 : ac.tmps[31]? = some (.pointer (some ⟨w.heap.size, 0, none⟩)) := isV_get (W := W) (H 2 31 rfl)
      have f0 := hc0 W hU
      exact growOp_plain rfl (parts_value (by simp [go_sem, h31, f0]))
    refine And.intro (fun ac W hO hU H => ?_) ?_
    · have h1 : ac.tmps[1]? = some (.int .i64 n) := (hO 1 rfl).trans rfl
      exact growOp_plain rfl (parts_value (by simp [go_sem, h1]))
    refine And.intro (fun ac W hO hU H => ?_) ?_
    · have h32 : ac.tmps[32]? = some (.slice (some ⟨b, off, none⟩) pages.length c) := isV_get (W := W) (H 3 32 rfl)
      have h33 : ac.tmps[33]? = some (.int .i64 n) := isV_get (W := W) (H 4 33 rfl)
      exact growOp_plain rfl (parts_value (by simp [go_sem, h32, h33, hip]))
    refine And.intro (fun ac W hO hU H => ?_) ?_
    · have h34 : ac.tmps[34]? = some (.pointer (some ⟨b, off + n, none⟩)) := isV_get (W := W) (H 5 34 rfl)
      have f0 := hcold W hU
      exact growOp_plain rfl (parts_value (by simp [go_sem, h34, f0]))
    refine And.intro (fun ac W hO hU H => ?_) ?_
    · have h35 : ac.tmps[35]? = some (.string old) := isV_get (W := W) (H 6 35 rfl)
      exact growOp_plain rfl (parts_value (by simp [go_sem, h35]))
    refine And.intro (fun ac W hO hU H => ?_) ?_
    · have h36 : ac.tmps[36]? = some (.int .i64 (old.size : Nat)) := isV_get (W := W) (H 7 36 rfl)
      exact growOp_plain rfl (parts_call_is (args := #[.int .i64 (old.size : Nat)]) (by simp [go_sem, h36]) (qones_t _ W (by omega)))
    refine And.intro (fun ac W hO hU H => ?_) ?_
    · have h29 : ac.tmps[29]? = some (.agg #[.slice (some ⟨b, off, none⟩) pages.length c, .slice a' wear.length c', .int .i64 fuse, .string ftorn, .bool false]) := isV_get (W := W) (H 0 29 rfl)
      have h30 : ac.tmps[30]? = some (.int .i64 n) := isV_get (W := W) (H 1 30 rfl)
      have h37 : ac.tmps[37]? = some (.string (onesT old.size)) := isV_get (W := W) (H 8 37 rfl)
      exact growOp_plain rfl (parts_call (f := 37) (args := #[.agg #[.slice (some ⟨b, off, none⟩) pages.length c, .slice a' wear.length c', .int .i64 fuse, .string ftorn, .bool false], .int .i64 n, .string (onesT old.size)]) (by simp [go_sem, h29, h30, h37]) (kd_first (hfl W hU) (hsize W hU) (rwith_calls _ _ n _ W (hfl W hU) hn hb1)))
    refine And.intro (fun ac W hO hU H => ?_) ?_
    · have h1 : ac.tmps[1]? = some (.int .i64 n) := (hO 1 rfl).trans rfl
      exact growOp_plain rfl (parts_value (by simp [go_sem, h1]))
    refine And.intro (fun ac W hO hU H => ?_) ?_
    · obtain ⟨v38, h38, q38⟩ := H 9 38 rfl
      have h39 : ac.tmps[39]? = some (.int .i64 n) := isV_get (W := W) (H 10 39 rfl)
      exact growOp_plain rfl (parts_call (f := 41) (args := #[v38, .int .i64 n]) (by simp [go_sem, h38, h39]) (kd_step q38 (hsize W hU) (rworn_calls _ _ n W q38.1 hwn hw6 hw1 hw2)))
    refine And.intro (fun ac W hO hU H => ?_) ?_
    · obtain ⟨v40, h40, q40⟩ := H 11 40 rfl
      exact growOp_plain rfl (parts_call (f := 40) (args := #[v40]) (by simp [go_sem, h40]) (kd_step q40 (hsize W hU) (rburnt_calls _ _ W q40.1 hf.2.2.2)))
    exact trivial
  · intro W xs hU hks
    obtain ⟨y0, rfl, g0⟩ := holdAll_is hks
    obtain ⟨y1, rfl, g1⟩ := holdAll_is g0
    obtain ⟨y2, rfl, g2⟩ := holdAll_is g1
    obtain ⟨y3, rfl, g3⟩ := holdAll_is g2
    obtain ⟨y4, rfl, g4⟩ := holdAll_is g3
    obtain ⟨y5, rfl, g5⟩ := holdAll_is g4
    obtain ⟨y6, rfl, g6⟩ := holdAll_is g5
    obtain ⟨y7, rfl, g7⟩ := holdAll_is g6
    obtain ⟨y8, rfl, g8⟩ := holdAll_is g7
    obtain ⟨v9, y9, rfl, q9, g9⟩ := holdAll_cons g8
    obtain ⟨y10, rfl, g10⟩ := holdAll_is g9
    obtain ⟨v11, y11, rfl, q11, g11⟩ := holdAll_cons g10
    obtain ⟨v12, y12, rfl, q12, g12⟩ := holdAll_cons g11
    obtain rfl := holdAll_nil g12
    clear hks g0 g1 g2 g3 g4 g5 g6 g7 g8 g9 g10 g11 g12
    simp only [List.take_succ_cons, List.take_zero, List.drop_succ_cons, List.drop_zero, endTmps, List.setIfInBounds_toArray, List.set]
    have hzz := block_ups hzz3 (drew_ups hU)
    obtain ⟨d0, d1, d2, d3, d4⟩ := block_cells hzz
    have y0 := block_frozen hzz 0
    have y1 := block_frozen hzz 1
    have y2 := block_frozen hzz 2
    have y3 := block_frozen hzz 3
    have y4 := block_frozen hzz 4
    have huW := Ups.trans hu3 (drew_ups hU)
    obtain ⟨hread, hoff⟩ := q12
    have HB := Lib.hid hread
    have HO := Lib.hid hoff
    obtain ⟨_, _, rfl, ⟨ap, cp, rfl, _⟩, ⟨aq, cq, rfl, _⟩⟩ := hread
    clear hoff hzz hcells hc0 hcold hfl hsize hall hzz3 hmk
    go_wp2_with fail
    refine bodyPost_ret (v := .tuple #[.agg #[.slice ap (pages.set n (onesT old.size)).length cp, .slice aq (wear.set n (min (wear.getD n 0 + 1) 2147483647)).length cq, .int .i64 (if 0 < fuse then fuse - 1 else fuse), .string ftorn, .bool false], .int .i64 0]) ?_ rfl ⟨_, rfl, ?_⟩
    · simp [results, Try.results12, go_sem, d0, d1, d2, d3, d4, burntF]
    · exact fl_stored huW (Nat.le_succ _) HB.out (HO.out _ (Nat.le_refl _) (FlOff.mk hrP hrQ)) (fun B hB ho => HO.out B (by omega) (FlOff.mk ho.fst ho.snd)) (by simp [burntF])

theorem rerase_calls (f : Fl) (v : Value) (page : Int) (w : World) (h : FlAt w v f) (hf : FlFit f) :
    Calls Try.prog 12 #[v, .int .i64 page] w fun e W' => ∃ v', e = .returned (.tuple #[v', .int .i64 (eraseF f page).2]) ∧ FlNew w v W' v' (eraseF f page).1 := by
  cases hb : hasB f page with
  | false =>
    obtain ⟨pages, wear, fuse, ftorn, dead⟩ := f
    exact rerase_none pages wear fuse ftorn dead v page w h hf hb
  | true =>
    obtain ⟨hck, n, rfl, hn⟩ := has_facts hb
    obtain ⟨pages, wear, fuse, ftorn, dead⟩ := f
    cases dead with
    | true => exact rerase_dead pages wear fuse ftorn v n w h hf hb hn
    | false =>
      by_cases h0 : fuse = 0
      · exact rerase_zero pages wear fuse ftorn v n w h hf hb hn h0
      · exact rerase_more pages wear fuse ftorn v n w h hf hb hn h0

theorem and_pad (old d : ByteArray) (m : Nat) : andT old (d ++ onesT m) = andT old d := by
  unfold andT
  rw [show (d ++ onesT m).data.toList = d.data.toList ++ List.replicate m 255 by simp [onesT, bs], mixL_pad 255 andB_ones]
theorem or_pad (d x : ByteArray) (m : Nat) : orT (d ++ onesT m) x = orT d x ++ onesT m := by
  apply text_ext
  rw [show (orT d x ++ onesT m).data.toList = (orT d x).data.toList ++ (onesT m).data.toList by simp]
  rw [orT, orT, onesT, bs_toList, bs_toList, bs_toList, show (d ++ bs (List.replicate m 255)).data.toList = d.data.toList ++ List.replicate m 255 by simp [bs], mixL_swallow 255 orB_ones]

set_option maxRecDepth 100000 in
set_option maxHeartbeats 4000000 in
theorem rprogram_none (pages : List ByteArray) (wear : List Int) (fuse : Int) (ftorn : ByteArray) (dead : Bool) (v : Value) (page at_ : Int) (s : ByteArray) (w : World) (h : FlAt w v (⟨pages, wear, fuse, ftorn, dead⟩ : Fl)) (hf : FlFit (⟨pages, wear, fuse, ftorn, dead⟩ : Fl)) (hb : hasB (⟨pages, wear, fuse, ftorn, dead⟩ : Fl) page = false) :
    Calls Try.prog 14 #[v, .int .i64 page, .int .i64 at_, .string s] w fun e W' => ∃ v', e = .returned (.tuple #[v', .int .i64 (programF (⟨pages, wear, fuse, ftorn, dead⟩ : Fl) page at_ s).2]) ∧ FlNew w v W' v' (programF (⟨pages, wear, fuse, ftorn, dead⟩ : Fl) page at_ s).1 := by
  have hall := h
  obtain ⟨p, q, rfl, hT, hI⟩ := h
  simp only at hT hI
  have hrP : RowOff (w.heap.size + 1) p := hT.off (Nat.le_succ _)
  have hrQ : RowOff (w.heap.size + 1) q := hI.off (Nat.le_succ _)
  have hT0 := hT
  have hI0 := hI
  obtain ⟨a, c, rfl, hp⟩ := hT0
  obtain ⟨a', c', rfl, _⟩ := hI0
  have hu2 : Ups w ((w.alloc (.cells #[.slice a pages.length c, .slice a' wear.length c', .int .i64 fuse, .string ftorn, .bool dead] 25)).alloc (.cells #[.slice none 0 0, .slice none 0 0, .int .i64 0, .string { data := #[] }, .bool false] 25)) := ((Own.start w).alloc (.cells #[.slice a pages.length c, .slice a' wear.length c', .int .i64 fuse, .string ftorn, .bool dead] 25) |>.alloc (.cells #[.slice none 0 0, .slice none 0 0, .int .i64 0, .string { data := #[] }, .bool false] 25)).bel
  have hk0 : ((w.alloc (.cells #[.slice a pages.length c, .slice a' wear.length c', .int .i64 fuse, .string ftorn, .bool dead] 25)).alloc (.cells #[.slice none 0 0, .slice none 0 0, .int .i64 0, .string { data := #[] }, .bool false] 25)).heap[w.heap.size]? = some (.cells #[.slice a pages.length c, .slice a' wear.length c', .int .i64 fuse, .string ftorn, .bool dead] 25) := ((Own.start w).alloc (.cells #[.slice a pages.length c, .slice a' wear.length c', .int .i64 fuse, .string ftorn, .bool dead] 25) |>.alloc (.cells #[.slice none 0 0, .slice none 0 0, .int .i64 0, .string { data := #[] }, .bool false] 25)).at w.heap.size 0 rfl rfl
  have hk1 : ((w.alloc (.cells #[.slice a pages.length c, .slice a' wear.length c', .int .i64 fuse, .string ftorn, .bool dead] 25)).alloc (.cells #[.slice none 0 0, .slice none 0 0, .int .i64 0, .string { data := #[] }, .bool false] 25)).heap[w.heap.size + 1]? = some (.cells #[.slice none 0 0, .slice none 0 0, .int .i64 0, .string { data := #[] }, .bool false] 25) := ((Own.start w).alloc (.cells #[.slice a pages.length c, .slice a' wear.length c', .int .i64 fuse, .string ftorn, .bool dead] 25) |>.alloc (.cells #[.slice none 0 0, .slice none 0 0, .int .i64 0, .string { data := #[] }, .bool false] 25)).at (w.heap.size + 1) 1 rfl rfl
  have hz2 : w.heap.size + 1 < ((w.alloc (.cells #[.slice a pages.length c, .slice a' wear.length c', .int .i64 fuse, .string ftorn, .bool dead] 25)).alloc (.cells #[.slice none 0 0, .slice none 0 0, .int .i64 0, .string { data := #[] }, .bool false] 25)).heap.size := (Array.getElem?_eq_some_iff.1 hk1).1
  have hst := rpage_calls _ _ page _ (hall.ups hu2) hf
  have he : programF (⟨pages, wear, fuse, ftorn, dead⟩ : Fl) page at_ s = ((⟨pages, wear, fuse, ftorn, dead⟩ : Fl), 1) := by simp [programF, standsB, hb]
  rw [he]
  rw [hb] at hst
  clear he hb
  go_enter Try.func14, Try.ntmps14
  go_wp2_with fail
  refine hst.mono ?_
  rintro e w3 ⟨rfl, hb3⟩
  obtain ⟨k0, k1, k2, k3, k4⟩ := block_cells (block_ups hk0 hb3)
  have hzz := block_ups hk1 hb3
  obtain ⟨d0, d1, d2, d3, d4⟩ := block_cells hzz
  have y0 := block_frozen hzz 0
  have y1 := block_frozen hzz 1
  have y2 := block_frozen hzz 2
  have y3 := block_frozen hzz 3
  have y4 := block_frozen hzz 4
  have hu3 := Ups.trans hu2 hb3
  have HA := Lib.hid hall
  clear hall hT hI hst hk0 hk1 hzz hf
  go_wp2_with fail
  refine bodyPost_ret (v := .tuple #[.agg #[.slice a pages.length c, .slice a' wear.length c', .int .i64 fuse, .string ftorn, .bool dead], .int .i64 1]) ?_ rfl ⟨_, rfl, ?_⟩
  · simp [results, Try.results14, go_sem, d0, d1, d2, d3, d4]
  · exact fl_stored hu3 (Nat.le_succ _) (HA.out.ups hu3) (FlOff.mk hrP hrQ) (fun B hB ho => ho) rfl

set_option maxRecDepth 100000 in
set_option maxHeartbeats 4000000 in
theorem rprogram_low (pages : List ByteArray) (wear : List Int) (fuse : Int) (ftorn : ByteArray) (dead : Bool) (v : Value) (n : Nat) (at_ : Int) (s : ByteArray) (w : World) (h : FlAt w v (⟨pages, wear, fuse, ftorn, dead⟩ : Fl)) (hf : FlFit (⟨pages, wear, fuse, ftorn, dead⟩ : Fl)) (hb : hasB (⟨pages, wear, fuse, ftorn, dead⟩ : Fl) n = true) (hn : n < pages.length) (h1 : at_ < 0) :
    Calls Try.prog 14 #[v, .int .i64 n, .int .i64 at_, .string s] w fun e W' => ∃ v', e = .returned (.tuple #[v', .int .i64 (programF (⟨pages, wear, fuse, ftorn, dead⟩ : Fl) n at_ s).2]) ∧ FlNew w v W' v' (programF (⟨pages, wear, fuse, ftorn, dead⟩ : Fl) n at_ s).1 := by
  have hall := h
  obtain ⟨p, q, rfl, hT, hI⟩ := h
  simp only at hT hI
  have hrP : RowOff (w.heap.size + 1) p := hT.off (Nat.le_succ _)
  have hrQ : RowOff (w.heap.size + 1) q := hI.off (Nat.le_succ _)
  have hT0 := hT
  have hI0 := hI
  obtain ⟨a, c, rfl, hp⟩ := hT0
  obtain ⟨a', c', rfl, _⟩ := hI0
  have hu2 : Ups w ((w.alloc (.cells #[.slice a pages.length c, .slice a' wear.length c', .int .i64 fuse, .string ftorn, .bool dead] 25)).alloc (.cells #[.slice none 0 0, .slice none 0 0, .int .i64 0, .string { data := #[] }, .bool false] 25)) := ((Own.start w).alloc (.cells #[.slice a pages.length c, .slice a' wear.length c', .int .i64 fuse, .string ftorn, .bool dead] 25) |>.alloc (.cells #[.slice none 0 0, .slice none 0 0, .int .i64 0, .string { data := #[] }, .bool false] 25)).bel
  have hk0 : ((w.alloc (.cells #[.slice a pages.length c, .slice a' wear.length c', .int .i64 fuse, .string ftorn, .bool dead] 25)).alloc (.cells #[.slice none 0 0, .slice none 0 0, .int .i64 0, .string { data := #[] }, .bool false] 25)).heap[w.heap.size]? = some (.cells #[.slice a pages.length c, .slice a' wear.length c', .int .i64 fuse, .string ftorn, .bool dead] 25) := ((Own.start w).alloc (.cells #[.slice a pages.length c, .slice a' wear.length c', .int .i64 fuse, .string ftorn, .bool dead] 25) |>.alloc (.cells #[.slice none 0 0, .slice none 0 0, .int .i64 0, .string { data := #[] }, .bool false] 25)).at w.heap.size 0 rfl rfl
  have hk1 : ((w.alloc (.cells #[.slice a pages.length c, .slice a' wear.length c', .int .i64 fuse, .string ftorn, .bool dead] 25)).alloc (.cells #[.slice none 0 0, .slice none 0 0, .int .i64 0, .string { data := #[] }, .bool false] 25)).heap[w.heap.size + 1]? = some (.cells #[.slice none 0 0, .slice none 0 0, .int .i64 0, .string { data := #[] }, .bool false] 25) := ((Own.start w).alloc (.cells #[.slice a pages.length c, .slice a' wear.length c', .int .i64 fuse, .string ftorn, .bool dead] 25) |>.alloc (.cells #[.slice none 0 0, .slice none 0 0, .int .i64 0, .string { data := #[] }, .bool false] 25)).at (w.heap.size + 1) 1 rfl rfl
  have hz2 : w.heap.size + 1 < ((w.alloc (.cells #[.slice a pages.length c, .slice a' wear.length c', .int .i64 fuse, .string ftorn, .bool dead] 25)).alloc (.cells #[.slice none 0 0, .slice none 0 0, .int .i64 0, .string { data := #[] }, .bool false] 25)).heap.size := (Array.getElem?_eq_some_iff.1 hk1).1
  have hst := rpage_calls _ _ n _ (hall.ups hu2) hf
  rw [hb] at hst
  have hck := (has_facts hb).1
  obtain ⟨b, off, rfl, hp'⟩ := hp (by omega)
  obtain ⟨c1, c2, c3, c4, c5, c6⟩ := check_facts hck
  simp only at c1 c2 c3 c4 c5
  have sn := old_size hck hn
  have s0 := old_size hck (n := 0) c1
  have sn1 := sn.2.1
  have sm : (maskOf (⟨pages, wear, fuse, ftorn, dead⟩ : Fl)).size ≤ 8192 := by rw [maskOf, maskT_size]; omega
  have s01 := s0.2.1
  have hip : (n : Int) < pages.length := by omega
  have hb1 : pages.length ≤ 1000 := by omega
  have hc0' : w.cell? ⟨b, off + n, none⟩ = some (.string (oldT (⟨pages, wear, fuse, ftorn, dead⟩ : Fl) n)) := hp' n hn
  have hwn : n < wear.length := by omega
  have hw6 : wear.length ≤ 1000 := by omega
  have hwz : wear.getD n 0 ∈ wear := by rw [List.getD_eq_getElem?_getD, List.getElem?_eq_getElem hwn]; exact List.getElem_mem _
  have hw1 := (c5 _ hwz).1
  have hw2 := (c5 _ hwz).2
  have hmk : ∀ W, Ups w W → Calls Try.prog 39 #[.agg #[.slice (some ⟨b, off, none⟩) pages.length c, .slice a' wear.length c', .int .i64 fuse, .string ftorn, .bool dead]] W fun e W' => e = .returned (.string (maskOf (⟨pages, wear, fuse, ftorn, dead⟩ : Fl))) ∧ Ups W W' := fun W hU => rmask_calls (⟨pages, wear, fuse, ftorn, dead⟩ : Fl) _ W (hall.ups hU) (oldT (⟨pages, wear, fuse, ftorn, dead⟩ : Fl) 0) c1 rfl (by simp only; omega) s01 c4
  have he : programF (⟨pages, wear, fuse, ftorn, dead⟩ : Fl) n at_ s = ((⟨pages, wear, fuse, ftorn, dead⟩ : Fl), 1) := by
    have : standsB (⟨pages, wear, fuse, ftorn, dead⟩ : Fl) n at_ s.size = false := by
      simp only [standsB, hb, Bool.true_and, Int.toNat_natCast]
      simp
      try omega
    simp [programF, this]
  rw [he]
  generalize oldT (⟨pages, wear, fuse, ftorn, dead⟩ : Fl) n = old at *
  clear he hb c3 c5 c6 hp hp' s0 sn hwz hck hmk
  go_enter Try.func14, Try.ntmps14
  go_wp2_with fail
  refine hst.mono ?_
  rintro e w3 ⟨rfl, hb3⟩
  have hu3 := Ups.trans hu2 hb3
  have hk03 := block_ups hk0 hb3
  have hzz3 := block_ups hk1 hb3
  have hz3 : w.heap.size + 1 < w3.heap.size := Nat.lt_of_lt_of_le hz2 hb3.size
  have hcells := fun W (hU : Ups (World.drew w3) W) => block_cells (block_ups hk03 (drew_ups hU))
  have hc0 := fun W (hU : Ups (World.drew w3) W) => (hcells W hU).1
  have hcold := fun W (hU : Ups (World.drew w3) W) => cell_ups (Ups.trans hu3 (drew_ups hU)) hc0'
  have hfl := fun W (hU : Ups (World.drew w3) W) => hall.ups (Ups.trans hu3 (drew_ups hU))
  have hsize := fun W (hU : Ups (World.drew w3) W) => Nat.lt_of_lt_of_le hz3 (drew_ups hU).size
  obtain ⟨k0, k1, k2, k3, k4⟩ := block_cells hk03
  have hcc := cell_ups hu3 hc0'
  have HA := Lib.hid hall
  clear hT hI hst hk0 hk1 hk03
  have hzz := hzz3
  obtain ⟨d0, d1, d2, d3, d4⟩ := block_cells hzz
  have y0 := block_frozen hzz 0
  have y1 := block_frozen hzz 1
  have y2 := block_frozen hzz 2
  have y3 := block_frozen hzz 3
  have y4 := block_frozen hzz 4
  clear hcells hc0 hcold hfl hsize hall hzz3 hzz
  go_wp2_with fail
  refine bodyPost_ret (v := .tuple #[.agg #[.slice (some ⟨b, off, none⟩) pages.length c, .slice a' wear.length c', .int .i64 fuse, .string ftorn, .bool dead], .int .i64 1]) ?_ rfl ⟨_, rfl, ?_⟩
  · simp [results, Try.results14, go_sem, d0, d1, d2, d3, d4]
  · exact fl_stored hu3 (Nat.le_succ _) (HA.out.ups hu3) (FlOff.mk hrP hrQ) (fun B hB ho => ho) rfl

set_option maxRecDepth 100000 in
set_option maxHeartbeats 4000000 in
theorem rprogram_high (pages : List ByteArray) (wear : List Int) (fuse : Int) (ftorn : ByteArray) (dead : Bool) (v : Value) (n : Nat) (at_ : Int) (s : ByteArray) (w : World) (h : FlAt w v (⟨pages, wear, fuse, ftorn, dead⟩ : Fl)) (hf : FlFit (⟨pages, wear, fuse, ftorn, dead⟩ : Fl)) (hb : hasB (⟨pages, wear, fuse, ftorn, dead⟩ : Fl) n = true) (hn : n < pages.length) (h1 : ¬ at_ < 0) (h2 : ((oldT (⟨pages, wear, fuse, ftorn, dead⟩ : Fl) n).size : Int) < at_) :
    Calls Try.prog 14 #[v, .int .i64 n, .int .i64 at_, .string s] w fun e W' => ∃ v', e = .returned (.tuple #[v', .int .i64 (programF (⟨pages, wear, fuse, ftorn, dead⟩ : Fl) n at_ s).2]) ∧ FlNew w v W' v' (programF (⟨pages, wear, fuse, ftorn, dead⟩ : Fl) n at_ s).1 := by
  have hall := h
  obtain ⟨p, q, rfl, hT, hI⟩ := h
  simp only at hT hI
  have hrP : RowOff (w.heap.size + 1) p := hT.off (Nat.le_succ _)
  have hrQ : RowOff (w.heap.size + 1) q := hI.off (Nat.le_succ _)
  have hT0 := hT
  have hI0 := hI
  obtain ⟨a, c, rfl, hp⟩ := hT0
  obtain ⟨a', c', rfl, _⟩ := hI0
  have hu2 : Ups w ((w.alloc (.cells #[.slice a pages.length c, .slice a' wear.length c', .int .i64 fuse, .string ftorn, .bool dead] 25)).alloc (.cells #[.slice none 0 0, .slice none 0 0, .int .i64 0, .string { data := #[] }, .bool false] 25)) := ((Own.start w).alloc (.cells #[.slice a pages.length c, .slice a' wear.length c', .int .i64 fuse, .string ftorn, .bool dead] 25) |>.alloc (.cells #[.slice none 0 0, .slice none 0 0, .int .i64 0, .string { data := #[] }, .bool false] 25)).bel
  have hk0 : ((w.alloc (.cells #[.slice a pages.length c, .slice a' wear.length c', .int .i64 fuse, .string ftorn, .bool dead] 25)).alloc (.cells #[.slice none 0 0, .slice none 0 0, .int .i64 0, .string { data := #[] }, .bool false] 25)).heap[w.heap.size]? = some (.cells #[.slice a pages.length c, .slice a' wear.length c', .int .i64 fuse, .string ftorn, .bool dead] 25) := ((Own.start w).alloc (.cells #[.slice a pages.length c, .slice a' wear.length c', .int .i64 fuse, .string ftorn, .bool dead] 25) |>.alloc (.cells #[.slice none 0 0, .slice none 0 0, .int .i64 0, .string { data := #[] }, .bool false] 25)).at w.heap.size 0 rfl rfl
  have hk1 : ((w.alloc (.cells #[.slice a pages.length c, .slice a' wear.length c', .int .i64 fuse, .string ftorn, .bool dead] 25)).alloc (.cells #[.slice none 0 0, .slice none 0 0, .int .i64 0, .string { data := #[] }, .bool false] 25)).heap[w.heap.size + 1]? = some (.cells #[.slice none 0 0, .slice none 0 0, .int .i64 0, .string { data := #[] }, .bool false] 25) := ((Own.start w).alloc (.cells #[.slice a pages.length c, .slice a' wear.length c', .int .i64 fuse, .string ftorn, .bool dead] 25) |>.alloc (.cells #[.slice none 0 0, .slice none 0 0, .int .i64 0, .string { data := #[] }, .bool false] 25)).at (w.heap.size + 1) 1 rfl rfl
  have hz2 : w.heap.size + 1 < ((w.alloc (.cells #[.slice a pages.length c, .slice a' wear.length c', .int .i64 fuse, .string ftorn, .bool dead] 25)).alloc (.cells #[.slice none 0 0, .slice none 0 0, .int .i64 0, .string { data := #[] }, .bool false] 25)).heap.size := (Array.getElem?_eq_some_iff.1 hk1).1
  have hst := rpage_calls _ _ n _ (hall.ups hu2) hf
  rw [hb] at hst
  have hck := (has_facts hb).1
  obtain ⟨b, off, rfl, hp'⟩ := hp (by omega)
  obtain ⟨c1, c2, c3, c4, c5, c6⟩ := check_facts hck
  simp only at c1 c2 c3 c4 c5
  have sn := old_size hck hn
  have s0 := old_size hck (n := 0) c1
  have sn1 := sn.2.1
  have sm : (maskOf (⟨pages, wear, fuse, ftorn, dead⟩ : Fl)).size ≤ 8192 := by rw [maskOf, maskT_size]; omega
  have s01 := s0.2.1
  have hip : (n : Int) < pages.length := by omega
  have hb1 : pages.length ≤ 1000 := by omega
  have hc0' : w.cell? ⟨b, off + n, none⟩ = some (.string (oldT (⟨pages, wear, fuse, ftorn, dead⟩ : Fl) n)) := hp' n hn
  have hwn : n < wear.length := by omega
  have hw6 : wear.length ≤ 1000 := by omega
  have hwz : wear.getD n 0 ∈ wear := by rw [List.getD_eq_getElem?_getD, List.getElem?_eq_getElem hwn]; exact List.getElem_mem _
  have hw1 := (c5 _ hwz).1
  have hw2 := (c5 _ hwz).2
  have hmk : ∀ W, Ups w W → Calls Try.prog 39 #[.agg #[.slice (some ⟨b, off, none⟩) pages.length c, .slice a' wear.length c', .int .i64 fuse, .string ftorn, .bool dead]] W fun e W' => e = .returned (.string (maskOf (⟨pages, wear, fuse, ftorn, dead⟩ : Fl))) ∧ Ups W W' := fun W hU => rmask_calls (⟨pages, wear, fuse, ftorn, dead⟩ : Fl) _ W (hall.ups hU) (oldT (⟨pages, wear, fuse, ftorn, dead⟩ : Fl) 0) c1 rfl (by simp only; omega) s01 c4
  have he : programF (⟨pages, wear, fuse, ftorn, dead⟩ : Fl) n at_ s = ((⟨pages, wear, fuse, ftorn, dead⟩ : Fl), 1) := by
    have : standsB (⟨pages, wear, fuse, ftorn, dead⟩ : Fl) n at_ s.size = false := by
      simp only [standsB, hb, Bool.true_and, Int.toNat_natCast]
      simp
      try omega
    simp [programF, this]
  rw [he]
  generalize oldT (⟨pages, wear, fuse, ftorn, dead⟩ : Fl) n = old at *
  clear he hb c3 c5 c6 hp hp' s0 sn hwz hck hmk
  go_enter Try.func14, Try.ntmps14
  go_wp2_with fail
  refine hst.mono ?_
  rintro e w3 ⟨rfl, hb3⟩
  have hu3 := Ups.trans hu2 hb3
  have hk03 := block_ups hk0 hb3
  have hzz3 := block_ups hk1 hb3
  have hz3 : w.heap.size + 1 < w3.heap.size := Nat.lt_of_lt_of_le hz2 hb3.size
  have hcells := fun W (hU : Ups (World.drew w3) W) => block_cells (block_ups hk03 (drew_ups hU))
  have hc0 := fun W (hU : Ups (World.drew w3) W) => (hcells W hU).1
  have hcold := fun W (hU : Ups (World.drew w3) W) => cell_ups (Ups.trans hu3 (drew_ups hU)) hc0'
  have hfl := fun W (hU : Ups (World.drew w3) W) => hall.ups (Ups.trans hu3 (drew_ups hU))
  have hsize := fun W (hU : Ups (World.drew w3) W) => Nat.lt_of_lt_of_le hz3 (drew_ups hU).size
  obtain ⟨k0, k1, k2, k3, k4⟩ := block_cells hk03
  have hcc := cell_ups hu3 hc0'
  have HA := Lib.hid hall
  clear hT hI hst hk0 hk1 hk03
  have hzz := hzz3
  obtain ⟨d0, d1, d2, d3, d4⟩ := block_cells hzz
  have y0 := block_frozen hzz 0
  have y1 := block_frozen hzz 1
  have y2 := block_frozen hzz 2
  have y3 := block_frozen hzz 3
  have y4 := block_frozen hzz 4
  clear hcells hc0 hcold hfl hsize hall hzz3 hzz
  go_wp2_with fail
  refine bodyPost_ret (v := .tuple #[.agg #[.slice (some ⟨b, off, none⟩) pages.length c, .slice a' wear.length c', .int .i64 fuse, .string ftorn, .bool dead], .int .i64 1]) ?_ rfl ⟨_, rfl, ?_⟩
  · simp [results, Try.results14, go_sem, d0, d1, d2, d3, d4]
  · exact fl_stored hu3 (Nat.le_succ _) (HA.out.ups hu3) (FlOff.mk hrP hrQ) (fun B hB ho => ho) rfl

set_option maxRecDepth 100000 in
set_option maxHeartbeats 4000000 in
theorem rprogram_long (pages : List ByteArray) (wear : List Int) (fuse : Int) (ftorn : ByteArray) (dead : Bool) (v : Value) (n : Nat) (at_ : Int) (s : ByteArray) (w : World) (h : FlAt w v (⟨pages, wear, fuse, ftorn, dead⟩ : Fl)) (hf : FlFit (⟨pages, wear, fuse, ftorn, dead⟩ : Fl)) (hb : hasB (⟨pages, wear, fuse, ftorn, dead⟩ : Fl) n = true) (hn : n < pages.length) (h1 : ¬ at_ < 0) (h2 : ¬ ((oldT (⟨pages, wear, fuse, ftorn, dead⟩ : Fl) n).size : Int) < at_) (h3 : ((oldT (⟨pages, wear, fuse, ftorn, dead⟩ : Fl) n).size : Int) - at_ < s.size) :
    Calls Try.prog 14 #[v, .int .i64 n, .int .i64 at_, .string s] w fun e W' => ∃ v', e = .returned (.tuple #[v', .int .i64 (programF (⟨pages, wear, fuse, ftorn, dead⟩ : Fl) n at_ s).2]) ∧ FlNew w v W' v' (programF (⟨pages, wear, fuse, ftorn, dead⟩ : Fl) n at_ s).1 := by
  have hall := h
  obtain ⟨p, q, rfl, hT, hI⟩ := h
  simp only at hT hI
  have hrP : RowOff (w.heap.size + 1) p := hT.off (Nat.le_succ _)
  have hrQ : RowOff (w.heap.size + 1) q := hI.off (Nat.le_succ _)
  have hT0 := hT
  have hI0 := hI
  obtain ⟨a, c, rfl, hp⟩ := hT0
  obtain ⟨a', c', rfl, _⟩ := hI0
  have hu2 : Ups w ((w.alloc (.cells #[.slice a pages.length c, .slice a' wear.length c', .int .i64 fuse, .string ftorn, .bool dead] 25)).alloc (.cells #[.slice none 0 0, .slice none 0 0, .int .i64 0, .string { data := #[] }, .bool false] 25)) := ((Own.start w).alloc (.cells #[.slice a pages.length c, .slice a' wear.length c', .int .i64 fuse, .string ftorn, .bool dead] 25) |>.alloc (.cells #[.slice none 0 0, .slice none 0 0, .int .i64 0, .string { data := #[] }, .bool false] 25)).bel
  have hk0 : ((w.alloc (.cells #[.slice a pages.length c, .slice a' wear.length c', .int .i64 fuse, .string ftorn, .bool dead] 25)).alloc (.cells #[.slice none 0 0, .slice none 0 0, .int .i64 0, .string { data := #[] }, .bool false] 25)).heap[w.heap.size]? = some (.cells #[.slice a pages.length c, .slice a' wear.length c', .int .i64 fuse, .string ftorn, .bool dead] 25) := ((Own.start w).alloc (.cells #[.slice a pages.length c, .slice a' wear.length c', .int .i64 fuse, .string ftorn, .bool dead] 25) |>.alloc (.cells #[.slice none 0 0, .slice none 0 0, .int .i64 0, .string { data := #[] }, .bool false] 25)).at w.heap.size 0 rfl rfl
  have hk1 : ((w.alloc (.cells #[.slice a pages.length c, .slice a' wear.length c', .int .i64 fuse, .string ftorn, .bool dead] 25)).alloc (.cells #[.slice none 0 0, .slice none 0 0, .int .i64 0, .string { data := #[] }, .bool false] 25)).heap[w.heap.size + 1]? = some (.cells #[.slice none 0 0, .slice none 0 0, .int .i64 0, .string { data := #[] }, .bool false] 25) := ((Own.start w).alloc (.cells #[.slice a pages.length c, .slice a' wear.length c', .int .i64 fuse, .string ftorn, .bool dead] 25) |>.alloc (.cells #[.slice none 0 0, .slice none 0 0, .int .i64 0, .string { data := #[] }, .bool false] 25)).at (w.heap.size + 1) 1 rfl rfl
  have hz2 : w.heap.size + 1 < ((w.alloc (.cells #[.slice a pages.length c, .slice a' wear.length c', .int .i64 fuse, .string ftorn, .bool dead] 25)).alloc (.cells #[.slice none 0 0, .slice none 0 0, .int .i64 0, .string { data := #[] }, .bool false] 25)).heap.size := (Array.getElem?_eq_some_iff.1 hk1).1
  have hst := rpage_calls _ _ n _ (hall.ups hu2) hf
  rw [hb] at hst
  have hck := (has_facts hb).1
  obtain ⟨b, off, rfl, hp'⟩ := hp (by omega)
  obtain ⟨c1, c2, c3, c4, c5, c6⟩ := check_facts hck
  simp only at c1 c2 c3 c4 c5
  have sn := old_size hck hn
  have s0 := old_size hck (n := 0) c1
  have sn1 := sn.2.1
  have sm : (maskOf (⟨pages, wear, fuse, ftorn, dead⟩ : Fl)).size ≤ 8192 := by rw [maskOf, maskT_size]; omega
  have s01 := s0.2.1
  have hip : (n : Int) < pages.length := by omega
  have hb1 : pages.length ≤ 1000 := by omega
  have hc0' : w.cell? ⟨b, off + n, none⟩ = some (.string (oldT (⟨pages, wear, fuse, ftorn, dead⟩ : Fl) n)) := hp' n hn
  have hwn : n < wear.length := by omega
  have hw6 : wear.length ≤ 1000 := by omega
  have hwz : wear.getD n 0 ∈ wear := by rw [List.getD_eq_getElem?_getD, List.getElem?_eq_getElem hwn]; exact List.getElem_mem _
  have hw1 := (c5 _ hwz).1
  have hw2 := (c5 _ hwz).2
  have hmk : ∀ W, Ups w W → Calls Try.prog 39 #[.agg #[.slice (some ⟨b, off, none⟩) pages.length c, .slice a' wear.length c', .int .i64 fuse, .string ftorn, .bool dead]] W fun e W' => e = .returned (.string (maskOf (⟨pages, wear, fuse, ftorn, dead⟩ : Fl))) ∧ Ups W W' := fun W hU => rmask_calls (⟨pages, wear, fuse, ftorn, dead⟩ : Fl) _ W (hall.ups hU) (oldT (⟨pages, wear, fuse, ftorn, dead⟩ : Fl) 0) c1 rfl (by simp only; omega) s01 c4
  have he : programF (⟨pages, wear, fuse, ftorn, dead⟩ : Fl) n at_ s = ((⟨pages, wear, fuse, ftorn, dead⟩ : Fl), 1) := by
    have : standsB (⟨pages, wear, fuse, ftorn, dead⟩ : Fl) n at_ s.size = false := by
      simp only [standsB, hb, Bool.true_and, Int.toNat_natCast]
      simp
      try omega
    simp [programF, this]
  rw [he]
  have hwr : IntKind.i64.wrap (((oldT (⟨pages, wear, fuse, ftorn, dead⟩ : Fl) n).size : Int) - at_) = (oldT (⟨pages, wear, fuse, ftorn, dead⟩ : Fl) n).size - at_ := (IntWalk.i64_left _).trans (IntWalk.wrap64_in _ ⟨by omega, by omega⟩)
  generalize oldT (⟨pages, wear, fuse, ftorn, dead⟩ : Fl) n = old at *
  clear he hb c3 c5 c6 hp hp' s0 sn hwz hck hmk
  go_enter Try.func14, Try.ntmps14
  go_wp2_with fail
  refine hst.mono ?_
  rintro e w3 ⟨rfl, hb3⟩
  have hu3 := Ups.trans hu2 hb3
  have hk03 := block_ups hk0 hb3
  have hzz3 := block_ups hk1 hb3
  have hz3 : w.heap.size + 1 < w3.heap.size := Nat.lt_of_lt_of_le hz2 hb3.size
  have hcells := fun W (hU : Ups (World.drew w3) W) => block_cells (block_ups hk03 (drew_ups hU))
  have hc0 := fun W (hU : Ups (World.drew w3) W) => (hcells W hU).1
  have hcold := fun W (hU : Ups (World.drew w3) W) => cell_ups (Ups.trans hu3 (drew_ups hU)) hc0'
  have hfl := fun W (hU : Ups (World.drew w3) W) => hall.ups (Ups.trans hu3 (drew_ups hU))
  have hsize := fun W (hU : Ups (World.drew w3) W) => Nat.lt_of_lt_of_le hz3 (drew_ups hU).size
  obtain ⟨k0, k1, k2, k3, k4⟩ := block_cells hk03
  have hcc := cell_ups hu3 hc0'
  have HA := Lib.hid hall
  clear hT hI hst hk0 hk1 hk03
  have hzz := hzz3
  obtain ⟨d0, d1, d2, d3, d4⟩ := block_cells hzz
  have y0 := block_frozen hzz 0
  have y1 := block_frozen hzz 1
  have y2 := block_frozen hzz 2
  have y3 := block_frozen hzz 3
  have y4 := block_frozen hzz 4
  clear hcells hc0 hcold hfl hsize hall hzz3 hzz
  go_wp2_with fail
  refine bodyPost_ret (v := .tuple #[.agg #[.slice (some ⟨b, off, none⟩) pages.length c, .slice a' wear.length c', .int .i64 fuse, .string ftorn, .bool dead], .int .i64 1]) ?_ rfl ⟨_, rfl, ?_⟩
  · simp [results, Try.results14, go_sem, d0, d1, d2, d3, d4]
  · exact fl_stored hu3 (Nat.le_succ _) (HA.out.ups hu3) (FlOff.mk hrP hrQ) (fun B hB ho => ho) rfl

set_option maxRecDepth 100000 in
set_option maxHeartbeats 4000000 in
theorem rprogram_dead (pages : List ByteArray) (wear : List Int) (fuse : Int) (ftorn : ByteArray) (v : Value) (n k : Nat) (s : ByteArray) (w : World) (h : FlAt w v (⟨pages, wear, fuse, ftorn, true⟩ : Fl)) (hf : FlFit (⟨pages, wear, fuse, ftorn, true⟩ : Fl)) (hb : hasB (⟨pages, wear, fuse, ftorn, true⟩ : Fl) n = true) (hn : n < pages.length) (hks : k + s.size ≤ (oldT (⟨pages, wear, fuse, ftorn, true⟩ : Fl) n).size) :
    Calls Try.prog 14 #[v, .int .i64 n, .int .i64 k, .string s] w fun e W' => ∃ v', e = .returned (.tuple #[v', .int .i64 (programF (⟨pages, wear, fuse, ftorn, true⟩ : Fl) n k s).2]) ∧ FlNew w v W' v' (programF (⟨pages, wear, fuse, ftorn, true⟩ : Fl) n k s).1 := by
  have hall := h
  obtain ⟨p, q, rfl, hT, hI⟩ := h
  simp only at hT hI
  have hrP : RowOff (w.heap.size + 1) p := hT.off (Nat.le_succ _)
  have hrQ : RowOff (w.heap.size + 1) q := hI.off (Nat.le_succ _)
  have hT0 := hT
  have hI0 := hI
  obtain ⟨a, c, rfl, hp⟩ := hT0
  obtain ⟨a', c', rfl, _⟩ := hI0
  have hu2 : Ups w ((w.alloc (.cells #[.slice a pages.length c, .slice a' wear.length c', .int .i64 fuse, .string ftorn, .bool true] 25)).alloc (.cells #[.slice none 0 0, .slice none 0 0, .int .i64 0, .string { data := #[] }, .bool false] 25)) := ((Own.start w).alloc (.cells #[.slice a pages.length c, .slice a' wear.length c', .int .i64 fuse, .string ftorn, .bool true] 25) |>.alloc (.cells #[.slice none 0 0, .slice none 0 0, .int .i64 0, .string { data := #[] }, .bool false] 25)).bel
  have hk0 : ((w.alloc (.cells #[.slice a pages.length c, .slice a' wear.length c', .int .i64 fuse, .string ftorn, .bool true] 25)).alloc (.cells #[.slice none 0 0, .slice none 0 0, .int .i64 0, .string { data := #[] }, .bool false] 25)).heap[w.heap.size]? = some (.cells #[.slice a pages.length c, .slice a' wear.length c', .int .i64 fuse, .string ftorn, .bool true] 25) := ((Own.start w).alloc (.cells #[.slice a pages.length c, .slice a' wear.length c', .int .i64 fuse, .string ftorn, .bool true] 25) |>.alloc (.cells #[.slice none 0 0, .slice none 0 0, .int .i64 0, .string { data := #[] }, .bool false] 25)).at w.heap.size 0 rfl rfl
  have hk1 : ((w.alloc (.cells #[.slice a pages.length c, .slice a' wear.length c', .int .i64 fuse, .string ftorn, .bool true] 25)).alloc (.cells #[.slice none 0 0, .slice none 0 0, .int .i64 0, .string { data := #[] }, .bool false] 25)).heap[w.heap.size + 1]? = some (.cells #[.slice none 0 0, .slice none 0 0, .int .i64 0, .string { data := #[] }, .bool false] 25) := ((Own.start w).alloc (.cells #[.slice a pages.length c, .slice a' wear.length c', .int .i64 fuse, .string ftorn, .bool true] 25) |>.alloc (.cells #[.slice none 0 0, .slice none 0 0, .int .i64 0, .string { data := #[] }, .bool false] 25)).at (w.heap.size + 1) 1 rfl rfl
  have hz2 : w.heap.size + 1 < ((w.alloc (.cells #[.slice a pages.length c, .slice a' wear.length c', .int .i64 fuse, .string ftorn, .bool true] 25)).alloc (.cells #[.slice none 0 0, .slice none 0 0, .int .i64 0, .string { data := #[] }, .bool false] 25)).heap.size := (Array.getElem?_eq_some_iff.1 hk1).1
  have hst := rpage_calls _ _ n _ (hall.ups hu2) hf
  rw [hb] at hst
  have hck := (has_facts hb).1
  obtain ⟨b, off, rfl, hp'⟩ := hp (by omega)
  obtain ⟨c1, c2, c3, c4, c5, c6⟩ := check_facts hck
  simp only at c1 c2 c3 c4 c5
  have sn := old_size hck hn
  have s0 := old_size hck (n := 0) c1
  have sn1 := sn.2.1
  have sm : (maskOf (⟨pages, wear, fuse, ftorn, true⟩ : Fl)).size ≤ 8192 := by rw [maskOf, maskT_size]; omega
  have s01 := s0.2.1
  have hip : (n : Int) < pages.length := by omega
  have hb1 : pages.length ≤ 1000 := by omega
  have hc0' : w.cell? ⟨b, off + n, none⟩ = some (.string (oldT (⟨pages, wear, fuse, ftorn, true⟩ : Fl) n)) := hp' n hn
  have hwn : n < wear.length := by omega
  have hw6 : wear.length ≤ 1000 := by omega
  have hwz : wear.getD n 0 ∈ wear := by rw [List.getD_eq_getElem?_getD, List.getElem?_eq_getElem hwn]; exact List.getElem_mem _
  have hw1 := (c5 _ hwz).1
  have hw2 := (c5 _ hwz).2
  have hmk : ∀ W, Ups w W → Calls Try.prog 39 #[.agg #[.slice (some ⟨b, off, none⟩) pages.length c, .slice a' wear.length c', .int .i64 fuse, .string ftorn, .bool true]] W fun e W' => e = .returned (.string (maskOf (⟨pages, wear, fuse, ftorn, true⟩ : Fl))) ∧ Ups W W' := fun W hU => rmask_calls (⟨pages, wear, fuse, ftorn, true⟩ : Fl) _ W (hall.ups hU) (oldT (⟨pages, wear, fuse, ftorn, true⟩ : Fl) 0) c1 rfl (by simp only; omega) s01 c4
  have hsb : standsB (⟨pages, wear, fuse, ftorn, true⟩ : Fl) n k s.size = true := by
    simp only [standsB, hb, Bool.true_and, Int.toNat_natCast]
    simp
    omega
  have he : programF (⟨pages, wear, fuse, ftorn, true⟩ : Fl) n k s = ((⟨pages, wear, fuse, ftorn, true⟩ : Fl), 8) := by simp [programF, hsb, stepF]
  rw [he]
  generalize oldT (⟨pages, wear, fuse, ftorn, true⟩ : Fl) n = old at *
  clear he hb hsb c3 c5 c6 hp hp' s0 sn hwz hck hmk
  have tk1 : ¬ (k : Int) < 0 := by omega
  have tk2 : ¬ (old.size : Int) < k := by omega
  have tk3 : ¬ (old.size : Int) - k < s.size := by omega
  have hwr : IntKind.i64.wrap ((old.size : Int) - k) = old.size - k := (IntWalk.i64_left _).trans (IntWalk.wrap64_in _ ⟨by omega, by omega⟩)
  go_enter Try.func14, Try.ntmps14
  go_wp2_with fail
  refine hst.mono ?_
  rintro e w3 ⟨rfl, hb3⟩
  have hu3 := Ups.trans hu2 hb3
  have hk03 := block_ups hk0 hb3
  have hzz3 := block_ups hk1 hb3
  have hz3 : w.heap.size + 1 < w3.heap.size := Nat.lt_of_lt_of_le hz2 hb3.size
  have hcells := fun W (hU : Ups (World.drew w3) W) => block_cells (block_ups hk03 (drew_ups hU))
  have hc0 := fun W (hU : Ups (World.drew w3) W) => (hcells W hU).1
  have hcold := fun W (hU : Ups (World.drew w3) W) => cell_ups (Ups.trans hu3 (drew_ups hU)) hc0'
  have hfl := fun W (hU : Ups (World.drew w3) W) => hall.ups (Ups.trans hu3 (drew_ups hU))
  have hsize := fun W (hU : Ups (World.drew w3) W) => Nat.lt_of_lt_of_le hz3 (drew_ups hU).size
  obtain ⟨k0, k1, k2, k3, k4⟩ := block_cells hk03
  have hcc := cell_ups hu3 hc0'
  have HA := Lib.hid hall
  clear hT hI hst hk0 hk1 hk03
  have hzz := hzz3
  obtain ⟨d0, d1, d2, d3, d4⟩ := block_cells hzz
  have y0 := block_frozen hzz 0
  have y1 := block_frozen hzz 1
  have y2 := block_frozen hzz 2
  have y3 := block_frozen hzz 3
  have y4 := block_frozen hzz 4
  clear hcells hc0 hcold hfl hsize hall hzz3 hzz
  go_wp2_with fail
  refine bodyPost_ret (v := .tuple #[.agg #[.slice (some ⟨b, off, none⟩) pages.length c, .slice a' wear.length c', .int .i64 fuse, .string ftorn, .bool true], .int .i64 8]) ?_ rfl ⟨_, rfl, ?_⟩
  · simp [results, Try.results14, go_sem, d0, d1, d2, d3, d4]
  · exact fl_stored hu3 (Nat.le_succ _) (HA.out.ups hu3) (FlOff.mk hrP hrQ) (fun B hB ho => ho) rfl

set_option maxRecDepth 100000 in
set_option maxHeartbeats 4000000 in
theorem rprogram_zero (pages : List ByteArray) (wear : List Int) (fuse : Int) (ftorn : ByteArray) (v : Value) (n k : Nat) (s : ByteArray) (w : World) (h : FlAt w v (⟨pages, wear, fuse, ftorn, false⟩ : Fl)) (hf : FlFit (⟨pages, wear, fuse, ftorn, false⟩ : Fl)) (hb : hasB (⟨pages, wear, fuse, ftorn, false⟩ : Fl) n = true) (hn : n < pages.length) (hks : k + s.size ≤ (oldT (⟨pages, wear, fuse, ftorn, false⟩ : Fl) n).size) (h0 : fuse = 0) :
    Calls Try.prog 14 #[v, .int .i64 n, .int .i64 k, .string s] w fun e W' => ∃ v', e = .returned (.tuple #[v', .int .i64 (programF (⟨pages, wear, fuse, ftorn, false⟩ : Fl) n k s).2]) ∧ FlNew w v W' v' (programF (⟨pages, wear, fuse, ftorn, false⟩ : Fl) n k s).1 := by
  have hall := h
  obtain ⟨p, q, rfl, hT, hI⟩ := h
  simp only at hT hI
  have hrP : RowOff (w.heap.size + 1) p := hT.off (Nat.le_succ _)
  have hrQ : RowOff (w.heap.size + 1) q := hI.off (Nat.le_succ _)
  have hT0 := hT
  have hI0 := hI
  obtain ⟨a, c, rfl, hp⟩ := hT0
  obtain ⟨a', c', rfl, _⟩ := hI0
  have hu2 : Ups w ((w.alloc (.cells #[.slice a pages.length c, .slice a' wear.length c', .int .i64 fuse, .string ftorn, .bool false] 25)).alloc (.cells #[.slice none 0 0, .slice none 0 0, .int .i64 0, .string { data := #[] }, .bool false] 25)) := ((Own.start w).alloc (.cells #[.slice a pages.length c, .slice a' wear.length c', .int .i64 fuse, .string ftorn, .bool false] 25) |>.alloc (.cells #[.slice none 0 0, .slice none 0 0, .int .i64 0, .string { data := #[] }, .bool false] 25)).bel
  have hk0 : ((w.alloc (.cells #[.slice a pages.length c, .slice a' wear.length c', .int .i64 fuse, .string ftorn, .bool false] 25)).alloc (.cells #[.slice none 0 0, .slice none 0 0, .int .i64 0, .string { data := #[] }, .bool false] 25)).heap[w.heap.size]? = some (.cells #[.slice a pages.length c, .slice a' wear.length c', .int .i64 fuse, .string ftorn, .bool false] 25) := ((Own.start w).alloc (.cells #[.slice a pages.length c, .slice a' wear.length c', .int .i64 fuse, .string ftorn, .bool false] 25) |>.alloc (.cells #[.slice none 0 0, .slice none 0 0, .int .i64 0, .string { data := #[] }, .bool false] 25)).at w.heap.size 0 rfl rfl
  have hk1 : ((w.alloc (.cells #[.slice a pages.length c, .slice a' wear.length c', .int .i64 fuse, .string ftorn, .bool false] 25)).alloc (.cells #[.slice none 0 0, .slice none 0 0, .int .i64 0, .string { data := #[] }, .bool false] 25)).heap[w.heap.size + 1]? = some (.cells #[.slice none 0 0, .slice none 0 0, .int .i64 0, .string { data := #[] }, .bool false] 25) := ((Own.start w).alloc (.cells #[.slice a pages.length c, .slice a' wear.length c', .int .i64 fuse, .string ftorn, .bool false] 25) |>.alloc (.cells #[.slice none 0 0, .slice none 0 0, .int .i64 0, .string { data := #[] }, .bool false] 25)).at (w.heap.size + 1) 1 rfl rfl
  have hz2 : w.heap.size + 1 < ((w.alloc (.cells #[.slice a pages.length c, .slice a' wear.length c', .int .i64 fuse, .string ftorn, .bool false] 25)).alloc (.cells #[.slice none 0 0, .slice none 0 0, .int .i64 0, .string { data := #[] }, .bool false] 25)).heap.size := (Array.getElem?_eq_some_iff.1 hk1).1
  have hst := rpage_calls _ _ n _ (hall.ups hu2) hf
  rw [hb] at hst
  have hck := (has_facts hb).1
  obtain ⟨b, off, rfl, hp'⟩ := hp (by omega)
  obtain ⟨c1, c2, c3, c4, c5, c6⟩ := check_facts hck
  simp only at c1 c2 c3 c4 c5
  have sn := old_size hck hn
  have s0 := old_size hck (n := 0) c1
  have sn1 := sn.2.1
  have sm : (maskOf (⟨pages, wear, fuse, ftorn, false⟩ : Fl)).size ≤ 8192 := by rw [maskOf, maskT_size]; omega
  have s01 := s0.2.1
  have hip : (n : Int) < pages.length := by omega
  have hb1 : pages.length ≤ 1000 := by omega
  have hc0' : w.cell? ⟨b, off + n, none⟩ = some (.string (oldT (⟨pages, wear, fuse, ftorn, false⟩ : Fl) n)) := hp' n hn
  have hwn : n < wear.length := by omega
  have hw6 : wear.length ≤ 1000 := by omega
  have hwz : wear.getD n 0 ∈ wear := by rw [List.getD_eq_getElem?_getD, List.getElem?_eq_getElem hwn]; exact List.getElem_mem _
  have hw1 := (c5 _ hwz).1
  have hw2 := (c5 _ hwz).2
  have hmk : ∀ W, Ups w W → Calls Try.prog 39 #[.agg #[.slice (some ⟨b, off, none⟩) pages.length c, .slice a' wear.length c', .int .i64 fuse, .string ftorn, .bool false]] W fun e W' => e = .returned (.string (maskOf (⟨pages, wear, fuse, ftorn, false⟩ : Fl))) ∧ Ups W W' := fun W hU => rmask_calls (⟨pages, wear, fuse, ftorn, false⟩ : Fl) _ W (hall.ups hU) (oldT (⟨pages, wear, fuse, ftorn, false⟩ : Fl) 0) c1 rfl (by simp only; omega) s01 c4
  have hsb : standsB (⟨pages, wear, fuse, ftorn, false⟩ : Fl) n k s.size = true := by
    simp only [standsB, hb, Bool.true_and, Int.toNat_natCast]
    simp
    omega
  have he : programF (⟨pages, wear, fuse, ftorn, false⟩ : Fl) n k s = ((⟨pages.set n (andT (oldT (⟨pages, wear, fuse, ftorn, false⟩ : Fl) n) (orT (onesT k ++ s) (notT (maskOf (⟨pages, wear, fuse, ftorn, false⟩ : Fl))))), wear, fuse, ftorn, true⟩ : Fl), 8) := by rw [programF, if_pos hsb]; simp [stepF, h0]
  rw [he]
  generalize oldT (⟨pages, wear, fuse, ftorn, false⟩ : Fl) n = old at *
  generalize maskOf (⟨pages, wear, fuse, ftorn, false⟩ : Fl) = mask at *
  generalize oldT (⟨pages, wear, fuse, ftorn, false⟩ : Fl) 0 = first at *
  clear he hb hsb c3 c5 c6 hp hp' s0 sn hwz hck
  have hz0 : (fuse == 0) = true := by simp [h0]
  clear h0
  have tk1 : ¬ (k : Int) < 0 := by omega
  have tk2 : ¬ (old.size : Int) < k := by omega
  have tk3 : ¬ (old.size : Int) - k < s.size := by omega
  have hwr : IntKind.i64.wrap ((old.size : Int) - k) = old.size - k := (IntWalk.i64_left _).trans (IntWalk.wrap64_in _ ⟨by omega, by omega⟩)
  obtain ⟨m, hm⟩ : ∃ m : Nat, old.size = k + s.size + m := ⟨old.size - (k + s.size), by omega⟩
  have hwr2 : IntKind.i64.wrap ((old.size : Int) - k - s.size) = old.size - k - s.size := (IntWalk.i64_left _).trans (IntWalk.wrap64_in _ ⟨by omega, by omega⟩)
  have hones1 := fun W => qones_t k W (by omega)
  have hones2 : ∀ W, Calls Try.prog 42 #[.int .i64 ((old.size : Int) - k - s.size)] W fun e W' => e = .returned (.string (onesT m)) ∧ Ups W W' := by
    intro W
    rw [show (old.size : Int) - k - s.size = (m : Int) by omega]
    exact qones_t m W (by omega)
  have hsz1 : (onesT k ++ s).size = k + s.size := by rw [ByteArray.size_append, onesT_size]
  have hsz2 : (onesT k ++ s ++ onesT m).size = old.size := by rw [ByteArray.size_append, onesT_size, hsz1]; omega
  have hsz3 : (onesT k).size + s.size ≤ 8192 := by rw [onesT_size]; omega
  have hsz4 : (onesT k).size + s.size + (onesT m).size ≤ 8192 := by rw [onesT_size, onesT_size]; omega
  have hfin : andT old (orT (onesT k ++ s) (notT mask)) = andT old (orT (onesT k ++ s ++ onesT m) (notT mask)) := by rw [or_pad, and_pad]
  rw [hfin]
  clear hm hfin hsz1
  go_enter Try.func14, Try.ntmps14
  go_wp2_with fail
  refine hst.mono ?_
  rintro e w3 ⟨rfl, hb3⟩
  have hu3 := Ups.trans hu2 hb3
  have hk03 := block_ups hk0 hb3
  have hzz3 := block_ups hk1 hb3
  have hz3 : w.heap.size + 1 < w3.heap.size := Nat.lt_of_lt_of_le hz2 hb3.size
  have hcells := fun W (hU : Ups (World.drew w3) W) => block_cells (block_ups hk03 (drew_ups hU))
  have hc0 := fun W (hU : Ups (World.drew w3) W) => (hcells W hU).1
  have hcold := fun W (hU : Ups (World.drew w3) W) => cell_ups (Ups.trans hu3 (drew_ups hU)) hc0'
  have hfl := fun W (hU : Ups (World.drew w3) W) => hall.ups (Ups.trans hu3 (drew_ups hU))
  have hsize := fun W (hU : Ups (World.drew w3) W) => Nat.lt_of_lt_of_le hz3 (drew_ups hU).size
  obtain ⟨k0, k1, k2, k3, k4⟩ := block_cells hk03
  have hcc := cell_ups hu3 hc0'
  have HA := Lib.hid hall
  have hk03' := hk03
  clear hT hI hst hk0 hk1 hk03
  go_wp2_with fail
  refine (hones1 _).mono ?_
  rintro e w5 ⟨rfl, hb5⟩
  go_wp2_with fail
  refine (hones2 _).mono ?_
  rintro e w6 ⟨rfl, hb6⟩
  have hu6 := Ups.trans hu3 (Ups.trans hb5 hb6)
  have hk06 := block_ups hk03' (Ups.trans hb5 hb6)
  have hzz6 := block_ups hzz3 (Ups.trans hb5 hb6)
  have hz6 : w.heap.size + 1 < w6.heap.size := Nat.lt_of_lt_of_le hz3 (Ups.trans hb5 hb6).size
  clear hcells hc0 hcold hfl hsize k0 k1 k2 k3 k4 hcc hzz3
  obtain ⟨k0, k1, k2, k3, k4⟩ := block_cells hk06
  have hcc := cell_ups hu6 hc0'
  go_wp2_with fail
  refine (hmk _ hu6).mono ?_
  rintro e w7 ⟨rfl, hb7⟩
  go_wp2_with fail
  refine (qnot_t mask _ (by omega)).mono ?_
  rintro e w8 ⟨rfl, hb8⟩
  go_wp2_with fail
  refine (qor_t (onesT k ++ s ++ onesT m) (notT mask) _ (by omega)).mono ?_
  rintro e w9 ⟨rfl, hb9⟩
  have hb69 := Ups.trans hb7 (Ups.trans hb8 hb9)
  have hu9 := Ups.trans hu6 hb69
  have hk09 := block_ups hk06 hb69
  have hzz9 := block_ups hzz6 hb69
  have hz9 : w.heap.size + 1 < w9.heap.size := Nat.lt_of_lt_of_le hz6 hb69.size
  have hcells := fun W (hU : Ups (World.drew w9) W) => block_cells (block_ups hk09 (drew_ups hU))
  have hc0 := fun W (hU : Ups (World.drew w9) W) => (hcells W hU).1
  have hcold := fun W (hU : Ups (World.drew w9) W) => cell_ups (Ups.trans hu9 (drew_ups hU)) hc0'
  have hfl := fun W (hU : Ups (World.drew w9) W) => hall.ups (Ups.trans hu9 (drew_ups hU))
  have hsize := fun W (hU : Ups (World.drew w9) W) => Nat.lt_of_lt_of_le hz9 (drew_ups hU).size
  clear k0 k1 k2 k3 k4 hcc hzz6
  obtain ⟨k0, k1, k2, k3, k4⟩ := block_cells hk09
  have hcc := cell_ups hu9 hc0'
  go_wp2_with fail
  refine wp_region_parts (N := 11) (n := 96) (ks := [isV (.agg #[.slice (some ⟨b, off, none⟩) pages.length c, .slice a' wear.length c', .int .i64 fuse, .string ftorn, .bool false]), isV (.int .i64 n), isV (.pointer (some ⟨w.heap.size, 0, none⟩)), isV (.slice (some ⟨b, off, none⟩) pages.length c), isV (.int .i64 n), isV (.pointer (some ⟨b, off + n, none⟩)), isV (.string old), isV (.string (orT (onesT k ++ s ++ onesT m) (notT mask))), isV (.string (andT old (orT (onesT k ++ s ++ onesT m) (notT mask)))), fun v' W' => FlAt W' v' (⟨pages.set n (andT old (orT (onesT k ++ s ++ onesT m) (notT mask))), wear, fuse, ftorn, false⟩ : Fl) ∧ ∀ B, B ≤ w.heap.size + 1 → FlOff B (.agg #[.slice (some ⟨b, off, none⟩) pages.length c, .slice a' wear.length c', .int .i64 fuse, .string ftorn, .bool false]) → FlOff B v', fun v' W' => FlAt W' v' (⟨pages.set n (andT old (orT (onesT k ++ s ++ onesT m) (notT mask))), wear, fuse, ftorn, true⟩ : Fl) ∧ ∀ B, B ≤ w.heap.size + 1 → FlOff B (.agg #[.slice (some ⟨b, off, none⟩) pages.length c, .slice a' wear.length c', .int .i64 fuse, .string ftorn, .bool false]) → FlOff B v']) (by decide +kernel) (by decide +kernel) (by decide +kernel) (by simp) rfl (by decide +kernel) ⟨steady_is _, steady_is _, steady_is _, steady_is _, steady_is _, steady_is _, steady_is _, steady_is _, steady_is _, fun _ _ _ h hu => ⟨h.1.ups hu, h.2⟩, fun _ _ _ h hu => ⟨h.1.ups hu, h.2⟩, trivial⟩ ?_ ?_
  · refine And.intro (fun ac W hO hU H => ?_) ?_
    · have h4 : ac.tmps[4]? = some (.pointer (some ⟨w.heap.size, 0, none⟩)) := (hO 4 rfl).trans rfl
      obtain ⟨k0, k1, k2, k3, k4⟩ := hcells W hU
      exact growOp_plain rfl (parts_value (by simp [go_sem, h4, k0, k1, k2, k3, k4]))
    refine And.intro (fun ac W hO hU H => ?_) ?_
    · have h1 : ac.tmps[1]? = some (.int .i64 n) := (hO 1 rfl).trans rfl
      exact growOp_plain rfl (parts_value (by simp [go_sem, h1]))
    refine And.intro (fun ac W hO hU H => ?_) ?_
    · have h4 : ac.tmps[4]? = some (.pointer (some ⟨w.heap.size, 0, none⟩)) := (hO 4 rfl).trans rfl
      exact growOp_plain rfl (parts_value (by simp [go_sem, h4]))
    refine And.intro (fun ac W hO hU H => ?_) ?_
    · have h76 : ac.tmps[76]? = some (.pointer (some ⟨w.heap.size, 0, none⟩)) := isV_get (W := W) (H 2 76 rfl)
      have f0 := hc0 W hU
      exact growOp_plain rfl (parts_value (by simp [go_sem, h76, f0]))
    refine And.intro (fun ac W hO hU H => ?_) ?_
    · have h1 : ac.tmps[1]? = some (.int .i64 n) := (hO 1 rfl).trans rfl
      exact growOp_plain rfl (parts_value (by simp [go_sem, h1]))
    refine And.intro (fun ac W hO hU H => ?_) ?_
    · have h77 : ac.tmps[77]? = some (.slice (some ⟨b, off, none⟩) pages.length c) := isV_get (W := W) (H 3 77 rfl)
      have h78 : ac.tmps[78]? = some (.int .i64 n) := isV_get (W := W) (H 4 78 rfl)
      exact growOp_plain rfl (parts_value (by simp [go_sem, h77, h78, hip]))
    refine And.intro (fun ac W hO hU H => ?_) ?_
    · have h79 : ac.tmps[79]? = some (.pointer (some ⟨b, off + n, none⟩)) := isV_get (W := W) (H 5 79 rfl)
      have f0 := hcold W hU
      exact growOp_plain rfl (parts_value (by simp [go_sem, h79, f0]))
    refine And.intro (fun ac W hO hU H => ?_) ?_
    · have h12 : ac.tmps[12]? = some (.string (orT (onesT k ++ s ++ onesT m) (notT mask))) := (hO 12 rfl).trans rfl
      exact growOp_plain rfl (parts_value (by simp [go_sem, h12]))
    refine And.intro (fun ac W hO hU H => ?_) ?_
    · have h80 : ac.tmps[80]? = some (.string old) := isV_get (W := W) (H 6 80 rfl)
      have h81 : ac.tmps[81]? = some (.string (orT (onesT k ++ s ++ onesT m) (notT mask))) := isV_get (W := W) (H 7 81 rfl)
      exact growOp_plain rfl (parts_call_is (args := #[.string old, .string (orT (onesT k ++ s ++ onesT m) (notT mask))]) (by simp [go_sem, h80, h81]) (qand_t _ _ W (by omega)))
    refine And.intro (fun ac W hO hU H => ?_) ?_
    · have h74 : ac.tmps[74]? = some (.agg #[.slice (some ⟨b, off, none⟩) pages.length c, .slice a' wear.length c', .int .i64 fuse, .string ftorn, .bool false]) := isV_get (W := W) (H 0 74 rfl)
      have h75 : ac.tmps[75]? = some (.int .i64 n) := isV_get (W := W) (H 1 75 rfl)
      have h82 : ac.tmps[82]? = some (.string (andT old (orT (onesT k ++ s ++ onesT m) (notT mask)))) := isV_get (W := W) (H 8 82 rfl)
      exact growOp_plain rfl (parts_call (f := 37) (args := #[.agg #[.slice (some ⟨b, off, none⟩) pages.length c, .slice a' wear.length c', .int .i64 fuse, .string ftorn, .bool false], .int .i64 n, .string (andT old (orT (onesT k ++ s ++ onesT m) (notT mask)))]) (by simp [go_sem, h74, h75, h82]) (kd_first (hfl W hU) (hsize W hU) (rwith_calls _ _ n _ W (hfl W hU) hn hb1)))
    refine And.intro (fun ac W hO hU H => ?_) ?_
    · obtain ⟨v83, h83, q83⟩ := H 9 83 rfl
      exact growOp_plain rfl (parts_call (f := 36) (args := #[v83]) (by simp [go_sem, h83]) (kd_step q83 (hsize W hU) (rdead_calls _ _ W q83.1)))
    exact trivial
  · intro W xs hU hks
    obtain ⟨y0, rfl, g0⟩ := holdAll_is hks
    obtain ⟨y1, rfl, g1⟩ := holdAll_is g0
    obtain ⟨y2, rfl, g2⟩ := holdAll_is g1
    obtain ⟨y3, rfl, g3⟩ := holdAll_is g2
    obtain ⟨y4, rfl, g4⟩ := holdAll_is g3
    obtain ⟨y5, rfl, g5⟩ := holdAll_is g4
    obtain ⟨y6, rfl, g6⟩ := holdAll_is g5
    obtain ⟨y7, rfl, g7⟩ := holdAll_is g6
    obtain ⟨y8, rfl, g8⟩ := holdAll_is g7
    obtain ⟨v9, y9, rfl, q9, g9⟩ := holdAll_cons g8
    obtain ⟨v10, y10, rfl, q10, g10⟩ := holdAll_cons g9
    obtain rfl := holdAll_nil g10
    clear hks g0 g1 g2 g3 g4 g5 g6 g7 g8 g9 g10
    simp only [List.take_succ_cons, List.take_zero, List.drop_succ_cons, List.drop_zero, endTmps, List.setIfInBounds_toArray, List.set]
    have hzz := block_ups hzz9 (drew_ups hU)
    obtain ⟨d0, d1, d2, d3, d4⟩ := block_cells hzz
    have y0 := block_frozen hzz 0
    have y1 := block_frozen hzz 1
    have y2 := block_frozen hzz 2
    have y3 := block_frozen hzz 3
    have y4 := block_frozen hzz 4
    have huW := Ups.trans hu9 (drew_ups hU)
    obtain ⟨hread, hoff⟩ := q10
    have HB := Lib.hid hread
    have HO := Lib.hid hoff
    obtain ⟨_, _, rfl, ⟨ap, cp, rfl, _⟩, ⟨aq, cq, rfl, _⟩⟩ := hread
    clear hoff hzz hcells hc0 hcold hfl hsize hall hzz9 hmk
    go_wp2_with fail
    refine bodyPost_ret (v := .tuple #[.agg #[.slice ap (pages.set n (andT old (orT (onesT k ++ s ++ onesT m) (notT mask)))).length cp, .slice aq wear.length cq, .int .i64 fuse, .string ftorn, .bool true], .int .i64 8]) ?_ rfl ⟨_, rfl, ?_⟩
    · simp [results, Try.results14, go_sem, d0, d1, d2, d3, d4]
    · exact fl_stored huW (Nat.le_succ _) HB.out (HO.out _ (Nat.le_refl _) (FlOff.mk hrP hrQ)) (fun B hB ho => HO.out B (by omega) (FlOff.mk ho.fst ho.snd)) (by simp )

set_option maxRecDepth 100000 in
set_option maxHeartbeats 4000000 in
theorem rprogram_more (pages : List ByteArray) (wear : List Int) (fuse : Int) (ftorn : ByteArray) (v : Value) (n k : Nat) (s : ByteArray) (w : World) (h : FlAt w v (⟨pages, wear, fuse, ftorn, false⟩ : Fl)) (hf : FlFit (⟨pages, wear, fuse, ftorn, false⟩ : Fl)) (hb : hasB (⟨pages, wear, fuse, ftorn, false⟩ : Fl) n = true) (hn : n < pages.length) (hks : k + s.size ≤ (oldT (⟨pages, wear, fuse, ftorn, false⟩ : Fl) n).size) (h0 : ¬ fuse = 0) :
    Calls Try.prog 14 #[v, .int .i64 n, .int .i64 k, .string s] w fun e W' => ∃ v', e = .returned (.tuple #[v', .int .i64 (programF (⟨pages, wear, fuse, ftorn, false⟩ : Fl) n k s).2]) ∧ FlNew w v W' v' (programF (⟨pages, wear, fuse, ftorn, false⟩ : Fl) n k s).1 := by
  have hall := h
  obtain ⟨p, q, rfl, hT, hI⟩ := h
  simp only at hT hI
  have hrP : RowOff (w.heap.size + 1) p := hT.off (Nat.le_succ _)
  have hrQ : RowOff (w.heap.size + 1) q := hI.off (Nat.le_succ _)
  have hT0 := hT
  have hI0 := hI
  obtain ⟨a, c, rfl, hp⟩ := hT0
  obtain ⟨a', c', rfl, _⟩ := hI0
  have hu2 : Ups w ((w.alloc (.cells #[.slice a pages.length c, .slice a' wear.length c', .int .i64 fuse, .string ftorn, .bool false] 25)).alloc (.cells #[.slice none 0 0, .slice none 0 0, .int .i64 0, .string { data := #[] }, .bool false] 25)) := ((Own.start w).alloc (.cells #[.slice a pages.length c, .slice a' wear.length c', .int .i64 fuse, .string ftorn, .bool false] 25) |>.alloc (.cells #[.slice none 0 0, .slice none 0 0, .int .i64 0, .string { data := #[] }, .bool false] 25)).bel
  have hk0 : ((w.alloc (.cells #[.slice a pages.length c, .slice a' wear.length c', .int .i64 fuse, .string ftorn, .bool false] 25)).alloc (.cells #[.slice none 0 0, .slice none 0 0, .int .i64 0, .string { data := #[] }, .bool false] 25)).heap[w.heap.size]? = some (.cells #[.slice a pages.length c, .slice a' wear.length c', .int .i64 fuse, .string ftorn, .bool false] 25) := ((Own.start w).alloc (.cells #[.slice a pages.length c, .slice a' wear.length c', .int .i64 fuse, .string ftorn, .bool false] 25) |>.alloc (.cells #[.slice none 0 0, .slice none 0 0, .int .i64 0, .string { data := #[] }, .bool false] 25)).at w.heap.size 0 rfl rfl
  have hk1 : ((w.alloc (.cells #[.slice a pages.length c, .slice a' wear.length c', .int .i64 fuse, .string ftorn, .bool false] 25)).alloc (.cells #[.slice none 0 0, .slice none 0 0, .int .i64 0, .string { data := #[] }, .bool false] 25)).heap[w.heap.size + 1]? = some (.cells #[.slice none 0 0, .slice none 0 0, .int .i64 0, .string { data := #[] }, .bool false] 25) := ((Own.start w).alloc (.cells #[.slice a pages.length c, .slice a' wear.length c', .int .i64 fuse, .string ftorn, .bool false] 25) |>.alloc (.cells #[.slice none 0 0, .slice none 0 0, .int .i64 0, .string { data := #[] }, .bool false] 25)).at (w.heap.size + 1) 1 rfl rfl
  have hz2 : w.heap.size + 1 < ((w.alloc (.cells #[.slice a pages.length c, .slice a' wear.length c', .int .i64 fuse, .string ftorn, .bool false] 25)).alloc (.cells #[.slice none 0 0, .slice none 0 0, .int .i64 0, .string { data := #[] }, .bool false] 25)).heap.size := (Array.getElem?_eq_some_iff.1 hk1).1
  have hst := rpage_calls _ _ n _ (hall.ups hu2) hf
  rw [hb] at hst
  have hck := (has_facts hb).1
  obtain ⟨b, off, rfl, hp'⟩ := hp (by omega)
  obtain ⟨c1, c2, c3, c4, c5, c6⟩ := check_facts hck
  simp only at c1 c2 c3 c4 c5
  have sn := old_size hck hn
  have s0 := old_size hck (n := 0) c1
  have sn1 := sn.2.1
  have sm : (maskOf (⟨pages, wear, fuse, ftorn, false⟩ : Fl)).size ≤ 8192 := by rw [maskOf, maskT_size]; omega
  have s01 := s0.2.1
  have hip : (n : Int) < pages.length := by omega
  have hb1 : pages.length ≤ 1000 := by omega
  have hc0' : w.cell? ⟨b, off + n, none⟩ = some (.string (oldT (⟨pages, wear, fuse, ftorn, false⟩ : Fl) n)) := hp' n hn
  have hwn : n < wear.length := by omega
  have hw6 : wear.length ≤ 1000 := by omega
  have hwz : wear.getD n 0 ∈ wear := by rw [List.getD_eq_getElem?_getD, List.getElem?_eq_getElem hwn]; exact List.getElem_mem _
  have hw1 := (c5 _ hwz).1
  have hw2 := (c5 _ hwz).2
  have hmk : ∀ W, Ups w W → Calls Try.prog 39 #[.agg #[.slice (some ⟨b, off, none⟩) pages.length c, .slice a' wear.length c', .int .i64 fuse, .string ftorn, .bool false]] W fun e W' => e = .returned (.string (maskOf (⟨pages, wear, fuse, ftorn, false⟩ : Fl))) ∧ Ups W W' := fun W hU => rmask_calls (⟨pages, wear, fuse, ftorn, false⟩ : Fl) _ W (hall.ups hU) (oldT (⟨pages, wear, fuse, ftorn, false⟩ : Fl) 0) c1 rfl (by simp only; omega) s01 c4
  have hsb : standsB (⟨pages, wear, fuse, ftorn, false⟩ : Fl) n k s.size = true := by
    simp only [standsB, hb, Bool.true_and, Int.toNat_natCast]
    simp
    omega
  have he : programF (⟨pages, wear, fuse, ftorn, false⟩ : Fl) n k s = (burntF (⟨pages.set n (andT (oldT (⟨pages, wear, fuse, ftorn, false⟩ : Fl) n) (onesT k ++ s)), wear, fuse, ftorn, false⟩ : Fl), 0) := by rw [programF, if_pos hsb]; simp [stepF, h0, burntF]
  rw [he]
  generalize oldT (⟨pages, wear, fuse, ftorn, false⟩ : Fl) n = old at *
  generalize maskOf (⟨pages, wear, fuse, ftorn, false⟩ : Fl) = mask at *
  generalize oldT (⟨pages, wear, fuse, ftorn, false⟩ : Fl) 0 = first at *
  clear he hb hsb c3 c5 c6 hp hp' s0 sn hwz hck
  have hz0 : (fuse == 0) = false := by simpa using h0
  clear h0
  have tk1 : ¬ (k : Int) < 0 := by omega
  have tk2 : ¬ (old.size : Int) < k := by omega
  have tk3 : ¬ (old.size : Int) - k < s.size := by omega
  have hwr : IntKind.i64.wrap ((old.size : Int) - k) = old.size - k := (IntWalk.i64_left _).trans (IntWalk.wrap64_in _ ⟨by omega, by omega⟩)
  obtain ⟨m, hm⟩ : ∃ m : Nat, old.size = k + s.size + m := ⟨old.size - (k + s.size), by omega⟩
  have hwr2 : IntKind.i64.wrap ((old.size : Int) - k - s.size) = old.size - k - s.size := (IntWalk.i64_left _).trans (IntWalk.wrap64_in _ ⟨by omega, by omega⟩)
  have hones1 := fun W => qones_t k W (by omega)
  have hones2 : ∀ W, Calls Try.prog 42 #[.int .i64 ((old.size : Int) - k - s.size)] W fun e W' => e = .returned (.string (onesT m)) ∧ Ups W W' := by
    intro W
    rw [show (old.size : Int) - k - s.size = (m : Int) by omega]
    exact qones_t m W (by omega)
  have hsz1 : (onesT k ++ s).size = k + s.size := by rw [ByteArray.size_append, onesT_size]
  have hsz2 : (onesT k ++ s ++ onesT m).size = old.size := by rw [ByteArray.size_append, onesT_size, hsz1]; omega
  have hsz3 : (onesT k).size + s.size ≤ 8192 := by rw [onesT_size]; omega
  have hsz4 : (onesT k).size + s.size + (onesT m).size ≤ 8192 := by rw [onesT_size, onesT_size]; omega
  have hfin : andT old (onesT k ++ s) = andT old (onesT k ++ s ++ onesT m) := by rw [and_pad]
  rw [hfin]
  clear hm hfin hsz1
  go_enter Try.func14, Try.ntmps14
  go_wp2_with fail
  refine hst.mono ?_
  rintro e w3 ⟨rfl, hb3⟩
  have hu3 := Ups.trans hu2 hb3
  have hk03 := block_ups hk0 hb3
  have hzz3 := block_ups hk1 hb3
  have hz3 : w.heap.size + 1 < w3.heap.size := Nat.lt_of_lt_of_le hz2 hb3.size
  have hcells := fun W (hU : Ups (World.drew w3) W) => block_cells (block_ups hk03 (drew_ups hU))
  have hc0 := fun W (hU : Ups (World.drew w3) W) => (hcells W hU).1
  have hcold := fun W (hU : Ups (World.drew w3) W) => cell_ups (Ups.trans hu3 (drew_ups hU)) hc0'
  have hfl := fun W (hU : Ups (World.drew w3) W) => hall.ups (Ups.trans hu3 (drew_ups hU))
  have hsize := fun W (hU : Ups (World.drew w3) W) => Nat.lt_of_lt_of_le hz3 (drew_ups hU).size
  obtain ⟨k0, k1, k2, k3, k4⟩ := block_cells hk03
  have hcc := cell_ups hu3 hc0'
  have HA := Lib.hid hall
  have hk03' := hk03
  clear hT hI hst hk0 hk1 hk03
  go_wp2_with fail
  refine (hones1 _).mono ?_
  rintro e w5 ⟨rfl, hb5⟩
  go_wp2_with fail
  refine (hones2 _).mono ?_
  rintro e w6 ⟨rfl, hb6⟩
  have hu6 := Ups.trans hu3 (Ups.trans hb5 hb6)
  have hk06 := block_ups hk03' (Ups.trans hb5 hb6)
  have hzz6 := block_ups hzz3 (Ups.trans hb5 hb6)
  have hz6 : w.heap.size + 1 < w6.heap.size := Nat.lt_of_lt_of_le hz3 (Ups.trans hb5 hb6).size
  clear hcells hc0 hcold hfl hsize k0 k1 k2 k3 k4 hcc hzz3
  obtain ⟨k0, k1, k2, k3, k4⟩ := block_cells hk06
  have hcc := cell_ups hu6 hc0'
  have hcells := fun W (hU : Ups (World.drew w6) W) => block_cells (block_ups hk06 (drew_ups hU))
  have hc0 := fun W (hU : Ups (World.drew w6) W) => (hcells W hU).1
  have hcold := fun W (hU : Ups (World.drew w6) W) => cell_ups (Ups.trans hu6 (drew_ups hU)) hc0'
  have hfl := fun W (hU : Ups (World.drew w6) W) => hall.ups (Ups.trans hu6 (drew_ups hU))
  have hsize := fun W (hU : Ups (World.drew w6) W) => Nat.lt_of_lt_of_le hz6 (drew_ups hU).size
  go_wp2_with fail
  refine wp_region_parts (N := 11) (n := 96) (ks := [isV (.agg #[.slice (some ⟨b, off, none⟩) pages.length c, .slice a' wear.length c', .int .i64 fuse, .string ftorn, .bool false]), isV (.int .i64 n), isV (.pointer (some ⟨w.heap.size, 0, none⟩)), isV (.slice (some ⟨b, off, none⟩) pages.length c), isV (.int .i64 n), isV (.pointer (some ⟨b, off + n, none⟩)), isV (.string old), isV (.string (onesT k ++ s ++ onesT m)), isV (.string (andT old (onesT k ++ s ++ onesT m))), fun v' W' => FlAt W' v' (⟨pages.set n (andT old (onesT k ++ s ++ onesT m)), wear, fuse, ftorn, false⟩ : Fl) ∧ ∀ B, B ≤ w.heap.size + 1 → FlOff B (.agg #[.slice (some ⟨b, off, none⟩) pages.length c, .slice a' wear.length c', .int .i64 fuse, .string ftorn, .bool false]) → FlOff B v', fun v' W' => FlAt W' v' (burntF (⟨pages.set n (andT old (onesT k ++ s ++ onesT m)), wear, fuse, ftorn, false⟩ : Fl)) ∧ ∀ B, B ≤ w.heap.size + 1 → FlOff B (.agg #[.slice (some ⟨b, off, none⟩) pages.length c, .slice a' wear.length c', .int .i64 fuse, .string ftorn, .bool false]) → FlOff B v']) (by decide +kernel) (by decide +kernel) (by decide +kernel) (by simp) rfl (by decide +kernel) ⟨steady_is _, steady_is _, steady_is _, steady_is _, steady_is _, steady_is _, steady_is _, steady_is _, steady_is _, fun _ _ _ h hu => ⟨h.1.ups hu, h.2⟩, fun _ _ _ h hu => ⟨h.1.ups hu, h.2⟩, trivial⟩ ?_ ?_
  · refine And.intro (fun ac W hO hU H => ?_) ?_
    · have h4 : ac.tmps[4]? = some (.pointer (some ⟨w.heap.size, 0, none⟩)) := (hO 4 rfl).trans rfl
      obtain ⟨k0, k1, k2, k3, k4⟩ := hcells W hU
      exact growOp_plain rfl (parts_value (by simp [go_sem, h4, k0, k1, k2, k3, k4]))
    refine And.intro (fun ac W hO hU H => ?_) ?_
    · have h1 : ac.tmps[1]? = some (.int .i64 n) := (hO 1 rfl).trans rfl
      exact growOp_plain rfl (parts_value (by simp [go_sem, h1]))
    refine And.intro (fun ac W hO hU H => ?_) ?_
    · have h4 : ac.tmps[4]? = some (.pointer (some ⟨w.heap.size, 0, none⟩)) := (hO 4 rfl).trans rfl
      exact growOp_plain rfl (parts_value (by simp [go_sem, h4]))
    refine And.intro (fun ac W hO hU H => ?_) ?_
    · have h87 : ac.tmps[87]? = some (.pointer (some ⟨w.heap.size, 0, none⟩)) := isV_get (W := W) (H 2 87 rfl)
      have f0 := hc0 W hU
      exact growOp_plain rfl (parts_value (by simp [go_sem, h87, f0]))
    refine And.intro (fun ac W hO hU H => ?_) ?_
    · have h1 : ac.tmps[1]? = some (.int .i64 n) := (hO 1 rfl).trans rfl
      exact growOp_plain rfl (parts_value (by simp [go_sem, h1]))
    refine And.intro (fun ac W hO hU H => ?_) ?_
    · have h88 : ac.tmps[88]? = some (.slice (some ⟨b, off, none⟩) pages.length c) := isV_get (W := W) (H 3 88 rfl)
      have h89 : ac.tmps[89]? = some (.int .i64 n) := isV_get (W := W) (H 4 89 rfl)
      exact growOp_plain rfl (parts_value (by simp [go_sem, h88, h89, hip]))
    refine And.intro (fun ac W hO hU H => ?_) ?_
    · have h90 : ac.tmps[90]? = some (.pointer (some ⟨b, off + n, none⟩)) := isV_get (W := W) (H 5 90 rfl)
      have f0 := hcold W hU
      exact growOp_plain rfl (parts_value (by simp [go_sem, h90, f0]))
    refine And.intro (fun ac W hO hU H => ?_) ?_
    · have h11 : ac.tmps[11]? = some (.string (onesT k ++ s ++ onesT m)) := (hO 11 rfl).trans rfl
      exact growOp_plain rfl (parts_value (by simp [go_sem, h11]))
    refine And.intro (fun ac W hO hU H => ?_) ?_
    · have h91 : ac.tmps[91]? = some (.string old) := isV_get (W := W) (H 6 91 rfl)
      have h92 : ac.tmps[92]? = some (.string (onesT k ++ s ++ onesT m)) := isV_get (W := W) (H 7 92 rfl)
      exact growOp_plain rfl (parts_call_is (args := #[.string old, .string (onesT k ++ s ++ onesT m)]) (by simp [go_sem, h91, h92]) (qand_t _ _ W (by omega)))
    refine And.intro (fun ac W hO hU H => ?_) ?_
    · have h85 : ac.tmps[85]? = some (.agg #[.slice (some ⟨b, off, none⟩) pages.length c, .slice a' wear.length c', .int .i64 fuse, .string ftorn, .bool false]) := isV_get (W := W) (H 0 85 rfl)
      have h86 : ac.tmps[86]? = some (.int .i64 n) := isV_get (W := W) (H 1 86 rfl)
      have h93 : ac.tmps[93]? = some (.string (andT old (onesT k ++ s ++ onesT m))) := isV_get (W := W) (H 8 93 rfl)
      exact growOp_plain rfl (parts_call (f := 37) (args := #[.agg #[.slice (some ⟨b, off, none⟩) pages.length c, .slice a' wear.length c', .int .i64 fuse, .string ftorn, .bool false], .int .i64 n, .string (andT old (onesT k ++ s ++ onesT m))]) (by simp [go_sem, h85, h86, h93]) (kd_first (hfl W hU) (hsize W hU) (rwith_calls _ _ n _ W (hfl W hU) hn hb1)))
    refine And.intro (fun ac W hO hU H => ?_) ?_
    · obtain ⟨v94, h94, q94⟩ := H 9 94 rfl
      exact growOp_plain rfl (parts_call (f := 40) (args := #[v94]) (by simp [go_sem, h94]) (kd_step q94 (hsize W hU) (rburnt_calls _ _ W q94.1 hf.2.2.2)))
    exact trivial
  · intro W xs hU hks
    obtain ⟨y0, rfl, g0⟩ := holdAll_is hks
    obtain ⟨y1, rfl, g1⟩ := holdAll_is g0
    obtain ⟨y2, rfl, g2⟩ := holdAll_is g1
    obtain ⟨y3, rfl, g3⟩ := holdAll_is g2
    obtain ⟨y4, rfl, g4⟩ := holdAll_is g3
    obtain ⟨y5, rfl, g5⟩ := holdAll_is g4
    obtain ⟨y6, rfl, g6⟩ := holdAll_is g5
    obtain ⟨y7, rfl, g7⟩ := holdAll_is g6
    obtain ⟨y8, rfl, g8⟩ := holdAll_is g7
    obtain ⟨v9, y9, rfl, q9, g9⟩ := holdAll_cons g8
    obtain ⟨v10, y10, rfl, q10, g10⟩ := holdAll_cons g9
    obtain rfl := holdAll_nil g10
    clear hks g0 g1 g2 g3 g4 g5 g6 g7 g8 g9 g10
    simp only [List.take_succ_cons, List.take_zero, List.drop_succ_cons, List.drop_zero, endTmps, List.setIfInBounds_toArray, List.set]
    have hzz := block_ups hzz6 (drew_ups hU)
    obtain ⟨d0, d1, d2, d3, d4⟩ := block_cells hzz
    have y0 := block_frozen hzz 0
    have y1 := block_frozen hzz 1
    have y2 := block_frozen hzz 2
    have y3 := block_frozen hzz 3
    have y4 := block_frozen hzz 4
    have huW := Ups.trans hu6 (drew_ups hU)
    obtain ⟨hread, hoff⟩ := q10
    have HB := Lib.hid hread
    have HO := Lib.hid hoff
    obtain ⟨_, _, rfl, ⟨ap, cp, rfl, _⟩, ⟨aq, cq, rfl, _⟩⟩ := hread
    clear hoff hzz hcells hc0 hcold hfl hsize hall hzz6 hmk
    go_wp2_with fail
    refine bodyPost_ret (v := .tuple #[.agg #[.slice ap (pages.set n (andT old (onesT k ++ s ++ onesT m))).length cp, .slice aq wear.length cq, .int .i64 (if 0 < fuse then fuse - 1 else fuse), .string ftorn, .bool false], .int .i64 0]) ?_ rfl ⟨_, rfl, ?_⟩
    · simp [results, Try.results14, go_sem, d0, d1, d2, d3, d4, burntF]
    · exact fl_stored huW (Nat.le_succ _) HB.out (HO.out _ (Nat.le_refl _) (FlOff.mk hrP hrQ)) (fun B hB ho => HO.out B (by omega) (FlOff.mk ho.fst ho.snd)) (by simp [burntF])

theorem rprogram_calls (f : Fl) (v : Value) (page at_ : Int) (s : ByteArray) (w : World) (h : FlAt w v f) (hf : FlFit f) (ha : at_ ≤ 9223372036854775807) :
    Calls Try.prog 14 #[v, .int .i64 page, .int .i64 at_, .string s] w fun e W' => ∃ v', e = .returned (.tuple #[v', .int .i64 (programF f page at_ s).2]) ∧ FlNew w v W' v' (programF f page at_ s).1 := by
  cases hb : hasB f page with
  | false =>
    obtain ⟨pages, wear, fuse, ftorn, dead⟩ := f
    exact rprogram_none pages wear fuse ftorn dead v page at_ s w h hf hb
  | true =>
    obtain ⟨hck, n, rfl, hn⟩ := has_facts hb
    obtain ⟨pages, wear, fuse, ftorn, dead⟩ := f
    by_cases h1 : at_ < 0
    · exact rprogram_low pages wear fuse ftorn dead v n at_ s w h hf hb hn h1
    by_cases h2 : ((oldT ⟨pages, wear, fuse, ftorn, dead⟩ n).size : Int) < at_
    · exact rprogram_high pages wear fuse ftorn dead v n at_ s w h hf hb hn h1 h2
    by_cases h3 : ((oldT ⟨pages, wear, fuse, ftorn, dead⟩ n).size : Int) - at_ < s.size
    · exact rprogram_long pages wear fuse ftorn dead v n at_ s w h hf hb hn h1 h2 h3
    obtain ⟨k, rfl⟩ : ∃ k : Nat, at_ = k := ⟨at_.toNat, by omega⟩
    have hks : k + s.size ≤ (oldT ⟨pages, wear, fuse, ftorn, dead⟩ n).size := by omega
    cases dead with
    | true => exact rprogram_dead pages wear fuse ftorn v n k s w h hf hb hn hks
    | false =>
      by_cases h0 : fuse = 0
      · exact rprogram_zero pages wear fuse ftorn v n k s w h hf hb hn hks h0
      · exact rprogram_more pages wear fuse ftorn v n k s w h hf hb hn hks h0

end Go.Proofs.Ytjpapjijlbfemaa
