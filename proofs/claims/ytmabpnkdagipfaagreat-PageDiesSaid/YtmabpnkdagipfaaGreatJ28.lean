/- Texts of this proof, one behind the other: PageApp. -/
import Derived.Test.YtmabpnkdagipfaaGreatJ19
import Derived.Test.YtmabpnkdagipfaaGreatJ27

/- What page.Append comes to. -/
namespace Go.Proofs.YtmabpnkdagipfaaGreat
open Go.RowKit

theorem nextTo_le (f : Nat → Bool) : ∀ k, nextTo f k ≤ k
  | 0 => Nat.le_refl _
  | k + 1 => by
    have := nextTo_le f k
    unfold nextTo
    split <;> omega
theorem nextN_le (s : ByteArray) (z : Nat) : nextN s z ≤ s.size / z := nextTo_le _ _

/-- What page.Append does. -/
def appendF (f : Fl) (page : Int) (s : ByteArray) : Fl × Int :=
  if hasB f page && !(sizeN (s.size : Int) == 0) then
    if nextN (oldT f page.toNat) (sizeN (s.size : Int)) = (oldT f page.toNat).size / sizeN (s.size : Int) then (f, 4)
    else programF f page (nextN (oldT f page.toNat) (sizeN (s.size : Int)) * sizeN (s.size : Int) : Nat) (makeT s)
  else (f, 1)

set_option maxRecDepth 100000 in
set_option maxHeartbeats 4000000 in
theorem pappend_calls (f : Fl) (v : Value) (page : Int) (s : ByteArray) (w : World) (h : FlAt w v f) (hf : FlFit f) :
    Calls Tryz.prog 21 #[v, .int .i64 page, .string s] w fun e W' => ∃ v', e = .returned (.tuple #[v', .int .i64 (appendF f page s).2]) ∧ FlNew w v W' v' (appendF f page s).1 := by
  have hall := h
  obtain ⟨p, q, rfl, hT, hI⟩ := h
  have hrP : RowOff (w.heap.size + 1) p := hT.off (Nat.le_succ _)
  have hrQ : RowOff (w.heap.size + 1) q := hI.off (Nat.le_succ _)
  have hT0 := hT
  have hI0 := hI
  obtain ⟨a, c, rfl, hp⟩ := hT0
  obtain ⟨a', c', rfl, _⟩ := hI0
  have hu2 : Ups w ((w.alloc (.cells #[.slice a f.pages.length c, .slice a' f.wear.length c', .int .i64 f.fuse, .string f.torn, .bool f.dead] 31)).alloc (.cells #[.slice none 0 0, .slice none 0 0, .int .i64 0, .string { data := #[] }, .bool false] 31)) := ((Own.start w).alloc (.cells #[.slice a f.pages.length c, .slice a' f.wear.length c', .int .i64 f.fuse, .string f.torn, .bool f.dead] 31) |>.alloc (.cells #[.slice none 0 0, .slice none 0 0, .int .i64 0, .string { data := #[] }, .bool false] 31)).bel
  have hk0 : ((w.alloc (.cells #[.slice a f.pages.length c, .slice a' f.wear.length c', .int .i64 f.fuse, .string f.torn, .bool f.dead] 31)).alloc (.cells #[.slice none 0 0, .slice none 0 0, .int .i64 0, .string { data := #[] }, .bool false] 31)).heap[w.heap.size]? = some (.cells #[.slice a f.pages.length c, .slice a' f.wear.length c', .int .i64 f.fuse, .string f.torn, .bool f.dead] 31) := ((Own.start w).alloc (.cells #[.slice a f.pages.length c, .slice a' f.wear.length c', .int .i64 f.fuse, .string f.torn, .bool f.dead] 31) |>.alloc (.cells #[.slice none 0 0, .slice none 0 0, .int .i64 0, .string { data := #[] }, .bool false] 31)).at w.heap.size 0 rfl rfl
  have hk1 : ((w.alloc (.cells #[.slice a f.pages.length c, .slice a' f.wear.length c', .int .i64 f.fuse, .string f.torn, .bool f.dead] 31)).alloc (.cells #[.slice none 0 0, .slice none 0 0, .int .i64 0, .string { data := #[] }, .bool false] 31)).heap[w.heap.size + 1]? = some (.cells #[.slice none 0 0, .slice none 0 0, .int .i64 0, .string { data := #[] }, .bool false] 31) := ((Own.start w).alloc (.cells #[.slice a f.pages.length c, .slice a' f.wear.length c', .int .i64 f.fuse, .string f.torn, .bool f.dead] 31) |>.alloc (.cells #[.slice none 0 0, .slice none 0 0, .int .i64 0, .string { data := #[] }, .bool false] 31)).at (w.heap.size + 1) 1 rfl rfl
  have hz2 : w.heap.size + 1 < ((w.alloc (.cells #[.slice a f.pages.length c, .slice a' f.wear.length c', .int .i64 f.fuse, .string f.torn, .bool f.dead] 31)).alloc (.cells #[.slice none 0 0, .slice none 0 0, .int .i64 0, .string { data := #[] }, .bool false] 31)).heap.size := (Array.getElem?_eq_some_iff.1 hk1).1
  have hsz := fun w => size_calls (s.size : Int) w
  have hz := (sizeN_le (s.size : Int)).2
  have hz8 := (sizeN_le (s.size : Int)).1
  rw [hz] at hsz
  clear hz
  have hchk := fun W (hu : Ups w W) => check_calls f _ W (hall.ups hu) hf.1 hf.2.1
  cases hck : checkB f with
  | false =>
    have he : appendF f page s = (f, 1) := by simp [appendF, hasB, hck]
    rw [he]
    rw [hck] at hchk
    clear he hck hz8
    simp only [Bool.false_eq_true, if_false] at hchk
    go_enter Tryz.func21, Tryz.ntmps21
    go_wp2_with fail
    refine (hsz _).mono ?_
    rintro e w3 ⟨rfl, rfl⟩
    go_wp2_with fail
    refine (hchk _ hu2).mono ?_
    rintro e w3 ⟨rfl, hb3⟩
    have hu3 := Ups.trans hu2 hb3
    have hk03 := block_ups hk0 hb3
    have hk13 := block_ups hk1 hb3
    clear hchk
    obtain ⟨k0, k1, k2, k3, k4⟩ := block_cells hk03
    have hzz := hk13
    obtain ⟨d0, d1, d2, d3, d4⟩ := block_cells hzz
    have y0 := block_frozen hzz 0
    have y1 := block_frozen hzz 1
    have y2 := block_frozen hzz 2
    have y3 := block_frozen hzz 3
    have y4 := block_frozen hzz 4
    have HA := Lib.hid hall
    clear hall hT hI hk0 hk1 hzz hf hk03 hk13
    go_wp2_with fail
    refine bodyPost_ret (v := .tuple #[.agg #[.slice a f.pages.length c, .slice a' f.wear.length c', .int .i64 f.fuse, .string f.torn, .bool f.dead], .int .i64 1]) ?_ rfl ⟨_, rfl, ?_⟩
    · simp [results, Tryz.results21, go_sem, d0, d1, d2, d3, d4]
    · exact fl_stored hu3 (Nat.le_succ _) (HA.out.ups hu3) (FlOff.mk hrP hrQ) (fun B hB ho => ho) rfl
  | true =>
    rw [hck] at hchk
    simp only [if_true] at hchk
    by_cases hp0 : page < 0
    · have he : appendF f page s = (f, 1) := by simp [appendF, hasB, hck]; omega
      rw [he]
      clear he hck hz8
      go_enter Tryz.func21, Tryz.ntmps21
      go_wp2_with fail
      refine (hsz _).mono ?_
      rintro e w3 ⟨rfl, rfl⟩
      go_wp2_with fail
      refine (hchk _ hu2).mono ?_
      rintro e w3 ⟨rfl, hb3⟩
      have hu3 := Ups.trans hu2 hb3
      have hk03 := block_ups hk0 hb3
      have hk13 := block_ups hk1 hb3
      clear hchk
      obtain ⟨k0, k1, k2, k3, k4⟩ := block_cells hk03
      have hzz := hk13
      obtain ⟨d0, d1, d2, d3, d4⟩ := block_cells hzz
      have y0 := block_frozen hzz 0
      have y1 := block_frozen hzz 1
      have y2 := block_frozen hzz 2
      have y3 := block_frozen hzz 3
      have y4 := block_frozen hzz 4
      have HA := Lib.hid hall
      clear hall hT hI hk0 hk1 hzz hf hk03 hk13
      go_wp2_with fail
      refine bodyPost_ret (v := .tuple #[.agg #[.slice a f.pages.length c, .slice a' f.wear.length c', .int .i64 f.fuse, .string f.torn, .bool f.dead], .int .i64 1]) ?_ rfl ⟨_, rfl, ?_⟩
      · simp [results, Tryz.results21, go_sem, d0, d1, d2, d3, d4]
      · exact fl_stored hu3 (Nat.le_succ _) (HA.out.ups hu3) (FlOff.mk hrP hrQ) (fun B hB ho => ho) rfl
    by_cases hp1 : (f.pages.length : Int) ≤ page
    · have he : appendF f page s = (f, 1) := by simp [appendF, hasB, hck]; omega
      rw [he]
      clear he hck hz8
      go_enter Tryz.func21, Tryz.ntmps21
      go_wp2_with fail
      refine (hsz _).mono ?_
      rintro e w3 ⟨rfl, rfl⟩
      go_wp2_with fail
      refine (hchk _ hu2).mono ?_
      rintro e w3 ⟨rfl, hb3⟩
      have hu3 := Ups.trans hu2 hb3
      have hk03 := block_ups hk0 hb3
      have hk13 := block_ups hk1 hb3
      clear hchk
      obtain ⟨k0, k1, k2, k3, k4⟩ := block_cells hk03
      have hzz := hk13
      obtain ⟨d0, d1, d2, d3, d4⟩ := block_cells hzz
      have y0 := block_frozen hzz 0
      have y1 := block_frozen hzz 1
      have y2 := block_frozen hzz 2
      have y3 := block_frozen hzz 3
      have y4 := block_frozen hzz 4
      have HA := Lib.hid hall
      clear hall hT hI hk0 hk1 hzz hf hk03 hk13
      go_wp2_with fail
      refine bodyPost_ret (v := .tuple #[.agg #[.slice a f.pages.length c, .slice a' f.wear.length c', .int .i64 f.fuse, .string f.torn, .bool f.dead], .int .i64 1]) ?_ rfl ⟨_, rfl, ?_⟩
      · simp [results, Tryz.results21, go_sem, d0, d1, d2, d3, d4]
      · exact fl_stored hu3 (Nat.le_succ _) (HA.out.ups hu3) (FlOff.mk hrP hrQ) (fun B hB ho => ho) rfl
    obtain ⟨n, rfl⟩ : ∃ n : Nat, page = n := ⟨page.toNat, by omega⟩
    have hn : n < f.pages.length := by omega
    have hpn : ¬ f.pages.length ≤ n := by omega
    have hhas := hasB_of hck hn
    have hso := (old_size hck hn)
    obtain ⟨b, off, rfl, hp'⟩ := hp (by omega)
    have hc0 : w.cell? ⟨b, off + n, none⟩ = some (.string (oldT f n)) := hp' n hn
    clear hp hp'
    by_cases hz0 : sizeN (s.size : Int) = 0
    · have he : appendF f n s = (f, 1) := by simp [appendF, hz0]
      rw [he]
      rw [hz0] at hsz
      clear he hck hz0 hz8 hhas hso
      go_enter Tryz.func21, Tryz.ntmps21
      go_wp2_with fail
      refine (hsz _).mono ?_
      rintro e w3 ⟨rfl, rfl⟩
      go_wp2_with fail
      refine (hchk _ hu2).mono ?_
      rintro e w3 ⟨rfl, hb3⟩
      have hu3 := Ups.trans hu2 hb3
      have hk03 := block_ups hk0 hb3
      have hk13 := block_ups hk1 hb3
      clear hchk hc0
      obtain ⟨k0, k1, k2, k3, k4⟩ := block_cells hk03
      have hzz := hk13
      obtain ⟨d0, d1, d2, d3, d4⟩ := block_cells hzz
      have y0 := block_frozen hzz 0
      have y1 := block_frozen hzz 1
      have y2 := block_frozen hzz 2
      have y3 := block_frozen hzz 3
      have y4 := block_frozen hzz 4
      have HA := Lib.hid hall
      clear hall hT hI hk0 hk1 hzz hf hk03 hk13
      go_wp2_with fail
      refine bodyPost_ret (v := .tuple #[.agg #[.slice (some ⟨b, off, none⟩) f.pages.length c, .slice a' f.wear.length c', .int .i64 f.fuse, .string f.torn, .bool f.dead], .int .i64 1]) ?_ rfl ⟨_, rfl, ?_⟩
      · simp [results, Tryz.results21, go_sem, d0, d1, d2, d3, d4]
      · exact fl_stored hu3 (Nat.le_succ _) (HA.out.ups hu3) (FlOff.mk hrP hrQ) (fun B hB ho => ho) rfl
    have hs4 : s.size ≤ 4000 := by
      refine Nat.not_lt.1 fun h => hz0 ?_
      unfold sizeN sizeF
      rw [if_pos (.inr (by omega))]
      rfl
    have hnx := fun w => next_calls (oldT f n) (s.size : Int) w (by omega)
    have hrm := fun w => proom_calls (oldT f n) (s.size : Int) w (by omega)
    have hle := nextN_le (oldT f n) (sizeN (s.size : Int))
    have hzne : ((sizeN (s.size : Int) : Int) == 0) = false := by simpa using hz0
    by_cases hfull : nextN (oldT f n) (sizeN (s.size : Int)) = (oldT f n).size / sizeN (s.size : Int)
    · have he : appendF f n s = (f, 4) := by simp [appendF, hhas, hz0, hfull]
      rw [he]
      rw [hfull] at hnx
      generalize (oldT f n).size / sizeN (s.size : Int) = r at *
      generalize sizeN (s.size : Int) = z at *
      generalize oldT f n = old at *
      clear he hck hz0 hz8 hhas hso hfull hle
      go_enter Tryz.func21, Tryz.ntmps21
      go_wp2_with fail
      refine (hsz _).mono ?_
      rintro e w3 ⟨rfl, rfl⟩
      go_wp2_with fail
      refine (hchk _ hu2).mono ?_
      rintro e w3 ⟨rfl, hb3⟩
      have hu3 := Ups.trans hu2 hb3
      have hk03 := block_ups hk0 hb3
      have hk13 := block_ups hk1 hb3
      clear hchk
      obtain ⟨k0, k1, k2, k3, k4⟩ := block_cells hk03
      have kc := cell_ups hu3 hc0
      go_wp2_with fail
      refine (hnx _).mono ?_
      rintro e w4 ⟨rfl, hb4⟩
      have hu4 := Ups.trans hu3 hb4
      have hk04 := block_ups hk03 hb4
      have hk14 := block_ups hk13 hb4
      clear k0 k1 k2 k3 k4
      clear kc
      go_wp2_with fail
      refine (hrm _).mono ?_
      rintro e w5 ⟨rfl, hb5⟩
      have hu5 := Ups.trans hu4 hb5
      have hk05 := block_ups hk04 hb5
      have hk15 := block_ups hk14 hb5
      clear hc0
      obtain ⟨k0, k1, k2, k3, k4⟩ := block_cells hk05
      have hzz := hk15
      obtain ⟨d0, d1, d2, d3, d4⟩ := block_cells hzz
      have y0 := block_frozen hzz 0
      have y1 := block_frozen hzz 1
      have y2 := block_frozen hzz 2
      have y3 := block_frozen hzz 3
      have y4 := block_frozen hzz 4
      have HA := Lib.hid hall
      clear hall hT hI hk0 hk1 hzz hf hk03 hk13 hk04 hk14 hk05 hk15
      go_wp2_with fail
      refine bodyPost_ret (v := .tuple #[.agg #[.slice (some ⟨b, off, none⟩) f.pages.length c, .slice a' f.wear.length c', .int .i64 f.fuse, .string f.torn, .bool f.dead], .int .i64 4]) ?_ rfl ⟨_, rfl, ?_⟩
      · simp [results, Tryz.results21, go_sem, d0, d1, d2, d3, d4]
      · exact fl_stored hu5 (Nat.le_succ _) (HA.out.ups hu5) (FlOff.mk hrP hrQ) (fun B hB ho => ho) rfl
    have he : appendF f n s = programF f n (nextN (oldT f n) (sizeN (s.size : Int)) * sizeN (s.size : Int) : Nat) (makeT s) := by simp [appendF, hhas, hz0, hfull]
    rw [he]
    have hm : nextN (oldT f n) (sizeN (s.size : Int)) * sizeN (s.size : Int) ≤ (oldT f n).size := Nat.le_trans (Nat.mul_le_mul_right _ hle) (Nat.div_mul_le_self _ _)
    have hmk := fun w => make_calls s w (by omega)
    have hne : ((nextN (oldT f n) (sizeN (s.size : Int)) : Int) == ((oldT f n).size / sizeN (s.size : Int) : Nat)) = false := by simp only [beq_eq_false_iff_ne, ne_eq]; omega
    have hmul : ((nextN (oldT f n) (sizeN (s.size : Int)) : Int) * (sizeN (s.size : Int) : Int)) = ((nextN (oldT f n) (sizeN (s.size : Int)) * sizeN (s.size : Int) : Nat) : Int) := (Int.natCast_mul _ _).symm
    have hm8 : (oldT f n).size ≤ 8192 := by omega
    have hwm : IntKind.i64.wrap ((nextN (oldT f n) (sizeN (s.size : Int)) * sizeN (s.size : Int) : Nat) : Int) = ((nextN (oldT f n) (sizeN (s.size : Int)) * sizeN (s.size : Int) : Nat) : Int) := by
      generalize nextN (oldT f n) (sizeN (s.size : Int)) * sizeN (s.size : Int) = m at *
      exact (IntWalk.i64_left _).trans (IntWalk.wrap64_in _ ⟨by omega, by omega⟩)
    clear hz0 hhas hfull hle hso he
    generalize ((oldT f n).size / sizeN (s.size : Int) : Nat) = r at *
    generalize nextN (oldT f n) (sizeN (s.size : Int)) * sizeN (s.size : Int) = m at *
    generalize nextN (oldT f n) (sizeN (s.size : Int)) = at_ at *
    generalize sizeN (s.size : Int) = z at *
    generalize oldT f n = old at *
    have hdo := fun W (hu : Ups w W) => program_calls f _ n m (makeT s) W (hall.ups hu) hf (by omega)
    generalize programF f n m (makeT s) = rr at *
    obtain ⟨g, e1⟩ := rr
    generalize makeT s = M at *
    simp only at hdo ⊢
    go_enter Tryz.func21, Tryz.ntmps21
    go_wp2_with fail
    refine (hsz _).mono ?_
    rintro e w3 ⟨rfl, rfl⟩
    go_wp2_with fail
    refine (hchk _ hu2).mono ?_
    rintro e w3 ⟨rfl, hb3⟩
    have hu3 := Ups.trans hu2 hb3
    have hk03 := block_ups hk0 hb3
    have hk13 := block_ups hk1 hb3
    clear hchk
    obtain ⟨k0, k1, k2, k3, k4⟩ := block_cells hk03
    have kc := cell_ups hu3 hc0
    go_wp2_with fail
    refine (hnx _).mono ?_
    rintro e w4 ⟨rfl, hb4⟩
    have hu4 := Ups.trans hu3 hb4
    have hk04 := block_ups hk03 hb4
    have hk14 := block_ups hk13 hb4
    clear k0 k1 k2 k3 k4
    clear kc
    go_wp2_with fail
    refine (hrm _).mono ?_
    rintro e w5 ⟨rfl, hb5⟩
    have hu5 := Ups.trans hu4 hb5
    have hk05 := block_ups hk04 hb5
    have hk15 := block_ups hk14 hb5
    have hz3 : w.heap.size + 1 < w5.heap.size := Nat.lt_of_lt_of_le hz2 (Ups.trans hb3 (Ups.trans hb4 hb5)).size
    have hcells := fun W (hU : Ups (World.drew w5) W) => block_cells (block_ups hk05 (drew_ups hU))
    clear hT hI hk0 hk1 hc0 hnx hrm hck
    go_wp2_with fail
    refine wp_region_parts (N := 10) (n := 59) (ks := [isV (.agg #[.slice (some ⟨b, off, none⟩) f.pages.length c, .slice a' f.wear.length c', .int .i64 f.fuse, .string f.torn, .bool f.dead]), isV (.int .i64 n), isV (.int .i64 at_), isV (.int .i64 z), isV (.int .i64 m), isV (.string s), isV (.string M), fun v W' => ∃ v', v = .tuple #[v', .int .i64 e1] ∧ FlAt W' v' g ∧ ∀ B, B ≤ w.heap.size + 1 → FlOff B (.agg #[.slice (some ⟨b, off, none⟩) f.pages.length c, .slice a' f.wear.length c', .int .i64 f.fuse, .string f.torn, .bool f.dead]) → FlOff B v', fun v' W' => FlAt W' v' g ∧ ∀ B, B ≤ w.heap.size + 1 → FlOff B (.agg #[.slice (some ⟨b, off, none⟩) f.pages.length c, .slice a' f.wear.length c', .int .i64 f.fuse, .string f.torn, .bool f.dead]) → FlOff B v', isV (.int .i64 e1)]) (by decide +kernel) (by decide +kernel) (by decide +kernel) (by simp) rfl (by decide +kernel) ⟨steady_is _, steady_is _, steady_is _, steady_is _, steady_is _, steady_is _, steady_is _, fun _ _ _ ⟨v', e, h1, h2⟩ hu => ⟨v', e, h1.ups hu, h2⟩, fun _ _ _ h hu => ⟨h.1.ups hu, h.2⟩, steady_is _, trivial⟩ ?_ ?_
    · refine And.intro (fun ac W hO hU H => ?_) ?_
      · have h3 : ac.tmps[3]? = some (.pointer (some ⟨w.heap.size, 0, none⟩)) := (hO 3 rfl).trans rfl
        obtain ⟨k0, k1, k2, k3, k4⟩ := hcells W hU
        exact growOp_plain rfl (parts_value (by simp [go_sem, h3, k0, k1, k2, k3, k4]))
      refine And.intro (fun ac W hO hU H => ?_) ?_
      · have h1 : ac.tmps[1]? = some (.int .i64 n) := (hO 1 rfl).trans rfl
        exact growOp_plain rfl (parts_value (by simp [go_sem, h1]))
      refine And.intro (fun ac W hO hU H => ?_) ?_
      · have h11 : ac.tmps[11]? = some (.int .i64 at_) := (hO 11 rfl).trans rfl
        exact growOp_plain rfl (parts_value (by simp [go_sem, h11]))
      refine And.intro (fun ac W hO hU H => ?_) ?_
      · have h9 : ac.tmps[9]? = some (.int .i64 z) := (hO 9 rfl).trans rfl
        exact growOp_plain rfl (parts_value (by simp [go_sem, h9]))
      refine And.intro (fun ac W hO hU H => ?_) ?_
      · have h51 : ac.tmps[51]? = some (.int .i64 at_) := isV_get (W := W) (H 2 51 rfl)
        have h52 : ac.tmps[52]? = some (.int .i64 z) := isV_get (W := W) (H 3 52 rfl)
        exact growOp_plain rfl (parts_value (by simp [go_sem, h51, h52, hmul, hwm]))
      refine And.intro (fun ac W hO hU H => ?_) ?_
      · have h2 : ac.tmps[2]? = some (.string s) := (hO 2 rfl).trans rfl
        exact growOp_plain rfl (parts_value (by simp [go_sem, h2]))
      refine And.intro (fun ac W hO hU H => ?_) ?_
      · have h54 : ac.tmps[54]? = some (.string s) := isV_get (W := W) (H 5 54 rfl)
        exact growOp_plain rfl (parts_call_is (args := #[.string s]) (by simp [go_sem, h54]) (hmk W))
      refine And.intro (fun ac W hO hU H => ?_) ?_
      · have h49 : ac.tmps[49]? = some (.agg #[.slice (some ⟨b, off, none⟩) f.pages.length c, .slice a' f.wear.length c', .int .i64 f.fuse, .string f.torn, .bool f.dead]) := isV_get (W := W) (H 0 49 rfl)
        have h50 : ac.tmps[50]? = some (.int .i64 n) := isV_get (W := W) (H 1 50 rfl)
        have h53 : ac.tmps[53]? = some (.int .i64 m) := isV_get (W := W) (H 4 53 rfl)
        have h55 : ac.tmps[55]? = some (.string M) := isV_get (W := W) (H 6 55 rfl)
        refine growOp_plain rfl (parts_call (f := 41) (args := #[.agg #[.slice (some ⟨b, off, none⟩) f.pages.length c, .slice a' f.wear.length c', .int .i64 f.fuse, .string f.torn, .bool f.dead], .int .i64 n, .int .i64 m, .string M]) (by simp [go_sem, h49, h50, h53, h55]) ?_)
        refine (hdo W (Ups.trans hu5 (drew_ups hU))).mono ?_
        rintro e W' ⟨v', rfl, hn⟩
        exact ⟨_, rfl, ⟨v', rfl, hn.reads, fun B hB ho => hn.off B (Nat.lt_of_le_of_lt hB (Nat.lt_of_lt_of_le hz3 (drew_ups hU).size)) ho⟩, hn.ups⟩
      refine And.intro (fun ac W hO hU H => ?_) ?_
      · obtain ⟨v56, h56, q56⟩ := H 7 56 rfl
        obtain ⟨v', rfl, hv⟩ := q56
        exact growOp_plain rfl (growUpon_value (by simp [go_sem, h56]) hv)
      refine And.intro (fun ac W hO hU H => ?_) ?_
      · obtain ⟨v56, h56, q56⟩ := H 7 56 rfl
        obtain ⟨v', rfl, hv⟩ := q56
        exact growOp_plain rfl (parts_value (by simp [go_sem, h56]))
      exact trivial
    · intro W xs hU hks
      obtain ⟨y0, rfl, g0⟩ := holdAll_is hks
      obtain ⟨y1, rfl, g1⟩ := holdAll_is g0
      obtain ⟨y2, rfl, g2⟩ := holdAll_is g1
      obtain ⟨y3, rfl, g3⟩ := holdAll_is g2
      obtain ⟨y4, rfl, g4⟩ := holdAll_is g3
      obtain ⟨y5, rfl, g5⟩ := holdAll_is g4
      obtain ⟨y6, rfl, g6⟩ := holdAll_is g5
      obtain ⟨v7, y7, rfl, q7, g7⟩ := holdAll_cons g6
      obtain ⟨v8, y8, rfl, q8, g8⟩ := holdAll_cons g7
      obtain ⟨y9, rfl, g9⟩ := holdAll_is g8
      obtain rfl := holdAll_nil g9
      clear hks g0 g1 g2 g3 g4 g5 g6 g7 g8 g9
      simp only [List.take_succ_cons, List.take_zero, List.drop_succ_cons, List.drop_zero, endTmps, List.setIfInBounds_toArray, List.set]
      have hzz := block_ups hk15 (drew_ups hU)
      obtain ⟨d0, d1, d2, d3, d4⟩ := block_cells hzz
      have y0 := block_frozen hzz 0
      have y1 := block_frozen hzz 1
      have y2 := block_frozen hzz 2
      have y3 := block_frozen hzz 3
      have y4 := block_frozen hzz 4
      have huW := Ups.trans hu5 (drew_ups hU)
      obtain ⟨hread, hoff⟩ := q8
      have HB := Lib.hid hread
      have HO := Lib.hid hoff
      obtain ⟨_, _, rfl, ⟨ap, cp, rfl, _⟩, ⟨aq, cq, rfl, _⟩⟩ := hread
      clear hoff hzz hall hcells hdo
      go_wp2_with fail
      refine bodyPost_ret (v := .tuple #[.agg #[.slice ap g.pages.length cp, .slice aq g.wear.length cq, .int .i64 g.fuse, .string g.torn, .bool g.dead], .int .i64 e1]) ?_ rfl ⟨_, rfl, ?_⟩
      · simp [results, Tryz.results21, go_sem, d0, d1, d2, d3, d4]
      · exact fl_stored huW (Nat.le_succ _) HB.out (HO.out _ (Nat.le_refl _) (FlOff.mk hrP hrQ)) (fun B hB ho => HO.out B (by omega) ho) (by simp)

end Go.Proofs.YtmabpnkdagipfaaGreat
