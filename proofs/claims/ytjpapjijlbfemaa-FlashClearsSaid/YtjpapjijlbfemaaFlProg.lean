/- What flash.Program, Wake, Rot, Free come to. -/
import Derived.Test.YtjpapjijlbfemaaFlErase
namespace Go.Proofs.Ytjpapjijlbfemaa
open Go.RowKit

def standsB (f : Fl) (page at_ : Int) (k : Nat) : Bool := hasB f page && decide (0 ≤ at_) && decide (at_ ≤ (oldT f page.toNat).size) && decide ((k : Int) ≤ (oldT f page.toNat).size - at_)
theorem stands_facts {f : Fl} {page at_ : Int} {k : Nat} (h : standsB f page at_ k = true) : checkB f = true ∧ (∃ n : Nat, page = n ∧ n < f.pages.length ∧ ∃ m : Nat, at_ = m ∧ m + k ≤ (oldT f n).size) := by
  unfold standsB at h
  simp only [Bool.and_eq_true, decide_eq_true_eq] at h
  obtain ⟨⟨⟨h1, h2⟩, h3⟩, h4⟩ := h
  obtain ⟨hc, n, rfl, hn⟩ := has_facts h1
  simp only [Int.toNat_natCast] at h3 h4
  exact ⟨hc, n, rfl, hn, at_.toNat, by omega, by omega⟩

set_option maxRecDepth 100000 in
set_option maxHeartbeats 2000000 in
theorem stands_calls (f : Fl) (v : Value) (page at_ : Int) (s : ByteArray) (w : World) (h : FlAt w v f) (hf : FlFit f) (ha : at_ ≤ 9223372036854775807) :
    Calls Try.prog 43 #[v, .int .i64 page, .int .i64 at_, .string s] w fun e W' => e = .returned (.bool (standsB f page at_ s.size)) ∧ Ups w W' := by
  have hall := h
  obtain ⟨p, q, rfl, hT, hI⟩ := h
  obtain ⟨a, c, rfl, hp⟩ := hT
  obtain ⟨a', c', rfl, _⟩ := hI
  have hu1 : Ups w (w.alloc (.cells #[.slice a f.pages.length c, .slice a' f.wear.length c', .int .i64 f.fuse, .string f.torn, .bool f.dead] 25)) := (Below.refl _ w).alloc (Nat.le_refl _) _
  have hk0 : (w.alloc (.cells #[.slice a f.pages.length c, .slice a' f.wear.length c', .int .i64 f.fuse, .string f.torn, .bool f.dead] 25)).heap[w.heap.size]? = some (.cells #[.slice a f.pages.length c, .slice a' f.wear.length c', .int .i64 f.fuse, .string f.torn, .bool f.dead] 25) := ((Own.start w).alloc (.cells #[.slice a f.pages.length c, .slice a' f.wear.length c', .int .i64 f.fuse, .string f.torn, .bool f.dead] 25)).at w.heap.size 0 rfl rfl
  have hhas := has_calls f _ page _ (hall.ups hu1) hf.1 hf.2.1
  cases hb : hasB f page with
  | false =>
    have he : standsB f page at_ s.size = false := by simp [standsB, hb]
    rw [he]
    rw [hb] at hhas
    clear he hb
    go_enter Try.func43, Try.ntmps43
    go_wp2_with fail
    refine hhas.mono ?_
    rintro e w3 ⟨rfl, hb3⟩
    go_wp2_with fail
    go_ret
    exact ⟨rfl, Ups.trans hu1 hb3⟩
  | true =>
    rw [hb] at hhas
    obtain ⟨hck, n, rfl, hn⟩ := has_facts hb
    have hip : (n : Int) < f.pages.length := by omega
    obtain ⟨b, off, rfl, hp'⟩ := hp (by omega)
    have hc0 : w.cell? ⟨b, off + n, none⟩ = some (.string (oldT f n)) := hp' n hn
    have hso := (old_size hck hn).2.1
    have he : standsB f n at_ s.size = (decide (0 ≤ at_) && decide (at_ ≤ (oldT f n).size) && decide ((s.size : Int) ≤ (oldT f n).size - at_)) := by simp [standsB, hb]
    rw [he]
    clear he hb hp hp'
    generalize oldT f n = old at *
    by_cases h1 : 0 ≤ at_
    · by_cases h2 : at_ ≤ old.size
      · rw [decide_eq_true h1, decide_eq_true h2, Bool.true_and, Bool.true_and]
        have hwr : IntKind.i64.wrap ((old.size : Int) - at_) = old.size - at_ := (IntWalk.i64_left _).trans (IntWalk.wrap64_in _ ⟨by omega, by omega⟩)
        go_enter Try.func43, Try.ntmps43
        go_wp2_with fail
        refine hhas.mono ?_
        rintro e w3 ⟨rfl, hb3⟩
        have hcc := cell_ups (Ups.trans hu1 hb3) hc0
        obtain ⟨k0, k1, k2, k3, k4⟩ := block_cells (block_ups hk0 hb3)
        clear hk0 hc0
        go_wp2_with fail
        go_ret
        exact ⟨rfl, Ups.trans hu1 hb3⟩
      · rw [decide_eq_false h2, Bool.and_false, Bool.false_and]
        go_enter Try.func43, Try.ntmps43
        go_wp2_with fail
        refine hhas.mono ?_
        rintro e w3 ⟨rfl, hb3⟩
        have hcc := cell_ups (Ups.trans hu1 hb3) hc0
        obtain ⟨k0, k1, k2, k3, k4⟩ := block_cells (block_ups hk0 hb3)
        clear hk0 hc0
        go_wp2_with fail
        go_ret
        exact ⟨rfl, Ups.trans hu1 hb3⟩
    · rw [decide_eq_false h1, Bool.false_and, Bool.false_and]
      go_enter Try.func43, Try.ntmps43
      go_wp2_with fail
      refine hhas.mono ?_
      rintro e w3 ⟨rfl, hb3⟩
      go_wp2_with fail
      go_ret
      exact ⟨rfl, Ups.trans hu1 hb3⟩

/-- What flash.Program does. -/
def programF (f : Fl) (page at_ : Int) (s : ByteArray) : Fl × Int :=
  if standsB f page at_ s.size then stepF f page.toNat (andT (oldT f page.toNat) (onesT at_.toNat ++ s)) (andT (oldT f page.toNat) (orT (onesT at_.toNat ++ s) (notT (maskOf f))))
  else (f, 1)

set_option maxRecDepth 100000 in
set_option maxHeartbeats 2000000 in
theorem program_calls (f : Fl) (v : Value) (page at_ : Int) (s : ByteArray) (w : World) (h : FlAt w v f) (hf : FlFit f) (ha : at_ ≤ 9223372036854775807) :
    Calls Try.prog 13 #[v, .int .i64 page, .int .i64 at_, .string s] w fun e W' => ∃ v', e = .returned (.tuple #[v', .int .i64 (programF f page at_ s).2]) ∧ FlNew w v W' v' (programF f page at_ s).1 := by
  have hall := h
  obtain ⟨p, q, rfl, hT, hI⟩ := h
  have hrP : RowOff (w.heap.size + 1) p := hT.off (Nat.le_succ _)
  have hrQ : RowOff (w.heap.size + 1) q := hI.off (Nat.le_succ _)
  have hT0 := hT
  have hI0 := hI
  obtain ⟨a, c, rfl, hp⟩ := hT0
  obtain ⟨a', c', rfl, _⟩ := hI0
  have hu2 : Ups w ((w.alloc (.cells #[.slice a f.pages.length c, .slice a' f.wear.length c', .int .i64 f.fuse, .string f.torn, .bool f.dead] 25)).alloc (.cells #[.slice none 0 0, .slice none 0 0, .int .i64 0, .string { data := #[] }, .bool false] 25)) := ((Own.start w).alloc (.cells #[.slice a f.pages.length c, .slice a' f.wear.length c', .int .i64 f.fuse, .string f.torn, .bool f.dead] 25) |>.alloc (.cells #[.slice none 0 0, .slice none 0 0, .int .i64 0, .string { data := #[] }, .bool false] 25)).bel
  have hk0 : ((w.alloc (.cells #[.slice a f.pages.length c, .slice a' f.wear.length c', .int .i64 f.fuse, .string f.torn, .bool f.dead] 25)).alloc (.cells #[.slice none 0 0, .slice none 0 0, .int .i64 0, .string { data := #[] }, .bool false] 25)).heap[w.heap.size]? = some (.cells #[.slice a f.pages.length c, .slice a' f.wear.length c', .int .i64 f.fuse, .string f.torn, .bool f.dead] 25) := ((Own.start w).alloc (.cells #[.slice a f.pages.length c, .slice a' f.wear.length c', .int .i64 f.fuse, .string f.torn, .bool f.dead] 25) |>.alloc (.cells #[.slice none 0 0, .slice none 0 0, .int .i64 0, .string { data := #[] }, .bool false] 25)).at w.heap.size 0 rfl rfl
  have hk1 : ((w.alloc (.cells #[.slice a f.pages.length c, .slice a' f.wear.length c', .int .i64 f.fuse, .string f.torn, .bool f.dead] 25)).alloc (.cells #[.slice none 0 0, .slice none 0 0, .int .i64 0, .string { data := #[] }, .bool false] 25)).heap[w.heap.size + 1]? = some (.cells #[.slice none 0 0, .slice none 0 0, .int .i64 0, .string { data := #[] }, .bool false] 25) := ((Own.start w).alloc (.cells #[.slice a f.pages.length c, .slice a' f.wear.length c', .int .i64 f.fuse, .string f.torn, .bool f.dead] 25) |>.alloc (.cells #[.slice none 0 0, .slice none 0 0, .int .i64 0, .string { data := #[] }, .bool false] 25)).at (w.heap.size + 1) 1 rfl rfl
  have hz2 : w.heap.size + 1 < ((w.alloc (.cells #[.slice a f.pages.length c, .slice a' f.wear.length c', .int .i64 f.fuse, .string f.torn, .bool f.dead] 25)).alloc (.cells #[.slice none 0 0, .slice none 0 0, .int .i64 0, .string { data := #[] }, .bool false] 25)).heap.size := (Array.getElem?_eq_some_iff.1 hk1).1
  have hst := stands_calls f _ page at_ s _ (hall.ups hu2) hf ha
  cases hb : standsB f page at_ s.size with
  | false =>
    have he : programF f page at_ s = (f, 1) := by simp [programF, hb]
    rw [he]
    rw [hb] at hst
    clear he hb
    go_enter Try.func13, Try.ntmps13
    go_wp2_with fail
    refine hst.mono ?_
    rintro e w3 ⟨rfl, hb3⟩
    obtain ⟨k0, k1, k2, k3, k4⟩ := block_cells (block_ups hk0 hb3)
    have hzz := block_ups hk1 hb3
    obtain ⟨d0, d1, d2, d3, d4⟩ := block_cells hzz
    have y0 := block_frozen hzz 0
    have y1 := block_frozen hzz 1
    have y2 := block_frozen hzz 2
    have y3 := block_frozen hzz 3
    have y4 := block_frozen hzz 4
    have hu3 := Ups.trans hu2 hb3
    have HA := Lib.hid hall
    clear hall hT hI hst hk0 hk1 hzz hf
    go_wp2_with fail
    refine bodyPost_ret (v := .tuple #[.agg #[.slice a f.pages.length c, .slice a' f.wear.length c', .int .i64 f.fuse, .string f.torn, .bool f.dead], .int .i64 1]) ?_ rfl ⟨_, rfl, ?_⟩
    · simp [results, Try.results13, go_sem, d0, d1, d2, d3, d4]
    · exact fl_stored hu3 (Nat.le_succ _) (HA.out.ups hu3) (FlOff.mk hrP hrQ) (fun B hB ho => ho) rfl
  | true =>
    rw [hb] at hst
    obtain ⟨hck, n, rfl, hn, k, rfl, hks⟩ := stands_facts hb
    obtain ⟨b, off, rfl, _⟩ := hp (by omega)
    obtain ⟨c1, c2, c3, c4, c5, c6⟩ := check_facts hck
    have s0 := old_size hck (n := 0) (by omega)
    have sn := old_size hck hn
    have hdsz : (onesT k ++ s).size ≤ 8192 := by rw [ByteArray.size_append, onesT_size]; omega
    have hsp := step_program (onesT k ++ s) (oldT f n) (maskOf f) (by omega) (by rw [maskOf, maskT_size]; omega) (by omega)
    have hdo := fun W (hu : Ups w W) => fdo_calls f _ n W (hall.ups hu) hn (by omega) (oldT f n) (oldT f 0) (maskOf f) _ _ _ _ rfl rfl (by omega) c4 rfl hsp hf.2.2.1 hf.2.2.2
    have he : programF f (n : Int) (k : Int) s = stepF f n (andT (oldT f n) (onesT k ++ s)) (andT (oldT f n) (orT (onesT k ++ s) (notT (maskOf f)))) := by simp [programF, hb]
    rw [he]
    have hss : s.size ≤ 8192 := by omega
    have hkk : k ≤ 8192 := by omega
    have hsz1 : (onesT k).size + s.size ≤ 8192 := by rw [onesT_size]; omega
    clear he hsp s0 sn hb c3 c5 c6 hks hp
    generalize stepF f n (andT (oldT f n) (onesT k ++ s)) (andT (oldT f n) (orT (onesT k ++ s) (notT (maskOf f)))) = r at *
    obtain ⟨g, e1⟩ := r
    simp only at hdo ⊢
    go_enter Try.func13, Try.ntmps13
    go_wp2_with fail
    refine hst.mono ?_
    rintro e w3 ⟨rfl, hb3⟩
    have hu3 := Ups.trans hu2 hb3
    have hk03 := block_ups hk0 hb3
    have hzz3 := block_ups hk1 hb3
    have hz3 : w.heap.size + 1 < w3.heap.size := Nat.lt_of_lt_of_le hz2 hb3.size
    have hcells := fun W (hU : Ups (World.drew w3) W) => block_cells (block_ups hk03 (drew_ups hU))
    clear hT hI hst hk0 hk1 hk03
    go_wp2_with fail
    refine wp_region_parts (N := 11) (n := 28) (ks := [isV (.agg #[.slice (some ⟨b, off, none⟩) f.pages.length c, .slice a' f.wear.length c', .int .i64 f.fuse, .string f.torn, .bool f.dead]), isV (.int .i64 n), isV (.int .i64 k), isV (.string (onesT k)), isV (.string s), isV (.string (onesT k ++ s)), isV (.agg #[.string (onesT k ++ s)]), isV (.iface 55 (.agg #[.string (onesT k ++ s)])), fun v W' => ∃ v', v = .tuple #[v', .int .i64 e1] ∧ FlAt W' v' g ∧ ∀ B, B ≤ w.heap.size + 1 → FlOff B (.agg #[.slice (some ⟨b, off, none⟩) f.pages.length c, .slice a' f.wear.length c', .int .i64 f.fuse, .string f.torn, .bool f.dead]) → FlOff B v', fun v' W' => FlAt W' v' g ∧ ∀ B, B ≤ w.heap.size + 1 → FlOff B (.agg #[.slice (some ⟨b, off, none⟩) f.pages.length c, .slice a' f.wear.length c', .int .i64 f.fuse, .string f.torn, .bool f.dead]) → FlOff B v', isV (.int .i64 e1)]) (by decide +kernel) (by decide +kernel) (by decide +kernel) (by simp) rfl (by decide +kernel) ⟨steady_is _, steady_is _, steady_is _, steady_is _, steady_is _, steady_is _, steady_is _, steady_is _, fun _ _ _ ⟨v', e, h1, h2⟩ hu => ⟨v', e, h1.ups hu, h2⟩, fun _ _ _ h hu => ⟨h.1.ups hu, h.2⟩, steady_is _, trivial⟩ ?_ ?_
    · refine And.intro (fun ac W hO hU H => ?_) ?_
      · have h4 : ac.tmps[4]? = some (.pointer (some ⟨w.heap.size, 0, none⟩)) := (hO 4 rfl).trans rfl
        obtain ⟨k0, k1, k2, k3, k4⟩ := hcells W hU
        exact growOp_plain rfl (parts_value (by simp [go_sem, h4, k0, k1, k2, k3, k4]))
      refine And.intro (fun ac W hO hU H => ?_) ?_
      · have h1 : ac.tmps[1]? = some (.int .i64 n) := (hO 1 rfl).trans rfl
        exact growOp_plain rfl (parts_value (by simp [go_sem, h1]))
      refine And.intro (fun ac W hO hU H => ?_) ?_
      · have h2 : ac.tmps[2]? = some (.int .i64 k) := (hO 2 rfl).trans rfl
        exact growOp_plain rfl (parts_value (by simp [go_sem, h2]))
      refine And.intro (fun ac W hO hU H => ?_) ?_
      · have h19 : ac.tmps[19]? = some (.int .i64 k) := isV_get (W := W) (H 2 19 rfl)
        exact growOp_plain rfl (parts_call_is (args := #[.int .i64 k]) (by simp [go_sem, h19]) (oones_t k W (by omega)))
      refine And.intro (fun ac W hO hU H => ?_) ?_
      · have h3 : ac.tmps[3]? = some (.string s) := (hO 3 rfl).trans rfl
        exact growOp_plain rfl (parts_value (by simp [go_sem, h3]))
      refine And.intro (fun ac W hO hU H => ?_) ?_
      · have h20 : ac.tmps[20]? = some (.string (onesT k)) := isV_get (W := W) (H 3 20 rfl)
        have h21 : ac.tmps[21]? = some (.string s) := isV_get (W := W) (H 4 21 rfl)
        exact growOp_plain rfl (parts_value (by simp [go_sem, h20, h21]; try omega))
      refine And.intro (fun ac W hO hU H => ?_) ?_
      · have h22 : ac.tmps[22]? = some (.string (onesT k ++ s)) := isV_get (W := W) (H 5 22 rfl)
        exact growOp_plain rfl (parts_value (by simp [go_sem, h22]))
      refine And.intro (fun ac W hO hU H => ?_) ?_
      · have h23 : ac.tmps[23]? = some (.agg #[.string (onesT k ++ s)]) := isV_get (W := W) (H 6 23 rfl)
        exact growOp_plain rfl (parts_value (by simp [go_sem, h23]))
      refine And.intro (fun ac W hO hU H => ?_) ?_
      · have h17 : ac.tmps[17]? = some (.agg #[.slice (some ⟨b, off, none⟩) f.pages.length c, .slice a' f.wear.length c', .int .i64 f.fuse, .string f.torn, .bool f.dead]) := isV_get (W := W) (H 0 17 rfl)
        have h18 : ac.tmps[18]? = some (.int .i64 n) := isV_get (W := W) (H 1 18 rfl)
        have h24 : ac.tmps[24]? = some (.iface 55 (.agg #[.string (onesT k ++ s)])) := isV_get (W := W) (H 7 24 rfl)
        refine growOp_plain rfl (parts_call (f := 33) (args := #[.agg #[.slice (some ⟨b, off, none⟩) f.pages.length c, .slice a' f.wear.length c', .int .i64 f.fuse, .string f.torn, .bool f.dead], .int .i64 n, .iface 55 (.agg #[.string (onesT k ++ s)])]) (by simp [go_sem, h17, h18, h24]) ?_)
        refine (hdo W (Ups.trans hu3 (drew_ups hU))).mono ?_
        rintro e W' ⟨v', rfl, hn⟩
        exact ⟨_, rfl, ⟨v', rfl, hn.reads, fun B hB ho => hn.off B (Nat.lt_of_le_of_lt hB (Nat.lt_of_lt_of_le hz3 (drew_ups hU).size)) ho⟩, hn.ups⟩
      refine And.intro (fun ac W hO hU H => ?_) ?_
      · obtain ⟨v25, h25, q25⟩ := H 8 25 rfl
        obtain ⟨v', rfl, hv⟩ := q25
        exact growOp_plain rfl (growUpon_value (by simp [go_sem, h25]) hv)
      refine And.intro (fun ac W hO hU H => ?_) ?_
      · obtain ⟨v25, h25, q25⟩ := H 8 25 rfl
        obtain ⟨v', rfl, hv⟩ := q25
        exact growOp_plain rfl (parts_value (by simp [go_sem, h25]))
      exact trivial
    · intro W xs hU hks
      obtain ⟨y0, rfl, g0⟩ := holdAll_is hks
      obtain ⟨y1, rfl, g1⟩ := holdAll_is g0
      obtain ⟨y2, rfl, g2⟩ := holdAll_is g1
      obtain ⟨y3, rfl, g3⟩ := holdAll_is g2
      obtain ⟨y4, rfl, g4⟩ := holdAll_is g3
      obtain ⟨y5, rfl, g5⟩ := holdAll_is g4
      obtain ⟨y6, rfl, g6⟩ := holdAll_is g5
      obtain ⟨y7, rfl, g7⟩ := holdAll_is g6
      obtain ⟨v8, y8, rfl, q8, g8⟩ := holdAll_cons g7
      obtain ⟨v9, y9, rfl, q9, g9⟩ := holdAll_cons g8
      obtain ⟨y10, rfl, g10⟩ := holdAll_is g9
      obtain rfl := holdAll_nil g10
      clear hks g0 g1 g2 g3 g4 g5 g6 g7 g8 g9 g10
      simp only [List.take_succ_cons, List.take_zero, List.drop_succ_cons, List.drop_zero, endTmps, List.setIfInBounds_toArray, List.set]
      have hzz := block_ups hzz3 (drew_ups hU)
      obtain ⟨d0, d1, d2, d3, d4⟩ := block_cells hzz
      have y0 := block_frozen hzz 0
      have y1 := block_frozen hzz 1
      have y2 := block_frozen hzz 2
      have y3 := block_frozen hzz 3
      have y4 := block_frozen hzz 4
      have huW := Ups.trans hu3 (drew_ups hU)
      obtain ⟨hread, hoff⟩ := q9
      have HB := Lib.hid hread
      have HO := Lib.hid hoff
      obtain ⟨_, _, rfl, ⟨ap, cp, rfl, _⟩, ⟨aq, cq, rfl, _⟩⟩ := hread
      clear hoff hzz hall hcells hdo hzz3
      go_wp2_with fail
      refine bodyPost_ret (v := .tuple #[.agg #[.slice ap g.pages.length cp, .slice aq g.wear.length cq, .int .i64 g.fuse, .string g.torn, .bool g.dead], .int .i64 e1]) ?_ rfl ⟨_, rfl, ?_⟩
      · simp [results, Try.results13, go_sem, d0, d1, d2, d3, d4]
      · exact fl_stored huW (Nat.le_succ _) HB.out (HO.out _ (Nat.le_refl _) (FlOff.mk hrP hrQ)) (fun B hB ho => HO.out B (by omega) ho) (by simp)

/-- What flash.Wake does. -/
def wakeF (f : Fl) (fuse : Int) (torn : ByteArray) : Fl × Int :=
  if checkB f && decide (torn.size ≤ 64) then ({ f with dead := false, fuse := fuse, torn := torn }, 0) else (f, 1)

set_option maxRecDepth 100000 in
set_option maxHeartbeats 2000000 in
theorem wake_calls (f : Fl) (v : Value) (fuse : Int) (torn : ByteArray) (w : World) (h : FlAt w v f) (hf : FlFit f) :
    Calls Try.prog 18 #[v, .int .i64 fuse, .string torn] w fun e W' => ∃ v', e = .returned (.tuple #[v', .int .i64 (wakeF f fuse torn).2]) ∧ FlNew w v W' v' (wakeF f fuse torn).1 := by
  have hall := h
  obtain ⟨p, q, rfl, hT, hI⟩ := h
  have hrP : RowOff (w.heap.size + 1) p := hT.off (Nat.le_succ _)
  have hrQ : RowOff (w.heap.size + 1) q := hI.off (Nat.le_succ _)
  have hT0 := hT
  have hI0 := hI
  obtain ⟨a, c, rfl, hp⟩ := hT0
  obtain ⟨a', c', rfl, _⟩ := hI0
  have hu2 : Ups w ((w.alloc (.cells #[.slice a f.pages.length c, .slice a' f.wear.length c', .int .i64 f.fuse, .string f.torn, .bool f.dead] 25)).alloc (.cells #[.slice none 0 0, .slice none 0 0, .int .i64 0, .string { data := #[] }, .bool false] 25)) := ((Own.start w).alloc (.cells #[.slice a f.pages.length c, .slice a' f.wear.length c', .int .i64 f.fuse, .string f.torn, .bool f.dead] 25) |>.alloc (.cells #[.slice none 0 0, .slice none 0 0, .int .i64 0, .string { data := #[] }, .bool false] 25)).bel
  have hk0 : ((w.alloc (.cells #[.slice a f.pages.length c, .slice a' f.wear.length c', .int .i64 f.fuse, .string f.torn, .bool f.dead] 25)).alloc (.cells #[.slice none 0 0, .slice none 0 0, .int .i64 0, .string { data := #[] }, .bool false] 25)).heap[w.heap.size]? = some (.cells #[.slice a f.pages.length c, .slice a' f.wear.length c', .int .i64 f.fuse, .string f.torn, .bool f.dead] 25) := ((Own.start w).alloc (.cells #[.slice a f.pages.length c, .slice a' f.wear.length c', .int .i64 f.fuse, .string f.torn, .bool f.dead] 25) |>.alloc (.cells #[.slice none 0 0, .slice none 0 0, .int .i64 0, .string { data := #[] }, .bool false] 25)).at w.heap.size 0 rfl rfl
  have hk1 : ((w.alloc (.cells #[.slice a f.pages.length c, .slice a' f.wear.length c', .int .i64 f.fuse, .string f.torn, .bool f.dead] 25)).alloc (.cells #[.slice none 0 0, .slice none 0 0, .int .i64 0, .string { data := #[] }, .bool false] 25)).heap[w.heap.size + 1]? = some (.cells #[.slice none 0 0, .slice none 0 0, .int .i64 0, .string { data := #[] }, .bool false] 25) := ((Own.start w).alloc (.cells #[.slice a f.pages.length c, .slice a' f.wear.length c', .int .i64 f.fuse, .string f.torn, .bool f.dead] 25) |>.alloc (.cells #[.slice none 0 0, .slice none 0 0, .int .i64 0, .string { data := #[] }, .bool false] 25)).at (w.heap.size + 1) 1 rfl rfl
  have hz2 : w.heap.size + 1 < ((w.alloc (.cells #[.slice a f.pages.length c, .slice a' f.wear.length c', .int .i64 f.fuse, .string f.torn, .bool f.dead] 25)).alloc (.cells #[.slice none 0 0, .slice none 0 0, .int .i64 0, .string { data := #[] }, .bool false] 25)).heap.size := (Array.getElem?_eq_some_iff.1 hk1).1
  have hch := check_calls f _ _ (hall.ups hu2) hf.1 hf.2.1
  cases hb : checkB f with
  | false =>
    have he : wakeF f fuse torn = (f, 1) := by simp [wakeF, hb]
    rw [he]
    rw [hb] at hch
    clear he hb
    go_enter Try.func18, Try.ntmps18
    go_wp2_with fail
    refine hch.mono ?_
    rintro e w3 ⟨rfl, hb3⟩
    obtain ⟨k0, k1, k2, k3, k4⟩ := block_cells (block_ups hk0 hb3)
    have hzz := block_ups hk1 hb3
    obtain ⟨d0, d1, d2, d3, d4⟩ := block_cells hzz
    have y0 := block_frozen hzz 0
    have y1 := block_frozen hzz 1
    have y2 := block_frozen hzz 2
    have y3 := block_frozen hzz 3
    have y4 := block_frozen hzz 4
    have hu3 := Ups.trans hu2 hb3
    have HA := Lib.hid hall
    clear hall hT hI hch hk0 hk1 hzz hf
    go_wp2_with fail
    refine bodyPost_ret (v := .tuple #[.agg #[.slice a f.pages.length c, .slice a' f.wear.length c', .int .i64 f.fuse, .string f.torn, .bool f.dead], .int .i64 1]) ?_ rfl ⟨_, rfl, ?_⟩
    · simp [results, Try.results18, go_sem, d0, d1, d2, d3, d4]
    · exact fl_stored hu3 (Nat.le_succ _) (HA.out.ups hu3) (FlOff.mk hrP hrQ) (fun B hB ho => ho) rfl
  | true =>
    rw [hb] at hch
    by_cases ht : torn.size ≤ 64
    · have he : wakeF f fuse torn = ({ f with dead := false, fuse := fuse, torn := torn }, 0) := by simp [wakeF, hb, ht]
      rw [he]
      have ht' : ¬ (64 : Int) < torn.size := by omega
      clear he hb ht
      go_enter Try.func18, Try.ntmps18
      go_wp2_with fail
      refine hch.mono ?_
      rintro e w3 ⟨rfl, hb3⟩
      have hk3 := block_ups hk0 hb3
      obtain ⟨k0, k1, k2, k3, k4⟩ := block_cells hk3
      have x2 := block_frozen hk3 2
      have x3 := block_frozen hk3 3
      have x4 := block_frozen hk3 4
      have hzz := block_ups hk1 hb3
      obtain ⟨d0, d1, d2, d3, d4⟩ := block_cells hzz
      have y0 := block_frozen hzz 0
      have y1 := block_frozen hzz 1
      have y2 := block_frozen hzz 2
      have y3 := block_frozen hzz 3
      have y4 := block_frozen hzz 4
      have hu3 := Ups.trans hu2 hb3
      have HA := Lib.hid hall
      have hb1 : But w.heap.size w3 (((w3.setCell ⟨w.heap.size, 4, none⟩ (.bool false)).setCell ⟨w.heap.size, 2, none⟩ (.int .i64 fuse)).setCell ⟨w.heap.size, 3, none⟩ (.string torn)) := (((But.refl _ _).set 4 _).set 2 _).set 3 _
      have HT := Lib.hid ((hT.ups hu3).but hb1 (hT.off (Nat.le_refl _)))
      have HI := Lib.hid ((hI.ups hu3).but hb1 (hI.off (Nat.le_refl _)))
      clear hall hT hI hch hk0 hk1 hzz hf hk3
      go_wp2_with fail
      refine bodyPost_ret (v := .tuple #[.agg #[.slice a f.pages.length c, .slice a' f.wear.length c', .int .i64 fuse, .string torn, .bool false], .int .i64 0]) ?_ rfl ⟨_, rfl, ?_⟩
      · simp [results, Try.results18, go_sem, d0, d1, d2, d3, d4]
      · exact fl_stored (hb1.below hu3 (Nat.le_refl _)) (Nat.le_succ _) ⟨_, _, rfl, HT.out, HI.out⟩ (FlOff.mk hrP hrQ) (fun B hB ho => FlOff.mk ho.fst ho.snd) rfl
    · have he : wakeF f fuse torn = (f, 1) := by simp [wakeF, hb, ht]
      rw [he]
      have ht' : (64 : Int) < torn.size := by omega
      clear he hb ht
      go_enter Try.func18, Try.ntmps18
      go_wp2_with fail
      refine hch.mono ?_
      rintro e w3 ⟨rfl, hb3⟩
      obtain ⟨k0, k1, k2, k3, k4⟩ := block_cells (block_ups hk0 hb3)
      have hzz := block_ups hk1 hb3
      obtain ⟨d0, d1, d2, d3, d4⟩ := block_cells hzz
      have y0 := block_frozen hzz 0
      have y1 := block_frozen hzz 1
      have y2 := block_frozen hzz 2
      have y3 := block_frozen hzz 3
      have y4 := block_frozen hzz 4
      have hu3 := Ups.trans hu2 hb3
      have HA := Lib.hid hall
      clear hall hT hI hch hk0 hk1 hzz hf
      go_wp2_with fail
      refine bodyPost_ret (v := .tuple #[.agg #[.slice a f.pages.length c, .slice a' f.wear.length c', .int .i64 f.fuse, .string f.torn, .bool f.dead], .int .i64 1]) ?_ rfl ⟨_, rfl, ?_⟩
      · simp [results, Try.results18, go_sem, d0, d1, d2, d3, d4]
      · exact fl_stored hu3 (Nat.le_succ _) (HA.out.ups hu3) (FlOff.mk hrP hrQ) (fun B hB ho => ho) rfl

/-- What flash.Rot does. -/
def rotF (f : Fl) (page at_ : Int) (turn : ByteArray) : Fl × Int :=
  if standsB f page at_ turn.size && decide (turn.size ≤ 4) then ({ f with pages := f.pages.set page.toNat (xorT (oldT f page.toNat) (zerosT at_.toNat ++ turn)) }, 0) else (f, 1)

set_option maxRecDepth 100000 in
set_option maxHeartbeats 2000000 in
theorem rot_calls (f : Fl) (v : Value) (page at_ : Int) (s : ByteArray) (w : World) (h : FlAt w v f) (hf : FlFit f) (ha : at_ ≤ 9223372036854775807) :
    Calls Try.prog 20 #[v, .int .i64 page, .int .i64 at_, .string s] w fun e W' => ∃ v', e = .returned (.tuple #[v', .int .i64 (rotF f page at_ s).2]) ∧ FlNew w v W' v' (rotF f page at_ s).1 := by
  have hall := h
  obtain ⟨p, q, rfl, hT, hI⟩ := h
  have hrP : RowOff (w.heap.size + 1) p := hT.off (Nat.le_succ _)
  have hrQ : RowOff (w.heap.size + 1) q := hI.off (Nat.le_succ _)
  have hT0 := hT
  have hI0 := hI
  obtain ⟨a, c, rfl, hp⟩ := hT0
  obtain ⟨a', c', rfl, _⟩ := hI0
  have hu2 : Ups w ((w.alloc (.cells #[.slice a f.pages.length c, .slice a' f.wear.length c', .int .i64 f.fuse, .string f.torn, .bool f.dead] 25)).alloc (.cells #[.slice none 0 0, .slice none 0 0, .int .i64 0, .string { data := #[] }, .bool false] 25)) := ((Own.start w).alloc (.cells #[.slice a f.pages.length c, .slice a' f.wear.length c', .int .i64 f.fuse, .string f.torn, .bool f.dead] 25) |>.alloc (.cells #[.slice none 0 0, .slice none 0 0, .int .i64 0, .string { data := #[] }, .bool false] 25)).bel
  have hk0 : ((w.alloc (.cells #[.slice a f.pages.length c, .slice a' f.wear.length c', .int .i64 f.fuse, .string f.torn, .bool f.dead] 25)).alloc (.cells #[.slice none 0 0, .slice none 0 0, .int .i64 0, .string { data := #[] }, .bool false] 25)).heap[w.heap.size]? = some (.cells #[.slice a f.pages.length c, .slice a' f.wear.length c', .int .i64 f.fuse, .string f.torn, .bool f.dead] 25) := ((Own.start w).alloc (.cells #[.slice a f.pages.length c, .slice a' f.wear.length c', .int .i64 f.fuse, .string f.torn, .bool f.dead] 25) |>.alloc (.cells #[.slice none 0 0, .slice none 0 0, .int .i64 0, .string { data := #[] }, .bool false] 25)).at w.heap.size 0 rfl rfl
  have hk1 : ((w.alloc (.cells #[.slice a f.pages.length c, .slice a' f.wear.length c', .int .i64 f.fuse, .string f.torn, .bool f.dead] 25)).alloc (.cells #[.slice none 0 0, .slice none 0 0, .int .i64 0, .string { data := #[] }, .bool false] 25)).heap[w.heap.size + 1]? = some (.cells #[.slice none 0 0, .slice none 0 0, .int .i64 0, .string { data := #[] }, .bool false] 25) := ((Own.start w).alloc (.cells #[.slice a f.pages.length c, .slice a' f.wear.length c', .int .i64 f.fuse, .string f.torn, .bool f.dead] 25) |>.alloc (.cells #[.slice none 0 0, .slice none 0 0, .int .i64 0, .string { data := #[] }, .bool false] 25)).at (w.heap.size + 1) 1 rfl rfl
  have hz2 : w.heap.size + 1 < ((w.alloc (.cells #[.slice a f.pages.length c, .slice a' f.wear.length c', .int .i64 f.fuse, .string f.torn, .bool f.dead] 25)).alloc (.cells #[.slice none 0 0, .slice none 0 0, .int .i64 0, .string { data := #[] }, .bool false] 25)).heap.size := (Array.getElem?_eq_some_iff.1 hk1).1
  have hst := stands_calls f _ page at_ s _ (hall.ups hu2) hf ha
  cases hb : standsB f page at_ s.size with
  | false =>
    have he : rotF f page at_ s = (f, 1) := by simp [rotF, hb]
    rw [he]
    rw [hb] at hst
    clear he hb
    go_enter Try.func20, Try.ntmps20
    go_wp2_with fail
    refine hst.mono ?_
    rintro e w3 ⟨rfl, hb3⟩
    obtain ⟨k0, k1, k2, k3, k4⟩ := block_cells (block_ups hk0 hb3)
    have hzz := block_ups hk1 hb3
    obtain ⟨d0, d1, d2, d3, d4⟩ := block_cells hzz
    have y0 := block_frozen hzz 0
    have y1 := block_frozen hzz 1
    have y2 := block_frozen hzz 2
    have y3 := block_frozen hzz 3
    have y4 := block_frozen hzz 4
    have hu3 := Ups.trans hu2 hb3
    have HA := Lib.hid hall
    clear hall hT hI hst hk0 hk1 hzz hf
    go_wp2_with fail
    refine bodyPost_ret (v := .tuple #[.agg #[.slice a f.pages.length c, .slice a' f.wear.length c', .int .i64 f.fuse, .string f.torn, .bool f.dead], .int .i64 1]) ?_ rfl ⟨_, rfl, ?_⟩
    · simp [results, Try.results20, go_sem, d0, d1, d2, d3, d4]
    · exact fl_stored hu3 (Nat.le_succ _) (HA.out.ups hu3) (FlOff.mk hrP hrQ) (fun B hB ho => ho) rfl
  | true =>
    rw [hb] at hst
    rcases Nat.lt_or_ge 4 s.size with ht | ht
    · have he : rotF f page at_ s = (f, 1) := by simp [rotF, hb]; omega
      rw [he]
      have ht' : (4 : Int) < s.size := by omega
      clear he hb ht
      go_enter Try.func20, Try.ntmps20
      go_wp2_with fail
      refine hst.mono ?_
      rintro e w3 ⟨rfl, hb3⟩
      obtain ⟨k0, k1, k2, k3, k4⟩ := block_cells (block_ups hk0 hb3)
      have hzz := block_ups hk1 hb3
      obtain ⟨d0, d1, d2, d3, d4⟩ := block_cells hzz
      have y0 := block_frozen hzz 0
      have y1 := block_frozen hzz 1
      have y2 := block_frozen hzz 2
      have y3 := block_frozen hzz 3
      have y4 := block_frozen hzz 4
      have hu3 := Ups.trans hu2 hb3
      have HA := Lib.hid hall
      clear hall hT hI hst hk0 hk1 hzz hf
      go_wp2_with fail
      refine bodyPost_ret (v := .tuple #[.agg #[.slice a f.pages.length c, .slice a' f.wear.length c', .int .i64 f.fuse, .string f.torn, .bool f.dead], .int .i64 1]) ?_ rfl ⟨_, rfl, ?_⟩
      · simp [results, Try.results20, go_sem, d0, d1, d2, d3, d4]
      · exact fl_stored hu3 (Nat.le_succ _) (HA.out.ups hu3) (FlOff.mk hrP hrQ) (fun B hB ho => ho) rfl
    obtain ⟨hck, n, rfl, hn, k, rfl, hks⟩ := stands_facts hb
    obtain ⟨b, off, rfl, hp'⟩ := hp (by omega)
    obtain ⟨c1, c2, c3, c4, c5, c6⟩ := check_facts hck
    have sn := old_size hck hn
    have ht' : ¬ (4 : Int) < s.size := by omega
    have hip : (n : Int) < f.pages.length := by omega
    have hc0 : w.cell? ⟨b, off + n, none⟩ = some (.string (oldT f n)) := hp' n hn
    have hdsz : (zerosT k ++ s).size ≤ 140737488355328 := by rw [ByteArray.size_append, zerosT_size]; omega
    have he : rotF f (n : Int) (k : Int) s = ({ f with pages := f.pages.set n (xorT (oldT f n) (zerosT k ++ s)) }, 0) := by simp [rotF, hb, ht]
    rw [he]
    have hkk : k ≤ 8192 := by omega
    have hsz1 : (zerosT k).size + s.size ≤ 8196 := by rw [zerosT_size]; omega
    clear he hb c3 c5 c6 hks hp hp'
    go_enter Try.func20, Try.ntmps20
    go_wp2_with fail
    refine hst.mono ?_
    rintro e w3 ⟨rfl, hb3⟩
    have hu3 := Ups.trans hu2 hb3
    have hk03 := block_ups hk0 hb3
    have hzz3 := block_ups hk1 hb3
    have hz3 : w.heap.size + 1 < w3.heap.size := Nat.lt_of_lt_of_le hz2 hb3.size
    have hcells := fun W (hU : Ups (World.drew w3) W) => block_cells (block_ups hk03 (drew_ups hU))
    have hcold := fun W (hU : Ups (World.drew w3) W) => cell_ups (Ups.trans hu3 (drew_ups hU)) hc0
    clear hT hI hst hk0 hk1 hk03
    go_wp2_with fail
    refine wp_region_parts (N := 14) (n := 36) (ks := [isV (.agg #[.slice (some ⟨b, off, none⟩) f.pages.length c, .slice a' f.wear.length c', .int .i64 f.fuse, .string f.torn, .bool f.dead]), isV (.int .i64 n), isV (.pointer (some ⟨w.heap.size, 0, none⟩)), isV (.slice (some ⟨b, off, none⟩) f.pages.length c), isV (.int .i64 n), isV (.pointer (some ⟨b, off + n, none⟩)), isV (.string (oldT f n)), isV (.int .i64 k), slV (List.replicate k 0), isV (.string (zerosT k)), isV (.string s), isV (.string (zerosT k ++ s)), isV (.string (xorT (oldT f n) (zerosT k ++ s))), fun v' W' => FlAt W' v' { f with pages := f.pages.set n (xorT (oldT f n) (zerosT k ++ s)) } ∧ ∀ B, B ≤ w.heap.size + 1 → FlOff B (.agg #[.slice (some ⟨b, off, none⟩) f.pages.length c, .slice a' f.wear.length c', .int .i64 f.fuse, .string f.torn, .bool f.dead]) → FlOff B v']) (by decide +kernel) (by decide +kernel) (by decide +kernel) (by simp) rfl (by decide +kernel) ⟨steady_is _, steady_is _, steady_is _, steady_is _, steady_is _, steady_is _, steady_is _, steady_is _, steady_sl _, steady_is _, steady_is _, steady_is _, steady_is _, fun _ _ _ h hu => ⟨h.1.ups hu, h.2⟩, trivial⟩ ?_ ?_
    · refine And.intro (fun ac W hO hU H => ?_) ?_
      · have h4 : ac.tmps[4]? = some (.pointer (some ⟨w.heap.size, 0, none⟩)) := (hO 4 rfl).trans rfl
        obtain ⟨k0, k1, k2, k3, k4⟩ := hcells W hU
        exact growOp_plain rfl (parts_value (by simp [go_sem, h4, k0, k1, k2, k3, k4]))
      refine And.intro (fun ac W hO hU H => ?_) ?_
      · have h1 : ac.tmps[1]? = some (.int .i64 n) := (hO 1 rfl).trans rfl
        exact growOp_plain rfl (parts_value (by simp [go_sem, h1]))
      refine And.intro (fun ac W hO hU H => ?_) ?_
      · have h4 : ac.tmps[4]? = some (.pointer (some ⟨w.heap.size, 0, none⟩)) := (hO 4 rfl).trans rfl
        exact growOp_plain rfl (parts_value (by simp [go_sem, h4]))
      refine And.intro (fun ac W hO hU H => ?_) ?_
      · have h24 : ac.tmps[24]? = some (.pointer (some ⟨w.heap.size, 0, none⟩)) := isV_get (W := W) (H 2 24 rfl)
        obtain ⟨k0, k1, k2, k3, k4⟩ := hcells W hU
        exact growOp_plain rfl (parts_value (by simp [go_sem, h24, k0]))
      refine And.intro (fun ac W hO hU H => ?_) ?_
      · have h1 : ac.tmps[1]? = some (.int .i64 n) := (hO 1 rfl).trans rfl
        exact growOp_plain rfl (parts_value (by simp [go_sem, h1]))
      refine And.intro (fun ac W hO hU H => ?_) ?_
      · have h25 : ac.tmps[25]? = some (.slice (some ⟨b, off, none⟩) f.pages.length c) := isV_get (W := W) (H 3 25 rfl)
        have h26 : ac.tmps[26]? = some (.int .i64 n) := isV_get (W := W) (H 4 26 rfl)
        exact growOp_plain rfl (parts_value (by simp [go_sem, h25, h26, hip]))
      refine And.intro (fun ac W hO hU H => ?_) ?_
      · have h27 : ac.tmps[27]? = some (.pointer (some ⟨b, off + n, none⟩)) := isV_get (W := W) (H 5 27 rfl)
        have kc := hcold W hU
        exact growOp_plain rfl (parts_value (by simp [go_sem, h27, kc]))
      refine And.intro (fun ac W hO hU H => ?_) ?_
      · have h2 : ac.tmps[2]? = some (.int .i64 k) := (hO 2 rfl).trans rfl
        exact growOp_plain rfl (parts_value (by simp [go_sem, h2]))
      refine And.intro (fun ac W hO hU H => ?_) ?_
      · have h29 : ac.tmps[29]? = some (.int .i64 k) := isV_get (W := W) (H 7 29 rfl)
        exact growOp_plain rfl (parts_make k (by omega) rfl (eval_tmp h29) (eval_tmp h29))
      refine And.intro (fun ac W hO hU H => ?_) ?_
      · obtain ⟨v30, h30, q30⟩ := H 8 30 rfl
        exact growOp_plain rfl (parts_conv h30 q30 rfl)
      refine And.intro (fun ac W hO hU H => ?_) ?_
      · have h3 : ac.tmps[3]? = some (.string s) := (hO 3 rfl).trans rfl
        exact growOp_plain rfl (parts_value (by simp [go_sem, h3]))
      refine And.intro (fun ac W hO hU H => ?_) ?_
      · have h31 : ac.tmps[31]? = some (.string (zerosT k)) := isV_get (W := W) (H 9 31 rfl)
        have h32 : ac.tmps[32]? = some (.string s) := isV_get (W := W) (H 10 32 rfl)
        exact growOp_plain rfl (parts_value (by simp [go_sem, h31, h32]; try omega))
      refine And.intro (fun ac W hO hU H => ?_) ?_
      · have h28 : ac.tmps[28]? = some (.string (oldT f n)) := isV_get (W := W) (H 6 28 rfl)
        have h33 : ac.tmps[33]? = some (.string (zerosT k ++ s)) := isV_get (W := W) (H 11 33 rfl)
        exact growOp_plain rfl (parts_call_is (args := #[.string (oldT f n), .string (zerosT k ++ s)]) (by simp [go_sem, h28, h33]) (oxor_t _ _ W (by omega) hdsz))
      refine And.intro (fun ac W hO hU H => ?_) ?_
      · have h22 : ac.tmps[22]? = some (.agg #[.slice (some ⟨b, off, none⟩) f.pages.length c, .slice a' f.wear.length c', .int .i64 f.fuse, .string f.torn, .bool f.dead]) := isV_get (W := W) (H 0 22 rfl)
        have h23 : ac.tmps[23]? = some (.int .i64 n) := isV_get (W := W) (H 1 23 rfl)
        have h34 : ac.tmps[34]? = some (.string (xorT (oldT f n) (zerosT k ++ s))) := isV_get (W := W) (H 12 34 rfl)
        exact growOp_plain rfl (parts_call (args := #[.agg #[.slice (some ⟨b, off, none⟩) f.pages.length c, .slice a' f.wear.length c', .int .i64 f.fuse, .string f.torn, .bool f.dead], .int .i64 n, .string (xorT (oldT f n) (zerosT k ++ s))]) (by simp [go_sem, h22, h23, h34]) (with_kd (hall.ups (Ups.trans hu3 (drew_ups hU))) n _ hn (by omega) (Nat.lt_of_lt_of_le hz3 (drew_ups hU).size)))
      exact trivial
    · intro W xs hU hks
      obtain ⟨y0, rfl, g0⟩ := holdAll_is hks
      obtain ⟨y1, rfl, g1⟩ := holdAll_is g0
      obtain ⟨y2, rfl, g2⟩ := holdAll_is g1
      obtain ⟨y3, rfl, g3⟩ := holdAll_is g2
      obtain ⟨y4, rfl, g4⟩ := holdAll_is g3
      obtain ⟨y5, rfl, g5⟩ := holdAll_is g4
      obtain ⟨y6, rfl, g6⟩ := holdAll_is g5
      obtain ⟨y7, rfl, g7⟩ := holdAll_is g6
      obtain ⟨v8, y8, rfl, q8, g8⟩ := holdAll_cons g7
      obtain ⟨y9, rfl, g9⟩ := holdAll_is g8
      obtain ⟨y10, rfl, g10⟩ := holdAll_is g9
      obtain ⟨y11, rfl, g11⟩ := holdAll_is g10
      obtain ⟨y12, rfl, g12⟩ := holdAll_is g11
      obtain ⟨v13, y13, rfl, q13, g13⟩ := holdAll_cons g12
      obtain rfl := holdAll_nil g13
      clear hks g0 g1 g2 g3 g4 g5 g6 g7 g8 g9 g10 g11 g12 g13
      simp only [List.take_succ_cons, List.take_zero, List.drop_succ_cons, List.drop_zero, endTmps, List.setIfInBounds_toArray, List.set]
      have hzz := block_ups hzz3 (drew_ups hU)
      obtain ⟨d0, d1, d2, d3, d4⟩ := block_cells hzz
      have y0 := block_frozen hzz 0
      have y1 := block_frozen hzz 1
      have y2 := block_frozen hzz 2
      have y3 := block_frozen hzz 3
      have y4 := block_frozen hzz 4
      have huW := Ups.trans hu3 (drew_ups hU)
      obtain ⟨hread, hoff⟩ := q13
      have HB := Lib.hid hread
      have HO := Lib.hid hoff
      obtain ⟨_, _, rfl, ⟨ap, cp, rfl, _⟩, ⟨aq, cq, rfl, _⟩⟩ := hread
      clear hoff hzz hall hcells hcold hzz3
      go_wp2_with fail
      refine bodyPost_ret (v := .tuple #[.agg #[.slice ap (f.pages.set n (xorT (oldT f n) (zerosT k ++ s))).length cp, .slice aq f.wear.length cq, .int .i64 f.fuse, .string f.torn, .bool f.dead], .int .i64 0]) ?_ rfl ⟨_, rfl, ?_⟩
      · simp [results, Try.results20, go_sem, d0, d1, d2, d3, d4]
      · exact fl_stored huW (Nat.le_succ _) HB.out (HO.out _ (Nat.le_refl _) (FlOff.mk hrP hrQ)) (fun B hB ho => HO.out B (by omega) ho) (by simp)

/-- What flash.Free says. -/
def freeB (f : Fl) (page : Int) : Bool := hasB f page && decide (count (oldT f page.toNat).data.toList = 8 * (oldT f page.toNat).size)

set_option maxRecDepth 100000 in
theorem free1_calls (s : ByteArray) (w : World) (hs : s.size ≤ 8192) :
    Calls Try.prog 55 #[.string s] w fun e W' => e = .returned (.bool (decide (count s.data.toList = 8 * s.size))) ∧ w = W' := by
  have hc := count_calls s w (by omega)
  have hle := count_le s.data.toList
  rw [toList_length] at hle
  have hwr : IntKind.i64.wrap (8 * (s.size : Int)) = 8 * s.size := (IntWalk.i64_left _).trans (IntWalk.wrap64_in _ ⟨by omega, by omega⟩)
  have hd : decide (count s.data.toList = 8 * s.size) = ((count s.data.toList : Int) == 8 * (s.size : Int)) := by
    rw [Bool.eq_iff_iff, decide_eq_true_eq, beq_iff_eq]
    omega
  rw [hd]
  generalize count s.data.toList = k at *
  clear hd
  go_enter Try.func55, Try.ntmps55
  go_wp2_with fail
  refine hc.mono ?_
  rintro e w1 ⟨rfl, rfl⟩
  go_wp2_with fail
  go_ret
  exact ⟨rfl, rfl⟩

set_option maxRecDepth 100000 in
set_option maxHeartbeats 2000000 in
theorem free_calls (f : Fl) (v : Value) (page : Int) (w : World) (h : FlAt w v f) (hf : FlFit f) :
    Calls Try.prog 25 #[v, .int .i64 page] w fun e W' => e = .returned (.bool (freeB f page)) ∧ Ups w W' := by
  have hall := h
  obtain ⟨p, q, rfl, hT, hI⟩ := h
  obtain ⟨a, c, rfl, hp⟩ := hT
  obtain ⟨a', c', rfl, _⟩ := hI
  have hu1 : Ups w (w.alloc (.cells #[.slice a f.pages.length c, .slice a' f.wear.length c', .int .i64 f.fuse, .string f.torn, .bool f.dead] 25)) := (Below.refl _ w).alloc (Nat.le_refl _) _
  have hk0 : (w.alloc (.cells #[.slice a f.pages.length c, .slice a' f.wear.length c', .int .i64 f.fuse, .string f.torn, .bool f.dead] 25)).heap[w.heap.size]? = some (.cells #[.slice a f.pages.length c, .slice a' f.wear.length c', .int .i64 f.fuse, .string f.torn, .bool f.dead] 25) := ((Own.start w).alloc (.cells #[.slice a f.pages.length c, .slice a' f.wear.length c', .int .i64 f.fuse, .string f.torn, .bool f.dead] 25)).at w.heap.size 0 rfl rfl
  have hhas := has_calls f _ page _ (hall.ups hu1) hf.1 hf.2.1
  cases hb : hasB f page with
  | false =>
    have he : freeB f page = false := by simp [freeB, hb]
    rw [he]
    rw [hb] at hhas
    clear he hb
    go_enter Try.func25, Try.ntmps25
    go_wp2_with fail
    refine hhas.mono ?_
    rintro e w3 ⟨rfl, hb3⟩
    go_wp2_with fail
    go_ret
    exact ⟨rfl, Ups.trans hu1 hb3⟩
  | true =>
    rw [hb] at hhas
    obtain ⟨hck, n, rfl, hn⟩ := has_facts hb
    have hip : (n : Int) < f.pages.length := by omega
    obtain ⟨b, off, rfl, hp'⟩ := hp (by omega)
    have hc0 : w.cell? ⟨b, off + n, none⟩ = some (.string (oldT f n)) := hp' n hn
    have hso := (old_size hck hn).2.1
    have he : freeB f n = decide (count (oldT f n).data.toList = 8 * (oldT f n).size) := by simp [freeB, hb]
    rw [he]
    clear he hb hp hp'
    have hfr := fun W => free1_calls (oldT f n) W (by omega)
    generalize oldT f n = old at *
    generalize decide (count old.data.toList = 8 * old.size) = r at *
    go_enter Try.func25, Try.ntmps25
    go_wp2_with fail
    refine hhas.mono ?_
    rintro e w3 ⟨rfl, hb3⟩
    have hcc := cell_ups (Ups.trans hu1 hb3) hc0
    obtain ⟨k0, k1, k2, k3, k4⟩ := block_cells (block_ups hk0 hb3)
    clear hk0 hc0
    go_wp2_with fail
    refine (hfr _).mono ?_
    rintro e w4 ⟨rfl, rfl⟩
    go_wp2_with fail
    go_ret
    exact ⟨rfl, Ups.trans hu1 hb3⟩

end Go.Proofs.Ytjpapjijlbfemaa
