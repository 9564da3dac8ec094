/- What flash.do comes to. -/
import Derived.Test.YtjpapjijlbfemaaFlStep
namespace Go.Proofs.Ytjpapjijlbfemaa
open Go.RowKit

theorem erase_meth (n : Nat) (W : World) : (method (n + 1) 47 (.agg #[]) "ouroboros/flash.whole").run Try.prog W = .ok (97, .agg #[]) W := by kernel_rfl
theorem erase_meth' (n : Nat) (W : World) : (method (n + 1) 47 (.agg #[]) "ouroboros/flash.torn").run Try.prog W = .ok (96, .agg #[]) W := by kernel_rfl
theorem program_meth (n : Nat) (s : ByteArray) (W : World) : (method (n + 1) 55 (.agg #[.string s]) "ouroboros/flash.whole").run Try.prog W = .ok (99, .agg #[.string s]) W := by kernel_rfl
theorem program_meth' (n : Nat) (s : ByteArray) (W : World) : (method (n + 1) 55 (.agg #[.string s]) "ouroboros/flash.torn").run Try.prog W = .ok (98, .agg #[.string s]) W := by kernel_rfl
/-! nil -/
theorem erase_nil (n : Nat) (W : World) : (nilAhead (n + 1) 47 (.agg #[]) "ouroboros/flash.torn").run Try.prog W = .ok (some false) W := by kernel_rfl
theorem program_nil (n : Nat) (s : ByteArray) (W : World) : (nilAhead (n + 1) 55 (.agg #[.string s]) "ouroboros/flash.torn").run Try.prog W = .ok (some false) W := by kernel_rfl

/-- A step as a value: what its methods come to. -/
structure StepIs (T : TypeId) (x : Value) (old mask whole torn : ByteArray) : Prop where
  whole : ∀ (ev : Operand → Value) (o : Oper) (t t1 : Tmp) (W : World), o.op = .call { callee := .invoke (.tmp t) "ouroboros/flash.whole", args := #[.tmp t1], argTypes := #[9] } → ev (.tmp t) = .iface T x → ev (.tmp t1) = .string old →
    growUpon Try.prog Ups (isV (.string whole)) W ((execOp ev o).run Try.prog W)
  torn : ∀ (ev : Operand → Value) (o : Oper) (t t1 t2 : Tmp) (W : World), o.op = .call { callee := .invoke (.tmp t) "ouroboros/flash.torn", args := #[.tmp t1, .tmp t2], argTypes := #[9, 9] } → ev (.tmp t) = .iface T x → ev (.tmp t1) = .string old → ev (.tmp t2) = .string mask →
    growUpon Try.prog Ups (isV (.string torn)) W ((execOp ev o).run Try.prog W)
  nil : ∀ n W, (nilAhead (n + 1) T x "ouroboros/flash.torn").run Try.prog W = .ok (some false) W

theorem step_erase (old mask : ByteArray) (h1 : old.size ≤ 100000) (h2 : mask.size ≤ 100000) : StepIs 47 (.agg #[]) old mask (onesT old.size) (orT old mask) := by
  refine ⟨?_, ?_, erase_nil⟩
  · intro ev o t t1 W ho h h3
    refine parts_call_is (f := 97) (args := #[.agg #[], .string old]) ?_ (erase_whole old W h1)
    simp [execOp, ho, resolve, h, h3, go_sem]
    rw [erase_meth]
    simp [go_sem]
  · intro ev o t t1 t2 W ho h h3 h4
    refine parts_call_is (f := 96) (args := #[.agg #[], .string old, .string mask]) ?_ (erase_torn old mask W (by omega) (by omega))
    simp [execOp, ho, resolve, h, h3, h4, go_sem]
    rw [erase_meth']
    simp [go_sem]
theorem step_program (data old mask : ByteArray) (h1 : old.size ≤ 100000) (h2 : mask.size ≤ 100000) (h5 : data.size ≤ 140737488355328) : StepIs 55 (.agg #[.string data]) old mask (andT old data) (andT old (orT data (notT mask))) := by
  refine ⟨?_, ?_, fun n W => program_nil n data W⟩
  · intro ev o t t1 W ho h h3
    refine parts_call_is (f := 99) (args := #[.agg #[.string data], .string old]) ?_ (program_whole data old W (by omega) h5)
    simp [execOp, ho, resolve, h, h3, go_sem]
    rw [program_meth]
    simp [go_sem]
  · intro ev o t t1 t2 W ho h h3 h4
    refine parts_call_is (f := 98) (args := #[.agg #[.string data], .string old, .string mask]) ?_ (program_torn data old mask W (by omega) (by omega) h5)
    simp [execOp, ho, resolve, h, h3, h4, go_sem]
    rw [program_meth']
    simp [go_sem]

/-- A step on a page: what it does as a whole, and what torn. -/
def stepF (f : Fl) (page : Nat) (whole torn : ByteArray) : Fl × Int :=
  if f.dead then (f, 8)
  else if f.fuse = 0 then ({ f with pages := f.pages.set page torn, dead := true }, 8)
  else ({ f with pages := f.pages.set page whole, fuse := if 0 < f.fuse then f.fuse - 1 else f.fuse }, 0)

theorem with_kd {w : World} {v : Value} {f : Fl} {W : World} (h : FlAt W v f) (page : Nat) (s : ByteArray) (hp0 : page < f.pages.length) (hb1 : f.pages.length ≤ 1000) (hz : w.heap.size + 1 < W.heap.size) :
    Calls Try.prog 49 #[v, .int .i64 page, .string s] W fun e W' => ∃ v', e = .returned v' ∧ (FlAt W' v' { f with pages := f.pages.set page s } ∧ ∀ B, B ≤ w.heap.size + 1 → FlOff B v → FlOff B v') ∧ Ups W W' := by
  refine (with_calls f v page s W h hp0 hb1).mono ?_
  rintro e W' ⟨v', rfl, hn⟩
  exact ⟨v', rfl, ⟨hn.reads, fun B hB ho => hn.off B (by omega) ho⟩, hn.ups⟩

/-- A flash is stored in a block of the call's own. -/
theorem fl_stored {w W : World} {v v' p q x y z : Value} {f' : Fl} {B : Nat} (hu : Ups w W) (hB : w.heap.size ≤ B) (h : FlAt W v' f') (ho : FlOff B v') (hoff : ∀ B', B' < w.heap.size → FlOff B' v → FlOff B' v') (_hv : v' = .agg #[p, q, x, y, z]) :
    FlNew w v (put5 W B p q x y z) v' f' :=
  ⟨h.but (put5_but W B p q x y z) ho, (put5_but W B p q x y z).below hu hB, hoff⟩

set_option maxRecDepth 100000 in
set_option maxHeartbeats 1000000 in
theorem fdo_calls (f : Fl) (v : Value) (page : Nat) (w : World) (h : FlAt w v f) (hp0 : page < f.pages.length) (hb1 : f.pages.length ≤ 1000) (old first mask whole torn : ByteArray) (T : TypeId) (x : Value)
    (hold : f.pages.getD page ByteArray.empty = old) (hfirst : f.pages.getD 0 ByteArray.empty = first) (hs1 : first.size ≤ 8192) (hs2 : f.torn.size ≤ 64) (hmask : maskT f.torn first.size = mask) (hs : StepIs T x old mask whole torn) (hfu : -9223372036854775808 ≤ f.fuse) (hfu2 : f.fuse ≤ 9223372036854775807) :
    Calls Try.prog 33 #[v, .int .i64 page, .iface T x] w fun e W' => ∃ v', e = .returned (.tuple #[v', .int .i64 (stepF f page whole torn).2]) ∧ FlNew w v W' v' (stepF f page whole torn).1 := by
  obtain ⟨p, q, rfl, hT, hI⟩ := h
  have hrP : RowOff (w.heap.size + 1) p := hT.off (Nat.le_succ _)
  have hrQ : RowOff (w.heap.size + 1) q := hI.off (Nat.le_succ _)
  have hT0 := hT
  have hI0 := hI
  obtain ⟨a, c, rfl, hp⟩ := hT0
  obtain ⟨a', c', rfl, _⟩ := hI0
  obtain ⟨b, off, rfl, hp'⟩ := hp (by omega)
  have hc0 := hp' page hp0
  rw [hold] at hc0
  have hbl := lt_of_cell hc0
  simp only at hbl
  have hip : (page : Int) < f.pages.length := by omega
  obtain ⟨pages, wear, fuse, ftorn, dead⟩ := f
  simp only at hT hI hc0 hp0 hb1 hold hfirst hs2 hmask hip hfu hfu2 hrP hrQ ⊢
  clear hp hp' hold
  cases dead with
  | true =>
    have hu2 : Ups w ((w.alloc (.cells #[.slice (some ⟨b, off, none⟩) pages.length c, .slice a' wear.length c', .int .i64 fuse, .string ftorn, .bool true] 25)).alloc (.cells #[.slice (some ⟨b, off, none⟩) pages.length c, .slice a' wear.length c', .int .i64 fuse, .string ftorn, .bool true] 25)) := ((Own.start w).alloc (.cells #[.slice (some ⟨b, off, none⟩) pages.length c, .slice a' wear.length c', .int .i64 fuse, .string ftorn, .bool true] 25) |>.alloc (.cells #[.slice (some ⟨b, off, none⟩) pages.length c, .slice a' wear.length c', .int .i64 fuse, .string ftorn, .bool true] 25)).bel
    go_enter Try.func33, Try.ntmps33
    go_wp2_with fail
    refine bodyPost_ret (v := .tuple #[.agg #[.slice (some ⟨b, off, none⟩) pages.length c, .slice a' wear.length c', .int .i64 fuse, .string ftorn, .bool true], .int .i64 8]) (by simp [results, Try.results33, go_sem]) rfl ⟨_, rfl, ?_⟩
    exact ⟨⟨_, _, rfl, hT.ups hu2, hI.ups hu2⟩, hu2, fun _ _ h => h⟩
  | false =>
    by_cases h0 : fuse = 0
    · subst h0
      have hu2 : Ups w ((w.alloc (.cells #[.slice (some ⟨b, off, none⟩) pages.length c, .slice a' wear.length c', .int .i64 0, .string ftorn, .bool true] 25)).alloc (.cells #[.slice none 0 0, .slice none 0 0, .int .i64 0, .string { data := #[] }, .bool false] 25)) := ((Own.start w).alloc (.cells #[.slice (some ⟨b, off, none⟩) pages.length c, .slice a' wear.length c', .int .i64 0, .string ftorn, .bool true] 25) |>.alloc (.cells #[.slice none 0 0, .slice none 0 0, .int .i64 0, .string { data := #[] }, .bool false] 25)).bel
      have hk0 : ((w.alloc (.cells #[.slice (some ⟨b, off, none⟩) pages.length c, .slice a' wear.length c', .int .i64 0, .string ftorn, .bool true] 25)).alloc (.cells #[.slice none 0 0, .slice none 0 0, .int .i64 0, .string { data := #[] }, .bool false] 25)).heap[w.heap.size]? = some (.cells #[.slice (some ⟨b, off, none⟩) pages.length c, .slice a' wear.length c', .int .i64 0, .string ftorn, .bool true] 25) := ((Own.start w).alloc (.cells #[.slice (some ⟨b, off, none⟩) pages.length c, .slice a' wear.length c', .int .i64 0, .string ftorn, .bool true] 25) |>.alloc (.cells #[.slice none 0 0, .slice none 0 0, .int .i64 0, .string { data := #[] }, .bool false] 25)).at w.heap.size 0 rfl rfl
      have hk1 : ((w.alloc (.cells #[.slice (some ⟨b, off, none⟩) pages.length c, .slice a' wear.length c', .int .i64 0, .string ftorn, .bool true] 25)).alloc (.cells #[.slice none 0 0, .slice none 0 0, .int .i64 0, .string { data := #[] }, .bool false] 25)).heap[w.heap.size + 1]? = some (.cells #[.slice none 0 0, .slice none 0 0, .int .i64 0, .string { data := #[] }, .bool false] 25) := ((Own.start w).alloc (.cells #[.slice (some ⟨b, off, none⟩) pages.length c, .slice a' wear.length c', .int .i64 0, .string ftorn, .bool true] 25) |>.alloc (.cells #[.slice none 0 0, .slice none 0 0, .int .i64 0, .string { data := #[] }, .bool false] 25)).at (w.heap.size + 1) 1 rfl rfl
      have hz2 : w.heap.size + 1 < ((w.alloc (.cells #[.slice (some ⟨b, off, none⟩) pages.length c, .slice a' wear.length c', .int .i64 0, .string ftorn, .bool true] 25)).alloc (.cells #[.slice none 0 0, .slice none 0 0, .int .i64 0, .string { data := #[] }, .bool false] 25)).heap.size := (Array.getElem?_eq_some_iff.1 hk1).1
      have hcells := fun W (hU : Ups (World.drew ((w.alloc (.cells #[.slice (some ⟨b, off, none⟩) pages.length c, .slice a' wear.length c', .int .i64 0, .string ftorn, .bool true] 25)).alloc (.cells #[.slice none 0 0, .slice none 0 0, .int .i64 0, .string { data := #[] }, .bool false] 25))) W) => block_cells (block_ups hk0 (drew_ups hU))
      have hfl : ∀ W, Ups (World.drew ((w.alloc (.cells #[.slice (some ⟨b, off, none⟩) pages.length c, .slice a' wear.length c', .int .i64 0, .string ftorn, .bool true] 25)).alloc (.cells #[.slice none 0 0, .slice none 0 0, .int .i64 0, .string { data := #[] }, .bool false] 25))) W → FlAt W (.agg #[.slice (some ⟨b, off, none⟩) pages.length c, .slice a' wear.length c', .int .i64 0, .string ftorn, .bool true]) ⟨pages, wear, 0, ftorn, true⟩ := fun W hU => ⟨_, _, rfl, hT.ups (Ups.trans hu2 (drew_ups hU)), hI.ups (Ups.trans hu2 (drew_ups hU))⟩
      have hsize : ∀ W, Ups (World.drew ((w.alloc (.cells #[.slice (some ⟨b, off, none⟩) pages.length c, .slice a' wear.length c', .int .i64 0, .string ftorn, .bool true] 25)).alloc (.cells #[.slice none 0 0, .slice none 0 0, .int .i64 0, .string { data := #[] }, .bool false] 25))) W → w.heap.size + 1 < W.heap.size := fun W hU => Nat.lt_of_lt_of_le hz2 (drew_ups hU).size
      have hmk : ∀ W, Ups (World.drew ((w.alloc (.cells #[.slice (some ⟨b, off, none⟩) pages.length c, .slice a' wear.length c', .int .i64 0, .string ftorn, .bool true] 25)).alloc (.cells #[.slice none 0 0, .slice none 0 0, .int .i64 0, .string { data := #[] }, .bool false] 25))) W → Calls Try.prog 63 #[.agg #[.slice (some ⟨b, off, none⟩) pages.length c, .slice a' wear.length c', .int .i64 0, .string ftorn, .bool true]] W fun e W' => e = .returned (.string mask) ∧ Ups W W' := by
        intro W hU
        have := mask_calls _ _ W (hfl W hU) first (by simp only; omega) hfirst hb1 hs1 hs2
        simp only at this
        rwa [hmask] at this
      go_enter Try.func33, Try.ntmps33
      go_wp2_with fail
      refine wp_region_parts (N := 11) (n := 48) (ks := [isV (.agg #[.slice (some ⟨b, off, none⟩) pages.length c, .slice a' wear.length c', .int .i64 0, .string ftorn, .bool true]), isV (.int .i64 page), isV (.iface T x), isV (.string old), isV (.agg #[.slice (some ⟨b, off, none⟩) pages.length c, .slice a' wear.length c', .int .i64 0, .string ftorn, .bool true]), isV (.string mask), isV (.func (.method "ouroboros/flash.torn") #[.iface T x] #[]), isV (.func (.method "ouroboros/flash.torn") #[.iface T x] #[]), isV (.iface T x), isV (.string torn), fun v' W' => FlAt W' v' ⟨(pages.set page torn), wear, 0, ftorn, true⟩ ∧ ∀ B, B ≤ w.heap.size + 1 → FlOff B (.agg #[.slice (some ⟨b, off, none⟩) pages.length c, .slice a' wear.length c', .int .i64 0, .string ftorn, .bool true]) → FlOff B v']) (by decide +kernel) (by decide +kernel) (by decide +kernel) (by simp) rfl (by decide +kernel) ⟨steady_is _, steady_is _, steady_is _, steady_is _, steady_is _, steady_is _, steady_is _, steady_is _, steady_is _, steady_is _, fun _ _ _ h hu => ⟨h.1.ups hu, h.2⟩, trivial⟩ ?_ ?_
      · refine And.intro (fun ac W hO hU H => ?_) ?_
        · have h3 : ac.tmps[3]? = some (.pointer (some ⟨w.heap.size, 0, none⟩)) := (hO 3 rfl).trans rfl
          obtain ⟨k0, k1, k2, k3, k4⟩ := hcells W hU
          exact growOp_plain rfl (parts_value (by simp [go_sem, h3, k0, k1, k2, k3, k4]))
        refine And.intro (fun ac W hO hU H => ?_) ?_
        · have h1 : ac.tmps[1]? = some (.int .i64 page) := (hO 1 rfl).trans rfl
          exact growOp_plain rfl (parts_value (by simp [go_sem, h1]))
        refine And.intro (fun ac W hO hU H => ?_) ?_
        · have h2 : ac.tmps[2]? = some (.iface T x) := (hO 2 rfl).trans rfl
          exact growOp_plain rfl (parts_value (by simp [go_sem, h2]))
        refine And.intro (fun ac W hO hU H => ?_) ?_
        · have h8 : ac.tmps[8]? = some (.string old) := (hO 8 rfl).trans rfl
          exact growOp_plain rfl (parts_value (by simp [go_sem, h8]))
        refine And.intro (fun ac W hO hU H => ?_) ?_
        · have h3 : ac.tmps[3]? = some (.pointer (some ⟨w.heap.size, 0, none⟩)) := (hO 3 rfl).trans rfl
          obtain ⟨k0, k1, k2, k3, k4⟩ := hcells W hU
          exact growOp_plain rfl (parts_value (by simp [go_sem, h3, k0, k1, k2, k3, k4]))
        refine And.intro (fun ac W hO hU H => ?_) ?_
        · have h27 : ac.tmps[27]? = some (.agg #[.slice (some ⟨b, off, none⟩) pages.length c, .slice a' wear.length c', .int .i64 0, .string ftorn, .bool true]) := isV_get (W := W) (H 4 27 rfl)
          exact growOp_plain rfl (parts_call_is (args := #[.agg #[.slice (some ⟨b, off, none⟩) pages.length c, .slice a' wear.length c', .int .i64 0, .string ftorn, .bool true]]) (by simp [go_sem, h27]) (hmk W hU))
        refine And.intro (fun ac W hO hU H => ?_) ?_
        · have h25 : ac.tmps[25]? = some (.iface T x) := isV_get (W := W) (H 2 25 rfl)
          exact growOp_plain rfl (parts_value (by simp [go_sem, h25]))
        refine And.intro (fun ac W hO hU H => ?_) ?_
        · have h29 : ac.tmps[29]? = some (.func (.method "ouroboros/flash.torn") #[.iface T x] #[]) := isV_get (W := W) (H 6 29 rfl)
          exact growOp_plain rfl (parts_value (by simp [go_sem, h29]; rw [hs.nil]; simp [go_sem]))
        refine And.intro (fun ac W hO hU H => ?_) ?_
        · have h25 : ac.tmps[25]? = some (.iface T x) := isV_get (W := W) (H 2 25 rfl)
          exact growOp_plain rfl (parts_value (by simp [go_sem, h25]))
        refine And.intro (fun ac W hO hU H => ?_) ?_
        · have h31 : ac.tmps[31]? = some (.iface T x) := isV_get (W := W) (H 8 31 rfl)
          have h26 : ac.tmps[26]? = some (.string old) := isV_get (W := W) (H 3 26 rfl)
          have h28 : ac.tmps[28]? = some (.string mask) := isV_get (W := W) (H 5 28 rfl)
          exact growOp_plain rfl (hs.torn _ _ 31 26 28 W rfl (eval_tmp h31) (eval_tmp h26) (eval_tmp h28))
        refine And.intro (fun ac W hO hU H => ?_) ?_
        · have h23 : ac.tmps[23]? = some (.agg #[.slice (some ⟨b, off, none⟩) pages.length c, .slice a' wear.length c', .int .i64 0, .string ftorn, .bool true]) := isV_get (W := W) (H 0 23 rfl)
          have h24 : ac.tmps[24]? = some (.int .i64 page) := isV_get (W := W) (H 1 24 rfl)
          have h32 : ac.tmps[32]? = some (.string torn) := isV_get (W := W) (H 9 32 rfl)
          exact growOp_plain rfl (parts_call (args := #[.agg #[.slice (some ⟨b, off, none⟩) pages.length c, .slice a' wear.length c', .int .i64 0, .string ftorn, .bool true], .int .i64 page, .string torn]) (by simp [go_sem, h23, h24, h32]) (with_kd (hfl W hU) page torn (by simpa using hp0) (by simpa using hb1) (hsize W hU)))
        exact trivial
      · intro W xs hU hks
        obtain ⟨y0, rfl, g0⟩ := holdAll_is hks
        obtain ⟨y1, rfl, g1⟩ := holdAll_is g0
        obtain ⟨y2, rfl, g2⟩ := holdAll_is g1
        obtain ⟨y3, rfl, g3⟩ := holdAll_is g2
        obtain ⟨y4, rfl, g4⟩ := holdAll_is g3
        obtain ⟨y5, rfl, g5⟩ := holdAll_is g4
        obtain ⟨y6, rfl, g6⟩ := holdAll_is g5
        obtain ⟨y7, rfl, g7⟩ := holdAll_is g6
        obtain ⟨y8, rfl, g8⟩ := holdAll_is g7
        obtain ⟨y9, rfl, g9⟩ := holdAll_is g8
        obtain ⟨v10, y10, rfl, q10, g10⟩ := holdAll_cons g9
        obtain rfl := holdAll_nil g10
        clear hks g0 g1 g2 g3 g4 g5 g6 g7 g8 g9 g10
        simp only [List.take_succ_cons, List.take_zero, List.drop_succ_cons, List.drop_zero, endTmps, List.setIfInBounds_toArray, List.set]
        have hzz := block_ups hk1 (drew_ups hU)
        have huW := Ups.trans hu2 (drew_ups hU)
        obtain ⟨d0, d1, d2, d3, d4⟩ := block_cells hzz
        have y0 := block_frozen hzz 0
        have y1 := block_frozen hzz 1
        have y2 := block_frozen hzz 2
        have y3 := block_frozen hzz 3
        have y4 := block_frozen hzz 4
        obtain ⟨hread, hoff⟩ := q10
        have HB := Lib.hid hread
        have HO := Lib.hid hoff
        obtain ⟨_, _, rfl, ⟨ap, cp, rfl, _⟩, ⟨aq, cq, rfl, _⟩⟩ := hread
        clear hoff hcells hfl hsize
        go_wp2_with fail
        refine bodyPost_ret (v := .tuple #[.agg #[.slice ap (pages.set page torn).length cp, .slice aq wear.length cq, .int .i64 (0), .string ftorn, .bool true], .int .i64 8]) ?_ rfl ⟨_, rfl, ?_⟩
        · simp [results, Try.results33, go_sem, d0, d1, d2, d3, d4]
        · exact fl_stored huW (Nat.le_succ _) HB.out (HO.out _ (Nat.le_refl _) (FlOff.mk hrP hrQ)) (fun B hB ho => HO.out B (by omega) (FlOff.mk ho.fst ho.snd)) (by simp)
    · have hne : (fuse == 0) = false := by simpa using h0
      have hF : stepF ⟨pages, wear, fuse, ftorn, false⟩ page whole torn = (⟨pages.set page whole, wear, if 0 < fuse then fuse - 1 else fuse, ftorn, false⟩, 0) := by simp [stepF, h0]
      rw [hF]
      clear hF
      by_cases h1 : 0 < fuse
      · rw [if_pos h1]
        have hw1 : IntKind.i64.wrap (fuse - 1) = fuse - 1 := (IntWalk.i64_left _).trans (IntWalk.wrap64_in _ ⟨by omega, by omega⟩)
        have hu2 : Ups w ((w.alloc (.cells #[.slice (some ⟨b, off, none⟩) pages.length c, .slice a' wear.length c', .int .i64 (fuse - 1), .string ftorn, .bool false] 25)).alloc (.cells #[.slice none 0 0, .slice none 0 0, .int .i64 0, .string { data := #[] }, .bool false] 25)) := ((Own.start w).alloc (.cells #[.slice (some ⟨b, off, none⟩) pages.length c, .slice a' wear.length c', .int .i64 (fuse - 1), .string ftorn, .bool false] 25) |>.alloc (.cells #[.slice none 0 0, .slice none 0 0, .int .i64 0, .string { data := #[] }, .bool false] 25)).bel
        have hk0 : ((w.alloc (.cells #[.slice (some ⟨b, off, none⟩) pages.length c, .slice a' wear.length c', .int .i64 (fuse - 1), .string ftorn, .bool false] 25)).alloc (.cells #[.slice none 0 0, .slice none 0 0, .int .i64 0, .string { data := #[] }, .bool false] 25)).heap[w.heap.size]? = some (.cells #[.slice (some ⟨b, off, none⟩) pages.length c, .slice a' wear.length c', .int .i64 (fuse - 1), .string ftorn, .bool false] 25) := ((Own.start w).alloc (.cells #[.slice (some ⟨b, off, none⟩) pages.length c, .slice a' wear.length c', .int .i64 (fuse - 1), .string ftorn, .bool false] 25) |>.alloc (.cells #[.slice none 0 0, .slice none 0 0, .int .i64 0, .string { data := #[] }, .bool false] 25)).at w.heap.size 0 rfl rfl
        have hk1 : ((w.alloc (.cells #[.slice (some ⟨b, off, none⟩) pages.length c, .slice a' wear.length c', .int .i64 (fuse - 1), .string ftorn, .bool false] 25)).alloc (.cells #[.slice none 0 0, .slice none 0 0, .int .i64 0, .string { data := #[] }, .bool false] 25)).heap[w.heap.size + 1]? = some (.cells #[.slice none 0 0, .slice none 0 0, .int .i64 0, .string { data := #[] }, .bool false] 25) := ((Own.start w).alloc (.cells #[.slice (some ⟨b, off, none⟩) pages.length c, .slice a' wear.length c', .int .i64 (fuse - 1), .string ftorn, .bool false] 25) |>.alloc (.cells #[.slice none 0 0, .slice none 0 0, .int .i64 0, .string { data := #[] }, .bool false] 25)).at (w.heap.size + 1) 1 rfl rfl
        have hz2 : w.heap.size + 1 < ((w.alloc (.cells #[.slice (some ⟨b, off, none⟩) pages.length c, .slice a' wear.length c', .int .i64 (fuse - 1), .string ftorn, .bool false] 25)).alloc (.cells #[.slice none 0 0, .slice none 0 0, .int .i64 0, .string { data := #[] }, .bool false] 25)).heap.size := (Array.getElem?_eq_some_iff.1 hk1).1
        have hcells := fun W (hU : Ups (World.drew ((w.alloc (.cells #[.slice (some ⟨b, off, none⟩) pages.length c, .slice a' wear.length c', .int .i64 (fuse - 1), .string ftorn, .bool false] 25)).alloc (.cells #[.slice none 0 0, .slice none 0 0, .int .i64 0, .string { data := #[] }, .bool false] 25))) W) => block_cells (block_ups hk0 (drew_ups hU))
        have hfl : ∀ W, Ups (World.drew ((w.alloc (.cells #[.slice (some ⟨b, off, none⟩) pages.length c, .slice a' wear.length c', .int .i64 (fuse - 1), .string ftorn, .bool false] 25)).alloc (.cells #[.slice none 0 0, .slice none 0 0, .int .i64 0, .string { data := #[] }, .bool false] 25))) W → FlAt W (.agg #[.slice (some ⟨b, off, none⟩) pages.length c, .slice a' wear.length c', .int .i64 (fuse - 1), .string ftorn, .bool false]) ⟨pages, wear, (fuse - 1), ftorn, false⟩ := fun W hU => ⟨_, _, rfl, hT.ups (Ups.trans hu2 (drew_ups hU)), hI.ups (Ups.trans hu2 (drew_ups hU))⟩
        have hsize : ∀ W, Ups (World.drew ((w.alloc (.cells #[.slice (some ⟨b, off, none⟩) pages.length c, .slice a' wear.length c', .int .i64 (fuse - 1), .string ftorn, .bool false] 25)).alloc (.cells #[.slice none 0 0, .slice none 0 0, .int .i64 0, .string { data := #[] }, .bool false] 25))) W → w.heap.size + 1 < W.heap.size := fun W hU => Nat.lt_of_lt_of_le hz2 (drew_ups hU).size
        go_enter Try.func33, Try.ntmps33
        go_wp2_with fail
        refine wp_region_parts (N := 6) (n := 48) (ks := [isV (.agg #[.slice (some ⟨b, off, none⟩) pages.length c, .slice a' wear.length c', .int .i64 (fuse - 1), .string ftorn, .bool false]), isV (.int .i64 page), isV (.iface T x), isV (.string old), isV (.string whole), fun v' W' => FlAt W' v' ⟨(pages.set page whole), wear, (fuse - 1), ftorn, false⟩ ∧ ∀ B, B ≤ w.heap.size + 1 → FlOff B (.agg #[.slice (some ⟨b, off, none⟩) pages.length c, .slice a' wear.length c', .int .i64 (fuse - 1), .string ftorn, .bool false]) → FlOff B v']) (by decide +kernel) (by decide +kernel) (by decide +kernel) (by simp) rfl (by decide +kernel) ⟨steady_is _, steady_is _, steady_is _, steady_is _, steady_is _, fun _ _ _ h hu => ⟨h.1.ups hu, h.2⟩, trivial⟩ ?_ ?_
        · refine And.intro (fun ac W hO hU H => ?_) ?_
          · have h3 : ac.tmps[3]? = some (.pointer (some ⟨w.heap.size, 0, none⟩)) := (hO 3 rfl).trans rfl
            obtain ⟨k0, k1, k2, k3, k4⟩ := hcells W hU
            exact growOp_plain rfl (parts_value (by simp [go_sem, h3, k0, k1, k2, k3, k4]))
          refine And.intro (fun ac W hO hU H => ?_) ?_
          · have h1 : ac.tmps[1]? = some (.int .i64 page) := (hO 1 rfl).trans rfl
            exact growOp_plain rfl (parts_value (by simp [go_sem, h1]))
          refine And.intro (fun ac W hO hU H => ?_) ?_
          · have h2 : ac.tmps[2]? = some (.iface T x) := (hO 2 rfl).trans rfl
            exact growOp_plain rfl (parts_value (by simp [go_sem, h2]))
          refine And.intro (fun ac W hO hU H => ?_) ?_
          · have h8 : ac.tmps[8]? = some (.string old) := (hO 8 rfl).trans rfl
            exact growOp_plain rfl (parts_value (by simp [go_sem, h8]))
          refine And.intro (fun ac W hO hU H => ?_) ?_
          · have h44 : ac.tmps[44]? = some (.iface T x) := isV_get (W := W) (H 2 44 rfl)
            have h45 : ac.tmps[45]? = some (.string old) := isV_get (W := W) (H 3 45 rfl)
            exact growOp_plain rfl (hs.whole _ _ 44 45 W rfl (eval_tmp h44) (eval_tmp h45))
          refine And.intro (fun ac W hO hU H => ?_) ?_
          · have h42 : ac.tmps[42]? = some (.agg #[.slice (some ⟨b, off, none⟩) pages.length c, .slice a' wear.length c', .int .i64 (fuse - 1), .string ftorn, .bool false]) := isV_get (W := W) (H 0 42 rfl)
            have h43 : ac.tmps[43]? = some (.int .i64 page) := isV_get (W := W) (H 1 43 rfl)
            have h46 : ac.tmps[46]? = some (.string whole) := isV_get (W := W) (H 4 46 rfl)
            exact growOp_plain rfl (parts_call (args := #[.agg #[.slice (some ⟨b, off, none⟩) pages.length c, .slice a' wear.length c', .int .i64 (fuse - 1), .string ftorn, .bool false], .int .i64 page, .string whole]) (by simp [go_sem, h42, h43, h46]) (with_kd (hfl W hU) page whole (by simpa using hp0) (by simpa using hb1) (hsize W hU)))
          exact trivial
        · intro W xs hU hks
          obtain ⟨y0, rfl, g0⟩ := holdAll_is hks
          obtain ⟨y1, rfl, g1⟩ := holdAll_is g0
          obtain ⟨y2, rfl, g2⟩ := holdAll_is g1
          obtain ⟨y3, rfl, g3⟩ := holdAll_is g2
          obtain ⟨y4, rfl, g4⟩ := holdAll_is g3
          obtain ⟨v5, y5, rfl, q5, g5⟩ := holdAll_cons g4
          obtain rfl := holdAll_nil g5
          clear hks g0 g1 g2 g3 g4 g5
          simp only [List.take_succ_cons, List.take_zero, List.drop_succ_cons, List.drop_zero, endTmps, List.setIfInBounds_toArray, List.set]
          have hzz := block_ups hk1 (drew_ups hU)
          have huW := Ups.trans hu2 (drew_ups hU)
          obtain ⟨d0, d1, d2, d3, d4⟩ := block_cells hzz
          have y0 := block_frozen hzz 0
          have y1 := block_frozen hzz 1
          have y2 := block_frozen hzz 2
          have y3 := block_frozen hzz 3
          have y4 := block_frozen hzz 4
          obtain ⟨hread, hoff⟩ := q5
          have HB := Lib.hid hread
          have HO := Lib.hid hoff
          obtain ⟨_, _, rfl, ⟨ap, cp, rfl, _⟩, ⟨aq, cq, rfl, _⟩⟩ := hread
          clear hoff hcells hfl hsize
          go_wp2_with fail
          refine bodyPost_ret (v := .tuple #[.agg #[.slice ap (pages.set page whole).length cp, .slice aq wear.length cq, .int .i64 ((fuse - 1)), .string ftorn, .bool false], .int .i64 0]) ?_ rfl ⟨_, rfl, ?_⟩
          · simp [results, Try.results33, go_sem, d0, d1, d2, d3, d4]
          · exact fl_stored huW (Nat.le_succ _) HB.out (HO.out _ (Nat.le_refl _) (FlOff.mk hrP hrQ)) (fun B hB ho => HO.out B (by omega) (FlOff.mk ho.fst ho.snd)) (by simp)
      · rw [if_neg h1]
        have hu2 : Ups w ((w.alloc (.cells #[.slice (some ⟨b, off, none⟩) pages.length c, .slice a' wear.length c', .int .i64 fuse, .string ftorn, .bool false] 25)).alloc (.cells #[.slice none 0 0, .slice none 0 0, .int .i64 0, .string { data := #[] }, .bool false] 25)) := ((Own.start w).alloc (.cells #[.slice (some ⟨b, off, none⟩) pages.length c, .slice a' wear.length c', .int .i64 fuse, .string ftorn, .bool false] 25) |>.alloc (.cells #[.slice none 0 0, .slice none 0 0, .int .i64 0, .string { data := #[] }, .bool false] 25)).bel
        have hk0 : ((w.alloc (.cells #[.slice (some ⟨b, off, none⟩) pages.length c, .slice a' wear.length c', .int .i64 fuse, .string ftorn, .bool false] 25)).alloc (.cells #[.slice none 0 0, .slice none 0 0, .int .i64 0, .string { data := #[] }, .bool false] 25)).heap[w.heap.size]? = some (.cells #[.slice (some ⟨b, off, none⟩) pages.length c, .slice a' wear.length c', .int .i64 fuse, .string ftorn, .bool false] 25) := ((Own.start w).alloc (.cells #[.slice (some ⟨b, off, none⟩) pages.length c, .slice a' wear.length c', .int .i64 fuse, .string ftorn, .bool false] 25) |>.alloc (.cells #[.slice none 0 0, .slice none 0 0, .int .i64 0, .string { data := #[] }, .bool false] 25)).at w.heap.size 0 rfl rfl
        have hk1 : ((w.alloc (.cells #[.slice (some ⟨b, off, none⟩) pages.length c, .slice a' wear.length c', .int .i64 fuse, .string ftorn, .bool false] 25)).alloc (.cells #[.slice none 0 0, .slice none 0 0, .int .i64 0, .string { data := #[] }, .bool false] 25)).heap[w.heap.size + 1]? = some (.cells #[.slice none 0 0, .slice none 0 0, .int .i64 0, .string { data := #[] }, .bool false] 25) := ((Own.start w).alloc (.cells #[.slice (some ⟨b, off, none⟩) pages.length c, .slice a' wear.length c', .int .i64 fuse, .string ftorn, .bool false] 25) |>.alloc (.cells #[.slice none 0 0, .slice none 0 0, .int .i64 0, .string { data := #[] }, .bool false] 25)).at (w.heap.size + 1) 1 rfl rfl
        have hz2 : w.heap.size + 1 < ((w.alloc (.cells #[.slice (some ⟨b, off, none⟩) pages.length c, .slice a' wear.length c', .int .i64 fuse, .string ftorn, .bool false] 25)).alloc (.cells #[.slice none 0 0, .slice none 0 0, .int .i64 0, .string { data := #[] }, .bool false] 25)).heap.size := (Array.getElem?_eq_some_iff.1 hk1).1
        have hcells := fun W (hU : Ups (World.drew ((w.alloc (.cells #[.slice (some ⟨b, off, none⟩) pages.length c, .slice a' wear.length c', .int .i64 fuse, .string ftorn, .bool false] 25)).alloc (.cells #[.slice none 0 0, .slice none 0 0, .int .i64 0, .string { data := #[] }, .bool false] 25))) W) => block_cells (block_ups hk0 (drew_ups hU))
        have hfl : ∀ W, Ups (World.drew ((w.alloc (.cells #[.slice (some ⟨b, off, none⟩) pages.length c, .slice a' wear.length c', .int .i64 fuse, .string ftorn, .bool false] 25)).alloc (.cells #[.slice none 0 0, .slice none 0 0, .int .i64 0, .string { data := #[] }, .bool false] 25))) W → FlAt W (.agg #[.slice (some ⟨b, off, none⟩) pages.length c, .slice a' wear.length c', .int .i64 fuse, .string ftorn, .bool false]) ⟨pages, wear, fuse, ftorn, false⟩ := fun W hU => ⟨_, _, rfl, hT.ups (Ups.trans hu2 (drew_ups hU)), hI.ups (Ups.trans hu2 (drew_ups hU))⟩
        have hsize : ∀ W, Ups (World.drew ((w.alloc (.cells #[.slice (some ⟨b, off, none⟩) pages.length c, .slice a' wear.length c', .int .i64 fuse, .string ftorn, .bool false] 25)).alloc (.cells #[.slice none 0 0, .slice none 0 0, .int .i64 0, .string { data := #[] }, .bool false] 25))) W → w.heap.size + 1 < W.heap.size := fun W hU => Nat.lt_of_lt_of_le hz2 (drew_ups hU).size
        go_enter Try.func33, Try.ntmps33
        go_wp2_with fail
        refine wp_region_parts (N := 6) (n := 48) (ks := [isV (.agg #[.slice (some ⟨b, off, none⟩) pages.length c, .slice a' wear.length c', .int .i64 fuse, .string ftorn, .bool false]), isV (.int .i64 page), isV (.iface T x), isV (.string old), isV (.string whole), fun v' W' => FlAt W' v' ⟨(pages.set page whole), wear, fuse, ftorn, false⟩ ∧ ∀ B, B ≤ w.heap.size + 1 → FlOff B (.agg #[.slice (some ⟨b, off, none⟩) pages.length c, .slice a' wear.length c', .int .i64 fuse, .string ftorn, .bool false]) → FlOff B v']) (by decide +kernel) (by decide +kernel) (by decide +kernel) (by simp) rfl (by decide +kernel) ⟨steady_is _, steady_is _, steady_is _, steady_is _, steady_is _, fun _ _ _ h hu => ⟨h.1.ups hu, h.2⟩, trivial⟩ ?_ ?_
        · refine And.intro (fun ac W hO hU H => ?_) ?_
          · have h3 : ac.tmps[3]? = some (.pointer (some ⟨w.heap.size, 0, none⟩)) := (hO 3 rfl).trans rfl
            obtain ⟨k0, k1, k2, k3, k4⟩ := hcells W hU
            exact growOp_plain rfl (parts_value (by simp [go_sem, h3, k0, k1, k2, k3, k4]))
          refine And.intro (fun ac W hO hU H => ?_) ?_
          · have h1 : ac.tmps[1]? = some (.int .i64 page) := (hO 1 rfl).trans rfl
            exact growOp_plain rfl (parts_value (by simp [go_sem, h1]))
          refine And.intro (fun ac W hO hU H => ?_) ?_
          · have h2 : ac.tmps[2]? = some (.iface T x) := (hO 2 rfl).trans rfl
            exact growOp_plain rfl (parts_value (by simp [go_sem, h2]))
          refine And.intro (fun ac W hO hU H => ?_) ?_
          · have h8 : ac.tmps[8]? = some (.string old) := (hO 8 rfl).trans rfl
            exact growOp_plain rfl (parts_value (by simp [go_sem, h8]))
          refine And.intro (fun ac W hO hU H => ?_) ?_
          · have h44 : ac.tmps[44]? = some (.iface T x) := isV_get (W := W) (H 2 44 rfl)
            have h45 : ac.tmps[45]? = some (.string old) := isV_get (W := W) (H 3 45 rfl)
            exact growOp_plain rfl (hs.whole _ _ 44 45 W rfl (eval_tmp h44) (eval_tmp h45))
          refine And.intro (fun ac W hO hU H => ?_) ?_
          · have h42 : ac.tmps[42]? = some (.agg #[.slice (some ⟨b, off, none⟩) pages.length c, .slice a' wear.length c', .int .i64 fuse, .string ftorn, .bool false]) := isV_get (W := W) (H 0 42 rfl)
            have h43 : ac.tmps[43]? = some (.int .i64 page) := isV_get (W := W) (H 1 43 rfl)
            have h46 : ac.tmps[46]? = some (.string whole) := isV_get (W := W) (H 4 46 rfl)
            exact growOp_plain rfl (parts_call (args := #[.agg #[.slice (some ⟨b, off, none⟩) pages.length c, .slice a' wear.length c', .int .i64 fuse, .string ftorn, .bool false], .int .i64 page, .string whole]) (by simp [go_sem, h42, h43, h46]) (with_kd (hfl W hU) page whole (by simpa using hp0) (by simpa using hb1) (hsize W hU)))
          exact trivial
        · intro W xs hU hks
          obtain ⟨y0, rfl, g0⟩ := holdAll_is hks
          obtain ⟨y1, rfl, g1⟩ := holdAll_is g0
          obtain ⟨y2, rfl, g2⟩ := holdAll_is g1
          obtain ⟨y3, rfl, g3⟩ := holdAll_is g2
          obtain ⟨y4, rfl, g4⟩ := holdAll_is g3
          obtain ⟨v5, y5, rfl, q5, g5⟩ := holdAll_cons g4
          obtain rfl := holdAll_nil g5
          clear hks g0 g1 g2 g3 g4 g5
          simp only [List.take_succ_cons, List.take_zero, List.drop_succ_cons, List.drop_zero, endTmps, List.setIfInBounds_toArray, List.set]
          have hzz := block_ups hk1 (drew_ups hU)
          have huW := Ups.trans hu2 (drew_ups hU)
          obtain ⟨d0, d1, d2, d3, d4⟩ := block_cells hzz
          have y0 := block_frozen hzz 0
          have y1 := block_frozen hzz 1
          have y2 := block_frozen hzz 2
          have y3 := block_frozen hzz 3
          have y4 := block_frozen hzz 4
          obtain ⟨hread, hoff⟩ := q5
          have HB := Lib.hid hread
          have HO := Lib.hid hoff
          obtain ⟨_, _, rfl, ⟨ap, cp, rfl, _⟩, ⟨aq, cq, rfl, _⟩⟩ := hread
          clear hoff hcells hfl hsize
          go_wp2_with fail
          refine bodyPost_ret (v := .tuple #[.agg #[.slice ap (pages.set page whole).length cp, .slice aq wear.length cq, .int .i64 (fuse), .string ftorn, .bool false], .int .i64 0]) ?_ rfl ⟨_, rfl, ?_⟩
          · simp [results, Try.results33, go_sem, d0, d1, d2, d3, d4]
          · exact fl_stored huW (Nat.le_succ _) HB.out (HO.out _ (Nat.le_refl _) (FlOff.mk hrP hrQ)) (fun B hB ho => HO.out B (by omega) (FlOff.mk ho.fst ho.snd)) (by simp)

end Go.Proofs.Ytjpapjijlbfemaa
