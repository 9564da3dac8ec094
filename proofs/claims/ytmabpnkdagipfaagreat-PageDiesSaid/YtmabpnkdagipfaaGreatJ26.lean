/- Texts of this proof, one behind the other: FlStep, FlDo, FlErase, FlProg. -/
import Derived.Test.YtmabpnkdagipfaaGreatJ24
import Derived.Test.YtmabpnkdagipfaaGreatJ25

/- What the steps' methods come to. -/
namespace Go.Proofs.YtmabpnkdagipfaaGreat
open Go.RowKit

set_option maxRecDepth 100000 in
theorem erase_whole (old : ByteArray) (w : World) (h : old.size ≤ 100000) :
    Calls Tryz.prog 150 #[.agg #[], .string old] w fun e W' => e = .returned (.string (onesT old.size)) ∧ Ups w W' := by
  have hu : ∀ C t, Ups w (w.alloc (.cells C t)) := fun C t => (Below.refl _ w).alloc (Nat.le_refl _) _
  go_enter Tryz.func150, Tryz.ntmps150
  go_wp2_with fail
  refine (oones_t old.size _ h).mono ?_
  rintro e w1 ⟨rfl, hb1⟩
  go_wp2_with fail
  go_ret
  exact ⟨rfl, Ups.trans (hu _ _) hb1⟩

set_option maxRecDepth 100000 in
theorem erase_torn (old mask : ByteArray) (w : World) (h1 : old.size ≤ 140737488355328) (h2 : mask.size ≤ 140737488355328) :
    Calls Tryz.prog 149 #[.agg #[], .string old, .string mask] w fun e W' => e = .returned (.string (orT old mask)) ∧ Ups w W' := by
  have hu : ∀ C t, Ups w (w.alloc (.cells C t)) := fun C t => (Below.refl _ w).alloc (Nat.le_refl _) _
  go_enter Tryz.func149, Tryz.ntmps149
  go_wp2_with fail
  refine (oor_t old mask _ h1 h2).mono ?_
  rintro e w1 ⟨rfl, hb1⟩
  go_wp2_with fail
  go_ret
  exact ⟨rfl, Ups.trans (hu _ _) hb1⟩

set_option maxRecDepth 100000 in
theorem program_whole (data old : ByteArray) (w : World) (h1 : old.size ≤ 140737488355328) (h3 : data.size ≤ 140737488355328) :
    Calls Tryz.prog 154 #[.agg #[.string data], .string old] w fun e W' => e = .returned (.string (andT old data)) ∧ Ups w W' := by
  have hu : ∀ C t, Ups w (w.alloc (.cells C t)) := fun C t => (Below.refl _ w).alloc (Nat.le_refl _) _
  go_enter Tryz.func154, Tryz.ntmps154
  go_wp2_with fail
  refine (oand_t old data _ h1 h3).mono ?_
  rintro e w1 ⟨rfl, hb1⟩
  go_wp2_with fail
  go_ret
  exact ⟨rfl, Ups.trans (hu _ _) hb1⟩

set_option maxRecDepth 100000 in
theorem program_torn (data old mask : ByteArray) (w : World) (h1 : old.size ≤ 140737488355328) (h2 : mask.size ≤ 140737488355328) (h3 : data.size ≤ 140737488355328) :
    Calls Tryz.prog 153 #[.agg #[.string data], .string old, .string mask] w fun e W' => e = .returned (.string (andT old (orT data (notT mask)))) ∧ Ups w W' := by
  have hu : ∀ C t, Ups w (w.alloc (.cells C t)) := fun C t => (Below.refl _ w).alloc (Nat.le_refl _) _
  have hcell : ∀ W, Ups (World.drew (w.alloc (.cells #[.string data] 73))) W → W.cell? ⟨w.heap.size, 0, none⟩ = some (.string data) := fun W hU => cell_ups (drew_ups hU) (by rw [World.cell?_alloc_mark]; rfl)
  go_enter Tryz.func153, Tryz.ntmps153
  go_wp2_with fail
  refine wp_region_parts (N := 7) (n := 14) (ks := [isV (.string old), isV (.pointer (some ⟨w.heap.size, 0, none⟩)), isV (.string data), isV (.string mask), isV (.string (notT mask)), isV (.string (orT data (notT mask))), isV (.string (andT old (orT data (notT mask))))]) (by decide +kernel) (by decide +kernel) (by decide +kernel) (by simp) rfl (by decide +kernel) ⟨steady_is _, steady_is _, steady_is _, steady_is _, steady_is _, steady_is _, steady_is _, trivial⟩ ?_ ?_
  · refine And.intro (fun ac W hO hU H => ?_) ?_
    · have h1 : ac.tmps[1]? = some (.string old) := (hO 1 rfl).trans rfl
      exact growOp_plain rfl (parts_value (by simp [go_sem, h1]))
    refine And.intro (fun ac W hO hU H => ?_) ?_
    · have h3 : ac.tmps[3]? = some (.pointer (some ⟨w.heap.size, 0, none⟩)) := (hO 3 rfl).trans rfl
      exact growOp_plain rfl (parts_value (by simp [go_sem, h3]))
    refine And.intro (fun ac W hO hU H => ?_) ?_
    · have h8 : ac.tmps[8]? = some (.pointer (some ⟨w.heap.size, 0, none⟩)) := isV_get (W := W) (H 1 8 rfl)
      have hc := hcell W hU
      exact growOp_plain rfl (parts_value (by simp [go_sem, h8, hc]))
    refine And.intro (fun ac W hO hU H => ?_) ?_
    · have h2 : ac.tmps[2]? = some (.string mask) := (hO 2 rfl).trans rfl
      exact growOp_plain rfl (parts_value (by simp [go_sem, h2]))
    refine And.intro (fun ac W hO hU H => ?_) ?_
    · have h10 : ac.tmps[10]? = some (.string mask) := isV_get (W := W) (H 3 10 rfl)
      exact growOp_plain rfl (parts_call_is (args := #[.string mask]) (by simp [go_sem, h10]) (onot_t mask W h2))
    refine And.intro (fun ac W hO hU H => ?_) ?_
    · have h9 : ac.tmps[9]? = some (.string data) := isV_get (W := W) (H 2 9 rfl)
      have h11 : ac.tmps[11]? = some (.string (notT mask)) := isV_get (W := W) (H 4 11 rfl)
      exact growOp_plain rfl (parts_call_is (args := #[.string data, .string (notT mask)]) (by simp [go_sem, h9, h11]) (oor_t _ _ W h3 (by rw [notT_size]; exact h2)))
    refine And.intro (fun ac W hO hU H => ?_) ?_
    · have h7 : ac.tmps[7]? = some (.string old) := isV_get (W := W) (H 0 7 rfl)
      have h12 : ac.tmps[12]? = some (.string (orT data (notT mask))) := isV_get (W := W) (H 5 12 rfl)
      exact growOp_plain rfl (parts_call_is (args := #[.string old, .string (orT data (notT mask))]) (by simp [go_sem, h7, h12]) (oand_t _ _ W h1 (by rw [orT_size]; exact h3)))
    exact trivial
  · intro W xs hU hks
    obtain ⟨y0, rfl, g0⟩ := holdAll_is hks
    obtain ⟨y1, rfl, g1⟩ := holdAll_is g0
    obtain ⟨y2, rfl, g2⟩ := holdAll_is g1
    obtain ⟨y3, rfl, g3⟩ := holdAll_is g2
    obtain ⟨y4, rfl, g4⟩ := holdAll_is g3
    obtain ⟨y5, rfl, g5⟩ := holdAll_is g4
    obtain ⟨y6, rfl, g6⟩ := holdAll_is g5
    obtain rfl := holdAll_nil g6
    clear hks g0 g1 g2 g3 g4 g5 g6
    simp only [List.take_succ_cons, List.take_zero, List.drop_succ_cons, List.drop_zero, endTmps, List.setIfInBounds_toArray, List.set]
    go_wp2_with fail
    go_ret
    exact ⟨rfl, Ups.trans (hu _ _) (drew_ups hU)⟩

end Go.Proofs.YtmabpnkdagipfaaGreat

/- What flash.do comes to. -/
namespace Go.Proofs.YtmabpnkdagipfaaGreat
open Go.RowKit

theorem erase_meth (n : Nat) (W : World) : (method (n + 1) 60 (.agg #[]) "ouroboros/flash.whole").run Tryz.prog W = .ok (150, .agg #[]) W := by kernel_rfl
theorem erase_meth' (n : Nat) (W : World) : (method (n + 1) 60 (.agg #[]) "ouroboros/flash.torn").run Tryz.prog W = .ok (149, .agg #[]) W := by kernel_rfl
theorem program_meth (n : Nat) (s : ByteArray) (W : World) : (method (n + 1) 73 (.agg #[.string s]) "ouroboros/flash.whole").run Tryz.prog W = .ok (154, .agg #[.string s]) W := by kernel_rfl
theorem program_meth' (n : Nat) (s : ByteArray) (W : World) : (method (n + 1) 73 (.agg #[.string s]) "ouroboros/flash.torn").run Tryz.prog W = .ok (153, .agg #[.string s]) W := by kernel_rfl
/-! nil -/
theorem erase_nil (n : Nat) (W : World) : (nilAhead (n + 1) 60 (.agg #[]) "ouroboros/flash.torn").run Tryz.prog W = .ok (some false) W := by kernel_rfl
theorem program_nil (n : Nat) (s : ByteArray) (W : World) : (nilAhead (n + 1) 73 (.agg #[.string s]) "ouroboros/flash.torn").run Tryz.prog W = .ok (some false) W := by kernel_rfl

/-- A step as a value: what its methods come to. -/
structure StepIs (T : TypeId) (x : Value) (old mask whole torn : ByteArray) : Prop where
  whole : ∀ (ev : Operand → Value) (o : Oper) (t t1 : Tmp) (W : World), o.op = .call { callee := .invoke (.tmp t) "ouroboros/flash.whole", args := #[.tmp t1], argTypes := #[9] } → ev (.tmp t) = .iface T x → ev (.tmp t1) = .string old →
    growUpon Tryz.prog Ups (isV (.string whole)) W ((execOp ev o).run Tryz.prog W)
  torn : ∀ (ev : Operand → Value) (o : Oper) (t t1 t2 : Tmp) (W : World), o.op = .call { callee := .invoke (.tmp t) "ouroboros/flash.torn", args := #[.tmp t1, .tmp t2], argTypes := #[9, 9] } → ev (.tmp t) = .iface T x → ev (.tmp t1) = .string old → ev (.tmp t2) = .string mask →
    growUpon Tryz.prog Ups (isV (.string torn)) W ((execOp ev o).run Tryz.prog W)
  nil : ∀ n W, (nilAhead (n + 1) T x "ouroboros/flash.torn").run Tryz.prog W = .ok (some false) W

theorem step_erase (old mask : ByteArray) (h1 : old.size ≤ 100000) (h2 : mask.size ≤ 100000) : StepIs 60 (.agg #[]) old mask (onesT old.size) (orT old mask) := by
  refine ⟨?_, ?_, erase_nil⟩
  · intro ev o t t1 W ho h h3
    refine parts_call_is (f := 150) (args := #[.agg #[], .string old]) ?_ (erase_whole old W h1)
    simp [execOp, ho, resolve, h, h3, go_sem]
    rw [erase_meth]
    simp [go_sem]
  · intro ev o t t1 t2 W ho h h3 h4
    refine parts_call_is (f := 149) (args := #[.agg #[], .string old, .string mask]) ?_ (erase_torn old mask W (by omega) (by omega))
    simp [execOp, ho, resolve, h, h3, h4, go_sem]
    rw [erase_meth']
    simp [go_sem]
theorem step_program (data old mask : ByteArray) (h1 : old.size ≤ 100000) (h2 : mask.size ≤ 100000) (h5 : data.size ≤ 140737488355328) : StepIs 73 (.agg #[.string data]) old mask (andT old data) (andT old (orT data (notT mask))) := by
  refine ⟨?_, ?_, fun n W => program_nil n data W⟩
  · intro ev o t t1 W ho h h3
    refine parts_call_is (f := 154) (args := #[.agg #[.string data], .string old]) ?_ (program_whole data old W (by omega) h5)
    simp [execOp, ho, resolve, h, h3, go_sem]
    rw [program_meth]
    simp [go_sem]
  · intro ev o t t1 t2 W ho h h3 h4
    refine parts_call_is (f := 153) (args := #[.agg #[.string data], .string old, .string mask]) ?_ (program_torn data old mask W (by omega) (by omega) h5)
    simp [execOp, ho, resolve, h, h3, h4, go_sem]
    rw [program_meth']
    simp [go_sem]

/-- A step on a page: what it does as a whole, and what torn. -/
def stepF (f : Fl) (page : Nat) (whole torn : ByteArray) : Fl × Int :=
  if f.dead then (f, 8)
  else if f.fuse = 0 then ({ f with pages := f.pages.set page torn, dead := true }, 8)
  else ({ f with pages := f.pages.set page whole, fuse := if 0 < f.fuse then f.fuse - 1 else f.fuse }, 0)

theorem with_kd {w : World} {v : Value} {f : Fl} {W : World} (h : FlAt W v f) (page : Nat) (s : ByteArray) (hp0 : page < f.pages.length) (hb1 : f.pages.length ≤ 1000) (hz : w.heap.size + 1 < W.heap.size) :
    Calls Tryz.prog 74 #[v, .int .i64 page, .string s] W fun e W' => ∃ v', e = .returned v' ∧ (FlAt W' v' { f with pages := f.pages.set page s } ∧ ∀ B, B ≤ w.heap.size + 1 → FlOff B v → FlOff B v') ∧ Ups W W' := by
  refine (with_calls f v page s W h hp0 hb1).mono ?_
  rintro e W' ⟨v', rfl, hn⟩
  exact ⟨v', rfl, ⟨hn.reads, fun B hB ho => hn.off B (by omega) ho⟩, hn.ups⟩

/-- A flash is stored in a block of the call's own. -/
theorem fl_stored {w W : World} {v v' p q x y z : Value} {f' : Fl} {B : Nat} (hu : Ups w W) (hB : w.heap.size ≤ B) (h : FlAt W v' f') (ho : FlOff B v') (hoff : ∀ B', B' < w.heap.size → FlOff B' v → FlOff B' v') (_hv : v' = .agg #[p, q, x, y, z]) :
    FlNew w v (put5 W B p q x y z) v' f' :=
  ⟨h.but (put5_but W B p q x y z) ho, (put5_but W B p q x y z).below hu hB, hoff⟩

set_option maxRecDepth 100000 in
set_option maxHeartbeats 1000000 in
theorem fdo_calls (f : Fl) (v : Value) (page : Nat) (w : World) (h : FlAt w v f) (hp0 : page < f.pages.length) (hb1 : f.pages.length ≤ 1000) (old first mask whole torn : ByteArray) (T : TypeId) (x : Value)
    (hold : f.pages.getD page ByteArray.empty = old) (hfirst : f.pages.getD 0 ByteArray.empty = first) (hs1 : first.size ≤ 8192) (hs2 : f.torn.size ≤ 64) (hmask : maskT f.torn first.size = mask) (hs : StepIs T x old mask whole torn) (hfu : -9223372036854775808 ≤ f.fuse) (hfu2 : f.fuse ≤ 9223372036854775807) :
    Calls Tryz.prog 47 #[v, .int .i64 page, .iface T x] w fun e W' => ∃ v', e = .returned (.tuple #[v', .int .i64 (stepF f page whole torn).2]) ∧ FlNew w v W' v' (stepF f page whole torn).1 := by
  obtain ⟨p, q, rfl, hT, hI⟩ := h
  have hrP : RowOff (w.heap.size + 1) p := hT.off (Nat.le_succ _)
  have hrQ : RowOff (w.heap.size + 1) q := hI.off (Nat.le_succ _)
  have hT0 := hT
  have hI0 := hI
  obtain ⟨a, c, rfl, hp⟩ := hT0
  obtain ⟨a', c', rfl, _⟩ := hI0
  obtain ⟨b, off, rfl, hp'⟩ := hp (by omega)
  have hc0 := hp' page hp0
  rw [hold] at hc0
  have hbl := lt_of_cell hc0
  simp only at hbl
  have hip : (page : Int) < f.pages.length := by omega
  obtain ⟨pages, wear, fuse, ftorn, dead⟩ := f
  simp only at hT hI hc0 hp0 hb1 hold hfirst hs2 hmask hip hfu hfu2 hrP hrQ ⊢
  clear hp hp' hold
  cases dead with
  | true =>
    have hu2 : Ups w ((w.alloc (.cells #[.slice (some ⟨b, off, none⟩) pages.length c, .slice a' wear.length c', .int .i64 fuse, .string ftorn, .bool true] 31)).alloc (.cells #[.slice (some ⟨b, off, none⟩) pages.length c, .slice a' wear.length c', .int .i64 fuse, .string ftorn, .bool true] 31)) := ((Own.start w).alloc (.cells #[.slice (some ⟨b, off, none⟩) pages.length c, .slice a' wear.length c', .int .i64 fuse, .string ftorn, .bool true] 31) |>.alloc (.cells #[.slice (some ⟨b, off, none⟩) pages.length c, .slice a' wear.length c', .int .i64 fuse, .string ftorn, .bool true] 31)).bel
    go_enter Tryz.func47, Tryz.ntmps47
    go_wp2_with fail
    refine bodyPost_ret (v := .tuple #[.agg #[.slice (some ⟨b, off, none⟩) pages.length c, .slice a' wear.length c', .int .i64 fuse, .string ftorn, .bool true], .int .i64 8]) (by simp [results, Tryz.results47, go_sem]) rfl ⟨_, rfl, ?_⟩
    exact ⟨⟨_, _, rfl, hT.ups hu2, hI.ups hu2⟩, hu2, fun _ _ h => h⟩
  | false =>
    by_cases h0 : fuse = 0
    · subst h0
      have hu2 : Ups w ((w.alloc (.cells #[.slice (some ⟨b, off, none⟩) pages.length c, .slice a' wear.length c', .int .i64 0, .string ftorn, .bool true] 31)).alloc (.cells #[.slice none 0 0, .slice none 0 0, .int .i64 0, .string { data := #[] }, .bool false] 31)) := ((Own.start w).alloc (.cells #[.slice (some ⟨b, off, none⟩) pages.length c, .slice a' wear.length c', .int .i64 0, .string ftorn, .bool true] 31) |>.alloc (.cells #[.slice none 0 0, .slice none 0 0, .int .i64 0, .string { data := #[] }, .bool false] 31)).bel
      have hk0 : ((w.alloc (.cells #[.slice (some ⟨b, off, none⟩) pages.length c, .slice a' wear.length c', .int .i64 0, .string ftorn, .bool true] 31)).alloc (.cells #[.slice none 0 0, .slice none 0 0, .int .i64 0, .string { data := #[] }, .bool false] 31)).heap[w.heap.size]? = some (.cells #[.slice (some ⟨b, off, none⟩) pages.length c, .slice a' wear.length c', .int .i64 0, .string ftorn, .bool true] 31) := ((Own.start w).alloc (.cells #[.slice (some ⟨b, off, none⟩) pages.length c, .slice a' wear.length c', .int .i64 0, .string ftorn, .bool true] 31) |>.alloc (.cells #[.slice none 0 0, .slice none 0 0, .int .i64 0, .string { data := #[] }, .bool false] 31)).at w.heap.size 0 rfl rfl
      have hk1 : ((w.alloc (.cells #[.slice (some ⟨b, off, none⟩) pages.length c, .slice a' wear.length c', .int .i64 0, .string ftorn, .bool true] 31)).alloc (.cells #[.slice none 0 0, .slice none 0 0, .int .i64 0, .string { data := #[] }, .bool false] 31)).heap[w.heap.size + 1]? = some (.cells #[.slice none 0 0, .slice none 0 0, .int .i64 0, .string { data := #[] }, .bool false] 31) := ((Own.start w).alloc (.cells #[.slice (some ⟨b, off, none⟩) pages.length c, .slice a' wear.length c', .int .i64 0, .string ftorn, .bool true] 31) |>.alloc (.cells #[.slice none 0 0, .slice none 0 0, .int .i64 0, .string { data := #[] }, .bool false] 31)).at (w.heap.size + 1) 1 rfl rfl
      have hz2 : w.heap.size + 1 < ((w.alloc (.cells #[.slice (some ⟨b, off, none⟩) pages.length c, .slice a' wear.length c', .int .i64 0, .string ftorn, .bool true] 31)).alloc (.cells #[.slice none 0 0, .slice none 0 0, .int .i64 0, .string { data := #[] }, .bool false] 31)).heap.size := (Array.getElem?_eq_some_iff.1 hk1).1
      have hcells := fun W (hU : Ups (World.drew ((w.alloc (.cells #[.slice (some ⟨b, off, none⟩) pages.length c, .slice a' wear.length c', .int .i64 0, .string ftorn, .bool true] 31)).alloc (.cells #[.slice none 0 0, .slice none 0 0, .int .i64 0, .string { data := #[] }, .bool false] 31))) W) => block_cells (block_ups hk0 (drew_ups hU))
      have hfl : ∀ W, Ups (World.drew ((w.alloc (.cells #[.slice (some ⟨b, off, none⟩) pages.length c, .slice a' wear.length c', .int .i64 0, .string ftorn, .bool true] 31)).alloc (.cells #[.slice none 0 0, .slice none 0 0, .int .i64 0, .string { data := #[] }, .bool false] 31))) W → FlAt W (.agg #[.slice (some ⟨b, off, none⟩) pages.length c, .slice a' wear.length c', .int .i64 0, .string ftorn, .bool true]) ⟨pages, wear, 0, ftorn, true⟩ := fun W hU => ⟨_, _, rfl, hT.ups (Ups.trans hu2 (drew_ups hU)), hI.ups (Ups.trans hu2 (drew_ups hU))⟩
      have hsize : ∀ W, Ups (World.drew ((w.alloc (.cells #[.slice (some ⟨b, off, none⟩) pages.length c, .slice a' wear.length c', .int .i64 0, .string ftorn, .bool true] 31)).alloc (.cells #[.slice none 0 0, .slice none 0 0, .int .i64 0, .string { data := #[] }, .bool false] 31))) W → w.heap.size + 1 < W.heap.size := fun W hU => Nat.lt_of_lt_of_le hz2 (drew_ups hU).size
      have hmk : ∀ W, Ups (World.drew ((w.alloc (.cells #[.slice (some ⟨b, off, none⟩) pages.length c, .slice a' wear.length c', .int .i64 0, .string ftorn, .bool true] 31)).alloc (.cells #[.slice none 0 0, .slice none 0 0, .int .i64 0, .string { data := #[] }, .bool false] 31))) W → Calls Tryz.prog 75 #[.agg #[.slice (some ⟨b, off, none⟩) pages.length c, .slice a' wear.length c', .int .i64 0, .string ftorn, .bool true]] W fun e W' => e = .returned (.string mask) ∧ Ups W W' := by
        intro W hU
        have := mask_calls _ _ W (hfl W hU) first (by simp only; omega) hfirst hb1 hs1 hs2
        simp only at this
        rwa [hmask] at this
      go_enter Tryz.func47, Tryz.ntmps47
      go_wp2_with fail
      refine wp_region_parts (N := 11) (n := 48) (ks := [isV (.agg #[.slice (some ⟨b, off, none⟩) pages.length c, .slice a' wear.length c', .int .i64 0, .string ftorn, .bool true]), isV (.int .i64 page), isV (.iface T x), isV (.string old), isV (.agg #[.slice (some ⟨b, off, none⟩) pages.length c, .slice a' wear.length c', .int .i64 0, .string ftorn, .bool true]), isV (.string mask), isV (.func (.method "ouroboros/flash.torn") #[.iface T x] #[]), isV (.func (.method "ouroboros/flash.torn") #[.iface T x] #[]), isV (.iface T x), isV (.string torn), fun v' W' => FlAt W' v' ⟨(pages.set page torn), wear, 0, ftorn, true⟩ ∧ ∀ B, B ≤ w.heap.size + 1 → FlOff B (.agg #[.slice (some ⟨b, off, none⟩) pages.length c, .slice a' wear.length c', .int .i64 0, .string ftorn, .bool true]) → FlOff B v']) (by decide +kernel) (by decide +kernel) (by decide +kernel) (by simp) rfl (by decide +kernel) ⟨steady_is _, steady_is _, steady_is _, steady_is _, steady_is _, steady_is _, steady_is _, steady_is _, steady_is _, steady_is _, fun _ _ _ h hu => ⟨h.1.ups hu, h.2⟩, trivial⟩ ?_ ?_
      · refine And.intro (fun ac W hO hU H => ?_) ?_
        · have h3 : ac.tmps[3]? = some (.pointer (some ⟨w.heap.size, 0, none⟩)) := (hO 3 rfl).trans rfl
          obtain ⟨k0, k1, k2, k3, k4⟩ := hcells W hU
          exact growOp_plain rfl (parts_value (by simp [go_sem, h3, k0, k1, k2, k3, k4]))
        refine And.intro (fun ac W hO hU H => ?_) ?_
        · have h1 : ac.tmps[1]? = some (.int .i64 page) := (hO 1 rfl).trans rfl
          exact growOp_plain rfl (parts_value (by simp [go_sem, h1]))
        refine And.intro (fun ac W hO hU H => ?_) ?_
        · have h2 : ac.tmps[2]? = some (.iface T x) := (hO 2 rfl).trans rfl
          exact growOp_plain rfl (parts_value (by simp [go_sem, h2]))
        refine And.intro (fun ac W hO hU H => ?_) ?_
        · have h8 : ac.tmps[8]? = some (.string old) := (hO 8 rfl).trans rfl
          exact growOp_plain rfl (parts_value (by simp [go_sem, h8]))
        refine And.intro (fun ac W hO hU H => ?_) ?_
        · have h3 : ac.tmps[3]? = some (.pointer (some ⟨w.heap.size, 0, none⟩)) := (hO 3 rfl).trans rfl
          obtain ⟨k0, k1, k2, k3, k4⟩ := hcells W hU
          exact growOp_plain rfl (parts_value (by simp [go_sem, h3, k0, k1, k2, k3, k4]))
        refine And.intro (fun ac W hO hU H => ?_) ?_
        · have h27 : ac.tmps[27]? = some (.agg #[.slice (some ⟨b, off, none⟩) pages.length c, .slice a' wear.length c', .int .i64 0, .string ftorn, .bool true]) := isV_get (W := W) (H 4 27 rfl)
          exact growOp_plain rfl (parts_call_is (args := #[.agg #[.slice (some ⟨b, off, none⟩) pages.length c, .slice a' wear.length c', .int .i64 0, .string ftorn, .bool true]]) (by simp [go_sem, h27]) (hmk W hU))
        refine And.intro (fun ac W hO hU H => ?_) ?_
        · have h25 : ac.tmps[25]? = some (.iface T x) := isV_get (W := W) (H 2 25 rfl)
          exact growOp_plain rfl (parts_value (by simp [go_sem, h25]))
        refine And.intro (fun ac W hO hU H => ?_) ?_
        · have h29 : ac.tmps[29]? = some (.func (.method "ouroboros/flash.torn") #[.iface T x] #[]) := isV_get (W := W) (H 6 29 rfl)
          exact growOp_plain rfl (parts_value (by simp [go_sem, h29]; rw [hs.nil]; simp [go_sem]))
        refine And.intro (fun ac W hO hU H => ?_) ?_
        · have h25 : ac.tmps[25]? = some (.iface T x) := isV_get (W := W) (H 2 25 rfl)
          exact growOp_plain rfl (parts_value (by simp [go_sem, h25]))
        refine And.intro (fun ac W hO hU H => ?_) ?_
        · have h31 : ac.tmps[31]? = some (.iface T x) := isV_get (W := W) (H 8 31 rfl)
          have h26 : ac.tmps[26]? = some (.string old) := isV_get (W := W) (H 3 26 rfl)
          have h28 : ac.tmps[28]? = some (.string mask) := isV_get (W := W) (H 5 28 rfl)
          exact growOp_plain rfl (hs.torn _ _ 31 26 28 W rfl (eval_tmp h31) (eval_tmp h26) (eval_tmp h28))
        refine And.intro (fun ac W hO hU H => ?_) ?_
        · have h23 : ac.tmps[23]? = some (.agg #[.slice (some ⟨b, off, none⟩) pages.length c, .slice a' wear.length c', .int .i64 0, .string ftorn, .bool true]) := isV_get (W := W) (H 0 23 rfl)
          have h24 : ac.tmps[24]? = some (.int .i64 page) := isV_get (W := W) (H 1 24 rfl)
          have h32 : ac.tmps[32]? = some (.string torn) := isV_get (W := W) (H 9 32 rfl)
          exact growOp_plain rfl (parts_call (args := #[.agg #[.slice (some ⟨b, off, none⟩) pages.length c, .slice a' wear.length c', .int .i64 0, .string ftorn, .bool true], .int .i64 page, .string torn]) (by simp [go_sem, h23, h24, h32]) (with_kd (hfl W hU) page torn (by simpa using hp0) (by simpa using hb1) (hsize W hU)))
        exact trivial
      · intro W xs hU hks
        obtain ⟨y0, rfl, g0⟩ := holdAll_is hks
        obtain ⟨y1, rfl, g1⟩ := holdAll_is g0
        obtain ⟨y2, rfl, g2⟩ := holdAll_is g1
        obtain ⟨y3, rfl, g3⟩ := holdAll_is g2
        obtain ⟨y4, rfl, g4⟩ := holdAll_is g3
        obtain ⟨y5, rfl, g5⟩ := holdAll_is g4
        obtain ⟨y6, rfl, g6⟩ := holdAll_is g5
        obtain ⟨y7, rfl, g7⟩ := holdAll_is g6
        obtain ⟨y8, rfl, g8⟩ := holdAll_is g7
        obtain ⟨y9, rfl, g9⟩ := holdAll_is g8
        obtain ⟨v10, y10, rfl, q10, g10⟩ := holdAll_cons g9
        obtain rfl := holdAll_nil g10
        clear hks g0 g1 g2 g3 g4 g5 g6 g7 g8 g9 g10
        simp only [List.take_succ_cons, List.take_zero, List.drop_succ_cons, List.drop_zero, endTmps, List.setIfInBounds_toArray, List.set]
        have hzz := block_ups hk1 (drew_ups hU)
        have huW := Ups.trans hu2 (drew_ups hU)
        obtain ⟨d0, d1, d2, d3, d4⟩ := block_cells hzz
        have y0 := block_frozen hzz 0
        have y1 := block_frozen hzz 1
        have y2 := block_frozen hzz 2
        have y3 := block_frozen hzz 3
        have y4 := block_frozen hzz 4
        obtain ⟨hread, hoff⟩ := q10
        have HB := Lib.hid hread
        have HO := Lib.hid hoff
        obtain ⟨_, _, rfl, ⟨ap, cp, rfl, _⟩, ⟨aq, cq, rfl, _⟩⟩ := hread
        clear hoff hcells hfl hsize
        go_wp2_with fail
        refine bodyPost_ret (v := .tuple #[.agg #[.slice ap (pages.set page torn).length cp, .slice aq wear.length cq, .int .i64 (0), .string ftorn, .bool true], .int .i64 8]) ?_ rfl ⟨_, rfl, ?_⟩
        · simp [results, Tryz.results47, go_sem, d0, d1, d2, d3, d4]
        · exact fl_stored huW (Nat.le_succ _) HB.out (HO.out _ (Nat.le_refl _) (FlOff.mk hrP hrQ)) (fun B hB ho => HO.out B (by omega) (FlOff.mk ho.fst ho.snd)) (by simp)
    · have hne : (fuse == 0) = false := by simpa using h0
      have hF : stepF ⟨pages, wear, fuse, ftorn, false⟩ page whole torn = (⟨pages.set page whole, wear, if 0 < fuse then fuse - 1 else fuse, ftorn, false⟩, 0) := by simp [stepF, h0]
      rw [hF]
      clear hF
      by_cases h1 : 0 < fuse
      · rw [if_pos h1]
        have hw1 : IntKind.i64.wrap (fuse - 1) = fuse - 1 := (IntWalk.i64_left _).trans (IntWalk.wrap64_in _ ⟨by omega, by omega⟩)
        have hu2 : Ups w ((w.alloc (.cells #[.slice (some ⟨b, off, none⟩) pages.length c, .slice a' wear.length c', .int .i64 (fuse - 1), .string ftorn, .bool false] 31)).alloc (.cells #[.slice none 0 0, .slice none 0 0, .int .i64 0, .string { data := #[] }, .bool false] 31)) := ((Own.start w).alloc (.cells #[.slice (some ⟨b, off, none⟩) pages.length c, .slice a' wear.length c', .int .i64 (fuse - 1), .string ftorn, .bool false] 31) |>.alloc (.cells #[.slice none 0 0, .slice none 0 0, .int .i64 0, .string { data := #[] }, .bool false] 31)).bel
        have hk0 : ((w.alloc (.cells #[.slice (some ⟨b, off, none⟩) pages.length c, .slice a' wear.length c', .int .i64 (fuse - 1), .string ftorn, .bool false] 31)).alloc (.cells #[.slice none 0 0, .slice none 0 0, .int .i64 0, .string { data := #[] }, .bool false] 31)).heap[w.heap.size]? = some (.cells #[.slice (some ⟨b, off, none⟩) pages.length c, .slice a' wear.length c', .int .i64 (fuse - 1), .string ftorn, .bool false] 31) := ((Own.start w).alloc (.cells #[.slice (some ⟨b, off, none⟩) pages.length c, .slice a' wear.length c', .int .i64 (fuse - 1), .string ftorn, .bool false] 31) |>.alloc (.cells #[.slice none 0 0, .slice none 0 0, .int .i64 0, .string { data := #[] }, .bool false] 31)).at w.heap.size 0 rfl rfl
        have hk1 : ((w.alloc (.cells #[.slice (some ⟨b, off, none⟩) pages.length c, .slice a' wear.length c', .int .i64 (fuse - 1), .string ftorn, .bool false] 31)).alloc (.cells #[.slice none 0 0, .slice none 0 0, .int .i64 0, .string { data := #[] }, .bool false] 31)).heap[w.heap.size + 1]? = some (.cells #[.slice none 0 0, .slice none 0 0, .int .i64 0, .string { data := #[] }, .bool false] 31) := ((Own.start w).alloc (.cells #[.slice (some ⟨b, off, none⟩) pages.length c, .slice a' wear.length c', .int .i64 (fuse - 1), .string ftorn, .bool false] 31) |>.alloc (.cells #[.slice none 0 0, .slice none 0 0, .int .i64 0, .string { data := #[] }, .bool false] 31)).at (w.heap.size + 1) 1 rfl rfl
        have hz2 : w.heap.size + 1 < ((w.alloc (.cells #[.slice (some ⟨b, off, none⟩) pages.length c, .slice a' wear.length c', .int .i64 (fuse - 1), .string ftorn, .bool false] 31)).alloc (.cells #[.slice none 0 0, .slice none 0 0, .int .i64 0, .string { data := #[] }, .bool false] 31)).heap.size := (Array.getElem?_eq_some_iff.1 hk1).1
        have hcells := fun W (hU : Ups (World.drew ((w.alloc (.cells #[.slice (some ⟨b, off, none⟩) pages.length c, .slice a' wear.length c', .int .i64 (fuse - 1), .string ftorn, .bool false] 31)).alloc (.cells #[.slice none 0 0, .slice none 0 0, .int .i64 0, .string { data := #[] }, .bool false] 31))) W) => block_cells (block_ups hk0 (drew_ups hU))
        have hfl : ∀ W, Ups (World.drew ((w.alloc (.cells #[.slice (some ⟨b, off, none⟩) pages.length c, .slice a' wear.length c', .int .i64 (fuse - 1), .string ftorn, .bool false] 31)).alloc (.cells #[.slice none 0 0, .slice none 0 0, .int .i64 0, .string { data := #[] }, .bool false] 31))) W → FlAt W (.agg #[.slice (some ⟨b, off, none⟩) pages.length c, .slice a' wear.length c', .int .i64 (fuse - 1), .string ftorn, .bool false]) ⟨pages, wear, (fuse - 1), ftorn, false⟩ := fun W hU => ⟨_, _, rfl, hT.ups (Ups.trans hu2 (drew_ups hU)), hI.ups (Ups.trans hu2 (drew_ups hU))⟩
        have hsize : ∀ W, Ups (World.drew ((w.alloc (.cells #[.slice (some ⟨b, off, none⟩) pages.length c, .slice a' wear.length c', .int .i64 (fuse - 1), .string ftorn, .bool false] 31)).alloc (.cells #[.slice none 0 0, .slice none 0 0, .int .i64 0, .string { data := #[] }, .bool false] 31))) W → w.heap.size + 1 < W.heap.size := fun W hU => Nat.lt_of_lt_of_le hz2 (drew_ups hU).size
        go_enter Tryz.func47, Tryz.ntmps47
        go_wp2_with fail
        refine wp_region_parts (N := 6) (n := 48) (ks := [isV (.agg #[.slice (some ⟨b, off, none⟩) pages.length c, .slice a' wear.length c', .int .i64 (fuse - 1), .string ftorn, .bool false]), isV (.int .i64 page), isV (.iface T x), isV (.string old), isV (.string whole), fun v' W' => FlAt W' v' ⟨(pages.set page whole), wear, (fuse - 1), ftorn, false⟩ ∧ ∀ B, B ≤ w.heap.size + 1 → FlOff B (.agg #[.slice (some ⟨b, off, none⟩) pages.length c, .slice a' wear.length c', .int .i64 (fuse - 1), .string ftorn, .bool false]) → FlOff B v']) (by decide +kernel) (by decide +kernel) (by decide +kernel) (by simp) rfl (by decide +kernel) ⟨steady_is _, steady_is _, steady_is _, steady_is _, steady_is _, fun _ _ _ h hu => ⟨h.1.ups hu, h.2⟩, trivial⟩ ?_ ?_
        · refine And.intro (fun ac W hO hU H => ?_) ?_
          · have h3 : ac.tmps[3]? = some (.pointer (some ⟨w.heap.size, 0, none⟩)) := (hO 3 rfl).trans rfl
            obtain ⟨k0, k1, k2, k3, k4⟩ := hcells W hU
            exact growOp_plain rfl (parts_value (by simp [go_sem, h3, k0, k1, k2, k3, k4]))
          refine And.intro (fun ac W hO hU H => ?_) ?_
          · have h1 : ac.tmps[1]? = some (.int .i64 page) := (hO 1 rfl).trans rfl
            exact growOp_plain rfl (parts_value (by simp [go_sem, h1]))
          refine And.intro (fun ac W hO hU H => ?_) ?_
          · have h2 : ac.tmps[2]? = some (.iface T x) := (hO 2 rfl).trans rfl
            exact growOp_plain rfl (parts_value (by simp [go_sem, h2]))
          refine And.intro (fun ac W hO hU H => ?_) ?_
          · have h8 : ac.tmps[8]? = some (.string old) := (hO 8 rfl).trans rfl
            exact growOp_plain rfl (parts_value (by simp [go_sem, h8]))
          refine And.intro (fun ac W hO hU H => ?_) ?_
          · have h44 : ac.tmps[44]? = some (.iface T x) := isV_get (W := W) (H 2 44 rfl)
            have h45 : ac.tmps[45]? = some (.string old) := isV_get (W := W) (H 3 45 rfl)
            exact growOp_plain rfl (hs.whole _ _ 44 45 W rfl (eval_tmp h44) (eval_tmp h45))
          refine And.intro (fun ac W hO hU H => ?_) ?_
          · have h42 : ac.tmps[42]? = some (.agg #[.slice (some ⟨b, off, none⟩) pages.length c, .slice a' wear.length c', .int .i64 (fuse - 1), .string ftorn, .bool false]) := isV_get (W := W) (H 0 42 rfl)
            have h43 : ac.tmps[43]? = some (.int .i64 page) := isV_get (W := W) (H 1 43 rfl)
            have h46 : ac.tmps[46]? = some (.string whole) := isV_get (W := W) (H 4 46 rfl)
            exact growOp_plain rfl (parts_call (args := #[.agg #[.slice (some ⟨b, off, none⟩) pages.length c, .slice a' wear.length c', .int .i64 (fuse - 1), .string ftorn, .bool false], .int .i64 page, .string whole]) (by simp [go_sem, h42, h43, h46]) (with_kd (hfl W hU) page whole (by simpa using hp0) (by simpa using hb1) (hsize W hU)))
          exact trivial
        · intro W xs hU hks
          obtain ⟨y0, rfl, g0⟩ := holdAll_is hks
          obtain ⟨y1, rfl, g1⟩ := holdAll_is g0
          obtain ⟨y2, rfl, g2⟩ := holdAll_is g1
          obtain ⟨y3, rfl, g3⟩ := holdAll_is g2
          obtain ⟨y4, rfl, g4⟩ := holdAll_is g3
          obtain ⟨v5, y5, rfl, q5, g5⟩ := holdAll_cons g4
          obtain rfl := holdAll_nil g5
          clear hks g0 g1 g2 g3 g4 g5
          simp only [List.take_succ_cons, List.take_zero, List.drop_succ_cons, List.drop_zero, endTmps, List.setIfInBounds_toArray, List.set]
          have hzz := block_ups hk1 (drew_ups hU)
          have huW := Ups.trans hu2 (drew_ups hU)
          obtain ⟨d0, d1, d2, d3, d4⟩ := block_cells hzz
          have y0 := block_frozen hzz 0
          have y1 := block_frozen hzz 1
          have y2 := block_frozen hzz 2
          have y3 := block_frozen hzz 3
          have y4 := block_frozen hzz 4
          obtain ⟨hread, hoff⟩ := q5
          have HB := Lib.hid hread
          have HO := Lib.hid hoff
          obtain ⟨_, _, rfl, ⟨ap, cp, rfl, _⟩, ⟨aq, cq, rfl, _⟩⟩ := hread
          clear hoff hcells hfl hsize
          go_wp2_with fail
          refine bodyPost_ret (v := .tuple #[.agg #[.slice ap (pages.set page whole).length cp, .slice aq wear.length cq, .int .i64 ((fuse - 1)), .string ftorn, .bool false], .int .i64 0]) ?_ rfl ⟨_, rfl, ?_⟩
          · simp [results, Tryz.results47, go_sem, d0, d1, d2, d3, d4]
          · exact fl_stored huW (Nat.le_succ _) HB.out (HO.out _ (Nat.le_refl _) (FlOff.mk hrP hrQ)) (fun B hB ho => HO.out B (by omega) (FlOff.mk ho.fst ho.snd)) (by simp)
      · rw [if_neg h1]
        have hu2 : Ups w ((w.alloc (.cells #[.slice (some ⟨b, off, none⟩) pages.length c, .slice a' wear.length c', .int .i64 fuse, .string ftorn, .bool false] 31)).alloc (.cells #[.slice none 0 0, .slice none 0 0, .int .i64 0, .string { data := #[] }, .bool false] 31)) := ((Own.start w).alloc (.cells #[.slice (some ⟨b, off, none⟩) pages.length c, .slice a' wear.length c', .int .i64 fuse, .string ftorn, .bool false] 31) |>.alloc (.cells #[.slice none 0 0, .slice none 0 0, .int .i64 0, .string { data := #[] }, .bool false] 31)).bel
        have hk0 : ((w.alloc (.cells #[.slice (some ⟨b, off, none⟩) pages.length c, .slice a' wear.length c', .int .i64 fuse, .string ftorn, .bool false] 31)).alloc (.cells #[.slice none 0 0, .slice none 0 0, .int .i64 0, .string { data := #[] }, .bool false] 31)).heap[w.heap.size]? = some (.cells #[.slice (some ⟨b, off, none⟩) pages.length c, .slice a' wear.length c', .int .i64 fuse, .string ftorn, .bool false] 31) := ((Own.start w).alloc (.cells #[.slice (some ⟨b, off, none⟩) pages.length c, .slice a' wear.length c', .int .i64 fuse, .string ftorn, .bool false] 31) |>.alloc (.cells #[.slice none 0 0, .slice none 0 0, .int .i64 0, .string { data := #[] }, .bool false] 31)).at w.heap.size 0 rfl rfl
        have hk1 : ((w.alloc (.cells #[.slice (some ⟨b, off, none⟩) pages.length c, .slice a' wear.length c', .int .i64 fuse, .string ftorn, .bool false] 31)).alloc (.cells #[.slice none 0 0, .slice none 0 0, .int .i64 0, .string { data := #[] }, .bool false] 31)).heap[w.heap.size + 1]? = some (.cells #[.slice none 0 0, .slice none 0 0, .int .i64 0, .string { data := #[] }, .bool false] 31) := ((Own.start w).alloc (.cells #[.slice (some ⟨b, off, none⟩) pages.length c, .slice a' wear.length c', .int .i64 fuse, .string ftorn, .bool false] 31) |>.alloc (.cells #[.slice none 0 0, .slice none 0 0, .int .i64 0, .string { data := #[] }, .bool false] 31)).at (w.heap.size + 1) 1 rfl rfl
        have hz2 : w.heap.size + 1 < ((w.alloc (.cells #[.slice (some ⟨b, off, none⟩) pages.length c, .slice a' wear.length c', .int .i64 fuse, .string ftorn, .bool false] 31)).alloc (.cells #[.slice none 0 0, .slice none 0 0, .int .i64 0, .string { data := #[] }, .bool false] 31)).heap.size := (Array.getElem?_eq_some_iff.1 hk1).1
        have hcells := fun W (hU : Ups (World.drew ((w.alloc (.cells #[.slice (some ⟨b, off, none⟩) pages.length c, .slice a' wear.length c', .int .i64 fuse, .string ftorn, .bool false] 31)).alloc (.cells #[.slice none 0 0, .slice none 0 0, .int .i64 0, .string { data := #[] }, .bool false] 31))) W) => block_cells (block_ups hk0 (drew_ups hU))
        have hfl : ∀ W, Ups (World.drew ((w.alloc (.cells #[.slice (some ⟨b, off, none⟩) pages.length c, .slice a' wear.length c', .int .i64 fuse, .string ftorn, .bool false] 31)).alloc (.cells #[.slice none 0 0, .slice none 0 0, .int .i64 0, .string { data := #[] }, .bool false] 31))) W → FlAt W (.agg #[.slice (some ⟨b, off, none⟩) pages.length c, .slice a' wear.length c', .int .i64 fuse, .string ftorn, .bool false]) ⟨pages, wear, fuse, ftorn, false⟩ := fun W hU => ⟨_, _, rfl, hT.ups (Ups.trans hu2 (drew_ups hU)), hI.ups (Ups.trans hu2 (drew_ups hU))⟩
        have hsize : ∀ W, Ups (World.drew ((w.alloc (.cells #[.slice (some ⟨b, off, none⟩) pages.length c, .slice a' wear.length c', .int .i64 fuse, .string ftorn, .bool false] 31)).alloc (.cells #[.slice none 0 0, .slice none 0 0, .int .i64 0, .string { data := #[] }, .bool false] 31))) W → w.heap.size + 1 < W.heap.size := fun W hU => Nat.lt_of_lt_of_le hz2 (drew_ups hU).size
        go_enter Tryz.func47, Tryz.ntmps47
        go_wp2_with fail
        refine wp_region_parts (N := 6) (n := 48) (ks := [isV (.agg #[.slice (some ⟨b, off, none⟩) pages.length c, .slice a' wear.length c', .int .i64 fuse, .string ftorn, .bool false]), isV (.int .i64 page), isV (.iface T x), isV (.string old), isV (.string whole), fun v' W' => FlAt W' v' ⟨(pages.set page whole), wear, fuse, ftorn, false⟩ ∧ ∀ B, B ≤ w.heap.size + 1 → FlOff B (.agg #[.slice (some ⟨b, off, none⟩) pages.length c, .slice a' wear.length c', .int .i64 fuse, .string ftorn, .bool false]) → FlOff B v']) (by decide +kernel) (by decide +kernel) (by decide +kernel) (by simp) rfl (by decide +kernel) ⟨steady_is _, steady_is _, steady_is _, steady_is _, steady_is _, fun _ _ _ h hu => ⟨h.1.ups hu, h.2⟩, trivial⟩ ?_ ?_
        · refine And.intro (fun ac W hO hU H => ?_) ?_
          · have h3 : ac.tmps[3]? = some (.pointer (some ⟨w.heap.size, 0, none⟩)) := (hO 3 rfl).trans rfl
            obtain ⟨k0, k1, k2, k3, k4⟩ := hcells W hU
            exact growOp_plain rfl (parts_value (by simp [go_sem, h3, k0, k1, k2, k3, k4]))
          refine And.intro (fun ac W hO hU H => ?_) ?_
          · have h1 : ac.tmps[1]? = some (.int .i64 page) := (hO 1 rfl).trans rfl
            exact growOp_plain rfl (parts_value (by simp [go_sem, h1]))
          refine And.intro (fun ac W hO hU H => ?_) ?_
          · have h2 : ac.tmps[2]? = some (.iface T x) := (hO 2 rfl).trans rfl
            exact growOp_plain rfl (parts_value (by simp [go_sem, h2]))
          refine And.intro (fun ac W hO hU H => ?_) ?_
          · have h8 : ac.tmps[8]? = some (.string old) := (hO 8 rfl).trans rfl
            exact growOp_plain rfl (parts_value (by simp [go_sem, h8]))
          refine And.intro (fun ac W hO hU H => ?_) ?_
          · have h44 : ac.tmps[44]? = some (.iface T x) := isV_get (W := W) (H 2 44 rfl)
            have h45 : ac.tmps[45]? = some (.string old) := isV_get (W := W) (H 3 45 rfl)
            exact growOp_plain rfl (hs.whole _ _ 44 45 W rfl (eval_tmp h44) (eval_tmp h45))
          refine And.intro (fun ac W hO hU H => ?_) ?_
          · have h42 : ac.tmps[42]? = some (.agg #[.slice (some ⟨b, off, none⟩) pages.length c, .slice a' wear.length c', .int .i64 fuse, .string ftorn, .bool false]) := isV_get (W := W) (H 0 42 rfl)
            have h43 : ac.tmps[43]? = some (.int .i64 page) := isV_get (W := W) (H 1 43 rfl)
            have h46 : ac.tmps[46]? = some (.string whole) := isV_get (W := W) (H 4 46 rfl)
            exact growOp_plain rfl (parts_call (args := #[.agg #[.slice (some ⟨b, off, none⟩) pages.length c, .slice a' wear.length c', .int .i64 fuse, .string ftorn, .bool false], .int .i64 page, .string whole]) (by simp [go_sem, h42, h43, h46]) (with_kd (hfl W hU) page whole (by simpa using hp0) (by simpa using hb1) (hsize W hU)))
          exact trivial
        · intro W xs hU hks
          obtain ⟨y0, rfl, g0⟩ := holdAll_is hks
          obtain ⟨y1, rfl, g1⟩ := holdAll_is g0
          obtain ⟨y2, rfl, g2⟩ := holdAll_is g1
          obtain ⟨y3, rfl, g3⟩ := holdAll_is g2
          obtain ⟨y4, rfl, g4⟩ := holdAll_is g3
          obtain ⟨v5, y5, rfl, q5, g5⟩ := holdAll_cons g4
          obtain rfl := holdAll_nil g5
          clear hks g0 g1 g2 g3 g4 g5
          simp only [List.take_succ_cons, List.take_zero, List.drop_succ_cons, List.drop_zero, endTmps, List.setIfInBounds_toArray, List.set]
          have hzz := block_ups hk1 (drew_ups hU)
          have huW := Ups.trans hu2 (drew_ups hU)
          obtain ⟨d0, d1, d2, d3, d4⟩ := block_cells hzz
          have y0 := block_frozen hzz 0
          have y1 := block_frozen hzz 1
          have y2 := block_frozen hzz 2
          have y3 := block_frozen hzz 3
          have y4 := block_frozen hzz 4
          obtain ⟨hread, hoff⟩ := q5
          have HB := Lib.hid hread
          have HO := Lib.hid hoff
          obtain ⟨_, _, rfl, ⟨ap, cp, rfl, _⟩, ⟨aq, cq, rfl, _⟩⟩ := hread
          clear hoff hcells hfl hsize
          go_wp2_with fail
          refine bodyPost_ret (v := .tuple #[.agg #[.slice ap (pages.set page whole).length cp, .slice aq wear.length cq, .int .i64 (fuse), .string ftorn, .bool false], .int .i64 0]) ?_ rfl ⟨_, rfl, ?_⟩
          · simp [results, Tryz.results47, go_sem, d0, d1, d2, d3, d4]
          · exact fl_stored huW (Nat.le_succ _) HB.out (HO.out _ (Nat.le_refl _) (FlOff.mk hrP hrQ)) (fun B hB ho => HO.out B (by omega) (FlOff.mk ho.fst ho.snd)) (by simp)

end Go.Proofs.YtmabpnkdagipfaaGreat

/- What flash.Erase comes to. -/
namespace Go.Proofs.YtmabpnkdagipfaaGreat
open Go.RowKit

def oldT (f : Fl) (page : Nat) : ByteArray := f.pages.getD page ByteArray.empty
def maskOf (f : Fl) : ByteArray := maskT f.torn (oldT f 0).size
/-- What flash.Erase does. -/
def eraseF (f : Fl) (page : Int) : Fl × Int :=
  if hasB f page then
    let r := stepF f page.toNat (onesT (oldT f page.toNat).size) (orT (oldT f page.toNat) (maskOf f))
    if r.2 = 0 then ({ r.1 with wear := r.1.wear.set page.toNat (min (r.1.wear.getD page.toNat 0 + 1) 2147483647) }, 0) else r
  else (f, 1)

theorem check_facts {f : Fl} (h : checkB f = true) : 1 ≤ f.pages.length ∧ f.pages.length ≤ 6 ∧ f.wear.length = f.pages.length ∧ f.torn.size ≤ 64 ∧ (∀ z ∈ f.wear, 0 ≤ z ∧ z ≤ 2147483647) ∧ ∀ s ∈ f.pages, 1 ≤ s.size ∧ s.size ≤ 8192 ∧ s.size = (oldT f 0).size := by
  unfold checkB at h
  simp only [Bool.and_eq_true, decide_eq_true_eq, Bool.not_eq_true', List.all_eq_true] at h
  obtain ⟨⟨⟨⟨⟨h1, h2⟩, h3⟩, h4⟩, h5⟩, h6⟩ := h
  refine ⟨h1, h2, h3, h4, h5, fun s hs => ?_⟩
  have := List.any_eq_false.1 h6 s hs
  unfold oddB at this
  simp only [Bool.or_eq_true, decide_eq_true_eq, not_or] at this
  unfold oldT
  omega
theorem has_facts {f : Fl} {page : Int} (h : hasB f page = true) : checkB f = true ∧ ∃ n : Nat, page = n ∧ n < f.pages.length := by
  unfold hasB at h
  simp only [Bool.and_eq_true, decide_eq_true_eq] at h
  exact ⟨h.1.1, page.toNat, by omega, by omega⟩
theorem oldT_mem {f : Fl} {n : Nat} (h : n < f.pages.length) : oldT f n ∈ f.pages := by
  unfold oldT
  rw [List.getD_eq_getElem?_getD, List.getElem?_eq_getElem h]
  exact List.getElem_mem h
theorem old_size {f : Fl} (hc : checkB f = true) {n : Nat} (h : n < f.pages.length) : 1 ≤ (oldT f n).size ∧ (oldT f n).size ≤ 8192 ∧ (oldT f n).size = (oldT f 0).size := (check_facts hc).2.2.2.2.2 _ (oldT_mem h)

/-- A world's numbers are int's. -/
def FlFit (f : Fl) : Prop := f.pages.length ≤ 9223372036854775807 ∧ f.wear.length ≤ 9223372036854775807 ∧ -9223372036854775808 ≤ f.fuse ∧ f.fuse ≤ 9223372036854775807

theorem fl_stored' {w W : World} {v v' p q x y z : Value} {f' : Fl} {B : Nat} (hu : Ups w W) (hB : w.heap.size ≤ B) (h : FlAt W v' f') (ho : FlOff B v') (hoff : ∀ B', B' < w.heap.size → FlOff B' v → FlOff B' v') (_hv : v' = .agg #[p, q, x, y, z]) (o : Obj) :
    FlNew w v ((put5 W B p q x y z).alloc o) v' f' := by
  have hu' := (put5_but W B p q x y z).below hu hB
  exact ⟨(h.but (put5_but W B p q x y z) ho).ups ((Below.refl _ _).alloc (Nat.le_refl _) _), Below.alloc hu' hu'.size o, hoff⟩
theorem ints_set {W : World} {g n c : Nat} {l : List Int} (hn : n < l.length) (h : ∀ j, j < l.length → W.cell? ⟨g, j, none⟩ = some (.int .i64 (l.getD j 0))) (u : Int) :
    IntsAt (W.setCell ⟨g, n, none⟩ (.int .i64 u)) (.slice (some ⟨g, 0, none⟩) l.length c) (l.set n u) := by
  refine ⟨_, c, by rw [List.length_set], fun _ => ⟨g, 0, rfl, fun j hj => ?_⟩⟩
  rw [List.length_set] at hj
  rw [Nat.zero_add]
  by_cases hjn : j = n
  · subst hjn
    rw [World.cell?_setCell_same _ _ _ (h j hj)]
    simp [hj]
  · rw [World.cell?_setCell_other _ _ _ _ (fun e => hjn (by have := congrArg Addr.off e; exact this.symm)), h j hj]
    have : ¬ n = j := fun e => hjn e.symm
    simp [List.getD_eq_getElem?_getD, this]

set_option maxRecDepth 100000 in
set_option maxHeartbeats 2000000 in
theorem erase_calls (f : Fl) (v : Value) (page : Int) (w : World) (h : FlAt w v f) (hf : FlFit f) :
    Calls Tryz.prog 25 #[v, .int .i64 page] w fun e W' => ∃ v', e = .returned (.tuple #[v', .int .i64 (eraseF f page).2]) ∧ FlNew w v W' v' (eraseF f page).1 := by
  have hall := h
  obtain ⟨p, q, rfl, hT, hI⟩ := h
  have hrP : RowOff (w.heap.size + 1) p := hT.off (Nat.le_succ _)
  have hrQ : RowOff (w.heap.size + 1) q := hI.off (Nat.le_succ _)
  have hT0 := hT
  have hI0 := hI
  obtain ⟨a, c, rfl, _⟩ := hT0
  obtain ⟨a', c', rfl, _⟩ := hI0
  have hu2 : Ups w ((w.alloc (.cells #[.slice a f.pages.length c, .slice a' f.wear.length c', .int .i64 f.fuse, .string f.torn, .bool f.dead] 31)).alloc (.cells #[.slice none 0 0, .slice none 0 0, .int .i64 0, .string { data := #[] }, .bool false] 31)) := ((Own.start w).alloc (.cells #[.slice a f.pages.length c, .slice a' f.wear.length c', .int .i64 f.fuse, .string f.torn, .bool f.dead] 31) |>.alloc (.cells #[.slice none 0 0, .slice none 0 0, .int .i64 0, .string { data := #[] }, .bool false] 31)).bel
  have hk0 : ((w.alloc (.cells #[.slice a f.pages.length c, .slice a' f.wear.length c', .int .i64 f.fuse, .string f.torn, .bool f.dead] 31)).alloc (.cells #[.slice none 0 0, .slice none 0 0, .int .i64 0, .string { data := #[] }, .bool false] 31)).heap[w.heap.size]? = some (.cells #[.slice a f.pages.length c, .slice a' f.wear.length c', .int .i64 f.fuse, .string f.torn, .bool f.dead] 31) := ((Own.start w).alloc (.cells #[.slice a f.pages.length c, .slice a' f.wear.length c', .int .i64 f.fuse, .string f.torn, .bool f.dead] 31) |>.alloc (.cells #[.slice none 0 0, .slice none 0 0, .int .i64 0, .string { data := #[] }, .bool false] 31)).at w.heap.size 0 rfl rfl
  have hk1 : ((w.alloc (.cells #[.slice a f.pages.length c, .slice a' f.wear.length c', .int .i64 f.fuse, .string f.torn, .bool f.dead] 31)).alloc (.cells #[.slice none 0 0, .slice none 0 0, .int .i64 0, .string { data := #[] }, .bool false] 31)).heap[w.heap.size + 1]? = some (.cells #[.slice none 0 0, .slice none 0 0, .int .i64 0, .string { data := #[] }, .bool false] 31) := ((Own.start w).alloc (.cells #[.slice a f.pages.length c, .slice a' f.wear.length c', .int .i64 f.fuse, .string f.torn, .bool f.dead] 31) |>.alloc (.cells #[.slice none 0 0, .slice none 0 0, .int .i64 0, .string { data := #[] }, .bool false] 31)).at (w.heap.size + 1) 1 rfl rfl
  have hz2 : w.heap.size + 1 < ((w.alloc (.cells #[.slice a f.pages.length c, .slice a' f.wear.length c', .int .i64 f.fuse, .string f.torn, .bool f.dead] 31)).alloc (.cells #[.slice none 0 0, .slice none 0 0, .int .i64 0, .string { data := #[] }, .bool false] 31)).heap.size := (Array.getElem?_eq_some_iff.1 hk1).1
  have hhas := has_calls f _ page _ (hall.ups hu2) hf.1 hf.2.1
  cases hb : hasB f page with
  | false =>
    have he : eraseF f page = (f, 1) := by simp [eraseF, hb]
    rw [he]
    rw [hb] at hhas
    clear he hb
    go_enter Tryz.func25, Tryz.ntmps25
    go_wp2_with fail
    refine hhas.mono ?_
    rintro e w3 ⟨rfl, hb3⟩
    obtain ⟨k0, k1, k2, k3, k4⟩ := block_cells (block_ups hk0 hb3)
    have hzz := block_ups hk1 hb3
    obtain ⟨d0, d1, d2, d3, d4⟩ := block_cells hzz
    have y0 := block_frozen hzz 0
    have y1 := block_frozen hzz 1
    have y2 := block_frozen hzz 2
    have y3 := block_frozen hzz 3
    have y4 := block_frozen hzz 4
    have hu3 := Ups.trans hu2 hb3
    have HA := Lib.hid hall
    clear hall hT hI hhas hk0 hk1 hzz hf
    go_wp2_with fail
    refine bodyPost_ret (v := .tuple #[.agg #[.slice a f.pages.length c, .slice a' f.wear.length c', .int .i64 f.fuse, .string f.torn, .bool f.dead], .int .i64 1]) ?_ rfl ⟨_, rfl, ?_⟩
    · simp [results, Tryz.results25, go_sem, d0, d1, d2, d3, d4]
    · exact fl_stored hu3 (Nat.le_succ _) (HA.out.ups hu3) (FlOff.mk hrP hrQ) (fun B hB ho => ho) rfl
  | true =>
    rw [hb] at hhas
    obtain ⟨hck, n, rfl, hn⟩ := has_facts hb
    obtain ⟨c1, c2, c3, c4, c5, c6⟩ := check_facts hck
    have s0 := old_size hck (n := 0) (by omega)
    have sn := old_size hck hn
    have hst := step_erase (oldT f n) (maskOf f) (by omega) (by rw [maskOf, maskT_size]; omega)
    have hdo := fun W (hu : Ups w W) => fdo_calls f _ n W (hall.ups hu) hn (by omega) (oldT f n) (oldT f 0) (maskOf f) _ _ _ _ rfl rfl (by omega) c4 rfl hst hf.2.2.1 hf.2.2.2
    have he : eraseF f (n : Int) = (let r := stepF f n (onesT (oldT f n).size) (orT (oldT f n) (maskOf f)); if r.2 = 0 then ({ r.1 with wear := r.1.wear.set n (min (r.1.wear.getD n 0 + 1) 2147483647) }, 0) else r) := by simp [eraseF, hb]
    have hrw : (stepF f n (onesT (oldT f n).size) (orT (oldT f n) (maskOf f))).1.wear = f.wear ∧ ((stepF f n (onesT (oldT f n).size) (orT (oldT f n) (maskOf f))).2 = 0 ∨ (stepF f n (onesT (oldT f n).size) (orT (oldT f n) (maskOf f))).2 = 8) := by
      unfold stepF
      split
      · exact ⟨rfl, .inr rfl⟩
      · split
        · exact ⟨rfl, .inr rfl⟩
        · exact ⟨rfl, .inl rfl⟩
    generalize stepF f n (onesT (oldT f n).size) (orT (oldT f n) (maskOf f)) = r at *
    obtain ⟨⟨pages1, wear1, fuse1, torn1, dead1⟩, e1⟩ := r
    simp only at hrw he hdo
    obtain ⟨rfl, hrw⟩ := hrw
    rw [he]
    clear he hst s0 sn hb
    have hwold : 0 ≤ f.wear.getD n 0 ∧ f.wear.getD n 0 ≤ 2147483647 := c5 _ (by rw [List.getD_eq_getElem?_getD, List.getElem?_eq_getElem (by omega)]; exact List.getElem_mem _)
    have hwn : n < f.wear.length := by omega
    have hw6 : f.wear.length ≤ 6 := by omega
    have C3 := Lib.hid c3
    clear c3 c5 c6
    rcases hrw with rfl | rfl
    · rw [if_pos rfl]
      go_enter Tryz.func25, Tryz.ntmps25
      go_wp2_with fail
      refine hhas.mono ?_
      rintro e w3 ⟨rfl, hb3⟩
      have hu3 := Ups.trans hu2 hb3
      obtain ⟨k0, k1, k2, k3, k4⟩ := block_cells (block_ups hk0 hb3)
      have hzz3 := block_ups hk1 hb3
      have hd3 := hdo w3 hu3
      have hz3 : w.heap.size + 1 < w3.heap.size := Nat.lt_of_lt_of_le hz2 hb3.size
      have HA := Lib.hid hall
      clear hall hT hI hhas hk0 hk1 hf hdo
      go_wp2_with fail
      refine hd3.mono ?_
      rintro e w4 ⟨v4, rfl, hn4⟩
      have hz4 : w.heap.size + 1 < w4.heap.size := Nat.lt_of_lt_of_le hz3 hn4.ups.size
      have hr4 := hn4.reads
      have ho4 := hn4.off
      have hu4 := Ups.trans hu3 hn4.ups
      have hzz := block_ups hzz3 hn4.ups
      have hcl := hr4
      have HR := Lib.hid hr4
      have HO := Lib.hid ho4
      obtain ⟨_, _, rfl, hTp, hIq⟩ := hr4
      have hTp0 := hTp
      obtain ⟨ap, cp, rfl, _⟩ := hTp0
      have hIq0 := hIq
      obtain ⟨aq, cq, rfl, hqc⟩ := hIq0
      obtain ⟨bq, oq, rfl, hqd⟩ := hqc (by simp only; omega)
      have hu6 : Ups w4 (w4.alloc (.cells #[.slice ap pages1.length cp, .slice (some ⟨bq, oq, none⟩) f.wear.length cq, .int .i64 fuse1, .string torn1, .bool dead1] 31)) := (Below.refl _ _).alloc (Nat.le_refl _) _
      have hb6 : (w4.alloc (.cells #[.slice ap pages1.length cp, .slice (some ⟨bq, oq, none⟩) f.wear.length cq, .int .i64 fuse1, .string torn1, .bool dead1] 31)).heap[w4.heap.size]? = some (.cells #[.slice ap pages1.length cp, .slice (some ⟨bq, oq, none⟩) f.wear.length cq, .int .i64 fuse1, .string torn1, .bool dead1] 31) := by
        show (w4.heap.push _)[w4.heap.size]? = _
        simp
      have hclone := Tryz.slices_Clone_int bq oq f.wear.length cq f.wear (w4.alloc (.cells #[.slice ap pages1.length cp, .slice (some ⟨bq, oq, none⟩) f.wear.length cq, .int .i64 fuse1, .string torn1, .bool dead1] 31)) (Nat.le_refl _) (by omega) (fun j hj => cell_ups hu6 (hqd j hj))
      have hzB := block_ups hzz hu6
      clear hcl hqd hqc hn4 ho4 hd3 hzz hzz3 k0 k1 k2 k3 k4 hTp hIq
      go_wp2_with fail
      refine hclone.mono ?_
      rintro e w5 ⟨v5, rfl, hown, _, hbel⟩
      rw [List.take_length] at hown
      obtain ⟨gw, cw, cur, rfl, hgw, hgcur, hcur⟩ := own_cells hown (by omega)
      have hgw1 : w4.heap.size + 1 ≤ gw := by simpa using hgw
      have hb65 := block_ups hb6 hbel
      have hzB5 := block_ups hzB hbel
      have hz5 : w4.heap.size < w5.heap.size := (Array.getElem?_eq_some_iff.1 hb65).1
      obtain ⟨j0, j1, j2, j3, j4⟩ := block_cells hb65
      have x1 := block_frozen hb65 1
      have hub : Ups w w5 := Ups.trans hu4 (Ups.trans hu6 hbel)
      have hbut : But w4.heap.size w5 (w5.setCell ⟨w4.heap.size, 1, none⟩ (.slice (some ⟨gw, 0, none⟩) f.wear.length cw)) := (But.refl _ _).set 1 _
      have hb66 : ((w5.setCell ⟨w4.heap.size, 1, none⟩ (.slice (some ⟨gw, 0, none⟩) f.wear.length cw))).heap[w4.heap.size]? = some (.cells #[.slice ap pages1.length cp, .slice (some ⟨gw, 0, none⟩) f.wear.length cw, .int .i64 fuse1, .string torn1, .bool dead1] 31) := setCell_block hb65
      have hzB6 := (hbut.block (w.heap.size + 1) (by omega)).trans hzB5
      have hg6 := (hbut.block gw (by omega)).trans hgcur
      have hu66 : Ups w (w5.setCell ⟨w4.heap.size, 1, none⟩ (.slice (some ⟨gw, 0, none⟩) f.wear.length cw)) := hbut.below hub (by omega)
      have hrd6 : FlAt (w5.setCell ⟨w4.heap.size, 1, none⟩ (.slice (some ⟨gw, 0, none⟩) f.wear.length cw)) (.agg #[.slice ap pages1.length cp, .slice (some ⟨bq, oq, none⟩) f.wear.length cq, .int .i64 fuse1, .string torn1, .bool dead1]) ⟨pages1, f.wear, fuse1, torn1, dead1⟩ := (HR.out.ups (Ups.trans hu6 hbel)).but hbut (HR.out.off (Nat.le_refl _))
      have hcl0 : ∀ W, Ups (World.drew (w5.setCell ⟨w4.heap.size, 1, none⟩ (.slice (some ⟨gw, 0, none⟩) f.wear.length cw))) W → ∀ j, j < f.wear.length → W.cell? ⟨gw, j, none⟩ = some (.int .i64 (f.wear.getD j 0)) := by
        intro W hU j hj
        have hgW := block_ups hg6 (drew_ups hU)
        rw [cell_of hgW, hcur j hj]
        simp [hj]
      have hk1 := fun W (hU : Ups (World.drew (w5.setCell ⟨w4.heap.size, 1, none⟩ (.slice (some ⟨gw, 0, none⟩) f.wear.length cw))) W) => (block_cells (block_ups hb66 (drew_ups hU))).2.1
      have hold := fun W (hU : Ups (World.drew (w5.setCell ⟨w4.heap.size, 1, none⟩ (.slice (some ⟨gw, 0, none⟩) f.wear.length cw))) W) => hcl0 W hU n hwn
      have hipw : (n : Int) < f.wear.length := by omega
      generalize hgen : f.wear.getD n 0 = old at *
      have HG := Lib.hid hgen
      clear hgen
      have hwr : IntKind.i64.wrap (old + 1) = old + 1 := (IntWalk.i64_left _).trans (IntWalk.wrap64_in _ ⟨by omega, by omega⟩)
      clear hclone hown hgw hcur hgcur hb6 hzB hb65 hzB5
      go_wp2_with fail
      refine wp_region_parts (N := 11) (n := 40) (ks := [isV (.pointer (some ⟨w4.heap.size, 1, none⟩)), isV (.slice (some ⟨gw, 0, none⟩) f.wear.length cw), isV (.int .i64 n), isV (.pointer (some ⟨w4.heap.size, 1, none⟩)), isV (.slice (some ⟨gw, 0, none⟩) f.wear.length cw), isV (.int .i64 n), isV (.pointer (some ⟨gw, n, none⟩)), isV (.int .i64 old), isV (.int .i64 (old + 1)), isV (.int .i64 (min (old + 1) 2147483647)), isV (.pointer (some ⟨gw, n, none⟩))]) (by decide +kernel) (by decide +kernel) (by decide +kernel) (by simp) rfl (by decide +kernel) ⟨steady_is _, steady_is _, steady_is _, steady_is _, steady_is _, steady_is _, steady_is _, steady_is _, steady_is _, steady_is _, steady_is _, trivial⟩ ?_ ?_
      · refine And.intro (fun ac W hO hU H => ?_) ?_
        · have h6 : ac.tmps[6]? = some (.pointer (some ⟨w4.heap.size, 0, none⟩)) := (hO 6 rfl).trans rfl
          exact growOp_plain rfl (parts_value (by simp [go_sem, h6]))
        refine And.intro (fun ac W hO hU H => ?_) ?_
        · have h27 : ac.tmps[27]? = some (.pointer (some ⟨w4.heap.size, 1, none⟩)) := isV_get (W := W) (H 0 27 rfl)
          have k1 := hk1 W hU
          exact growOp_plain rfl (parts_value (by simp [go_sem, h27, k1]))
        refine And.intro (fun ac W hO hU H => ?_) ?_
        · have h1 : ac.tmps[1]? = some (.int .i64 n) := (hO 1 rfl).trans rfl
          exact growOp_plain rfl (parts_value (by simp [go_sem, h1]))
        refine And.intro (fun ac W hO hU H => ?_) ?_
        · have h6 : ac.tmps[6]? = some (.pointer (some ⟨w4.heap.size, 0, none⟩)) := (hO 6 rfl).trans rfl
          exact growOp_plain rfl (parts_value (by simp [go_sem, h6]))
        refine And.intro (fun ac W hO hU H => ?_) ?_
        · have h30 : ac.tmps[30]? = some (.pointer (some ⟨w4.heap.size, 1, none⟩)) := isV_get (W := W) (H 3 30 rfl)
          have k1 := hk1 W hU
          exact growOp_plain rfl (parts_value (by simp [go_sem, h30, k1]))
        refine And.intro (fun ac W hO hU H => ?_) ?_
        · have h1 : ac.tmps[1]? = some (.int .i64 n) := (hO 1 rfl).trans rfl
          exact growOp_plain rfl (parts_value (by simp [go_sem, h1]))
        refine And.intro (fun ac W hO hU H => ?_) ?_
        · have h31 : ac.tmps[31]? = some (.slice (some ⟨gw, 0, none⟩) f.wear.length cw) := isV_get (W := W) (H 4 31 rfl)
          have h32 : ac.tmps[32]? = some (.int .i64 n) := isV_get (W := W) (H 5 32 rfl)
          exact growOp_plain rfl (parts_value (by simp [go_sem, h31, h32, hipw]))
        refine And.intro (fun ac W hO hU H => ?_) ?_
        · have h33 : ac.tmps[33]? = some (.pointer (some ⟨gw, n, none⟩)) := isV_get (W := W) (H 6 33 rfl)
          have k1 := hold W hU
          exact growOp_plain rfl (parts_value (by simp [go_sem, h33, k1]))
        refine And.intro (fun ac W hO hU H => ?_) ?_
        · have h34 : ac.tmps[34]? = some (.int .i64 old) := isV_get (W := W) (H 7 34 rfl)
          exact growOp_plain rfl (parts_value (by simp [go_sem, h34, hwr]))
        refine And.intro (fun ac W hO hU H => ?_) ?_
        · have h35 : ac.tmps[35]? = some (.int .i64 (old + 1)) := isV_get (W := W) (H 8 35 rfl)
          exact growOp_plain rfl (parts_value (by simp [go_sem, h35]))
        refine And.intro (fun ac W hO hU H => ?_) ?_
        · have h28 : ac.tmps[28]? = some (.slice (some ⟨gw, 0, none⟩) f.wear.length cw) := isV_get (W := W) (H 1 28 rfl)
          have h29 : ac.tmps[29]? = some (.int .i64 n) := isV_get (W := W) (H 2 29 rfl)
          exact growOp_plain rfl (parts_value (by simp [go_sem, h28, h29, hipw]))
        exact trivial
      · intro W xs hU hks
        obtain ⟨y0, rfl, g0⟩ := holdAll_is hks
        obtain ⟨y1, rfl, g1⟩ := holdAll_is g0
        obtain ⟨y2, rfl, g2⟩ := holdAll_is g1
        obtain ⟨y3, rfl, g3⟩ := holdAll_is g2
        obtain ⟨y4, rfl, g4⟩ := holdAll_is g3
        obtain ⟨y5, rfl, g5⟩ := holdAll_is g4
        obtain ⟨y6, rfl, g6⟩ := holdAll_is g5
        obtain ⟨y7, rfl, g7⟩ := holdAll_is g6
        obtain ⟨y8, rfl, g8⟩ := holdAll_is g7
        obtain ⟨y9, rfl, g9⟩ := holdAll_is g8
        obtain ⟨y10, rfl, g10⟩ := holdAll_is g9
        obtain rfl := holdAll_nil g10
        clear hks g0 g1 g2 g3 g4 g5 g6 g7 g8 g9 g10
        simp only [List.take_succ_cons, List.take_zero, List.drop_succ_cons, List.drop_zero, endTmps, List.setIfInBounds_toArray, List.set]
        have hb6W := block_ups hb66 (drew_ups hU)
        have hzW := block_ups hzB6 (drew_ups hU)
        have hgW := block_ups hg6 (drew_ups hU)
        obtain ⟨k0, k1, k2, k3, k4⟩ := block_cells hb6W
        obtain ⟨d0, d1, d2, d3, d4⟩ := block_cells hzW
        have y0 := block_frozen hzW 0
        have y1 := block_frozen hzW 1
        have y2 := block_frozen hzW 2
        have y3 := block_frozen hzW 3
        have y4 := block_frozen hzW 4
        have yg := block_frozen hgW n
        have hcn := hold W hU
        have hCL := Lib.hid (hcl0 W hU)
        have hrW := hrd6.ups (drew_ups hU)
        have HRW := Lib.hid hrW
        have huW := Ups.trans hu66 (drew_ups hU)
        have n1 : ¬ gw = w4.heap.size := by omega
        have n2 : ¬ w4.heap.size = gw := by omega
        have n3 : ¬ gw = w.heap.size + 1 := by omega
        have n4 : ¬ w.heap.size + 1 = gw := by omega
        have n5 : ¬ w4.heap.size = w.heap.size + 1 := by omega
        have n6 : ¬ w.heap.size + 1 = w4.heap.size := by omega
        clear hold hcl0 hk1 hrW hrd6 hb66 hzB6 hg6 hb6W hzW hgW
        go_wp2_with fail
        refine bodyPost_ret (v := .tuple #[.agg #[.slice ap pages1.length cp, .slice (some ⟨gw, 0, none⟩) f.wear.length cw, .int .i64 fuse1, .string torn1, .bool dead1], .int .i64 0]) ?_ rfl ⟨_, rfl, ?_⟩
        · simp [results, Tryz.results25, go_sem, d0, d1, d2, d3, d4]
        · have hbg : But gw W (W.setCell ⟨gw, n, none⟩ (.int .i64 (min (old + 1) 2147483647))) := (But.refl _ _).set n _
          obtain ⟨P1, Q1, e1, hP1, _⟩ := HRW.out
          simp only [Value.agg.injEq, Array.mk.injEq, List.cons.injEq, and_true] at e1
          obtain ⟨rfl, rfl, _⟩ := e1
          have hofp : ∀ B, B < w3.heap.size → FlOff B (.agg #[.slice a f.pages.length c, .slice a' f.wear.length c', .int .i64 f.fuse, .string f.torn, .bool f.dead]) → RowOff B (.slice ap pages1.length cp) := fun B hB ho => (HO.out B hB ho).fst
          refine fl_stored (W := W.setCell ⟨gw, n, none⟩ (.int .i64 (min (old + 1) 2147483647))) (hbg.below huW (by omega)) (Nat.le_succ _) ⟨_, _, rfl, hP1.but hbg (HR.out.off (by omega)).fst, by simp only [HG.out]; exact ints_set hwn hCL.out _⟩ (FlOff.mk (hofp _ hz3 (FlOff.mk hrP hrQ)) (RowOff.fresh n3)) (fun B hB ho => FlOff.mk (hofp B (by omega) ho) (RowOff.fresh (by omega))) rfl
    · rw [if_neg (by decide)]
      go_enter Tryz.func25, Tryz.ntmps25
      go_wp2_with fail
      refine hhas.mono ?_
      rintro e w3 ⟨rfl, hb3⟩
      have hu3 := Ups.trans hu2 hb3
      obtain ⟨k0, k1, k2, k3, k4⟩ := block_cells (block_ups hk0 hb3)
      have hzz3 := block_ups hk1 hb3
      have hd3 := hdo w3 hu3
      have hz3 : w.heap.size + 1 < w3.heap.size := Nat.lt_of_lt_of_le hz2 hb3.size
      have HA := Lib.hid hall
      clear hall hT hI hhas hk0 hk1 hf hdo
      go_wp2_with fail
      refine hd3.mono ?_
      rintro e w4 ⟨v4, rfl, hn4⟩
      have hz4 : w.heap.size + 1 < w4.heap.size := Nat.lt_of_lt_of_le hz3 hn4.ups.size
      have hr4 := hn4.reads
      have ho4 := hn4.off
      have hu4 := Ups.trans hu3 hn4.ups
      have hzz := block_ups hzz3 hn4.ups
      obtain ⟨d0, d1, d2, d3, d4⟩ := block_cells hzz
      have y0 := block_frozen hzz 0
      have y1 := block_frozen hzz 1
      have y2 := block_frozen hzz 2
      have y3 := block_frozen hzz 3
      have y4 := block_frozen hzz 4
      have HR := Lib.hid hr4
      have HO := Lib.hid ho4
      obtain ⟨_, _, rfl, ⟨ap, cp, rfl, _⟩, ⟨aq, cq, rfl, _⟩⟩ := hr4
      clear hn4 ho4 hd3 hzz hzz3 k0 k1 k2 k3 k4
      go_wp2_with fail
      refine bodyPost_ret (v := .tuple #[.agg #[.slice ap pages1.length cp, .slice aq f.wear.length cq, .int .i64 fuse1, .string torn1, .bool dead1], .int .i64 8]) ?_ rfl ⟨_, rfl, ?_⟩
      · simp [results, Tryz.results25, go_sem, d0, d1, d2, d3, d4, hz4]
      · exact fl_stored' hu4 (Nat.le_succ _) HR.out (HO.out _ hz3 (FlOff.mk hrP hrQ)) (fun B hB ho => HO.out B (by omega) ho) rfl _

end Go.Proofs.YtmabpnkdagipfaaGreat

/- What flash.Program, Wake, Rot, Free come to. -/
namespace Go.Proofs.YtmabpnkdagipfaaGreat
open Go.RowKit

def standsB (f : Fl) (page at_ : Int) (k : Nat) : Bool := hasB f page && decide (0 ≤ at_) && decide (at_ ≤ (oldT f page.toNat).size) && decide ((k : Int) ≤ (oldT f page.toNat).size - at_)
theorem stands_facts {f : Fl} {page at_ : Int} {k : Nat} (h : standsB f page at_ k = true) : checkB f = true ∧ (∃ n : Nat, page = n ∧ n < f.pages.length ∧ ∃ m : Nat, at_ = m ∧ m + k ≤ (oldT f n).size) := by
  unfold standsB at h
  simp only [Bool.and_eq_true, decide_eq_true_eq] at h
  obtain ⟨⟨⟨h1, h2⟩, h3⟩, h4⟩ := h
  obtain ⟨hc, n, rfl, hn⟩ := has_facts h1
  simp only [Int.toNat_natCast] at h3 h4
  exact ⟨hc, n, rfl, hn, at_.toNat, by omega, by omega⟩

set_option maxRecDepth 100000 in
set_option maxHeartbeats 2000000 in
theorem stands_calls (f : Fl) (v : Value) (page at_ : Int) (s : ByteArray) (w : World) (h : FlAt w v f) (hf : FlFit f) (ha : at_ ≤ 9223372036854775807) :
    Calls Tryz.prog 64 #[v, .int .i64 page, .int .i64 at_, .string s] w fun e W' => e = .returned (.bool (standsB f page at_ s.size)) ∧ Ups w W' := by
  have hall := h
  obtain ⟨p, q, rfl, hT, hI⟩ := h
  obtain ⟨a, c, rfl, hp⟩ := hT
  obtain ⟨a', c', rfl, _⟩ := hI
  have hu1 : Ups w (w.alloc (.cells #[.slice a f.pages.length c, .slice a' f.wear.length c', .int .i64 f.fuse, .string f.torn, .bool f.dead] 31)) := (Below.refl _ w).alloc (Nat.le_refl _) _
  have hk0 : (w.alloc (.cells #[.slice a f.pages.length c, .slice a' f.wear.length c', .int .i64 f.fuse, .string f.torn, .bool f.dead] 31)).heap[w.heap.size]? = some (.cells #[.slice a f.pages.length c, .slice a' f.wear.length c', .int .i64 f.fuse, .string f.torn, .bool f.dead] 31) := ((Own.start w).alloc (.cells #[.slice a f.pages.length c, .slice a' f.wear.length c', .int .i64 f.fuse, .string f.torn, .bool f.dead] 31)).at w.heap.size 0 rfl rfl
  have hhas := has_calls f _ page _ (hall.ups hu1) hf.1 hf.2.1
  cases hb : hasB f page with
  | false =>
    have he : standsB f page at_ s.size = false := by simp [standsB, hb]
    rw [he]
    rw [hb] at hhas
    clear he hb
    go_enter Tryz.func64, Tryz.ntmps64
    go_wp2_with fail
    refine hhas.mono ?_
    rintro e w3 ⟨rfl, hb3⟩
    go_wp2_with fail
    go_ret
    exact ⟨rfl, Ups.trans hu1 hb3⟩
  | true =>
    rw [hb] at hhas
    obtain ⟨hck, n, rfl, hn⟩ := has_facts hb
    have hip : (n : Int) < f.pages.length := by omega
    obtain ⟨b, off, rfl, hp'⟩ := hp (by omega)
    have hc0 : w.cell? ⟨b, off + n, none⟩ = some (.string (oldT f n)) := hp' n hn
    have hso := (old_size hck hn).2.1
    have he : standsB f n at_ s.size = (decide (0 ≤ at_) && decide (at_ ≤ (oldT f n).size) && decide ((s.size : Int) ≤ (oldT f n).size - at_)) := by simp [standsB, hb]
    rw [he]
    clear he hb hp hp'
    generalize oldT f n = old at *
    by_cases h1 : 0 ≤ at_
    · by_cases h2 : at_ ≤ old.size
      · rw [decide_eq_true h1, decide_eq_true h2, Bool.true_and, Bool.true_and]
        have hwr : IntKind.i64.wrap ((old.size : Int) - at_) = old.size - at_ := (IntWalk.i64_left _).trans (IntWalk.wrap64_in _ ⟨by omega, by omega⟩)
        go_enter Tryz.func64, Tryz.ntmps64
        go_wp2_with fail
        refine hhas.mono ?_
        rintro e w3 ⟨rfl, hb3⟩
        have hcc := cell_ups (Ups.trans hu1 hb3) hc0
        obtain ⟨k0, k1, k2, k3, k4⟩ := block_cells (block_ups hk0 hb3)
        clear hk0 hc0
        go_wp2_with fail
        go_ret
        exact ⟨rfl, Ups.trans hu1 hb3⟩
      · rw [decide_eq_false h2, Bool.and_false, Bool.false_and]
        go_enter Tryz.func64, Tryz.ntmps64
        go_wp2_with fail
        refine hhas.mono ?_
        rintro e w3 ⟨rfl, hb3⟩
        have hcc := cell_ups (Ups.trans hu1 hb3) hc0
        obtain ⟨k0, k1, k2, k3, k4⟩ := block_cells (block_ups hk0 hb3)
        clear hk0 hc0
        go_wp2_with fail
        go_ret
        exact ⟨rfl, Ups.trans hu1 hb3⟩
    · rw [decide_eq_false h1, Bool.false_and, Bool.false_and]
      go_enter Tryz.func64, Tryz.ntmps64
      go_wp2_with fail
      refine hhas.mono ?_
      rintro e w3 ⟨rfl, hb3⟩
      go_wp2_with fail
      go_ret
      exact ⟨rfl, Ups.trans hu1 hb3⟩

/-- What flash.Program does. -/
def programF (f : Fl) (page at_ : Int) (s : ByteArray) : Fl × Int :=
  if standsB f page at_ s.size then stepF f page.toNat (andT (oldT f page.toNat) (onesT at_.toNat ++ s)) (andT (oldT f page.toNat) (orT (onesT at_.toNat ++ s) (notT (maskOf f))))
  else (f, 1)

set_option maxRecDepth 100000 in
set_option maxHeartbeats 2000000 in
theorem program_calls (f : Fl) (v : Value) (page at_ : Int) (s : ByteArray) (w : World) (h : FlAt w v f) (hf : FlFit f) (ha : at_ ≤ 9223372036854775807) :
    Calls Tryz.prog 41 #[v, .int .i64 page, .int .i64 at_, .string s] w fun e W' => ∃ v', e = .returned (.tuple #[v', .int .i64 (programF f page at_ s).2]) ∧ FlNew w v W' v' (programF f page at_ s).1 := by
  have hall := h
  obtain ⟨p, q, rfl, hT, hI⟩ := h
  have hrP : RowOff (w.heap.size + 1) p := hT.off (Nat.le_succ _)
  have hrQ : RowOff (w.heap.size + 1) q := hI.off (Nat.le_succ _)
  have hT0 := hT
  have hI0 := hI
  obtain ⟨a, c, rfl, hp⟩ := hT0
  obtain ⟨a', c', rfl, _⟩ := hI0
  have hu2 : Ups w ((w.alloc (.cells #[.slice a f.pages.length c, .slice a' f.wear.length c', .int .i64 f.fuse, .string f.torn, .bool f.dead] 31)).alloc (.cells #[.slice none 0 0, .slice none 0 0, .int .i64 0, .string { data := #[] }, .bool false] 31)) := ((Own.start w).alloc (.cells #[.slice a f.pages.length c, .slice a' f.wear.length c', .int .i64 f.fuse, .string f.torn, .bool f.dead] 31) |>.alloc (.cells #[.slice none 0 0, .slice none 0 0, .int .i64 0, .string { data := #[] }, .bool false] 31)).bel
  have hk0 : ((w.alloc (.cells #[.slice a f.pages.length c, .slice a' f.wear.length c', .int .i64 f.fuse, .string f.torn, .bool f.dead] 31)).alloc (.cells #[.slice none 0 0, .slice none 0 0, .int .i64 0, .string { data := #[] }, .bool false] 31)).heap[w.heap.size]? = some (.cells #[.slice a f.pages.length c, .slice a' f.wear.length c', .int .i64 f.fuse, .string f.torn, .bool f.dead] 31) := ((Own.start w).alloc (.cells #[.slice a f.pages.length c, .slice a' f.wear.length c', .int .i64 f.fuse, .string f.torn, .bool f.dead] 31) |>.alloc (.cells #[.slice none 0 0, .slice none 0 0, .int .i64 0, .string { data := #[] }, .bool false] 31)).at w.heap.size 0 rfl rfl
  have hk1 : ((w.alloc (.cells #[.slice a f.pages.length c, .slice a' f.wear.length c', .int .i64 f.fuse, .string f.torn, .bool f.dead] 31)).alloc (.cells #[.slice none 0 0, .slice none 0 0, .int .i64 0, .string { data := #[] }, .bool false] 31)).heap[w.heap.size + 1]? = some (.cells #[.slice none 0 0, .slice none 0 0, .int .i64 0, .string { data := #[] }, .bool false] 31) := ((Own.start w).alloc (.cells #[.slice a f.pages.length c, .slice a' f.wear.length c', .int .i64 f.fuse, .string f.torn, .bool f.dead] 31) |>.alloc (.cells #[.slice none 0 0, .slice none 0 0, .int .i64 0, .string { data := #[] }, .bool false] 31)).at (w.heap.size + 1) 1 rfl rfl
  have hz2 : w.heap.size + 1 < ((w.alloc (.cells #[.slice a f.pages.length c, .slice a' f.wear.length c', .int .i64 f.fuse, .string f.torn, .bool f.dead] 31)).alloc (.cells #[.slice none 0 0, .slice none 0 0, .int .i64 0, .string { data := #[] }, .bool false] 31)).heap.size := (Array.getElem?_eq_some_iff.1 hk1).1
  have hst := stands_calls f _ page at_ s _ (hall.ups hu2) hf ha
  cases hb : standsB f page at_ s.size with
  | false =>
    have he : programF f page at_ s = (f, 1) := by simp [programF, hb]
    rw [he]
    rw [hb] at hst
    clear he hb
    go_enter Tryz.func41, Tryz.ntmps41
    go_wp2_with fail
    refine hst.mono ?_
    rintro e w3 ⟨rfl, hb3⟩
    obtain ⟨k0, k1, k2, k3, k4⟩ := block_cells (block_ups hk0 hb3)
    have hzz := block_ups hk1 hb3
    obtain ⟨d0, d1, d2, d3, d4⟩ := block_cells hzz
    have y0 := block_frozen hzz 0
    have y1 := block_frozen hzz 1
    have y2 := block_frozen hzz 2
    have y3 := block_frozen hzz 3
    have y4 := block_frozen hzz 4
    have hu3 := Ups.trans hu2 hb3
    have HA := Lib.hid hall
    clear hall hT hI hst hk0 hk1 hzz hf
    go_wp2_with fail
    refine bodyPost_ret (v := .tuple #[.agg #[.slice a f.pages.length c, .slice a' f.wear.length c', .int .i64 f.fuse, .string f.torn, .bool f.dead], .int .i64 1]) ?_ rfl ⟨_, rfl, ?_⟩
    · simp [results, Tryz.results41, go_sem, d0, d1, d2, d3, d4]
    · exact fl_stored hu3 (Nat.le_succ _) (HA.out.ups hu3) (FlOff.mk hrP hrQ) (fun B hB ho => ho) rfl
  | true =>
    rw [hb] at hst
    obtain ⟨hck, n, rfl, hn, k, rfl, hks⟩ := stands_facts hb
    obtain ⟨b, off, rfl, _⟩ := hp (by omega)
    obtain ⟨c1, c2, c3, c4, c5, c6⟩ := check_facts hck
    have s0 := old_size hck (n := 0) (by omega)
    have sn := old_size hck hn
    have hdsz : (onesT k ++ s).size ≤ 8192 := by rw [ByteArray.size_append, onesT_size]; omega
    have hsp := step_program (onesT k ++ s) (oldT f n) (maskOf f) (by omega) (by rw [maskOf, maskT_size]; omega) (by omega)
    have hdo := fun W (hu : Ups w W) => fdo_calls f _ n W (hall.ups hu) hn (by omega) (oldT f n) (oldT f 0) (maskOf f) _ _ _ _ rfl rfl (by omega) c4 rfl hsp hf.2.2.1 hf.2.2.2
    have he : programF f (n : Int) (k : Int) s = stepF f n (andT (oldT f n) (onesT k ++ s)) (andT (oldT f n) (orT (onesT k ++ s) (notT (maskOf f)))) := by simp [programF, hb]
    rw [he]
    have hss : s.size ≤ 8192 := by omega
    have hkk : k ≤ 8192 := by omega
    have hsz1 : (onesT k).size + s.size ≤ 8192 := by rw [onesT_size]; omega
    clear he hsp s0 sn hb c3 c5 c6 hks hp
    generalize stepF f n (andT (oldT f n) (onesT k ++ s)) (andT (oldT f n) (orT (onesT k ++ s) (notT (maskOf f)))) = r at *
    obtain ⟨g, e1⟩ := r
    simp only at hdo ⊢
    go_enter Tryz.func41, Tryz.ntmps41
    go_wp2_with fail
    refine hst.mono ?_
    rintro e w3 ⟨rfl, hb3⟩
    have hu3 := Ups.trans hu2 hb3
    have hk03 := block_ups hk0 hb3
    have hzz3 := block_ups hk1 hb3
    have hz3 : w.heap.size + 1 < w3.heap.size := Nat.lt_of_lt_of_le hz2 hb3.size
    have hcells := fun W (hU : Ups (World.drew w3) W) => block_cells (block_ups hk03 (drew_ups hU))
    clear hT hI hst hk0 hk1 hk03
    go_wp2_with fail
    refine wp_region_parts (N := 11) (n := 28) (ks := [isV (.agg #[.slice (some ⟨b, off, none⟩) f.pages.length c, .slice a' f.wear.length c', .int .i64 f.fuse, .string f.torn, .bool f.dead]), isV (.int .i64 n), isV (.int .i64 k), isV (.string (onesT k)), isV (.string s), isV (.string (onesT k ++ s)), isV (.agg #[.string (onesT k ++ s)]), isV (.iface 73 (.agg #[.string (onesT k ++ s)])), fun v W' => ∃ v', v = .tuple #[v', .int .i64 e1] ∧ FlAt W' v' g ∧ ∀ B, B ≤ w.heap.size + 1 → FlOff B (.agg #[.slice (some ⟨b, off, none⟩) f.pages.length c, .slice a' f.wear.length c', .int .i64 f.fuse, .string f.torn, .bool f.dead]) → FlOff B v', fun v' W' => FlAt W' v' g ∧ ∀ B, B ≤ w.heap.size + 1 → FlOff B (.agg #[.slice (some ⟨b, off, none⟩) f.pages.length c, .slice a' f.wear.length c', .int .i64 f.fuse, .string f.torn, .bool f.dead]) → FlOff B v', isV (.int .i64 e1)]) (by decide +kernel) (by decide +kernel) (by decide +kernel) (by simp) rfl (by decide +kernel) ⟨steady_is _, steady_is _, steady_is _, steady_is _, steady_is _, steady_is _, steady_is _, steady_is _, fun _ _ _ ⟨v', e, h1, h2⟩ hu => ⟨v', e, h1.ups hu, h2⟩, fun _ _ _ h hu => ⟨h.1.ups hu, h.2⟩, steady_is _, trivial⟩ ?_ ?_
    · refine And.intro (fun ac W hO hU H => ?_) ?_
      · have h4 : ac.tmps[4]? = some (.pointer (some ⟨w.heap.size, 0, none⟩)) := (hO 4 rfl).trans rfl
        obtain ⟨k0, k1, k2, k3, k4⟩ := hcells W hU
        exact growOp_plain rfl (parts_value (by simp [go_sem, h4, k0, k1, k2, k3, k4]))
      refine And.intro (fun ac W hO hU H => ?_) ?_
      · have h1 : ac.tmps[1]? = some (.int .i64 n) := (hO 1 rfl).trans rfl
        exact growOp_plain rfl (parts_value (by simp [go_sem, h1]))
      refine And.intro (fun ac W hO hU H => ?_) ?_
      · have h2 : ac.tmps[2]? = some (.int .i64 k) := (hO 2 rfl).trans rfl
        exact growOp_plain rfl (parts_value (by simp [go_sem, h2]))
      refine And.intro (fun ac W hO hU H => ?_) ?_
      · have h19 : ac.tmps[19]? = some (.int .i64 k) := isV_get (W := W) (H 2 19 rfl)
        exact growOp_plain rfl (parts_call_is (args := #[.int .i64 k]) (by simp [go_sem, h19]) (oones_t k W (by omega)))
      refine And.intro (fun ac W hO hU H => ?_) ?_
      · have h3 : ac.tmps[3]? = some (.string s) := (hO 3 rfl).trans rfl
        exact growOp_plain rfl (parts_value (by simp [go_sem, h3]))
      refine And.intro (fun ac W hO hU H => ?_) ?_
      · have h20 : ac.tmps[20]? = some (.string (onesT k)) := isV_get (W := W) (H 3 20 rfl)
        have h21 : ac.tmps[21]? = some (.string s) := isV_get (W := W) (H 4 21 rfl)
        exact growOp_plain rfl (parts_value (by simp [go_sem, h20, h21]; try omega))
      refine And.intro (fun ac W hO hU H => ?_) ?_
      · have h22 : ac.tmps[22]? = some (.string (onesT k ++ s)) := isV_get (W := W) (H 5 22 rfl)
        exact growOp_plain rfl (parts_value (by simp [go_sem, h22]))
      refine And.intro (fun ac W hO hU H => ?_) ?_
      · have h23 : ac.tmps[23]? = some (.agg #[.string (onesT k ++ s)]) := isV_get (W := W) (H 6 23 rfl)
        exact growOp_plain rfl (parts_value (by simp [go_sem, h23]))
      refine And.intro (fun ac W hO hU H => ?_) ?_
      · have h17 : ac.tmps[17]? = some (.agg #[.slice (some ⟨b, off, none⟩) f.pages.length c, .slice a' f.wear.length c', .int .i64 f.fuse, .string f.torn, .bool f.dead]) := isV_get (W := W) (H 0 17 rfl)
        have h18 : ac.tmps[18]? = some (.int .i64 n) := isV_get (W := W) (H 1 18 rfl)
        have h24 : ac.tmps[24]? = some (.iface 73 (.agg #[.string (onesT k ++ s)])) := isV_get (W := W) (H 7 24 rfl)
        refine growOp_plain rfl (parts_call (f := 47) (args := #[.agg #[.slice (some ⟨b, off, none⟩) f.pages.length c, .slice a' f.wear.length c', .int .i64 f.fuse, .string f.torn, .bool f.dead], .int .i64 n, .iface 73 (.agg #[.string (onesT k ++ s)])]) (by simp [go_sem, h17, h18, h24]) ?_)
        refine (hdo W (Ups.trans hu3 (drew_ups hU))).mono ?_
        rintro e W' ⟨v', rfl, hn⟩
        exact ⟨_, rfl, ⟨v', rfl, hn.reads, fun B hB ho => hn.off B (Nat.lt_of_le_of_lt hB (Nat.lt_of_lt_of_le hz3 (drew_ups hU).size)) ho⟩, hn.ups⟩
      refine And.intro (fun ac W hO hU H => ?_) ?_
      · obtain ⟨v25, h25, q25⟩ := H 8 25 rfl
        obtain ⟨v', rfl, hv⟩ := q25
        exact growOp_plain rfl (growUpon_value (by simp [go_sem, h25]) hv)
      refine And.intro (fun ac W hO hU H => ?_) ?_
      · obtain ⟨v25, h25, q25⟩ := H 8 25 rfl
        obtain ⟨v', rfl, hv⟩ := q25
        exact growOp_plain rfl (parts_value (by simp [go_sem, h25]))
      exact trivial
    · intro W xs hU hks
      obtain ⟨y0, rfl, g0⟩ := holdAll_is hks
      obtain ⟨y1, rfl, g1⟩ := holdAll_is g0
      obtain ⟨y2, rfl, g2⟩ := holdAll_is g1
      obtain ⟨y3, rfl, g3⟩ := holdAll_is g2
      obtain ⟨y4, rfl, g4⟩ := holdAll_is g3
      obtain ⟨y5, rfl, g5⟩ := holdAll_is g4
      obtain ⟨y6, rfl, g6⟩ := holdAll_is g5
      obtain ⟨y7, rfl, g7⟩ := holdAll_is g6
      obtain ⟨v8, y8, rfl, q8, g8⟩ := holdAll_cons g7
      obtain ⟨v9, y9, rfl, q9, g9⟩ := holdAll_cons g8
      obtain ⟨y10, rfl, g10⟩ := holdAll_is g9
      obtain rfl := holdAll_nil g10
      clear hks g0 g1 g2 g3 g4 g5 g6 g7 g8 g9 g10
      simp only [List.take_succ_cons, List.take_zero, List.drop_succ_cons, List.drop_zero, endTmps, List.setIfInBounds_toArray, List.set]
      have hzz := block_ups hzz3 (drew_ups hU)
      obtain ⟨d0, d1, d2, d3, d4⟩ := block_cells hzz
      have y0 := block_frozen hzz 0
      have y1 := block_frozen hzz 1
      have y2 := block_frozen hzz 2
      have y3 := block_frozen hzz 3
      have y4 := block_frozen hzz 4
      have huW := Ups.trans hu3 (drew_ups hU)
      obtain ⟨hread, hoff⟩ := q9
      have HB := Lib.hid hread
      have HO := Lib.hid hoff
      obtain ⟨_, _, rfl, ⟨ap, cp, rfl, _⟩, ⟨aq, cq, rfl, _⟩⟩ := hread
      clear hoff hzz hall hcells hdo hzz3
      go_wp2_with fail
      refine bodyPost_ret (v := .tuple #[.agg #[.slice ap g.pages.length cp, .slice aq g.wear.length cq, .int .i64 g.fuse, .string g.torn, .bool g.dead], .int .i64 e1]) ?_ rfl ⟨_, rfl, ?_⟩
      · simp [results, Tryz.results41, go_sem, d0, d1, d2, d3, d4]
      · exact fl_stored huW (Nat.le_succ _) HB.out (HO.out _ (Nat.le_refl _) (FlOff.mk hrP hrQ)) (fun B hB ho => HO.out B (by omega) ho) (by simp)

/-- What flash.Wake does. -/
def wakeF (f : Fl) (fuse : Int) (torn : ByteArray) : Fl × Int :=
  if checkB f && decide (torn.size ≤ 64) then ({ f with dead := false, fuse := fuse, torn := torn }, 0) else (f, 1)

set_option maxRecDepth 100000 in
set_option maxHeartbeats 2000000 in
theorem wake_calls (f : Fl) (v : Value) (fuse : Int) (torn : ByteArray) (w : World) (h : FlAt w v f) (hf : FlFit f) :
    Calls Tryz.prog 24 #[v, .int .i64 fuse, .string torn] w fun e W' => ∃ v', e = .returned (.tuple #[v', .int .i64 (wakeF f fuse torn).2]) ∧ FlNew w v W' v' (wakeF f fuse torn).1 := by
  have hall := h
  obtain ⟨p, q, rfl, hT, hI⟩ := h
  have hrP : RowOff (w.heap.size + 1) p := hT.off (Nat.le_succ _)
  have hrQ : RowOff (w.heap.size + 1) q := hI.off (Nat.le_succ _)
  have hT0 := hT
  have hI0 := hI
  obtain ⟨a, c, rfl, hp⟩ := hT0
  obtain ⟨a', c', rfl, _⟩ := hI0
  have hu2 : Ups w ((w.alloc (.cells #[.slice a f.pages.length c, .slice a' f.wear.length c', .int .i64 f.fuse, .string f.torn, .bool f.dead] 31)).alloc (.cells #[.slice none 0 0, .slice none 0 0, .int .i64 0, .string { data := #[] }, .bool false] 31)) := ((Own.start w).alloc (.cells #[.slice a f.pages.length c, .slice a' f.wear.length c', .int .i64 f.fuse, .string f.torn, .bool f.dead] 31) |>.alloc (.cells #[.slice none 0 0, .slice none 0 0, .int .i64 0, .string { data := #[] }, .bool false] 31)).bel
  have hk0 : ((w.alloc (.cells #[.slice a f.pages.length c, .slice a' f.wear.length c', .int .i64 f.fuse, .string f.torn, .bool f.dead] 31)).alloc (.cells #[.slice none 0 0, .slice none 0 0, .int .i64 0, .string { data := #[] }, .bool false] 31)).heap[w.heap.size]? = some (.cells #[.slice a f.pages.length c, .slice a' f.wear.length c', .int .i64 f.fuse, .string f.torn, .bool f.dead] 31) := ((Own.start w).alloc (.cells #[.slice a f.pages.length c, .slice a' f.wear.length c', .int .i64 f.fuse, .string f.torn, .bool f.dead] 31) |>.alloc (.cells #[.slice none 0 0, .slice none 0 0, .int .i64 0, .string { data := #[] }, .bool false] 31)).at w.heap.size 0 rfl rfl
  have hk1 : ((w.alloc (.cells #[.slice a f.pages.length c, .slice a' f.wear.length c', .int .i64 f.fuse, .string f.torn, .bool f.dead] 31)).alloc (.cells #[.slice none 0 0, .slice none 0 0, .int .i64 0, .string { data := #[] }, .bool false] 31)).heap[w.heap.size + 1]? = some (.cells #[.slice none 0 0, .slice none 0 0, .int .i64 0, .string { data := #[] }, .bool false] 31) := ((Own.start w).alloc (.cells #[.slice a f.pages.length c, .slice a' f.wear.length c', .int .i64 f.fuse, .string f.torn, .bool f.dead] 31) |>.alloc (.cells #[.slice none 0 0, .slice none 0 0, .int .i64 0, .string { data := #[] }, .bool false] 31)).at (w.heap.size + 1) 1 rfl rfl
  have hz2 : w.heap.size + 1 < ((w.alloc (.cells #[.slice a f.pages.length c, .slice a' f.wear.length c', .int .i64 f.fuse, .string f.torn, .bool f.dead] 31)).alloc (.cells #[.slice none 0 0, .slice none 0 0, .int .i64 0, .string { data := #[] }, .bool false] 31)).heap.size := (Array.getElem?_eq_some_iff.1 hk1).1
  have hch := check_calls f _ _ (hall.ups hu2) hf.1 hf.2.1
  cases hb : checkB f with
  | false =>
    have he : wakeF f fuse torn = (f, 1) := by simp [wakeF, hb]
    rw [he]
    rw [hb] at hch
    clear he hb
    go_enter Tryz.func24, Tryz.ntmps24
    go_wp2_with fail
    refine hch.mono ?_
    rintro e w3 ⟨rfl, hb3⟩
    obtain ⟨k0, k1, k2, k3, k4⟩ := block_cells (block_ups hk0 hb3)
    have hzz := block_ups hk1 hb3
    obtain ⟨d0, d1, d2, d3, d4⟩ := block_cells hzz
    have y0 := block_frozen hzz 0
    have y1 := block_frozen hzz 1
    have y2 := block_frozen hzz 2
    have y3 := block_frozen hzz 3
    have y4 := block_frozen hzz 4
    have hu3 := Ups.trans hu2 hb3
    have HA := Lib.hid hall
    clear hall hT hI hch hk0 hk1 hzz hf
    go_wp2_with fail
    refine bodyPost_ret (v := .tuple #[.agg #[.slice a f.pages.length c, .slice a' f.wear.length c', .int .i64 f.fuse, .string f.torn, .bool f.dead], .int .i64 1]) ?_ rfl ⟨_, rfl, ?_⟩
    · simp [results, Tryz.results24, go_sem, d0, d1, d2, d3, d4]
    · exact fl_stored hu3 (Nat.le_succ _) (HA.out.ups hu3) (FlOff.mk hrP hrQ) (fun B hB ho => ho) rfl
  | true =>
    rw [hb] at hch
    by_cases ht : torn.size ≤ 64
    · have he : wakeF f fuse torn = ({ f with dead := false, fuse := fuse, torn := torn }, 0) := by simp [wakeF, hb, ht]
      rw [he]
      have ht' : ¬ (64 : Int) < torn.size := by omega
      clear he hb ht
      go_enter Tryz.func24, Tryz.ntmps24
      go_wp2_with fail
      refine hch.mono ?_
      rintro e w3 ⟨rfl, hb3⟩
      have hk3 := block_ups hk0 hb3
      obtain ⟨k0, k1, k2, k3, k4⟩ := block_cells hk3
      have x2 := block_frozen hk3 2
      have x3 := block_frozen hk3 3
      have x4 := block_frozen hk3 4
      have hzz := block_ups hk1 hb3
      obtain ⟨d0, d1, d2, d3, d4⟩ := block_cells hzz
      have y0 := block_frozen hzz 0
      have y1 := block_frozen hzz 1
      have y2 := block_frozen hzz 2
      have y3 := block_frozen hzz 3
      have y4 := block_frozen hzz 4
      have hu3 := Ups.trans hu2 hb3
      have HA := Lib.hid hall
      have hb1 : But w.heap.size w3 (((w3.setCell ⟨w.heap.size, 4, none⟩ (.bool false)).setCell ⟨w.heap.size, 2, none⟩ (.int .i64 fuse)).setCell ⟨w.heap.size, 3, none⟩ (.string torn)) := (((But.refl _ _).set 4 _).set 2 _).set 3 _
      have HT := Lib.hid ((hT.ups hu3).but hb1 (hT.off (Nat.le_refl _)))
      have HI := Lib.hid ((hI.ups hu3).but hb1 (hI.off (Nat.le_refl _)))
      clear hall hT hI hch hk0 hk1 hzz hf hk3
      go_wp2_with fail
      refine bodyPost_ret (v := .tuple #[.agg #[.slice a f.pages.length c, .slice a' f.wear.length c', .int .i64 fuse, .string torn, .bool false], .int .i64 0]) ?_ rfl ⟨_, rfl, ?_⟩
      · simp [results, Tryz.results24, go_sem, d0, d1, d2, d3, d4]
      · exact fl_stored (hb1.below hu3 (Nat.le_refl _)) (Nat.le_succ _) ⟨_, _, rfl, HT.out, HI.out⟩ (FlOff.mk hrP hrQ) (fun B hB ho => FlOff.mk ho.fst ho.snd) rfl
    · have he : wakeF f fuse torn = (f, 1) := by simp [wakeF, hb, ht]
      rw [he]
      have ht' : (64 : Int) < torn.size := by omega
      clear he hb ht
      go_enter Tryz.func24, Tryz.ntmps24
      go_wp2_with fail
      refine hch.mono ?_
      rintro e w3 ⟨rfl, hb3⟩
      obtain ⟨k0, k1, k2, k3, k4⟩ := block_cells (block_ups hk0 hb3)
      have hzz := block_ups hk1 hb3
      obtain ⟨d0, d1, d2, d3, d4⟩ := block_cells hzz
      have y0 := block_frozen hzz 0
      have y1 := block_frozen hzz 1
      have y2 := block_frozen hzz 2
      have y3 := block_frozen hzz 3
      have y4 := block_frozen hzz 4
      have hu3 := Ups.trans hu2 hb3
      have HA := Lib.hid hall
      clear hall hT hI hch hk0 hk1 hzz hf
      go_wp2_with fail
      refine bodyPost_ret (v := .tuple #[.agg #[.slice a f.pages.length c, .slice a' f.wear.length c', .int .i64 f.fuse, .string f.torn, .bool f.dead], .int .i64 1]) ?_ rfl ⟨_, rfl, ?_⟩
      · simp [results, Tryz.results24, go_sem, d0, d1, d2, d3, d4]
      · exact fl_stored hu3 (Nat.le_succ _) (HA.out.ups hu3) (FlOff.mk hrP hrQ) (fun B hB ho => ho) rfl

/-- What flash.Rot does. -/
def rotF (f : Fl) (page at_ : Int) (turn : ByteArray) : Fl × Int :=
  if standsB f page at_ turn.size && decide (turn.size ≤ 4) then ({ f with pages := f.pages.set page.toNat (xorT (oldT f page.toNat) (zerosT at_.toNat ++ turn)) }, 0) else (f, 1)

/-- What flash.Free says. -/
def freeB (f : Fl) (page : Int) : Bool := hasB f page && decide (count (oldT f page.toNat).data.toList = 8 * (oldT f page.toNat).size)

end Go.Proofs.YtmabpnkdagipfaaGreat
