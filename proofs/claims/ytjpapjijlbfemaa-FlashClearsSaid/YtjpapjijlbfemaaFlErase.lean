/- What flash.Erase comes to. -/
import Derived.Test.YtjpapjijlbfemaaFlDo
namespace Go.Proofs.Ytjpapjijlbfemaa
open Go.RowKit

def oldT (f : Fl) (page : Nat) : ByteArray := f.pages.getD page ByteArray.empty
def maskOf (f : Fl) : ByteArray := maskT f.torn (oldT f 0).size
/-- What flash.Erase does. -/
def eraseF (f : Fl) (page : Int) : Fl × Int :=
  if hasB f page then
    let r := stepF f page.toNat (onesT (oldT f page.toNat).size) (orT (oldT f page.toNat) (maskOf f))
    if r.2 = 0 then ({ r.1 with wear := r.1.wear.set page.toNat (min (r.1.wear.getD page.toNat 0 + 1) 2147483647) }, 0) else r
  else (f, 1)

theorem check_facts {f : Fl} (h : checkB f = true) : 1 ≤ f.pages.length ∧ f.pages.length ≤ 6 ∧ f.wear.length = f.pages.length ∧ f.torn.size ≤ 64 ∧ (∀ z ∈ f.wear, 0 ≤ z ∧ z ≤ 2147483647) ∧ ∀ s ∈ f.pages, 1 ≤ s.size ∧ s.size ≤ 8192 ∧ s.size = (oldT f 0).size := by
  unfold checkB at h
  simp only [Bool.and_eq_true, decide_eq_true_eq, Bool.not_eq_true', List.all_eq_true] at h
  obtain ⟨⟨⟨⟨⟨h1, h2⟩, h3⟩, h4⟩, h5⟩, h6⟩ := h
  refine ⟨h1, h2, h3, h4, h5, fun s hs => ?_⟩
  have := List.any_eq_false.1 h6 s hs
  unfold oddB at this
  simp only [Bool.or_eq_true, decide_eq_true_eq, not_or] at this
  unfold oldT
  omega
theorem has_facts {f : Fl} {page : Int} (h : hasB f page = true) : checkB f = true ∧ ∃ n : Nat, page = n ∧ n < f.pages.length := by
  unfold hasB at h
  simp only [Bool.and_eq_true, decide_eq_true_eq] at h
  exact ⟨h.1.1, page.toNat, by omega, by omega⟩
theorem oldT_mem {f : Fl} {n : Nat} (h : n < f.pages.length) : oldT f n ∈ f.pages := by
  unfold oldT
  rw [List.getD_eq_getElem?_getD, List.getElem?_eq_getElem h]
  exact List.getElem_mem h
theorem old_size {f : Fl} (hc : checkB f = true) {n : Nat} (h : n < f.pages.length) : 1 ≤ (oldT f n).size ∧ (oldT f n).size ≤ 8192 ∧ (oldT f n).size = (oldT f 0).size := (check_facts hc).2.2.2.2.2 _ (oldT_mem h)

/-- A world's numbers are int's. -/
def FlFit (f : Fl) : Prop := f.pages.length ≤ 9223372036854775807 ∧ f.wear.length ≤ 9223372036854775807 ∧ -9223372036854775808 ≤ f.fuse ∧ f.fuse ≤ 9223372036854775807

theorem fl_stored' {w W : World} {v v' p q x y z : Value} {f' : Fl} {B : Nat} (hu : Ups w W) (hB : w.heap.size ≤ B) (h : FlAt W v' f') (ho : FlOff B v') (hoff : ∀ B', B' < w.heap.size → FlOff B' v → FlOff B' v') (_hv : v' = .agg #[p, q, x, y, z]) (o : Obj) :
    FlNew w v ((put5 W B p q x y z).alloc o) v' f' := by
  have hu' := (put5_but W B p q x y z).below hu hB
  exact ⟨(h.but (put5_but W B p q x y z) ho).ups ((Below.refl _ _).alloc (Nat.le_refl _) _), Below.alloc hu' hu'.size o, hoff⟩
theorem ints_set {W : World} {g n c : Nat} {l : List Int} (hn : n < l.length) (h : ∀ j, j < l.length → W.cell? ⟨g, j, none⟩ = some (.int .i64 (l.getD j 0))) (u : Int) :
    IntsAt (W.setCell ⟨g, n, none⟩ (.int .i64 u)) (.slice (some ⟨g, 0, none⟩) l.length c) (l.set n u) := by
  refine ⟨_, c, by rw [List.length_set], fun _ => ⟨g, 0, rfl, fun j hj => ?_⟩⟩
  rw [List.length_set] at hj
  rw [Nat.zero_add]
  by_cases hjn : j = n
  · subst hjn
    rw [World.cell?_setCell_same _ _ _ (h j hj)]
    simp [hj]
  · rw [World.cell?_setCell_other _ _ _ _ (fun e => hjn (by have := congrArg Addr.off e; exact this.symm)), h j hj]
    have : ¬ n = j := fun e => hjn e.symm
    simp [List.getD_eq_getElem?_getD, this]

set_option maxRecDepth 100000 in
set_option maxHeartbeats 2000000 in
theorem erase_calls (f : Fl) (v : Value) (page : Int) (w : World) (h : FlAt w v f) (hf : FlFit f) :
    Calls Try.prog 11 #[v, .int .i64 page] w fun e W' => ∃ v', e = .returned (.tuple #[v', .int .i64 (eraseF f page).2]) ∧ FlNew w v W' v' (eraseF f page).1 := by
  have hall := h
  obtain ⟨p, q, rfl, hT, hI⟩ := h
  have hrP : RowOff (w.heap.size + 1) p := hT.off (Nat.le_succ _)
  have hrQ : RowOff (w.heap.size + 1) q := hI.off (Nat.le_succ _)
  have hT0 := hT
  have hI0 := hI
  obtain ⟨a, c, rfl, _⟩ := hT0
  obtain ⟨a', c', rfl, _⟩ := hI0
  have hu2 : Ups w ((w.alloc (.cells #[.slice a f.pages.length c, .slice a' f.wear.length c', .int .i64 f.fuse, .string f.torn, .bool f.dead] 25)).alloc (.cells #[.slice none 0 0, .slice none 0 0, .int .i64 0, .string { data := #[] }, .bool false] 25)) := ((Own.start w).alloc (.cells #[.slice a f.pages.length c, .slice a' f.wear.length c', .int .i64 f.fuse, .string f.torn, .bool f.dead] 25) |>.alloc (.cells #[.slice none 0 0, .slice none 0 0, .int .i64 0, .string { data := #[] }, .bool false] 25)).bel
  have hk0 : ((w.alloc (.cells #[.slice a f.pages.length c, .slice a' f.wear.length c', .int .i64 f.fuse, .string f.torn, .bool f.dead] 25)).alloc (.cells #[.slice none 0 0, .slice none 0 0, .int .i64 0, .string { data := #[] }, .bool false] 25)).heap[w.heap.size]? = some (.cells #[.slice a f.pages.length c, .slice a' f.wear.length c', .int .i64 f.fuse, .string f.torn, .bool f.dead] 25) := ((Own.start w).alloc (.cells #[.slice a f.pages.length c, .slice a' f.wear.length c', .int .i64 f.fuse, .string f.torn, .bool f.dead] 25) |>.alloc (.cells #[.slice none 0 0, .slice none 0 0, .int .i64 0, .string { data := #[] }, .bool false] 25)).at w.heap.size 0 rfl rfl
  have hk1 : ((w.alloc (.cells #[.slice a f.pages.length c, .slice a' f.wear.length c', .int .i64 f.fuse, .string f.torn, .bool f.dead] 25)).alloc (.cells #[.slice none 0 0, .slice none 0 0, .int .i64 0, .string { data := #[] }, .bool false] 25)).heap[w.heap.size + 1]? = some (.cells #[.slice none 0 0, .slice none 0 0, .int .i64 0, .string { data := #[] }, .bool false] 25) := ((Own.start w).alloc (.cells #[.slice a f.pages.length c, .slice a' f.wear.length c', .int .i64 f.fuse, .string f.torn, .bool f.dead] 25) |>.alloc (.cells #[.slice none 0 0, .slice none 0 0, .int .i64 0, .string { data := #[] }, .bool false] 25)).at (w.heap.size + 1) 1 rfl rfl
  have hz2 : w.heap.size + 1 < ((w.alloc (.cells #[.slice a f.pages.length c, .slice a' f.wear.length c', .int .i64 f.fuse, .string f.torn, .bool f.dead] 25)).alloc (.cells #[.slice none 0 0, .slice none 0 0, .int .i64 0, .string { data := #[] }, .bool false] 25)).heap.size := (Array.getElem?_eq_some_iff.1 hk1).1
  have hhas := has_calls f _ page _ (hall.ups hu2) hf.1 hf.2.1
  cases hb : hasB f page with
  | false =>
    have he : eraseF f page = (f, 1) := by simp [eraseF, hb]
    rw [he]
    rw [hb] at hhas
    clear he hb
    go_enter Try.func11, Try.ntmps11
    go_wp2_with fail
    refine hhas.mono ?_
    rintro e w3 ⟨rfl, hb3⟩
    obtain ⟨k0, k1, k2, k3, k4⟩ := block_cells (block_ups hk0 hb3)
    have hzz := block_ups hk1 hb3
    obtain ⟨d0, d1, d2, d3, d4⟩ := block_cells hzz
    have y0 := block_frozen hzz 0
    have y1 := block_frozen hzz 1
    have y2 := block_frozen hzz 2
    have y3 := block_frozen hzz 3
    have y4 := block_frozen hzz 4
    have hu3 := Ups.trans hu2 hb3
    have HA := Lib.hid hall
    clear hall hT hI hhas hk0 hk1 hzz hf
    go_wp2_with fail
    refine bodyPost_ret (v := .tuple #[.agg #[.slice a f.pages.length c, .slice a' f.wear.length c', .int .i64 f.fuse, .string f.torn, .bool f.dead], .int .i64 1]) ?_ rfl ⟨_, rfl, ?_⟩
    · simp [results, Try.results11, go_sem, d0, d1, d2, d3, d4]
    · exact fl_stored hu3 (Nat.le_succ _) (HA.out.ups hu3) (FlOff.mk hrP hrQ) (fun B hB ho => ho) rfl
  | true =>
    rw [hb] at hhas
    obtain ⟨hck, n, rfl, hn⟩ := has_facts hb
    obtain ⟨c1, c2, c3, c4, c5, c6⟩ := check_facts hck
    have s0 := old_size hck (n := 0) (by omega)
    have sn := old_size hck hn
    have hst := step_erase (oldT f n) (maskOf f) (by omega) (by rw [maskOf, maskT_size]; omega)
    have hdo := fun W (hu : Ups w W) => fdo_calls f _ n W (hall.ups hu) hn (by omega) (oldT f n) (oldT f 0) (maskOf f) _ _ _ _ rfl rfl (by omega) c4 rfl hst hf.2.2.1 hf.2.2.2
    have he : eraseF f (n : Int) = (let r := stepF f n (onesT (oldT f n).size) (orT (oldT f n) (maskOf f)); if r.2 = 0 then ({ r.1 with wear := r.1.wear.set n (min (r.1.wear.getD n 0 + 1) 2147483647) }, 0) else r) := by simp [eraseF, hb]
    have hrw : (stepF f n (onesT (oldT f n).size) (orT (oldT f n) (maskOf f))).1.wear = f.wear ∧ ((stepF f n (onesT (oldT f n).size) (orT (oldT f n) (maskOf f))).2 = 0 ∨ (stepF f n (onesT (oldT f n).size) (orT (oldT f n) (maskOf f))).2 = 8) := by
      unfold stepF
      split
      · exact ⟨rfl, .inr rfl⟩
      · split
        · exact ⟨rfl, .inr rfl⟩
        · exact ⟨rfl, .inl rfl⟩
    generalize stepF f n (onesT (oldT f n).size) (orT (oldT f n) (maskOf f)) = r at *
    obtain ⟨⟨pages1, wear1, fuse1, torn1, dead1⟩, e1⟩ := r
    simp only at hrw he hdo
    obtain ⟨rfl, hrw⟩ := hrw
    rw [he]
    clear he hst s0 sn hb
    have hwold : 0 ≤ f.wear.getD n 0 ∧ f.wear.getD n 0 ≤ 2147483647 := c5 _ (by rw [List.getD_eq_getElem?_getD, List.getElem?_eq_getElem (by omega)]; exact List.getElem_mem _)
    have hwn : n < f.wear.length := by omega
    have hw6 : f.wear.length ≤ 6 := by omega
    have C3 := Lib.hid c3
    clear c3 c5 c6
    rcases hrw with rfl | rfl
    · rw [if_pos rfl]
      go_enter Try.func11, Try.ntmps11
      go_wp2_with fail
      refine hhas.mono ?_
      rintro e w3 ⟨rfl, hb3⟩
      have hu3 := Ups.trans hu2 hb3
      obtain ⟨k0, k1, k2, k3, k4⟩ := block_cells (block_ups hk0 hb3)
      have hzz3 := block_ups hk1 hb3
      have hd3 := hdo w3 hu3
      have hz3 : w.heap.size + 1 < w3.heap.size := Nat.lt_of_lt_of_le hz2 hb3.size
      have HA := Lib.hid hall
      clear hall hT hI hhas hk0 hk1 hf hdo
      go_wp2_with fail
      refine hd3.mono ?_
      rintro e w4 ⟨v4, rfl, hn4⟩
      have hz4 : w.heap.size + 1 < w4.heap.size := Nat.lt_of_lt_of_le hz3 hn4.ups.size
      have hr4 := hn4.reads
      have ho4 := hn4.off
      have hu4 := Ups.trans hu3 hn4.ups
      have hzz := block_ups hzz3 hn4.ups
      have hcl := hr4
      have HR := Lib.hid hr4
      have HO := Lib.hid ho4
      obtain ⟨_, _, rfl, hTp, hIq⟩ := hr4
      have hTp0 := hTp
      obtain ⟨ap, cp, rfl, _⟩ := hTp0
      have hIq0 := hIq
      obtain ⟨aq, cq, rfl, hqc⟩ := hIq0
      obtain ⟨bq, oq, rfl, hqd⟩ := hqc (by simp only; omega)
      have hu6 : Ups w4 (w4.alloc (.cells #[.slice ap pages1.length cp, .slice (some ⟨bq, oq, none⟩) f.wear.length cq, .int .i64 fuse1, .string torn1, .bool dead1] 25)) := (Below.refl _ _).alloc (Nat.le_refl _) _
      have hb6 : (w4.alloc (.cells #[.slice ap pages1.length cp, .slice (some ⟨bq, oq, none⟩) f.wear.length cq, .int .i64 fuse1, .string torn1, .bool dead1] 25)).heap[w4.heap.size]? = some (.cells #[.slice ap pages1.length cp, .slice (some ⟨bq, oq, none⟩) f.wear.length cq, .int .i64 fuse1, .string torn1, .bool dead1] 25) := by
        show (w4.heap.push _)[w4.heap.size]? = _
        simp
      have hclone := Try.slices_Clone_int bq oq f.wear.length cq f.wear (w4.alloc (.cells #[.slice ap pages1.length cp, .slice (some ⟨bq, oq, none⟩) f.wear.length cq, .int .i64 fuse1, .string torn1, .bool dead1] 25)) (Nat.le_refl _) (by omega) (fun j hj => cell_ups hu6 (hqd j hj))
      have hzB := block_ups hzz hu6
      clear hcl hqd hqc hn4 ho4 hd3 hzz hzz3 k0 k1 k2 k3 k4 hTp hIq
      go_wp2_with fail
      refine hclone.mono ?_
      rintro e w5 ⟨v5, rfl, hown, _, hbel⟩
      rw [List.take_length] at hown
      obtain ⟨gw, cw, cur, rfl, hgw, hgcur, hcur⟩ := own_cells hown (by omega)
      have hgw1 : w4.heap.size + 1 ≤ gw := by simpa using hgw
      have hb65 := block_ups hb6 hbel
      have hzB5 := block_ups hzB hbel
      have hz5 : w4.heap.size < w5.heap.size := (Array.getElem?_eq_some_iff.1 hb65).1
      obtain ⟨j0, j1, j2, j3, j4⟩ := block_cells hb65
      have x1 := block_frozen hb65 1
      have hub : Ups w w5 := Ups.trans hu4 (Ups.trans hu6 hbel)
      have hbut : But w4.heap.size w5 (w5.setCell ⟨w4.heap.size, 1, none⟩ (.slice (some ⟨gw, 0, none⟩) f.wear.length cw)) := (But.refl _ _).set 1 _
      have hb66 : ((w5.setCell ⟨w4.heap.size, 1, none⟩ (.slice (some ⟨gw, 0, none⟩) f.wear.length cw))).heap[w4.heap.size]? = some (.cells #[.slice ap pages1.length cp, .slice (some ⟨gw, 0, none⟩) f.wear.length cw, .int .i64 fuse1, .string torn1, .bool dead1] 25) := setCell_block hb65
      have hzB6 := (hbut.block (w.heap.size + 1) (by omega)).trans hzB5
      have hg6 := (hbut.block gw (by omega)).trans hgcur
      have hu66 : Ups w (w5.setCell ⟨w4.heap.size, 1, none⟩ (.slice (some ⟨gw, 0, none⟩) f.wear.length cw)) := hbut.below hub (by omega)
      have hrd6 : FlAt (w5.setCell ⟨w4.heap.size, 1, none⟩ (.slice (some ⟨gw, 0, none⟩) f.wear.length cw)) (.agg #[.slice ap pages1.length cp, .slice (some ⟨bq, oq, none⟩) f.wear.length cq, .int .i64 fuse1, .string torn1, .bool dead1]) ⟨pages1, f.wear, fuse1, torn1, dead1⟩ := (HR.out.ups (Ups.trans hu6 hbel)).but hbut (HR.out.off (Nat.le_refl _))
      have hcl0 : ∀ W, Ups (World.drew (w5.setCell ⟨w4.heap.size, 1, none⟩ (.slice (some ⟨gw, 0, none⟩) f.wear.length cw))) W → ∀ j, j < f.wear.length → W.cell? ⟨gw, j, none⟩ = some (.int .i64 (f.wear.getD j 0)) := by
        intro W hU j hj
        have hgW := block_ups hg6 (drew_ups hU)
        rw [cell_of hgW, hcur j hj]
        simp [hj]
      have hk1 := fun W (hU : Ups (World.drew (w5.setCell ⟨w4.heap.size, 1, none⟩ (.slice (some ⟨gw, 0, none⟩) f.wear.length cw))) W) => (block_cells (block_ups hb66 (drew_ups hU))).2.1
      have hold := fun W (hU : Ups (World.drew (w5.setCell ⟨w4.heap.size, 1, none⟩ (.slice (some ⟨gw, 0, none⟩) f.wear.length cw))) W) => hcl0 W hU n hwn
      have hipw : (n : Int) < f.wear.length := by omega
      generalize hgen : f.wear.getD n 0 = old at *
      have HG := Lib.hid hgen
      clear hgen
      have hwr : IntKind.i64.wrap (old + 1) = old + 1 := (IntWalk.i64_left _).trans (IntWalk.wrap64_in _ ⟨by omega, by omega⟩)
      clear hclone hown hgw hcur hgcur hb6 hzB hb65 hzB5
      go_wp2_with fail
      refine wp_region_parts (N := 11) (n := 40) (ks := [isV (.pointer (some ⟨w4.heap.size, 1, none⟩)), isV (.slice (some ⟨gw, 0, none⟩) f.wear.length cw), isV (.int .i64 n), isV (.pointer (some ⟨w4.heap.size, 1, none⟩)), isV (.slice (some ⟨gw, 0, none⟩) f.wear.length cw), isV (.int .i64 n), isV (.pointer (some ⟨gw, n, none⟩)), isV (.int .i64 old), isV (.int .i64 (old + 1)), isV (.int .i64 (min (old + 1) 2147483647)), isV (.pointer (some ⟨gw, n, none⟩))]) (by decide +kernel) (by decide +kernel) (by decide +kernel) (by simp) rfl (by decide +kernel) ⟨steady_is _, steady_is _, steady_is _, steady_is _, steady_is _, steady_is _, steady_is _, steady_is _, steady_is _, steady_is _, steady_is _, trivial⟩ ?_ ?_
      · refine And.intro (fun ac W hO hU H => ?_) ?_
        · have h6 : ac.tmps[6]? = some (.pointer (some ⟨w4.heap.size, 0, none⟩)) := (hO 6 rfl).trans rfl
          exact growOp_plain rfl (parts_value (by simp [go_sem, h6]))
        refine And.intro (fun ac W hO hU H => ?_) ?_
        · have h27 : ac.tmps[27]? = some (.pointer (some ⟨w4.heap.size, 1, none⟩)) := isV_get (W := W) (H 0 27 rfl)
          have k1 := hk1 W hU
          exact growOp_plain rfl (parts_value (by simp [go_sem, h27, k1]))
        refine And.intro (fun ac W hO hU H => ?_) ?_
        · have h1 : ac.tmps[1]? = some (.int .i64 n) := (hO 1 rfl).trans rfl
          exact growOp_plain rfl (parts_value (by simp [go_sem, h1]))
        refine And.intro (fun ac W hO hU H => ?_) ?_
        · have h6 : ac.tmps[6]? = some (.pointer (some ⟨w4.heap.size, 0, none⟩)) := (hO 6 rfl).trans rfl
          exact growOp_plain rfl (parts_value (by simp [go_sem, h6]))
        refine And.intro (fun ac W hO hU H => ?_) ?_
        · have h30 : ac.tmps[30]? = some (.pointer (some ⟨w4.heap.size, 1, none⟩)) := isV_get (W := W) (H 3 30 rfl)
          have k1 := hk1 W hU
          exact growOp_plain rfl (parts_value (by simp [go_sem, h30, k1]))
        refine And.intro (fun ac W hO hU H => ?_) ?_
        · have h1 : ac.tmps[1]? = some (.int .i64 n) := (hO 1 rfl).trans rfl
          exact growOp_plain rfl (parts_value (by simp [go_sem, h1]))
        refine And.intro (fun ac W hO hU H => ?_) ?_
        · have h31 : ac.tmps[31]? = some (.slice (some ⟨gw, 0, none⟩) f.wear.length cw) := isV_get (W := W) (H 4 31 rfl)
          have h32 : ac.tmps[32]? = some (.int .i64 n) := isV_get (W := W) (H 5 32 rfl)
          exact growOp_plain rfl (parts_value (by simp [go_sem, h31, h32, hipw]))
        refine And.intro (fun ac W hO hU H => ?_) ?_
        · have h33 : ac.tmps[33]? = some (.pointer (some ⟨gw, n, none⟩)) := isV_get (W := W) (H 6 33 rfl)
          have k1 := hold W hU
          exact growOp_plain rfl (parts_value (by simp [go_sem, h33, k1]))
        refine And.intro (fun ac W hO hU H => ?_) ?_
        · have h34 : ac.tmps[34]? = some (.int .i64 old) := isV_get (W := W) (H 7 34 rfl)
          exact growOp_plain rfl (parts_value (by simp [go_sem, h34, hwr]))
        refine And.intro (fun ac W hO hU H => ?_) ?_
        · have h35 : ac.tmps[35]? = some (.int .i64 (old + 1)) := isV_get (W := W) (H 8 35 rfl)
          exact growOp_plain rfl (parts_value (by simp [go_sem, h35]))
        refine And.intro (fun ac W hO hU H => ?_) ?_
        · have h28 : ac.tmps[28]? = some (.slice (some ⟨gw, 0, none⟩) f.wear.length cw) := isV_get (W := W) (H 1 28 rfl)
          have h29 : ac.tmps[29]? = some (.int .i64 n) := isV_get (W := W) (H 2 29 rfl)
          exact growOp_plain rfl (parts_value (by simp [go_sem, h28, h29, hipw]))
        exact trivial
      · intro W xs hU hks
        obtain ⟨y0, rfl, g0⟩ := holdAll_is hks
        obtain ⟨y1, rfl, g1⟩ := holdAll_is g0
        obtain ⟨y2, rfl, g2⟩ := holdAll_is g1
        obtain ⟨y3, rfl, g3⟩ := holdAll_is g2
        obtain ⟨y4, rfl, g4⟩ := holdAll_is g3
        obtain ⟨y5, rfl, g5⟩ := holdAll_is g4
        obtain ⟨y6, rfl, g6⟩ := holdAll_is g5
        obtain ⟨y7, rfl, g7⟩ := holdAll_is g6
        obtain ⟨y8, rfl, g8⟩ := holdAll_is g7
        obtain ⟨y9, rfl, g9⟩ := holdAll_is g8
        obtain ⟨y10, rfl, g10⟩ := holdAll_is g9
        obtain rfl := holdAll_nil g10
        clear hks g0 g1 g2 g3 g4 g5 g6 g7 g8 g9 g10
        simp only [List.take_succ_cons, List.take_zero, List.drop_succ_cons, List.drop_zero, endTmps, List.setIfInBounds_toArray, List.set]
        have hb6W := block_ups hb66 (drew_ups hU)
        have hzW := block_ups hzB6 (drew_ups hU)
        have hgW := block_ups hg6 (drew_ups hU)
        obtain ⟨k0, k1, k2, k3, k4⟩ := block_cells hb6W
        obtain ⟨d0, d1, d2, d3, d4⟩ := block_cells hzW
        have y0 := block_frozen hzW 0
        have y1 := block_frozen hzW 1
        have y2 := block_frozen hzW 2
        have y3 := block_frozen hzW 3
        have y4 := block_frozen hzW 4
        have yg := block_frozen hgW n
        have hcn := hold W hU
        have hCL := Lib.hid (hcl0 W hU)
        have hrW := hrd6.ups (drew_ups hU)
        have HRW := Lib.hid hrW
        have huW := Ups.trans hu66 (drew_ups hU)
        have n1 : ¬ gw = w4.heap.size := by omega
        have n2 : ¬ w4.heap.size = gw := by omega
        have n3 : ¬ gw = w.heap.size + 1 := by omega
        have n4 : ¬ w.heap.size + 1 = gw := by omega
        have n5 : ¬ w4.heap.size = w.heap.size + 1 := by omega
        have n6 : ¬ w.heap.size + 1 = w4.heap.size := by omega
        clear hold hcl0 hk1 hrW hrd6 hb66 hzB6 hg6 hb6W hzW hgW
        go_wp2_with fail
        refine bodyPost_ret (v := .tuple #[.agg #[.slice ap pages1.length cp, .slice (some ⟨gw, 0, none⟩) f.wear.length cw, .int .i64 fuse1, .string torn1, .bool dead1], .int .i64 0]) ?_ rfl ⟨_, rfl, ?_⟩
        · simp [results, Try.results11, go_sem, d0, d1, d2, d3, d4]
        · have hbg : But gw W (W.setCell ⟨gw, n, none⟩ (.int .i64 (min (old + 1) 2147483647))) := (But.refl _ _).set n _
          obtain ⟨P1, Q1, e1, hP1, _⟩ := HRW.out
          simp only [Value.agg.injEq, Array.mk.injEq, List.cons.injEq, and_true] at e1
          obtain ⟨rfl, rfl, _⟩ := e1
          have hofp : ∀ B, B < w3.heap.size → FlOff B (.agg #[.slice a f.pages.length c, .slice a' f.wear.length c', .int .i64 f.fuse, .string f.torn, .bool f.dead]) → RowOff B (.slice ap pages1.length cp) := fun B hB ho => (HO.out B hB ho).fst
          refine fl_stored (W := W.setCell ⟨gw, n, none⟩ (.int .i64 (min (old + 1) 2147483647))) (hbg.below huW (by omega)) (Nat.le_succ _) ⟨_, _, rfl, hP1.but hbg (HR.out.off (by omega)).fst, by simp only [HG.out]; exact ints_set hwn hCL.out _⟩ (FlOff.mk (hofp _ hz3 (FlOff.mk hrP hrQ)) (RowOff.fresh n3)) (fun B hB ho => FlOff.mk (hofp B (by omega) ho) (RowOff.fresh (by omega))) rfl
    · rw [if_neg (by decide)]
      go_enter Try.func11, Try.ntmps11
      go_wp2_with fail
      refine hhas.mono ?_
      rintro e w3 ⟨rfl, hb3⟩
      have hu3 := Ups.trans hu2 hb3
      obtain ⟨k0, k1, k2, k3, k4⟩ := block_cells (block_ups hk0 hb3)
      have hzz3 := block_ups hk1 hb3
      have hd3 := hdo w3 hu3
      have hz3 : w.heap.size + 1 < w3.heap.size := Nat.lt_of_lt_of_le hz2 hb3.size
      have HA := Lib.hid hall
      clear hall hT hI hhas hk0 hk1 hf hdo
      go_wp2_with fail
      refine hd3.mono ?_
      rintro e w4 ⟨v4, rfl, hn4⟩
      have hz4 : w.heap.size + 1 < w4.heap.size := Nat.lt_of_lt_of_le hz3 hn4.ups.size
      have hr4 := hn4.reads
      have ho4 := hn4.off
      have hu4 := Ups.trans hu3 hn4.ups
      have hzz := block_ups hzz3 hn4.ups
      obtain ⟨d0, d1, d2, d3, d4⟩ := block_cells hzz
      have y0 := block_frozen hzz 0
      have y1 := block_frozen hzz 1
      have y2 := block_frozen hzz 2
      have y3 := block_frozen hzz 3
      have y4 := block_frozen hzz 4
      have HR := Lib.hid hr4
      have HO := Lib.hid ho4
      obtain ⟨_, _, rfl, ⟨ap, cp, rfl, _⟩, ⟨aq, cq, rfl, _⟩⟩ := hr4
      clear hn4 ho4 hd3 hzz hzz3 k0 k1 k2 k3 k4
      go_wp2_with fail
      refine bodyPost_ret (v := .tuple #[.agg #[.slice ap pages1.length cp, .slice aq f.wear.length cq, .int .i64 fuse1, .string torn1, .bool dead1], .int .i64 8]) ?_ rfl ⟨_, rfl, ?_⟩
      · simp [results, Try.results11, go_sem, d0, d1, d2, d3, d4, hz4]
      · exact fl_stored' hu4 (Nat.le_succ _) HR.out (HO.out _ hz3 (FlOff.mk hrP hrQ)) (fun B hB ho => HO.out B (by omega) ho) rfl _

end Go.Proofs.Ytjpapjijlbfemaa
