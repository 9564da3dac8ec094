/- What ouroborosref03.New comes to. -/
import Derived.Test.YtjpapjijlbfemaaRefRest
namespace Go.Proofs.Ytjpapjijlbfemaa
open Go.RowKit

/-- The flash that New fills: so many pages. -/
def newCells (vP : Value) (g c : Nat) : Obj := .cells #[vP, .slice (some ⟨g, 0, none⟩) c c, .int .i64 (-1), .string { data := #[] }, .bool false] 25 (0, 0)

theorem own_but {B : Nat} {A A' : World} {base e size n : Nat} {v : Value} {xs : List Value} (h : A.ownsRow base e size v n xs) (hb : But B A A') (hB : B < base) : A'.ownsRow base e size v n xs := by
  obtain ⟨hl, h | ⟨g, cap, cur, rfl, hg0, hg, h1, h2, h3, h4⟩⟩ := h
  · exact ⟨hl, .inl h⟩
  · exact ⟨hl, .inr ⟨g, cap, cur, rfl, hg0, (hb.block g (by omega)).trans hg, h1, h2, h3, h4⟩⟩
theorem grown_low {A B : World} {base e size n : Nat} {v : Value} {xs : List Value} (h : A.grownBy B v.ownBlock) (ho : A.ownsRow base e size v n xs) {i : Nat} {o : Obj} (hi : i < base) (hat : A.heap[i]? = some o) : B.heap[i]? = some o :=
  (h.block i (Array.getElem?_eq_some_iff.1 hat).1 (fun e => by have := own_base ho e.symm; omega)).trans hat
theorem grown_below {w A B : World} {base e size n : Nat} {v : Value} {xs : List Value} (h : A.grownBy B v.ownBlock) (ho : A.ownsRow base e size v n xs) (hw : Below w.heap.size w A) (hb : w.heap.size ≤ base) : Below w.heap.size w B :=
  ⟨h.os.trans hw.os, h.tape.trans hw.tape, h.output.trans hw.output, Nat.le_trans hw.size h.size, fun i hi => (h.block i (Nat.lt_of_lt_of_le hi hw.size) (fun e => by have := own_base ho e.symm; omega)).trans (hw.block i hi)⟩

set_option maxRecDepth 100000 in
set_option maxHeartbeats 4000000 in
theorem rnew_some (c m : Nat) (w : World) (hc1 : 1 ≤ c) (hc6 : c ≤ 6) (hm1 : 1 ≤ m) (hm2 : m ≤ 8192) :
    Calls Try.prog 17 #[.int .i64 c, .int .i64 m] w fun e W' => ∃ v', e = .returned (.tuple #[v', .int .i64 0]) ∧ FlAt W' v' ⟨List.replicate c (onesT m), List.replicate c 0, -1, ⟨#[]⟩, false⟩ ∧ Ups w W' ∧ ∀ B, B < w.heap.size → FlOff B v' := by
  have h1 : ¬ (c : Int) < 1 := by omega
  have h2 : ¬ (6 : Int) < c := by omega
  have h3 : ¬ (m : Int) < 1 := by omega
  have h4 : ¬ (8192 : Int) < m := by omega
  have hmk := run_make_row' (P := Try.prog) 23 3 (.int .i64 0) 8 Try.underlying23 info_i64 rfl .i64 .i64 c (by omega) (by omega)
  have o3 := (((Own.start w).alloc (.cells #[.slice none 0 0, .slice none 0 0, .int .i64 0, .string { data := #[] }, .bool false] 25)).alloc (.cells (madeCells #[.int .i64 0] c) 3)).alloc (newCells (.slice none 0 0) (w.heap.size + 1) c)
  have hb3 : Below w.heap.size w (((w.alloc (.cells #[.slice none 0 0, .slice none 0 0, .int .i64 0, .string { data := #[] }, .bool false] 25)).alloc (.cells (madeCells #[.int .i64 0] c) 3)).alloc (newCells (.slice none 0 0) (w.heap.size + 1) c)) := o3.bel
  have hk4 := o3.at w.heap.size 0 rfl rfl
  have hkz : ((((w.alloc (.cells #[.slice none 0 0, .slice none 0 0, .int .i64 0, .string { data := #[] }, .bool false] 25)).alloc (.cells (madeCells #[.int .i64 0] c) 3)).alloc (newCells (.slice none 0 0) (w.heap.size + 1) c))).heap[w.heap.size + 1]? = some (zeroObj c) := o3.at (w.heap.size + 1) 1 rfl rfl
  have hk6 : ((((w.alloc (.cells #[.slice none 0 0, .slice none 0 0, .int .i64 0, .string { data := #[] }, .bool false] 25)).alloc (.cells (madeCells #[.int .i64 0] c) 3)).alloc (newCells (.slice none 0 0) (w.heap.size + 1) c))).heap[w.heap.size + 1 + 1]? = some (newCells (.slice none 0 0) (w.heap.size + 1) c) := o3.at (w.heap.size + 2) 2 rfl rfl
  obtain ⟨i0, hi, hx0, hx1, hx2⟩ := info_parts info_str
  have HI := Lib.hid (And.intro hi (And.intro hx0 (And.intro hx1 hx2)))
  clear o3 hi hx0 hx1 hx2
  go_enter Try.func17, Try.ntmps17
  go_wp2_with fail
  clear hmk
  go_loopw [7] (fun i wr => ∃ (k : Nat) (vP : Value), k ≤ c ∧ i = .int .i64 k ∧ wr.heap[w.heap.size + 1 + 1]? = some (newCells vP (w.heap.size + 1) c) ∧ wr.heap[w.heap.size]? = some (.cells #[.slice none 0 0, .slice none 0 0, .int .i64 0, .string { data := #[] }, .bool false] 25) ∧ wr.heap[w.heap.size + 1]? = some (zeroObj c) ∧ wr.ownsRow (w.heap.size + 3) 9 1 vP k (List.replicate k (.string (onesT m))) ∧ Below w.heap.size w wr) (fun i _ => c - (intOf i).toNat)
  case atStart => exact ⟨0, _, Nat.zero_le _, rfl, hk6, hk4, hkz, World.ownsRow_nil _ _ _ _, hb3⟩
  case round =>
    obtain ⟨k, vP, hk, rfl, g6, g4, gz, hown, hbel⟩ := hrel
    clear hk6 hk4 hkz hb3
    by_cases hlt : k < c
    · have hvp := fun W (hU : Ups (World.drew wr) W) => (block_cells (block_ups g6 (drew_ups hU))).1
      obtain ⟨hi, hx0, hx1, hx2⟩ := HI.out
      go_wp2_with fail
      refine wp_region_parts (N := 5) (n := 39) (ks := [isV (.pointer (some ⟨w.heap.size + 1 + 1, 0, none⟩)), isV (vP), isV (.int .i64 m), isV (.string (onesT m)), fun v W => ∃ b, v = .slice (some ⟨b, 0, none⟩) 1 1 ∧ W.cell? ⟨b, 0, none⟩ = some (.string (onesT m))]) (by decide +kernel) (by decide +kernel) (by decide +kernel) (by simp) rfl (by decide +kernel) ⟨steady_is _, steady_is _, steady_is _, steady_is _, fun _ _ _ ⟨b, e, h⟩ hu => ⟨b, e, cell_ups hu h⟩, trivial⟩ ?_ ?_
      · refine And.intro (fun ac W hO hU H => ?_) ?_
        · have h6 : ac.tmps[6]? = some (.pointer (some ⟨w.heap.size + 1 + 1, 0, none⟩)) := (hO 6 rfl).trans rfl
          exact growOp_plain rfl (parts_value (by simp [go_sem, h6]))
        refine And.intro (fun ac W hO hU H => ?_) ?_
        · have h31 : ac.tmps[31]? = some (.pointer (some ⟨w.heap.size + 1 + 1, 0, none⟩)) := isV_get (W := W) (H 0 31 rfl)
          have f0 := hvp W hU
          exact growOp_plain rfl (parts_value (by simp [go_sem, h31, f0]))
        refine And.intro (fun ac W hO hU H => ?_) ?_
        · have h1 : ac.tmps[1]? = some (.int .i64 m) := (hO 1 rfl).trans rfl
          exact growOp_plain rfl (parts_value (by simp [go_sem, h1]))
        refine And.intro (fun ac W hO hU H => ?_) ?_
        · have h33 : ac.tmps[33]? = some (.int .i64 m) := isV_get (W := W) (H 2 33 rfl)
          exact growOp_plain rfl (parts_call_is (args := #[.int .i64 m]) (by simp [go_sem, h33]) (qones_t m W (by omega)))
        refine And.intro (fun ac W hO hU H => ?_) ?_
        · have h34 : ac.tmps[34]? = some (.string (onesT m)) := isV_get (W := W) (H 3 34 rfl)
          exact growOp_plain rfl (grow_alloc (by simp [go_sem, h34]; rfl) ⟨W.heap.size, rfl, by rw [cell_of (alloc_at W _)]; rfl⟩)
        exact trivial
      · intro W xs hU hks
        obtain ⟨y0, rfl, g0⟩ := holdAll_is hks
        obtain ⟨y1, rfl, g1⟩ := holdAll_is g0
        obtain ⟨y2, rfl, g2⟩ := holdAll_is g1
        obtain ⟨y3, rfl, g3⟩ := holdAll_is g2
        obtain ⟨v4, y4, rfl, q4, g4⟩ := holdAll_cons g3
        obtain rfl := holdAll_nil g4
        clear hks g0 g1 g2 g3 g4
        simp only [List.take_succ_cons, List.take_zero, List.drop_succ_cons, List.drop_zero, endTmps, List.setIfInBounds_toArray, List.set]
        obtain ⟨b, rfl, hb⟩ := q4
        have g6W := block_ups g6 (drew_ups hU)
        have g4W := block_ups g4 (drew_ups hU)
        have gzW := block_ups gz (drew_ups hU)
        have hownW := own_ups hown (drew_ups hU)
        have hbW : Below w.heap.size w W := Ups.trans hbel (drew_ups hU)
        have hszW : w.heap.size + 3 ≤ W.heap.size := (Array.getElem?_eq_some_iff.1 g6W).1
        clear hvp g6 g4 gz hown hbel hU
        have hnews : ∀ j u, [Value.string (onesT m)][j]? = some u → W.cell? ((⟨b, 0, none⟩ : Addr).add j) = some u := by
          intro j u hj
          have h0 : j = 0 := by
            rcases Nat.eq_zero_or_pos j with h | h
            · exact h
            · rw [List.getElem?_eq_none (by simp; omega)] at hj; cases hj
          subst h0
          rw [addr0, hb, ← hj]
          rfl
        go_wp2_with (
          at_builtin
          go_loud (refine wpList_append_own _ rfl _ _ 22 rfl (w.heap.size + 3) 9 i0 (.string ⟨#[]⟩) 1 16 Try.underlying22 hi hx0 hx1 hx2 rfl (by decide) vP k (List.replicate k (.string (onesT m))) rfl hownW ⟨b, 0, none⟩ 1 1 [.string (onesT m)] rfl rfl hnews (by simp [Value.oneCell']) (by unfold maxLen; omega) (by omega) hszW ?_)
          intro v' w1 hown' hgrow _
          have g6' := grown_low hgrow hownW (by omega) g6W
          have g4' := grown_low hgrow hownW (by omega) g4W
          have gz' := grown_low hgrow hownW (by omega) gzW
          have hb1 := grown_below hgrow hownW hbW (by omega)
          obtain ⟨g', cg', cur', rfl, hgl, _, _⟩ := own_cells hown' (by omega)
          obtain ⟨j0, j1, j2, j3, j4⟩ := block_cells g6'
          have x0 := block_frozen g6' 0
          have HO := Lib.hid hown'
          clear hnews hownW hown' hgrow)
        go_roundw
        case rel =>
          have hbt : But (w.heap.size + 1 + 1) w1 (w1.setCell ⟨w.heap.size + 1 + 1, 0, none⟩ (.slice (some ⟨g', 0, none⟩) (k + 1) cg')) := (But.refl _ _).set 0 _
          refine ⟨k + 1, _, by omega, by go_num, setCell_block g6', (hbt.block _ (by omega)).trans g4', (hbt.block _ (by omega)).trans gz', ?_, hbt.below hb1 (by omega)⟩
          have := own_but HO.out hbt (by omega)
          rwa [← List.replicate_succ'] at this
        case measure => simp [intOf]; omega
    · obtain rfl : k = c := by omega
      obtain ⟨gP, cP, curP, rfl, hgP, _, _⟩ := own_cells hown (by omega)
      have htx : TextsAt wr (.slice (some ⟨gP, 0, none⟩) k cP) (List.replicate k (onesT m)) := texts_of_own (n := k) (l := List.replicate k (onesT m)) (by simp) (by rw [List.map_replicate]; exact hown)
      have hin := ints_zero gz
      obtain ⟨k0, k1, k2, k3, k4⟩ := block_cells g6
      obtain ⟨d0, d1, d2, d3, d4⟩ := block_cells g4
      have y0 := block_frozen g4 0
      have y1 := block_frozen g4 1
      have y2 := block_frozen g4 2
      have y3 := block_frozen g4 3
      have y4 := block_frozen g4 4
      have HT := Lib.hid htx
      have HZ := Lib.hid hin
      clear htx hin g6 g4 gz hown
      go_wp2_with fail
      refine bodyPost_ret (v := .tuple #[.agg #[.slice (some ⟨gP, 0, none⟩) k cP, .slice (some ⟨w.heap.size + 1, 0, none⟩) k k, .int .i64 (-1), .string { data := #[] }, .bool false], .int .i64 0]) ?_ rfl ⟨_, rfl, ?_⟩
      · simp [results, Try.results17, go_sem, d0, d1, d2, d3, d4]
      · have hoB : ∀ B, B ≤ w.heap.size → FlOff B (.agg #[.slice (some ⟨gP, 0, none⟩) k cP, .slice (some ⟨w.heap.size + 1, 0, none⟩) k k, .int .i64 (-1), .string { data := #[] }, .bool false]) := fun B hB => FlOff.mk (RowOff.fresh (by omega)) (RowOff.fresh (by omega))
        have hf : FlNew w (.agg #[.slice none 0 0, .slice none 0 0, .int .i64 0, .string { data := #[] }, .bool false]) _ _ _ := fl_stored (v' := .agg #[.slice (some ⟨gP, 0, none⟩) k cP, .slice (some ⟨w.heap.size + 1, 0, none⟩) k k, .int .i64 (-1), .string { data := #[] }, .bool false]) (f' := ⟨List.replicate k (onesT m), List.replicate k 0, -1, ⟨#[]⟩, false⟩) hbel (Nat.le_refl _) ⟨_, _, rfl, HT.out, HZ.out⟩ (hoB _ (Nat.le_refl _)) (fun B hB _ => hoB B (Nat.le_of_lt hB)) rfl
        exact ⟨hf.reads, hf.ups, fun B hB => hoB B (Nat.le_of_lt hB)⟩

set_option maxRecDepth 100000 in
set_option maxHeartbeats 2000000 in
theorem rnew_calls (pages size : Int) (w : World) :
    Calls Try.prog 17 #[.int .i64 pages, .int .i64 size] w fun e W' => ∃ v', e = .returned (.tuple #[v', .int .i64 (newF pages size).2]) ∧ FlAt W' v' (newF pages size).1 ∧ Ups w W' ∧ ∀ B, B < w.heap.size → FlOff B v' := by
  by_cases hr : pages < 1 ∨ 6 < pages ∨ size < 1 ∨ 8192 < size
  · have he : newF pages size = (⟨[], [], 0, ⟨#[]⟩, false⟩, 1) := by rw [newF, if_pos hr]
    rw [he]
    clear he
    have fin : ∀ W, Ups w W → FlAt W (.agg #[.slice none 0 0, .slice none 0 0, .int .i64 0, .string { data := #[] }, .bool false]) ⟨[], [], 0, ⟨#[]⟩, false⟩ := fun W _ => ⟨_, _, rfl, ⟨none, 0, rfl, fun h => absurd h (Nat.lt_irrefl 0)⟩, ⟨none, 0, rfl, fun h => absurd h (Nat.lt_irrefl 0)⟩⟩
    have hu : Ups w (w.alloc (.cells #[.slice none 0 0, .slice none 0 0, .int .i64 0, .string { data := #[] }, .bool false] 25)) := (Below.refl _ w).alloc (Nat.le_refl _) _
    have FIN := Lib.hid fin
    clear fin
    by_cases h1 : pages < 1
    · go_enter Try.func17, Try.ntmps17
      go_wp2_with fail
      refine bodyPost_ret (v := .tuple #[.agg #[.slice none 0 0, .slice none 0 0, .int .i64 0, .string { data := #[] }, .bool false], .int .i64 1]) ?_ rfl ⟨_, rfl, ?_⟩
      · simp [results, Try.results17, go_sem]
      · exact ⟨FIN.out _ hu, hu, fun B hB => FlOff.mk RowOff.none RowOff.none⟩
    by_cases h2 : 6 < pages
    · go_enter Try.func17, Try.ntmps17
      go_wp2_with fail
      refine bodyPost_ret (v := .tuple #[.agg #[.slice none 0 0, .slice none 0 0, .int .i64 0, .string { data := #[] }, .bool false], .int .i64 1]) ?_ rfl ⟨_, rfl, ?_⟩
      · simp [results, Try.results17, go_sem]
      · exact ⟨FIN.out _ hu, hu, fun B hB => FlOff.mk RowOff.none RowOff.none⟩
    by_cases h3 : size < 1
    · go_enter Try.func17, Try.ntmps17
      go_wp2_with fail
      refine bodyPost_ret (v := .tuple #[.agg #[.slice none 0 0, .slice none 0 0, .int .i64 0, .string { data := #[] }, .bool false], .int .i64 1]) ?_ rfl ⟨_, rfl, ?_⟩
      · simp [results, Try.results17, go_sem]
      · exact ⟨FIN.out _ hu, hu, fun B hB => FlOff.mk RowOff.none RowOff.none⟩
    have h4 : 8192 < size := by omega
    go_enter Try.func17, Try.ntmps17
    go_wp2_with fail
    refine bodyPost_ret (v := .tuple #[.agg #[.slice none 0 0, .slice none 0 0, .int .i64 0, .string { data := #[] }, .bool false], .int .i64 1]) ?_ rfl ⟨_, rfl, ?_⟩
    · simp [results, Try.results17, go_sem]
    · exact ⟨FIN.out _ hu, hu, fun B hB => FlOff.mk RowOff.none RowOff.none⟩
  · obtain ⟨c, rfl⟩ : ∃ c : Nat, pages = c := ⟨pages.toNat, by omega⟩
    obtain ⟨m, rfl⟩ : ∃ m : Nat, size = m := ⟨size.toNat, by omega⟩
    have he : newF c m = (⟨List.replicate c (onesT m), List.replicate c 0, -1, ⟨#[]⟩, false⟩, 0) := by rw [newF, if_neg hr]; rfl
    rw [he]
    exact rnew_some c m w (by omega) (by omega) (by omega) (by omega)

end Go.Proofs.Ytjpapjijlbfemaa
