/- Texts of this proof, one behind the other: RefChk. -/
import Derived.Test.YtmabpnkdagipfaaGreatJ26
import Derived.Test.YtmabpnkdagipfaaGreatJ30

/- What ouroborosref03.Check and page, and ouroboroslaw03.Few, come to. -/
namespace Go.Proofs.YtmabpnkdagipfaaGreat
open Go.RowKit

def okAt (f : Fl) (i : Nat) : Bool := decide (1 ≤ (oldT f i).size) && decide ((oldT f i).size ≤ 8192) && decide ((oldT f i).size = (oldT f 0).size) && decide (0 ≤ f.wear.getD i 0) && decide (f.wear.getD i 0 ≤ 2147483647)
theorem check_at {f : Fl} (h1 : 1 ≤ f.pages.length) (h2 : f.pages.length ≤ 6) (h3 : f.wear.length = f.pages.length) (h4 : f.torn.size ≤ 64) : checkB f = true ↔ ∀ i, i < f.pages.length → okAt f i = true := by
  constructor
  · intro h i hi
    have hs := old_size h hi
    have hz : f.wear.getD i 0 ∈ f.wear := by
      rw [List.getD_eq_getElem?_getD, List.getElem?_eq_getElem (by omega)]
      exact List.getElem_mem _
    have hw := (check_facts h).2.2.2.2.1 _ hz
    simp only [okAt, Bool.and_eq_true, decide_eq_true_eq]
    omega
  · intro h
    have hok : ∀ i, i < f.pages.length → 1 ≤ (oldT f i).size ∧ (oldT f i).size ≤ 8192 ∧ (oldT f i).size = (oldT f 0).size ∧ 0 ≤ f.wear.getD i 0 ∧ f.wear.getD i 0 ≤ 2147483647 := by
      intro i hi
      have := h i hi
      simp only [okAt, Bool.and_eq_true, decide_eq_true_eq] at this
      omega
    have hw : f.wear.all (fun z => decide (0 ≤ z) && decide (z ≤ 2147483647)) = true := by
      rw [List.all_eq_true]
      intro z hz
      obtain ⟨i, hi, rfl⟩ := List.getElem_of_mem hz
      have := hok i (by omega)
      rw [List.getD_eq_getElem?_getD, List.getElem?_eq_getElem hi] at this
      simp only [Option.getD_some] at this
      simp [this.2.2.2.1, this.2.2.2.2]
    have hp : f.pages.any (oddB (f.pages.getD 0 ByteArray.empty)) = false := by
      rw [List.any_eq_false]
      intro s hs
      obtain ⟨i, hi, rfl⟩ := List.getElem_of_mem hs
      have := hok i hi
      have e : oldT f i = f.pages[i] := by
        unfold oldT
        rw [List.getD_eq_getElem?_getD, List.getElem?_eq_getElem hi]
        rfl
      rw [e] at this
      have e0 : (f.pages.getD 0 ByteArray.empty).size = (oldT f 0).size := rfl
      unfold oddB
      simp only [Bool.or_eq_true, decide_eq_true_eq, not_or]
      omega
    unfold checkB
    rw [decide_eq_true h1, decide_eq_true h2, decide_eq_true h3, decide_eq_true h4, hw, hp]
    rfl

set_option maxRecDepth 100000 in
set_option maxHeartbeats 4000000 in
theorem rcheck_calls (f : Fl) (v : Value) (w : World) (h : FlAt w v f) (hf : FlFit f) :
    Calls Tryz.prog 42 #[v] w fun e W' => e = .returned (.bool (checkB f)) ∧ Ups w W' := by
  obtain ⟨p, q, rfl, ⟨a, c, rfl, hp⟩, ⟨a', c', rfl, hq⟩⟩ := h
  have hu1 : Ups w (w.alloc (.cells #[.slice a f.pages.length c, .slice a' f.wear.length c', .int .i64 f.fuse, .string f.torn, .bool f.dead] 31)) := (Below.refl _ w).alloc (Nat.le_refl _) _
  have hk0 : (w.alloc (.cells #[.slice a f.pages.length c, .slice a' f.wear.length c', .int .i64 f.fuse, .string f.torn, .bool f.dead] 31)).heap[w.heap.size]? = some (.cells #[.slice a f.pages.length c, .slice a' f.wear.length c', .int .i64 f.fuse, .string f.torn, .bool f.dead] 31) := ((Own.start w).alloc (.cells #[.slice a f.pages.length c, .slice a' f.wear.length c', .int .i64 f.fuse, .string f.torn, .bool f.dead] 31)).at w.heap.size 0 rfl rfl
  have HP := Lib.hid hp
  have HQ := Lib.hid hq
  have hf1 := hf.1
  have hf2 := hf.2.1
  clear hp hq hf
  by_cases h1 : f.pages.length < 1
  · have hc : checkB f = false := by simp [checkB]; omega
    rw [hc]
    have h1' : (f.pages.length : Int) < 1 := by omega
    clear hc h1
    go_enter Tryz.func42, Tryz.ntmps42
    go_wp2_with fail
    go_ret
    exact ⟨rfl, hu1⟩
  have g1 : ¬ (f.pages.length : Int) < 1 := by omega
  by_cases h2 : 6 < f.pages.length
  · have hc : checkB f = false := by simp [checkB]; omega
    rw [hc]
    have h2' : (6 : Int) < f.pages.length := by omega
    clear hc h1 h2
    go_enter Tryz.func42, Tryz.ntmps42
    go_wp2_with fail
    go_ret
    exact ⟨rfl, hu1⟩
  have g2 : ¬ (6 : Int) < f.pages.length := by omega
  by_cases h3 : f.wear.length = f.pages.length
  · have g3 : ((f.wear.length : Int) != f.pages.length) = false := by
      have : (f.wear.length : Int) = f.pages.length := by omega
      simpa using this
    by_cases h4 : 64 < f.torn.size
    · have hc : checkB f = false := by simp [checkB]; omega
      rw [hc]
      have g4 : (64 : Int) < f.torn.size := by omega
      clear hc h1 h2 h3
      go_enter Tryz.func42, Tryz.ntmps42
      go_wp2_with fail
      go_ret
      exact ⟨rfl, hu1⟩
    have g4 : ¬ (64 : Int) < f.torn.size := by omega
    have HK := Lib.hid (check_at (f := f) (by omega) (by omega) h3 (by omega))
    have H3 := Lib.hid h3
    have hw0 : 0 < f.wear.length := by omega
    clear h3
    go_enter Tryz.func42, Tryz.ntmps42
    go_wp2_with fail
    go_loopw [3] (fun i wr => ∃ k : Nat, k ≤ f.pages.length ∧ i = .int .i64 k ∧ Ups (w.alloc (.cells #[.slice a f.pages.length c, .slice a' f.wear.length c', .int .i64 f.fuse, .string f.torn, .bool f.dead] 31)) wr ∧ ∀ j, j < k → okAt f j = true) (fun i _ => f.pages.length - (intOf i).toNat)
    case atStart => exact ⟨0, Nat.zero_le _, rfl, Ups.refl _, fun j hj => absurd hj (Nat.not_lt_zero j)⟩
    case round =>
      obtain ⟨k, hk, rfl, hu, hpre⟩ := hrel
      have HPRE := Lib.hid hpre
      clear hpre
      obtain ⟨k0, k1, k2, k3, k4⟩ := block_cells (block_ups hk0 hu)
      by_cases hlt : k < f.pages.length
      · obtain ⟨b, off, rfl, hj⟩ := HP.out (by omega)
        obtain ⟨b', off', rfl, hj'⟩ := HQ.out (by omega)
        have c0 := fun W (hU : Ups (World.drew wr) W) => (block_cells (block_ups hk0 (Ups.trans hu (drew_ups hU)))).1
        have c1 := fun W (hU : Ups (World.drew wr) W) => (block_cells (block_ups hk0 (Ups.trans hu (drew_ups hU)))).2.1
        have e1 : ∀ W, Ups (World.drew wr) W → W.cell? ⟨b, off + k, none⟩ = some (.string (oldT f k)) := fun W hU => cell_ups (Ups.trans hu1 (Ups.trans hu (drew_ups hU))) (hj k hlt)
        have e0 : ∀ W, Ups (World.drew wr) W → W.cell? ⟨b, off, none⟩ = some (.string (oldT f 0)) := fun W hU => cell_ups (Ups.trans hu1 (Ups.trans hu (drew_ups hU))) (by have := hj 0 (by omega); rwa [Nat.add_zero] at this)
        have e2 : ∀ W, Ups (World.drew wr) W → W.cell? ⟨b', off' + k, none⟩ = some (.int .i64 (f.wear.getD k 0)) := fun W hU => cell_ups (Ups.trans hu1 (Ups.trans hu (drew_ups hU))) (hj' k (by have := H3.out; omega))
        have i1 : (k : Int) < f.pages.length := by omega
        have hpn : ¬ f.pages = [] := fun e => by rw [e] at hlt; simp at hlt
        have iw : (k : Int) < f.wear.length := by have := H3.out; omega
        clear hj hj'
        generalize hg1 : oldT f k = s at *
        generalize hg0 : oldT f 0 = t at *
        generalize hg2 : f.wear.getD k 0 = z at *
        have G1 := Lib.hid hg1
        have G0 := Lib.hid hg0
        have G2 := Lib.hid hg2
        clear hg1 hg0 hg2
        by_cases t1 : (s.size : Int) < 1
        · have tt := t1
          have hbad : checkB f = false := by
            rw [Bool.eq_false_iff]
            intro hck
            have := HK.out.1 hck k hlt
            rw [okAt, G1.out, G2.out, G0.out] at this
            simp only [Bool.and_eq_true, decide_eq_true_eq] at this
            omega
          go_wp2_with fail
          refine wp_region_parts (N := 46) (n := 82) (ks := [isV (.pointer (some ⟨w.heap.size, 0, none⟩)), isV (.slice (some ⟨b, off, none⟩) f.pages.length c), isV (.int .i64 k), isV (.pointer (some ⟨b, off + k, none⟩)), isV (.string s), isV (.int .i64 (s.size : Nat)), isV (.bool true), isV (.bool true), isV (undef), isV (undef), isV (undef), isV (undef), isV (undef), isV (undef), isV (undef), isV (.bool true), isV (.bool true), isV (undef), isV (undef), isV (undef), isV (undef), isV (undef), isV (undef), isV (undef), isV (undef), isV (undef), isV (undef), isV (undef), isV (undef), isV (.bool true), isV (.bool true), isV (undef), isV (undef), isV (undef), isV (undef), isV (undef), isV (undef), isV (.bool true), isV (.bool true), isV (undef), isV (undef), isV (undef), isV (undef), isV (undef), isV (undef), isV (.bool true)]) (by decide +kernel) (by decide +kernel) (by decide +kernel) (by simp) rfl (by decide +kernel) ⟨steady_is _, steady_is _, steady_is _, steady_is _, steady_is _, steady_is _, steady_is _, steady_is _, steady_is _, steady_is _, steady_is _, steady_is _, steady_is _, steady_is _, steady_is _, steady_is _, steady_is _, steady_is _, steady_is _, steady_is _, steady_is _, steady_is _, steady_is _, steady_is _, steady_is _, steady_is _, steady_is _, steady_is _, steady_is _, steady_is _, steady_is _, steady_is _, steady_is _, steady_is _, steady_is _, steady_is _, steady_is _, steady_is _, steady_is _, steady_is _, steady_is _, steady_is _, steady_is _, steady_is _, steady_is _, steady_is _, trivial⟩ ?_ ?_
          · refine And.intro (fun ac W hO hU H => ?_) ?_
            · have h1 : ac.tmps[1]? = some (.pointer (some ⟨w.heap.size, 0, none⟩)) := (hO 1 rfl).trans rfl
              exact growOp_plain rfl (parts_value (by simp [go_sem, h1]))
            refine And.intro (fun ac W hO hU H => ?_) ?_
            · have h36 : ac.tmps[36]? = some (.pointer (some ⟨w.heap.size, 0, none⟩)) := isV_get (W := W) (H 0 36 rfl)
              have f0 := c0 W hU
              exact growOp_plain rfl (parts_value (by simp [go_sem, h36, f0]))
            refine And.intro (fun ac W hO hU H => ?_) ?_
            · have h3 : ac.tmps[3]? = some (.int .i64 k) := (hO 3 rfl).trans rfl
              exact growOp_plain rfl (parts_value (by simp [go_sem, h3]))
            refine And.intro (fun ac W hO hU H => ?_) ?_
            · have h37 : ac.tmps[37]? = some (.slice (some ⟨b, off, none⟩) f.pages.length c) := isV_get (W := W) (H 1 37 rfl)
              have h38 : ac.tmps[38]? = some (.int .i64 k) := isV_get (W := W) (H 2 38 rfl)
              exact growOp_plain rfl (parts_value (by simp [go_sem, h37, h38, i1]))
            refine And.intro (fun ac W hO hU H => ?_) ?_
            · have h39 : ac.tmps[39]? = some (.pointer (some ⟨b, off + k, none⟩)) := isV_get (W := W) (H 3 39 rfl)
              have f0 := e1 W hU
              exact growOp_plain rfl (parts_value (by simp [go_sem, h39, f0]))
            refine And.intro (fun ac W hO hU H => ?_) ?_
            · have h40 : ac.tmps[40]? = some (.string s) := isV_get (W := W) (H 4 40 rfl)
              exact growOp_plain rfl (parts_value (by simp [go_sem, h40]))
            refine And.intro (fun ac W hO hU H => ?_) ?_
            · have h41 : ac.tmps[41]? = some (.int .i64 (s.size : Nat)) := isV_get (W := W) (H 5 41 rfl)
              exact growOp_plain rfl (parts_value (by simp [go_sem, h41, t1]))
            refine And.intro (fun ac W hO hU H => ?_) ?_
            · have h42 : ac.tmps[42]? = some (.bool true) := isV_get (W := W) (H 6 42 rfl)
              exact growOp_plain rfl (parts_value (by simp [go_sem, h42]))
            refine And.intro (fun ac W hO hU H => ?_) ?_
            · have hg : ac.tmps[43]? = some (.bool true) := isV_get (W := W) (H 7 43 rfl)
              exact growOp_left rfl rfl hg Ups.refl rfl
            refine And.intro (fun ac W hO hU H => ?_) ?_
            · have hg : ac.tmps[43]? = some (.bool true) := isV_get (W := W) (H 7 43 rfl)
              exact growOp_left rfl rfl hg Ups.refl rfl
            refine And.intro (fun ac W hO hU H => ?_) ?_
            · have hg : ac.tmps[43]? = some (.bool true) := isV_get (W := W) (H 7 43 rfl)
              exact growOp_left rfl rfl hg Ups.refl rfl
            refine And.intro (fun ac W hO hU H => ?_) ?_
            · have hg : ac.tmps[43]? = some (.bool true) := isV_get (W := W) (H 7 43 rfl)
              exact growOp_left rfl rfl hg Ups.refl rfl
            refine And.intro (fun ac W hO hU H => ?_) ?_
            · have hg : ac.tmps[43]? = some (.bool true) := isV_get (W := W) (H 7 43 rfl)
              exact growOp_left rfl rfl hg Ups.refl rfl
            refine And.intro (fun ac W hO hU H => ?_) ?_
            · have hg : ac.tmps[43]? = some (.bool true) := isV_get (W := W) (H 7 43 rfl)
              exact growOp_left rfl rfl hg Ups.refl rfl
            refine And.intro (fun ac W hO hU H => ?_) ?_
            · have hg : ac.tmps[43]? = some (.bool true) := isV_get (W := W) (H 7 43 rfl)
              exact growOp_left rfl rfl hg Ups.refl rfl
            refine And.intro (fun ac W hO hU H => ?_) ?_
            · have h43 : ac.tmps[43]? = some (.bool true) := isV_get (W := W) (H 7 43 rfl)
              have h50 : ac.tmps[50]? = some (undef) := isV_get (W := W) (H 14 50 rfl)
              exact growOp_plain rfl (parts_value (by simp [go_sem, h43, h50]))
            refine And.intro (fun ac W hO hU H => ?_) ?_
            · have h51 : ac.tmps[51]? = some (.bool true) := isV_get (W := W) (H 15 51 rfl)
              exact growOp_plain rfl (parts_value (by simp [go_sem, h51]))
            refine And.intro (fun ac W hO hU H => ?_) ?_
            · have hg : ac.tmps[52]? = some (.bool true) := isV_get (W := W) (H 16 52 rfl)
              exact growOp_left rfl rfl hg Ups.refl rfl
            refine And.intro (fun ac W hO hU H => ?_) ?_
            · have hg : ac.tmps[52]? = some (.bool true) := isV_get (W := W) (H 16 52 rfl)
              exact growOp_left rfl rfl hg Ups.refl rfl
            refine And.intro (fun ac W hO hU H => ?_) ?_
            · have hg : ac.tmps[52]? = some (.bool true) := isV_get (W := W) (H 16 52 rfl)
              exact growOp_left rfl rfl hg Ups.refl rfl
            refine And.intro (fun ac W hO hU H => ?_) ?_
            · have hg : ac.tmps[52]? = some (.bool true) := isV_get (W := W) (H 16 52 rfl)
              exact growOp_left rfl rfl hg Ups.refl rfl
            refine And.intro (fun ac W hO hU H => ?_) ?_
            · have hg : ac.tmps[52]? = some (.bool true) := isV_get (W := W) (H 16 52 rfl)
              exact growOp_left rfl rfl hg Ups.refl rfl
            refine And.intro (fun ac W hO hU H => ?_) ?_
            · have hg : ac.tmps[52]? = some (.bool true) := isV_get (W := W) (H 16 52 rfl)
              exact growOp_left rfl rfl hg Ups.refl rfl
            refine And.intro (fun ac W hO hU H => ?_) ?_
            · have hg : ac.tmps[52]? = some (.bool true) := isV_get (W := W) (H 16 52 rfl)
              exact growOp_left rfl rfl hg Ups.refl rfl
            refine And.intro (fun ac W hO hU H => ?_) ?_
            · have hg : ac.tmps[52]? = some (.bool true) := isV_get (W := W) (H 16 52 rfl)
              exact growOp_left rfl rfl hg Ups.refl rfl
            refine And.intro (fun ac W hO hU H => ?_) ?_
            · have hg : ac.tmps[52]? = some (.bool true) := isV_get (W := W) (H 16 52 rfl)
              exact growOp_left rfl rfl hg Ups.refl rfl
            refine And.intro (fun ac W hO hU H => ?_) ?_
            · have hg : ac.tmps[52]? = some (.bool true) := isV_get (W := W) (H 16 52 rfl)
              exact growOp_left rfl rfl hg Ups.refl rfl
            refine And.intro (fun ac W hO hU H => ?_) ?_
            · have hg : ac.tmps[52]? = some (.bool true) := isV_get (W := W) (H 16 52 rfl)
              exact growOp_left rfl rfl hg Ups.refl rfl
            refine And.intro (fun ac W hO hU H => ?_) ?_
            · have hg : ac.tmps[52]? = some (.bool true) := isV_get (W := W) (H 16 52 rfl)
              exact growOp_left rfl rfl hg Ups.refl rfl
            refine And.intro (fun ac W hO hU H => ?_) ?_
            · have h52 : ac.tmps[52]? = some (.bool true) := isV_get (W := W) (H 16 52 rfl)
              have h64 : ac.tmps[64]? = some (undef) := isV_get (W := W) (H 28 64 rfl)
              exact growOp_plain rfl (parts_value (by simp [go_sem, h52, h64]))
            refine And.intro (fun ac W hO hU H => ?_) ?_
            · have h65 : ac.tmps[65]? = some (.bool true) := isV_get (W := W) (H 29 65 rfl)
              exact growOp_plain rfl (parts_value (by simp [go_sem, h65]))
            refine And.intro (fun ac W hO hU H => ?_) ?_
            · have hg : ac.tmps[66]? = some (.bool true) := isV_get (W := W) (H 30 66 rfl)
              exact growOp_left rfl rfl hg Ups.refl rfl
            refine And.intro (fun ac W hO hU H => ?_) ?_
            · have hg : ac.tmps[66]? = some (.bool true) := isV_get (W := W) (H 30 66 rfl)
              exact growOp_left rfl rfl hg Ups.refl rfl
            refine And.intro (fun ac W hO hU H => ?_) ?_
            · have hg : ac.tmps[66]? = some (.bool true) := isV_get (W := W) (H 30 66 rfl)
              exact growOp_left rfl rfl hg Ups.refl rfl
            refine And.intro (fun ac W hO hU H => ?_) ?_
            · have hg : ac.tmps[66]? = some (.bool true) := isV_get (W := W) (H 30 66 rfl)
              exact growOp_left rfl rfl hg Ups.refl rfl
            refine And.intro (fun ac W hO hU H => ?_) ?_
            · have hg : ac.tmps[66]? = some (.bool true) := isV_get (W := W) (H 30 66 rfl)
              exact growOp_left rfl rfl hg Ups.refl rfl
            refine And.intro (fun ac W hO hU H => ?_) ?_
            · have hg : ac.tmps[66]? = some (.bool true) := isV_get (W := W) (H 30 66 rfl)
              exact growOp_left rfl rfl hg Ups.refl rfl
            refine And.intro (fun ac W hO hU H => ?_) ?_
            · have h66 : ac.tmps[66]? = some (.bool true) := isV_get (W := W) (H 30 66 rfl)
              have h72 : ac.tmps[72]? = some (undef) := isV_get (W := W) (H 36 72 rfl)
              exact growOp_plain rfl (parts_value (by simp [go_sem, h66, h72]))
            refine And.intro (fun ac W hO hU H => ?_) ?_
            · have h73 : ac.tmps[73]? = some (.bool true) := isV_get (W := W) (H 37 73 rfl)
              exact growOp_plain rfl (parts_value (by simp [go_sem, h73]))
            refine And.intro (fun ac W hO hU H => ?_) ?_
            · have hg : ac.tmps[74]? = some (.bool true) := isV_get (W := W) (H 38 74 rfl)
              exact growOp_left rfl rfl hg Ups.refl rfl
            refine And.intro (fun ac W hO hU H => ?_) ?_
            · have hg : ac.tmps[74]? = some (.bool true) := isV_get (W := W) (H 38 74 rfl)
              exact growOp_left rfl rfl hg Ups.refl rfl
            refine And.intro (fun ac W hO hU H => ?_) ?_
            · have hg : ac.tmps[74]? = some (.bool true) := isV_get (W := W) (H 38 74 rfl)
              exact growOp_left rfl rfl hg Ups.refl rfl
            refine And.intro (fun ac W hO hU H => ?_) ?_
            · have hg : ac.tmps[74]? = some (.bool true) := isV_get (W := W) (H 38 74 rfl)
              exact growOp_left rfl rfl hg Ups.refl rfl
            refine And.intro (fun ac W hO hU H => ?_) ?_
            · have hg : ac.tmps[74]? = some (.bool true) := isV_get (W := W) (H 38 74 rfl)
              exact growOp_left rfl rfl hg Ups.refl rfl
            refine And.intro (fun ac W hO hU H => ?_) ?_
            · have hg : ac.tmps[74]? = some (.bool true) := isV_get (W := W) (H 38 74 rfl)
              exact growOp_left rfl rfl hg Ups.refl rfl
            refine And.intro (fun ac W hO hU H => ?_) ?_
            · have h74 : ac.tmps[74]? = some (.bool true) := isV_get (W := W) (H 38 74 rfl)
              have h80 : ac.tmps[80]? = some (undef) := isV_get (W := W) (H 44 80 rfl)
              exact growOp_plain rfl (parts_value (by simp [go_sem, h74, h80]))
            exact trivial
          · intro W xs hU hks
            obtain ⟨y0, rfl, g0⟩ := holdAll_is hks
            obtain ⟨y1, rfl, g1⟩ := holdAll_is g0
            obtain ⟨y2, rfl, g2⟩ := holdAll_is g1
            obtain ⟨y3, rfl, g3⟩ := holdAll_is g2
            obtain ⟨y4, rfl, g4⟩ := holdAll_is g3
            obtain ⟨y5, rfl, g5⟩ := holdAll_is g4
            obtain ⟨y6, rfl, g6⟩ := holdAll_is g5
            obtain ⟨y7, rfl, g7⟩ := holdAll_is g6
            obtain ⟨y8, rfl, g8⟩ := holdAll_is g7
            obtain ⟨y9, rfl, g9⟩ := holdAll_is g8
            obtain ⟨y10, rfl, g10⟩ := holdAll_is g9
            obtain ⟨y11, rfl, g11⟩ := holdAll_is g10
            obtain ⟨y12, rfl, g12⟩ := holdAll_is g11
            obtain ⟨y13, rfl, g13⟩ := holdAll_is g12
            obtain ⟨y14, rfl, g14⟩ := holdAll_is g13
            obtain ⟨y15, rfl, g15⟩ := holdAll_is g14
            obtain ⟨y16, rfl, g16⟩ := holdAll_is g15
            obtain ⟨y17, rfl, g17⟩ := holdAll_is g16
            obtain ⟨y18, rfl, g18⟩ := holdAll_is g17
            obtain ⟨y19, rfl, g19⟩ := holdAll_is g18
            obtain ⟨y20, rfl, g20⟩ := holdAll_is g19
            obtain ⟨y21, rfl, g21⟩ := holdAll_is g20
            obtain ⟨y22, rfl, g22⟩ := holdAll_is g21
            obtain ⟨y23, rfl, g23⟩ := holdAll_is g22
            obtain ⟨y24, rfl, g24⟩ := holdAll_is g23
            obtain ⟨y25, rfl, g25⟩ := holdAll_is g24
            obtain ⟨y26, rfl, g26⟩ := holdAll_is g25
            obtain ⟨y27, rfl, g27⟩ := holdAll_is g26
            obtain ⟨y28, rfl, g28⟩ := holdAll_is g27
            obtain ⟨y29, rfl, g29⟩ := holdAll_is g28
            obtain ⟨y30, rfl, g30⟩ := holdAll_is g29
            obtain ⟨y31, rfl, g31⟩ := holdAll_is g30
            obtain ⟨y32, rfl, g32⟩ := holdAll_is g31
            obtain ⟨y33, rfl, g33⟩ := holdAll_is g32
            obtain ⟨y34, rfl, g34⟩ := holdAll_is g33
            obtain ⟨y35, rfl, g35⟩ := holdAll_is g34
            obtain ⟨y36, rfl, g36⟩ := holdAll_is g35
            obtain ⟨y37, rfl, g37⟩ := holdAll_is g36
            obtain ⟨y38, rfl, g38⟩ := holdAll_is g37
            obtain ⟨y39, rfl, g39⟩ := holdAll_is g38
            obtain ⟨y40, rfl, g40⟩ := holdAll_is g39
            obtain ⟨y41, rfl, g41⟩ := holdAll_is g40
            obtain ⟨y42, rfl, g42⟩ := holdAll_is g41
            obtain ⟨y43, rfl, g43⟩ := holdAll_is g42
            obtain ⟨y44, rfl, g44⟩ := holdAll_is g43
            obtain ⟨y45, rfl, g45⟩ := holdAll_is g44
            obtain rfl := holdAll_nil g45
            clear hks g0 g1 g2 g3 g4 g5 g6 g7 g8 g9 g10 g11 g12 g13 g14 g15 g16 g17 g18 g19 g20 g21 g22 g23 g24 g25 g26 g27 g28 g29 g30 g31 g32 g33 g34 g35 g36 g37 g38 g39 g40 g41 g42 g43 g44 g45
            simp only [List.take_succ_cons, List.take_zero, List.drop_succ_cons, List.drop_zero, endTmps, List.setIfInBounds_toArray, List.set]
            go_wp2_with fail
            go_ret
            exact ⟨(show Ending.returned (Value.bool false) = Ending.returned (Value.bool (checkB f)) by rw [hbad]), Ups.trans hu1 (Ups.trans hu (drew_ups hU))⟩
        by_cases t2 : (8192 : Int) < s.size
        · have tt := t2
          have hbad : checkB f = false := by
            rw [Bool.eq_false_iff]
            intro hck
            have := HK.out.1 hck k hlt
            rw [okAt, G1.out, G2.out, G0.out] at this
            simp only [Bool.and_eq_true, decide_eq_true_eq] at this
            omega
          go_wp2_with fail
          refine wp_region_parts (N := 46) (n := 82) (ks := [isV (.pointer (some ⟨w.heap.size, 0, none⟩)), isV (.slice (some ⟨b, off, none⟩) f.pages.length c), isV (.int .i64 k), isV (.pointer (some ⟨b, off + k, none⟩)), isV (.string s), isV (.int .i64 (s.size : Nat)), isV (.bool false), isV (.bool false), isV (.pointer (some ⟨w.heap.size, 0, none⟩)), isV (.slice (some ⟨b, off, none⟩) f.pages.length c), isV (.int .i64 k), isV (.pointer (some ⟨b, off + k, none⟩)), isV (.string s), isV (.int .i64 (s.size : Nat)), isV (.bool true), isV (.bool true), isV (.bool true), isV (undef), isV (undef), isV (undef), isV (undef), isV (undef), isV (undef), isV (undef), isV (undef), isV (undef), isV (undef), isV (undef), isV (undef), isV (.bool true), isV (.bool true), isV (undef), isV (undef), isV (undef), isV (undef), isV (undef), isV (undef), isV (.bool true), isV (.bool true), isV (undef), isV (undef), isV (undef), isV (undef), isV (undef), isV (undef), isV (.bool true)]) (by decide +kernel) (by decide +kernel) (by decide +kernel) (by simp) rfl (by decide +kernel) ⟨steady_is _, steady_is _, steady_is _, steady_is _, steady_is _, steady_is _, steady_is _, steady_is _, steady_is _, steady_is _, steady_is _, steady_is _, steady_is _, steady_is _, steady_is _, steady_is _, steady_is _, steady_is _, steady_is _, steady_is _, steady_is _, steady_is _, steady_is _, steady_is _, steady_is _, steady_is _, steady_is _, steady_is _, steady_is _, steady_is _, steady_is _, steady_is _, steady_is _, steady_is _, steady_is _, steady_is _, steady_is _, steady_is _, steady_is _, steady_is _, steady_is _, steady_is _, steady_is _, steady_is _, steady_is _, steady_is _, trivial⟩ ?_ ?_
          · refine And.intro (fun ac W hO hU H => ?_) ?_
            · have h1 : ac.tmps[1]? = some (.pointer (some ⟨w.heap.size, 0, none⟩)) := (hO 1 rfl).trans rfl
              exact growOp_plain rfl (parts_value (by simp [go_sem, h1]))
            refine And.intro (fun ac W hO hU H => ?_) ?_
            · have h36 : ac.tmps[36]? = some (.pointer (some ⟨w.heap.size, 0, none⟩)) := isV_get (W := W) (H 0 36 rfl)
              have f0 := c0 W hU
              exact growOp_plain rfl (parts_value (by simp [go_sem, h36, f0]))
            refine And.intro (fun ac W hO hU H => ?_) ?_
            · have h3 : ac.tmps[3]? = some (.int .i64 k) := (hO 3 rfl).trans rfl
              exact growOp_plain rfl (parts_value (by simp [go_sem, h3]))
            refine And.intro (fun ac W hO hU H => ?_) ?_
            · have h37 : ac.tmps[37]? = some (.slice (some ⟨b, off, none⟩) f.pages.length c) := isV_get (W := W) (H 1 37 rfl)
              have h38 : ac.tmps[38]? = some (.int .i64 k) := isV_get (W := W) (H 2 38 rfl)
              exact growOp_plain rfl (parts_value (by simp [go_sem, h37, h38, i1]))
            refine And.intro (fun ac W hO hU H => ?_) ?_
            · have h39 : ac.tmps[39]? = some (.pointer (some ⟨b, off + k, none⟩)) := isV_get (W := W) (H 3 39 rfl)
              have f0 := e1 W hU
              exact growOp_plain rfl (parts_value (by simp [go_sem, h39, f0]))
            refine And.intro (fun ac W hO hU H => ?_) ?_
            · have h40 : ac.tmps[40]? = some (.string s) := isV_get (W := W) (H 4 40 rfl)
              exact growOp_plain rfl (parts_value (by simp [go_sem, h40]))
            refine And.intro (fun ac W hO hU H => ?_) ?_
            · have h41 : ac.tmps[41]? = some (.int .i64 (s.size : Nat)) := isV_get (W := W) (H 5 41 rfl)
              exact growOp_plain rfl (parts_value (by simp [go_sem, h41, t1]))
            refine And.intro (fun ac W hO hU H => ?_) ?_
            · have h42 : ac.tmps[42]? = some (.bool false) := isV_get (W := W) (H 6 42 rfl)
              exact growOp_plain rfl (parts_value (by simp [go_sem, h42]))
            refine And.intro (fun ac W hO hU H => ?_) ?_
            · have h1 : ac.tmps[1]? = some (.pointer (some ⟨w.heap.size, 0, none⟩)) := (hO 1 rfl).trans rfl
              have hg : ac.tmps[43]? = some (.bool false) := isV_get (W := W) (H 7 43 rfl)
              exact growOp_done rfl rfl hg (parts_value (by simp [go_sem, h1]))
            refine And.intro (fun ac W hO hU H => ?_) ?_
            · have h44 : ac.tmps[44]? = some (.pointer (some ⟨w.heap.size, 0, none⟩)) := isV_get (W := W) (H 8 44 rfl)
              have hg : ac.tmps[43]? = some (.bool false) := isV_get (W := W) (H 7 43 rfl)
              have f0 := c0 W hU
              exact growOp_done rfl rfl hg (parts_value (by simp [go_sem, h44, f0]))
            refine And.intro (fun ac W hO hU H => ?_) ?_
            · have h3 : ac.tmps[3]? = some (.int .i64 k) := (hO 3 rfl).trans rfl
              have hg : ac.tmps[43]? = some (.bool false) := isV_get (W := W) (H 7 43 rfl)
              exact growOp_done rfl rfl hg (parts_value (by simp [go_sem, h3]))
            refine And.intro (fun ac W hO hU H => ?_) ?_
            · have h45 : ac.tmps[45]? = some (.slice (some ⟨b, off, none⟩) f.pages.length c) := isV_get (W := W) (H 9 45 rfl)
              have h46 : ac.tmps[46]? = some (.int .i64 k) := isV_get (W := W) (H 10 46 rfl)
              have hg : ac.tmps[43]? = some (.bool false) := isV_get (W := W) (H 7 43 rfl)
              exact growOp_done rfl rfl hg (parts_value (by simp [go_sem, h45, h46, i1]))
            refine And.intro (fun ac W hO hU H => ?_) ?_
            · have h47 : ac.tmps[47]? = some (.pointer (some ⟨b, off + k, none⟩)) := isV_get (W := W) (H 11 47 rfl)
              have hg : ac.tmps[43]? = some (.bool false) := isV_get (W := W) (H 7 43 rfl)
              have f0 := e1 W hU
              exact growOp_done rfl rfl hg (parts_value (by simp [go_sem, h47, f0]))
            refine And.intro (fun ac W hO hU H => ?_) ?_
            · have h48 : ac.tmps[48]? = some (.string s) := isV_get (W := W) (H 12 48 rfl)
              have hg : ac.tmps[43]? = some (.bool false) := isV_get (W := W) (H 7 43 rfl)
              exact growOp_done rfl rfl hg (parts_value (by simp [go_sem, h48]))
            refine And.intro (fun ac W hO hU H => ?_) ?_
            · have h49 : ac.tmps[49]? = some (.int .i64 (s.size : Nat)) := isV_get (W := W) (H 13 49 rfl)
              have hg : ac.tmps[43]? = some (.bool false) := isV_get (W := W) (H 7 43 rfl)
              exact growOp_done rfl rfl hg (parts_value (by simp [go_sem, h49, t2]))
            refine And.intro (fun ac W hO hU H => ?_) ?_
            · have h43 : ac.tmps[43]? = some (.bool false) := isV_get (W := W) (H 7 43 rfl)
              have h50 : ac.tmps[50]? = some (.bool true) := isV_get (W := W) (H 14 50 rfl)
              exact growOp_plain rfl (parts_value (by simp [go_sem, h43, h50]))
            refine And.intro (fun ac W hO hU H => ?_) ?_
            · have h51 : ac.tmps[51]? = some (.bool true) := isV_get (W := W) (H 15 51 rfl)
              exact growOp_plain rfl (parts_value (by simp [go_sem, h51]))
            refine And.intro (fun ac W hO hU H => ?_) ?_
            · have hg : ac.tmps[52]? = some (.bool true) := isV_get (W := W) (H 16 52 rfl)
              exact growOp_left rfl rfl hg Ups.refl rfl
            refine And.intro (fun ac W hO hU H => ?_) ?_
            · have hg : ac.tmps[52]? = some (.bool true) := isV_get (W := W) (H 16 52 rfl)
              exact growOp_left rfl rfl hg Ups.refl rfl
            refine And.intro (fun ac W hO hU H => ?_) ?_
            · have hg : ac.tmps[52]? = some (.bool true) := isV_get (W := W) (H 16 52 rfl)
              exact growOp_left rfl rfl hg Ups.refl rfl
            refine And.intro (fun ac W hO hU H => ?_) ?_
            · have hg : ac.tmps[52]? = some (.bool true) := isV_get (W := W) (H 16 52 rfl)
              exact growOp_left rfl rfl hg Ups.refl rfl
            refine And.intro (fun ac W hO hU H => ?_) ?_
            · have hg : ac.tmps[52]? = some (.bool true) := isV_get (W := W) (H 16 52 rfl)
              exact growOp_left rfl rfl hg Ups.refl rfl
            refine And.intro (fun ac W hO hU H => ?_) ?_
            · have hg : ac.tmps[52]? = some (.bool true) := isV_get (W := W) (H 16 52 rfl)
              exact growOp_left rfl rfl hg Ups.refl rfl
            refine And.intro (fun ac W hO hU H => ?_) ?_
            · have hg : ac.tmps[52]? = some (.bool true) := isV_get (W := W) (H 16 52 rfl)
              exact growOp_left rfl rfl hg Ups.refl rfl
            refine And.intro (fun ac W hO hU H => ?_) ?_
            · have hg : ac.tmps[52]? = some (.bool true) := isV_get (W := W) (H 16 52 rfl)
              exact growOp_left rfl rfl hg Ups.refl rfl
            refine And.intro (fun ac W hO hU H => ?_) ?_
            · have hg : ac.tmps[52]? = some (.bool true) := isV_get (W := W) (H 16 52 rfl)
              exact growOp_left rfl rfl hg Ups.refl rfl
            refine And.intro (fun ac W hO hU H => ?_) ?_
            · have hg : ac.tmps[52]? = some (.bool true) := isV_get (W := W) (H 16 52 rfl)
              exact growOp_left rfl rfl hg Ups.refl rfl
            refine And.intro (fun ac W hO hU H => ?_) ?_
            · have hg : ac.tmps[52]? = some (.bool true) := isV_get (W := W) (H 16 52 rfl)
              exact growOp_left rfl rfl hg Ups.refl rfl
            refine And.intro (fun ac W hO hU H => ?_) ?_
            · have hg : ac.tmps[52]? = some (.bool true) := isV_get (W := W) (H 16 52 rfl)
              exact growOp_left rfl rfl hg Ups.refl rfl
            refine And.intro (fun ac W hO hU H => ?_) ?_
            · have h52 : ac.tmps[52]? = some (.bool true) := isV_get (W := W) (H 16 52 rfl)
              have h64 : ac.tmps[64]? = some (undef) := isV_get (W := W) (H 28 64 rfl)
              exact growOp_plain rfl (parts_value (by simp [go_sem, h52, h64]))
            refine And.intro (fun ac W hO hU H => ?_) ?_
            · have h65 : ac.tmps[65]? = some (.bool true) := isV_get (W := W) (H 29 65 rfl)
              exact growOp_plain rfl (parts_value (by simp [go_sem, h65]))
            refine And.intro (fun ac W hO hU H => ?_) ?_
            · have hg : ac.tmps[66]? = some (.bool true) := isV_get (W := W) (H 30 66 rfl)
              exact growOp_left rfl rfl hg Ups.refl rfl
            refine And.intro (fun ac W hO hU H => ?_) ?_
            · have hg : ac.tmps[66]? = some (.bool true) := isV_get (W := W) (H 30 66 rfl)
              exact growOp_left rfl rfl hg Ups.refl rfl
            refine And.intro (fun ac W hO hU H => ?_) ?_
            · have hg : ac.tmps[66]? = some (.bool true) := isV_get (W := W) (H 30 66 rfl)
              exact growOp_left rfl rfl hg Ups.refl rfl
            refine And.intro (fun ac W hO hU H => ?_) ?_
            · have hg : ac.tmps[66]? = some (.bool true) := isV_get (W := W) (H 30 66 rfl)
              exact growOp_left rfl rfl hg Ups.refl rfl
            refine And.intro (fun ac W hO hU H => ?_) ?_
            · have hg : ac.tmps[66]? = some (.bool true) := isV_get (W := W) (H 30 66 rfl)
              exact growOp_left rfl rfl hg Ups.refl rfl
            refine And.intro (fun ac W hO hU H => ?_) ?_
            · have hg : ac.tmps[66]? = some (.bool true) := isV_get (W := W) (H 30 66 rfl)
              exact growOp_left rfl rfl hg Ups.refl rfl
            refine And.intro (fun ac W hO hU H => ?_) ?_
            · have h66 : ac.tmps[66]? = some (.bool true) := isV_get (W := W) (H 30 66 rfl)
              have h72 : ac.tmps[72]? = some (undef) := isV_get (W := W) (H 36 72 rfl)
              exact growOp_plain rfl (parts_value (by simp [go_sem, h66, h72]))
            refine And.intro (fun ac W hO hU H => ?_) ?_
            · have h73 : ac.tmps[73]? = some (.bool true) := isV_get (W := W) (H 37 73 rfl)
              exact growOp_plain rfl (parts_value (by simp [go_sem, h73]))
            refine And.intro (fun ac W hO hU H => ?_) ?_
            · have hg : ac.tmps[74]? = some (.bool true) := isV_get (W := W) (H 38 74 rfl)
              exact growOp_left rfl rfl hg Ups.refl rfl
            refine And.intro (fun ac W hO hU H => ?_) ?_
            · have hg : ac.tmps[74]? = some (.bool true) := isV_get (W := W) (H 38 74 rfl)
              exact growOp_left rfl rfl hg Ups.refl rfl
            refine And.intro (fun ac W hO hU H => ?_) ?_
            · have hg : ac.tmps[74]? = some (.bool true) := isV_get (W := W) (H 38 74 rfl)
              exact growOp_left rfl rfl hg Ups.refl rfl
            refine And.intro (fun ac W hO hU H => ?_) ?_
            · have hg : ac.tmps[74]? = some (.bool true) := isV_get (W := W) (H 38 74 rfl)
              exact growOp_left rfl rfl hg Ups.refl rfl
            refine And.intro (fun ac W hO hU H => ?_) ?_
            · have hg : ac.tmps[74]? = some (.bool true) := isV_get (W := W) (H 38 74 rfl)
              exact growOp_left rfl rfl hg Ups.refl rfl
            refine And.intro (fun ac W hO hU H => ?_) ?_
            · have hg : ac.tmps[74]? = some (.bool true) := isV_get (W := W) (H 38 74 rfl)
              exact growOp_left rfl rfl hg Ups.refl rfl
            refine And.intro (fun ac W hO hU H => ?_) ?_
            · have h74 : ac.tmps[74]? = some (.bool true) := isV_get (W := W) (H 38 74 rfl)
              have h80 : ac.tmps[80]? = some (undef) := isV_get (W := W) (H 44 80 rfl)
              exact growOp_plain rfl (parts_value (by simp [go_sem, h74, h80]))
            exact trivial
          · intro W xs hU hks
            obtain ⟨y0, rfl, g0⟩ := holdAll_is hks
            obtain ⟨y1, rfl, g1⟩ := holdAll_is g0
            obtain ⟨y2, rfl, g2⟩ := holdAll_is g1
            obtain ⟨y3, rfl, g3⟩ := holdAll_is g2
            obtain ⟨y4, rfl, g4⟩ := holdAll_is g3
            obtain ⟨y5, rfl, g5⟩ := holdAll_is g4
            obtain ⟨y6, rfl, g6⟩ := holdAll_is g5
            obtain ⟨y7, rfl, g7⟩ := holdAll_is g6
            obtain ⟨y8, rfl, g8⟩ := holdAll_is g7
            obtain ⟨y9, rfl, g9⟩ := holdAll_is g8
            obtain ⟨y10, rfl, g10⟩ := holdAll_is g9
            obtain ⟨y11, rfl, g11⟩ := holdAll_is g10
            obtain ⟨y12, rfl, g12⟩ := holdAll_is g11
            obtain ⟨y13, rfl, g13⟩ := holdAll_is g12
            obtain ⟨y14, rfl, g14⟩ := holdAll_is g13
            obtain ⟨y15, rfl, g15⟩ := holdAll_is g14
            obtain ⟨y16, rfl, g16⟩ := holdAll_is g15
            obtain ⟨y17, rfl, g17⟩ := holdAll_is g16
            obtain ⟨y18, rfl, g18⟩ := holdAll_is g17
            obtain ⟨y19, rfl, g19⟩ := holdAll_is g18
            obtain ⟨y20, rfl, g20⟩ := holdAll_is g19
            obtain ⟨y21, rfl, g21⟩ := holdAll_is g20
            obtain ⟨y22, rfl, g22⟩ := holdAll_is g21
            obtain ⟨y23, rfl, g23⟩ := holdAll_is g22
            obtain ⟨y24, rfl, g24⟩ := holdAll_is g23
            obtain ⟨y25, rfl, g25⟩ := holdAll_is g24
            obtain ⟨y26, rfl, g26⟩ := holdAll_is g25
            obtain ⟨y27, rfl, g27⟩ := holdAll_is g26
            obtain ⟨y28, rfl, g28⟩ := holdAll_is g27
            obtain ⟨y29, rfl, g29⟩ := holdAll_is g28
            obtain ⟨y30, rfl, g30⟩ := holdAll_is g29
            obtain ⟨y31, rfl, g31⟩ := holdAll_is g30
            obtain ⟨y32, rfl, g32⟩ := holdAll_is g31
            obtain ⟨y33, rfl, g33⟩ := holdAll_is g32
            obtain ⟨y34, rfl, g34⟩ := holdAll_is g33
            obtain ⟨y35, rfl, g35⟩ := holdAll_is g34
            obtain ⟨y36, rfl, g36⟩ := holdAll_is g35
            obtain ⟨y37, rfl, g37⟩ := holdAll_is g36
            obtain ⟨y38, rfl, g38⟩ := holdAll_is g37
            obtain ⟨y39, rfl, g39⟩ := holdAll_is g38
            obtain ⟨y40, rfl, g40⟩ := holdAll_is g39
            obtain ⟨y41, rfl, g41⟩ := holdAll_is g40
            obtain ⟨y42, rfl, g42⟩ := holdAll_is g41
            obtain ⟨y43, rfl, g43⟩ := holdAll_is g42
            obtain ⟨y44, rfl, g44⟩ := holdAll_is g43
            obtain ⟨y45, rfl, g45⟩ := holdAll_is g44
            obtain rfl := holdAll_nil g45
            clear hks g0 g1 g2 g3 g4 g5 g6 g7 g8 g9 g10 g11 g12 g13 g14 g15 g16 g17 g18 g19 g20 g21 g22 g23 g24 g25 g26 g27 g28 g29 g30 g31 g32 g33 g34 g35 g36 g37 g38 g39 g40 g41 g42 g43 g44 g45
            simp only [List.take_succ_cons, List.take_zero, List.drop_succ_cons, List.drop_zero, endTmps, List.setIfInBounds_toArray, List.set]
            go_wp2_with fail
            go_ret
            exact ⟨(show Ending.returned (Value.bool false) = Ending.returned (Value.bool (checkB f)) by rw [hbad]), Ups.trans hu1 (Ups.trans hu (drew_ups hU))⟩
        rcases Decidable.em (¬ s.size = t.size) with t3 | t3n
        · have t3' : ((s.size : Int) != t.size) = true := by
            have : ¬ (s.size : Int) = t.size := by omega
            simpa using this
          have hbad : checkB f = false := by
            rw [Bool.eq_false_iff]
            intro hck
            have := HK.out.1 hck k hlt
            rw [okAt, G1.out, G2.out, G0.out] at this
            simp only [Bool.and_eq_true, decide_eq_true_eq] at this
            omega
          go_wp2_with fail
          refine wp_region_parts (N := 46) (n := 82) (ks := [isV (.pointer (some ⟨w.heap.size, 0, none⟩)), isV (.slice (some ⟨b, off, none⟩) f.pages.length c), isV (.int .i64 k), isV (.pointer (some ⟨b, off + k, none⟩)), isV (.string s), isV (.int .i64 (s.size : Nat)), isV (.bool false), isV (.bool false), isV (.pointer (some ⟨w.heap.size, 0, none⟩)), isV (.slice (some ⟨b, off, none⟩) f.pages.length c), isV (.int .i64 k), isV (.pointer (some ⟨b, off + k, none⟩)), isV (.string s), isV (.int .i64 (s.size : Nat)), isV (.bool false), isV (.bool false), isV (.bool false), isV (.pointer (some ⟨w.heap.size, 0, none⟩)), isV (.slice (some ⟨b, off, none⟩) f.pages.length c), isV (.int .i64 k), isV (.pointer (some ⟨b, off + k, none⟩)), isV (.string s), isV (.int .i64 (s.size : Nat)), isV (.pointer (some ⟨w.heap.size, 0, none⟩)), isV (.slice (some ⟨b, off, none⟩) f.pages.length c), isV (.pointer (some ⟨b, off, none⟩)), isV (.string t), isV (.int .i64 (t.size : Nat)), isV (.bool true), isV (.bool true), isV (.bool true), isV (undef), isV (undef), isV (undef), isV (undef), isV (undef), isV (undef), isV (.bool true), isV (.bool true), isV (undef), isV (undef), isV (undef), isV (undef), isV (undef), isV (undef), isV (.bool true)]) (by decide +kernel) (by decide +kernel) (by decide +kernel) (by simp) rfl (by decide +kernel) ⟨steady_is _, steady_is _, steady_is _, steady_is _, steady_is _, steady_is _, steady_is _, steady_is _, steady_is _, steady_is _, steady_is _, steady_is _, steady_is _, steady_is _, steady_is _, steady_is _, steady_is _, steady_is _, steady_is _, steady_is _, steady_is _, steady_is _, steady_is _, steady_is _, steady_is _, steady_is _, steady_is _, steady_is _, steady_is _, steady_is _, steady_is _, steady_is _, steady_is _, steady_is _, steady_is _, steady_is _, steady_is _, steady_is _, steady_is _, steady_is _, steady_is _, steady_is _, steady_is _, steady_is _, steady_is _, steady_is _, trivial⟩ ?_ ?_
          · refine And.intro (fun ac W hO hU H => ?_) ?_
            · have h1 : ac.tmps[1]? = some (.pointer (some ⟨w.heap.size, 0, none⟩)) := (hO 1 rfl).trans rfl
              exact growOp_plain rfl (parts_value (by simp [go_sem, h1]))
            refine And.intro (fun ac W hO hU H => ?_) ?_
            · have h36 : ac.tmps[36]? = some (.pointer (some ⟨w.heap.size, 0, none⟩)) := isV_get (W := W) (H 0 36 rfl)
              have f0 := c0 W hU
              exact growOp_plain rfl (parts_value (by simp [go_sem, h36, f0]))
            refine And.intro (fun ac W hO hU H => ?_) ?_
            · have h3 : ac.tmps[3]? = some (.int .i64 k) := (hO 3 rfl).trans rfl
              exact growOp_plain rfl (parts_value (by simp [go_sem, h3]))
            refine And.intro (fun ac W hO hU H => ?_) ?_
            · have h37 : ac.tmps[37]? = some (.slice (some ⟨b, off, none⟩) f.pages.length c) := isV_get (W := W) (H 1 37 rfl)
              have h38 : ac.tmps[38]? = some (.int .i64 k) := isV_get (W := W) (H 2 38 rfl)
              exact growOp_plain rfl (parts_value (by simp [go_sem, h37, h38, i1]))
            refine And.intro (fun ac W hO hU H => ?_) ?_
            · have h39 : ac.tmps[39]? = some (.pointer (some ⟨b, off + k, none⟩)) := isV_get (W := W) (H 3 39 rfl)
              have f0 := e1 W hU
              exact growOp_plain rfl (parts_value (by simp [go_sem, h39, f0]))
            refine And.intro (fun ac W hO hU H => ?_) ?_
            · have h40 : ac.tmps[40]? = some (.string s) := isV_get (W := W) (H 4 40 rfl)
              exact growOp_plain rfl (parts_value (by simp [go_sem, h40]))
            refine And.intro (fun ac W hO hU H => ?_) ?_
            · have h41 : ac.tmps[41]? = some (.int .i64 (s.size : Nat)) := isV_get (W := W) (H 5 41 rfl)
              exact growOp_plain rfl (parts_value (by simp [go_sem, h41, t1]))
            refine And.intro (fun ac W hO hU H => ?_) ?_
            · have h42 : ac.tmps[42]? = some (.bool false) := isV_get (W := W) (H 6 42 rfl)
              exact growOp_plain rfl (parts_value (by simp [go_sem, h42]))
            refine And.intro (fun ac W hO hU H => ?_) ?_
            · have h1 : ac.tmps[1]? = some (.pointer (some ⟨w.heap.size, 0, none⟩)) := (hO 1 rfl).trans rfl
              have hg : ac.tmps[43]? = some (.bool false) := isV_get (W := W) (H 7 43 rfl)
              exact growOp_done rfl rfl hg (parts_value (by simp [go_sem, h1]))
            refine And.intro (fun ac W hO hU H => ?_) ?_
            · have h44 : ac.tmps[44]? = some (.pointer (some ⟨w.heap.size, 0, none⟩)) := isV_get (W := W) (H 8 44 rfl)
              have hg : ac.tmps[43]? = some (.bool false) := isV_get (W := W) (H 7 43 rfl)
              have f0 := c0 W hU
              exact growOp_done rfl rfl hg (parts_value (by simp [go_sem, h44, f0]))
            refine And.intro (fun ac W hO hU H => ?_) ?_
            · have h3 : ac.tmps[3]? = some (.int .i64 k) := (hO 3 rfl).trans rfl
              have hg : ac.tmps[43]? = some (.bool false) := isV_get (W := W) (H 7 43 rfl)
              exact growOp_done rfl rfl hg (parts_value (by simp [go_sem, h3]))
            refine And.intro (fun ac W hO hU H => ?_) ?_
            · have h45 : ac.tmps[45]? = some (.slice (some ⟨b, off, none⟩) f.pages.length c) := isV_get (W := W) (H 9 45 rfl)
              have h46 : ac.tmps[46]? = some (.int .i64 k) := isV_get (W := W) (H 10 46 rfl)
              have hg : ac.tmps[43]? = some (.bool false) := isV_get (W := W) (H 7 43 rfl)
              exact growOp_done rfl rfl hg (parts_value (by simp [go_sem, h45, h46, i1]))
            refine And.intro (fun ac W hO hU H => ?_) ?_
            · have h47 : ac.tmps[47]? = some (.pointer (some ⟨b, off + k, none⟩)) := isV_get (W := W) (H 11 47 rfl)
              have hg : ac.tmps[43]? = some (.bool false) := isV_get (W := W) (H 7 43 rfl)
              have f0 := e1 W hU
              exact growOp_done rfl rfl hg (parts_value (by simp [go_sem, h47, f0]))
            refine And.intro (fun ac W hO hU H => ?_) ?_
            · have h48 : ac.tmps[48]? = some (.string s) := isV_get (W := W) (H 12 48 rfl)
              have hg : ac.tmps[43]? = some (.bool false) := isV_get (W := W) (H 7 43 rfl)
              exact growOp_done rfl rfl hg (parts_value (by simp [go_sem, h48]))
            refine And.intro (fun ac W hO hU H => ?_) ?_
            · have h49 : ac.tmps[49]? = some (.int .i64 (s.size : Nat)) := isV_get (W := W) (H 13 49 rfl)
              have hg : ac.tmps[43]? = some (.bool false) := isV_get (W := W) (H 7 43 rfl)
              exact growOp_done rfl rfl hg (parts_value (by simp [go_sem, h49, t2]))
            refine And.intro (fun ac W hO hU H => ?_) ?_
            · have h43 : ac.tmps[43]? = some (.bool false) := isV_get (W := W) (H 7 43 rfl)
              have h50 : ac.tmps[50]? = some (.bool false) := isV_get (W := W) (H 14 50 rfl)
              exact growOp_plain rfl (parts_value (by simp [go_sem, h43, h50]))
            refine And.intro (fun ac W hO hU H => ?_) ?_
            · have h51 : ac.tmps[51]? = some (.bool false) := isV_get (W := W) (H 15 51 rfl)
              exact growOp_plain rfl (parts_value (by simp [go_sem, h51]))
            refine And.intro (fun ac W hO hU H => ?_) ?_
            · have h1 : ac.tmps[1]? = some (.pointer (some ⟨w.heap.size, 0, none⟩)) := (hO 1 rfl).trans rfl
              have hg : ac.tmps[52]? = some (.bool false) := isV_get (W := W) (H 16 52 rfl)
              exact growOp_done rfl rfl hg (parts_value (by simp [go_sem, h1]))
            refine And.intro (fun ac W hO hU H => ?_) ?_
            · have h53 : ac.tmps[53]? = some (.pointer (some ⟨w.heap.size, 0, none⟩)) := isV_get (W := W) (H 17 53 rfl)
              have hg : ac.tmps[52]? = some (.bool false) := isV_get (W := W) (H 16 52 rfl)
              have f0 := c0 W hU
              exact growOp_done rfl rfl hg (parts_value (by simp [go_sem, h53, f0]))
            refine And.intro (fun ac W hO hU H => ?_) ?_
            · have h3 : ac.tmps[3]? = some (.int .i64 k) := (hO 3 rfl).trans rfl
              have hg : ac.tmps[52]? = some (.bool false) := isV_get (W := W) (H 16 52 rfl)
              exact growOp_done rfl rfl hg (parts_value (by simp [go_sem, h3]))
            refine And.intro (fun ac W hO hU H => ?_) ?_
            · have h54 : ac.tmps[54]? = some (.slice (some ⟨b, off, none⟩) f.pages.length c) := isV_get (W := W) (H 18 54 rfl)
              have h55 : ac.tmps[55]? = some (.int .i64 k) := isV_get (W := W) (H 19 55 rfl)
              have hg : ac.tmps[52]? = some (.bool false) := isV_get (W := W) (H 16 52 rfl)
              exact growOp_done rfl rfl hg (parts_value (by simp [go_sem, h54, h55, i1]))
            refine And.intro (fun ac W hO hU H => ?_) ?_
            · have h56 : ac.tmps[56]? = some (.pointer (some ⟨b, off + k, none⟩)) := isV_get (W := W) (H 20 56 rfl)
              have hg : ac.tmps[52]? = some (.bool false) := isV_get (W := W) (H 16 52 rfl)
              have f0 := e1 W hU
              exact growOp_done rfl rfl hg (parts_value (by simp [go_sem, h56, f0]))
            refine And.intro (fun ac W hO hU H => ?_) ?_
            · have h57 : ac.tmps[57]? = some (.string s) := isV_get (W := W) (H 21 57 rfl)
              have hg : ac.tmps[52]? = some (.bool false) := isV_get (W := W) (H 16 52 rfl)
              exact growOp_done rfl rfl hg (parts_value (by simp [go_sem, h57]))
            refine And.intro (fun ac W hO hU H => ?_) ?_
            · have h1 : ac.tmps[1]? = some (.pointer (some ⟨w.heap.size, 0, none⟩)) := (hO 1 rfl).trans rfl
              have hg : ac.tmps[52]? = some (.bool false) := isV_get (W := W) (H 16 52 rfl)
              exact growOp_done rfl rfl hg (parts_value (by simp [go_sem, h1]))
            refine And.intro (fun ac W hO hU H => ?_) ?_
            · have h59 : ac.tmps[59]? = some (.pointer (some ⟨w.heap.size, 0, none⟩)) := isV_get (W := W) (H 23 59 rfl)
              have hg : ac.tmps[52]? = some (.bool false) := isV_get (W := W) (H 16 52 rfl)
              have f0 := c0 W hU
              exact growOp_done rfl rfl hg (parts_value (by simp [go_sem, h59, f0]))
            refine And.intro (fun ac W hO hU H => ?_) ?_
            · have h60 : ac.tmps[60]? = some (.slice (some ⟨b, off, none⟩) f.pages.length c) := isV_get (W := W) (H 24 60 rfl)
              have hg : ac.tmps[52]? = some (.bool false) := isV_get (W := W) (H 16 52 rfl)
              exact growOp_done rfl rfl hg (parts_value (by simp [go_sem, h60, hpn]))
            refine And.intro (fun ac W hO hU H => ?_) ?_
            · have h61 : ac.tmps[61]? = some (.pointer (some ⟨b, off, none⟩)) := isV_get (W := W) (H 25 61 rfl)
              have hg : ac.tmps[52]? = some (.bool false) := isV_get (W := W) (H 16 52 rfl)
              have f0 := e0 W hU
              exact growOp_done rfl rfl hg (parts_value (by simp [go_sem, h61, f0]))
            refine And.intro (fun ac W hO hU H => ?_) ?_
            · have h62 : ac.tmps[62]? = some (.string t) := isV_get (W := W) (H 26 62 rfl)
              have hg : ac.tmps[52]? = some (.bool false) := isV_get (W := W) (H 16 52 rfl)
              exact growOp_done rfl rfl hg (parts_value (by simp [go_sem, h62]))
            refine And.intro (fun ac W hO hU H => ?_) ?_
            · have h58 : ac.tmps[58]? = some (.int .i64 (s.size : Nat)) := isV_get (W := W) (H 22 58 rfl)
              have h63 : ac.tmps[63]? = some (.int .i64 (t.size : Nat)) := isV_get (W := W) (H 27 63 rfl)
              have hg : ac.tmps[52]? = some (.bool false) := isV_get (W := W) (H 16 52 rfl)
              exact growOp_done rfl rfl hg (parts_value (by simp [go_sem, h58, h63, t3']))
            refine And.intro (fun ac W hO hU H => ?_) ?_
            · have h52 : ac.tmps[52]? = some (.bool false) := isV_get (W := W) (H 16 52 rfl)
              have h64 : ac.tmps[64]? = some (.bool true) := isV_get (W := W) (H 28 64 rfl)
              exact growOp_plain rfl (parts_value (by simp [go_sem, h52, h64]))
            refine And.intro (fun ac W hO hU H => ?_) ?_
            · have h65 : ac.tmps[65]? = some (.bool true) := isV_get (W := W) (H 29 65 rfl)
              exact growOp_plain rfl (parts_value (by simp [go_sem, h65]))
            refine And.intro (fun ac W hO hU H => ?_) ?_
            · have hg : ac.tmps[66]? = some (.bool true) := isV_get (W := W) (H 30 66 rfl)
              exact growOp_left rfl rfl hg Ups.refl rfl
            refine And.intro (fun ac W hO hU H => ?_) ?_
            · have hg : ac.tmps[66]? = some (.bool true) := isV_get (W := W) (H 30 66 rfl)
              exact growOp_left rfl rfl hg Ups.refl rfl
            refine And.intro (fun ac W hO hU H => ?_) ?_
            · have hg : ac.tmps[66]? = some (.bool true) := isV_get (W := W) (H 30 66 rfl)
              exact growOp_left rfl rfl hg Ups.refl rfl
            refine And.intro (fun ac W hO hU H => ?_) ?_
            · have hg : ac.tmps[66]? = some (.bool true) := isV_get (W := W) (H 30 66 rfl)
              exact growOp_left rfl rfl hg Ups.refl rfl
            refine And.intro (fun ac W hO hU H => ?_) ?_
            · have hg : ac.tmps[66]? = some (.bool true) := isV_get (W := W) (H 30 66 rfl)
              exact growOp_left rfl rfl hg Ups.refl rfl
            refine And.intro (fun ac W hO hU H => ?_) ?_
            · have hg : ac.tmps[66]? = some (.bool true) := isV_get (W := W) (H 30 66 rfl)
              exact growOp_left rfl rfl hg Ups.refl rfl
            refine And.intro (fun ac W hO hU H => ?_) ?_
            · have h66 : ac.tmps[66]? = some (.bool true) := isV_get (W := W) (H 30 66 rfl)
              have h72 : ac.tmps[72]? = some (undef) := isV_get (W := W) (H 36 72 rfl)
              exact growOp_plain rfl (parts_value (by simp [go_sem, h66, h72]))
            refine And.intro (fun ac W hO hU H => ?_) ?_
            · have h73 : ac.tmps[73]? = some (.bool true) := isV_get (W := W) (H 37 73 rfl)
              exact growOp_plain rfl (parts_value (by simp [go_sem, h73]))
            refine And.intro (fun ac W hO hU H => ?_) ?_
            · have hg : ac.tmps[74]? = some (.bool true) := isV_get (W := W) (H 38 74 rfl)
              exact growOp_left rfl rfl hg Ups.refl rfl
            refine And.intro (fun ac W hO hU H => ?_) ?_
            · have hg : ac.tmps[74]? = some (.bool true) := isV_get (W := W) (H 38 74 rfl)
              exact growOp_left rfl rfl hg Ups.refl rfl
            refine And.intro (fun ac W hO hU H => ?_) ?_
            · have hg : ac.tmps[74]? = some (.bool true) := isV_get (W := W) (H 38 74 rfl)
              exact growOp_left rfl rfl hg Ups.refl rfl
            refine And.intro (fun ac W hO hU H => ?_) ?_
            · have hg : ac.tmps[74]? = some (.bool true) := isV_get (W := W) (H 38 74 rfl)
              exact growOp_left rfl rfl hg Ups.refl rfl
            refine And.intro (fun ac W hO hU H => ?_) ?_
            · have hg : ac.tmps[74]? = some (.bool true) := isV_get (W := W) (H 38 74 rfl)
              exact growOp_left rfl rfl hg Ups.refl rfl
            refine And.intro (fun ac W hO hU H => ?_) ?_
            · have hg : ac.tmps[74]? = some (.bool true) := isV_get (W := W) (H 38 74 rfl)
              exact growOp_left rfl rfl hg Ups.refl rfl
            refine And.intro (fun ac W hO hU H => ?_) ?_
            · have h74 : ac.tmps[74]? = some (.bool true) := isV_get (W := W) (H 38 74 rfl)
              have h80 : ac.tmps[80]? = some (undef) := isV_get (W := W) (H 44 80 rfl)
              exact growOp_plain rfl (parts_value (by simp [go_sem, h74, h80]))
            exact trivial
          · intro W xs hU hks
            obtain ⟨y0, rfl, g0⟩ := holdAll_is hks
            obtain ⟨y1, rfl, g1⟩ := holdAll_is g0
            obtain ⟨y2, rfl, g2⟩ := holdAll_is g1
            obtain ⟨y3, rfl, g3⟩ := holdAll_is g2
            obtain ⟨y4, rfl, g4⟩ := holdAll_is g3
            obtain ⟨y5, rfl, g5⟩ := holdAll_is g4
            obtain ⟨y6, rfl, g6⟩ := holdAll_is g5
            obtain ⟨y7, rfl, g7⟩ := holdAll_is g6
            obtain ⟨y8, rfl, g8⟩ := holdAll_is g7
            obtain ⟨y9, rfl, g9⟩ := holdAll_is g8
            obtain ⟨y10, rfl, g10⟩ := holdAll_is g9
            obtain ⟨y11, rfl, g11⟩ := holdAll_is g10
            obtain ⟨y12, rfl, g12⟩ := holdAll_is g11
            obtain ⟨y13, rfl, g13⟩ := holdAll_is g12
            obtain ⟨y14, rfl, g14⟩ := holdAll_is g13
            obtain ⟨y15, rfl, g15⟩ := holdAll_is g14
            obtain ⟨y16, rfl, g16⟩ := holdAll_is g15
            obtain ⟨y17, rfl, g17⟩ := holdAll_is g16
            obtain ⟨y18, rfl, g18⟩ := holdAll_is g17
            obtain ⟨y19, rfl, g19⟩ := holdAll_is g18
            obtain ⟨y20, rfl, g20⟩ := holdAll_is g19
            obtain ⟨y21, rfl, g21⟩ := holdAll_is g20
            obtain ⟨y22, rfl, g22⟩ := holdAll_is g21
            obtain ⟨y23, rfl, g23⟩ := holdAll_is g22
            obtain ⟨y24, rfl, g24⟩ := holdAll_is g23
            obtain ⟨y25, rfl, g25⟩ := holdAll_is g24
            obtain ⟨y26, rfl, g26⟩ := holdAll_is g25
            obtain ⟨y27, rfl, g27⟩ := holdAll_is g26
            obtain ⟨y28, rfl, g28⟩ := holdAll_is g27
            obtain ⟨y29, rfl, g29⟩ := holdAll_is g28
            obtain ⟨y30, rfl, g30⟩ := holdAll_is g29
            obtain ⟨y31, rfl, g31⟩ := holdAll_is g30
            obtain ⟨y32, rfl, g32⟩ := holdAll_is g31
            obtain ⟨y33, rfl, g33⟩ := holdAll_is g32
            obtain ⟨y34, rfl, g34⟩ := holdAll_is g33
            obtain ⟨y35, rfl, g35⟩ := holdAll_is g34
            obtain ⟨y36, rfl, g36⟩ := holdAll_is g35
            obtain ⟨y37, rfl, g37⟩ := holdAll_is g36
            obtain ⟨y38, rfl, g38⟩ := holdAll_is g37
            obtain ⟨y39, rfl, g39⟩ := holdAll_is g38
            obtain ⟨y40, rfl, g40⟩ := holdAll_is g39
            obtain ⟨y41, rfl, g41⟩ := holdAll_is g40
            obtain ⟨y42, rfl, g42⟩ := holdAll_is g41
            obtain ⟨y43, rfl, g43⟩ := holdAll_is g42
            obtain ⟨y44, rfl, g44⟩ := holdAll_is g43
            obtain ⟨y45, rfl, g45⟩ := holdAll_is g44
            obtain rfl := holdAll_nil g45
            clear hks g0 g1 g2 g3 g4 g5 g6 g7 g8 g9 g10 g11 g12 g13 g14 g15 g16 g17 g18 g19 g20 g21 g22 g23 g24 g25 g26 g27 g28 g29 g30 g31 g32 g33 g34 g35 g36 g37 g38 g39 g40 g41 g42 g43 g44 g45
            simp only [List.take_succ_cons, List.take_zero, List.drop_succ_cons, List.drop_zero, endTmps, List.setIfInBounds_toArray, List.set]
            go_wp2_with fail
            go_ret
            exact ⟨(show Ending.returned (Value.bool false) = Ending.returned (Value.bool (checkB f)) by rw [hbad]), Ups.trans hu1 (Ups.trans hu (drew_ups hU))⟩
        have t3 : s.size = t.size := Decidable.not_not.1 t3n
        have t3' : ((s.size : Int) != t.size) = false := by
          have : (s.size : Int) = t.size := by omega
          simpa using this
        have T3 := Lib.hid t3
        clear t3 t3n
        by_cases t4 : z < 0
        · have tt := t4
          have hbad : checkB f = false := by
            rw [Bool.eq_false_iff]
            intro hck
            have := HK.out.1 hck k hlt
            rw [okAt, G1.out, G2.out, G0.out] at this
            simp only [Bool.and_eq_true, decide_eq_true_eq] at this
            omega
          go_wp2_with fail
          refine wp_region_parts (N := 46) (n := 82) (ks := [isV (.pointer (some ⟨w.heap.size, 0, none⟩)), isV (.slice (some ⟨b, off, none⟩) f.pages.length c), isV (.int .i64 k), isV (.pointer (some ⟨b, off + k, none⟩)), isV (.string s), isV (.int .i64 (s.size : Nat)), isV (.bool false), isV (.bool false), isV (.pointer (some ⟨w.heap.size, 0, none⟩)), isV (.slice (some ⟨b, off, none⟩) f.pages.length c), isV (.int .i64 k), isV (.pointer (some ⟨b, off + k, none⟩)), isV (.string s), isV (.int .i64 (s.size : Nat)), isV (.bool false), isV (.bool false), isV (.bool false), isV (.pointer (some ⟨w.heap.size, 0, none⟩)), isV (.slice (some ⟨b, off, none⟩) f.pages.length c), isV (.int .i64 k), isV (.pointer (some ⟨b, off + k, none⟩)), isV (.string s), isV (.int .i64 (s.size : Nat)), isV (.pointer (some ⟨w.heap.size, 0, none⟩)), isV (.slice (some ⟨b, off, none⟩) f.pages.length c), isV (.pointer (some ⟨b, off, none⟩)), isV (.string t), isV (.int .i64 (t.size : Nat)), isV (.bool false), isV (.bool false), isV (.bool false), isV (.pointer (some ⟨w.heap.size, 1, none⟩)), isV (.slice (some ⟨b', off', none⟩) f.wear.length c'), isV (.int .i64 k), isV (.pointer (some ⟨b', off' + k, none⟩)), isV (.int .i64 z), isV (.bool true), isV (.bool true), isV (.bool true), isV (undef), isV (undef), isV (undef), isV (undef), isV (undef), isV (undef), isV (.bool true)]) (by decide +kernel) (by decide +kernel) (by decide +kernel) (by simp) rfl (by decide +kernel) ⟨steady_is _, steady_is _, steady_is _, steady_is _, steady_is _, steady_is _, steady_is _, steady_is _, steady_is _, steady_is _, steady_is _, steady_is _, steady_is _, steady_is _, steady_is _, steady_is _, steady_is _, steady_is _, steady_is _, steady_is _, steady_is _, steady_is _, steady_is _, steady_is _, steady_is _, steady_is _, steady_is _, steady_is _, steady_is _, steady_is _, steady_is _, steady_is _, steady_is _, steady_is _, steady_is _, steady_is _, steady_is _, steady_is _, steady_is _, steady_is _, steady_is _, steady_is _, steady_is _, steady_is _, steady_is _, steady_is _, trivial⟩ ?_ ?_
          · refine And.intro (fun ac W hO hU H => ?_) ?_
            · have h1 : ac.tmps[1]? = some (.pointer (some ⟨w.heap.size, 0, none⟩)) := (hO 1 rfl).trans rfl
              exact growOp_plain rfl (parts_value (by simp [go_sem, h1]))
            refine And.intro (fun ac W hO hU H => ?_) ?_
            · have h36 : ac.tmps[36]? = some (.pointer (some ⟨w.heap.size, 0, none⟩)) := isV_get (W := W) (H 0 36 rfl)
              have f0 := c0 W hU
              exact growOp_plain rfl (parts_value (by simp [go_sem, h36, f0]))
            refine And.intro (fun ac W hO hU H => ?_) ?_
            · have h3 : ac.tmps[3]? = some (.int .i64 k) := (hO 3 rfl).trans rfl
              exact growOp_plain rfl (parts_value (by simp [go_sem, h3]))
            refine And.intro (fun ac W hO hU H => ?_) ?_
            · have h37 : ac.tmps[37]? = some (.slice (some ⟨b, off, none⟩) f.pages.length c) := isV_get (W := W) (H 1 37 rfl)
              have h38 : ac.tmps[38]? = some (.int .i64 k) := isV_get (W := W) (H 2 38 rfl)
              exact growOp_plain rfl (parts_value (by simp [go_sem, h37, h38, i1]))
            refine And.intro (fun ac W hO hU H => ?_) ?_
            · have h39 : ac.tmps[39]? = some (.pointer (some ⟨b, off + k, none⟩)) := isV_get (W := W) (H 3 39 rfl)
              have f0 := e1 W hU
              exact growOp_plain rfl (parts_value (by simp [go_sem, h39, f0]))
            refine And.intro (fun ac W hO hU H => ?_) ?_
            · have h40 : ac.tmps[40]? = some (.string s) := isV_get (W := W) (H 4 40 rfl)
              exact growOp_plain rfl (parts_value (by simp [go_sem, h40]))
            refine And.intro (fun ac W hO hU H => ?_) ?_
            · have h41 : ac.tmps[41]? = some (.int .i64 (s.size : Nat)) := isV_get (W := W) (H 5 41 rfl)
              exact growOp_plain rfl (parts_value (by simp [go_sem, h41, t1]))
            refine And.intro (fun ac W hO hU H => ?_) ?_
            · have h42 : ac.tmps[42]? = some (.bool false) := isV_get (W := W) (H 6 42 rfl)
              exact growOp_plain rfl (parts_value (by simp [go_sem, h42]))
            refine And.intro (fun ac W hO hU H => ?_) ?_
            · have h1 : ac.tmps[1]? = some (.pointer (some ⟨w.heap.size, 0, none⟩)) := (hO 1 rfl).trans rfl
              have hg : ac.tmps[43]? = some (.bool false) := isV_get (W := W) (H 7 43 rfl)
              exact growOp_done rfl rfl hg (parts_value (by simp [go_sem, h1]))
            refine And.intro (fun ac W hO hU H => ?_) ?_
            · have h44 : ac.tmps[44]? = some (.pointer (some ⟨w.heap.size, 0, none⟩)) := isV_get (W := W) (H 8 44 rfl)
              have hg : ac.tmps[43]? = some (.bool false) := isV_get (W := W) (H 7 43 rfl)
              have f0 := c0 W hU
              exact growOp_done rfl rfl hg (parts_value (by simp [go_sem, h44, f0]))
            refine And.intro (fun ac W hO hU H => ?_) ?_
            · have h3 : ac.tmps[3]? = some (.int .i64 k) := (hO 3 rfl).trans rfl
              have hg : ac.tmps[43]? = some (.bool false) := isV_get (W := W) (H 7 43 rfl)
              exact growOp_done rfl rfl hg (parts_value (by simp [go_sem, h3]))
            refine And.intro (fun ac W hO hU H => ?_) ?_
            · have h45 : ac.tmps[45]? = some (.slice (some ⟨b, off, none⟩) f.pages.length c) := isV_get (W := W) (H 9 45 rfl)
              have h46 : ac.tmps[46]? = some (.int .i64 k) := isV_get (W := W) (H 10 46 rfl)
              have hg : ac.tmps[43]? = some (.bool false) := isV_get (W := W) (H 7 43 rfl)
              exact growOp_done rfl rfl hg (parts_value (by simp [go_sem, h45, h46, i1]))
            refine And.intro (fun ac W hO hU H => ?_) ?_
            · have h47 : ac.tmps[47]? = some (.pointer (some ⟨b, off + k, none⟩)) := isV_get (W := W) (H 11 47 rfl)
              have hg : ac.tmps[43]? = some (.bool false) := isV_get (W := W) (H 7 43 rfl)
              have f0 := e1 W hU
              exact growOp_done rfl rfl hg (parts_value (by simp [go_sem, h47, f0]))
            refine And.intro (fun ac W hO hU H => ?_) ?_
            · have h48 : ac.tmps[48]? = some (.string s) := isV_get (W := W) (H 12 48 rfl)
              have hg : ac.tmps[43]? = some (.bool false) := isV_get (W := W) (H 7 43 rfl)
              exact growOp_done rfl rfl hg (parts_value (by simp [go_sem, h48]))
            refine And.intro (fun ac W hO hU H => ?_) ?_
            · have h49 : ac.tmps[49]? = some (.int .i64 (s.size : Nat)) := isV_get (W := W) (H 13 49 rfl)
              have hg : ac.tmps[43]? = some (.bool false) := isV_get (W := W) (H 7 43 rfl)
              exact growOp_done rfl rfl hg (parts_value (by simp [go_sem, h49, t2]))
            refine And.intro (fun ac W hO hU H => ?_) ?_
            · have h43 : ac.tmps[43]? = some (.bool false) := isV_get (W := W) (H 7 43 rfl)
              have h50 : ac.tmps[50]? = some (.bool false) := isV_get (W := W) (H 14 50 rfl)
              exact growOp_plain rfl (parts_value (by simp [go_sem, h43, h50]))
            refine And.intro (fun ac W hO hU H => ?_) ?_
            · have h51 : ac.tmps[51]? = some (.bool false) := isV_get (W := W) (H 15 51 rfl)
              exact growOp_plain rfl (parts_value (by simp [go_sem, h51]))
            refine And.intro (fun ac W hO hU H => ?_) ?_
            · have h1 : ac.tmps[1]? = some (.pointer (some ⟨w.heap.size, 0, none⟩)) := (hO 1 rfl).trans rfl
              have hg : ac.tmps[52]? = some (.bool false) := isV_get (W := W) (H 16 52 rfl)
              exact growOp_done rfl rfl hg (parts_value (by simp [go_sem, h1]))
            refine And.intro (fun ac W hO hU H => ?_) ?_
            · have h53 : ac.tmps[53]? = some (.pointer (some ⟨w.heap.size, 0, none⟩)) := isV_get (W := W) (H 17 53 rfl)
              have hg : ac.tmps[52]? = some (.bool false) := isV_get (W := W) (H 16 52 rfl)
              have f0 := c0 W hU
              exact growOp_done rfl rfl hg (parts_value (by simp [go_sem, h53, f0]))
            refine And.intro (fun ac W hO hU H => ?_) ?_
            · have h3 : ac.tmps[3]? = some (.int .i64 k) := (hO 3 rfl).trans rfl
              have hg : ac.tmps[52]? = some (.bool false) := isV_get (W := W) (H 16 52 rfl)
              exact growOp_done rfl rfl hg (parts_value (by simp [go_sem, h3]))
            refine And.intro (fun ac W hO hU H => ?_) ?_
            · have h54 : ac.tmps[54]? = some (.slice (some ⟨b, off, none⟩) f.pages.length c) := isV_get (W := W) (H 18 54 rfl)
              have h55 : ac.tmps[55]? = some (.int .i64 k) := isV_get (W := W) (H 19 55 rfl)
              have hg : ac.tmps[52]? = some (.bool false) := isV_get (W := W) (H 16 52 rfl)
              exact growOp_done rfl rfl hg (parts_value (by simp [go_sem, h54, h55, i1]))
            refine And.intro (fun ac W hO hU H => ?_) ?_
            · have h56 : ac.tmps[56]? = some (.pointer (some ⟨b, off + k, none⟩)) := isV_get (W := W) (H 20 56 rfl)
              have hg : ac.tmps[52]? = some (.bool false) := isV_get (W := W) (H 16 52 rfl)
              have f0 := e1 W hU
              exact growOp_done rfl rfl hg (parts_value (by simp [go_sem, h56, f0]))
            refine And.intro (fun ac W hO hU H => ?_) ?_
            · have h57 : ac.tmps[57]? = some (.string s) := isV_get (W := W) (H 21 57 rfl)
              have hg : ac.tmps[52]? = some (.bool false) := isV_get (W := W) (H 16 52 rfl)
              exact growOp_done rfl rfl hg (parts_value (by simp [go_sem, h57]))
            refine And.intro (fun ac W hO hU H => ?_) ?_
            · have h1 : ac.tmps[1]? = some (.pointer (some ⟨w.heap.size, 0, none⟩)) := (hO 1 rfl).trans rfl
              have hg : ac.tmps[52]? = some (.bool false) := isV_get (W := W) (H 16 52 rfl)
              exact growOp_done rfl rfl hg (parts_value (by simp [go_sem, h1]))
            refine And.intro (fun ac W hO hU H => ?_) ?_
            · have h59 : ac.tmps[59]? = some (.pointer (some ⟨w.heap.size, 0, none⟩)) := isV_get (W := W) (H 23 59 rfl)
              have hg : ac.tmps[52]? = some (.bool false) := isV_get (W := W) (H 16 52 rfl)
              have f0 := c0 W hU
              exact growOp_done rfl rfl hg (parts_value (by simp [go_sem, h59, f0]))
            refine And.intro (fun ac W hO hU H => ?_) ?_
            · have h60 : ac.tmps[60]? = some (.slice (some ⟨b, off, none⟩) f.pages.length c) := isV_get (W := W) (H 24 60 rfl)
              have hg : ac.tmps[52]? = some (.bool false) := isV_get (W := W) (H 16 52 rfl)
              exact growOp_done rfl rfl hg (parts_value (by simp [go_sem, h60, hpn]))
            refine And.intro (fun ac W hO hU H => ?_) ?_
            · have h61 : ac.tmps[61]? = some (.pointer (some ⟨b, off, none⟩)) := isV_get (W := W) (H 25 61 rfl)
              have hg : ac.tmps[52]? = some (.bool false) := isV_get (W := W) (H 16 52 rfl)
              have f0 := e0 W hU
              exact growOp_done rfl rfl hg (parts_value (by simp [go_sem, h61, f0]))
            refine And.intro (fun ac W hO hU H => ?_) ?_
            · have h62 : ac.tmps[62]? = some (.string t) := isV_get (W := W) (H 26 62 rfl)
              have hg : ac.tmps[52]? = some (.bool false) := isV_get (W := W) (H 16 52 rfl)
              exact growOp_done rfl rfl hg (parts_value (by simp [go_sem, h62]))
            refine And.intro (fun ac W hO hU H => ?_) ?_
            · have h58 : ac.tmps[58]? = some (.int .i64 (s.size : Nat)) := isV_get (W := W) (H 22 58 rfl)
              have h63 : ac.tmps[63]? = some (.int .i64 (t.size : Nat)) := isV_get (W := W) (H 27 63 rfl)
              have hg : ac.tmps[52]? = some (.bool false) := isV_get (W := W) (H 16 52 rfl)
              exact growOp_done rfl rfl hg (parts_value (by simp [go_sem, h58, h63, t3']))
            refine And.intro (fun ac W hO hU H => ?_) ?_
            · have h52 : ac.tmps[52]? = some (.bool false) := isV_get (W := W) (H 16 52 rfl)
              have h64 : ac.tmps[64]? = some (.bool false) := isV_get (W := W) (H 28 64 rfl)
              exact growOp_plain rfl (parts_value (by simp [go_sem, h52, h64]))
            refine And.intro (fun ac W hO hU H => ?_) ?_
            · have h65 : ac.tmps[65]? = some (.bool false) := isV_get (W := W) (H 29 65 rfl)
              exact growOp_plain rfl (parts_value (by simp [go_sem, h65]))
            refine And.intro (fun ac W hO hU H => ?_) ?_
            · have h1 : ac.tmps[1]? = some (.pointer (some ⟨w.heap.size, 0, none⟩)) := (hO 1 rfl).trans rfl
              have hg : ac.tmps[66]? = some (.bool false) := isV_get (W := W) (H 30 66 rfl)
              exact growOp_done rfl rfl hg (parts_value (by simp [go_sem, h1]))
            refine And.intro (fun ac W hO hU H => ?_) ?_
            · have h67 : ac.tmps[67]? = some (.pointer (some ⟨w.heap.size, 1, none⟩)) := isV_get (W := W) (H 31 67 rfl)
              have hg : ac.tmps[66]? = some (.bool false) := isV_get (W := W) (H 30 66 rfl)
              have f0 := c1 W hU
              exact growOp_done rfl rfl hg (parts_value (by simp [go_sem, h67, f0]))
            refine And.intro (fun ac W hO hU H => ?_) ?_
            · have h3 : ac.tmps[3]? = some (.int .i64 k) := (hO 3 rfl).trans rfl
              have hg : ac.tmps[66]? = some (.bool false) := isV_get (W := W) (H 30 66 rfl)
              exact growOp_done rfl rfl hg (parts_value (by simp [go_sem, h3]))
            refine And.intro (fun ac W hO hU H => ?_) ?_
            · have h68 : ac.tmps[68]? = some (.slice (some ⟨b', off', none⟩) f.wear.length c') := isV_get (W := W) (H 32 68 rfl)
              have h69 : ac.tmps[69]? = some (.int .i64 k) := isV_get (W := W) (H 33 69 rfl)
              have hg : ac.tmps[66]? = some (.bool false) := isV_get (W := W) (H 30 66 rfl)
              exact growOp_done rfl rfl hg (parts_value (by simp [go_sem, h68, h69, iw]))
            refine And.intro (fun ac W hO hU H => ?_) ?_
            · have h70 : ac.tmps[70]? = some (.pointer (some ⟨b', off' + k, none⟩)) := isV_get (W := W) (H 34 70 rfl)
              have hg : ac.tmps[66]? = some (.bool false) := isV_get (W := W) (H 30 66 rfl)
              have f0 := e2 W hU
              exact growOp_done rfl rfl hg (parts_value (by simp [go_sem, h70, f0]))
            refine And.intro (fun ac W hO hU H => ?_) ?_
            · have h71 : ac.tmps[71]? = some (.int .i64 z) := isV_get (W := W) (H 35 71 rfl)
              have hg : ac.tmps[66]? = some (.bool false) := isV_get (W := W) (H 30 66 rfl)
              exact growOp_done rfl rfl hg (parts_value (by simp [go_sem, h71, t4]))
            refine And.intro (fun ac W hO hU H => ?_) ?_
            · have h66 : ac.tmps[66]? = some (.bool false) := isV_get (W := W) (H 30 66 rfl)
              have h72 : ac.tmps[72]? = some (.bool true) := isV_get (W := W) (H 36 72 rfl)
              exact growOp_plain rfl (parts_value (by simp [go_sem, h66, h72]))
            refine And.intro (fun ac W hO hU H => ?_) ?_
            · have h73 : ac.tmps[73]? = some (.bool true) := isV_get (W := W) (H 37 73 rfl)
              exact growOp_plain rfl (parts_value (by simp [go_sem, h73]))
            refine And.intro (fun ac W hO hU H => ?_) ?_
            · have hg : ac.tmps[74]? = some (.bool true) := isV_get (W := W) (H 38 74 rfl)
              exact growOp_left rfl rfl hg Ups.refl rfl
            refine And.intro (fun ac W hO hU H => ?_) ?_
            · have hg : ac.tmps[74]? = some (.bool true) := isV_get (W := W) (H 38 74 rfl)
              exact growOp_left rfl rfl hg Ups.refl rfl
            refine And.intro (fun ac W hO hU H => ?_) ?_
            · have hg : ac.tmps[74]? = some (.bool true) := isV_get (W := W) (H 38 74 rfl)
              exact growOp_left rfl rfl hg Ups.refl rfl
            refine And.intro (fun ac W hO hU H => ?_) ?_
            · have hg : ac.tmps[74]? = some (.bool true) := isV_get (W := W) (H 38 74 rfl)
              exact growOp_left rfl rfl hg Ups.refl rfl
            refine And.intro (fun ac W hO hU H => ?_) ?_
            · have hg : ac.tmps[74]? = some (.bool true) := isV_get (W := W) (H 38 74 rfl)
              exact growOp_left rfl rfl hg Ups.refl rfl
            refine And.intro (fun ac W hO hU H => ?_) ?_
            · have hg : ac.tmps[74]? = some (.bool true) := isV_get (W := W) (H 38 74 rfl)
              exact growOp_left rfl rfl hg Ups.refl rfl
            refine And.intro (fun ac W hO hU H => ?_) ?_
            · have h74 : ac.tmps[74]? = some (.bool true) := isV_get (W := W) (H 38 74 rfl)
              have h80 : ac.tmps[80]? = some (undef) := isV_get (W := W) (H 44 80 rfl)
              exact growOp_plain rfl (parts_value (by simp [go_sem, h74, h80]))
            exact trivial
          · intro W xs hU hks
            obtain ⟨y0, rfl, g0⟩ := holdAll_is hks
            obtain ⟨y1, rfl, g1⟩ := holdAll_is g0
            obtain ⟨y2, rfl, g2⟩ := holdAll_is g1
            obtain ⟨y3, rfl, g3⟩ := holdAll_is g2
            obtain ⟨y4, rfl, g4⟩ := holdAll_is g3
            obtain ⟨y5, rfl, g5⟩ := holdAll_is g4
            obtain ⟨y6, rfl, g6⟩ := holdAll_is g5
            obtain ⟨y7, rfl, g7⟩ := holdAll_is g6
            obtain ⟨y8, rfl, g8⟩ := holdAll_is g7
            obtain ⟨y9, rfl, g9⟩ := holdAll_is g8
            obtain ⟨y10, rfl, g10⟩ := holdAll_is g9
            obtain ⟨y11, rfl, g11⟩ := holdAll_is g10
            obtain ⟨y12, rfl, g12⟩ := holdAll_is g11
            obtain ⟨y13, rfl, g13⟩ := holdAll_is g12
            obtain ⟨y14, rfl, g14⟩ := holdAll_is g13
            obtain ⟨y15, rfl, g15⟩ := holdAll_is g14
            obtain ⟨y16, rfl, g16⟩ := holdAll_is g15
            obtain ⟨y17, rfl, g17⟩ := holdAll_is g16
            obtain ⟨y18, rfl, g18⟩ := holdAll_is g17
            obtain ⟨y19, rfl, g19⟩ := holdAll_is g18
            obtain ⟨y20, rfl, g20⟩ := holdAll_is g19
            obtain ⟨y21, rfl, g21⟩ := holdAll_is g20
            obtain ⟨y22, rfl, g22⟩ := holdAll_is g21
            obtain ⟨y23, rfl, g23⟩ := holdAll_is g22
            obtain ⟨y24, rfl, g24⟩ := holdAll_is g23
            obtain ⟨y25, rfl, g25⟩ := holdAll_is g24
            obtain ⟨y26, rfl, g26⟩ := holdAll_is g25
            obtain ⟨y27, rfl, g27⟩ := holdAll_is g26
            obtain ⟨y28, rfl, g28⟩ := holdAll_is g27
            obtain ⟨y29, rfl, g29⟩ := holdAll_is g28
            obtain ⟨y30, rfl, g30⟩ := holdAll_is g29
            obtain ⟨y31, rfl, g31⟩ := holdAll_is g30
            obtain ⟨y32, rfl, g32⟩ := holdAll_is g31
            obtain ⟨y33, rfl, g33⟩ := holdAll_is g32
            obtain ⟨y34, rfl, g34⟩ := holdAll_is g33
            obtain ⟨y35, rfl, g35⟩ := holdAll_is g34
            obtain ⟨y36, rfl, g36⟩ := holdAll_is g35
            obtain ⟨y37, rfl, g37⟩ := holdAll_is g36
            obtain ⟨y38, rfl, g38⟩ := holdAll_is g37
            obtain ⟨y39, rfl, g39⟩ := holdAll_is g38
            obtain ⟨y40, rfl, g40⟩ := holdAll_is g39
            obtain ⟨y41, rfl, g41⟩ := holdAll_is g40
            obtain ⟨y42, rfl, g42⟩ := holdAll_is g41
            obtain ⟨y43, rfl, g43⟩ := holdAll_is g42
            obtain ⟨y44, rfl, g44⟩ := holdAll_is g43
            obtain ⟨y45, rfl, g45⟩ := holdAll_is g44
            obtain rfl := holdAll_nil g45
            clear hks g0 g1 g2 g3 g4 g5 g6 g7 g8 g9 g10 g11 g12 g13 g14 g15 g16 g17 g18 g19 g20 g21 g22 g23 g24 g25 g26 g27 g28 g29 g30 g31 g32 g33 g34 g35 g36 g37 g38 g39 g40 g41 g42 g43 g44 g45
            simp only [List.take_succ_cons, List.take_zero, List.drop_succ_cons, List.drop_zero, endTmps, List.setIfInBounds_toArray, List.set]
            go_wp2_with fail
            go_ret
            exact ⟨(show Ending.returned (Value.bool false) = Ending.returned (Value.bool (checkB f)) by rw [hbad]), Ups.trans hu1 (Ups.trans hu (drew_ups hU))⟩
        by_cases t5 : 2147483647 < z
        · have tt := t5
          have hbad : checkB f = false := by
            rw [Bool.eq_false_iff]
            intro hck
            have := HK.out.1 hck k hlt
            rw [okAt, G1.out, G2.out, G0.out] at this
            simp only [Bool.and_eq_true, decide_eq_true_eq] at this
            omega
          go_wp2_with fail
          refine wp_region_parts (N := 46) (n := 82) (ks := [isV (.pointer (some ⟨w.heap.size, 0, none⟩)), isV (.slice (some ⟨b, off, none⟩) f.pages.length c), isV (.int .i64 k), isV (.pointer (some ⟨b, off + k, none⟩)), isV (.string s), isV (.int .i64 (s.size : Nat)), isV (.bool false), isV (.bool false), isV (.pointer (some ⟨w.heap.size, 0, none⟩)), isV (.slice (some ⟨b, off, none⟩) f.pages.length c), isV (.int .i64 k), isV (.pointer (some ⟨b, off + k, none⟩)), isV (.string s), isV (.int .i64 (s.size : Nat)), isV (.bool false), isV (.bool false), isV (.bool false), isV (.pointer (some ⟨w.heap.size, 0, none⟩)), isV (.slice (some ⟨b, off, none⟩) f.pages.length c), isV (.int .i64 k), isV (.pointer (some ⟨b, off + k, none⟩)), isV (.string s), isV (.int .i64 (s.size : Nat)), isV (.pointer (some ⟨w.heap.size, 0, none⟩)), isV (.slice (some ⟨b, off, none⟩) f.pages.length c), isV (.pointer (some ⟨b, off, none⟩)), isV (.string t), isV (.int .i64 (t.size : Nat)), isV (.bool false), isV (.bool false), isV (.bool false), isV (.pointer (some ⟨w.heap.size, 1, none⟩)), isV (.slice (some ⟨b', off', none⟩) f.wear.length c'), isV (.int .i64 k), isV (.pointer (some ⟨b', off' + k, none⟩)), isV (.int .i64 z), isV (.bool false), isV (.bool false), isV (.bool false), isV (.pointer (some ⟨w.heap.size, 1, none⟩)), isV (.slice (some ⟨b', off', none⟩) f.wear.length c'), isV (.int .i64 k), isV (.pointer (some ⟨b', off' + k, none⟩)), isV (.int .i64 z), isV (.bool true), isV (.bool true)]) (by decide +kernel) (by decide +kernel) (by decide +kernel) (by simp) rfl (by decide +kernel) ⟨steady_is _, steady_is _, steady_is _, steady_is _, steady_is _, steady_is _, steady_is _, steady_is _, steady_is _, steady_is _, steady_is _, steady_is _, steady_is _, steady_is _, steady_is _, steady_is _, steady_is _, steady_is _, steady_is _, steady_is _, steady_is _, steady_is _, steady_is _, steady_is _, steady_is _, steady_is _, steady_is _, steady_is _, steady_is _, steady_is _, steady_is _, steady_is _, steady_is _, steady_is _, steady_is _, steady_is _, steady_is _, steady_is _, steady_is _, steady_is _, steady_is _, steady_is _, steady_is _, steady_is _, steady_is _, steady_is _, trivial⟩ ?_ ?_
          · refine And.intro (fun ac W hO hU H => ?_) ?_
            · have h1 : ac.tmps[1]? = some (.pointer (some ⟨w.heap.size, 0, none⟩)) := (hO 1 rfl).trans rfl
              exact growOp_plain rfl (parts_value (by simp [go_sem, h1]))
            refine And.intro (fun ac W hO hU H => ?_) ?_
            · have h36 : ac.tmps[36]? = some (.pointer (some ⟨w.heap.size, 0, none⟩)) := isV_get (W := W) (H 0 36 rfl)
              have f0 := c0 W hU
              exact growOp_plain rfl (parts_value (by simp [go_sem, h36, f0]))
            refine And.intro (fun ac W hO hU H => ?_) ?_
            · have h3 : ac.tmps[3]? = some (.int .i64 k) := (hO 3 rfl).trans rfl
              exact growOp_plain rfl (parts_value (by simp [go_sem, h3]))
            refine And.intro (fun ac W hO hU H => ?_) ?_
            · have h37 : ac.tmps[37]? = some (.slice (some ⟨b, off, none⟩) f.pages.length c) := isV_get (W := W) (H 1 37 rfl)
              have h38 : ac.tmps[38]? = some (.int .i64 k) := isV_get (W := W) (H 2 38 rfl)
              exact growOp_plain rfl (parts_value (by simp [go_sem, h37, h38, i1]))
            refine And.intro (fun ac W hO hU H => ?_) ?_
            · have h39 : ac.tmps[39]? = some (.pointer (some ⟨b, off + k, none⟩)) := isV_get (W := W) (H 3 39 rfl)
              have f0 := e1 W hU
              exact growOp_plain rfl (parts_value (by simp [go_sem, h39, f0]))
            refine And.intro (fun ac W hO hU H => ?_) ?_
            · have h40 : ac.tmps[40]? = some (.string s) := isV_get (W := W) (H 4 40 rfl)
              exact growOp_plain rfl (parts_value (by simp [go_sem, h40]))
            refine And.intro (fun ac W hO hU H => ?_) ?_
            · have h41 : ac.tmps[41]? = some (.int .i64 (s.size : Nat)) := isV_get (W := W) (H 5 41 rfl)
              exact growOp_plain rfl (parts_value (by simp [go_sem, h41, t1]))
            refine And.intro (fun ac W hO hU H => ?_) ?_
            · have h42 : ac.tmps[42]? = some (.bool false) := isV_get (W := W) (H 6 42 rfl)
              exact growOp_plain rfl (parts_value (by simp [go_sem, h42]))
            refine And.intro (fun ac W hO hU H => ?_) ?_
            · have h1 : ac.tmps[1]? = some (.pointer (some ⟨w.heap.size, 0, none⟩)) := (hO 1 rfl).trans rfl
              have hg : ac.tmps[43]? = some (.bool false) := isV_get (W := W) (H 7 43 rfl)
              exact growOp_done rfl rfl hg (parts_value (by simp [go_sem, h1]))
            refine And.intro (fun ac W hO hU H => ?_) ?_
            · have h44 : ac.tmps[44]? = some (.pointer (some ⟨w.heap.size, 0, none⟩)) := isV_get (W := W) (H 8 44 rfl)
              have hg : ac.tmps[43]? = some (.bool false) := isV_get (W := W) (H 7 43 rfl)
              have f0 := c0 W hU
              exact growOp_done rfl rfl hg (parts_value (by simp [go_sem, h44, f0]))
            refine And.intro (fun ac W hO hU H => ?_) ?_
            · have h3 : ac.tmps[3]? = some (.int .i64 k) := (hO 3 rfl).trans rfl
              have hg : ac.tmps[43]? = some (.bool false) := isV_get (W := W) (H 7 43 rfl)
              exact growOp_done rfl rfl hg (parts_value (by simp [go_sem, h3]))
            refine And.intro (fun ac W hO hU H => ?_) ?_
            · have h45 : ac.tmps[45]? = some (.slice (some ⟨b, off, none⟩) f.pages.length c) := isV_get (W := W) (H 9 45 rfl)
              have h46 : ac.tmps[46]? = some (.int .i64 k) := isV_get (W := W) (H 10 46 rfl)
              have hg : ac.tmps[43]? = some (.bool false) := isV_get (W := W) (H 7 43 rfl)
              exact growOp_done rfl rfl hg (parts_value (by simp [go_sem, h45, h46, i1]))
            refine And.intro (fun ac W hO hU H => ?_) ?_
            · have h47 : ac.tmps[47]? = some (.pointer (some ⟨b, off + k, none⟩)) := isV_get (W := W) (H 11 47 rfl)
              have hg : ac.tmps[43]? = some (.bool false) := isV_get (W := W) (H 7 43 rfl)
              have f0 := e1 W hU
              exact growOp_done rfl rfl hg (parts_value (by simp [go_sem, h47, f0]))
            refine And.intro (fun ac W hO hU H => ?_) ?_
            · have h48 : ac.tmps[48]? = some (.string s) := isV_get (W := W) (H 12 48 rfl)
              have hg : ac.tmps[43]? = some (.bool false) := isV_get (W := W) (H 7 43 rfl)
              exact growOp_done rfl rfl hg (parts_value (by simp [go_sem, h48]))
            refine And.intro (fun ac W hO hU H => ?_) ?_
            · have h49 : ac.tmps[49]? = some (.int .i64 (s.size : Nat)) := isV_get (W := W) (H 13 49 rfl)
              have hg : ac.tmps[43]? = some (.bool false) := isV_get (W := W) (H 7 43 rfl)
              exact growOp_done rfl rfl hg (parts_value (by simp [go_sem, h49, t2]))
            refine And.intro (fun ac W hO hU H => ?_) ?_
            · have h43 : ac.tmps[43]? = some (.bool false) := isV_get (W := W) (H 7 43 rfl)
              have h50 : ac.tmps[50]? = some (.bool false) := isV_get (W := W) (H 14 50 rfl)
              exact growOp_plain rfl (parts_value (by simp [go_sem, h43, h50]))
            refine And.intro (fun ac W hO hU H => ?_) ?_
            · have h51 : ac.tmps[51]? = some (.bool false) := isV_get (W := W) (H 15 51 rfl)
              exact growOp_plain rfl (parts_value (by simp [go_sem, h51]))
            refine And.intro (fun ac W hO hU H => ?_) ?_
            · have h1 : ac.tmps[1]? = some (.pointer (some ⟨w.heap.size, 0, none⟩)) := (hO 1 rfl).trans rfl
              have hg : ac.tmps[52]? = some (.bool false) := isV_get (W := W) (H 16 52 rfl)
              exact growOp_done rfl rfl hg (parts_value (by simp [go_sem, h1]))
            refine And.intro (fun ac W hO hU H => ?_) ?_
            · have h53 : ac.tmps[53]? = some (.pointer (some ⟨w.heap.size, 0, none⟩)) := isV_get (W := W) (H 17 53 rfl)
              have hg : ac.tmps[52]? = some (.bool false) := isV_get (W := W) (H 16 52 rfl)
              have f0 := c0 W hU
              exact growOp_done rfl rfl hg (parts_value (by simp [go_sem, h53, f0]))
            refine And.intro (fun ac W hO hU H => ?_) ?_
            · have h3 : ac.tmps[3]? = some (.int .i64 k) := (hO 3 rfl).trans rfl
              have hg : ac.tmps[52]? = some (.bool false) := isV_get (W := W) (H 16 52 rfl)
              exact growOp_done rfl rfl hg (parts_value (by simp [go_sem, h3]))
            refine And.intro (fun ac W hO hU H => ?_) ?_
            · have h54 : ac.tmps[54]? = some (.slice (some ⟨b, off, none⟩) f.pages.length c) := isV_get (W := W) (H 18 54 rfl)
              have h55 : ac.tmps[55]? = some (.int .i64 k) := isV_get (W := W) (H 19 55 rfl)
              have hg : ac.tmps[52]? = some (.bool false) := isV_get (W := W) (H 16 52 rfl)
              exact growOp_done rfl rfl hg (parts_value (by simp [go_sem, h54, h55, i1]))
            refine And.intro (fun ac W hO hU H => ?_) ?_
            · have h56 : ac.tmps[56]? = some (.pointer (some ⟨b, off + k, none⟩)) := isV_get (W := W) (H 20 56 rfl)
              have hg : ac.tmps[52]? = some (.bool false) := isV_get (W := W) (H 16 52 rfl)
              have f0 := e1 W hU
              exact growOp_done rfl rfl hg (parts_value (by simp [go_sem, h56, f0]))
            refine And.intro (fun ac W hO hU H => ?_) ?_
            · have h57 : ac.tmps[57]? = some (.string s) := isV_get (W := W) (H 21 57 rfl)
              have hg : ac.tmps[52]? = some (.bool false) := isV_get (W := W) (H 16 52 rfl)
              exact growOp_done rfl rfl hg (parts_value (by simp [go_sem, h57]))
            refine And.intro (fun ac W hO hU H => ?_) ?_
            · have h1 : ac.tmps[1]? = some (.pointer (some ⟨w.heap.size, 0, none⟩)) := (hO 1 rfl).trans rfl
              have hg : ac.tmps[52]? = some (.bool false) := isV_get (W := W) (H 16 52 rfl)
              exact growOp_done rfl rfl hg (parts_value (by simp [go_sem, h1]))
            refine And.intro (fun ac W hO hU H => ?_) ?_
            · have h59 : ac.tmps[59]? = some (.pointer (some ⟨w.heap.size, 0, none⟩)) := isV_get (W := W) (H 23 59 rfl)
              have hg : ac.tmps[52]? = some (.bool false) := isV_get (W := W) (H 16 52 rfl)
              have f0 := c0 W hU
              exact growOp_done rfl rfl hg (parts_value (by simp [go_sem, h59, f0]))
            refine And.intro (fun ac W hO hU H => ?_) ?_
            · have h60 : ac.tmps[60]? = some (.slice (some ⟨b, off, none⟩) f.pages.length c) := isV_get (W := W) (H 24 60 rfl)
              have hg : ac.tmps[52]? = some (.bool false) := isV_get (W := W) (H 16 52 rfl)
              exact growOp_done rfl rfl hg (parts_value (by simp [go_sem, h60, hpn]))
            refine And.intro (fun ac W hO hU H => ?_) ?_
            · have h61 : ac.tmps[61]? = some (.pointer (some ⟨b, off, none⟩)) := isV_get (W := W) (H 25 61 rfl)
              have hg : ac.tmps[52]? = some (.bool false) := isV_get (W := W) (H 16 52 rfl)
              have f0 := e0 W hU
              exact growOp_done rfl rfl hg (parts_value (by simp [go_sem, h61, f0]))
            refine And.intro (fun ac W hO hU H => ?_) ?_
            · have h62 : ac.tmps[62]? = some (.string t) := isV_get (W := W) (H 26 62 rfl)
              have hg : ac.tmps[52]? = some (.bool false) := isV_get (W := W) (H 16 52 rfl)
              exact growOp_done rfl rfl hg (parts_value (by simp [go_sem, h62]))
            refine And.intro (fun ac W hO hU H => ?_) ?_
            · have h58 : ac.tmps[58]? = some (.int .i64 (s.size : Nat)) := isV_get (W := W) (H 22 58 rfl)
              have h63 : ac.tmps[63]? = some (.int .i64 (t.size : Nat)) := isV_get (W := W) (H 27 63 rfl)
              have hg : ac.tmps[52]? = some (.bool false) := isV_get (W := W) (H 16 52 rfl)
              exact growOp_done rfl rfl hg (parts_value (by simp [go_sem, h58, h63, t3']))
            refine And.intro (fun ac W hO hU H => ?_) ?_
            · have h52 : ac.tmps[52]? = some (.bool false) := isV_get (W := W) (H 16 52 rfl)
              have h64 : ac.tmps[64]? = some (.bool false) := isV_get (W := W) (H 28 64 rfl)
              exact growOp_plain rfl (parts_value (by simp [go_sem, h52, h64]))
            refine And.intro (fun ac W hO hU H => ?_) ?_
            · have h65 : ac.tmps[65]? = some (.bool false) := isV_get (W := W) (H 29 65 rfl)
              exact growOp_plain rfl (parts_value (by simp [go_sem, h65]))
            refine And.intro (fun ac W hO hU H => ?_) ?_
            · have h1 : ac.tmps[1]? = some (.pointer (some ⟨w.heap.size, 0, none⟩)) := (hO 1 rfl).trans rfl
              have hg : ac.tmps[66]? = some (.bool false) := isV_get (W := W) (H 30 66 rfl)
              exact growOp_done rfl rfl hg (parts_value (by simp [go_sem, h1]))
            refine And.intro (fun ac W hO hU H => ?_) ?_
            · have h67 : ac.tmps[67]? = some (.pointer (some ⟨w.heap.size, 1, none⟩)) := isV_get (W := W) (H 31 67 rfl)
              have hg : ac.tmps[66]? = some (.bool false) := isV_get (W := W) (H 30 66 rfl)
              have f0 := c1 W hU
              exact growOp_done rfl rfl hg (parts_value (by simp [go_sem, h67, f0]))
            refine And.intro (fun ac W hO hU H => ?_) ?_
            · have h3 : ac.tmps[3]? = some (.int .i64 k) := (hO 3 rfl).trans rfl
              have hg : ac.tmps[66]? = some (.bool false) := isV_get (W := W) (H 30 66 rfl)
              exact growOp_done rfl rfl hg (parts_value (by simp [go_sem, h3]))
            refine And.intro (fun ac W hO hU H => ?_) ?_
            · have h68 : ac.tmps[68]? = some (.slice (some ⟨b', off', none⟩) f.wear.length c') := isV_get (W := W) (H 32 68 rfl)
              have h69 : ac.tmps[69]? = some (.int .i64 k) := isV_get (W := W) (H 33 69 rfl)
              have hg : ac.tmps[66]? = some (.bool false) := isV_get (W := W) (H 30 66 rfl)
              exact growOp_done rfl rfl hg (parts_value (by simp [go_sem, h68, h69, iw]))
            refine And.intro (fun ac W hO hU H => ?_) ?_
            · have h70 : ac.tmps[70]? = some (.pointer (some ⟨b', off' + k, none⟩)) := isV_get (W := W) (H 34 70 rfl)
              have hg : ac.tmps[66]? = some (.bool false) := isV_get (W := W) (H 30 66 rfl)
              have f0 := e2 W hU
              exact growOp_done rfl rfl hg (parts_value (by simp [go_sem, h70, f0]))
            refine And.intro (fun ac W hO hU H => ?_) ?_
            · have h71 : ac.tmps[71]? = some (.int .i64 z) := isV_get (W := W) (H 35 71 rfl)
              have hg : ac.tmps[66]? = some (.bool false) := isV_get (W := W) (H 30 66 rfl)
              exact growOp_done rfl rfl hg (parts_value (by simp [go_sem, h71, t4]))
            refine And.intro (fun ac W hO hU H => ?_) ?_
            · have h66 : ac.tmps[66]? = some (.bool false) := isV_get (W := W) (H 30 66 rfl)
              have h72 : ac.tmps[72]? = some (.bool false) := isV_get (W := W) (H 36 72 rfl)
              exact growOp_plain rfl (parts_value (by simp [go_sem, h66, h72]))
            refine And.intro (fun ac W hO hU H => ?_) ?_
            · have h73 : ac.tmps[73]? = some (.bool false) := isV_get (W := W) (H 37 73 rfl)
              exact growOp_plain rfl (parts_value (by simp [go_sem, h73]))
            refine And.intro (fun ac W hO hU H => ?_) ?_
            · have h1 : ac.tmps[1]? = some (.pointer (some ⟨w.heap.size, 0, none⟩)) := (hO 1 rfl).trans rfl
              have hg : ac.tmps[74]? = some (.bool false) := isV_get (W := W) (H 38 74 rfl)
              exact growOp_done rfl rfl hg (parts_value (by simp [go_sem, h1]))
            refine And.intro (fun ac W hO hU H => ?_) ?_
            · have h75 : ac.tmps[75]? = some (.pointer (some ⟨w.heap.size, 1, none⟩)) := isV_get (W := W) (H 39 75 rfl)
              have hg : ac.tmps[74]? = some (.bool false) := isV_get (W := W) (H 38 74 rfl)
              have f0 := c1 W hU
              exact growOp_done rfl rfl hg (parts_value (by simp [go_sem, h75, f0]))
            refine And.intro (fun ac W hO hU H => ?_) ?_
            · have h3 : ac.tmps[3]? = some (.int .i64 k) := (hO 3 rfl).trans rfl
              have hg : ac.tmps[74]? = some (.bool false) := isV_get (W := W) (H 38 74 rfl)
              exact growOp_done rfl rfl hg (parts_value (by simp [go_sem, h3]))
            refine And.intro (fun ac W hO hU H => ?_) ?_
            · have h76 : ac.tmps[76]? = some (.slice (some ⟨b', off', none⟩) f.wear.length c') := isV_get (W := W) (H 40 76 rfl)
              have h77 : ac.tmps[77]? = some (.int .i64 k) := isV_get (W := W) (H 41 77 rfl)
              have hg : ac.tmps[74]? = some (.bool false) := isV_get (W := W) (H 38 74 rfl)
              exact growOp_done rfl rfl hg (parts_value (by simp [go_sem, h76, h77, iw]))
            refine And.intro (fun ac W hO hU H => ?_) ?_
            · have h78 : ac.tmps[78]? = some (.pointer (some ⟨b', off' + k, none⟩)) := isV_get (W := W) (H 42 78 rfl)
              have hg : ac.tmps[74]? = some (.bool false) := isV_get (W := W) (H 38 74 rfl)
              have f0 := e2 W hU
              exact growOp_done rfl rfl hg (parts_value (by simp [go_sem, h78, f0]))
            refine And.intro (fun ac W hO hU H => ?_) ?_
            · have h79 : ac.tmps[79]? = some (.int .i64 z) := isV_get (W := W) (H 43 79 rfl)
              have hg : ac.tmps[74]? = some (.bool false) := isV_get (W := W) (H 38 74 rfl)
              exact growOp_done rfl rfl hg (parts_value (by simp [go_sem, h79, t5]))
            refine And.intro (fun ac W hO hU H => ?_) ?_
            · have h74 : ac.tmps[74]? = some (.bool false) := isV_get (W := W) (H 38 74 rfl)
              have h80 : ac.tmps[80]? = some (.bool true) := isV_get (W := W) (H 44 80 rfl)
              exact growOp_plain rfl (parts_value (by simp [go_sem, h74, h80]))
            exact trivial
          · intro W xs hU hks
            obtain ⟨y0, rfl, g0⟩ := holdAll_is hks
            obtain ⟨y1, rfl, g1⟩ := holdAll_is g0
            obtain ⟨y2, rfl, g2⟩ := holdAll_is g1
            obtain ⟨y3, rfl, g3⟩ := holdAll_is g2
            obtain ⟨y4, rfl, g4⟩ := holdAll_is g3
            obtain ⟨y5, rfl, g5⟩ := holdAll_is g4
            obtain ⟨y6, rfl, g6⟩ := holdAll_is g5
            obtain ⟨y7, rfl, g7⟩ := holdAll_is g6
            obtain ⟨y8, rfl, g8⟩ := holdAll_is g7
            obtain ⟨y9, rfl, g9⟩ := holdAll_is g8
            obtain ⟨y10, rfl, g10⟩ := holdAll_is g9
            obtain ⟨y11, rfl, g11⟩ := holdAll_is g10
            obtain ⟨y12, rfl, g12⟩ := holdAll_is g11
            obtain ⟨y13, rfl, g13⟩ := holdAll_is g12
            obtain ⟨y14, rfl, g14⟩ := holdAll_is g13
            obtain ⟨y15, rfl, g15⟩ := holdAll_is g14
            obtain ⟨y16, rfl, g16⟩ := holdAll_is g15
            obtain ⟨y17, rfl, g17⟩ := holdAll_is g16
            obtain ⟨y18, rfl, g18⟩ := holdAll_is g17
            obtain ⟨y19, rfl, g19⟩ := holdAll_is g18
            obtain ⟨y20, rfl, g20⟩ := holdAll_is g19
            obtain ⟨y21, rfl, g21⟩ := holdAll_is g20
            obtain ⟨y22, rfl, g22⟩ := holdAll_is g21
            obtain ⟨y23, rfl, g23⟩ := holdAll_is g22
            obtain ⟨y24, rfl, g24⟩ := holdAll_is g23
            obtain ⟨y25, rfl, g25⟩ := holdAll_is g24
            obtain ⟨y26, rfl, g26⟩ := holdAll_is g25
            obtain ⟨y27, rfl, g27⟩ := holdAll_is g26
            obtain ⟨y28, rfl, g28⟩ := holdAll_is g27
            obtain ⟨y29, rfl, g29⟩ := holdAll_is g28
            obtain ⟨y30, rfl, g30⟩ := holdAll_is g29
            obtain ⟨y31, rfl, g31⟩ := holdAll_is g30
            obtain ⟨y32, rfl, g32⟩ := holdAll_is g31
            obtain ⟨y33, rfl, g33⟩ := holdAll_is g32
            obtain ⟨y34, rfl, g34⟩ := holdAll_is g33
            obtain ⟨y35, rfl, g35⟩ := holdAll_is g34
            obtain ⟨y36, rfl, g36⟩ := holdAll_is g35
            obtain ⟨y37, rfl, g37⟩ := holdAll_is g36
            obtain ⟨y38, rfl, g38⟩ := holdAll_is g37
            obtain ⟨y39, rfl, g39⟩ := holdAll_is g38
            obtain ⟨y40, rfl, g40⟩ := holdAll_is g39
            obtain ⟨y41, rfl, g41⟩ := holdAll_is g40
            obtain ⟨y42, rfl, g42⟩ := holdAll_is g41
            obtain ⟨y43, rfl, g43⟩ := holdAll_is g42
            obtain ⟨y44, rfl, g44⟩ := holdAll_is g43
            obtain ⟨y45, rfl, g45⟩ := holdAll_is g44
            obtain rfl := holdAll_nil g45
            clear hks g0 g1 g2 g3 g4 g5 g6 g7 g8 g9 g10 g11 g12 g13 g14 g15 g16 g17 g18 g19 g20 g21 g22 g23 g24 g25 g26 g27 g28 g29 g30 g31 g32 g33 g34 g35 g36 g37 g38 g39 g40 g41 g42 g43 g44 g45
            simp only [List.take_succ_cons, List.take_zero, List.drop_succ_cons, List.drop_zero, endTmps, List.setIfInBounds_toArray, List.set]
            go_wp2_with fail
            go_ret
            exact ⟨(show Ending.returned (Value.bool false) = Ending.returned (Value.bool (checkB f)) by rw [hbad]), Ups.trans hu1 (Ups.trans hu (drew_ups hU))⟩
        go_wp2_with fail
        refine wp_region_parts (N := 46) (n := 82) (ks := [isV (.pointer (some ⟨w.heap.size, 0, none⟩)), isV (.slice (some ⟨b, off, none⟩) f.pages.length c), isV (.int .i64 k), isV (.pointer (some ⟨b, off + k, none⟩)), isV (.string s), isV (.int .i64 (s.size : Nat)), isV (.bool false), isV (.bool false), isV (.pointer (some ⟨w.heap.size, 0, none⟩)), isV (.slice (some ⟨b, off, none⟩) f.pages.length c), isV (.int .i64 k), isV (.pointer (some ⟨b, off + k, none⟩)), isV (.string s), isV (.int .i64 (s.size : Nat)), isV (.bool false), isV (.bool false), isV (.bool false), isV (.pointer (some ⟨w.heap.size, 0, none⟩)), isV (.slice (some ⟨b, off, none⟩) f.pages.length c), isV (.int .i64 k), isV (.pointer (some ⟨b, off + k, none⟩)), isV (.string s), isV (.int .i64 (s.size : Nat)), isV (.pointer (some ⟨w.heap.size, 0, none⟩)), isV (.slice (some ⟨b, off, none⟩) f.pages.length c), isV (.pointer (some ⟨b, off, none⟩)), isV (.string t), isV (.int .i64 (t.size : Nat)), isV (.bool false), isV (.bool false), isV (.bool false), isV (.pointer (some ⟨w.heap.size, 1, none⟩)), isV (.slice (some ⟨b', off', none⟩) f.wear.length c'), isV (.int .i64 k), isV (.pointer (some ⟨b', off' + k, none⟩)), isV (.int .i64 z), isV (.bool false), isV (.bool false), isV (.bool false), isV (.pointer (some ⟨w.heap.size, 1, none⟩)), isV (.slice (some ⟨b', off', none⟩) f.wear.length c'), isV (.int .i64 k), isV (.pointer (some ⟨b', off' + k, none⟩)), isV (.int .i64 z), isV (.bool false), isV (.bool false)]) (by decide +kernel) (by decide +kernel) (by decide +kernel) (by simp) rfl (by decide +kernel) ⟨steady_is _, steady_is _, steady_is _, steady_is _, steady_is _, steady_is _, steady_is _, steady_is _, steady_is _, steady_is _, steady_is _, steady_is _, steady_is _, steady_is _, steady_is _, steady_is _, steady_is _, steady_is _, steady_is _, steady_is _, steady_is _, steady_is _, steady_is _, steady_is _, steady_is _, steady_is _, steady_is _, steady_is _, steady_is _, steady_is _, steady_is _, steady_is _, steady_is _, steady_is _, steady_is _, steady_is _, steady_is _, steady_is _, steady_is _, steady_is _, steady_is _, steady_is _, steady_is _, steady_is _, steady_is _, steady_is _, trivial⟩ ?_ ?_
        · refine And.intro (fun ac W hO hU H => ?_) ?_
          · have h1 : ac.tmps[1]? = some (.pointer (some ⟨w.heap.size, 0, none⟩)) := (hO 1 rfl).trans rfl
            exact growOp_plain rfl (parts_value (by simp [go_sem, h1]))
          refine And.intro (fun ac W hO hU H => ?_) ?_
          · have h36 : ac.tmps[36]? = some (.pointer (some ⟨w.heap.size, 0, none⟩)) := isV_get (W := W) (H 0 36 rfl)
            have f0 := c0 W hU
            exact growOp_plain rfl (parts_value (by simp [go_sem, h36, f0]))
          refine And.intro (fun ac W hO hU H => ?_) ?_
          · have h3 : ac.tmps[3]? = some (.int .i64 k) := (hO 3 rfl).trans rfl
            exact growOp_plain rfl (parts_value (by simp [go_sem, h3]))
          refine And.intro (fun ac W hO hU H => ?_) ?_
          · have h37 : ac.tmps[37]? = some (.slice (some ⟨b, off, none⟩) f.pages.length c) := isV_get (W := W) (H 1 37 rfl)
            have h38 : ac.tmps[38]? = some (.int .i64 k) := isV_get (W := W) (H 2 38 rfl)
            exact growOp_plain rfl (parts_value (by simp [go_sem, h37, h38, i1]))
          refine And.intro (fun ac W hO hU H => ?_) ?_
          · have h39 : ac.tmps[39]? = some (.pointer (some ⟨b, off + k, none⟩)) := isV_get (W := W) (H 3 39 rfl)
            have f0 := e1 W hU
            exact growOp_plain rfl (parts_value (by simp [go_sem, h39, f0]))
          refine And.intro (fun ac W hO hU H => ?_) ?_
          · have h40 : ac.tmps[40]? = some (.string s) := isV_get (W := W) (H 4 40 rfl)
            exact growOp_plain rfl (parts_value (by simp [go_sem, h40]))
          refine And.intro (fun ac W hO hU H => ?_) ?_
          · have h41 : ac.tmps[41]? = some (.int .i64 (s.size : Nat)) := isV_get (W := W) (H 5 41 rfl)
            exact growOp_plain rfl (parts_value (by simp [go_sem, h41, t1]))
          refine And.intro (fun ac W hO hU H => ?_) ?_
          · have h42 : ac.tmps[42]? = some (.bool false) := isV_get (W := W) (H 6 42 rfl)
            exact growOp_plain rfl (parts_value (by simp [go_sem, h42]))
          refine And.intro (fun ac W hO hU H => ?_) ?_
          · have h1 : ac.tmps[1]? = some (.pointer (some ⟨w.heap.size, 0, none⟩)) := (hO 1 rfl).trans rfl
            have hg : ac.tmps[43]? = some (.bool false) := isV_get (W := W) (H 7 43 rfl)
            exact growOp_done rfl rfl hg (parts_value (by simp [go_sem, h1]))
          refine And.intro (fun ac W hO hU H => ?_) ?_
          · have h44 : ac.tmps[44]? = some (.pointer (some ⟨w.heap.size, 0, none⟩)) := isV_get (W := W) (H 8 44 rfl)
            have hg : ac.tmps[43]? = some (.bool false) := isV_get (W := W) (H 7 43 rfl)
            have f0 := c0 W hU
            exact growOp_done rfl rfl hg (parts_value (by simp [go_sem, h44, f0]))
          refine And.intro (fun ac W hO hU H => ?_) ?_
          · have h3 : ac.tmps[3]? = some (.int .i64 k) := (hO 3 rfl).trans rfl
            have hg : ac.tmps[43]? = some (.bool false) := isV_get (W := W) (H 7 43 rfl)
            exact growOp_done rfl rfl hg (parts_value (by simp [go_sem, h3]))
          refine And.intro (fun ac W hO hU H => ?_) ?_
          · have h45 : ac.tmps[45]? = some (.slice (some ⟨b, off, none⟩) f.pages.length c) := isV_get (W := W) (H 9 45 rfl)
            have h46 : ac.tmps[46]? = some (.int .i64 k) := isV_get (W := W) (H 10 46 rfl)
            have hg : ac.tmps[43]? = some (.bool false) := isV_get (W := W) (H 7 43 rfl)
            exact growOp_done rfl rfl hg (parts_value (by simp [go_sem, h45, h46, i1]))
          refine And.intro (fun ac W hO hU H => ?_) ?_
          · have h47 : ac.tmps[47]? = some (.pointer (some ⟨b, off + k, none⟩)) := isV_get (W := W) (H 11 47 rfl)
            have hg : ac.tmps[43]? = some (.bool false) := isV_get (W := W) (H 7 43 rfl)
            have f0 := e1 W hU
            exact growOp_done rfl rfl hg (parts_value (by simp [go_sem, h47, f0]))
          refine And.intro (fun ac W hO hU H => ?_) ?_
          · have h48 : ac.tmps[48]? = some (.string s) := isV_get (W := W) (H 12 48 rfl)
            have hg : ac.tmps[43]? = some (.bool false) := isV_get (W := W) (H 7 43 rfl)
            exact growOp_done rfl rfl hg (parts_value (by simp [go_sem, h48]))
          refine And.intro (fun ac W hO hU H => ?_) ?_
          · have h49 : ac.tmps[49]? = some (.int .i64 (s.size : Nat)) := isV_get (W := W) (H 13 49 rfl)
            have hg : ac.tmps[43]? = some (.bool false) := isV_get (W := W) (H 7 43 rfl)
            exact growOp_done rfl rfl hg (parts_value (by simp [go_sem, h49, t2]))
          refine And.intro (fun ac W hO hU H => ?_) ?_
          · have h43 : ac.tmps[43]? = some (.bool false) := isV_get (W := W) (H 7 43 rfl)
            have h50 : ac.tmps[50]? = some (.bool false) := isV_get (W := W) (H 14 50 rfl)
            exact growOp_plain rfl (parts_value (by simp [go_sem, h43, h50]))
          refine And.intro (fun ac W hO hU H => ?_) ?_
          · have h51 : ac.tmps[51]? = some (.bool false) := isV_get (W := W) (H 15 51 rfl)
            exact growOp_plain rfl (parts_value (by simp [go_sem, h51]))
          refine And.intro (fun ac W hO hU H => ?_) ?_
          · have h1 : ac.tmps[1]? = some (.pointer (some ⟨w.heap.size, 0, none⟩)) := (hO 1 rfl).trans rfl
            have hg : ac.tmps[52]? = some (.bool false) := isV_get (W := W) (H 16 52 rfl)
            exact growOp_done rfl rfl hg (parts_value (by simp [go_sem, h1]))
          refine And.intro (fun ac W hO hU H => ?_) ?_
          · have h53 : ac.tmps[53]? = some (.pointer (some ⟨w.heap.size, 0, none⟩)) := isV_get (W := W) (H 17 53 rfl)
            have hg : ac.tmps[52]? = some (.bool false) := isV_get (W := W) (H 16 52 rfl)
            have f0 := c0 W hU
            exact growOp_done rfl rfl hg (parts_value (by simp [go_sem, h53, f0]))
          refine And.intro (fun ac W hO hU H => ?_) ?_
          · have h3 : ac.tmps[3]? = some (.int .i64 k) := (hO 3 rfl).trans rfl
            have hg : ac.tmps[52]? = some (.bool false) := isV_get (W := W) (H 16 52 rfl)
            exact growOp_done rfl rfl hg (parts_value (by simp [go_sem, h3]))
          refine And.intro (fun ac W hO hU H => ?_) ?_
          · have h54 : ac.tmps[54]? = some (.slice (some ⟨b, off, none⟩) f.pages.length c) := isV_get (W := W) (H 18 54 rfl)
            have h55 : ac.tmps[55]? = some (.int .i64 k) := isV_get (W := W) (H 19 55 rfl)
            have hg : ac.tmps[52]? = some (.bool false) := isV_get (W := W) (H 16 52 rfl)
            exact growOp_done rfl rfl hg (parts_value (by simp [go_sem, h54, h55, i1]))
          refine And.intro (fun ac W hO hU H => ?_) ?_
          · have h56 : ac.tmps[56]? = some (.pointer (some ⟨b, off + k, none⟩)) := isV_get (W := W) (H 20 56 rfl)
            have hg : ac.tmps[52]? = some (.bool false) := isV_get (W := W) (H 16 52 rfl)
            have f0 := e1 W hU
            exact growOp_done rfl rfl hg (parts_value (by simp [go_sem, h56, f0]))
          refine And.intro (fun ac W hO hU H => ?_) ?_
          · have h57 : ac.tmps[57]? = some (.string s) := isV_get (W := W) (H 21 57 rfl)
            have hg : ac.tmps[52]? = some (.bool false) := isV_get (W := W) (H 16 52 rfl)
            exact growOp_done rfl rfl hg (parts_value (by simp [go_sem, h57]))
          refine And.intro (fun ac W hO hU H => ?_) ?_
          · have h1 : ac.tmps[1]? = some (.pointer (some ⟨w.heap.size, 0, none⟩)) := (hO 1 rfl).trans rfl
            have hg : ac.tmps[52]? = some (.bool false) := isV_get (W := W) (H 16 52 rfl)
            exact growOp_done rfl rfl hg (parts_value (by simp [go_sem, h1]))
          refine And.intro (fun ac W hO hU H => ?_) ?_
          · have h59 : ac.tmps[59]? = some (.pointer (some ⟨w.heap.size, 0, none⟩)) := isV_get (W := W) (H 23 59 rfl)
            have hg : ac.tmps[52]? = some (.bool false) := isV_get (W := W) (H 16 52 rfl)
            have f0 := c0 W hU
            exact growOp_done rfl rfl hg (parts_value (by simp [go_sem, h59, f0]))
          refine And.intro (fun ac W hO hU H => ?_) ?_
          · have h60 : ac.tmps[60]? = some (.slice (some ⟨b, off, none⟩) f.pages.length c) := isV_get (W := W) (H 24 60 rfl)
            have hg : ac.tmps[52]? = some (.bool false) := isV_get (W := W) (H 16 52 rfl)
            exact growOp_done rfl rfl hg (parts_value (by simp [go_sem, h60, hpn]))
          refine And.intro (fun ac W hO hU H => ?_) ?_
          · have h61 : ac.tmps[61]? = some (.pointer (some ⟨b, off, none⟩)) := isV_get (W := W) (H 25 61 rfl)
            have hg : ac.tmps[52]? = some (.bool false) := isV_get (W := W) (H 16 52 rfl)
            have f0 := e0 W hU
            exact growOp_done rfl rfl hg (parts_value (by simp [go_sem, h61, f0]))
          refine And.intro (fun ac W hO hU H => ?_) ?_
          · have h62 : ac.tmps[62]? = some (.string t) := isV_get (W := W) (H 26 62 rfl)
            have hg : ac.tmps[52]? = some (.bool false) := isV_get (W := W) (H 16 52 rfl)
            exact growOp_done rfl rfl hg (parts_value (by simp [go_sem, h62]))
          refine And.intro (fun ac W hO hU H => ?_) ?_
          · have h58 : ac.tmps[58]? = some (.int .i64 (s.size : Nat)) := isV_get (W := W) (H 22 58 rfl)
            have h63 : ac.tmps[63]? = some (.int .i64 (t.size : Nat)) := isV_get (W := W) (H 27 63 rfl)
            have hg : ac.tmps[52]? = some (.bool false) := isV_get (W := W) (H 16 52 rfl)
            exact growOp_done rfl rfl hg (parts_value (by simp [go_sem, h58, h63, t3']))
          refine And.intro (fun ac W hO hU H => ?_) ?_
          · have h52 : ac.tmps[52]? = some (.bool false) := isV_get (W := W) (H 16 52 rfl)
            have h64 : ac.tmps[64]? = some (.bool false) := isV_get (W := W) (H 28 64 rfl)
            exact growOp_plain rfl (parts_value (by simp [go_sem, h52, h64]))
          refine And.intro (fun ac W hO hU H => ?_) ?_
          · have h65 : ac.tmps[65]? = some (.bool false) := isV_get (W := W) (H 29 65 rfl)
            exact growOp_plain rfl (parts_value (by simp [go_sem, h65]))
          refine And.intro (fun ac W hO hU H => ?_) ?_
          · have h1 : ac.tmps[1]? = some (.pointer (some ⟨w.heap.size, 0, none⟩)) := (hO 1 rfl).trans rfl
            have hg : ac.tmps[66]? = some (.bool false) := isV_get (W := W) (H 30 66 rfl)
            exact growOp_done rfl rfl hg (parts_value (by simp [go_sem, h1]))
          refine And.intro (fun ac W hO hU H => ?_) ?_
          · have h67 : ac.tmps[67]? = some (.pointer (some ⟨w.heap.size, 1, none⟩)) := isV_get (W := W) (H 31 67 rfl)
            have hg : ac.tmps[66]? = some (.bool false) := isV_get (W := W) (H 30 66 rfl)
            have f0 := c1 W hU
            exact growOp_done rfl rfl hg (parts_value (by simp [go_sem, h67, f0]))
          refine And.intro (fun ac W hO hU H => ?_) ?_
          · have h3 : ac.tmps[3]? = some (.int .i64 k) := (hO 3 rfl).trans rfl
            have hg : ac.tmps[66]? = some (.bool false) := isV_get (W := W) (H 30 66 rfl)
            exact growOp_done rfl rfl hg (parts_value (by simp [go_sem, h3]))
          refine And.intro (fun ac W hO hU H => ?_) ?_
          · have h68 : ac.tmps[68]? = some (.slice (some ⟨b', off', none⟩) f.wear.length c') := isV_get (W := W) (H 32 68 rfl)
            have h69 : ac.tmps[69]? = some (.int .i64 k) := isV_get (W := W) (H 33 69 rfl)
            have hg : ac.tmps[66]? = some (.bool false) := isV_get (W := W) (H 30 66 rfl)
            exact growOp_done rfl rfl hg (parts_value (by simp [go_sem, h68, h69, iw]))
          refine And.intro (fun ac W hO hU H => ?_) ?_
          · have h70 : ac.tmps[70]? = some (.pointer (some ⟨b', off' + k, none⟩)) := isV_get (W := W) (H 34 70 rfl)
            have hg : ac.tmps[66]? = some (.bool false) := isV_get (W := W) (H 30 66 rfl)
            have f0 := e2 W hU
            exact growOp_done rfl rfl hg (parts_value (by simp [go_sem, h70, f0]))
          refine And.intro (fun ac W hO hU H => ?_) ?_
          · have h71 : ac.tmps[71]? = some (.int .i64 z) := isV_get (W := W) (H 35 71 rfl)
            have hg : ac.tmps[66]? = some (.bool false) := isV_get (W := W) (H 30 66 rfl)
            exact growOp_done rfl rfl hg (parts_value (by simp [go_sem, h71, t4]))
          refine And.intro (fun ac W hO hU H => ?_) ?_
          · have h66 : ac.tmps[66]? = some (.bool false) := isV_get (W := W) (H 30 66 rfl)
            have h72 : ac.tmps[72]? = some (.bool false) := isV_get (W := W) (H 36 72 rfl)
            exact growOp_plain rfl (parts_value (by simp [go_sem, h66, h72]))
          refine And.intro (fun ac W hO hU H => ?_) ?_
          · have h73 : ac.tmps[73]? = some (.bool false) := isV_get (W := W) (H 37 73 rfl)
            exact growOp_plain rfl (parts_value (by simp [go_sem, h73]))
          refine And.intro (fun ac W hO hU H => ?_) ?_
          · have h1 : ac.tmps[1]? = some (.pointer (some ⟨w.heap.size, 0, none⟩)) := (hO 1 rfl).trans rfl
            have hg : ac.tmps[74]? = some (.bool false) := isV_get (W := W) (H 38 74 rfl)
            exact growOp_done rfl rfl hg (parts_value (by simp [go_sem, h1]))
          refine And.intro (fun ac W hO hU H => ?_) ?_
          · have h75 : ac.tmps[75]? = some (.pointer (some ⟨w.heap.size, 1, none⟩)) := isV_get (W := W) (H 39 75 rfl)
            have hg : ac.tmps[74]? = some (.bool false) := isV_get (W := W) (H 38 74 rfl)
            have f0 := c1 W hU
            exact growOp_done rfl rfl hg (parts_value (by simp [go_sem, h75, f0]))
          refine And.intro (fun ac W hO hU H => ?_) ?_
          · have h3 : ac.tmps[3]? = some (.int .i64 k) := (hO 3 rfl).trans rfl
            have hg : ac.tmps[74]? = some (.bool false) := isV_get (W := W) (H 38 74 rfl)
            exact growOp_done rfl rfl hg (parts_value (by simp [go_sem, h3]))
          refine And.intro (fun ac W hO hU H => ?_) ?_
          · have h76 : ac.tmps[76]? = some (.slice (some ⟨b', off', none⟩) f.wear.length c') := isV_get (W := W) (H 40 76 rfl)
            have h77 : ac.tmps[77]? = some (.int .i64 k) := isV_get (W := W) (H 41 77 rfl)
            have hg : ac.tmps[74]? = some (.bool false) := isV_get (W := W) (H 38 74 rfl)
            exact growOp_done rfl rfl hg (parts_value (by simp [go_sem, h76, h77, iw]))
          refine And.intro (fun ac W hO hU H => ?_) ?_
          · have h78 : ac.tmps[78]? = some (.pointer (some ⟨b', off' + k, none⟩)) := isV_get (W := W) (H 42 78 rfl)
            have hg : ac.tmps[74]? = some (.bool false) := isV_get (W := W) (H 38 74 rfl)
            have f0 := e2 W hU
            exact growOp_done rfl rfl hg (parts_value (by simp [go_sem, h78, f0]))
          refine And.intro (fun ac W hO hU H => ?_) ?_
          · have h79 : ac.tmps[79]? = some (.int .i64 z) := isV_get (W := W) (H 43 79 rfl)
            have hg : ac.tmps[74]? = some (.bool false) := isV_get (W := W) (H 38 74 rfl)
            exact growOp_done rfl rfl hg (parts_value (by simp [go_sem, h79, t5]))
          refine And.intro (fun ac W hO hU H => ?_) ?_
          · have h74 : ac.tmps[74]? = some (.bool false) := isV_get (W := W) (H 38 74 rfl)
            have h80 : ac.tmps[80]? = some (.bool false) := isV_get (W := W) (H 44 80 rfl)
            exact growOp_plain rfl (parts_value (by simp [go_sem, h74, h80]))
          exact trivial
        · intro W xs hU hks
          obtain ⟨y0, rfl, g0⟩ := holdAll_is hks
          obtain ⟨y1, rfl, g1⟩ := holdAll_is g0
          obtain ⟨y2, rfl, g2⟩ := holdAll_is g1
          obtain ⟨y3, rfl, g3⟩ := holdAll_is g2
          obtain ⟨y4, rfl, g4⟩ := holdAll_is g3
          obtain ⟨y5, rfl, g5⟩ := holdAll_is g4
          obtain ⟨y6, rfl, g6⟩ := holdAll_is g5
          obtain ⟨y7, rfl, g7⟩ := holdAll_is g6
          obtain ⟨y8, rfl, g8⟩ := holdAll_is g7
          obtain ⟨y9, rfl, g9⟩ := holdAll_is g8
          obtain ⟨y10, rfl, g10⟩ := holdAll_is g9
          obtain ⟨y11, rfl, g11⟩ := holdAll_is g10
          obtain ⟨y12, rfl, g12⟩ := holdAll_is g11
          obtain ⟨y13, rfl, g13⟩ := holdAll_is g12
          obtain ⟨y14, rfl, g14⟩ := holdAll_is g13
          obtain ⟨y15, rfl, g15⟩ := holdAll_is g14
          obtain ⟨y16, rfl, g16⟩ := holdAll_is g15
          obtain ⟨y17, rfl, g17⟩ := holdAll_is g16
          obtain ⟨y18, rfl, g18⟩ := holdAll_is g17
          obtain ⟨y19, rfl, g19⟩ := holdAll_is g18
          obtain ⟨y20, rfl, g20⟩ := holdAll_is g19
          obtain ⟨y21, rfl, g21⟩ := holdAll_is g20
          obtain ⟨y22, rfl, g22⟩ := holdAll_is g21
          obtain ⟨y23, rfl, g23⟩ := holdAll_is g22
          obtain ⟨y24, rfl, g24⟩ := holdAll_is g23
          obtain ⟨y25, rfl, g25⟩ := holdAll_is g24
          obtain ⟨y26, rfl, g26⟩ := holdAll_is g25
          obtain ⟨y27, rfl, g27⟩ := holdAll_is g26
          obtain ⟨y28, rfl, g28⟩ := holdAll_is g27
          obtain ⟨y29, rfl, g29⟩ := holdAll_is g28
          obtain ⟨y30, rfl, g30⟩ := holdAll_is g29
          obtain ⟨y31, rfl, g31⟩ := holdAll_is g30
          obtain ⟨y32, rfl, g32⟩ := holdAll_is g31
          obtain ⟨y33, rfl, g33⟩ := holdAll_is g32
          obtain ⟨y34, rfl, g34⟩ := holdAll_is g33
          obtain ⟨y35, rfl, g35⟩ := holdAll_is g34
          obtain ⟨y36, rfl, g36⟩ := holdAll_is g35
          obtain ⟨y37, rfl, g37⟩ := holdAll_is g36
          obtain ⟨y38, rfl, g38⟩ := holdAll_is g37
          obtain ⟨y39, rfl, g39⟩ := holdAll_is g38
          obtain ⟨y40, rfl, g40⟩ := holdAll_is g39
          obtain ⟨y41, rfl, g41⟩ := holdAll_is g40
          obtain ⟨y42, rfl, g42⟩ := holdAll_is g41
          obtain ⟨y43, rfl, g43⟩ := holdAll_is g42
          obtain ⟨y44, rfl, g44⟩ := holdAll_is g43
          obtain ⟨y45, rfl, g45⟩ := holdAll_is g44
          obtain rfl := holdAll_nil g45
          clear hks g0 g1 g2 g3 g4 g5 g6 g7 g8 g9 g10 g11 g12 g13 g14 g15 g16 g17 g18 g19 g20 g21 g22 g23 g24 g25 g26 g27 g28 g29 g30 g31 g32 g33 g34 g35 g36 g37 g38 g39 g40 g41 g42 g43 g44 g45
          simp only [List.take_succ_cons, List.take_zero, List.drop_succ_cons, List.drop_zero, endTmps, List.setIfInBounds_toArray, List.set]
          go_wp2_with fail
          go_roundw
          case rel =>
            refine ⟨k + 1, by omega, by go_num, Ups.trans hu (drew_ups hU), ?_⟩
            intro j hj
            by_cases hjk : j = k
            · subst hjk
              rw [okAt, G1.out, G0.out, G2.out]
              simp only [Bool.and_eq_true, decide_eq_true_eq]
              have := T3.out
              omega
            · exact HPRE.out j (by omega)
          case measure => simp [intOf]; omega
      · obtain rfl : k = f.pages.length := by omega
        have hc : checkB f = true := HK.out.2 HPRE.out
        go_wp2_with fail
        go_ret
        exact ⟨(show Ending.returned (Value.bool true) = Ending.returned (Value.bool (checkB f)) by rw [hc]), Ups.trans hu1 hu⟩
  · have hc : checkB f = false := by simp [checkB, h3]
    rw [hc]
    have g3 : ((f.wear.length : Int) != f.pages.length) = true := by
      have : ¬ (f.wear.length : Int) = f.pages.length := by omega
      simpa using this
    clear hc h1 h2 h3
    go_enter Tryz.func42, Tryz.ntmps42
    go_wp2_with fail
    go_ret
    exact ⟨rfl, hu1⟩

end Go.Proofs.YtmabpnkdagipfaaGreat
