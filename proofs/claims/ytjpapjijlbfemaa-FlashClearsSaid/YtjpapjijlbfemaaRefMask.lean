/- What ouroborosref03.mask comes to. -/
import Derived.Test.YtjpapjijlbfemaaRefFl
namespace Go.Proofs.Ytjpapjijlbfemaa
open Go.RowKit

theorem own_ups {A B : World} {base e size n : Nat} {v : Value} {xs : List Value} (h : A.ownsRow base e size v n xs) (hu : Ups A B) : B.ownsRow base e size v n xs := by
  obtain ⟨hl, h | ⟨g, cap, cur, rfl, hB, hg, h1, h2, h3, h4⟩⟩ := h
  · exact ⟨hl, .inl h⟩
  · exact ⟨hl, .inr ⟨g, cap, cur, rfl, hB, block_ups hg hu, h1, h2, h3, h4⟩⟩

set_option maxRecDepth 100000 in
set_option maxHeartbeats 2000000 in
theorem rmask_calls (f : Fl) (v : Value) (w : World) (h : FlAt w v f) (first : ByteArray) (h0 : 0 < f.pages.length) (hf : f.pages.getD 0 ByteArray.empty = first) (hb : f.pages.length ≤ 1000) (hs : first.size ≤ 8192) (ht : f.torn.size ≤ 64) :
    Calls Try.prog 39 #[v] w fun e W' => e = .returned (.string (maskT f.torn first.size)) ∧ Ups w W' := by
  obtain ⟨p, q, rfl, ⟨a, c, rfl, hp⟩, ⟨a', c', rfl, _⟩⟩ := h
  obtain ⟨b, off, rfl, hp'⟩ := hp h0
  have hc0 := hp' 0 h0
  rw [hf, Nat.add_zero] at hc0
  have h0' : (0 : Int) < f.pages.length := by omega
  have hu1 : Ups w (w.alloc (.cells #[.slice (some ⟨b, off, none⟩) f.pages.length c, .slice a' f.wear.length c', .int .i64 f.fuse, .string f.torn, .bool f.dead] 25)) := (Below.refl _ w).alloc (Nat.le_refl _) _
  have hk0 : (w.alloc (.cells #[.slice (some ⟨b, off, none⟩) f.pages.length c, .slice a' f.wear.length c', .int .i64 f.fuse, .string f.torn, .bool f.dead] 25)).heap[w.heap.size]? = some (.cells #[.slice (some ⟨b, off, none⟩) f.pages.length c, .slice a' f.wear.length c', .int .i64 f.fuse, .string f.torn, .bool f.dead] 25) := alloc_at w _
  obtain ⟨i0, hi, hx0, hx1, hx2⟩ := info_parts info_u8
  have HI := Lib.hid (And.intro hi (And.intro hx0 (And.intro hx1 hx2)))
  have hlenM : (maskL f.torn.data.toList first.size).length = first.size := maskL_length _ _
  have HL := Lib.hid hlenM
  have HH0 := Lib.hid hc0
  clear hi hx0 hx1 hx2 hp hp' hf hlenM hc0
  go_enter Try.func39, Try.ntmps39
  go_wp2_with fail
  go_loopw [3, 4] (fun v i wr => ∃ k : Nat, k ≤ first.size ∧ i = .int .i64 k ∧ wr.ownsRow (w.alloc (.cells #[.slice (some ⟨b, off, none⟩) f.pages.length c, .slice a' f.wear.length c', .int .i64 f.fuse, .string f.torn, .bool f.dead] 25)).heap.size 5 1 v ((maskL f.torn.data.toList first.size).take k).length (((maskL f.torn.data.toList first.size).take k).map enc8) ∧ Ups (w.alloc (.cells #[.slice (some ⟨b, off, none⟩) f.pages.length c, .slice a' f.wear.length c', .int .i64 f.fuse, .string f.torn, .bool f.dead] 25)) wr)
    (fun _ i _ => first.size - (intOf i).toNat)
  case atStart => exact ⟨0, Nat.zero_le _, rfl, World.ownsRow_nil _ _ _ _, Ups.refl _⟩
  case round =>
    obtain ⟨k, hk, rfl, hown, hbel⟩ := hrel
    obtain ⟨k0, k1, k2, k3, k4⟩ := block_cells (block_ups hk0 hbel)
    have e0 := cell_ups (Ups.trans hu1 hbel) HH0.out
    by_cases hlt : k < first.size
    · have htake : ((maskL f.torn.data.toList first.size).take k).length = k := by rw [List.length_take, HL.out]; omega
      have hnext : (maskL f.torn.data.toList first.size).take (k + 1) = (maskL f.torn.data.toList first.size).take k ++ [f.torn.data.toList.getD (k % f.torn.data.toList.length) 0] := by
        rw [List.take_succ_eq_append_getElem (by rw [HL.out]; exact hlt)]
        simp [maskL]
      rw [htake] at hown
      rw [toList_length] at hnext
      obtain ⟨hi, hx0, hx1, hx2⟩ := HI.out
      have hsz := hbel.size
      have HB := Lib.hid hbel
      have HT := Lib.hid htake
      have HN := Lib.hid hnext
      clear htake hnext
      by_cases ht0 : f.torn.size = 0
      · have hg : f.torn.data.toList.getD (k % f.torn.size) 0 = 0 := by
          have : f.torn.data.toList = [] := List.eq_nil_of_length_eq_zero (by rw [toList_length]; exact ht0)
          rw [this]
          simp
        rw [hg] at HN
        have hte : f.torn = ByteArray.empty := by
          apply text_ext
          have : f.torn.data.toList = [] := List.eq_nil_of_length_eq_zero (by rw [toList_length]; exact ht0)
          rw [this]
          rfl
        have ht1 : ¬ (0 : Int) < f.torn.size := by omega
        have hownW := hown
        have HBW := HB
        generalize (maskL f.torn.data.toList first.size).take k = L at *
        clear hown hbel ht0 hte hg
        go_wp2_with (
          at_builtin
          go_loud (refine wpList_append_own _ rfl _ _ 44 rfl (w.alloc (.cells #[.slice (some ⟨b, off, none⟩) f.pages.length c, .slice a' f.wear.length c', .int .i64 f.fuse, .string f.torn, .bool f.dead] 25)).heap.size 5 i0 (.int .u8 0) 1 1 Try.underlying44 hi hx0 hx1 hx2 rfl (by decide) _ _ _ rfl (hownW.alloc _) ⟨wr.heap.size, 0, none⟩ 1 1 [enc8 0] rfl rfl (cell_one_new _ _ _) (by simp [enc8_one]) (by unfold maxLen; omega) (by omega) (Nat.le_trans HBW.out.size (by simp)) ?_)
          intro v' w1 hown' hgrow _)
        have hb2 := below_append HBW.out hownW hgrow
        clear hi hx0 hx1 hx2
        go_wp2
        go_roundw
        case rel =>
          refine ⟨k + 1, by omega, by go_num, ?_, hb2⟩
          rw [HN.out]
          have hT := HT.out
          refine own_snoc ?_
          rw [hT]
          exact hown'
        case measure => simp [intOf]; omega
      · have hrl : k % f.torn.size < f.torn.size := Nat.mod_lt _ (by omega)
        have hmod : (k : Int).tmod (f.torn.size : Int) = ((k % f.torn.size : Nat) : Int) := by
          rw [Int.tmod_eq_emod_of_nonneg (by omega)]
          norm_cast
        have hte : ¬ f.torn = ByteArray.empty := fun e => ht0 (by rw [e]; rfl)
        have ht1 : (0 : Int) < f.torn.size := by omega
        have hidx : (f.torn[k % f.torn.size]'hrl) = f.torn.data.toList.getD (k % f.torn.size) 0 := by
          rw [List.getD_eq_getElem?_getD, List.getElem?_eq_getElem (by rw [toList_length]; exact hrl)]
          rfl
        generalize f.torn.data.toList.getD (k % f.torn.size) 0 = x at *
        generalize (maskL f.torn.data.toList first.size).take k = L at *
        generalize k % f.torn.size = r at *
        have hwr : IntKind.i64.wrap (r : Int) = r := (IntWalk.i64_left _).trans (IntWalk.wrap64_in _ ⟨by omega, by omega⟩)
        have ct := fun W (hU : Ups (World.drew wr) W) => (block_cells (block_ups hk0 (Ups.trans hbel (drew_ups hU)))).2.2.2.1
        go_wp2_with fail
        refine wp_region_parts (N := 8) (n := 33) (ks := [isV (.pointer (some ⟨w.heap.size, 3, none⟩)), isV (.string f.torn), isV (.int .i64 k), isV (.pointer (some ⟨w.heap.size, 3, none⟩)), isV (.string f.torn), isV (.int .i64 (f.torn.size : Nat)), isV (.int .i64 (r : Nat)), isV (.int .u8 (x.toNat : Nat))]) (by decide +kernel) (by decide +kernel) (by decide +kernel) (by simp) rfl (by decide +kernel) ⟨steady_is _, steady_is _, steady_is _, steady_is _, steady_is _, steady_is _, steady_is _, steady_is _, trivial⟩ ?_ ?_
        · refine And.intro (fun ac W hO hU H => ?_) ?_
          · have h1 : ac.tmps[1]? = some (.pointer (some ⟨w.heap.size, 0, none⟩)) := (hO 1 rfl).trans rfl
            exact growOp_plain rfl (parts_value (by simp [go_sem, h1]))
          refine And.intro (fun ac W hO hU H => ?_) ?_
          · have h19 : ac.tmps[19]? = some (.pointer (some ⟨w.heap.size, 3, none⟩)) := isV_get (W := W) (H 0 19 rfl)
            have f0 := ct W hU
            exact growOp_plain rfl (parts_value (by simp [go_sem, h19, f0]))
          refine And.intro (fun ac W hO hU H => ?_) ?_
          · have h4 : ac.tmps[4]? = some (.int .i64 k) := (hO 4 rfl).trans rfl
            exact growOp_plain rfl (parts_value (by simp [go_sem, h4]))
          refine And.intro (fun ac W hO hU H => ?_) ?_
          · have h1 : ac.tmps[1]? = some (.pointer (some ⟨w.heap.size, 0, none⟩)) := (hO 1 rfl).trans rfl
            exact growOp_plain rfl (parts_value (by simp [go_sem, h1]))
          refine And.intro (fun ac W hO hU H => ?_) ?_
          · have h22 : ac.tmps[22]? = some (.pointer (some ⟨w.heap.size, 3, none⟩)) := isV_get (W := W) (H 3 22 rfl)
            have f0 := ct W hU
            exact growOp_plain rfl (parts_value (by simp [go_sem, h22, f0]))
          refine And.intro (fun ac W hO hU H => ?_) ?_
          · have h23 : ac.tmps[23]? = some (.string f.torn) := isV_get (W := W) (H 4 23 rfl)
            exact growOp_plain rfl (parts_value (by simp [go_sem, h23]))
          refine And.intro (fun ac W hO hU H => ?_) ?_
          · have h21 : ac.tmps[21]? = some (.int .i64 k) := isV_get (W := W) (H 2 21 rfl)
            have h24 : ac.tmps[24]? = some (.int .i64 (f.torn.size : Nat)) := isV_get (W := W) (H 5 24 rfl)
            exact growOp_plain rfl (parts_value (by simp [go_sem, h21, h24, hmod, hte]))
          refine And.intro (fun ac W hO hU H => ?_) ?_
          · have h20 : ac.tmps[20]? = some (.string f.torn) := isV_get (W := W) (H 1 20 rfl)
            have h25 : ac.tmps[25]? = some (.int .i64 (r : Nat)) := isV_get (W := W) (H 6 25 rfl)
            exact growOp_plain rfl (parts_value (by simp [go_sem, h20, h25, hrl, hidx]))
          exact trivial
        · intro W xs hU hks
          obtain ⟨y0, rfl, g0⟩ := holdAll_is hks
          obtain ⟨y1, rfl, g1⟩ := holdAll_is g0
          obtain ⟨y2, rfl, g2⟩ := holdAll_is g1
          obtain ⟨y3, rfl, g3⟩ := holdAll_is g2
          obtain ⟨y4, rfl, g4⟩ := holdAll_is g3
          obtain ⟨y5, rfl, g5⟩ := holdAll_is g4
          obtain ⟨y6, rfl, g6⟩ := holdAll_is g5
          obtain ⟨y7, rfl, g7⟩ := holdAll_is g6
          obtain rfl := holdAll_nil g7
          clear hks g0 g1 g2 g3 g4 g5 g6 g7
          simp only [List.take_succ_cons, List.take_zero, List.drop_succ_cons, List.drop_zero, endTmps, List.setIfInBounds_toArray, List.set]
          have hownW := own_ups hown (drew_ups hU)
          have HBW := Lib.hid (Ups.trans HB.out (drew_ups hU))
          have hszW := HBW.out.size
          clear hown hbel ct hidx hmod hte
          go_wp2_with (
            at_builtin
            go_loud (refine wpList_append_own _ rfl _ _ 44 rfl (w.alloc (.cells #[.slice (some ⟨b, off, none⟩) f.pages.length c, .slice a' f.wear.length c', .int .i64 f.fuse, .string f.torn, .bool f.dead] 25)).heap.size 5 i0 (.int .u8 0) 1 1 Try.underlying44 hi hx0 hx1 hx2 rfl (by decide) _ _ _ rfl (hownW.alloc _) ⟨W.heap.size, 0, none⟩ 1 1 [enc8 x] rfl rfl (cell_one_new _ _ _) (by simp [enc8_one]) (by unfold maxLen; omega) (by omega) (Nat.le_trans HBW.out.size (by simp)) ?_)
            intro v' w1 hown' hgrow _)
          have hb2 := below_append HBW.out hownW hgrow
          clear hi hx0 hx1 hx2
          go_wp2
          go_roundw
          case rel =>
            refine ⟨k + 1, by omega, by go_num, ?_, hb2⟩
            rw [HN.out]
            have hT := HT.out
            refine own_snoc ?_
            rw [hT]
            exact hown'
          case measure => simp [intOf]; omega
    · have hcv := string_of_own (by rw [List.take_of_length_le (by rw [HL.out]; omega)] at hown; exact hown)
      go_wp2
      go_ret
      exact ⟨rfl, Ups.trans hu1 hbel⟩

end Go.Proofs.Ytjpapjijlbfemaa
