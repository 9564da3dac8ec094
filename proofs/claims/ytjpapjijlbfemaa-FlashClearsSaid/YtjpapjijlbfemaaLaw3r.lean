/- FlashRots, walked. -/
import Derived.Test.YtjpapjijlbfemaaLaw3a
import Derived.Test.YtjpapjijlbfemaaLaw3p
import Derived.Test.YtjpapjijlbfemaaParts
import Derived.LoopTactic
namespace Go.Proofs.Ytjpapjijlbfemaa
open Go.RowKit

theorem FlAt.page {W : World} {a : Option Addr} {n c : Nat} {q : Value} {fu : Int} {tn : ByteArray} {de : Bool} {f : Fl} (h : FlAt W (.agg #[.slice a n c, q, .int .i64 fu, .string tn, .bool de]) f) {k : Nat} (hk : k < f.pages.length) :
    ∃ b off, a = some ⟨b, off, none⟩ ∧ W.cell? ⟨b, off + k, none⟩ = some (.string (oldT f k)) := by
  obtain ⟨p, q, hv, ⟨a', c', hp, hj⟩, _⟩ := h
  simp only [Value.agg.injEq, Array.mk.injEq, List.cons.injEq] at hv
  obtain ⟨rfl, _⟩ := hv
  simp only [Value.slice.injEq] at hp
  obtain ⟨rfl, _, _⟩ := hp
  obtain ⟨b, off, rfl, hc⟩ := hj (by omega)
  exact ⟨b, off, rfl, hc k hk⟩
theorem FlAt.worn {W : World} {a : Option Addr} {n c : Nat} {p : Value} {fu : Int} {tn : ByteArray} {de : Bool} {f : Fl} (h : FlAt W (.agg #[p, .slice a n c, .int .i64 fu, .string tn, .bool de]) f) {k : Nat} (hk : k < f.wear.length) :
    ∃ b off, a = some ⟨b, off, none⟩ ∧ W.cell? ⟨b, off + k, none⟩ = some (.int .i64 (f.wear.getD k 0)) := by
  obtain ⟨p, q, hv, _, ⟨a', c', hp, hj⟩⟩ := h
  simp only [Value.agg.injEq, Array.mk.injEq, List.cons.injEq] at hv
  obtain ⟨_, rfl, _⟩ := hv
  simp only [Value.slice.injEq] at hp
  obtain ⟨rfl, _, _⟩ := hp
  obtain ⟨b, off, rfl, hc⟩ := hj (by omega)
  exact ⟨b, off, rfl, hc k hk⟩
theorem count_ups (s : ByteArray) (w : World) (hs : s.size ≤ 140737488355328) :
    Calls Try.prog 30 #[.string s] w fun e w' => e = .returned (.int .i64 (count s.data.toList)) ∧ Ups w w' := by
  refine (count_calls s w hs).mono ?_
  rintro e w' ⟨rfl, rfl⟩
  exact ⟨rfl, Ups.refl _⟩
theorem step_fit (f : Fl) (n : Nat) (a b : ByteArray) (h : FlFit f) : FlFit (stepF f n a b).1 := by
  obtain ⟨h1, h2, h3, h4⟩ := h
  unfold stepF
  split
  · exact ⟨h1, h2, h3, h4⟩
  · split
    · exact ⟨by simpa using h1, h2, h3, h4⟩
    · refine ⟨by simpa using h1, h2, ?_, ?_⟩ <;> simp only <;> split <;> omega
theorem erase_fit (f : Fl) (page : Int) (h : FlFit f) : FlFit (eraseF f page).1 := by
  unfold eraseF
  split
  · have := step_fit f page.toNat (onesT (oldT f page.toNat).size) (orT (oldT f page.toNat) (maskOf f)) h
    simp only
    split
    · exact ⟨this.1, by simpa using this.2.1, this.2.2.1, this.2.2.2⟩
    · exact this
  · exact h
theorem program_fit (f : Fl) (page at_ : Int) (s : ByteArray) (h : FlFit f) : FlFit (programF f page at_ s).1 := by
  unfold programF
  split
  · exact step_fit _ _ _ _ h
  · exact h
theorem wake_fit (f : Fl) (fuse : Int) (torn : ByteArray) (h : FlFit f) (h1 : -9223372036854775808 ≤ fuse) (h2 : fuse ≤ 9223372036854775807) : FlFit (wakeF f fuse torn).1 := by
  unfold wakeF
  split
  · exact ⟨h.1, h.2.1, h1, h2⟩
  · exact h
theorem rot_fit (f : Fl) (page at_ : Int) (s : ByteArray) (h : FlFit f) : FlFit (rotF f page at_ s).1 := by
  unfold rotF
  split
  · exact ⟨by simpa using h.1, h.2.1, h.2.2.1, h.2.2.2⟩
  · exact h

set_option maxRecDepth 100000 in
set_option maxHeartbeats 8000000 in
theorem rots_law (f : Fl) (v : Value) (page at_ : Int) (turn : ByteArray) (w : World) (h : FlAt w v f) (hf : FlFit f) (ha : at_ ≤ 9223372036854775807) :
    Calls Try.prog 8 #[v, .int .i64 page, .int .i64 at_, .string turn] w fun e W' => e = .returned (.bool true) ∧ Ups w W' := by
  obtain ⟨X, e, hX⟩ : ∃ X e, rotF f page at_ turn = (X, e) := ⟨_, _, rfl⟩
  obtain ⟨Y, g, hY⟩ : ∃ Y g, rotF X page at_ turn = (Y, g) := ⟨_, _, rfl⟩
  have hfX := rot_fit f page at_ turn hf
  rw [hX] at hfX
  have HP := Lib.hid (rots_plain hX hY)
  have lX := rot_len f page at_ turn
  rw [hX] at lX
  have LX := Lib.hid lX
  clear lX
  have hrf := h
  clear h
  have hsf := hrf
  obtain ⟨_, _, rfl, ⟨af, cf, rfl, _⟩, ⟨a'f, c'f, rfl, _⟩⟩ := hsf
  have hbf : (w.alloc (.cells #[.slice af f.pages.length cf, .slice a'f f.wear.length c'f, .int .i64 f.fuse, .string f.torn, .bool f.dead] 25)).heap[w.heap.size]? = some (.cells #[.slice af f.pages.length cf, .slice a'f f.wear.length c'f, .int .i64 f.fuse, .string f.torn, .bool f.dead] 25) := alloc_at _ _
  go_enter Try.func8, Try.ntmps8
  have hc := works3 (w.alloc (.cells #[.slice af f.pages.length cf, .slice a'f f.wear.length c'f, .int .i64 f.fuse, .string f.torn, .bool f.dead] 25))
  go_wp2_with fail
  refine hc.mono ?_
  clear hc
  rintro e w1 ⟨rfl, uu⟩
  have ub1 : Ups (w.alloc (.cells #[.slice af f.pages.length cf, .slice a'f f.wear.length c'f, .int .i64 f.fuse, .string f.torn, .bool f.dead] 25)) w1 := uu
  replace hrf := hrf.ups (Ups.trans (up1 _ _) ub1)
  replace hbf := block_ups hbf ub1
  have ltf_1 : w.heap.size < w1.heap.size := (Array.getElem?_eq_some_iff.1 hbf).1
  have uw := Ups.trans (up1 _ _) ub1
  clear uu
  have hc := few_calls f _ w1 (hrf.ups (Ups.refl _)) hf
  obtain ⟨kf0, kf1, kf2, kf3, kf4⟩ := block_cells hbf
  go_wp2_with fail
  refine hc.mono ?_
  clear hc
  rintro e w2 ⟨few, rfl, hfew, uu⟩
  clear kf0 kf1 kf2 kf3 kf4
  have ub2 : Ups w1 w2 := uu
  replace hrf := hrf.ups (Ups.trans (Ups.refl _) ub2)
  replace hbf := block_ups hbf (Ups.trans (Ups.refl _) ub2)
  have ltf_2 : w.heap.size < w2.heap.size := (Array.getElem?_eq_some_iff.1 hbf).1
  replace uw := Ups.trans uw (Ups.trans (Ups.refl _) ub2)
  clear uu
  cases few with
  | false =>
    go_wp2_with fail
    exact bodyPost_ret (v := .bool true) (results_one rfl rfl) rfl ⟨rfl, Ups.trans uw (Ups.refl _)⟩
  | true =>
    obtain ⟨n1, n2⟩ := hfew rfl
    have n12 := Lib.hid (And.intro n1 n2)
    clear hfew n1 n2
    by_cases hs : (400 : Int) < turn.size
    · go_wp2_with fail
      exact bodyPost_ret (v := .bool true) (results_one rfl rfl) rfl ⟨rfl, Ups.trans uw (Ups.refl _)⟩
    have hc := rot_calls f _ page at_ turn w2 (hrf.ups (Ups.refl _)) hf ha
    rw [hX] at hc
    obtain ⟨kf0, kf1, kf2, kf3, kf4⟩ := block_cells hbf
    go_wp2_with fail
    refine hc.mono ?_
    clear hc
    rintro e w3 ⟨v1, rfl, hn⟩
    clear kf0 kf1 kf2 kf3 kf4
    have ub3 : Ups w2 w3 := hn.ups
    replace hrf := hrf.ups (Ups.trans (Ups.refl _) ub3)
    replace hbf := block_ups hbf (Ups.trans (Ups.refl _) ub3)
    have ltf_3 : w.heap.size < w3.heap.size := (Array.getElem?_eq_some_iff.1 hbf).1
    replace uw := Ups.trans uw (Ups.trans (Ups.refl _) ub3)
    have hr1 := hn.reads
    clear hn
    have hs1 := hr1
    obtain ⟨_, _, rfl, ⟨a1, c1, rfl, _⟩, ⟨a'1, c'1, rfl, _⟩⟩ := hs1
    have hb1 : (w3.alloc (.cells #[.slice a1 X.pages.length c1, .slice a'1 X.wear.length c'1, .int .i64 X.fuse, .string X.torn, .bool X.dead] 25)).heap[w3.heap.size]? = some (.cells #[.slice a1 X.pages.length c1, .slice a'1 X.wear.length c'1, .int .i64 X.fuse, .string X.torn, .bool X.dead] 25) := alloc_at _ _
    have hc := rot_calls X _ page at_ turn (w3.alloc (.cells #[.slice a1 X.pages.length c1, .slice a'1 X.wear.length c'1, .int .i64 X.fuse, .string X.torn, .bool X.dead] 25)) (hr1.ups (up1 _ _)) hfX ha
    rw [hY] at hc
    go_wp2_with fail
    refine hc.mono ?_
    clear hc
    rintro e w4 ⟨v2, rfl, hn⟩
    have ub4 : Ups (w3.alloc (.cells #[.slice a1 X.pages.length c1, .slice a'1 X.wear.length c'1, .int .i64 X.fuse, .string X.torn, .bool X.dead] 25)) w4 := hn.ups
    replace hrf := hrf.ups (Ups.trans (up1 _ _) ub4)
    replace hbf := block_ups hbf (Ups.trans (up1 _ _) ub4)
    have ltf_4 : w.heap.size < w4.heap.size := (Array.getElem?_eq_some_iff.1 hbf).1
    replace hr1 := hr1.ups (Ups.trans (up1 _ _) ub4)
    replace hb1 := block_ups hb1 ub4
    have lt1_4 : w3.heap.size < w4.heap.size := (Array.getElem?_eq_some_iff.1 hb1).1
    replace uw := Ups.trans uw (Ups.trans (up1 _ _) ub4)
    have hr2 := hn.reads
    clear hn
    have hs2 := hr2
    obtain ⟨_, _, rfl, ⟨a2, c2, rfl, _⟩, ⟨a'2, c'2, rfl, _⟩⟩ := hs2
    have hb2 : (w4.alloc (.cells #[.slice a2 Y.pages.length c2, .slice a'2 Y.wear.length c'2, .int .i64 Y.fuse, .string Y.torn, .bool Y.dead] 25)).heap[w4.heap.size]? = some (.cells #[.slice a2 Y.pages.length c2, .slice a'2 Y.wear.length c'2, .int .i64 Y.fuse, .string Y.torn, .bool Y.dead] 25) := alloc_at _ _
    rcases HP.out with ⟨rfl, hXf⟩ | ⟨rfl, rfl, hYf, h4, hck, hlen, hcnt⟩
    · obtain rfl : f = X := hXf.symm
      clear hXf
      have hc := same_calls f f _ _ (w4.alloc (.cells #[.slice a2 Y.pages.length c2, .slice a'2 Y.wear.length c'2, .int .i64 Y.fuse, .string Y.torn, .bool Y.dead] 25)) (hr1.ups (up1 _ _)) (hrf.ups (up1 _ _)) (by have := n12.out; omega) (by have := n12.out; omega) (by have := n12.out; omega) (by have := n12.out; omega)
      rw [sameB_refl] at hc
      obtain ⟨k10, k11, k12, k13, k14⟩ := block_cells hb1
      obtain ⟨kf0, kf1, kf2, kf3, kf4⟩ := block_cells hbf
      go_wp2_with fail
      refine hc.mono ?_
      clear hc
      rintro e w5 ⟨rfl, uu⟩
      clear k10 k11 k12 k13 k14 kf0 kf1 kf2 kf3 kf4
      have ub5 : Ups (w4.alloc (.cells #[.slice a2 Y.pages.length c2, .slice a'2 Y.wear.length c'2, .int .i64 Y.fuse, .string Y.torn, .bool Y.dead] 25)) w5 := uu
      replace hrf := hrf.ups (Ups.trans (up1 _ _) ub5)
      replace hbf := block_ups hbf (Ups.trans (up1 _ _) ub5)
      have ltf_5 : w.heap.size < w5.heap.size := (Array.getElem?_eq_some_iff.1 hbf).1
      replace hr1 := hr1.ups (Ups.trans (up1 _ _) ub5)
      replace hb1 := block_ups hb1 (Ups.trans (up1 _ _) ub5)
      have lt1_5 : w3.heap.size < w5.heap.size := (Array.getElem?_eq_some_iff.1 hb1).1
      replace hr2 := hr2.ups (Ups.trans (up1 _ _) ub5)
      replace hb2 := block_ups hb2 ub5
      have lt2_5 : w4.heap.size < w5.heap.size := (Array.getElem?_eq_some_iff.1 hb2).1
      replace uw := Ups.trans uw (Ups.trans (up1 _ _) ub5)
      clear uu
      go_wp2_with fail
      exact bodyPost_ret (v := .bool true) (results_one rfl rfl) rfl ⟨rfl, Ups.trans uw (Ups.refl _)⟩
    · obtain rfl : f = Y := hYf.symm
      clear hYf
      have HC := Lib.hid hcnt
      have HL := Lib.hid hlen
      have HK := Lib.hid hck
      clear hcnt hlen hck
      obtain ⟨kf0, kf1, kf2, kf3, kf4⟩ := block_cells hbf
      go_wp2_with fail
      go_loopw [15] (fun i wr => ∃ k : Nat, k ≤ f.pages.length ∧ i = .int .i64 k ∧ Ups (w4.alloc (.cells #[.slice a2 f.pages.length c2, .slice a'2 f.wear.length c'2, .int .i64 f.fuse, .string f.torn, .bool f.dead] 25)) wr) (fun i _ => f.pages.length - (intOf i).toNat)
      case atStart => exact ⟨0, Nat.zero_le _, rfl, Ups.refl _⟩
      case round =>
        obtain ⟨k, hk, rfl, hu⟩ := hrel
        clear kf0 kf1 kf2 kf3 kf4
        replace hrf := hrf.ups (Ups.trans (up1 _ _) hu)
        replace hbf := block_ups hbf (Ups.trans (up1 _ _) hu)
        have ltf_50 : w.heap.size < wr.heap.size := (Array.getElem?_eq_some_iff.1 hbf).1
        replace hr1 := hr1.ups (Ups.trans (up1 _ _) hu)
        replace hb1 := block_ups hb1 (Ups.trans (up1 _ _) hu)
        have lt1_50 : w3.heap.size < wr.heap.size := (Array.getElem?_eq_some_iff.1 hb1).1
        replace hr2 := hr2.ups (Ups.trans (up1 _ _) hu)
        replace hb2 := block_ups hb2 hu
        have lt2_50 : w4.heap.size < wr.heap.size := (Array.getElem?_eq_some_iff.1 hb2).1
        replace uw := Ups.trans uw (Ups.trans (up1 _ _) hu)
        by_cases hlt : (k : Int) < f.pages.length
        · have hlt' : k < f.pages.length := by omega
          have n8 := n12.out.1
          have hltX : k < X.pages.length := by rw [HL.out]; exact hlt'
          have iX : (k : Int) < X.pages.length := by omega
          obtain ⟨zX, zf, hcount⟩ := HC.out k hlt'
          obtain ⟨bf, of, rfl, cf⟩ := hrf.page hlt'
          obtain ⟨b1, o1, rfl, c1'⟩ := hr1.page hltX
          have mf := fun W (hU : Ups (World.drew wr) W) => (block_cells (block_ups hbf (drew_ups hU))).1
          have m1 := fun W (hU : Ups (World.drew wr) W) => (block_cells (block_ups hb1 (drew_ups hU))).1
          have ef := fun W (hU : Ups (World.drew wr) W) => cell_ups (drew_ups hU) cf
          have e1 := fun W (hU : Ups (World.drew wr) W) => cell_ups (drew_ups hU) c1'
          have CF := Lib.hid cf
          have C1 := Lib.hid c1'
          clear cf c1'
          have hz1 : (xorT (oldT X k) (oldT f k)).size ≤ 140737488355328 := by rw [xorT_size]; omega
          generalize oldT X k = x at *
          generalize oldT f k = y at *
          have zX' : x.size ≤ 140737488355328 := by omega
          have zf' : y.size ≤ 140737488355328 := by omega
          by_cases hp : (k : Int) = page
          · have hpd : ((k : Int) == page) = true := by simp [hp]
            have HPP := Lib.hid hp
            clear hp
            obtain ⟨kf0, kf1, kf2, kf3, kf4⟩ := block_cells hbf
            obtain ⟨k10, k11, k12, k13, k14⟩ := block_cells hb1
            go_wp2_with fail
            refine (count_calls turn _ (by omega)).mono ?_
            rintro e w' ⟨rfl, rfl⟩
            go_wp2_with fail
            have hcount' : (count (xorT x y).data.toList : Int) = (count turn.data.toList : Int) := by rw [hcount, if_pos HPP.out]
            refine wp_region_parts (N := 14) (n := 95) (ks := [isV (.pointer (some ⟨w3.heap.size, 0, none⟩)), isV (.slice (some ⟨b1, o1, none⟩) X.pages.length c1), isV (.int .i64 k), isV (.pointer (some ⟨b1, o1 + k, none⟩)), isV (.string x), isV (.pointer (some ⟨w.heap.size, 0, none⟩)), isV (.slice (some ⟨bf, of, none⟩) f.pages.length cf), isV (.int .i64 k), isV (.pointer (some ⟨bf, of + k, none⟩)), isV (.string y), isV (.string (xorT x y)), isV (.int .i64 (count (xorT x y).data.toList)), isV (.int .i64 (count turn.data.toList)), isV (.bool false)]) (by decide +kernel) (by decide +kernel) (by decide +kernel) (by simp) rfl (by decide +kernel) ⟨steady_is _, steady_is _, steady_is _, steady_is _, steady_is _, steady_is _, steady_is _, steady_is _, steady_is _, steady_is _, steady_is _, steady_is _, steady_is _, steady_is _, trivial⟩ ?_ ?_
            · refine And.intro (fun ac W hO hU H => ?_) ?_
              · have h11 : ac.tmps[11]? = some (.pointer (some ⟨w3.heap.size, 0, none⟩)) := (hO 11 rfl).trans rfl
                exact growOp_plain rfl (parts_value (by simp [go_sem, h11]))
              refine And.intro (fun ac W hO hU H => ?_) ?_
              · have h66 : ac.tmps[66]? = some (.pointer (some ⟨w3.heap.size, 0, none⟩)) := isV_get (W := W) (H 0 66 rfl)
                have f0 := m1 W hU
                exact growOp_plain rfl (parts_value (by simp [go_sem, h66, f0]))
              refine And.intro (fun ac W hO hU H => ?_) ?_
              · have h15 : ac.tmps[15]? = some (.int .i64 k) := (hO 15 rfl).trans rfl
                exact growOp_plain rfl (parts_value (by simp [go_sem, h15]))
              refine And.intro (fun ac W hO hU H => ?_) ?_
              · have h67 : ac.tmps[67]? = some (.slice (some ⟨b1, o1, none⟩) X.pages.length c1) := isV_get (W := W) (H 1 67 rfl)
                have h68 : ac.tmps[68]? = some (.int .i64 k) := isV_get (W := W) (H 2 68 rfl)
                exact growOp_plain rfl (parts_value (by simp [go_sem, h67, h68, iX]))
              refine And.intro (fun ac W hO hU H => ?_) ?_
              · have h69 : ac.tmps[69]? = some (.pointer (some ⟨b1, o1 + k, none⟩)) := isV_get (W := W) (H 3 69 rfl)
                have f0 := e1 W hU
                exact growOp_plain rfl (parts_value (by simp [go_sem, h69, f0]))
              refine And.intro (fun ac W hO hU H => ?_) ?_
              · have h4 : ac.tmps[4]? = some (.pointer (some ⟨w.heap.size, 0, none⟩)) := (hO 4 rfl).trans rfl
                exact growOp_plain rfl (parts_value (by simp [go_sem, h4]))
              refine And.intro (fun ac W hO hU H => ?_) ?_
              · have h71 : ac.tmps[71]? = some (.pointer (some ⟨w.heap.size, 0, none⟩)) := isV_get (W := W) (H 5 71 rfl)
                have f0 := mf W hU
                exact growOp_plain rfl (parts_value (by simp [go_sem, h71, f0]))
              refine And.intro (fun ac W hO hU H => ?_) ?_
              · have h15 : ac.tmps[15]? = some (.int .i64 k) := (hO 15 rfl).trans rfl
                exact growOp_plain rfl (parts_value (by simp [go_sem, h15]))
              refine And.intro (fun ac W hO hU H => ?_) ?_
              · have h72 : ac.tmps[72]? = some (.slice (some ⟨bf, of, none⟩) f.pages.length cf) := isV_get (W := W) (H 6 72 rfl)
                have h73 : ac.tmps[73]? = some (.int .i64 k) := isV_get (W := W) (H 7 73 rfl)
                exact growOp_plain rfl (parts_value (by simp [go_sem, h72, h73, hlt]))
              refine And.intro (fun ac W hO hU H => ?_) ?_
              · have h74 : ac.tmps[74]? = some (.pointer (some ⟨bf, of + k, none⟩)) := isV_get (W := W) (H 8 74 rfl)
                have f0 := ef W hU
                exact growOp_plain rfl (parts_value (by simp [go_sem, h74, f0]))
              refine And.intro (fun ac W hO hU H => ?_) ?_
              · have h70 : ac.tmps[70]? = some (.string x) := isV_get (W := W) (H 4 70 rfl)
                have h75 : ac.tmps[75]? = some (.string y) := isV_get (W := W) (H 9 75 rfl)
                exact growOp_plain rfl (parts_call_is (args := #[.string x, .string y]) (by simp [go_sem, h70, h75]) (oxor_t x y W zX' zf'))
              refine And.intro (fun ac W hO hU H => ?_) ?_
              · have h76 : ac.tmps[76]? = some (.string (xorT x y)) := isV_get (W := W) (H 10 76 rfl)
                exact growOp_plain rfl (parts_call_is (args := #[.string (xorT x y)]) (by simp [go_sem, h76]) (count_ups _ W hz1))
              refine And.intro (fun ac W hO hU H => ?_) ?_
              · have h16 : ac.tmps[16]? = some (.int .i64 (count turn.data.toList)) := (hO 16 rfl).trans rfl
                exact growOp_plain rfl (parts_value (by simp [go_sem, h16]))
              refine And.intro (fun ac W hO hU H => ?_) ?_
              · have h77 : ac.tmps[77]? = some (.int .i64 (count (xorT x y).data.toList)) := isV_get (W := W) (H 11 77 rfl)
                have h78 : ac.tmps[78]? = some (.int .i64 (count turn.data.toList)) := isV_get (W := W) (H 12 78 rfl)
                exact growOp_plain rfl (parts_value (by simp [go_sem, h77, h78, hcount']))
              exact trivial
            · intro W xs hU hks
              obtain ⟨y0, rfl, g0⟩ := holdAll_is hks
              obtain ⟨y1, rfl, g1⟩ := holdAll_is g0
              obtain ⟨y2, rfl, g2⟩ := holdAll_is g1
              obtain ⟨y3, rfl, g3⟩ := holdAll_is g2
              obtain ⟨y4, rfl, g4⟩ := holdAll_is g3
              obtain ⟨y5, rfl, g5⟩ := holdAll_is g4
              obtain ⟨y6, rfl, g6⟩ := holdAll_is g5
              obtain ⟨y7, rfl, g7⟩ := holdAll_is g6
              obtain ⟨y8, rfl, g8⟩ := holdAll_is g7
              obtain ⟨y9, rfl, g9⟩ := holdAll_is g8
              obtain ⟨y10, rfl, g10⟩ := holdAll_is g9
              obtain ⟨y11, rfl, g11⟩ := holdAll_is g10
              obtain ⟨y12, rfl, g12⟩ := holdAll_is g11
              obtain ⟨y13, rfl, g13⟩ := holdAll_is g12
              obtain rfl := holdAll_nil g13
              clear hks g0 g1 g2 g3 g4 g5 g6 g7 g8 g9 g10 g11 g12 g13
              simp only [List.take_succ_cons, List.take_zero, List.drop_succ_cons, List.drop_zero, endTmps, List.setIfInBounds_toArray, List.set]
              go_wp2_with fail
              refine ⟨⟨k + 1, by omega, by go_num, Ups.trans hu (drew_ups hU)⟩, ?_⟩
              simp [intOf]; omega
          · have hpd : ((k : Int) == page) = false := by simp [hp]
            have HPP := Lib.hid hp
            clear hp
            obtain ⟨kf0, kf1, kf2, kf3, kf4⟩ := block_cells hbf
            obtain ⟨k10, k11, k12, k13, k14⟩ := block_cells hb1
            go_wp2_with fail
            have hcount' : (count (xorT x y).data.toList : Int) = 0 := by rw [hcount, if_neg HPP.out]; rfl
            refine wp_region_parts (N := 14) (n := 95) (ks := [isV (.pointer (some ⟨w3.heap.size, 0, none⟩)), isV (.slice (some ⟨b1, o1, none⟩) X.pages.length c1), isV (.int .i64 k), isV (.pointer (some ⟨b1, o1 + k, none⟩)), isV (.string x), isV (.pointer (some ⟨w.heap.size, 0, none⟩)), isV (.slice (some ⟨bf, of, none⟩) f.pages.length cf), isV (.int .i64 k), isV (.pointer (some ⟨bf, of + k, none⟩)), isV (.string y), isV (.string (xorT x y)), isV (.int .i64 (count (xorT x y).data.toList)), isV (.int .i64 0), isV (.bool false)]) (by decide +kernel) (by decide +kernel) (by decide +kernel) (by simp) rfl (by decide +kernel) ⟨steady_is _, steady_is _, steady_is _, steady_is _, steady_is _, steady_is _, steady_is _, steady_is _, steady_is _, steady_is _, steady_is _, steady_is _, steady_is _, steady_is _, trivial⟩ ?_ ?_
            · refine And.intro (fun ac W hO hU H => ?_) ?_
              · have h11 : ac.tmps[11]? = some (.pointer (some ⟨w3.heap.size, 0, none⟩)) := (hO 11 rfl).trans rfl
                exact growOp_plain rfl (parts_value (by simp [go_sem, h11]))
              refine And.intro (fun ac W hO hU H => ?_) ?_
              · have h66 : ac.tmps[66]? = some (.pointer (some ⟨w3.heap.size, 0, none⟩)) := isV_get (W := W) (H 0 66 rfl)
                have f0 := m1 W hU
                exact growOp_plain rfl (parts_value (by simp [go_sem, h66, f0]))
              refine And.intro (fun ac W hO hU H => ?_) ?_
              · have h15 : ac.tmps[15]? = some (.int .i64 k) := (hO 15 rfl).trans rfl
                exact growOp_plain rfl (parts_value (by simp [go_sem, h15]))
              refine And.intro (fun ac W hO hU H => ?_) ?_
              · have h67 : ac.tmps[67]? = some (.slice (some ⟨b1, o1, none⟩) X.pages.length c1) := isV_get (W := W) (H 1 67 rfl)
                have h68 : ac.tmps[68]? = some (.int .i64 k) := isV_get (W := W) (H 2 68 rfl)
                exact growOp_plain rfl (parts_value (by simp [go_sem, h67, h68, iX]))
              refine And.intro (fun ac W hO hU H => ?_) ?_
              · have h69 : ac.tmps[69]? = some (.pointer (some ⟨b1, o1 + k, none⟩)) := isV_get (W := W) (H 3 69 rfl)
                have f0 := e1 W hU
                exact growOp_plain rfl (parts_value (by simp [go_sem, h69, f0]))
              refine And.intro (fun ac W hO hU H => ?_) ?_
              · have h4 : ac.tmps[4]? = some (.pointer (some ⟨w.heap.size, 0, none⟩)) := (hO 4 rfl).trans rfl
                exact growOp_plain rfl (parts_value (by simp [go_sem, h4]))
              refine And.intro (fun ac W hO hU H => ?_) ?_
              · have h71 : ac.tmps[71]? = some (.pointer (some ⟨w.heap.size, 0, none⟩)) := isV_get (W := W) (H 5 71 rfl)
                have f0 := mf W hU
                exact growOp_plain rfl (parts_value (by simp [go_sem, h71, f0]))
              refine And.intro (fun ac W hO hU H => ?_) ?_
              · have h15 : ac.tmps[15]? = some (.int .i64 k) := (hO 15 rfl).trans rfl
                exact growOp_plain rfl (parts_value (by simp [go_sem, h15]))
              refine And.intro (fun ac W hO hU H => ?_) ?_
              · have h72 : ac.tmps[72]? = some (.slice (some ⟨bf, of, none⟩) f.pages.length cf) := isV_get (W := W) (H 6 72 rfl)
                have h73 : ac.tmps[73]? = some (.int .i64 k) := isV_get (W := W) (H 7 73 rfl)
                exact growOp_plain rfl (parts_value (by simp [go_sem, h72, h73, hlt]))
              refine And.intro (fun ac W hO hU H => ?_) ?_
              · have h74 : ac.tmps[74]? = some (.pointer (some ⟨bf, of + k, none⟩)) := isV_get (W := W) (H 8 74 rfl)
                have f0 := ef W hU
                exact growOp_plain rfl (parts_value (by simp [go_sem, h74, f0]))
              refine And.intro (fun ac W hO hU H => ?_) ?_
              · have h70 : ac.tmps[70]? = some (.string x) := isV_get (W := W) (H 4 70 rfl)
                have h75 : ac.tmps[75]? = some (.string y) := isV_get (W := W) (H 9 75 rfl)
                exact growOp_plain rfl (parts_call_is (args := #[.string x, .string y]) (by simp [go_sem, h70, h75]) (oxor_t x y W zX' zf'))
              refine And.intro (fun ac W hO hU H => ?_) ?_
              · have h76 : ac.tmps[76]? = some (.string (xorT x y)) := isV_get (W := W) (H 10 76 rfl)
                exact growOp_plain rfl (parts_call_is (args := #[.string (xorT x y)]) (by simp [go_sem, h76]) (count_ups _ W hz1))
              refine And.intro (fun ac W hO hU H => ?_) ?_
              · have h16 : ac.tmps[16]? = some (.int .i64 0) := (hO 16 rfl).trans rfl
                exact growOp_plain rfl (parts_value (by simp [go_sem, h16]))
              refine And.intro (fun ac W hO hU H => ?_) ?_
              · have h77 : ac.tmps[77]? = some (.int .i64 (count (xorT x y).data.toList)) := isV_get (W := W) (H 11 77 rfl)
                have h78 : ac.tmps[78]? = some (.int .i64 0) := isV_get (W := W) (H 12 78 rfl)
                exact growOp_plain rfl (parts_value (by simp [go_sem, h77, h78, hcount']))
              exact trivial
            · intro W xs hU hks
              obtain ⟨y0, rfl, g0⟩ := holdAll_is hks
              obtain ⟨y1, rfl, g1⟩ := holdAll_is g0
              obtain ⟨y2, rfl, g2⟩ := holdAll_is g1
              obtain ⟨y3, rfl, g3⟩ := holdAll_is g2
              obtain ⟨y4, rfl, g4⟩ := holdAll_is g3
              obtain ⟨y5, rfl, g5⟩ := holdAll_is g4
              obtain ⟨y6, rfl, g6⟩ := holdAll_is g5
              obtain ⟨y7, rfl, g7⟩ := holdAll_is g6
              obtain ⟨y8, rfl, g8⟩ := holdAll_is g7
              obtain ⟨y9, rfl, g9⟩ := holdAll_is g8
              obtain ⟨y10, rfl, g10⟩ := holdAll_is g9
              obtain ⟨y11, rfl, g11⟩ := holdAll_is g10
              obtain ⟨y12, rfl, g12⟩ := holdAll_is g11
              obtain ⟨y13, rfl, g13⟩ := holdAll_is g12
              obtain rfl := holdAll_nil g13
              clear hks g0 g1 g2 g3 g4 g5 g6 g7 g8 g9 g10 g11 g12 g13
              simp only [List.take_succ_cons, List.take_zero, List.drop_succ_cons, List.drop_zero, endTmps, List.setIfInBounds_toArray, List.set]
              go_wp2_with fail
              refine ⟨⟨k + 1, by omega, by go_num, Ups.trans hu (drew_ups hU)⟩, ?_⟩
              simp [intOf]; omega
        · obtain ⟨kf0, kf1, kf2, kf3, kf4⟩ := block_cells hbf
          have hc := same_calls f f _ _ wr hr2 hrf (by have := n12.out; omega) (by have := n12.out; omega) (by have := n12.out; omega) (by have := n12.out; omega)
          rw [sameB_refl] at hc
          obtain ⟨k20, k21, k22, k23, k24⟩ := block_cells hb2
          go_wp2_with fail
          refine hc.mono ?_
          clear hc
          rintro e w51 ⟨rfl, uu⟩
          clear k20 k21 k22 k23 k24
          have ub51 : Ups wr w51 := uu
          replace hrf := hrf.ups (Ups.trans (Ups.refl _) ub51)
          replace hbf := block_ups hbf (Ups.trans (Ups.refl _) ub51)
          have ltf_51 : w.heap.size < w51.heap.size := (Array.getElem?_eq_some_iff.1 hbf).1
          replace hr1 := hr1.ups (Ups.trans (Ups.refl _) ub51)
          replace hb1 := block_ups hb1 (Ups.trans (Ups.refl _) ub51)
          have lt1_51 : w3.heap.size < w51.heap.size := (Array.getElem?_eq_some_iff.1 hb1).1
          replace hr2 := hr2.ups (Ups.trans (Ups.refl _) ub51)
          replace hb2 := block_ups hb2 (Ups.trans (Ups.refl _) ub51)
          have lt2_51 : w4.heap.size < w51.heap.size := (Array.getElem?_eq_some_iff.1 hb2).1
          replace uw := Ups.trans uw (Ups.trans (Ups.refl _) ub51)
          clear uu
          have h4' : (turn.size : Int) ≤ 4 := by omega
          go_wp2_with fail
          exact bodyPost_ret (v := .bool true) (results_one rfl rfl) rfl ⟨rfl, Ups.trans uw (Ups.refl _)⟩

end Go.Proofs.Ytjpapjijlbfemaa
