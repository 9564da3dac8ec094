/- PageAppends, walked. -/
import Derived.Test.YtmabpnkdagipfaaGreatBase5
import Derived.LoopTactic
namespace Go.Proofs.YtmabpnkdagipfaaGreat
open Go.RowKit

theorem append_len (f : Fl) (page : Int) (s : ByteArray) : (appendF f page s).1.pages.length = f.pages.length ∧ (appendF f page s).1.wear.length = f.wear.length := by
  unfold appendF
  split
  · split
    · exact ⟨rfl, rfl⟩
    · exact program_len _ _ _ _
  · exact ⟨rfl, rfl⟩

set_option maxRecDepth 100000 in
set_option maxHeartbeats 20000000 in
theorem appends_law (f : Fl) (v : Value) (page : Int) (s : ByteArray) (w : World) (h : FlAt w v f) (hf : FlFit f) :
    Calls Tryz.prog 4 #[v, .int .i64 page, .string s] w fun e W' => e = .returned (.bool true) ∧ Ups w W' := by
  obtain ⟨X, e, hX⟩ : ∃ X e, appendF f page s = (X, e) := ⟨_, _, rfl⟩
  have lX := append_len f page s
  rw [hX] at lX
  have LX := Lib.hid lX
  clear lX
  have hrf := h
  clear h
  have hsf := hrf
  obtain ⟨_, _, rfl, ⟨af, cf, rfl, _⟩, ⟨a'f, c'f, rfl, _⟩⟩ := hsf
  have hbf : (w.alloc (.cells #[.slice af f.pages.length cf, .slice a'f f.wear.length c'f, .int .i64 f.fuse, .string f.torn, .bool f.dead] 31)).heap[w.heap.size]? = some (.cells #[.slice af f.pages.length cf, .slice a'f f.wear.length c'f, .int .i64 f.fuse, .string f.torn, .bool f.dead] 31) := alloc_at _ _
  go_enter Tryz.func4, Tryz.ntmps4
  have hc := works5 (w.alloc (.cells #[.slice af f.pages.length cf, .slice a'f f.wear.length c'f, .int .i64 f.fuse, .string f.torn, .bool f.dead] 31))
  go_wp2_with fail
  refine hc.mono ?_
  clear hc
  rintro e w1 ⟨rfl, uu⟩
  have ub1 : Ups (w.alloc (.cells #[.slice af f.pages.length cf, .slice a'f f.wear.length c'f, .int .i64 f.fuse, .string f.torn, .bool f.dead] 31)) w1 := uu
  replace hrf := hrf.ups (Ups.trans (up1 _ _) ub1)
  replace hbf := block_ups hbf ub1
  have ltf_1 : w.heap.size < w1.heap.size := (Array.getElem?_eq_some_iff.1 hbf).1
  have uw := Ups.trans (up1 _ _) ub1
  clear uu
  have hc := few_calls f _ w1 (hrf.ups (Ups.refl _)) hf
  obtain ⟨kf0, kf1, kf2, kf3, kf4⟩ := block_cells hbf
  go_wp2_with fail
  refine hc.mono ?_
  clear hc
  rintro e w2 ⟨few, rfl, hfew, uu⟩
  clear kf0 kf1 kf2 kf3 kf4
  have ub2 : Ups w1 w2 := uu
  replace hrf := hrf.ups (Ups.trans (Ups.refl _) ub2)
  replace hbf := block_ups hbf (Ups.trans (Ups.refl _) ub2)
  have ltf_2 : w.heap.size < w2.heap.size := (Array.getElem?_eq_some_iff.1 hbf).1
  replace uw := Ups.trans uw (Ups.trans (Ups.refl _) ub2)
  clear uu
  cases few with
  | false =>
    go_wp2_with fail
    exact bodyPost_ret (v := .bool true) (results_one rfl rfl) rfl ⟨rfl, Ups.trans uw (Ups.refl _)⟩
  | true =>
    obtain ⟨n1, n2⟩ := hfew rfl
    have n12 := Lib.hid (And.intro n1 n2)
    clear hfew n1 n2
    by_cases h3 : (300 : Int) < s.size
    · by_cases h4 : (s.size : Int) ≤ 4000
      · go_wp2_with fail
        exact bodyPost_ret (v := .bool true) (results_one rfl rfl) rfl ⟨rfl, Ups.trans uw (Ups.refl _)⟩
      · obtain ⟨kf0, kf1, kf2, kf3, kf4⟩ := block_cells hbf
        go_wp2_with fail
        go_loopw [9] (fun i wr => ∃ k : Nat, k ≤ f.pages.length ∧ i = .int .i64 k ∧ Ups w2 wr) (fun i _ => f.pages.length - (intOf i).toNat)
        case atStart => exact ⟨0, Nat.zero_le _, rfl, Ups.refl _⟩
        case round =>
          obtain ⟨k, hk, rfl, hu⟩ := hrel
          have n8 := n12.out.1
          clear kf0 kf1 kf2 kf3 kf4
          replace hrf := hrf.ups (Ups.trans (Ups.refl _) hu)
          replace hbf := block_ups hbf (Ups.trans (Ups.refl _) hu)
          have ltf_50 : w.heap.size < wr.heap.size := (Array.getElem?_eq_some_iff.1 hbf).1
          replace uw := Ups.trans uw (Ups.trans (Ups.refl _) hu)
          by_cases hlt : (k : Int) < f.pages.length
          · obtain ⟨bf, of, rfl, cf'⟩ := hrf.page (k := k) (by omega)
            generalize oldT f k = t at *
            obtain ⟨kf0, kf1, kf2, kf3, kf4⟩ := block_cells hbf
            by_cases h1 : (1000 : Int) < t.size
            · by_cases h2 : (t.size : Int) ≤ 8192
              · go_wp2_with fail
                exact bodyPost_ret (v := .bool true) (results_one rfl rfl) rfl ⟨rfl, Ups.trans uw (Ups.refl _)⟩
              · go_wp2_with fail
                refine ⟨⟨k + 1, by omega, by go_num, hu⟩, ?_⟩
                simp [intOf]; omega
            · go_wp2_with fail
              refine ⟨⟨k + 1, by omega, by go_num, hu⟩, ?_⟩
              simp [intOf]; omega
          · have hc := pappend_calls f _ page s wr (hrf.ups (Ups.refl _)) hf
            rw [hX] at hc
            obtain ⟨kf0, kf1, kf2, kf3, kf4⟩ := block_cells hbf
            go_wp2_with fail
            refine hc.mono ?_
            clear hc
            rintro e w51 ⟨v1, rfl, hn⟩
            clear kf0 kf1 kf2 kf3 kf4
            have ub51 : Ups wr w51 := hn.ups
            replace hrf := hrf.ups (Ups.trans (Ups.refl _) ub51)
            replace hbf := block_ups hbf (Ups.trans (Ups.refl _) ub51)
            have ltf_51 : w.heap.size < w51.heap.size := (Array.getElem?_eq_some_iff.1 hbf).1
            replace uw := Ups.trans uw (Ups.trans (Ups.refl _) ub51)
            have hr1 := hn.reads
            clear hn
            have hs1 := hr1
            obtain ⟨_, _, rfl, ⟨a1, c1, rfl, _⟩, ⟨a'1, c'1, rfl, _⟩⟩ := hs1
            have hb1 : (w51.alloc (.cells #[.slice a1 X.pages.length c1, .slice a'1 X.wear.length c'1, .int .i64 X.fuse, .string X.torn, .bool X.dead] 31)).heap[w51.heap.size]? = some (.cells #[.slice a1 X.pages.length c1, .slice a'1 X.wear.length c'1, .int .i64 X.fuse, .string X.torn, .bool X.dead] 31) := alloc_at _ _
            have hc := rappend_calls f _ page s (w51.alloc (.cells #[.slice a1 X.pages.length c1, .slice a'1 X.wear.length c'1, .int .i64 X.fuse, .string X.torn, .bool X.dead] 31)) (hrf.ups (up1 _ _)) hf
            rw [hX] at hc
            obtain ⟨kf0, kf1, kf2, kf3, kf4⟩ := block_cells hbf
            go_wp2_with fail
            refine hc.mono ?_
            clear hc
            rintro e w52 ⟨v2, rfl, hn⟩
            clear kf0 kf1 kf2 kf3 kf4
            have ub52 : Ups (w51.alloc (.cells #[.slice a1 X.pages.length c1, .slice a'1 X.wear.length c'1, .int .i64 X.fuse, .string X.torn, .bool X.dead] 31)) w52 := hn.ups
            replace hrf := hrf.ups (Ups.trans (up1 _ _) ub52)
            replace hbf := block_ups hbf (Ups.trans (up1 _ _) ub52)
            have ltf_52 : w.heap.size < w52.heap.size := (Array.getElem?_eq_some_iff.1 hbf).1
            replace hr1 := hr1.ups (Ups.trans (up1 _ _) ub52)
            replace hb1 := block_ups hb1 ub52
            have lt1_52 : w51.heap.size < w52.heap.size := (Array.getElem?_eq_some_iff.1 hb1).1
            replace uw := Ups.trans uw (Ups.trans (up1 _ _) ub52)
            have hr2 := hn.reads
            clear hn
            have hs2 := hr2
            obtain ⟨_, _, rfl, ⟨a2, c2, rfl, _⟩, ⟨a'2, c'2, rfl, _⟩⟩ := hs2
            have hb2 : (w52.alloc (.cells #[.slice a2 X.pages.length c2, .slice a'2 X.wear.length c'2, .int .i64 X.fuse, .string X.torn, .bool X.dead] 31)).heap[w52.heap.size]? = some (.cells #[.slice a2 X.pages.length c2, .slice a'2 X.wear.length c'2, .int .i64 X.fuse, .string X.torn, .bool X.dead] 31) := alloc_at _ _
            have hc := rsame_calls X X _ _ (w52.alloc (.cells #[.slice a2 X.pages.length c2, .slice a'2 X.wear.length c'2, .int .i64 X.fuse, .string X.torn, .bool X.dead] 31)) (hr1.ups (up1 _ _)) (hr2.ups (up1 _ _)) (by have := LX.out; have := n12.out; omega) (by have := LX.out; have := n12.out; omega)
            rw [sameB_refl] at hc
            obtain ⟨k10, k11, k12, k13, k14⟩ := block_cells hb1
            go_wp2_with fail
            refine hc.mono ?_
            clear hc
            rintro e w53 ⟨rfl, uu⟩
            clear k10 k11 k12 k13 k14
            have ub53 : Ups (w52.alloc (.cells #[.slice a2 X.pages.length c2, .slice a'2 X.wear.length c'2, .int .i64 X.fuse, .string X.torn, .bool X.dead] 31)) w53 := uu
            replace hrf := hrf.ups (Ups.trans (up1 _ _) ub53)
            replace hbf := block_ups hbf (Ups.trans (up1 _ _) ub53)
            have ltf_53 : w.heap.size < w53.heap.size := (Array.getElem?_eq_some_iff.1 hbf).1
            replace hr1 := hr1.ups (Ups.trans (up1 _ _) ub53)
            replace hb1 := block_ups hb1 (Ups.trans (up1 _ _) ub53)
            have lt1_53 : w51.heap.size < w53.heap.size := (Array.getElem?_eq_some_iff.1 hb1).1
            replace hr2 := hr2.ups (Ups.trans (up1 _ _) ub53)
            replace hb2 := block_ups hb2 ub53
            have lt2_53 : w52.heap.size < w53.heap.size := (Array.getElem?_eq_some_iff.1 hb2).1
            replace uw := Ups.trans uw (Ups.trans (up1 _ _) ub53)
            clear uu
            go_wp2_with fail
            exact bodyPost_ret (v := .bool true) (results_one rfl rfl) rfl ⟨rfl, Ups.trans uw (Ups.refl _)⟩
    · obtain ⟨kf0, kf1, kf2, kf3, kf4⟩ := block_cells hbf
      go_wp2_with fail
      go_loopw [9] (fun i wr => ∃ k : Nat, k ≤ f.pages.length ∧ i = .int .i64 k ∧ Ups w2 wr) (fun i _ => f.pages.length - (intOf i).toNat)
      case atStart => exact ⟨0, Nat.zero_le _, rfl, Ups.refl _⟩
      case round =>
        obtain ⟨k, hk, rfl, hu⟩ := hrel
        have n8 := n12.out.1
        clear kf0 kf1 kf2 kf3 kf4
        replace hrf := hrf.ups (Ups.trans (Ups.refl _) hu)
        replace hbf := block_ups hbf (Ups.trans (Ups.refl _) hu)
        have ltf_50 : w.heap.size < wr.heap.size := (Array.getElem?_eq_some_iff.1 hbf).1
        replace uw := Ups.trans uw (Ups.trans (Ups.refl _) hu)
        by_cases hlt : (k : Int) < f.pages.length
        · obtain ⟨bf, of, rfl, cf'⟩ := hrf.page (k := k) (by omega)
          generalize oldT f k = t at *
          obtain ⟨kf0, kf1, kf2, kf3, kf4⟩ := block_cells hbf
          by_cases h1 : (1000 : Int) < t.size
          · by_cases h2 : (t.size : Int) ≤ 8192
            · go_wp2_with fail
              exact bodyPost_ret (v := .bool true) (results_one rfl rfl) rfl ⟨rfl, Ups.trans uw (Ups.refl _)⟩
            · go_wp2_with fail
              refine ⟨⟨k + 1, by omega, by go_num, hu⟩, ?_⟩
              simp [intOf]; omega
          · go_wp2_with fail
            refine ⟨⟨k + 1, by omega, by go_num, hu⟩, ?_⟩
            simp [intOf]; omega
        · have hc := pappend_calls f _ page s wr (hrf.ups (Ups.refl _)) hf
          rw [hX] at hc
          obtain ⟨kf0, kf1, kf2, kf3, kf4⟩ := block_cells hbf
          go_wp2_with fail
          refine hc.mono ?_
          clear hc
          rintro e w51 ⟨v1, rfl, hn⟩
          clear kf0 kf1 kf2 kf3 kf4
          have ub51 : Ups wr w51 := hn.ups
          replace hrf := hrf.ups (Ups.trans (Ups.refl _) ub51)
          replace hbf := block_ups hbf (Ups.trans (Ups.refl _) ub51)
          have ltf_51 : w.heap.size < w51.heap.size := (Array.getElem?_eq_some_iff.1 hbf).1
          replace uw := Ups.trans uw (Ups.trans (Ups.refl _) ub51)
          have hr1 := hn.reads
          clear hn
          have hs1 := hr1
          obtain ⟨_, _, rfl, ⟨a1, c1, rfl, _⟩, ⟨a'1, c'1, rfl, _⟩⟩ := hs1
          have hb1 : (w51.alloc (.cells #[.slice a1 X.pages.length c1, .slice a'1 X.wear.length c'1, .int .i64 X.fuse, .string X.torn, .bool X.dead] 31)).heap[w51.heap.size]? = some (.cells #[.slice a1 X.pages.length c1, .slice a'1 X.wear.length c'1, .int .i64 X.fuse, .string X.torn, .bool X.dead] 31) := alloc_at _ _
          have hc := rappend_calls f _ page s (w51.alloc (.cells #[.slice a1 X.pages.length c1, .slice a'1 X.wear.length c'1, .int .i64 X.fuse, .string X.torn, .bool X.dead] 31)) (hrf.ups (up1 _ _)) hf
          rw [hX] at hc
          obtain ⟨kf0, kf1, kf2, kf3, kf4⟩ := block_cells hbf
          go_wp2_with fail
          refine hc.mono ?_
          clear hc
          rintro e w52 ⟨v2, rfl, hn⟩
          clear kf0 kf1 kf2 kf3 kf4
          have ub52 : Ups (w51.alloc (.cells #[.slice a1 X.pages.length c1, .slice a'1 X.wear.length c'1, .int .i64 X.fuse, .string X.torn, .bool X.dead] 31)) w52 := hn.ups
          replace hrf := hrf.ups (Ups.trans (up1 _ _) ub52)
          replace hbf := block_ups hbf (Ups.trans (up1 _ _) ub52)
          have ltf_52 : w.heap.size < w52.heap.size := (Array.getElem?_eq_some_iff.1 hbf).1
          replace hr1 := hr1.ups (Ups.trans (up1 _ _) ub52)
          replace hb1 := block_ups hb1 ub52
          have lt1_52 : w51.heap.size < w52.heap.size := (Array.getElem?_eq_some_iff.1 hb1).1
          replace uw := Ups.trans uw (Ups.trans (up1 _ _) ub52)
          have hr2 := hn.reads
          clear hn
          have hs2 := hr2
          obtain ⟨_, _, rfl, ⟨a2, c2, rfl, _⟩, ⟨a'2, c'2, rfl, _⟩⟩ := hs2
          have hb2 : (w52.alloc (.cells #[.slice a2 X.pages.length c2, .slice a'2 X.wear.length c'2, .int .i64 X.fuse, .string X.torn, .bool X.dead] 31)).heap[w52.heap.size]? = some (.cells #[.slice a2 X.pages.length c2, .slice a'2 X.wear.length c'2, .int .i64 X.fuse, .string X.torn, .bool X.dead] 31) := alloc_at _ _
          have hc := rsame_calls X X _ _ (w52.alloc (.cells #[.slice a2 X.pages.length c2, .slice a'2 X.wear.length c'2, .int .i64 X.fuse, .string X.torn, .bool X.dead] 31)) (hr1.ups (up1 _ _)) (hr2.ups (up1 _ _)) (by have := LX.out; have := n12.out; omega) (by have := LX.out; have := n12.out; omega)
          rw [sameB_refl] at hc
          obtain ⟨k10, k11, k12, k13, k14⟩ := block_cells hb1
          go_wp2_with fail
          refine hc.mono ?_
          clear hc
          rintro e w53 ⟨rfl, uu⟩
          clear k10 k11 k12 k13 k14
          have ub53 : Ups (w52.alloc (.cells #[.slice a2 X.pages.length c2, .slice a'2 X.wear.length c'2, .int .i64 X.fuse, .string X.torn, .bool X.dead] 31)) w53 := uu
          replace hrf := hrf.ups (Ups.trans (up1 _ _) ub53)
          replace hbf := block_ups hbf (Ups.trans (up1 _ _) ub53)
          have ltf_53 : w.heap.size < w53.heap.size := (Array.getElem?_eq_some_iff.1 hbf).1
          replace hr1 := hr1.ups (Ups.trans (up1 _ _) ub53)
          replace hb1 := block_ups hb1 (Ups.trans (up1 _ _) ub53)
          have lt1_53 : w51.heap.size < w53.heap.size := (Array.getElem?_eq_some_iff.1 hb1).1
          replace hr2 := hr2.ups (Ups.trans (up1 _ _) ub53)
          replace hb2 := block_ups hb2 ub53
          have lt2_53 : w52.heap.size < w53.heap.size := (Array.getElem?_eq_some_iff.1 hb2).1
          replace uw := Ups.trans uw (Ups.trans (up1 _ _) ub53)
          clear uu
          go_wp2_with fail
          exact bodyPost_ret (v := .bool true) (results_one rfl rfl) rfl ⟨rfl, Ups.trans uw (Ups.refl _)⟩

end Go.Proofs.YtmabpnkdagipfaaGreat
