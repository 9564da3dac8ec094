/- FlashTells, walked. -/
import Derived.Test.YtjpapjijlbfemaaWorks3
import Derived.Test.YtjpapjijlbfemaaRefRest
import Derived.Test.YtjpapjijlbfemaaRefNew
import Derived.Test.YtjpapjijlbfemaaLaw3a
namespace Go.Proofs.Ytjpapjijlbfemaa
open Go.RowKit


theorem alloc_at1 (W : World) (o o' : Obj) : ((W.alloc o).alloc o').heap[W.heap.size + 1]? = some o' := by
  have : (W.alloc o).heap.size = W.heap.size + 1 := by
    show (W.heap.push _).size = _
    simp
  rw [← this]
  exact alloc_at _ _

set_option maxRecDepth 100000 in
set_option maxHeartbeats 8000000 in
theorem tells_law (f o : Fl) (v v' : Value) (n m : Int) (s : ByteArray) (w : World) (h : FlAt w v f) (h' : FlAt w v' o) (hf : FlFit f) (ho : FlFit o) (hm : m ≤ 9223372036854775807) :
    Calls Try.prog 4 #[v, v', .int .i64 n, .int .i64 m, .string s] w fun e W' => e = .returned (.bool true) ∧ Ups w W' := by
  obtain ⟨N, ne, hN⟩ : ∃ N ne, newF n m = (N, ne) := ⟨_, _, rfl⟩
  obtain ⟨K, ke, hK⟩ : ∃ K ke, wakeF f n s = (K, ke) := ⟨_, _, rfl⟩
  obtain ⟨R, re, hR⟩ : ∃ R re, rotF f n m s = (R, re) := ⟨_, _, rfl⟩
  have lN := new_len n m
  have lK := wake_len f n s
  have lR := rot_len f n m s
  rw [hN] at lN
  rw [hK] at lK
  rw [hR] at lR
  have LN := Lib.hid lN
  have LK := Lib.hid lK
  have LR := Lib.hid lR
  clear lN lK lR
  have hrf := h
  have hro := h'
  clear h h'
  have hsf := hrf
  obtain ⟨_, _, rfl, ⟨af, cf, rfl, _⟩, ⟨a'f, c'f, rfl, _⟩⟩ := hsf
  have hso := hro
  obtain ⟨_, _, rfl, ⟨ao, co, rfl, _⟩, ⟨a'o, c'o, rfl, _⟩⟩ := hso
  have hbf : ((w.alloc (.cells #[.slice af f.pages.length cf, .slice a'f f.wear.length c'f, .int .i64 f.fuse, .string f.torn, .bool f.dead] 25)).alloc (.cells #[.slice ao o.pages.length co, .slice a'o o.wear.length c'o, .int .i64 o.fuse, .string o.torn, .bool o.dead] 25)).heap[w.heap.size]? = some (.cells #[.slice af f.pages.length cf, .slice a'f f.wear.length c'f, .int .i64 f.fuse, .string f.torn, .bool f.dead] 25) := block_ups (alloc_at _ _) (up1 _ _)
  have hbo : ((w.alloc (.cells #[.slice af f.pages.length cf, .slice a'f f.wear.length c'f, .int .i64 f.fuse, .string f.torn, .bool f.dead] 25)).alloc (.cells #[.slice ao o.pages.length co, .slice a'o o.wear.length c'o, .int .i64 o.fuse, .string o.torn, .bool o.dead] 25)).heap[w.heap.size + 1]? = some (.cells #[.slice ao o.pages.length co, .slice a'o o.wear.length c'o, .int .i64 o.fuse, .string o.torn, .bool o.dead] 25) := alloc_at1 _ _ _
  go_enter Try.func4, Try.ntmps4
  have hc := works3 ((w.alloc (.cells #[.slice af f.pages.length cf, .slice a'f f.wear.length c'f, .int .i64 f.fuse, .string f.torn, .bool f.dead] 25)).alloc (.cells #[.slice ao o.pages.length co, .slice a'o o.wear.length c'o, .int .i64 o.fuse, .string o.torn, .bool o.dead] 25))
  go_wp2_with fail
  refine hc.mono ?_
  clear hc
  rintro e w1 ⟨rfl, uu⟩
  have ub1 : Ups ((w.alloc (.cells #[.slice af f.pages.length cf, .slice a'f f.wear.length c'f, .int .i64 f.fuse, .string f.torn, .bool f.dead] 25)).alloc (.cells #[.slice ao o.pages.length co, .slice a'o o.wear.length c'o, .int .i64 o.fuse, .string o.torn, .bool o.dead] 25)) w1 := uu
  replace hrf := hrf.ups (Ups.trans (up2 _ _ _) ub1)
  replace hbf := block_ups hbf ub1
  have ltf_1 : w.heap.size < w1.heap.size := (Array.getElem?_eq_some_iff.1 hbf).1
  replace hro := hro.ups (Ups.trans (up2 _ _ _) ub1)
  replace hbo := block_ups hbo ub1
  have lto_1 : w.heap.size + 1 < w1.heap.size := (Array.getElem?_eq_some_iff.1 hbo).1
  have uw := Ups.trans (up2 _ _ _) ub1
  clear uu
  have hc := few_calls f _ w1 (hrf.ups (Ups.refl _)) hf
  obtain ⟨kf0, kf1, kf2, kf3, kf4⟩ := block_cells hbf
  go_wp2_with fail
  refine hc.mono ?_
  clear hc
  rintro e w2 ⟨few, rfl, hfew, uu⟩
  clear kf0 kf1 kf2 kf3 kf4
  have ub2 : Ups w1 w2 := uu
  replace hrf := hrf.ups (Ups.trans (Ups.refl _) ub2)
  replace hbf := block_ups hbf (Ups.trans (Ups.refl _) ub2)
  have ltf_2 : w.heap.size < w2.heap.size := (Array.getElem?_eq_some_iff.1 hbf).1
  replace hro := hro.ups (Ups.trans (Ups.refl _) ub2)
  replace hbo := block_ups hbo (Ups.trans (Ups.refl _) ub2)
  have lto_2 : w.heap.size + 1 < w2.heap.size := (Array.getElem?_eq_some_iff.1 hbo).1
  replace uw := Ups.trans uw (Ups.trans (Ups.refl _) ub2)
  clear uu
  cases few with
  | false =>
    go_wp2_with fail
    exact bodyPost_ret (v := .bool true) (results_one rfl rfl) rfl ⟨rfl, Ups.trans uw (Ups.refl _)⟩
  | true =>
    obtain ⟨n1, n2⟩ := hfew rfl
    have n12 := Lib.hid (And.intro n1 n2)
    clear hfew n1 n2
    have hc := few_calls o _ w2 (hro.ups (Ups.refl _)) ho
    obtain ⟨ko0, ko1, ko2, ko3, ko4⟩ := block_cells hbo
    go_wp2_with fail
    refine hc.mono ?_
    clear hc
    rintro e w3 ⟨few, rfl, hfew, uu⟩
    clear ko0 ko1 ko2 ko3 ko4
    have ub3 : Ups w2 w3 := uu
    replace hrf := hrf.ups (Ups.trans (Ups.refl _) ub3)
    replace hbf := block_ups hbf (Ups.trans (Ups.refl _) ub3)
    have ltf_3 : w.heap.size < w3.heap.size := (Array.getElem?_eq_some_iff.1 hbf).1
    replace hro := hro.ups (Ups.trans (Ups.refl _) ub3)
    replace hbo := block_ups hbo (Ups.trans (Ups.refl _) ub3)
    have lto_3 : w.heap.size + 1 < w3.heap.size := (Array.getElem?_eq_some_iff.1 hbo).1
    replace uw := Ups.trans uw (Ups.trans (Ups.refl _) ub3)
    clear uu
    cases few with
    | false =>
      go_wp2_with fail
      exact bodyPost_ret (v := .bool true) (results_one rfl rfl) rfl ⟨rfl, Ups.trans uw (Ups.refl _)⟩
    | true =>
      obtain ⟨n3, n4⟩ := hfew rfl
      have n34 := Lib.hid (And.intro n3 n4)
      clear hfew n3 n4
      by_cases hs : (400 : Int) < s.size
      · go_wp2_with fail
        exact bodyPost_ret (v := .bool true) (results_one rfl rfl) rfl ⟨rfl, Ups.trans uw (Ups.refl _)⟩
      · by_cases hn1 : (400 : Int) < n
        · by_cases hn2 : n ≤ (8192 : Int)
          · go_wp2_with fail
            exact bodyPost_ret (v := .bool true) (results_one rfl rfl) rfl ⟨rfl, Ups.trans uw (Ups.refl _)⟩
          · by_cases hm1 : (400 : Int) < m
            · by_cases hm2 : m ≤ (8192 : Int)
              · go_wp2_with fail
                exact bodyPost_ret (v := .bool true) (results_one rfl rfl) rfl ⟨rfl, Ups.trans uw (Ups.refl _)⟩
              · have hc := new_calls n m w3
                rw [hN] at hc
                go_wp2_with fail
                refine hc.mono ?_
                clear hc
                rintro e w4 ⟨v1, rfl, hr1, uu, _⟩
                have ub4 : Ups w3 w4 := uu
                replace hrf := hrf.ups (Ups.trans (Ups.refl _) ub4)
                replace hbf := block_ups hbf (Ups.trans (Ups.refl _) ub4)
                have ltf_4 : w.heap.size < w4.heap.size := (Array.getElem?_eq_some_iff.1 hbf).1
                replace hro := hro.ups (Ups.trans (Ups.refl _) ub4)
                replace hbo := block_ups hbo (Ups.trans (Ups.refl _) ub4)
                have lto_4 : w.heap.size + 1 < w4.heap.size := (Array.getElem?_eq_some_iff.1 hbo).1
                replace uw := Ups.trans uw (Ups.trans (Ups.refl _) ub4)
                clear uu
                have hs1 := hr1
                obtain ⟨_, _, rfl, ⟨a1, c1, rfl, _⟩, ⟨a'1, c'1, rfl, _⟩⟩ := hs1
                have hb1 : (w4.alloc (.cells #[.slice a1 N.pages.length c1, .slice a'1 N.wear.length c'1, .int .i64 N.fuse, .string N.torn, .bool N.dead] 25)).heap[w4.heap.size]? = some (.cells #[.slice a1 N.pages.length c1, .slice a'1 N.wear.length c'1, .int .i64 N.fuse, .string N.torn, .bool N.dead] 25) := alloc_at _ _
                have hc := rnew_calls n m (w4.alloc (.cells #[.slice a1 N.pages.length c1, .slice a'1 N.wear.length c'1, .int .i64 N.fuse, .string N.torn, .bool N.dead] 25))
                rw [hN] at hc
                go_wp2_with fail
                refine hc.mono ?_
                clear hc
                rintro e w5 ⟨v2, rfl, hr2, uu, _⟩
                have ub5 : Ups (w4.alloc (.cells #[.slice a1 N.pages.length c1, .slice a'1 N.wear.length c'1, .int .i64 N.fuse, .string N.torn, .bool N.dead] 25)) w5 := uu
                replace hrf := hrf.ups (Ups.trans (up1 _ _) ub5)
                replace hbf := block_ups hbf (Ups.trans (up1 _ _) ub5)
                have ltf_5 : w.heap.size < w5.heap.size := (Array.getElem?_eq_some_iff.1 hbf).1
                replace hro := hro.ups (Ups.trans (up1 _ _) ub5)
                replace hbo := block_ups hbo (Ups.trans (up1 _ _) ub5)
                have lto_5 : w.heap.size + 1 < w5.heap.size := (Array.getElem?_eq_some_iff.1 hbo).1
                replace hr1 := hr1.ups (Ups.trans (up1 _ _) ub5)
                replace hb1 := block_ups hb1 ub5
                have lt1_5 : w4.heap.size < w5.heap.size := (Array.getElem?_eq_some_iff.1 hb1).1
                replace uw := Ups.trans uw (Ups.trans (up1 _ _) ub5)
                clear uu
                have hs2 := hr2
                obtain ⟨_, _, rfl, ⟨a2, c2, rfl, _⟩, ⟨a'2, c'2, rfl, _⟩⟩ := hs2
                have hb2 : (w5.alloc (.cells #[.slice a2 N.pages.length c2, .slice a'2 N.wear.length c'2, .int .i64 N.fuse, .string N.torn, .bool N.dead] 25)).heap[w5.heap.size]? = some (.cells #[.slice a2 N.pages.length c2, .slice a'2 N.wear.length c'2, .int .i64 N.fuse, .string N.torn, .bool N.dead] 25) := alloc_at _ _
                have hc := wake_calls f _ n s (w5.alloc (.cells #[.slice a2 N.pages.length c2, .slice a'2 N.wear.length c'2, .int .i64 N.fuse, .string N.torn, .bool N.dead] 25)) (hrf.ups (up1 _ _)) hf
                rw [hK] at hc
                obtain ⟨kf0, kf1, kf2, kf3, kf4⟩ := block_cells hbf
                go_wp2_with fail
                refine hc.mono ?_
                clear hc
                rintro e w6 ⟨v3, rfl, hn⟩
                clear kf0 kf1 kf2 kf3 kf4
                have ub6 : Ups (w5.alloc (.cells #[.slice a2 N.pages.length c2, .slice a'2 N.wear.length c'2, .int .i64 N.fuse, .string N.torn, .bool N.dead] 25)) w6 := hn.ups
                replace hrf := hrf.ups (Ups.trans (up1 _ _) ub6)
                replace hbf := block_ups hbf (Ups.trans (up1 _ _) ub6)
                have ltf_6 : w.heap.size < w6.heap.size := (Array.getElem?_eq_some_iff.1 hbf).1
                replace hro := hro.ups (Ups.trans (up1 _ _) ub6)
                replace hbo := block_ups hbo (Ups.trans (up1 _ _) ub6)
                have lto_6 : w.heap.size + 1 < w6.heap.size := (Array.getElem?_eq_some_iff.1 hbo).1
                replace hr1 := hr1.ups (Ups.trans (up1 _ _) ub6)
                replace hb1 := block_ups hb1 (Ups.trans (up1 _ _) ub6)
                have lt1_6 : w4.heap.size < w6.heap.size := (Array.getElem?_eq_some_iff.1 hb1).1
                replace hr2 := hr2.ups (Ups.trans (up1 _ _) ub6)
                replace hb2 := block_ups hb2 ub6
                have lt2_6 : w5.heap.size < w6.heap.size := (Array.getElem?_eq_some_iff.1 hb2).1
                replace uw := Ups.trans uw (Ups.trans (up1 _ _) ub6)
                have hr3 := hn.reads
                clear hn
                have hs3 := hr3
                obtain ⟨_, _, rfl, ⟨a3, c3, rfl, _⟩, ⟨a'3, c'3, rfl, _⟩⟩ := hs3
                have hb3 : (w6.alloc (.cells #[.slice a3 K.pages.length c3, .slice a'3 K.wear.length c'3, .int .i64 K.fuse, .string K.torn, .bool K.dead] 25)).heap[w6.heap.size]? = some (.cells #[.slice a3 K.pages.length c3, .slice a'3 K.wear.length c'3, .int .i64 K.fuse, .string K.torn, .bool K.dead] 25) := alloc_at _ _
                have hc := rwake_calls f _ n s (w6.alloc (.cells #[.slice a3 K.pages.length c3, .slice a'3 K.wear.length c'3, .int .i64 K.fuse, .string K.torn, .bool K.dead] 25)) (hrf.ups (up1 _ _)) hf
                rw [hK] at hc
                obtain ⟨kf0, kf1, kf2, kf3, kf4⟩ := block_cells hbf
                go_wp2_with fail
                refine hc.mono ?_
                clear hc
                rintro e w7 ⟨v4, rfl, hn⟩
                clear kf0 kf1 kf2 kf3 kf4
                have ub7 : Ups (w6.alloc (.cells #[.slice a3 K.pages.length c3, .slice a'3 K.wear.length c'3, .int .i64 K.fuse, .string K.torn, .bool K.dead] 25)) w7 := hn.ups
                replace hrf := hrf.ups (Ups.trans (up1 _ _) ub7)
                replace hbf := block_ups hbf (Ups.trans (up1 _ _) ub7)
                have ltf_7 : w.heap.size < w7.heap.size := (Array.getElem?_eq_some_iff.1 hbf).1
                replace hro := hro.ups (Ups.trans (up1 _ _) ub7)
                replace hbo := block_ups hbo (Ups.trans (up1 _ _) ub7)
                have lto_7 : w.heap.size + 1 < w7.heap.size := (Array.getElem?_eq_some_iff.1 hbo).1
                replace hr1 := hr1.ups (Ups.trans (up1 _ _) ub7)
                replace hb1 := block_ups hb1 (Ups.trans (up1 _ _) ub7)
                have lt1_7 : w4.heap.size < w7.heap.size := (Array.getElem?_eq_some_iff.1 hb1).1
                replace hr2 := hr2.ups (Ups.trans (up1 _ _) ub7)
                replace hb2 := block_ups hb2 (Ups.trans (up1 _ _) ub7)
                have lt2_7 : w5.heap.size < w7.heap.size := (Array.getElem?_eq_some_iff.1 hb2).1
                replace hr3 := hr3.ups (Ups.trans (up1 _ _) ub7)
                replace hb3 := block_ups hb3 ub7
                have lt3_7 : w6.heap.size < w7.heap.size := (Array.getElem?_eq_some_iff.1 hb3).1
                replace uw := Ups.trans uw (Ups.trans (up1 _ _) ub7)
                have hr4 := hn.reads
                clear hn
                have hs4 := hr4
                obtain ⟨_, _, rfl, ⟨a4, c4, rfl, _⟩, ⟨a'4, c'4, rfl, _⟩⟩ := hs4
                have hb4 : (w7.alloc (.cells #[.slice a4 K.pages.length c4, .slice a'4 K.wear.length c'4, .int .i64 K.fuse, .string K.torn, .bool K.dead] 25)).heap[w7.heap.size]? = some (.cells #[.slice a4 K.pages.length c4, .slice a'4 K.wear.length c'4, .int .i64 K.fuse, .string K.torn, .bool K.dead] 25) := alloc_at _ _
                have hc := rot_calls f _ n m s (w7.alloc (.cells #[.slice a4 K.pages.length c4, .slice a'4 K.wear.length c'4, .int .i64 K.fuse, .string K.torn, .bool K.dead] 25)) (hrf.ups (up1 _ _)) hf hm
                rw [hR] at hc
                obtain ⟨kf0, kf1, kf2, kf3, kf4⟩ := block_cells hbf
                go_wp2_with fail
                refine hc.mono ?_
                clear hc
                rintro e w8 ⟨v5, rfl, hn⟩
                clear kf0 kf1 kf2 kf3 kf4
                have ub8 : Ups (w7.alloc (.cells #[.slice a4 K.pages.length c4, .slice a'4 K.wear.length c'4, .int .i64 K.fuse, .string K.torn, .bool K.dead] 25)) w8 := hn.ups
                replace hrf := hrf.ups (Ups.trans (up1 _ _) ub8)
                replace hbf := block_ups hbf (Ups.trans (up1 _ _) ub8)
                have ltf_8 : w.heap.size < w8.heap.size := (Array.getElem?_eq_some_iff.1 hbf).1
                replace hro := hro.ups (Ups.trans (up1 _ _) ub8)
                replace hbo := block_ups hbo (Ups.trans (up1 _ _) ub8)
                have lto_8 : w.heap.size + 1 < w8.heap.size := (Array.getElem?_eq_some_iff.1 hbo).1
                replace hr1 := hr1.ups (Ups.trans (up1 _ _) ub8)
                replace hb1 := block_ups hb1 (Ups.trans (up1 _ _) ub8)
                have lt1_8 : w4.heap.size < w8.heap.size := (Array.getElem?_eq_some_iff.1 hb1).1
                replace hr2 := hr2.ups (Ups.trans (up1 _ _) ub8)
                replace hb2 := block_ups hb2 (Ups.trans (up1 _ _) ub8)
                have lt2_8 : w5.heap.size < w8.heap.size := (Array.getElem?_eq_some_iff.1 hb2).1
                replace hr3 := hr3.ups (Ups.trans (up1 _ _) ub8)
                replace hb3 := block_ups hb3 (Ups.trans (up1 _ _) ub8)
                have lt3_8 : w6.heap.size < w8.heap.size := (Array.getElem?_eq_some_iff.1 hb3).1
                replace hr4 := hr4.ups (Ups.trans (up1 _ _) ub8)
                replace hb4 := block_ups hb4 ub8
                have lt4_8 : w7.heap.size < w8.heap.size := (Array.getElem?_eq_some_iff.1 hb4).1
                replace uw := Ups.trans uw (Ups.trans (up1 _ _) ub8)
                have hr5 := hn.reads
                clear hn
                have hs5 := hr5
                obtain ⟨_, _, rfl, ⟨a5, c5, rfl, _⟩, ⟨a'5, c'5, rfl, _⟩⟩ := hs5
                have hb5 : (w8.alloc (.cells #[.slice a5 R.pages.length c5, .slice a'5 R.wear.length c'5, .int .i64 R.fuse, .string R.torn, .bool R.dead] 25)).heap[w8.heap.size]? = some (.cells #[.slice a5 R.pages.length c5, .slice a'5 R.wear.length c'5, .int .i64 R.fuse, .string R.torn, .bool R.dead] 25) := alloc_at _ _
                have hc := rrot_calls f _ n m s (w8.alloc (.cells #[.slice a5 R.pages.length c5, .slice a'5 R.wear.length c'5, .int .i64 R.fuse, .string R.torn, .bool R.dead] 25)) (hrf.ups (up1 _ _)) hf hm
                rw [hR] at hc
                obtain ⟨kf0, kf1, kf2, kf3, kf4⟩ := block_cells hbf
                go_wp2_with fail
                refine hc.mono ?_
                clear hc
                rintro e w9 ⟨v6, rfl, hn⟩
                clear kf0 kf1 kf2 kf3 kf4
                have ub9 : Ups (w8.alloc (.cells #[.slice a5 R.pages.length c5, .slice a'5 R.wear.length c'5, .int .i64 R.fuse, .string R.torn, .bool R.dead] 25)) w9 := hn.ups
                replace hrf := hrf.ups (Ups.trans (up1 _ _) ub9)
                replace hbf := block_ups hbf (Ups.trans (up1 _ _) ub9)
                have ltf_9 : w.heap.size < w9.heap.size := (Array.getElem?_eq_some_iff.1 hbf).1
                replace hro := hro.ups (Ups.trans (up1 _ _) ub9)
                replace hbo := block_ups hbo (Ups.trans (up1 _ _) ub9)
                have lto_9 : w.heap.size + 1 < w9.heap.size := (Array.getElem?_eq_some_iff.1 hbo).1
                replace hr1 := hr1.ups (Ups.trans (up1 _ _) ub9)
                replace hb1 := block_ups hb1 (Ups.trans (up1 _ _) ub9)
                have lt1_9 : w4.heap.size < w9.heap.size := (Array.getElem?_eq_some_iff.1 hb1).1
                replace hr2 := hr2.ups (Ups.trans (up1 _ _) ub9)
                replace hb2 := block_ups hb2 (Ups.trans (up1 _ _) ub9)
                have lt2_9 : w5.heap.size < w9.heap.size := (Array.getElem?_eq_some_iff.1 hb2).1
                replace hr3 := hr3.ups (Ups.trans (up1 _ _) ub9)
                replace hb3 := block_ups hb3 (Ups.trans (up1 _ _) ub9)
                have lt3_9 : w6.heap.size < w9.heap.size := (Array.getElem?_eq_some_iff.1 hb3).1
                replace hr4 := hr4.ups (Ups.trans (up1 _ _) ub9)
                replace hb4 := block_ups hb4 (Ups.trans (up1 _ _) ub9)
                have lt4_9 : w7.heap.size < w9.heap.size := (Array.getElem?_eq_some_iff.1 hb4).1
                replace hr5 := hr5.ups (Ups.trans (up1 _ _) ub9)
                replace hb5 := block_ups hb5 ub9
                have lt5_9 : w8.heap.size < w9.heap.size := (Array.getElem?_eq_some_iff.1 hb5).1
                replace uw := Ups.trans uw (Ups.trans (up1 _ _) ub9)
                have hr6 := hn.reads
                clear hn
                have hs6 := hr6
                obtain ⟨_, _, rfl, ⟨a6, c6, rfl, _⟩, ⟨a'6, c'6, rfl, _⟩⟩ := hs6
                have hb6 : (w9.alloc (.cells #[.slice a6 R.pages.length c6, .slice a'6 R.wear.length c'6, .int .i64 R.fuse, .string R.torn, .bool R.dead] 25)).heap[w9.heap.size]? = some (.cells #[.slice a6 R.pages.length c6, .slice a'6 R.wear.length c'6, .int .i64 R.fuse, .string R.torn, .bool R.dead] 25) := alloc_at _ _
                have hc := rsame_calls N N _ _ (w9.alloc (.cells #[.slice a6 R.pages.length c6, .slice a'6 R.wear.length c'6, .int .i64 R.fuse, .string R.torn, .bool R.dead] 25)) (hr1.ups (up1 _ _)) (hr2.ups (up1 _ _)) (by have := LN.out; have := n12.out; omega) (by have := LN.out; have := n12.out; omega)
                rw [sameB_refl] at hc
                obtain ⟨k10, k11, k12, k13, k14⟩ := block_cells hb1
                obtain ⟨k20, k21, k22, k23, k24⟩ := block_cells hb2
                go_wp2_with fail
                refine hc.mono ?_
                clear hc
                rintro e w10 ⟨rfl, uu⟩
                clear k10 k11 k12 k13 k14 k20 k21 k22 k23 k24
                have ub10 : Ups (w9.alloc (.cells #[.slice a6 R.pages.length c6, .slice a'6 R.wear.length c'6, .int .i64 R.fuse, .string R.torn, .bool R.dead] 25)) w10 := uu
                replace hrf := hrf.ups (Ups.trans (up1 _ _) ub10)
                replace hbf := block_ups hbf (Ups.trans (up1 _ _) ub10)
                have ltf_10 : w.heap.size < w10.heap.size := (Array.getElem?_eq_some_iff.1 hbf).1
                replace hro := hro.ups (Ups.trans (up1 _ _) ub10)
                replace hbo := block_ups hbo (Ups.trans (up1 _ _) ub10)
                have lto_10 : w.heap.size + 1 < w10.heap.size := (Array.getElem?_eq_some_iff.1 hbo).1
                replace hr1 := hr1.ups (Ups.trans (up1 _ _) ub10)
                replace hb1 := block_ups hb1 (Ups.trans (up1 _ _) ub10)
                have lt1_10 : w4.heap.size < w10.heap.size := (Array.getElem?_eq_some_iff.1 hb1).1
                replace hr2 := hr2.ups (Ups.trans (up1 _ _) ub10)
                replace hb2 := block_ups hb2 (Ups.trans (up1 _ _) ub10)
                have lt2_10 : w5.heap.size < w10.heap.size := (Array.getElem?_eq_some_iff.1 hb2).1
                replace hr3 := hr3.ups (Ups.trans (up1 _ _) ub10)
                replace hb3 := block_ups hb3 (Ups.trans (up1 _ _) ub10)
                have lt3_10 : w6.heap.size < w10.heap.size := (Array.getElem?_eq_some_iff.1 hb3).1
                replace hr4 := hr4.ups (Ups.trans (up1 _ _) ub10)
                replace hb4 := block_ups hb4 (Ups.trans (up1 _ _) ub10)
                have lt4_10 : w7.heap.size < w10.heap.size := (Array.getElem?_eq_some_iff.1 hb4).1
                replace hr5 := hr5.ups (Ups.trans (up1 _ _) ub10)
                replace hb5 := block_ups hb5 (Ups.trans (up1 _ _) ub10)
                have lt5_10 : w8.heap.size < w10.heap.size := (Array.getElem?_eq_some_iff.1 hb5).1
                replace hr6 := hr6.ups (Ups.trans (up1 _ _) ub10)
                replace hb6 := block_ups hb6 ub10
                have lt6_10 : w9.heap.size < w10.heap.size := (Array.getElem?_eq_some_iff.1 hb6).1
                replace uw := Ups.trans uw (Ups.trans (up1 _ _) ub10)
                clear uu
                have hc := rsame_calls K K _ _ w10 (hr3.ups (Ups.refl _)) (hr4.ups (Ups.refl _)) (by have := LK.out; have := n12.out; omega) (by have := LK.out; have := n12.out; omega)
                rw [sameB_refl] at hc
                obtain ⟨k30, k31, k32, k33, k34⟩ := block_cells hb3
                obtain ⟨k40, k41, k42, k43, k44⟩ := block_cells hb4
                go_wp2_with fail
                refine hc.mono ?_
                clear hc
                rintro e w11 ⟨rfl, uu⟩
                clear k30 k31 k32 k33 k34 k40 k41 k42 k43 k44
                have ub11 : Ups w10 w11 := uu
                replace hrf := hrf.ups (Ups.trans (Ups.refl _) ub11)
                replace hbf := block_ups hbf (Ups.trans (Ups.refl _) ub11)
                have ltf_11 : w.heap.size < w11.heap.size := (Array.getElem?_eq_some_iff.1 hbf).1
                replace hro := hro.ups (Ups.trans (Ups.refl _) ub11)
                replace hbo := block_ups hbo (Ups.trans (Ups.refl _) ub11)
                have lto_11 : w.heap.size + 1 < w11.heap.size := (Array.getElem?_eq_some_iff.1 hbo).1
                replace hr1 := hr1.ups (Ups.trans (Ups.refl _) ub11)
                replace hb1 := block_ups hb1 (Ups.trans (Ups.refl _) ub11)
                have lt1_11 : w4.heap.size < w11.heap.size := (Array.getElem?_eq_some_iff.1 hb1).1
                replace hr2 := hr2.ups (Ups.trans (Ups.refl _) ub11)
                replace hb2 := block_ups hb2 (Ups.trans (Ups.refl _) ub11)
                have lt2_11 : w5.heap.size < w11.heap.size := (Array.getElem?_eq_some_iff.1 hb2).1
                replace hr3 := hr3.ups (Ups.trans (Ups.refl _) ub11)
                replace hb3 := block_ups hb3 (Ups.trans (Ups.refl _) ub11)
                have lt3_11 : w6.heap.size < w11.heap.size := (Array.getElem?_eq_some_iff.1 hb3).1
                replace hr4 := hr4.ups (Ups.trans (Ups.refl _) ub11)
                replace hb4 := block_ups hb4 (Ups.trans (Ups.refl _) ub11)
                have lt4_11 : w7.heap.size < w11.heap.size := (Array.getElem?_eq_some_iff.1 hb4).1
                replace hr5 := hr5.ups (Ups.trans (Ups.refl _) ub11)
                replace hb5 := block_ups hb5 (Ups.trans (Ups.refl _) ub11)
                have lt5_11 : w8.heap.size < w11.heap.size := (Array.getElem?_eq_some_iff.1 hb5).1
                replace hr6 := hr6.ups (Ups.trans (Ups.refl _) ub11)
                replace hb6 := block_ups hb6 (Ups.trans (Ups.refl _) ub11)
                have lt6_11 : w9.heap.size < w11.heap.size := (Array.getElem?_eq_some_iff.1 hb6).1
                replace uw := Ups.trans uw (Ups.trans (Ups.refl _) ub11)
                clear uu
                have hc := rsame_calls R R _ _ w11 (hr5.ups (Ups.refl _)) (hr6.ups (Ups.refl _)) (by have := LR.out; have := n12.out; omega) (by have := LR.out; have := n12.out; omega)
                rw [sameB_refl] at hc
                obtain ⟨k50, k51, k52, k53, k54⟩ := block_cells hb5
                obtain ⟨k60, k61, k62, k63, k64⟩ := block_cells hb6
                go_wp2_with fail
                refine hc.mono ?_
                clear hc
                rintro e w12 ⟨rfl, uu⟩
                clear k50 k51 k52 k53 k54 k60 k61 k62 k63 k64
                have ub12 : Ups w11 w12 := uu
                replace hrf := hrf.ups (Ups.trans (Ups.refl _) ub12)
                replace hbf := block_ups hbf (Ups.trans (Ups.refl _) ub12)
                have ltf_12 : w.heap.size < w12.heap.size := (Array.getElem?_eq_some_iff.1 hbf).1
                replace hro := hro.ups (Ups.trans (Ups.refl _) ub12)
                replace hbo := block_ups hbo (Ups.trans (Ups.refl _) ub12)
                have lto_12 : w.heap.size + 1 < w12.heap.size := (Array.getElem?_eq_some_iff.1 hbo).1
                replace hr1 := hr1.ups (Ups.trans (Ups.refl _) ub12)
                replace hb1 := block_ups hb1 (Ups.trans (Ups.refl _) ub12)
                have lt1_12 : w4.heap.size < w12.heap.size := (Array.getElem?_eq_some_iff.1 hb1).1
                replace hr2 := hr2.ups (Ups.trans (Ups.refl _) ub12)
                replace hb2 := block_ups hb2 (Ups.trans (Ups.refl _) ub12)
                have lt2_12 : w5.heap.size < w12.heap.size := (Array.getElem?_eq_some_iff.1 hb2).1
                replace hr3 := hr3.ups (Ups.trans (Ups.refl _) ub12)
                replace hb3 := block_ups hb3 (Ups.trans (Ups.refl _) ub12)
                have lt3_12 : w6.heap.size < w12.heap.size := (Array.getElem?_eq_some_iff.1 hb3).1
                replace hr4 := hr4.ups (Ups.trans (Ups.refl _) ub12)
                replace hb4 := block_ups hb4 (Ups.trans (Ups.refl _) ub12)
                have lt4_12 : w7.heap.size < w12.heap.size := (Array.getElem?_eq_some_iff.1 hb4).1
                replace hr5 := hr5.ups (Ups.trans (Ups.refl _) ub12)
                replace hb5 := block_ups hb5 (Ups.trans (Ups.refl _) ub12)
                have lt5_12 : w8.heap.size < w12.heap.size := (Array.getElem?_eq_some_iff.1 hb5).1
                replace hr6 := hr6.ups (Ups.trans (Ups.refl _) ub12)
                replace hb6 := block_ups hb6 (Ups.trans (Ups.refl _) ub12)
                have lt6_12 : w9.heap.size < w12.heap.size := (Array.getElem?_eq_some_iff.1 hb6).1
                replace uw := Ups.trans uw (Ups.trans (Ups.refl _) ub12)
                clear uu
                have hc := rcheck_calls f _ w12 (hrf.ups (Ups.refl _)) hf
                obtain ⟨kf0, kf1, kf2, kf3, kf4⟩ := block_cells hbf
                go_wp2_with fail
                refine hc.mono ?_
                clear hc
                rintro e w13 ⟨rfl, uu⟩
                clear kf0 kf1 kf2 kf3 kf4
                have ub13 : Ups w12 w13 := uu
                replace hrf := hrf.ups (Ups.trans (Ups.refl _) ub13)
                replace hbf := block_ups hbf (Ups.trans (Ups.refl _) ub13)
                have ltf_13 : w.heap.size < w13.heap.size := (Array.getElem?_eq_some_iff.1 hbf).1
                replace hro := hro.ups (Ups.trans (Ups.refl _) ub13)
                replace hbo := block_ups hbo (Ups.trans (Ups.refl _) ub13)
                have lto_13 : w.heap.size + 1 < w13.heap.size := (Array.getElem?_eq_some_iff.1 hbo).1
                replace hr1 := hr1.ups (Ups.trans (Ups.refl _) ub13)
                replace hb1 := block_ups hb1 (Ups.trans (Ups.refl _) ub13)
                have lt1_13 : w4.heap.size < w13.heap.size := (Array.getElem?_eq_some_iff.1 hb1).1
                replace hr2 := hr2.ups (Ups.trans (Ups.refl _) ub13)
                replace hb2 := block_ups hb2 (Ups.trans (Ups.refl _) ub13)
                have lt2_13 : w5.heap.size < w13.heap.size := (Array.getElem?_eq_some_iff.1 hb2).1
                replace hr3 := hr3.ups (Ups.trans (Ups.refl _) ub13)
                replace hb3 := block_ups hb3 (Ups.trans (Ups.refl _) ub13)
                have lt3_13 : w6.heap.size < w13.heap.size := (Array.getElem?_eq_some_iff.1 hb3).1
                replace hr4 := hr4.ups (Ups.trans (Ups.refl _) ub13)
                replace hb4 := block_ups hb4 (Ups.trans (Ups.refl _) ub13)
                have lt4_13 : w7.heap.size < w13.heap.size := (Array.getElem?_eq_some_iff.1 hb4).1
                replace hr5 := hr5.ups (Ups.trans (Ups.refl _) ub13)
                replace hb5 := block_ups hb5 (Ups.trans (Ups.refl _) ub13)
                have lt5_13 : w8.heap.size < w13.heap.size := (Array.getElem?_eq_some_iff.1 hb5).1
                replace hr6 := hr6.ups (Ups.trans (Ups.refl _) ub13)
                replace hb6 := block_ups hb6 (Ups.trans (Ups.refl _) ub13)
                have lt6_13 : w9.heap.size < w13.heap.size := (Array.getElem?_eq_some_iff.1 hb6).1
                replace uw := Ups.trans uw (Ups.trans (Ups.refl _) ub13)
                clear uu
                have hc := rfree_calls f _ n w13 (hrf.ups (Ups.refl _)) hf
                obtain ⟨kf0, kf1, kf2, kf3, kf4⟩ := block_cells hbf
                go_wp2_with fail
                refine hc.mono ?_
                clear hc
                rintro e w14 ⟨rfl, uu⟩
                clear kf0 kf1 kf2 kf3 kf4
                have ub14 : Ups w13 w14 := uu
                replace hrf := hrf.ups (Ups.trans (Ups.refl _) ub14)
                replace hbf := block_ups hbf (Ups.trans (Ups.refl _) ub14)
                have ltf_14 : w.heap.size < w14.heap.size := (Array.getElem?_eq_some_iff.1 hbf).1
                replace hro := hro.ups (Ups.trans (Ups.refl _) ub14)
                replace hbo := block_ups hbo (Ups.trans (Ups.refl _) ub14)
                have lto_14 : w.heap.size + 1 < w14.heap.size := (Array.getElem?_eq_some_iff.1 hbo).1
                replace hr1 := hr1.ups (Ups.trans (Ups.refl _) ub14)
                replace hb1 := block_ups hb1 (Ups.trans (Ups.refl _) ub14)
                have lt1_14 : w4.heap.size < w14.heap.size := (Array.getElem?_eq_some_iff.1 hb1).1
                replace hr2 := hr2.ups (Ups.trans (Ups.refl _) ub14)
                replace hb2 := block_ups hb2 (Ups.trans (Ups.refl _) ub14)
                have lt2_14 : w5.heap.size < w14.heap.size := (Array.getElem?_eq_some_iff.1 hb2).1
                replace hr3 := hr3.ups (Ups.trans (Ups.refl _) ub14)
                replace hb3 := block_ups hb3 (Ups.trans (Ups.refl _) ub14)
                have lt3_14 : w6.heap.size < w14.heap.size := (Array.getElem?_eq_some_iff.1 hb3).1
                replace hr4 := hr4.ups (Ups.trans (Ups.refl _) ub14)
                replace hb4 := block_ups hb4 (Ups.trans (Ups.refl _) ub14)
                have lt4_14 : w7.heap.size < w14.heap.size := (Array.getElem?_eq_some_iff.1 hb4).1
                replace hr5 := hr5.ups (Ups.trans (Ups.refl _) ub14)
                replace hb5 := block_ups hb5 (Ups.trans (Ups.refl _) ub14)
                have lt5_14 : w8.heap.size < w14.heap.size := (Array.getElem?_eq_some_iff.1 hb5).1
                replace hr6 := hr6.ups (Ups.trans (Ups.refl _) ub14)
                replace hb6 := block_ups hb6 (Ups.trans (Ups.refl _) ub14)
                have lt6_14 : w9.heap.size < w14.heap.size := (Array.getElem?_eq_some_iff.1 hb6).1
                replace uw := Ups.trans uw (Ups.trans (Ups.refl _) ub14)
                clear uu
                have hc := rsame_calls f o _ _ w14 (hrf.ups (Ups.refl _)) (hro.ups (Ups.refl _)) (by have := n12.out; omega) (by have := n12.out; omega)
                obtain ⟨kf0, kf1, kf2, kf3, kf4⟩ := block_cells hbf
                obtain ⟨ko0, ko1, ko2, ko3, ko4⟩ := block_cells hbo
                go_wp2_with fail
                refine hc.mono ?_
                clear hc
                rintro e w15 ⟨rfl, uu⟩
                clear kf0 kf1 kf2 kf3 kf4 ko0 ko1 ko2 ko3 ko4
                have ub15 : Ups w14 w15 := uu
                replace hrf := hrf.ups (Ups.trans (Ups.refl _) ub15)
                replace hbf := block_ups hbf (Ups.trans (Ups.refl _) ub15)
                have ltf_15 : w.heap.size < w15.heap.size := (Array.getElem?_eq_some_iff.1 hbf).1
                replace hro := hro.ups (Ups.trans (Ups.refl _) ub15)
                replace hbo := block_ups hbo (Ups.trans (Ups.refl _) ub15)
                have lto_15 : w.heap.size + 1 < w15.heap.size := (Array.getElem?_eq_some_iff.1 hbo).1
                replace hr1 := hr1.ups (Ups.trans (Ups.refl _) ub15)
                replace hb1 := block_ups hb1 (Ups.trans (Ups.refl _) ub15)
                have lt1_15 : w4.heap.size < w15.heap.size := (Array.getElem?_eq_some_iff.1 hb1).1
                replace hr2 := hr2.ups (Ups.trans (Ups.refl _) ub15)
                replace hb2 := block_ups hb2 (Ups.trans (Ups.refl _) ub15)
                have lt2_15 : w5.heap.size < w15.heap.size := (Array.getElem?_eq_some_iff.1 hb2).1
                replace hr3 := hr3.ups (Ups.trans (Ups.refl _) ub15)
                replace hb3 := block_ups hb3 (Ups.trans (Ups.refl _) ub15)
                have lt3_15 : w6.heap.size < w15.heap.size := (Array.getElem?_eq_some_iff.1 hb3).1
                replace hr4 := hr4.ups (Ups.trans (Ups.refl _) ub15)
                replace hb4 := block_ups hb4 (Ups.trans (Ups.refl _) ub15)
                have lt4_15 : w7.heap.size < w15.heap.size := (Array.getElem?_eq_some_iff.1 hb4).1
                replace hr5 := hr5.ups (Ups.trans (Ups.refl _) ub15)
                replace hb5 := block_ups hb5 (Ups.trans (Ups.refl _) ub15)
                have lt5_15 : w8.heap.size < w15.heap.size := (Array.getElem?_eq_some_iff.1 hb5).1
                replace hr6 := hr6.ups (Ups.trans (Ups.refl _) ub15)
                replace hb6 := block_ups hb6 (Ups.trans (Ups.refl _) ub15)
                have lt6_15 : w9.heap.size < w15.heap.size := (Array.getElem?_eq_some_iff.1 hb6).1
                replace uw := Ups.trans uw (Ups.trans (Ups.refl _) ub15)
                clear uu
                cases hcb : checkB f with
                | false =>
                  have hc := check_calls f _ w15 (hrf.ups (Ups.refl _)) hf.1 hf.2.1
                  simp only [hcb, if_true, Bool.false_eq_true, if_false] at hc
                  obtain ⟨kf0, kf1, kf2, kf3, kf4⟩ := block_cells hbf
                  go_wp2_with fail
                  refine hc.mono ?_
                  clear hc
                  rintro e w16 ⟨rfl, uu⟩
                  clear kf0 kf1 kf2 kf3 kf4
                  have ub16 : Ups w15 w16 := uu
                  replace hrf := hrf.ups (Ups.trans (Ups.refl _) ub16)
                  replace hbf := block_ups hbf (Ups.trans (Ups.refl _) ub16)
                  have ltf_16 : w.heap.size < w16.heap.size := (Array.getElem?_eq_some_iff.1 hbf).1
                  replace hro := hro.ups (Ups.trans (Ups.refl _) ub16)
                  replace hbo := block_ups hbo (Ups.trans (Ups.refl _) ub16)
                  have lto_16 : w.heap.size + 1 < w16.heap.size := (Array.getElem?_eq_some_iff.1 hbo).1
                  replace hr1 := hr1.ups (Ups.trans (Ups.refl _) ub16)
                  replace hb1 := block_ups hb1 (Ups.trans (Ups.refl _) ub16)
                  have lt1_16 : w4.heap.size < w16.heap.size := (Array.getElem?_eq_some_iff.1 hb1).1
                  replace hr2 := hr2.ups (Ups.trans (Ups.refl _) ub16)
                  replace hb2 := block_ups hb2 (Ups.trans (Ups.refl _) ub16)
                  have lt2_16 : w5.heap.size < w16.heap.size := (Array.getElem?_eq_some_iff.1 hb2).1
                  replace hr3 := hr3.ups (Ups.trans (Ups.refl _) ub16)
                  replace hb3 := block_ups hb3 (Ups.trans (Ups.refl _) ub16)
                  have lt3_16 : w6.heap.size < w16.heap.size := (Array.getElem?_eq_some_iff.1 hb3).1
                  replace hr4 := hr4.ups (Ups.trans (Ups.refl _) ub16)
                  replace hb4 := block_ups hb4 (Ups.trans (Ups.refl _) ub16)
                  have lt4_16 : w7.heap.size < w16.heap.size := (Array.getElem?_eq_some_iff.1 hb4).1
                  replace hr5 := hr5.ups (Ups.trans (Ups.refl _) ub16)
                  replace hb5 := block_ups hb5 (Ups.trans (Ups.refl _) ub16)
                  have lt5_16 : w8.heap.size < w16.heap.size := (Array.getElem?_eq_some_iff.1 hb5).1
                  replace hr6 := hr6.ups (Ups.trans (Ups.refl _) ub16)
                  replace hb6 := block_ups hb6 (Ups.trans (Ups.refl _) ub16)
                  have lt6_16 : w9.heap.size < w16.heap.size := (Array.getElem?_eq_some_iff.1 hb6).1
                  replace uw := Ups.trans uw (Ups.trans (Ups.refl _) ub16)
                  clear uu
                  have hc := free_calls f _ n w16 (hrf.ups (Ups.refl _)) hf
                  obtain ⟨kf0, kf1, kf2, kf3, kf4⟩ := block_cells hbf
                  go_wp2_with fail
                  refine hc.mono ?_
                  clear hc
                  rintro e w17 ⟨rfl, uu⟩
                  clear kf0 kf1 kf2 kf3 kf4
                  have ub17 : Ups w16 w17 := uu
                  replace hrf := hrf.ups (Ups.trans (Ups.refl _) ub17)
                  replace hbf := block_ups hbf (Ups.trans (Ups.refl _) ub17)
                  have ltf_17 : w.heap.size < w17.heap.size := (Array.getElem?_eq_some_iff.1 hbf).1
                  replace hro := hro.ups (Ups.trans (Ups.refl _) ub17)
                  replace hbo := block_ups hbo (Ups.trans (Ups.refl _) ub17)
                  have lto_17 : w.heap.size + 1 < w17.heap.size := (Array.getElem?_eq_some_iff.1 hbo).1
                  replace hr1 := hr1.ups (Ups.trans (Ups.refl _) ub17)
                  replace hb1 := block_ups hb1 (Ups.trans (Ups.refl _) ub17)
                  have lt1_17 : w4.heap.size < w17.heap.size := (Array.getElem?_eq_some_iff.1 hb1).1
                  replace hr2 := hr2.ups (Ups.trans (Ups.refl _) ub17)
                  replace hb2 := block_ups hb2 (Ups.trans (Ups.refl _) ub17)
                  have lt2_17 : w5.heap.size < w17.heap.size := (Array.getElem?_eq_some_iff.1 hb2).1
                  replace hr3 := hr3.ups (Ups.trans (Ups.refl _) ub17)
                  replace hb3 := block_ups hb3 (Ups.trans (Ups.refl _) ub17)
                  have lt3_17 : w6.heap.size < w17.heap.size := (Array.getElem?_eq_some_iff.1 hb3).1
                  replace hr4 := hr4.ups (Ups.trans (Ups.refl _) ub17)
                  replace hb4 := block_ups hb4 (Ups.trans (Ups.refl _) ub17)
                  have lt4_17 : w7.heap.size < w17.heap.size := (Array.getElem?_eq_some_iff.1 hb4).1
                  replace hr5 := hr5.ups (Ups.trans (Ups.refl _) ub17)
                  replace hb5 := block_ups hb5 (Ups.trans (Ups.refl _) ub17)
                  have lt5_17 : w8.heap.size < w17.heap.size := (Array.getElem?_eq_some_iff.1 hb5).1
                  replace hr6 := hr6.ups (Ups.trans (Ups.refl _) ub17)
                  replace hb6 := block_ups hb6 (Ups.trans (Ups.refl _) ub17)
                  have lt6_17 : w9.heap.size < w17.heap.size := (Array.getElem?_eq_some_iff.1 hb6).1
                  replace uw := Ups.trans uw (Ups.trans (Ups.refl _) ub17)
                  clear uu
                  have hc := same_calls f o _ _ w17 (hrf.ups (Ups.refl _)) (hro.ups (Ups.refl _)) (by have := n12.out; omega) (by have := n34.out; omega) (by have := n12.out; omega) (by have := n34.out; omega)
                  obtain ⟨kf0, kf1, kf2, kf3, kf4⟩ := block_cells hbf
                  obtain ⟨ko0, ko1, ko2, ko3, ko4⟩ := block_cells hbo
                  go_wp2_with fail
                  refine hc.mono ?_
                  clear hc
                  rintro e w18 ⟨rfl, uu⟩
                  clear kf0 kf1 kf2 kf3 kf4 ko0 ko1 ko2 ko3 ko4
                  have ub18 : Ups w17 w18 := uu
                  replace hrf := hrf.ups (Ups.trans (Ups.refl _) ub18)
                  replace hbf := block_ups hbf (Ups.trans (Ups.refl _) ub18)
                  have ltf_18 : w.heap.size < w18.heap.size := (Array.getElem?_eq_some_iff.1 hbf).1
                  replace hro := hro.ups (Ups.trans (Ups.refl _) ub18)
                  replace hbo := block_ups hbo (Ups.trans (Ups.refl _) ub18)
                  have lto_18 : w.heap.size + 1 < w18.heap.size := (Array.getElem?_eq_some_iff.1 hbo).1
                  replace hr1 := hr1.ups (Ups.trans (Ups.refl _) ub18)
                  replace hb1 := block_ups hb1 (Ups.trans (Ups.refl _) ub18)
                  have lt1_18 : w4.heap.size < w18.heap.size := (Array.getElem?_eq_some_iff.1 hb1).1
                  replace hr2 := hr2.ups (Ups.trans (Ups.refl _) ub18)
                  replace hb2 := block_ups hb2 (Ups.trans (Ups.refl _) ub18)
                  have lt2_18 : w5.heap.size < w18.heap.size := (Array.getElem?_eq_some_iff.1 hb2).1
                  replace hr3 := hr3.ups (Ups.trans (Ups.refl _) ub18)
                  replace hb3 := block_ups hb3 (Ups.trans (Ups.refl _) ub18)
                  have lt3_18 : w6.heap.size < w18.heap.size := (Array.getElem?_eq_some_iff.1 hb3).1
                  replace hr4 := hr4.ups (Ups.trans (Ups.refl _) ub18)
                  replace hb4 := block_ups hb4 (Ups.trans (Ups.refl _) ub18)
                  have lt4_18 : w7.heap.size < w18.heap.size := (Array.getElem?_eq_some_iff.1 hb4).1
                  replace hr5 := hr5.ups (Ups.trans (Ups.refl _) ub18)
                  replace hb5 := block_ups hb5 (Ups.trans (Ups.refl _) ub18)
                  have lt5_18 : w8.heap.size < w18.heap.size := (Array.getElem?_eq_some_iff.1 hb5).1
                  replace hr6 := hr6.ups (Ups.trans (Ups.refl _) ub18)
                  replace hb6 := block_ups hb6 (Ups.trans (Ups.refl _) ub18)
                  have lt6_18 : w9.heap.size < w18.heap.size := (Array.getElem?_eq_some_iff.1 hb6).1
                  replace uw := Ups.trans uw (Ups.trans (Ups.refl _) ub18)
                  clear uu
                  go_wp2_with fail
                  exact bodyPost_ret (v := .bool true) (results_one rfl rfl) rfl ⟨rfl, Ups.trans uw (Ups.refl _)⟩
                | true =>
                  have hc := check_calls f _ w15 (hrf.ups (Ups.refl _)) hf.1 hf.2.1
                  simp only [hcb, if_true, Bool.false_eq_true, if_false] at hc
                  obtain ⟨kf0, kf1, kf2, kf3, kf4⟩ := block_cells hbf
                  go_wp2_with fail
                  refine hc.mono ?_
                  clear hc
                  rintro e w16 ⟨rfl, uu⟩
                  clear kf0 kf1 kf2 kf3 kf4
                  have ub16 : Ups w15 w16 := uu
                  replace hrf := hrf.ups (Ups.trans (Ups.refl _) ub16)
                  replace hbf := block_ups hbf (Ups.trans (Ups.refl _) ub16)
                  have ltf_16 : w.heap.size < w16.heap.size := (Array.getElem?_eq_some_iff.1 hbf).1
                  replace hro := hro.ups (Ups.trans (Ups.refl _) ub16)
                  replace hbo := block_ups hbo (Ups.trans (Ups.refl _) ub16)
                  have lto_16 : w.heap.size + 1 < w16.heap.size := (Array.getElem?_eq_some_iff.1 hbo).1
                  replace hr1 := hr1.ups (Ups.trans (Ups.refl _) ub16)
                  replace hb1 := block_ups hb1 (Ups.trans (Ups.refl _) ub16)
                  have lt1_16 : w4.heap.size < w16.heap.size := (Array.getElem?_eq_some_iff.1 hb1).1
                  replace hr2 := hr2.ups (Ups.trans (Ups.refl _) ub16)
                  replace hb2 := block_ups hb2 (Ups.trans (Ups.refl _) ub16)
                  have lt2_16 : w5.heap.size < w16.heap.size := (Array.getElem?_eq_some_iff.1 hb2).1
                  replace hr3 := hr3.ups (Ups.trans (Ups.refl _) ub16)
                  replace hb3 := block_ups hb3 (Ups.trans (Ups.refl _) ub16)
                  have lt3_16 : w6.heap.size < w16.heap.size := (Array.getElem?_eq_some_iff.1 hb3).1
                  replace hr4 := hr4.ups (Ups.trans (Ups.refl _) ub16)
                  replace hb4 := block_ups hb4 (Ups.trans (Ups.refl _) ub16)
                  have lt4_16 : w7.heap.size < w16.heap.size := (Array.getElem?_eq_some_iff.1 hb4).1
                  replace hr5 := hr5.ups (Ups.trans (Ups.refl _) ub16)
                  replace hb5 := block_ups hb5 (Ups.trans (Ups.refl _) ub16)
                  have lt5_16 : w8.heap.size < w16.heap.size := (Array.getElem?_eq_some_iff.1 hb5).1
                  replace hr6 := hr6.ups (Ups.trans (Ups.refl _) ub16)
                  replace hb6 := block_ups hb6 (Ups.trans (Ups.refl _) ub16)
                  have lt6_16 : w9.heap.size < w16.heap.size := (Array.getElem?_eq_some_iff.1 hb6).1
                  replace uw := Ups.trans uw (Ups.trans (Ups.refl _) ub16)
                  clear uu
                  have hc := free_calls f _ n w16 (hrf.ups (Ups.refl _)) hf
                  obtain ⟨kf0, kf1, kf2, kf3, kf4⟩ := block_cells hbf
                  go_wp2_with fail
                  refine hc.mono ?_
                  clear hc
                  rintro e w17 ⟨rfl, uu⟩
                  clear kf0 kf1 kf2 kf3 kf4
                  have ub17 : Ups w16 w17 := uu
                  replace hrf := hrf.ups (Ups.trans (Ups.refl _) ub17)
                  replace hbf := block_ups hbf (Ups.trans (Ups.refl _) ub17)
                  have ltf_17 : w.heap.size < w17.heap.size := (Array.getElem?_eq_some_iff.1 hbf).1
                  replace hro := hro.ups (Ups.trans (Ups.refl _) ub17)
                  replace hbo := block_ups hbo (Ups.trans (Ups.refl _) ub17)
                  have lto_17 : w.heap.size + 1 < w17.heap.size := (Array.getElem?_eq_some_iff.1 hbo).1
                  replace hr1 := hr1.ups (Ups.trans (Ups.refl _) ub17)
                  replace hb1 := block_ups hb1 (Ups.trans (Ups.refl _) ub17)
                  have lt1_17 : w4.heap.size < w17.heap.size := (Array.getElem?_eq_some_iff.1 hb1).1
                  replace hr2 := hr2.ups (Ups.trans (Ups.refl _) ub17)
                  replace hb2 := block_ups hb2 (Ups.trans (Ups.refl _) ub17)
                  have lt2_17 : w5.heap.size < w17.heap.size := (Array.getElem?_eq_some_iff.1 hb2).1
                  replace hr3 := hr3.ups (Ups.trans (Ups.refl _) ub17)
                  replace hb3 := block_ups hb3 (Ups.trans (Ups.refl _) ub17)
                  have lt3_17 : w6.heap.size < w17.heap.size := (Array.getElem?_eq_some_iff.1 hb3).1
                  replace hr4 := hr4.ups (Ups.trans (Ups.refl _) ub17)
                  replace hb4 := block_ups hb4 (Ups.trans (Ups.refl _) ub17)
                  have lt4_17 : w7.heap.size < w17.heap.size := (Array.getElem?_eq_some_iff.1 hb4).1
                  replace hr5 := hr5.ups (Ups.trans (Ups.refl _) ub17)
                  replace hb5 := block_ups hb5 (Ups.trans (Ups.refl _) ub17)
                  have lt5_17 : w8.heap.size < w17.heap.size := (Array.getElem?_eq_some_iff.1 hb5).1
                  replace hr6 := hr6.ups (Ups.trans (Ups.refl _) ub17)
                  replace hb6 := block_ups hb6 (Ups.trans (Ups.refl _) ub17)
                  have lt6_17 : w9.heap.size < w17.heap.size := (Array.getElem?_eq_some_iff.1 hb6).1
                  replace uw := Ups.trans uw (Ups.trans (Ups.refl _) ub17)
                  clear uu
                  have hc := same_calls f o _ _ w17 (hrf.ups (Ups.refl _)) (hro.ups (Ups.refl _)) (by have := n12.out; omega) (by have := n34.out; omega) (by have := n12.out; omega) (by have := n34.out; omega)
                  obtain ⟨kf0, kf1, kf2, kf3, kf4⟩ := block_cells hbf
                  obtain ⟨ko0, ko1, ko2, ko3, ko4⟩ := block_cells hbo
                  go_wp2_with fail
                  refine hc.mono ?_
                  clear hc
                  rintro e w18 ⟨rfl, uu⟩
                  clear kf0 kf1 kf2 kf3 kf4 ko0 ko1 ko2 ko3 ko4
                  have ub18 : Ups w17 w18 := uu
                  replace hrf := hrf.ups (Ups.trans (Ups.refl _) ub18)
                  replace hbf := block_ups hbf (Ups.trans (Ups.refl _) ub18)
                  have ltf_18 : w.heap.size < w18.heap.size := (Array.getElem?_eq_some_iff.1 hbf).1
                  replace hro := hro.ups (Ups.trans (Ups.refl _) ub18)
                  replace hbo := block_ups hbo (Ups.trans (Ups.refl _) ub18)
                  have lto_18 : w.heap.size + 1 < w18.heap.size := (Array.getElem?_eq_some_iff.1 hbo).1
                  replace hr1 := hr1.ups (Ups.trans (Ups.refl _) ub18)
                  replace hb1 := block_ups hb1 (Ups.trans (Ups.refl _) ub18)
                  have lt1_18 : w4.heap.size < w18.heap.size := (Array.getElem?_eq_some_iff.1 hb1).1
                  replace hr2 := hr2.ups (Ups.trans (Ups.refl _) ub18)
                  replace hb2 := block_ups hb2 (Ups.trans (Ups.refl _) ub18)
                  have lt2_18 : w5.heap.size < w18.heap.size := (Array.getElem?_eq_some_iff.1 hb2).1
                  replace hr3 := hr3.ups (Ups.trans (Ups.refl _) ub18)
                  replace hb3 := block_ups hb3 (Ups.trans (Ups.refl _) ub18)
                  have lt3_18 : w6.heap.size < w18.heap.size := (Array.getElem?_eq_some_iff.1 hb3).1
                  replace hr4 := hr4.ups (Ups.trans (Ups.refl _) ub18)
                  replace hb4 := block_ups hb4 (Ups.trans (Ups.refl _) ub18)
                  have lt4_18 : w7.heap.size < w18.heap.size := (Array.getElem?_eq_some_iff.1 hb4).1
                  replace hr5 := hr5.ups (Ups.trans (Ups.refl _) ub18)
                  replace hb5 := block_ups hb5 (Ups.trans (Ups.refl _) ub18)
                  have lt5_18 : w8.heap.size < w18.heap.size := (Array.getElem?_eq_some_iff.1 hb5).1
                  replace hr6 := hr6.ups (Ups.trans (Ups.refl _) ub18)
                  replace hb6 := block_ups hb6 (Ups.trans (Ups.refl _) ub18)
                  have lt6_18 : w9.heap.size < w18.heap.size := (Array.getElem?_eq_some_iff.1 hb6).1
                  replace uw := Ups.trans uw (Ups.trans (Ups.refl _) ub18)
                  clear uu
                  go_wp2_with fail
                  exact bodyPost_ret (v := .bool true) (results_one rfl rfl) rfl ⟨rfl, Ups.trans uw (Ups.refl _)⟩
            · have hc := new_calls n m w3
              rw [hN] at hc
              go_wp2_with fail
              refine hc.mono ?_
              clear hc
              rintro e w4 ⟨v1, rfl, hr1, uu, _⟩
              have ub4 : Ups w3 w4 := uu
              replace hrf := hrf.ups (Ups.trans (Ups.refl _) ub4)
              replace hbf := block_ups hbf (Ups.trans (Ups.refl _) ub4)
              have ltf_4 : w.heap.size < w4.heap.size := (Array.getElem?_eq_some_iff.1 hbf).1
              replace hro := hro.ups (Ups.trans (Ups.refl _) ub4)
              replace hbo := block_ups hbo (Ups.trans (Ups.refl _) ub4)
              have lto_4 : w.heap.size + 1 < w4.heap.size := (Array.getElem?_eq_some_iff.1 hbo).1
              replace uw := Ups.trans uw (Ups.trans (Ups.refl _) ub4)
              clear uu
              have hs1 := hr1
              obtain ⟨_, _, rfl, ⟨a1, c1, rfl, _⟩, ⟨a'1, c'1, rfl, _⟩⟩ := hs1
              have hb1 : (w4.alloc (.cells #[.slice a1 N.pages.length c1, .slice a'1 N.wear.length c'1, .int .i64 N.fuse, .string N.torn, .bool N.dead] 25)).heap[w4.heap.size]? = some (.cells #[.slice a1 N.pages.length c1, .slice a'1 N.wear.length c'1, .int .i64 N.fuse, .string N.torn, .bool N.dead] 25) := alloc_at _ _
              have hc := rnew_calls n m (w4.alloc (.cells #[.slice a1 N.pages.length c1, .slice a'1 N.wear.length c'1, .int .i64 N.fuse, .string N.torn, .bool N.dead] 25))
              rw [hN] at hc
              go_wp2_with fail
              refine hc.mono ?_
              clear hc
              rintro e w5 ⟨v2, rfl, hr2, uu, _⟩
              have ub5 : Ups (w4.alloc (.cells #[.slice a1 N.pages.length c1, .slice a'1 N.wear.length c'1, .int .i64 N.fuse, .string N.torn, .bool N.dead] 25)) w5 := uu
              replace hrf := hrf.ups (Ups.trans (up1 _ _) ub5)
              replace hbf := block_ups hbf (Ups.trans (up1 _ _) ub5)
              have ltf_5 : w.heap.size < w5.heap.size := (Array.getElem?_eq_some_iff.1 hbf).1
              replace hro := hro.ups (Ups.trans (up1 _ _) ub5)
              replace hbo := block_ups hbo (Ups.trans (up1 _ _) ub5)
              have lto_5 : w.heap.size + 1 < w5.heap.size := (Array.getElem?_eq_some_iff.1 hbo).1
              replace hr1 := hr1.ups (Ups.trans (up1 _ _) ub5)
              replace hb1 := block_ups hb1 ub5
              have lt1_5 : w4.heap.size < w5.heap.size := (Array.getElem?_eq_some_iff.1 hb1).1
              replace uw := Ups.trans uw (Ups.trans (up1 _ _) ub5)
              clear uu
              have hs2 := hr2
              obtain ⟨_, _, rfl, ⟨a2, c2, rfl, _⟩, ⟨a'2, c'2, rfl, _⟩⟩ := hs2
              have hb2 : (w5.alloc (.cells #[.slice a2 N.pages.length c2, .slice a'2 N.wear.length c'2, .int .i64 N.fuse, .string N.torn, .bool N.dead] 25)).heap[w5.heap.size]? = some (.cells #[.slice a2 N.pages.length c2, .slice a'2 N.wear.length c'2, .int .i64 N.fuse, .string N.torn, .bool N.dead] 25) := alloc_at _ _
              have hc := wake_calls f _ n s (w5.alloc (.cells #[.slice a2 N.pages.length c2, .slice a'2 N.wear.length c'2, .int .i64 N.fuse, .string N.torn, .bool N.dead] 25)) (hrf.ups (up1 _ _)) hf
              rw [hK] at hc
              obtain ⟨kf0, kf1, kf2, kf3, kf4⟩ := block_cells hbf
              go_wp2_with fail
              refine hc.mono ?_
              clear hc
              rintro e w6 ⟨v3, rfl, hn⟩
              clear kf0 kf1 kf2 kf3 kf4
              have ub6 : Ups (w5.alloc (.cells #[.slice a2 N.pages.length c2, .slice a'2 N.wear.length c'2, .int .i64 N.fuse, .string N.torn, .bool N.dead] 25)) w6 := hn.ups
              replace hrf := hrf.ups (Ups.trans (up1 _ _) ub6)
              replace hbf := block_ups hbf (Ups.trans (up1 _ _) ub6)
              have ltf_6 : w.heap.size < w6.heap.size := (Array.getElem?_eq_some_iff.1 hbf).1
              replace hro := hro.ups (Ups.trans (up1 _ _) ub6)
              replace hbo := block_ups hbo (Ups.trans (up1 _ _) ub6)
              have lto_6 : w.heap.size + 1 < w6.heap.size := (Array.getElem?_eq_some_iff.1 hbo).1
              replace hr1 := hr1.ups (Ups.trans (up1 _ _) ub6)
              replace hb1 := block_ups hb1 (Ups.trans (up1 _ _) ub6)
              have lt1_6 : w4.heap.size < w6.heap.size := (Array.getElem?_eq_some_iff.1 hb1).1
              replace hr2 := hr2.ups (Ups.trans (up1 _ _) ub6)
              replace hb2 := block_ups hb2 ub6
              have lt2_6 : w5.heap.size < w6.heap.size := (Array.getElem?_eq_some_iff.1 hb2).1
              replace uw := Ups.trans uw (Ups.trans (up1 _ _) ub6)
              have hr3 := hn.reads
              clear hn
              have hs3 := hr3
              obtain ⟨_, _, rfl, ⟨a3, c3, rfl, _⟩, ⟨a'3, c'3, rfl, _⟩⟩ := hs3
              have hb3 : (w6.alloc (.cells #[.slice a3 K.pages.length c3, .slice a'3 K.wear.length c'3, .int .i64 K.fuse, .string K.torn, .bool K.dead] 25)).heap[w6.heap.size]? = some (.cells #[.slice a3 K.pages.length c3, .slice a'3 K.wear.length c'3, .int .i64 K.fuse, .string K.torn, .bool K.dead] 25) := alloc_at _ _
              have hc := rwake_calls f _ n s (w6.alloc (.cells #[.slice a3 K.pages.length c3, .slice a'3 K.wear.length c'3, .int .i64 K.fuse, .string K.torn, .bool K.dead] 25)) (hrf.ups (up1 _ _)) hf
              rw [hK] at hc
              obtain ⟨kf0, kf1, kf2, kf3, kf4⟩ := block_cells hbf
              go_wp2_with fail
              refine hc.mono ?_
              clear hc
              rintro e w7 ⟨v4, rfl, hn⟩
              clear kf0 kf1 kf2 kf3 kf4
              have ub7 : Ups (w6.alloc (.cells #[.slice a3 K.pages.length c3, .slice a'3 K.wear.length c'3, .int .i64 K.fuse, .string K.torn, .bool K.dead] 25)) w7 := hn.ups
              replace hrf := hrf.ups (Ups.trans (up1 _ _) ub7)
              replace hbf := block_ups hbf (Ups.trans (up1 _ _) ub7)
              have ltf_7 : w.heap.size < w7.heap.size := (Array.getElem?_eq_some_iff.1 hbf).1
              replace hro := hro.ups (Ups.trans (up1 _ _) ub7)
              replace hbo := block_ups hbo (Ups.trans (up1 _ _) ub7)
              have lto_7 : w.heap.size + 1 < w7.heap.size := (Array.getElem?_eq_some_iff.1 hbo).1
              replace hr1 := hr1.ups (Ups.trans (up1 _ _) ub7)
              replace hb1 := block_ups hb1 (Ups.trans (up1 _ _) ub7)
              have lt1_7 : w4.heap.size < w7.heap.size := (Array.getElem?_eq_some_iff.1 hb1).1
              replace hr2 := hr2.ups (Ups.trans (up1 _ _) ub7)
              replace hb2 := block_ups hb2 (Ups.trans (up1 _ _) ub7)
              have lt2_7 : w5.heap.size < w7.heap.size := (Array.getElem?_eq_some_iff.1 hb2).1
              replace hr3 := hr3.ups (Ups.trans (up1 _ _) ub7)
              replace hb3 := block_ups hb3 ub7
              have lt3_7 : w6.heap.size < w7.heap.size := (Array.getElem?_eq_some_iff.1 hb3).1
              replace uw := Ups.trans uw (Ups.trans (up1 _ _) ub7)
              have hr4 := hn.reads
              clear hn
              have hs4 := hr4
              obtain ⟨_, _, rfl, ⟨a4, c4, rfl, _⟩, ⟨a'4, c'4, rfl, _⟩⟩ := hs4
              have hb4 : (w7.alloc (.cells #[.slice a4 K.pages.length c4, .slice a'4 K.wear.length c'4, .int .i64 K.fuse, .string K.torn, .bool K.dead] 25)).heap[w7.heap.size]? = some (.cells #[.slice a4 K.pages.length c4, .slice a'4 K.wear.length c'4, .int .i64 K.fuse, .string K.torn, .bool K.dead] 25) := alloc_at _ _
              have hc := rot_calls f _ n m s (w7.alloc (.cells #[.slice a4 K.pages.length c4, .slice a'4 K.wear.length c'4, .int .i64 K.fuse, .string K.torn, .bool K.dead] 25)) (hrf.ups (up1 _ _)) hf hm
              rw [hR] at hc
              obtain ⟨kf0, kf1, kf2, kf3, kf4⟩ := block_cells hbf
              go_wp2_with fail
              refine hc.mono ?_
              clear hc
              rintro e w8 ⟨v5, rfl, hn⟩
              clear kf0 kf1 kf2 kf3 kf4
              have ub8 : Ups (w7.alloc (.cells #[.slice a4 K.pages.length c4, .slice a'4 K.wear.length c'4, .int .i64 K.fuse, .string K.torn, .bool K.dead] 25)) w8 := hn.ups
              replace hrf := hrf.ups (Ups.trans (up1 _ _) ub8)
              replace hbf := block_ups hbf (Ups.trans (up1 _ _) ub8)
              have ltf_8 : w.heap.size < w8.heap.size := (Array.getElem?_eq_some_iff.1 hbf).1
              replace hro := hro.ups (Ups.trans (up1 _ _) ub8)
              replace hbo := block_ups hbo (Ups.trans (up1 _ _) ub8)
              have lto_8 : w.heap.size + 1 < w8.heap.size := (Array.getElem?_eq_some_iff.1 hbo).1
              replace hr1 := hr1.ups (Ups.trans (up1 _ _) ub8)
              replace hb1 := block_ups hb1 (Ups.trans (up1 _ _) ub8)
              have lt1_8 : w4.heap.size < w8.heap.size := (Array.getElem?_eq_some_iff.1 hb1).1
              replace hr2 := hr2.ups (Ups.trans (up1 _ _) ub8)
              replace hb2 := block_ups hb2 (Ups.trans (up1 _ _) ub8)
              have lt2_8 : w5.heap.size < w8.heap.size := (Array.getElem?_eq_some_iff.1 hb2).1
              replace hr3 := hr3.ups (Ups.trans (up1 _ _) ub8)
              replace hb3 := block_ups hb3 (Ups.trans (up1 _ _) ub8)
              have lt3_8 : w6.heap.size < w8.heap.size := (Array.getElem?_eq_some_iff.1 hb3).1
              replace hr4 := hr4.ups (Ups.trans (up1 _ _) ub8)
              replace hb4 := block_ups hb4 ub8
              have lt4_8 : w7.heap.size < w8.heap.size := (Array.getElem?_eq_some_iff.1 hb4).1
              replace uw := Ups.trans uw (Ups.trans (up1 _ _) ub8)
              have hr5 := hn.reads
              clear hn
              have hs5 := hr5
              obtain ⟨_, _, rfl, ⟨a5, c5, rfl, _⟩, ⟨a'5, c'5, rfl, _⟩⟩ := hs5
              have hb5 : (w8.alloc (.cells #[.slice a5 R.pages.length c5, .slice a'5 R.wear.length c'5, .int .i64 R.fuse, .string R.torn, .bool R.dead] 25)).heap[w8.heap.size]? = some (.cells #[.slice a5 R.pages.length c5, .slice a'5 R.wear.length c'5, .int .i64 R.fuse, .string R.torn, .bool R.dead] 25) := alloc_at _ _
              have hc := rrot_calls f _ n m s (w8.alloc (.cells #[.slice a5 R.pages.length c5, .slice a'5 R.wear.length c'5, .int .i64 R.fuse, .string R.torn, .bool R.dead] 25)) (hrf.ups (up1 _ _)) hf hm
              rw [hR] at hc
              obtain ⟨kf0, kf1, kf2, kf3, kf4⟩ := block_cells hbf
              go_wp2_with fail
              refine hc.mono ?_
              clear hc
              rintro e w9 ⟨v6, rfl, hn⟩
              clear kf0 kf1 kf2 kf3 kf4
              have ub9 : Ups (w8.alloc (.cells #[.slice a5 R.pages.length c5, .slice a'5 R.wear.length c'5, .int .i64 R.fuse, .string R.torn, .bool R.dead] 25)) w9 := hn.ups
              replace hrf := hrf.ups (Ups.trans (up1 _ _) ub9)
              replace hbf := block_ups hbf (Ups.trans (up1 _ _) ub9)
              have ltf_9 : w.heap.size < w9.heap.size := (Array.getElem?_eq_some_iff.1 hbf).1
              replace hro := hro.ups (Ups.trans (up1 _ _) ub9)
              replace hbo := block_ups hbo (Ups.trans (up1 _ _) ub9)
              have lto_9 : w.heap.size + 1 < w9.heap.size := (Array.getElem?_eq_some_iff.1 hbo).1
              replace hr1 := hr1.ups (Ups.trans (up1 _ _) ub9)
              replace hb1 := block_ups hb1 (Ups.trans (up1 _ _) ub9)
              have lt1_9 : w4.heap.size < w9.heap.size := (Array.getElem?_eq_some_iff.1 hb1).1
              replace hr2 := hr2.ups (Ups.trans (up1 _ _) ub9)
              replace hb2 := block_ups hb2 (Ups.trans (up1 _ _) ub9)
              have lt2_9 : w5.heap.size < w9.heap.size := (Array.getElem?_eq_some_iff.1 hb2).1
              replace hr3 := hr3.ups (Ups.trans (up1 _ _) ub9)
              replace hb3 := block_ups hb3 (Ups.trans (up1 _ _) ub9)
              have lt3_9 : w6.heap.size < w9.heap.size := (Array.getElem?_eq_some_iff.1 hb3).1
              replace hr4 := hr4.ups (Ups.trans (up1 _ _) ub9)
              replace hb4 := block_ups hb4 (Ups.trans (up1 _ _) ub9)
              have lt4_9 : w7.heap.size < w9.heap.size := (Array.getElem?_eq_some_iff.1 hb4).1
              replace hr5 := hr5.ups (Ups.trans (up1 _ _) ub9)
              replace hb5 := block_ups hb5 ub9
              have lt5_9 : w8.heap.size < w9.heap.size := (Array.getElem?_eq_some_iff.1 hb5).1
              replace uw := Ups.trans uw (Ups.trans (up1 _ _) ub9)
              have hr6 := hn.reads
              clear hn
              have hs6 := hr6
              obtain ⟨_, _, rfl, ⟨a6, c6, rfl, _⟩, ⟨a'6, c'6, rfl, _⟩⟩ := hs6
              have hb6 : (w9.alloc (.cells #[.slice a6 R.pages.length c6, .slice a'6 R.wear.length c'6, .int .i64 R.fuse, .string R.torn, .bool R.dead] 25)).heap[w9.heap.size]? = some (.cells #[.slice a6 R.pages.length c6, .slice a'6 R.wear.length c'6, .int .i64 R.fuse, .string R.torn, .bool R.dead] 25) := alloc_at _ _
              have hc := rsame_calls N N _ _ (w9.alloc (.cells #[.slice a6 R.pages.length c6, .slice a'6 R.wear.length c'6, .int .i64 R.fuse, .string R.torn, .bool R.dead] 25)) (hr1.ups (up1 _ _)) (hr2.ups (up1 _ _)) (by have := LN.out; have := n12.out; omega) (by have := LN.out; have := n12.out; omega)
              rw [sameB_refl] at hc
              obtain ⟨k10, k11, k12, k13, k14⟩ := block_cells hb1
              obtain ⟨k20, k21, k22, k23, k24⟩ := block_cells hb2
              go_wp2_with fail
              refine hc.mono ?_
              clear hc
              rintro e w10 ⟨rfl, uu⟩
              clear k10 k11 k12 k13 k14 k20 k21 k22 k23 k24
              have ub10 : Ups (w9.alloc (.cells #[.slice a6 R.pages.length c6, .slice a'6 R.wear.length c'6, .int .i64 R.fuse, .string R.torn, .bool R.dead] 25)) w10 := uu
              replace hrf := hrf.ups (Ups.trans (up1 _ _) ub10)
              replace hbf := block_ups hbf (Ups.trans (up1 _ _) ub10)
              have ltf_10 : w.heap.size < w10.heap.size := (Array.getElem?_eq_some_iff.1 hbf).1
              replace hro := hro.ups (Ups.trans (up1 _ _) ub10)
              replace hbo := block_ups hbo (Ups.trans (up1 _ _) ub10)
              have lto_10 : w.heap.size + 1 < w10.heap.size := (Array.getElem?_eq_some_iff.1 hbo).1
              replace hr1 := hr1.ups (Ups.trans (up1 _ _) ub10)
              replace hb1 := block_ups hb1 (Ups.trans (up1 _ _) ub10)
              have lt1_10 : w4.heap.size < w10.heap.size := (Array.getElem?_eq_some_iff.1 hb1).1
              replace hr2 := hr2.ups (Ups.trans (up1 _ _) ub10)
              replace hb2 := block_ups hb2 (Ups.trans (up1 _ _) ub10)
              have lt2_10 : w5.heap.size < w10.heap.size := (Array.getElem?_eq_some_iff.1 hb2).1
              replace hr3 := hr3.ups (Ups.trans (up1 _ _) ub10)
              replace hb3 := block_ups hb3 (Ups.trans (up1 _ _) ub10)
              have lt3_10 : w6.heap.size < w10.heap.size := (Array.getElem?_eq_some_iff.1 hb3).1
              replace hr4 := hr4.ups (Ups.trans (up1 _ _) ub10)
              replace hb4 := block_ups hb4 (Ups.trans (up1 _ _) ub10)
              have lt4_10 : w7.heap.size < w10.heap.size := (Array.getElem?_eq_some_iff.1 hb4).1
              replace hr5 := hr5.ups (Ups.trans (up1 _ _) ub10)
              replace hb5 := block_ups hb5 (Ups.trans (up1 _ _) ub10)
              have lt5_10 : w8.heap.size < w10.heap.size := (Array.getElem?_eq_some_iff.1 hb5).1
              replace hr6 := hr6.ups (Ups.trans (up1 _ _) ub10)
              replace hb6 := block_ups hb6 ub10
              have lt6_10 : w9.heap.size < w10.heap.size := (Array.getElem?_eq_some_iff.1 hb6).1
              replace uw := Ups.trans uw (Ups.trans (up1 _ _) ub10)
              clear uu
              have hc := rsame_calls K K _ _ w10 (hr3.ups (Ups.refl _)) (hr4.ups (Ups.refl _)) (by have := LK.out; have := n12.out; omega) (by have := LK.out; have := n12.out; omega)
              rw [sameB_refl] at hc
              obtain ⟨k30, k31, k32, k33, k34⟩ := block_cells hb3
              obtain ⟨k40, k41, k42, k43, k44⟩ := block_cells hb4
              go_wp2_with fail
              refine hc.mono ?_
              clear hc
              rintro e w11 ⟨rfl, uu⟩
              clear k30 k31 k32 k33 k34 k40 k41 k42 k43 k44
              have ub11 : Ups w10 w11 := uu
              replace hrf := hrf.ups (Ups.trans (Ups.refl _) ub11)
              replace hbf := block_ups hbf (Ups.trans (Ups.refl _) ub11)
              have ltf_11 : w.heap.size < w11.heap.size := (Array.getElem?_eq_some_iff.1 hbf).1
              replace hro := hro.ups (Ups.trans (Ups.refl _) ub11)
              replace hbo := block_ups hbo (Ups.trans (Ups.refl _) ub11)
              have lto_11 : w.heap.size + 1 < w11.heap.size := (Array.getElem?_eq_some_iff.1 hbo).1
              replace hr1 := hr1.ups (Ups.trans (Ups.refl _) ub11)
              replace hb1 := block_ups hb1 (Ups.trans (Ups.refl _) ub11)
              have lt1_11 : w4.heap.size < w11.heap.size := (Array.getElem?_eq_some_iff.1 hb1).1
              replace hr2 := hr2.ups (Ups.trans (Ups.refl _) ub11)
              replace hb2 := block_ups hb2 (Ups.trans (Ups.refl _) ub11)
              have lt2_11 : w5.heap.size < w11.heap.size := (Array.getElem?_eq_some_iff.1 hb2).1
              replace hr3 := hr3.ups (Ups.trans (Ups.refl _) ub11)
              replace hb3 := block_ups hb3 (Ups.trans (Ups.refl _) ub11)
              have lt3_11 : w6.heap.size < w11.heap.size := (Array.getElem?_eq_some_iff.1 hb3).1
              replace hr4 := hr4.ups (Ups.trans (Ups.refl _) ub11)
              replace hb4 := block_ups hb4 (Ups.trans (Ups.refl _) ub11)
              have lt4_11 : w7.heap.size < w11.heap.size := (Array.getElem?_eq_some_iff.1 hb4).1
              replace hr5 := hr5.ups (Ups.trans (Ups.refl _) ub11)
              replace hb5 := block_ups hb5 (Ups.trans (Ups.refl _) ub11)
              have lt5_11 : w8.heap.size < w11.heap.size := (Array.getElem?_eq_some_iff.1 hb5).1
              replace hr6 := hr6.ups (Ups.trans (Ups.refl _) ub11)
              replace hb6 := block_ups hb6 (Ups.trans (Ups.refl _) ub11)
              have lt6_11 : w9.heap.size < w11.heap.size := (Array.getElem?_eq_some_iff.1 hb6).1
              replace uw := Ups.trans uw (Ups.trans (Ups.refl _) ub11)
              clear uu
              have hc := rsame_calls R R _ _ w11 (hr5.ups (Ups.refl _)) (hr6.ups (Ups.refl _)) (by have := LR.out; have := n12.out; omega) (by have := LR.out; have := n12.out; omega)
              rw [sameB_refl] at hc
              obtain ⟨k50, k51, k52, k53, k54⟩ := block_cells hb5
              obtain ⟨k60, k61, k62, k63, k64⟩ := block_cells hb6
              go_wp2_with fail
              refine hc.mono ?_
              clear hc
              rintro e w12 ⟨rfl, uu⟩
              clear k50 k51 k52 k53 k54 k60 k61 k62 k63 k64
              have ub12 : Ups w11 w12 := uu
              replace hrf := hrf.ups (Ups.trans (Ups.refl _) ub12)
              replace hbf := block_ups hbf (Ups.trans (Ups.refl _) ub12)
              have ltf_12 : w.heap.size < w12.heap.size := (Array.getElem?_eq_some_iff.1 hbf).1
              replace hro := hro.ups (Ups.trans (Ups.refl _) ub12)
              replace hbo := block_ups hbo (Ups.trans (Ups.refl _) ub12)
              have lto_12 : w.heap.size + 1 < w12.heap.size := (Array.getElem?_eq_some_iff.1 hbo).1
              replace hr1 := hr1.ups (Ups.trans (Ups.refl _) ub12)
              replace hb1 := block_ups hb1 (Ups.trans (Ups.refl _) ub12)
              have lt1_12 : w4.heap.size < w12.heap.size := (Array.getElem?_eq_some_iff.1 hb1).1
              replace hr2 := hr2.ups (Ups.trans (Ups.refl _) ub12)
              replace hb2 := block_ups hb2 (Ups.trans (Ups.refl _) ub12)
              have lt2_12 : w5.heap.size < w12.heap.size := (Array.getElem?_eq_some_iff.1 hb2).1
              replace hr3 := hr3.ups (Ups.trans (Ups.refl _) ub12)
              replace hb3 := block_ups hb3 (Ups.trans (Ups.refl _) ub12)
              have lt3_12 : w6.heap.size < w12.heap.size := (Array.getElem?_eq_some_iff.1 hb3).1
              replace hr4 := hr4.ups (Ups.trans (Ups.refl _) ub12)
              replace hb4 := block_ups hb4 (Ups.trans (Ups.refl _) ub12)
              have lt4_12 : w7.heap.size < w12.heap.size := (Array.getElem?_eq_some_iff.1 hb4).1
              replace hr5 := hr5.ups (Ups.trans (Ups.refl _) ub12)
              replace hb5 := block_ups hb5 (Ups.trans (Ups.refl _) ub12)
              have lt5_12 : w8.heap.size < w12.heap.size := (Array.getElem?_eq_some_iff.1 hb5).1
              replace hr6 := hr6.ups (Ups.trans (Ups.refl _) ub12)
              replace hb6 := block_ups hb6 (Ups.trans (Ups.refl _) ub12)
              have lt6_12 : w9.heap.size < w12.heap.size := (Array.getElem?_eq_some_iff.1 hb6).1
              replace uw := Ups.trans uw (Ups.trans (Ups.refl _) ub12)
              clear uu
              have hc := rcheck_calls f _ w12 (hrf.ups (Ups.refl _)) hf
              obtain ⟨kf0, kf1, kf2, kf3, kf4⟩ := block_cells hbf
              go_wp2_with fail
              refine hc.mono ?_
              clear hc
              rintro e w13 ⟨rfl, uu⟩
              clear kf0 kf1 kf2 kf3 kf4
              have ub13 : Ups w12 w13 := uu
              replace hrf := hrf.ups (Ups.trans (Ups.refl _) ub13)
              replace hbf := block_ups hbf (Ups.trans (Ups.refl _) ub13)
              have ltf_13 : w.heap.size < w13.heap.size := (Array.getElem?_eq_some_iff.1 hbf).1
              replace hro := hro.ups (Ups.trans (Ups.refl _) ub13)
              replace hbo := block_ups hbo (Ups.trans (Ups.refl _) ub13)
              have lto_13 : w.heap.size + 1 < w13.heap.size := (Array.getElem?_eq_some_iff.1 hbo).1
              replace hr1 := hr1.ups (Ups.trans (Ups.refl _) ub13)
              replace hb1 := block_ups hb1 (Ups.trans (Ups.refl _) ub13)
              have lt1_13 : w4.heap.size < w13.heap.size := (Array.getElem?_eq_some_iff.1 hb1).1
              replace hr2 := hr2.ups (Ups.trans (Ups.refl _) ub13)
              replace hb2 := block_ups hb2 (Ups.trans (Ups.refl _) ub13)
              have lt2_13 : w5.heap.size < w13.heap.size := (Array.getElem?_eq_some_iff.1 hb2).1
              replace hr3 := hr3.ups (Ups.trans (Ups.refl _) ub13)
              replace hb3 := block_ups hb3 (Ups.trans (Ups.refl _) ub13)
              have lt3_13 : w6.heap.size < w13.heap.size := (Array.getElem?_eq_some_iff.1 hb3).1
              replace hr4 := hr4.ups (Ups.trans (Ups.refl _) ub13)
              replace hb4 := block_ups hb4 (Ups.trans (Ups.refl _) ub13)
              have lt4_13 : w7.heap.size < w13.heap.size := (Array.getElem?_eq_some_iff.1 hb4).1
              replace hr5 := hr5.ups (Ups.trans (Ups.refl _) ub13)
              replace hb5 := block_ups hb5 (Ups.trans (Ups.refl _) ub13)
              have lt5_13 : w8.heap.size < w13.heap.size := (Array.getElem?_eq_some_iff.1 hb5).1
              replace hr6 := hr6.ups (Ups.trans (Ups.refl _) ub13)
              replace hb6 := block_ups hb6 (Ups.trans (Ups.refl _) ub13)
              have lt6_13 : w9.heap.size < w13.heap.size := (Array.getElem?_eq_some_iff.1 hb6).1
              replace uw := Ups.trans uw (Ups.trans (Ups.refl _) ub13)
              clear uu
              have hc := rfree_calls f _ n w13 (hrf.ups (Ups.refl _)) hf
              obtain ⟨kf0, kf1, kf2, kf3, kf4⟩ := block_cells hbf
              go_wp2_with fail
              refine hc.mono ?_
              clear hc
              rintro e w14 ⟨rfl, uu⟩
              clear kf0 kf1 kf2 kf3 kf4
              have ub14 : Ups w13 w14 := uu
              replace hrf := hrf.ups (Ups.trans (Ups.refl _) ub14)
              replace hbf := block_ups hbf (Ups.trans (Ups.refl _) ub14)
              have ltf_14 : w.heap.size < w14.heap.size := (Array.getElem?_eq_some_iff.1 hbf).1
              replace hro := hro.ups (Ups.trans (Ups.refl _) ub14)
              replace hbo := block_ups hbo (Ups.trans (Ups.refl _) ub14)
              have lto_14 : w.heap.size + 1 < w14.heap.size := (Array.getElem?_eq_some_iff.1 hbo).1
              replace hr1 := hr1.ups (Ups.trans (Ups.refl _) ub14)
              replace hb1 := block_ups hb1 (Ups.trans (Ups.refl _) ub14)
              have lt1_14 : w4.heap.size < w14.heap.size := (Array.getElem?_eq_some_iff.1 hb1).1
              replace hr2 := hr2.ups (Ups.trans (Ups.refl _) ub14)
              replace hb2 := block_ups hb2 (Ups.trans (Ups.refl _) ub14)
              have lt2_14 : w5.heap.size < w14.heap.size := (Array.getElem?_eq_some_iff.1 hb2).1
              replace hr3 := hr3.ups (Ups.trans (Ups.refl _) ub14)
              replace hb3 := block_ups hb3 (Ups.trans (Ups.refl _) ub14)
              have lt3_14 : w6.heap.size < w14.heap.size := (Array.getElem?_eq_some_iff.1 hb3).1
              replace hr4 := hr4.ups (Ups.trans (Ups.refl _) ub14)
              replace hb4 := block_ups hb4 (Ups.trans (Ups.refl _) ub14)
              have lt4_14 : w7.heap.size < w14.heap.size := (Array.getElem?_eq_some_iff.1 hb4).1
              replace hr5 := hr5.ups (Ups.trans (Ups.refl _) ub14)
              replace hb5 := block_ups hb5 (Ups.trans (Ups.refl _) ub14)
              have lt5_14 : w8.heap.size < w14.heap.size := (Array.getElem?_eq_some_iff.1 hb5).1
              replace hr6 := hr6.ups (Ups.trans (Ups.refl _) ub14)
              replace hb6 := block_ups hb6 (Ups.trans (Ups.refl _) ub14)
              have lt6_14 : w9.heap.size < w14.heap.size := (Array.getElem?_eq_some_iff.1 hb6).1
              replace uw := Ups.trans uw (Ups.trans (Ups.refl _) ub14)
              clear uu
              have hc := rsame_calls f o _ _ w14 (hrf.ups (Ups.refl _)) (hro.ups (Ups.refl _)) (by have := n12.out; omega) (by have := n12.out; omega)
              obtain ⟨kf0, kf1, kf2, kf3, kf4⟩ := block_cells hbf
              obtain ⟨ko0, ko1, ko2, ko3, ko4⟩ := block_cells hbo
              go_wp2_with fail
              refine hc.mono ?_
              clear hc
              rintro e w15 ⟨rfl, uu⟩
              clear kf0 kf1 kf2 kf3 kf4 ko0 ko1 ko2 ko3 ko4
              have ub15 : Ups w14 w15 := uu
              replace hrf := hrf.ups (Ups.trans (Ups.refl _) ub15)
              replace hbf := block_ups hbf (Ups.trans (Ups.refl _) ub15)
              have ltf_15 : w.heap.size < w15.heap.size := (Array.getElem?_eq_some_iff.1 hbf).1
              replace hro := hro.ups (Ups.trans (Ups.refl _) ub15)
              replace hbo := block_ups hbo (Ups.trans (Ups.refl _) ub15)
              have lto_15 : w.heap.size + 1 < w15.heap.size := (Array.getElem?_eq_some_iff.1 hbo).1
              replace hr1 := hr1.ups (Ups.trans (Ups.refl _) ub15)
              replace hb1 := block_ups hb1 (Ups.trans (Ups.refl _) ub15)
              have lt1_15 : w4.heap.size < w15.heap.size := (Array.getElem?_eq_some_iff.1 hb1).1
              replace hr2 := hr2.ups (Ups.trans (Ups.refl _) ub15)
              replace hb2 := block_ups hb2 (Ups.trans (Ups.refl _) ub15)
              have lt2_15 : w5.heap.size < w15.heap.size := (Array.getElem?_eq_some_iff.1 hb2).1
              replace hr3 := hr3.ups (Ups.trans (Ups.refl _) ub15)
              replace hb3 := block_ups hb3 (Ups.trans (Ups.refl _) ub15)
              have lt3_15 : w6.heap.size < w15.heap.size := (Array.getElem?_eq_some_iff.1 hb3).1
              replace hr4 := hr4.ups (Ups.trans (Ups.refl _) ub15)
              replace hb4 := block_ups hb4 (Ups.trans (Ups.refl _) ub15)
              have lt4_15 : w7.heap.size < w15.heap.size := (Array.getElem?_eq_some_iff.1 hb4).1
              replace hr5 := hr5.ups (Ups.trans (Ups.refl _) ub15)
              replace hb5 := block_ups hb5 (Ups.trans (Ups.refl _) ub15)
              have lt5_15 : w8.heap.size < w15.heap.size := (Array.getElem?_eq_some_iff.1 hb5).1
              replace hr6 := hr6.ups (Ups.trans (Ups.refl _) ub15)
              replace hb6 := block_ups hb6 (Ups.trans (Ups.refl _) ub15)
              have lt6_15 : w9.heap.size < w15.heap.size := (Array.getElem?_eq_some_iff.1 hb6).1
              replace uw := Ups.trans uw (Ups.trans (Ups.refl _) ub15)
              clear uu
              cases hcb : checkB f with
              | false =>
                have hc := check_calls f _ w15 (hrf.ups (Ups.refl _)) hf.1 hf.2.1
                simp only [hcb, if_true, Bool.false_eq_true, if_false] at hc
                obtain ⟨kf0, kf1, kf2, kf3, kf4⟩ := block_cells hbf
                go_wp2_with fail
                refine hc.mono ?_
                clear hc
                rintro e w16 ⟨rfl, uu⟩
                clear kf0 kf1 kf2 kf3 kf4
                have ub16 : Ups w15 w16 := uu
                replace hrf := hrf.ups (Ups.trans (Ups.refl _) ub16)
                replace hbf := block_ups hbf (Ups.trans (Ups.refl _) ub16)
                have ltf_16 : w.heap.size < w16.heap.size := (Array.getElem?_eq_some_iff.1 hbf).1
                replace hro := hro.ups (Ups.trans (Ups.refl _) ub16)
                replace hbo := block_ups hbo (Ups.trans (Ups.refl _) ub16)
                have lto_16 : w.heap.size + 1 < w16.heap.size := (Array.getElem?_eq_some_iff.1 hbo).1
                replace hr1 := hr1.ups (Ups.trans (Ups.refl _) ub16)
                replace hb1 := block_ups hb1 (Ups.trans (Ups.refl _) ub16)
                have lt1_16 : w4.heap.size < w16.heap.size := (Array.getElem?_eq_some_iff.1 hb1).1
                replace hr2 := hr2.ups (Ups.trans (Ups.refl _) ub16)
                replace hb2 := block_ups hb2 (Ups.trans (Ups.refl _) ub16)
                have lt2_16 : w5.heap.size < w16.heap.size := (Array.getElem?_eq_some_iff.1 hb2).1
                replace hr3 := hr3.ups (Ups.trans (Ups.refl _) ub16)
                replace hb3 := block_ups hb3 (Ups.trans (Ups.refl _) ub16)
                have lt3_16 : w6.heap.size < w16.heap.size := (Array.getElem?_eq_some_iff.1 hb3).1
                replace hr4 := hr4.ups (Ups.trans (Ups.refl _) ub16)
                replace hb4 := block_ups hb4 (Ups.trans (Ups.refl _) ub16)
                have lt4_16 : w7.heap.size < w16.heap.size := (Array.getElem?_eq_some_iff.1 hb4).1
                replace hr5 := hr5.ups (Ups.trans (Ups.refl _) ub16)
                replace hb5 := block_ups hb5 (Ups.trans (Ups.refl _) ub16)
                have lt5_16 : w8.heap.size < w16.heap.size := (Array.getElem?_eq_some_iff.1 hb5).1
                replace hr6 := hr6.ups (Ups.trans (Ups.refl _) ub16)
                replace hb6 := block_ups hb6 (Ups.trans (Ups.refl _) ub16)
                have lt6_16 : w9.heap.size < w16.heap.size := (Array.getElem?_eq_some_iff.1 hb6).1
                replace uw := Ups.trans uw (Ups.trans (Ups.refl _) ub16)
                clear uu
                have hc := free_calls f _ n w16 (hrf.ups (Ups.refl _)) hf
                obtain ⟨kf0, kf1, kf2, kf3, kf4⟩ := block_cells hbf
                go_wp2_with fail
                refine hc.mono ?_
                clear hc
                rintro e w17 ⟨rfl, uu⟩
                clear kf0 kf1 kf2 kf3 kf4
                have ub17 : Ups w16 w17 := uu
                replace hrf := hrf.ups (Ups.trans (Ups.refl _) ub17)
                replace hbf := block_ups hbf (Ups.trans (Ups.refl _) ub17)
                have ltf_17 : w.heap.size < w17.heap.size := (Array.getElem?_eq_some_iff.1 hbf).1
                replace hro := hro.ups (Ups.trans (Ups.refl _) ub17)
                replace hbo := block_ups hbo (Ups.trans (Ups.refl _) ub17)
                have lto_17 : w.heap.size + 1 < w17.heap.size := (Array.getElem?_eq_some_iff.1 hbo).1
                replace hr1 := hr1.ups (Ups.trans (Ups.refl _) ub17)
                replace hb1 := block_ups hb1 (Ups.trans (Ups.refl _) ub17)
                have lt1_17 : w4.heap.size < w17.heap.size := (Array.getElem?_eq_some_iff.1 hb1).1
                replace hr2 := hr2.ups (Ups.trans (Ups.refl _) ub17)
                replace hb2 := block_ups hb2 (Ups.trans (Ups.refl _) ub17)
                have lt2_17 : w5.heap.size < w17.heap.size := (Array.getElem?_eq_some_iff.1 hb2).1
                replace hr3 := hr3.ups (Ups.trans (Ups.refl _) ub17)
                replace hb3 := block_ups hb3 (Ups.trans (Ups.refl _) ub17)
                have lt3_17 : w6.heap.size < w17.heap.size := (Array.getElem?_eq_some_iff.1 hb3).1
                replace hr4 := hr4.ups (Ups.trans (Ups.refl _) ub17)
                replace hb4 := block_ups hb4 (Ups.trans (Ups.refl _) ub17)
                have lt4_17 : w7.heap.size < w17.heap.size := (Array.getElem?_eq_some_iff.1 hb4).1
                replace hr5 := hr5.ups (Ups.trans (Ups.refl _) ub17)
                replace hb5 := block_ups hb5 (Ups.trans (Ups.refl _) ub17)
                have lt5_17 : w8.heap.size < w17.heap.size := (Array.getElem?_eq_some_iff.1 hb5).1
                replace hr6 := hr6.ups (Ups.trans (Ups.refl _) ub17)
                replace hb6 := block_ups hb6 (Ups.trans (Ups.refl _) ub17)
                have lt6_17 : w9.heap.size < w17.heap.size := (Array.getElem?_eq_some_iff.1 hb6).1
                replace uw := Ups.trans uw (Ups.trans (Ups.refl _) ub17)
                clear uu
                have hc := same_calls f o _ _ w17 (hrf.ups (Ups.refl _)) (hro.ups (Ups.refl _)) (by have := n12.out; omega) (by have := n34.out; omega) (by have := n12.out; omega) (by have := n34.out; omega)
                obtain ⟨kf0, kf1, kf2, kf3, kf4⟩ := block_cells hbf
                obtain ⟨ko0, ko1, ko2, ko3, ko4⟩ := block_cells hbo
                go_wp2_with fail
                refine hc.mono ?_
                clear hc
                rintro e w18 ⟨rfl, uu⟩
                clear kf0 kf1 kf2 kf3 kf4 ko0 ko1 ko2 ko3 ko4
                have ub18 : Ups w17 w18 := uu
                replace hrf := hrf.ups (Ups.trans (Ups.refl _) ub18)
                replace hbf := block_ups hbf (Ups.trans (Ups.refl _) ub18)
                have ltf_18 : w.heap.size < w18.heap.size := (Array.getElem?_eq_some_iff.1 hbf).1
                replace hro := hro.ups (Ups.trans (Ups.refl _) ub18)
                replace hbo := block_ups hbo (Ups.trans (Ups.refl _) ub18)
                have lto_18 : w.heap.size + 1 < w18.heap.size := (Array.getElem?_eq_some_iff.1 hbo).1
                replace hr1 := hr1.ups (Ups.trans (Ups.refl _) ub18)
                replace hb1 := block_ups hb1 (Ups.trans (Ups.refl _) ub18)
                have lt1_18 : w4.heap.size < w18.heap.size := (Array.getElem?_eq_some_iff.1 hb1).1
                replace hr2 := hr2.ups (Ups.trans (Ups.refl _) ub18)
                replace hb2 := block_ups hb2 (Ups.trans (Ups.refl _) ub18)
                have lt2_18 : w5.heap.size < w18.heap.size := (Array.getElem?_eq_some_iff.1 hb2).1
                replace hr3 := hr3.ups (Ups.trans (Ups.refl _) ub18)
                replace hb3 := block_ups hb3 (Ups.trans (Ups.refl _) ub18)
                have lt3_18 : w6.heap.size < w18.heap.size := (Array.getElem?_eq_some_iff.1 hb3).1
                replace hr4 := hr4.ups (Ups.trans (Ups.refl _) ub18)
                replace hb4 := block_ups hb4 (Ups.trans (Ups.refl _) ub18)
                have lt4_18 : w7.heap.size < w18.heap.size := (Array.getElem?_eq_some_iff.1 hb4).1
                replace hr5 := hr5.ups (Ups.trans (Ups.refl _) ub18)
                replace hb5 := block_ups hb5 (Ups.trans (Ups.refl _) ub18)
                have lt5_18 : w8.heap.size < w18.heap.size := (Array.getElem?_eq_some_iff.1 hb5).1
                replace hr6 := hr6.ups (Ups.trans (Ups.refl _) ub18)
                replace hb6 := block_ups hb6 (Ups.trans (Ups.refl _) ub18)
                have lt6_18 : w9.heap.size < w18.heap.size := (Array.getElem?_eq_some_iff.1 hb6).1
                replace uw := Ups.trans uw (Ups.trans (Ups.refl _) ub18)
                clear uu
                go_wp2_with fail
                exact bodyPost_ret (v := .bool true) (results_one rfl rfl) rfl ⟨rfl, Ups.trans uw (Ups.refl _)⟩
              | true =>
                have hc := check_calls f _ w15 (hrf.ups (Ups.refl _)) hf.1 hf.2.1
                simp only [hcb, if_true, Bool.false_eq_true, if_false] at hc
                obtain ⟨kf0, kf1, kf2, kf3, kf4⟩ := block_cells hbf
                go_wp2_with fail
                refine hc.mono ?_
                clear hc
                rintro e w16 ⟨rfl, uu⟩
                clear kf0 kf1 kf2 kf3 kf4
                have ub16 : Ups w15 w16 := uu
                replace hrf := hrf.ups (Ups.trans (Ups.refl _) ub16)
                replace hbf := block_ups hbf (Ups.trans (Ups.refl _) ub16)
                have ltf_16 : w.heap.size < w16.heap.size := (Array.getElem?_eq_some_iff.1 hbf).1
                replace hro := hro.ups (Ups.trans (Ups.refl _) ub16)
                replace hbo := block_ups hbo (Ups.trans (Ups.refl _) ub16)
                have lto_16 : w.heap.size + 1 < w16.heap.size := (Array.getElem?_eq_some_iff.1 hbo).1
                replace hr1 := hr1.ups (Ups.trans (Ups.refl _) ub16)
                replace hb1 := block_ups hb1 (Ups.trans (Ups.refl _) ub16)
                have lt1_16 : w4.heap.size < w16.heap.size := (Array.getElem?_eq_some_iff.1 hb1).1
                replace hr2 := hr2.ups (Ups.trans (Ups.refl _) ub16)
                replace hb2 := block_ups hb2 (Ups.trans (Ups.refl _) ub16)
                have lt2_16 : w5.heap.size < w16.heap.size := (Array.getElem?_eq_some_iff.1 hb2).1
                replace hr3 := hr3.ups (Ups.trans (Ups.refl _) ub16)
                replace hb3 := block_ups hb3 (Ups.trans (Ups.refl _) ub16)
                have lt3_16 : w6.heap.size < w16.heap.size := (Array.getElem?_eq_some_iff.1 hb3).1
                replace hr4 := hr4.ups (Ups.trans (Ups.refl _) ub16)
                replace hb4 := block_ups hb4 (Ups.trans (Ups.refl _) ub16)
                have lt4_16 : w7.heap.size < w16.heap.size := (Array.getElem?_eq_some_iff.1 hb4).1
                replace hr5 := hr5.ups (Ups.trans (Ups.refl _) ub16)
                replace hb5 := block_ups hb5 (Ups.trans (Ups.refl _) ub16)
                have lt5_16 : w8.heap.size < w16.heap.size := (Array.getElem?_eq_some_iff.1 hb5).1
                replace hr6 := hr6.ups (Ups.trans (Ups.refl _) ub16)
                replace hb6 := block_ups hb6 (Ups.trans (Ups.refl _) ub16)
                have lt6_16 : w9.heap.size < w16.heap.size := (Array.getElem?_eq_some_iff.1 hb6).1
                replace uw := Ups.trans uw (Ups.trans (Ups.refl _) ub16)
                clear uu
                have hc := free_calls f _ n w16 (hrf.ups (Ups.refl _)) hf
                obtain ⟨kf0, kf1, kf2, kf3, kf4⟩ := block_cells hbf
                go_wp2_with fail
                refine hc.mono ?_
                clear hc
                rintro e w17 ⟨rfl, uu⟩
                clear kf0 kf1 kf2 kf3 kf4
                have ub17 : Ups w16 w17 := uu
                replace hrf := hrf.ups (Ups.trans (Ups.refl _) ub17)
                replace hbf := block_ups hbf (Ups.trans (Ups.refl _) ub17)
                have ltf_17 : w.heap.size < w17.heap.size := (Array.getElem?_eq_some_iff.1 hbf).1
                replace hro := hro.ups (Ups.trans (Ups.refl _) ub17)
                replace hbo := block_ups hbo (Ups.trans (Ups.refl _) ub17)
                have lto_17 : w.heap.size + 1 < w17.heap.size := (Array.getElem?_eq_some_iff.1 hbo).1
                replace hr1 := hr1.ups (Ups.trans (Ups.refl _) ub17)
                replace hb1 := block_ups hb1 (Ups.trans (Ups.refl _) ub17)
                have lt1_17 : w4.heap.size < w17.heap.size := (Array.getElem?_eq_some_iff.1 hb1).1
                replace hr2 := hr2.ups (Ups.trans (Ups.refl _) ub17)
                replace hb2 := block_ups hb2 (Ups.trans (Ups.refl _) ub17)
                have lt2_17 : w5.heap.size < w17.heap.size := (Array.getElem?_eq_some_iff.1 hb2).1
                replace hr3 := hr3.ups (Ups.trans (Ups.refl _) ub17)
                replace hb3 := block_ups hb3 (Ups.trans (Ups.refl _) ub17)
                have lt3_17 : w6.heap.size < w17.heap.size := (Array.getElem?_eq_some_iff.1 hb3).1
                replace hr4 := hr4.ups (Ups.trans (Ups.refl _) ub17)
                replace hb4 := block_ups hb4 (Ups.trans (Ups.refl _) ub17)
                have lt4_17 : w7.heap.size < w17.heap.size := (Array.getElem?_eq_some_iff.1 hb4).1
                replace hr5 := hr5.ups (Ups.trans (Ups.refl _) ub17)
                replace hb5 := block_ups hb5 (Ups.trans (Ups.refl _) ub17)
                have lt5_17 : w8.heap.size < w17.heap.size := (Array.getElem?_eq_some_iff.1 hb5).1
                replace hr6 := hr6.ups (Ups.trans (Ups.refl _) ub17)
                replace hb6 := block_ups hb6 (Ups.trans (Ups.refl _) ub17)
                have lt6_17 : w9.heap.size < w17.heap.size := (Array.getElem?_eq_some_iff.1 hb6).1
                replace uw := Ups.trans uw (Ups.trans (Ups.refl _) ub17)
                clear uu
                have hc := same_calls f o _ _ w17 (hrf.ups (Ups.refl _)) (hro.ups (Ups.refl _)) (by have := n12.out; omega) (by have := n34.out; omega) (by have := n12.out; omega) (by have := n34.out; omega)
                obtain ⟨kf0, kf1, kf2, kf3, kf4⟩ := block_cells hbf
                obtain ⟨ko0, ko1, ko2, ko3, ko4⟩ := block_cells hbo
                go_wp2_with fail
                refine hc.mono ?_
                clear hc
                rintro e w18 ⟨rfl, uu⟩
                clear kf0 kf1 kf2 kf3 kf4 ko0 ko1 ko2 ko3 ko4
                have ub18 : Ups w17 w18 := uu
                replace hrf := hrf.ups (Ups.trans (Ups.refl _) ub18)
                replace hbf := block_ups hbf (Ups.trans (Ups.refl _) ub18)
                have ltf_18 : w.heap.size < w18.heap.size := (Array.getElem?_eq_some_iff.1 hbf).1
                replace hro := hro.ups (Ups.trans (Ups.refl _) ub18)
                replace hbo := block_ups hbo (Ups.trans (Ups.refl _) ub18)
                have lto_18 : w.heap.size + 1 < w18.heap.size := (Array.getElem?_eq_some_iff.1 hbo).1
                replace hr1 := hr1.ups (Ups.trans (Ups.refl _) ub18)
                replace hb1 := block_ups hb1 (Ups.trans (Ups.refl _) ub18)
                have lt1_18 : w4.heap.size < w18.heap.size := (Array.getElem?_eq_some_iff.1 hb1).1
                replace hr2 := hr2.ups (Ups.trans (Ups.refl _) ub18)
                replace hb2 := block_ups hb2 (Ups.trans (Ups.refl _) ub18)
                have lt2_18 : w5.heap.size < w18.heap.size := (Array.getElem?_eq_some_iff.1 hb2).1
                replace hr3 := hr3.ups (Ups.trans (Ups.refl _) ub18)
                replace hb3 := block_ups hb3 (Ups.trans (Ups.refl _) ub18)
                have lt3_18 : w6.heap.size < w18.heap.size := (Array.getElem?_eq_some_iff.1 hb3).1
                replace hr4 := hr4.ups (Ups.trans (Ups.refl _) ub18)
                replace hb4 := block_ups hb4 (Ups.trans (Ups.refl _) ub18)
                have lt4_18 : w7.heap.size < w18.heap.size := (Array.getElem?_eq_some_iff.1 hb4).1
                replace hr5 := hr5.ups (Ups.trans (Ups.refl _) ub18)
                replace hb5 := block_ups hb5 (Ups.trans (Ups.refl _) ub18)
                have lt5_18 : w8.heap.size < w18.heap.size := (Array.getElem?_eq_some_iff.1 hb5).1
                replace hr6 := hr6.ups (Ups.trans (Ups.refl _) ub18)
                replace hb6 := block_ups hb6 (Ups.trans (Ups.refl _) ub18)
                have lt6_18 : w9.heap.size < w18.heap.size := (Array.getElem?_eq_some_iff.1 hb6).1
                replace uw := Ups.trans uw (Ups.trans (Ups.refl _) ub18)
                clear uu
                go_wp2_with fail
                exact bodyPost_ret (v := .bool true) (results_one rfl rfl) rfl ⟨rfl, Ups.trans uw (Ups.refl _)⟩
        · by_cases hm1 : (400 : Int) < m
          · by_cases hm2 : m ≤ (8192 : Int)
            · go_wp2_with fail
              exact bodyPost_ret (v := .bool true) (results_one rfl rfl) rfl ⟨rfl, Ups.trans uw (Ups.refl _)⟩
            · have hc := new_calls n m w3
              rw [hN] at hc
              go_wp2_with fail
              refine hc.mono ?_
              clear hc
              rintro e w4 ⟨v1, rfl, hr1, uu, _⟩
              have ub4 : Ups w3 w4 := uu
              replace hrf := hrf.ups (Ups.trans (Ups.refl _) ub4)
              replace hbf := block_ups hbf (Ups.trans (Ups.refl _) ub4)
              have ltf_4 : w.heap.size < w4.heap.size := (Array.getElem?_eq_some_iff.1 hbf).1
              replace hro := hro.ups (Ups.trans (Ups.refl _) ub4)
              replace hbo := block_ups hbo (Ups.trans (Ups.refl _) ub4)
              have lto_4 : w.heap.size + 1 < w4.heap.size := (Array.getElem?_eq_some_iff.1 hbo).1
              replace uw := Ups.trans uw (Ups.trans (Ups.refl _) ub4)
              clear uu
              have hs1 := hr1
              obtain ⟨_, _, rfl, ⟨a1, c1, rfl, _⟩, ⟨a'1, c'1, rfl, _⟩⟩ := hs1
              have hb1 : (w4.alloc (.cells #[.slice a1 N.pages.length c1, .slice a'1 N.wear.length c'1, .int .i64 N.fuse, .string N.torn, .bool N.dead] 25)).heap[w4.heap.size]? = some (.cells #[.slice a1 N.pages.length c1, .slice a'1 N.wear.length c'1, .int .i64 N.fuse, .string N.torn, .bool N.dead] 25) := alloc_at _ _
              have hc := rnew_calls n m (w4.alloc (.cells #[.slice a1 N.pages.length c1, .slice a'1 N.wear.length c'1, .int .i64 N.fuse, .string N.torn, .bool N.dead] 25))
              rw [hN] at hc
              go_wp2_with fail
              refine hc.mono ?_
              clear hc
              rintro e w5 ⟨v2, rfl, hr2, uu, _⟩
              have ub5 : Ups (w4.alloc (.cells #[.slice a1 N.pages.length c1, .slice a'1 N.wear.length c'1, .int .i64 N.fuse, .string N.torn, .bool N.dead] 25)) w5 := uu
              replace hrf := hrf.ups (Ups.trans (up1 _ _) ub5)
              replace hbf := block_ups hbf (Ups.trans (up1 _ _) ub5)
              have ltf_5 : w.heap.size < w5.heap.size := (Array.getElem?_eq_some_iff.1 hbf).1
              replace hro := hro.ups (Ups.trans (up1 _ _) ub5)
              replace hbo := block_ups hbo (Ups.trans (up1 _ _) ub5)
              have lto_5 : w.heap.size + 1 < w5.heap.size := (Array.getElem?_eq_some_iff.1 hbo).1
              replace hr1 := hr1.ups (Ups.trans (up1 _ _) ub5)
              replace hb1 := block_ups hb1 ub5
              have lt1_5 : w4.heap.size < w5.heap.size := (Array.getElem?_eq_some_iff.1 hb1).1
              replace uw := Ups.trans uw (Ups.trans (up1 _ _) ub5)
              clear uu
              have hs2 := hr2
              obtain ⟨_, _, rfl, ⟨a2, c2, rfl, _⟩, ⟨a'2, c'2, rfl, _⟩⟩ := hs2
              have hb2 : (w5.alloc (.cells #[.slice a2 N.pages.length c2, .slice a'2 N.wear.length c'2, .int .i64 N.fuse, .string N.torn, .bool N.dead] 25)).heap[w5.heap.size]? = some (.cells #[.slice a2 N.pages.length c2, .slice a'2 N.wear.length c'2, .int .i64 N.fuse, .string N.torn, .bool N.dead] 25) := alloc_at _ _
              have hc := wake_calls f _ n s (w5.alloc (.cells #[.slice a2 N.pages.length c2, .slice a'2 N.wear.length c'2, .int .i64 N.fuse, .string N.torn, .bool N.dead] 25)) (hrf.ups (up1 _ _)) hf
              rw [hK] at hc
              obtain ⟨kf0, kf1, kf2, kf3, kf4⟩ := block_cells hbf
              go_wp2_with fail
              refine hc.mono ?_
              clear hc
              rintro e w6 ⟨v3, rfl, hn⟩
              clear kf0 kf1 kf2 kf3 kf4
              have ub6 : Ups (w5.alloc (.cells #[.slice a2 N.pages.length c2, .slice a'2 N.wear.length c'2, .int .i64 N.fuse, .string N.torn, .bool N.dead] 25)) w6 := hn.ups
              replace hrf := hrf.ups (Ups.trans (up1 _ _) ub6)
              replace hbf := block_ups hbf (Ups.trans (up1 _ _) ub6)
              have ltf_6 : w.heap.size < w6.heap.size := (Array.getElem?_eq_some_iff.1 hbf).1
              replace hro := hro.ups (Ups.trans (up1 _ _) ub6)
              replace hbo := block_ups hbo (Ups.trans (up1 _ _) ub6)
              have lto_6 : w.heap.size + 1 < w6.heap.size := (Array.getElem?_eq_some_iff.1 hbo).1
              replace hr1 := hr1.ups (Ups.trans (up1 _ _) ub6)
              replace hb1 := block_ups hb1 (Ups.trans (up1 _ _) ub6)
              have lt1_6 : w4.heap.size < w6.heap.size := (Array.getElem?_eq_some_iff.1 hb1).1
              replace hr2 := hr2.ups (Ups.trans (up1 _ _) ub6)
              replace hb2 := block_ups hb2 ub6
              have lt2_6 : w5.heap.size < w6.heap.size := (Array.getElem?_eq_some_iff.1 hb2).1
              replace uw := Ups.trans uw (Ups.trans (up1 _ _) ub6)
              have hr3 := hn.reads
              clear hn
              have hs3 := hr3
              obtain ⟨_, _, rfl, ⟨a3, c3, rfl, _⟩, ⟨a'3, c'3, rfl, _⟩⟩ := hs3
              have hb3 : (w6.alloc (.cells #[.slice a3 K.pages.length c3, .slice a'3 K.wear.length c'3, .int .i64 K.fuse, .string K.torn, .bool K.dead] 25)).heap[w6.heap.size]? = some (.cells #[.slice a3 K.pages.length c3, .slice a'3 K.wear.length c'3, .int .i64 K.fuse, .string K.torn, .bool K.dead] 25) := alloc_at _ _
              have hc := rwake_calls f _ n s (w6.alloc (.cells #[.slice a3 K.pages.length c3, .slice a'3 K.wear.length c'3, .int .i64 K.fuse, .string K.torn, .bool K.dead] 25)) (hrf.ups (up1 _ _)) hf
              rw [hK] at hc
              obtain ⟨kf0, kf1, kf2, kf3, kf4⟩ := block_cells hbf
              go_wp2_with fail
              refine hc.mono ?_
              clear hc
              rintro e w7 ⟨v4, rfl, hn⟩
              clear kf0 kf1 kf2 kf3 kf4
              have ub7 : Ups (w6.alloc (.cells #[.slice a3 K.pages.length c3, .slice a'3 K.wear.length c'3, .int .i64 K.fuse, .string K.torn, .bool K.dead] 25)) w7 := hn.ups
              replace hrf := hrf.ups (Ups.trans (up1 _ _) ub7)
              replace hbf := block_ups hbf (Ups.trans (up1 _ _) ub7)
              have ltf_7 : w.heap.size < w7.heap.size := (Array.getElem?_eq_some_iff.1 hbf).1
              replace hro := hro.ups (Ups.trans (up1 _ _) ub7)
              replace hbo := block_ups hbo (Ups.trans (up1 _ _) ub7)
              have lto_7 : w.heap.size + 1 < w7.heap.size := (Array.getElem?_eq_some_iff.1 hbo).1
              replace hr1 := hr1.ups (Ups.trans (up1 _ _) ub7)
              replace hb1 := block_ups hb1 (Ups.trans (up1 _ _) ub7)
              have lt1_7 : w4.heap.size < w7.heap.size := (Array.getElem?_eq_some_iff.1 hb1).1
              replace hr2 := hr2.ups (Ups.trans (up1 _ _) ub7)
              replace hb2 := block_ups hb2 (Ups.trans (up1 _ _) ub7)
              have lt2_7 : w5.heap.size < w7.heap.size := (Array.getElem?_eq_some_iff.1 hb2).1
              replace hr3 := hr3.ups (Ups.trans (up1 _ _) ub7)
              replace hb3 := block_ups hb3 ub7
              have lt3_7 : w6.heap.size < w7.heap.size := (Array.getElem?_eq_some_iff.1 hb3).1
              replace uw := Ups.trans uw (Ups.trans (up1 _ _) ub7)
              have hr4 := hn.reads
              clear hn
              have hs4 := hr4
              obtain ⟨_, _, rfl, ⟨a4, c4, rfl, _⟩, ⟨a'4, c'4, rfl, _⟩⟩ := hs4
              have hb4 : (w7.alloc (.cells #[.slice a4 K.pages.length c4, .slice a'4 K.wear.length c'4, .int .i64 K.fuse, .string K.torn, .bool K.dead] 25)).heap[w7.heap.size]? = some (.cells #[.slice a4 K.pages.length c4, .slice a'4 K.wear.length c'4, .int .i64 K.fuse, .string K.torn, .bool K.dead] 25) := alloc_at _ _
              have hc := rot_calls f _ n m s (w7.alloc (.cells #[.slice a4 K.pages.length c4, .slice a'4 K.wear.length c'4, .int .i64 K.fuse, .string K.torn, .bool K.dead] 25)) (hrf.ups (up1 _ _)) hf hm
              rw [hR] at hc
              obtain ⟨kf0, kf1, kf2, kf3, kf4⟩ := block_cells hbf
              go_wp2_with fail
              refine hc.mono ?_
              clear hc
              rintro e w8 ⟨v5, rfl, hn⟩
              clear kf0 kf1 kf2 kf3 kf4
              have ub8 : Ups (w7.alloc (.cells #[.slice a4 K.pages.length c4, .slice a'4 K.wear.length c'4, .int .i64 K.fuse, .string K.torn, .bool K.dead] 25)) w8 := hn.ups
              replace hrf := hrf.ups (Ups.trans (up1 _ _) ub8)
              replace hbf := block_ups hbf (Ups.trans (up1 _ _) ub8)
              have ltf_8 : w.heap.size < w8.heap.size := (Array.getElem?_eq_some_iff.1 hbf).1
              replace hro := hro.ups (Ups.trans (up1 _ _) ub8)
              replace hbo := block_ups hbo (Ups.trans (up1 _ _) ub8)
              have lto_8 : w.heap.size + 1 < w8.heap.size := (Array.getElem?_eq_some_iff.1 hbo).1
              replace hr1 := hr1.ups (Ups.trans (up1 _ _) ub8)
              replace hb1 := block_ups hb1 (Ups.trans (up1 _ _) ub8)
              have lt1_8 : w4.heap.size < w8.heap.size := (Array.getElem?_eq_some_iff.1 hb1).1
              replace hr2 := hr2.ups (Ups.trans (up1 _ _) ub8)
              replace hb2 := block_ups hb2 (Ups.trans (up1 _ _) ub8)
              have lt2_8 : w5.heap.size < w8.heap.size := (Array.getElem?_eq_some_iff.1 hb2).1
              replace hr3 := hr3.ups (Ups.trans (up1 _ _) ub8)
              replace hb3 := block_ups hb3 (Ups.trans (up1 _ _) ub8)
              have lt3_8 : w6.heap.size < w8.heap.size := (Array.getElem?_eq_some_iff.1 hb3).1
              replace hr4 := hr4.ups (Ups.trans (up1 _ _) ub8)
              replace hb4 := block_ups hb4 ub8
              have lt4_8 : w7.heap.size < w8.heap.size := (Array.getElem?_eq_some_iff.1 hb4).1
              replace uw := Ups.trans uw (Ups.trans (up1 _ _) ub8)
              have hr5 := hn.reads
              clear hn
              have hs5 := hr5
              obtain ⟨_, _, rfl, ⟨a5, c5, rfl, _⟩, ⟨a'5, c'5, rfl, _⟩⟩ := hs5
              have hb5 : (w8.alloc (.cells #[.slice a5 R.pages.length c5, .slice a'5 R.wear.length c'5, .int .i64 R.fuse, .string R.torn, .bool R.dead] 25)).heap[w8.heap.size]? = some (.cells #[.slice a5 R.pages.length c5, .slice a'5 R.wear.length c'5, .int .i64 R.fuse, .string R.torn, .bool R.dead] 25) := alloc_at _ _
              have hc := rrot_calls f _ n m s (w8.alloc (.cells #[.slice a5 R.pages.length c5, .slice a'5 R.wear.length c'5, .int .i64 R.fuse, .string R.torn, .bool R.dead] 25)) (hrf.ups (up1 _ _)) hf hm
              rw [hR] at hc
              obtain ⟨kf0, kf1, kf2, kf3, kf4⟩ := block_cells hbf
              go_wp2_with fail
              refine hc.mono ?_
              clear hc
              rintro e w9 ⟨v6, rfl, hn⟩
              clear kf0 kf1 kf2 kf3 kf4
              have ub9 : Ups (w8.alloc (.cells #[.slice a5 R.pages.length c5, .slice a'5 R.wear.length c'5, .int .i64 R.fuse, .string R.torn, .bool R.dead] 25)) w9 := hn.ups
              replace hrf := hrf.ups (Ups.trans (up1 _ _) ub9)
              replace hbf := block_ups hbf (Ups.trans (up1 _ _) ub9)
              have ltf_9 : w.heap.size < w9.heap.size := (Array.getElem?_eq_some_iff.1 hbf).1
              replace hro := hro.ups (Ups.trans (up1 _ _) ub9)
              replace hbo := block_ups hbo (Ups.trans (up1 _ _) ub9)
              have lto_9 : w.heap.size + 1 < w9.heap.size := (Array.getElem?_eq_some_iff.1 hbo).1
              replace hr1 := hr1.ups (Ups.trans (up1 _ _) ub9)
              replace hb1 := block_ups hb1 (Ups.trans (up1 _ _) ub9)
              have lt1_9 : w4.heap.size < w9.heap.size := (Array.getElem?_eq_some_iff.1 hb1).1
              replace hr2 := hr2.ups (Ups.trans (up1 _ _) ub9)
              replace hb2 := block_ups hb2 (Ups.trans (up1 _ _) ub9)
              have lt2_9 : w5.heap.size < w9.heap.size := (Array.getElem?_eq_some_iff.1 hb2).1
              replace hr3 := hr3.ups (Ups.trans (up1 _ _) ub9)
              replace hb3 := block_ups hb3 (Ups.trans (up1 _ _) ub9)
              have lt3_9 : w6.heap.size < w9.heap.size := (Array.getElem?_eq_some_iff.1 hb3).1
              replace hr4 := hr4.ups (Ups.trans (up1 _ _) ub9)
              replace hb4 := block_ups hb4 (Ups.trans (up1 _ _) ub9)
              have lt4_9 : w7.heap.size < w9.heap.size := (Array.getElem?_eq_some_iff.1 hb4).1
              replace hr5 := hr5.ups (Ups.trans (up1 _ _) ub9)
              replace hb5 := block_ups hb5 ub9
              have lt5_9 : w8.heap.size < w9.heap.size := (Array.getElem?_eq_some_iff.1 hb5).1
              replace uw := Ups.trans uw (Ups.trans (up1 _ _) ub9)
              have hr6 := hn.reads
              clear hn
              have hs6 := hr6
              obtain ⟨_, _, rfl, ⟨a6, c6, rfl, _⟩, ⟨a'6, c'6, rfl, _⟩⟩ := hs6
              have hb6 : (w9.alloc (.cells #[.slice a6 R.pages.length c6, .slice a'6 R.wear.length c'6, .int .i64 R.fuse, .string R.torn, .bool R.dead] 25)).heap[w9.heap.size]? = some (.cells #[.slice a6 R.pages.length c6, .slice a'6 R.wear.length c'6, .int .i64 R.fuse, .string R.torn, .bool R.dead] 25) := alloc_at _ _
              have hc := rsame_calls N N _ _ (w9.alloc (.cells #[.slice a6 R.pages.length c6, .slice a'6 R.wear.length c'6, .int .i64 R.fuse, .string R.torn, .bool R.dead] 25)) (hr1.ups (up1 _ _)) (hr2.ups (up1 _ _)) (by have := LN.out; have := n12.out; omega) (by have := LN.out; have := n12.out; omega)
              rw [sameB_refl] at hc
              obtain ⟨k10, k11, k12, k13, k14⟩ := block_cells hb1
              obtain ⟨k20, k21, k22, k23, k24⟩ := block_cells hb2
              go_wp2_with fail
              refine hc.mono ?_
              clear hc
              rintro e w10 ⟨rfl, uu⟩
              clear k10 k11 k12 k13 k14 k20 k21 k22 k23 k24
              have ub10 : Ups (w9.alloc (.cells #[.slice a6 R.pages.length c6, .slice a'6 R.wear.length c'6, .int .i64 R.fuse, .string R.torn, .bool R.dead] 25)) w10 := uu
              replace hrf := hrf.ups (Ups.trans (up1 _ _) ub10)
              replace hbf := block_ups hbf (Ups.trans (up1 _ _) ub10)
              have ltf_10 : w.heap.size < w10.heap.size := (Array.getElem?_eq_some_iff.1 hbf).1
              replace hro := hro.ups (Ups.trans (up1 _ _) ub10)
              replace hbo := block_ups hbo (Ups.trans (up1 _ _) ub10)
              have lto_10 : w.heap.size + 1 < w10.heap.size := (Array.getElem?_eq_some_iff.1 hbo).1
              replace hr1 := hr1.ups (Ups.trans (up1 _ _) ub10)
              replace hb1 := block_ups hb1 (Ups.trans (up1 _ _) ub10)
              have lt1_10 : w4.heap.size < w10.heap.size := (Array.getElem?_eq_some_iff.1 hb1).1
              replace hr2 := hr2.ups (Ups.trans (up1 _ _) ub10)
              replace hb2 := block_ups hb2 (Ups.trans (up1 _ _) ub10)
              have lt2_10 : w5.heap.size < w10.heap.size := (Array.getElem?_eq_some_iff.1 hb2).1
              replace hr3 := hr3.ups (Ups.trans (up1 _ _) ub10)
              replace hb3 := block_ups hb3 (Ups.trans (up1 _ _) ub10)
              have lt3_10 : w6.heap.size < w10.heap.size := (Array.getElem?_eq_some_iff.1 hb3).1
              replace hr4 := hr4.ups (Ups.trans (up1 _ _) ub10)
              replace hb4 := block_ups hb4 (Ups.trans (up1 _ _) ub10)
              have lt4_10 : w7.heap.size < w10.heap.size := (Array.getElem?_eq_some_iff.1 hb4).1
              replace hr5 := hr5.ups (Ups.trans (up1 _ _) ub10)
              replace hb5 := block_ups hb5 (Ups.trans (up1 _ _) ub10)
              have lt5_10 : w8.heap.size < w10.heap.size := (Array.getElem?_eq_some_iff.1 hb5).1
              replace hr6 := hr6.ups (Ups.trans (up1 _ _) ub10)
              replace hb6 := block_ups hb6 ub10
              have lt6_10 : w9.heap.size < w10.heap.size := (Array.getElem?_eq_some_iff.1 hb6).1
              replace uw := Ups.trans uw (Ups.trans (up1 _ _) ub10)
              clear uu
              have hc := rsame_calls K K _ _ w10 (hr3.ups (Ups.refl _)) (hr4.ups (Ups.refl _)) (by have := LK.out; have := n12.out; omega) (by have := LK.out; have := n12.out; omega)
              rw [sameB_refl] at hc
              obtain ⟨k30, k31, k32, k33, k34⟩ := block_cells hb3
              obtain ⟨k40, k41, k42, k43, k44⟩ := block_cells hb4
              go_wp2_with fail
              refine hc.mono ?_
              clear hc
              rintro e w11 ⟨rfl, uu⟩
              clear k30 k31 k32 k33 k34 k40 k41 k42 k43 k44
              have ub11 : Ups w10 w11 := uu
              replace hrf := hrf.ups (Ups.trans (Ups.refl _) ub11)
              replace hbf := block_ups hbf (Ups.trans (Ups.refl _) ub11)
              have ltf_11 : w.heap.size < w11.heap.size := (Array.getElem?_eq_some_iff.1 hbf).1
              replace hro := hro.ups (Ups.trans (Ups.refl _) ub11)
              replace hbo := block_ups hbo (Ups.trans (Ups.refl _) ub11)
              have lto_11 : w.heap.size + 1 < w11.heap.size := (Array.getElem?_eq_some_iff.1 hbo).1
              replace hr1 := hr1.ups (Ups.trans (Ups.refl _) ub11)
              replace hb1 := block_ups hb1 (Ups.trans (Ups.refl _) ub11)
              have lt1_11 : w4.heap.size < w11.heap.size := (Array.getElem?_eq_some_iff.1 hb1).1
              replace hr2 := hr2.ups (Ups.trans (Ups.refl _) ub11)
              replace hb2 := block_ups hb2 (Ups.trans (Ups.refl _) ub11)
              have lt2_11 : w5.heap.size < w11.heap.size := (Array.getElem?_eq_some_iff.1 hb2).1
              replace hr3 := hr3.ups (Ups.trans (Ups.refl _) ub11)
              replace hb3 := block_ups hb3 (Ups.trans (Ups.refl _) ub11)
              have lt3_11 : w6.heap.size < w11.heap.size := (Array.getElem?_eq_some_iff.1 hb3).1
              replace hr4 := hr4.ups (Ups.trans (Ups.refl _) ub11)
              replace hb4 := block_ups hb4 (Ups.trans (Ups.refl _) ub11)
              have lt4_11 : w7.heap.size < w11.heap.size := (Array.getElem?_eq_some_iff.1 hb4).1
              replace hr5 := hr5.ups (Ups.trans (Ups.refl _) ub11)
              replace hb5 := block_ups hb5 (Ups.trans (Ups.refl _) ub11)
              have lt5_11 : w8.heap.size < w11.heap.size := (Array.getElem?_eq_some_iff.1 hb5).1
              replace hr6 := hr6.ups (Ups.trans (Ups.refl _) ub11)
              replace hb6 := block_ups hb6 (Ups.trans (Ups.refl _) ub11)
              have lt6_11 : w9.heap.size < w11.heap.size := (Array.getElem?_eq_some_iff.1 hb6).1
              replace uw := Ups.trans uw (Ups.trans (Ups.refl _) ub11)
              clear uu
              have hc := rsame_calls R R _ _ w11 (hr5.ups (Ups.refl _)) (hr6.ups (Ups.refl _)) (by have := LR.out; have := n12.out; omega) (by have := LR.out; have := n12.out; omega)
              rw [sameB_refl] at hc
              obtain ⟨k50, k51, k52, k53, k54⟩ := block_cells hb5
              obtain ⟨k60, k61, k62, k63, k64⟩ := block_cells hb6
              go_wp2_with fail
              refine hc.mono ?_
              clear hc
              rintro e w12 ⟨rfl, uu⟩
              clear k50 k51 k52 k53 k54 k60 k61 k62 k63 k64
              have ub12 : Ups w11 w12 := uu
              replace hrf := hrf.ups (Ups.trans (Ups.refl _) ub12)
              replace hbf := block_ups hbf (Ups.trans (Ups.refl _) ub12)
              have ltf_12 : w.heap.size < w12.heap.size := (Array.getElem?_eq_some_iff.1 hbf).1
              replace hro := hro.ups (Ups.trans (Ups.refl _) ub12)
              replace hbo := block_ups hbo (Ups.trans (Ups.refl _) ub12)
              have lto_12 : w.heap.size + 1 < w12.heap.size := (Array.getElem?_eq_some_iff.1 hbo).1
              replace hr1 := hr1.ups (Ups.trans (Ups.refl _) ub12)
              replace hb1 := block_ups hb1 (Ups.trans (Ups.refl _) ub12)
              have lt1_12 : w4.heap.size < w12.heap.size := (Array.getElem?_eq_some_iff.1 hb1).1
              replace hr2 := hr2.ups (Ups.trans (Ups.refl _) ub12)
              replace hb2 := block_ups hb2 (Ups.trans (Ups.refl _) ub12)
              have lt2_12 : w5.heap.size < w12.heap.size := (Array.getElem?_eq_some_iff.1 hb2).1
              replace hr3 := hr3.ups (Ups.trans (Ups.refl _) ub12)
              replace hb3 := block_ups hb3 (Ups.trans (Ups.refl _) ub12)
              have lt3_12 : w6.heap.size < w12.heap.size := (Array.getElem?_eq_some_iff.1 hb3).1
              replace hr4 := hr4.ups (Ups.trans (Ups.refl _) ub12)
              replace hb4 := block_ups hb4 (Ups.trans (Ups.refl _) ub12)
              have lt4_12 : w7.heap.size < w12.heap.size := (Array.getElem?_eq_some_iff.1 hb4).1
              replace hr5 := hr5.ups (Ups.trans (Ups.refl _) ub12)
              replace hb5 := block_ups hb5 (Ups.trans (Ups.refl _) ub12)
              have lt5_12 : w8.heap.size < w12.heap.size := (Array.getElem?_eq_some_iff.1 hb5).1
              replace hr6 := hr6.ups (Ups.trans (Ups.refl _) ub12)
              replace hb6 := block_ups hb6 (Ups.trans (Ups.refl _) ub12)
              have lt6_12 : w9.heap.size < w12.heap.size := (Array.getElem?_eq_some_iff.1 hb6).1
              replace uw := Ups.trans uw (Ups.trans (Ups.refl _) ub12)
              clear uu
              have hc := rcheck_calls f _ w12 (hrf.ups (Ups.refl _)) hf
              obtain ⟨kf0, kf1, kf2, kf3, kf4⟩ := block_cells hbf
              go_wp2_with fail
              refine hc.mono ?_
              clear hc
              rintro e w13 ⟨rfl, uu⟩
              clear kf0 kf1 kf2 kf3 kf4
              have ub13 : Ups w12 w13 := uu
              replace hrf := hrf.ups (Ups.trans (Ups.refl _) ub13)
              replace hbf := block_ups hbf (Ups.trans (Ups.refl _) ub13)
              have ltf_13 : w.heap.size < w13.heap.size := (Array.getElem?_eq_some_iff.1 hbf).1
              replace hro := hro.ups (Ups.trans (Ups.refl _) ub13)
              replace hbo := block_ups hbo (Ups.trans (Ups.refl _) ub13)
              have lto_13 : w.heap.size + 1 < w13.heap.size := (Array.getElem?_eq_some_iff.1 hbo).1
              replace hr1 := hr1.ups (Ups.trans (Ups.refl _) ub13)
              replace hb1 := block_ups hb1 (Ups.trans (Ups.refl _) ub13)
              have lt1_13 : w4.heap.size < w13.heap.size := (Array.getElem?_eq_some_iff.1 hb1).1
              replace hr2 := hr2.ups (Ups.trans (Ups.refl _) ub13)
              replace hb2 := block_ups hb2 (Ups.trans (Ups.refl _) ub13)
              have lt2_13 : w5.heap.size < w13.heap.size := (Array.getElem?_eq_some_iff.1 hb2).1
              replace hr3 := hr3.ups (Ups.trans (Ups.refl _) ub13)
              replace hb3 := block_ups hb3 (Ups.trans (Ups.refl _) ub13)
              have lt3_13 : w6.heap.size < w13.heap.size := (Array.getElem?_eq_some_iff.1 hb3).1
              replace hr4 := hr4.ups (Ups.trans (Ups.refl _) ub13)
              replace hb4 := block_ups hb4 (Ups.trans (Ups.refl _) ub13)
              have lt4_13 : w7.heap.size < w13.heap.size := (Array.getElem?_eq_some_iff.1 hb4).1
              replace hr5 := hr5.ups (Ups.trans (Ups.refl _) ub13)
              replace hb5 := block_ups hb5 (Ups.trans (Ups.refl _) ub13)
              have lt5_13 : w8.heap.size < w13.heap.size := (Array.getElem?_eq_some_iff.1 hb5).1
              replace hr6 := hr6.ups (Ups.trans (Ups.refl _) ub13)
              replace hb6 := block_ups hb6 (Ups.trans (Ups.refl _) ub13)
              have lt6_13 : w9.heap.size < w13.heap.size := (Array.getElem?_eq_some_iff.1 hb6).1
              replace uw := Ups.trans uw (Ups.trans (Ups.refl _) ub13)
              clear uu
              have hc := rfree_calls f _ n w13 (hrf.ups (Ups.refl _)) hf
              obtain ⟨kf0, kf1, kf2, kf3, kf4⟩ := block_cells hbf
              go_wp2_with fail
              refine hc.mono ?_
              clear hc
              rintro e w14 ⟨rfl, uu⟩
              clear kf0 kf1 kf2 kf3 kf4
              have ub14 : Ups w13 w14 := uu
              replace hrf := hrf.ups (Ups.trans (Ups.refl _) ub14)
              replace hbf := block_ups hbf (Ups.trans (Ups.refl _) ub14)
              have ltf_14 : w.heap.size < w14.heap.size := (Array.getElem?_eq_some_iff.1 hbf).1
              replace hro := hro.ups (Ups.trans (Ups.refl _) ub14)
              replace hbo := block_ups hbo (Ups.trans (Ups.refl _) ub14)
              have lto_14 : w.heap.size + 1 < w14.heap.size := (Array.getElem?_eq_some_iff.1 hbo).1
              replace hr1 := hr1.ups (Ups.trans (Ups.refl _) ub14)
              replace hb1 := block_ups hb1 (Ups.trans (Ups.refl _) ub14)
              have lt1_14 : w4.heap.size < w14.heap.size := (Array.getElem?_eq_some_iff.1 hb1).1
              replace hr2 := hr2.ups (Ups.trans (Ups.refl _) ub14)
              replace hb2 := block_ups hb2 (Ups.trans (Ups.refl _) ub14)
              have lt2_14 : w5.heap.size < w14.heap.size := (Array.getElem?_eq_some_iff.1 hb2).1
              replace hr3 := hr3.ups (Ups.trans (Ups.refl _) ub14)
              replace hb3 := block_ups hb3 (Ups.trans (Ups.refl _) ub14)
              have lt3_14 : w6.heap.size < w14.heap.size := (Array.getElem?_eq_some_iff.1 hb3).1
              replace hr4 := hr4.ups (Ups.trans (Ups.refl _) ub14)
              replace hb4 := block_ups hb4 (Ups.trans (Ups.refl _) ub14)
              have lt4_14 : w7.heap.size < w14.heap.size := (Array.getElem?_eq_some_iff.1 hb4).1
              replace hr5 := hr5.ups (Ups.trans (Ups.refl _) ub14)
              replace hb5 := block_ups hb5 (Ups.trans (Ups.refl _) ub14)
              have lt5_14 : w8.heap.size < w14.heap.size := (Array.getElem?_eq_some_iff.1 hb5).1
              replace hr6 := hr6.ups (Ups.trans (Ups.refl _) ub14)
              replace hb6 := block_ups hb6 (Ups.trans (Ups.refl _) ub14)
              have lt6_14 : w9.heap.size < w14.heap.size := (Array.getElem?_eq_some_iff.1 hb6).1
              replace uw := Ups.trans uw (Ups.trans (Ups.refl _) ub14)
              clear uu
              have hc := rsame_calls f o _ _ w14 (hrf.ups (Ups.refl _)) (hro.ups (Ups.refl _)) (by have := n12.out; omega) (by have := n12.out; omega)
              obtain ⟨kf0, kf1, kf2, kf3, kf4⟩ := block_cells hbf
              obtain ⟨ko0, ko1, ko2, ko3, ko4⟩ := block_cells hbo
              go_wp2_with fail
              refine hc.mono ?_
              clear hc
              rintro e w15 ⟨rfl, uu⟩
              clear kf0 kf1 kf2 kf3 kf4 ko0 ko1 ko2 ko3 ko4
              have ub15 : Ups w14 w15 := uu
              replace hrf := hrf.ups (Ups.trans (Ups.refl _) ub15)
              replace hbf := block_ups hbf (Ups.trans (Ups.refl _) ub15)
              have ltf_15 : w.heap.size < w15.heap.size := (Array.getElem?_eq_some_iff.1 hbf).1
              replace hro := hro.ups (Ups.trans (Ups.refl _) ub15)
              replace hbo := block_ups hbo (Ups.trans (Ups.refl _) ub15)
              have lto_15 : w.heap.size + 1 < w15.heap.size := (Array.getElem?_eq_some_iff.1 hbo).1
              replace hr1 := hr1.ups (Ups.trans (Ups.refl _) ub15)
              replace hb1 := block_ups hb1 (Ups.trans (Ups.refl _) ub15)
              have lt1_15 : w4.heap.size < w15.heap.size := (Array.getElem?_eq_some_iff.1 hb1).1
              replace hr2 := hr2.ups (Ups.trans (Ups.refl _) ub15)
              replace hb2 := block_ups hb2 (Ups.trans (Ups.refl _) ub15)
              have lt2_15 : w5.heap.size < w15.heap.size := (Array.getElem?_eq_some_iff.1 hb2).1
              replace hr3 := hr3.ups (Ups.trans (Ups.refl _) ub15)
              replace hb3 := block_ups hb3 (Ups.trans (Ups.refl _) ub15)
              have lt3_15 : w6.heap.size < w15.heap.size := (Array.getElem?_eq_some_iff.1 hb3).1
              replace hr4 := hr4.ups (Ups.trans (Ups.refl _) ub15)
              replace hb4 := block_ups hb4 (Ups.trans (Ups.refl _) ub15)
              have lt4_15 : w7.heap.size < w15.heap.size := (Array.getElem?_eq_some_iff.1 hb4).1
              replace hr5 := hr5.ups (Ups.trans (Ups.refl _) ub15)
              replace hb5 := block_ups hb5 (Ups.trans (Ups.refl _) ub15)
              have lt5_15 : w8.heap.size < w15.heap.size := (Array.getElem?_eq_some_iff.1 hb5).1
              replace hr6 := hr6.ups (Ups.trans (Ups.refl _) ub15)
              replace hb6 := block_ups hb6 (Ups.trans (Ups.refl _) ub15)
              have lt6_15 : w9.heap.size < w15.heap.size := (Array.getElem?_eq_some_iff.1 hb6).1
              replace uw := Ups.trans uw (Ups.trans (Ups.refl _) ub15)
              clear uu
              cases hcb : checkB f with
              | false =>
                have hc := check_calls f _ w15 (hrf.ups (Ups.refl _)) hf.1 hf.2.1
                simp only [hcb, if_true, Bool.false_eq_true, if_false] at hc
                obtain ⟨kf0, kf1, kf2, kf3, kf4⟩ := block_cells hbf
                go_wp2_with fail
                refine hc.mono ?_
                clear hc
                rintro e w16 ⟨rfl, uu⟩
                clear kf0 kf1 kf2 kf3 kf4
                have ub16 : Ups w15 w16 := uu
                replace hrf := hrf.ups (Ups.trans (Ups.refl _) ub16)
                replace hbf := block_ups hbf (Ups.trans (Ups.refl _) ub16)
                have ltf_16 : w.heap.size < w16.heap.size := (Array.getElem?_eq_some_iff.1 hbf).1
                replace hro := hro.ups (Ups.trans (Ups.refl _) ub16)
                replace hbo := block_ups hbo (Ups.trans (Ups.refl _) ub16)
                have lto_16 : w.heap.size + 1 < w16.heap.size := (Array.getElem?_eq_some_iff.1 hbo).1
                replace hr1 := hr1.ups (Ups.trans (Ups.refl _) ub16)
                replace hb1 := block_ups hb1 (Ups.trans (Ups.refl _) ub16)
                have lt1_16 : w4.heap.size < w16.heap.size := (Array.getElem?_eq_some_iff.1 hb1).1
                replace hr2 := hr2.ups (Ups.trans (Ups.refl _) ub16)
                replace hb2 := block_ups hb2 (Ups.trans (Ups.refl _) ub16)
                have lt2_16 : w5.heap.size < w16.heap.size := (Array.getElem?_eq_some_iff.1 hb2).1
                replace hr3 := hr3.ups (Ups.trans (Ups.refl _) ub16)
                replace hb3 := block_ups hb3 (Ups.trans (Ups.refl _) ub16)
                have lt3_16 : w6.heap.size < w16.heap.size := (Array.getElem?_eq_some_iff.1 hb3).1
                replace hr4 := hr4.ups (Ups.trans (Ups.refl _) ub16)
                replace hb4 := block_ups hb4 (Ups.trans (Ups.refl _) ub16)
                have lt4_16 : w7.heap.size < w16.heap.size := (Array.getElem?_eq_some_iff.1 hb4).1
                replace hr5 := hr5.ups (Ups.trans (Ups.refl _) ub16)
                replace hb5 := block_ups hb5 (Ups.trans (Ups.refl _) ub16)
                have lt5_16 : w8.heap.size < w16.heap.size := (Array.getElem?_eq_some_iff.1 hb5).1
                replace hr6 := hr6.ups (Ups.trans (Ups.refl _) ub16)
                replace hb6 := block_ups hb6 (Ups.trans (Ups.refl _) ub16)
                have lt6_16 : w9.heap.size < w16.heap.size := (Array.getElem?_eq_some_iff.1 hb6).1
                replace uw := Ups.trans uw (Ups.trans (Ups.refl _) ub16)
                clear uu
                have hc := free_calls f _ n w16 (hrf.ups (Ups.refl _)) hf
                obtain ⟨kf0, kf1, kf2, kf3, kf4⟩ := block_cells hbf
                go_wp2_with fail
                refine hc.mono ?_
                clear hc
                rintro e w17 ⟨rfl, uu⟩
                clear kf0 kf1 kf2 kf3 kf4
                have ub17 : Ups w16 w17 := uu
                replace hrf := hrf.ups (Ups.trans (Ups.refl _) ub17)
                replace hbf := block_ups hbf (Ups.trans (Ups.refl _) ub17)
                have ltf_17 : w.heap.size < w17.heap.size := (Array.getElem?_eq_some_iff.1 hbf).1
                replace hro := hro.ups (Ups.trans (Ups.refl _) ub17)
                replace hbo := block_ups hbo (Ups.trans (Ups.refl _) ub17)
                have lto_17 : w.heap.size + 1 < w17.heap.size := (Array.getElem?_eq_some_iff.1 hbo).1
                replace hr1 := hr1.ups (Ups.trans (Ups.refl _) ub17)
                replace hb1 := block_ups hb1 (Ups.trans (Ups.refl _) ub17)
                have lt1_17 : w4.heap.size < w17.heap.size := (Array.getElem?_eq_some_iff.1 hb1).1
                replace hr2 := hr2.ups (Ups.trans (Ups.refl _) ub17)
                replace hb2 := block_ups hb2 (Ups.trans (Ups.refl _) ub17)
                have lt2_17 : w5.heap.size < w17.heap.size := (Array.getElem?_eq_some_iff.1 hb2).1
                replace hr3 := hr3.ups (Ups.trans (Ups.refl _) ub17)
                replace hb3 := block_ups hb3 (Ups.trans (Ups.refl _) ub17)
                have lt3_17 : w6.heap.size < w17.heap.size := (Array.getElem?_eq_some_iff.1 hb3).1
                replace hr4 := hr4.ups (Ups.trans (Ups.refl _) ub17)
                replace hb4 := block_ups hb4 (Ups.trans (Ups.refl _) ub17)
                have lt4_17 : w7.heap.size < w17.heap.size := (Array.getElem?_eq_some_iff.1 hb4).1
                replace hr5 := hr5.ups (Ups.trans (Ups.refl _) ub17)
                replace hb5 := block_ups hb5 (Ups.trans (Ups.refl _) ub17)
                have lt5_17 : w8.heap.size < w17.heap.size := (Array.getElem?_eq_some_iff.1 hb5).1
                replace hr6 := hr6.ups (Ups.trans (Ups.refl _) ub17)
                replace hb6 := block_ups hb6 (Ups.trans (Ups.refl _) ub17)
                have lt6_17 : w9.heap.size < w17.heap.size := (Array.getElem?_eq_some_iff.1 hb6).1
                replace uw := Ups.trans uw (Ups.trans (Ups.refl _) ub17)
                clear uu
                have hc := same_calls f o _ _ w17 (hrf.ups (Ups.refl _)) (hro.ups (Ups.refl _)) (by have := n12.out; omega) (by have := n34.out; omega) (by have := n12.out; omega) (by have := n34.out; omega)
                obtain ⟨kf0, kf1, kf2, kf3, kf4⟩ := block_cells hbf
                obtain ⟨ko0, ko1, ko2, ko3, ko4⟩ := block_cells hbo
                go_wp2_with fail
                refine hc.mono ?_
                clear hc
                rintro e w18 ⟨rfl, uu⟩
                clear kf0 kf1 kf2 kf3 kf4 ko0 ko1 ko2 ko3 ko4
                have ub18 : Ups w17 w18 := uu
                replace hrf := hrf.ups (Ups.trans (Ups.refl _) ub18)
                replace hbf := block_ups hbf (Ups.trans (Ups.refl _) ub18)
                have ltf_18 : w.heap.size < w18.heap.size := (Array.getElem?_eq_some_iff.1 hbf).1
                replace hro := hro.ups (Ups.trans (Ups.refl _) ub18)
                replace hbo := block_ups hbo (Ups.trans (Ups.refl _) ub18)
                have lto_18 : w.heap.size + 1 < w18.heap.size := (Array.getElem?_eq_some_iff.1 hbo).1
                replace hr1 := hr1.ups (Ups.trans (Ups.refl _) ub18)
                replace hb1 := block_ups hb1 (Ups.trans (Ups.refl _) ub18)
                have lt1_18 : w4.heap.size < w18.heap.size := (Array.getElem?_eq_some_iff.1 hb1).1
                replace hr2 := hr2.ups (Ups.trans (Ups.refl _) ub18)
                replace hb2 := block_ups hb2 (Ups.trans (Ups.refl _) ub18)
                have lt2_18 : w5.heap.size < w18.heap.size := (Array.getElem?_eq_some_iff.1 hb2).1
                replace hr3 := hr3.ups (Ups.trans (Ups.refl _) ub18)
                replace hb3 := block_ups hb3 (Ups.trans (Ups.refl _) ub18)
                have lt3_18 : w6.heap.size < w18.heap.size := (Array.getElem?_eq_some_iff.1 hb3).1
                replace hr4 := hr4.ups (Ups.trans (Ups.refl _) ub18)
                replace hb4 := block_ups hb4 (Ups.trans (Ups.refl _) ub18)
                have lt4_18 : w7.heap.size < w18.heap.size := (Array.getElem?_eq_some_iff.1 hb4).1
                replace hr5 := hr5.ups (Ups.trans (Ups.refl _) ub18)
                replace hb5 := block_ups hb5 (Ups.trans (Ups.refl _) ub18)
                have lt5_18 : w8.heap.size < w18.heap.size := (Array.getElem?_eq_some_iff.1 hb5).1
                replace hr6 := hr6.ups (Ups.trans (Ups.refl _) ub18)
                replace hb6 := block_ups hb6 (Ups.trans (Ups.refl _) ub18)
                have lt6_18 : w9.heap.size < w18.heap.size := (Array.getElem?_eq_some_iff.1 hb6).1
                replace uw := Ups.trans uw (Ups.trans (Ups.refl _) ub18)
                clear uu
                go_wp2_with fail
                exact bodyPost_ret (v := .bool true) (results_one rfl rfl) rfl ⟨rfl, Ups.trans uw (Ups.refl _)⟩
              | true =>
                have hc := check_calls f _ w15 (hrf.ups (Ups.refl _)) hf.1 hf.2.1
                simp only [hcb, if_true, Bool.false_eq_true, if_false] at hc
                obtain ⟨kf0, kf1, kf2, kf3, kf4⟩ := block_cells hbf
                go_wp2_with fail
                refine hc.mono ?_
                clear hc
                rintro e w16 ⟨rfl, uu⟩
                clear kf0 kf1 kf2 kf3 kf4
                have ub16 : Ups w15 w16 := uu
                replace hrf := hrf.ups (Ups.trans (Ups.refl _) ub16)
                replace hbf := block_ups hbf (Ups.trans (Ups.refl _) ub16)
                have ltf_16 : w.heap.size < w16.heap.size := (Array.getElem?_eq_some_iff.1 hbf).1
                replace hro := hro.ups (Ups.trans (Ups.refl _) ub16)
                replace hbo := block_ups hbo (Ups.trans (Ups.refl _) ub16)
                have lto_16 : w.heap.size + 1 < w16.heap.size := (Array.getElem?_eq_some_iff.1 hbo).1
                replace hr1 := hr1.ups (Ups.trans (Ups.refl _) ub16)
                replace hb1 := block_ups hb1 (Ups.trans (Ups.refl _) ub16)
                have lt1_16 : w4.heap.size < w16.heap.size := (Array.getElem?_eq_some_iff.1 hb1).1
                replace hr2 := hr2.ups (Ups.trans (Ups.refl _) ub16)
                replace hb2 := block_ups hb2 (Ups.trans (Ups.refl _) ub16)
                have lt2_16 : w5.heap.size < w16.heap.size := (Array.getElem?_eq_some_iff.1 hb2).1
                replace hr3 := hr3.ups (Ups.trans (Ups.refl _) ub16)
                replace hb3 := block_ups hb3 (Ups.trans (Ups.refl _) ub16)
                have lt3_16 : w6.heap.size < w16.heap.size := (Array.getElem?_eq_some_iff.1 hb3).1
                replace hr4 := hr4.ups (Ups.trans (Ups.refl _) ub16)
                replace hb4 := block_ups hb4 (Ups.trans (Ups.refl _) ub16)
                have lt4_16 : w7.heap.size < w16.heap.size := (Array.getElem?_eq_some_iff.1 hb4).1
                replace hr5 := hr5.ups (Ups.trans (Ups.refl _) ub16)
                replace hb5 := block_ups hb5 (Ups.trans (Ups.refl _) ub16)
                have lt5_16 : w8.heap.size < w16.heap.size := (Array.getElem?_eq_some_iff.1 hb5).1
                replace hr6 := hr6.ups (Ups.trans (Ups.refl _) ub16)
                replace hb6 := block_ups hb6 (Ups.trans (Ups.refl _) ub16)
                have lt6_16 : w9.heap.size < w16.heap.size := (Array.getElem?_eq_some_iff.1 hb6).1
                replace uw := Ups.trans uw (Ups.trans (Ups.refl _) ub16)
                clear uu
                have hc := free_calls f _ n w16 (hrf.ups (Ups.refl _)) hf
                obtain ⟨kf0, kf1, kf2, kf3, kf4⟩ := block_cells hbf
                go_wp2_with fail
                refine hc.mono ?_
                clear hc
                rintro e w17 ⟨rfl, uu⟩
                clear kf0 kf1 kf2 kf3 kf4
                have ub17 : Ups w16 w17 := uu
                replace hrf := hrf.ups (Ups.trans (Ups.refl _) ub17)
                replace hbf := block_ups hbf (Ups.trans (Ups.refl _) ub17)
                have ltf_17 : w.heap.size < w17.heap.size := (Array.getElem?_eq_some_iff.1 hbf).1
                replace hro := hro.ups (Ups.trans (Ups.refl _) ub17)
                replace hbo := block_ups hbo (Ups.trans (Ups.refl _) ub17)
                have lto_17 : w.heap.size + 1 < w17.heap.size := (Array.getElem?_eq_some_iff.1 hbo).1
                replace hr1 := hr1.ups (Ups.trans (Ups.refl _) ub17)
                replace hb1 := block_ups hb1 (Ups.trans (Ups.refl _) ub17)
                have lt1_17 : w4.heap.size < w17.heap.size := (Array.getElem?_eq_some_iff.1 hb1).1
                replace hr2 := hr2.ups (Ups.trans (Ups.refl _) ub17)
                replace hb2 := block_ups hb2 (Ups.trans (Ups.refl _) ub17)
                have lt2_17 : w5.heap.size < w17.heap.size := (Array.getElem?_eq_some_iff.1 hb2).1
                replace hr3 := hr3.ups (Ups.trans (Ups.refl _) ub17)
                replace hb3 := block_ups hb3 (Ups.trans (Ups.refl _) ub17)
                have lt3_17 : w6.heap.size < w17.heap.size := (Array.getElem?_eq_some_iff.1 hb3).1
                replace hr4 := hr4.ups (Ups.trans (Ups.refl _) ub17)
                replace hb4 := block_ups hb4 (Ups.trans (Ups.refl _) ub17)
                have lt4_17 : w7.heap.size < w17.heap.size := (Array.getElem?_eq_some_iff.1 hb4).1
                replace hr5 := hr5.ups (Ups.trans (Ups.refl _) ub17)
                replace hb5 := block_ups hb5 (Ups.trans (Ups.refl _) ub17)
                have lt5_17 : w8.heap.size < w17.heap.size := (Array.getElem?_eq_some_iff.1 hb5).1
                replace hr6 := hr6.ups (Ups.trans (Ups.refl _) ub17)
                replace hb6 := block_ups hb6 (Ups.trans (Ups.refl _) ub17)
                have lt6_17 : w9.heap.size < w17.heap.size := (Array.getElem?_eq_some_iff.1 hb6).1
                replace uw := Ups.trans uw (Ups.trans (Ups.refl _) ub17)
                clear uu
                have hc := same_calls f o _ _ w17 (hrf.ups (Ups.refl _)) (hro.ups (Ups.refl _)) (by have := n12.out; omega) (by have := n34.out; omega) (by have := n12.out; omega) (by have := n34.out; omega)
                obtain ⟨kf0, kf1, kf2, kf3, kf4⟩ := block_cells hbf
                obtain ⟨ko0, ko1, ko2, ko3, ko4⟩ := block_cells hbo
                go_wp2_with fail
                refine hc.mono ?_
                clear hc
                rintro e w18 ⟨rfl, uu⟩
                clear kf0 kf1 kf2 kf3 kf4 ko0 ko1 ko2 ko3 ko4
                have ub18 : Ups w17 w18 := uu
                replace hrf := hrf.ups (Ups.trans (Ups.refl _) ub18)
                replace hbf := block_ups hbf (Ups.trans (Ups.refl _) ub18)
                have ltf_18 : w.heap.size < w18.heap.size := (Array.getElem?_eq_some_iff.1 hbf).1
                replace hro := hro.ups (Ups.trans (Ups.refl _) ub18)
                replace hbo := block_ups hbo (Ups.trans (Ups.refl _) ub18)
                have lto_18 : w.heap.size + 1 < w18.heap.size := (Array.getElem?_eq_some_iff.1 hbo).1
                replace hr1 := hr1.ups (Ups.trans (Ups.refl _) ub18)
                replace hb1 := block_ups hb1 (Ups.trans (Ups.refl _) ub18)
                have lt1_18 : w4.heap.size < w18.heap.size := (Array.getElem?_eq_some_iff.1 hb1).1
                replace hr2 := hr2.ups (Ups.trans (Ups.refl _) ub18)
                replace hb2 := block_ups hb2 (Ups.trans (Ups.refl _) ub18)
                have lt2_18 : w5.heap.size < w18.heap.size := (Array.getElem?_eq_some_iff.1 hb2).1
                replace hr3 := hr3.ups (Ups.trans (Ups.refl _) ub18)
                replace hb3 := block_ups hb3 (Ups.trans (Ups.refl _) ub18)
                have lt3_18 : w6.heap.size < w18.heap.size := (Array.getElem?_eq_some_iff.1 hb3).1
                replace hr4 := hr4.ups (Ups.trans (Ups.refl _) ub18)
                replace hb4 := block_ups hb4 (Ups.trans (Ups.refl _) ub18)
                have lt4_18 : w7.heap.size < w18.heap.size := (Array.getElem?_eq_some_iff.1 hb4).1
                replace hr5 := hr5.ups (Ups.trans (Ups.refl _) ub18)
                replace hb5 := block_ups hb5 (Ups.trans (Ups.refl _) ub18)
                have lt5_18 : w8.heap.size < w18.heap.size := (Array.getElem?_eq_some_iff.1 hb5).1
                replace hr6 := hr6.ups (Ups.trans (Ups.refl _) ub18)
                replace hb6 := block_ups hb6 (Ups.trans (Ups.refl _) ub18)
                have lt6_18 : w9.heap.size < w18.heap.size := (Array.getElem?_eq_some_iff.1 hb6).1
                replace uw := Ups.trans uw (Ups.trans (Ups.refl _) ub18)
                clear uu
                go_wp2_with fail
                exact bodyPost_ret (v := .bool true) (results_one rfl rfl) rfl ⟨rfl, Ups.trans uw (Ups.refl _)⟩
          · have hc := new_calls n m w3
            rw [hN] at hc
            go_wp2_with fail
            refine hc.mono ?_
            clear hc
            rintro e w4 ⟨v1, rfl, hr1, uu, _⟩
            have ub4 : Ups w3 w4 := uu
            replace hrf := hrf.ups (Ups.trans (Ups.refl _) ub4)
            replace hbf := block_ups hbf (Ups.trans (Ups.refl _) ub4)
            have ltf_4 : w.heap.size < w4.heap.size := (Array.getElem?_eq_some_iff.1 hbf).1
            replace hro := hro.ups (Ups.trans (Ups.refl _) ub4)
            replace hbo := block_ups hbo (Ups.trans (Ups.refl _) ub4)
            have lto_4 : w.heap.size + 1 < w4.heap.size := (Array.getElem?_eq_some_iff.1 hbo).1
            replace uw := Ups.trans uw (Ups.trans (Ups.refl _) ub4)
            clear uu
            have hs1 := hr1
            obtain ⟨_, _, rfl, ⟨a1, c1, rfl, _⟩, ⟨a'1, c'1, rfl, _⟩⟩ := hs1
            have hb1 : (w4.alloc (.cells #[.slice a1 N.pages.length c1, .slice a'1 N.wear.length c'1, .int .i64 N.fuse, .string N.torn, .bool N.dead] 25)).heap[w4.heap.size]? = some (.cells #[.slice a1 N.pages.length c1, .slice a'1 N.wear.length c'1, .int .i64 N.fuse, .string N.torn, .bool N.dead] 25) := alloc_at _ _
            have hc := rnew_calls n m (w4.alloc (.cells #[.slice a1 N.pages.length c1, .slice a'1 N.wear.length c'1, .int .i64 N.fuse, .string N.torn, .bool N.dead] 25))
            rw [hN] at hc
            go_wp2_with fail
            refine hc.mono ?_
            clear hc
            rintro e w5 ⟨v2, rfl, hr2, uu, _⟩
            have ub5 : Ups (w4.alloc (.cells #[.slice a1 N.pages.length c1, .slice a'1 N.wear.length c'1, .int .i64 N.fuse, .string N.torn, .bool N.dead] 25)) w5 := uu
            replace hrf := hrf.ups (Ups.trans (up1 _ _) ub5)
            replace hbf := block_ups hbf (Ups.trans (up1 _ _) ub5)
            have ltf_5 : w.heap.size < w5.heap.size := (Array.getElem?_eq_some_iff.1 hbf).1
            replace hro := hro.ups (Ups.trans (up1 _ _) ub5)
            replace hbo := block_ups hbo (Ups.trans (up1 _ _) ub5)
            have lto_5 : w.heap.size + 1 < w5.heap.size := (Array.getElem?_eq_some_iff.1 hbo).1
            replace hr1 := hr1.ups (Ups.trans (up1 _ _) ub5)
            replace hb1 := block_ups hb1 ub5
            have lt1_5 : w4.heap.size < w5.heap.size := (Array.getElem?_eq_some_iff.1 hb1).1
            replace uw := Ups.trans uw (Ups.trans (up1 _ _) ub5)
            clear uu
            have hs2 := hr2
            obtain ⟨_, _, rfl, ⟨a2, c2, rfl, _⟩, ⟨a'2, c'2, rfl, _⟩⟩ := hs2
            have hb2 : (w5.alloc (.cells #[.slice a2 N.pages.length c2, .slice a'2 N.wear.length c'2, .int .i64 N.fuse, .string N.torn, .bool N.dead] 25)).heap[w5.heap.size]? = some (.cells #[.slice a2 N.pages.length c2, .slice a'2 N.wear.length c'2, .int .i64 N.fuse, .string N.torn, .bool N.dead] 25) := alloc_at _ _
            have hc := wake_calls f _ n s (w5.alloc (.cells #[.slice a2 N.pages.length c2, .slice a'2 N.wear.length c'2, .int .i64 N.fuse, .string N.torn, .bool N.dead] 25)) (hrf.ups (up1 _ _)) hf
            rw [hK] at hc
            obtain ⟨kf0, kf1, kf2, kf3, kf4⟩ := block_cells hbf
            go_wp2_with fail
            refine hc.mono ?_
            clear hc
            rintro e w6 ⟨v3, rfl, hn⟩
            clear kf0 kf1 kf2 kf3 kf4
            have ub6 : Ups (w5.alloc (.cells #[.slice a2 N.pages.length c2, .slice a'2 N.wear.length c'2, .int .i64 N.fuse, .string N.torn, .bool N.dead] 25)) w6 := hn.ups
            replace hrf := hrf.ups (Ups.trans (up1 _ _) ub6)
            replace hbf := block_ups hbf (Ups.trans (up1 _ _) ub6)
            have ltf_6 : w.heap.size < w6.heap.size := (Array.getElem?_eq_some_iff.1 hbf).1
            replace hro := hro.ups (Ups.trans (up1 _ _) ub6)
            replace hbo := block_ups hbo (Ups.trans (up1 _ _) ub6)
            have lto_6 : w.heap.size + 1 < w6.heap.size := (Array.getElem?_eq_some_iff.1 hbo).1
            replace hr1 := hr1.ups (Ups.trans (up1 _ _) ub6)
            replace hb1 := block_ups hb1 (Ups.trans (up1 _ _) ub6)
            have lt1_6 : w4.heap.size < w6.heap.size := (Array.getElem?_eq_some_iff.1 hb1).1
            replace hr2 := hr2.ups (Ups.trans (up1 _ _) ub6)
            replace hb2 := block_ups hb2 ub6
            have lt2_6 : w5.heap.size < w6.heap.size := (Array.getElem?_eq_some_iff.1 hb2).1
            replace uw := Ups.trans uw (Ups.trans (up1 _ _) ub6)
            have hr3 := hn.reads
            clear hn
            have hs3 := hr3
            obtain ⟨_, _, rfl, ⟨a3, c3, rfl, _⟩, ⟨a'3, c'3, rfl, _⟩⟩ := hs3
            have hb3 : (w6.alloc (.cells #[.slice a3 K.pages.length c3, .slice a'3 K.wear.length c'3, .int .i64 K.fuse, .string K.torn, .bool K.dead] 25)).heap[w6.heap.size]? = some (.cells #[.slice a3 K.pages.length c3, .slice a'3 K.wear.length c'3, .int .i64 K.fuse, .string K.torn, .bool K.dead] 25) := alloc_at _ _
            have hc := rwake_calls f _ n s (w6.alloc (.cells #[.slice a3 K.pages.length c3, .slice a'3 K.wear.length c'3, .int .i64 K.fuse, .string K.torn, .bool K.dead] 25)) (hrf.ups (up1 _ _)) hf
            rw [hK] at hc
            obtain ⟨kf0, kf1, kf2, kf3, kf4⟩ := block_cells hbf
            go_wp2_with fail
            refine hc.mono ?_
            clear hc
            rintro e w7 ⟨v4, rfl, hn⟩
            clear kf0 kf1 kf2 kf3 kf4
            have ub7 : Ups (w6.alloc (.cells #[.slice a3 K.pages.length c3, .slice a'3 K.wear.length c'3, .int .i64 K.fuse, .string K.torn, .bool K.dead] 25)) w7 := hn.ups
            replace hrf := hrf.ups (Ups.trans (up1 _ _) ub7)
            replace hbf := block_ups hbf (Ups.trans (up1 _ _) ub7)
            have ltf_7 : w.heap.size < w7.heap.size := (Array.getElem?_eq_some_iff.1 hbf).1
            replace hro := hro.ups (Ups.trans (up1 _ _) ub7)
            replace hbo := block_ups hbo (Ups.trans (up1 _ _) ub7)
            have lto_7 : w.heap.size + 1 < w7.heap.size := (Array.getElem?_eq_some_iff.1 hbo).1
            replace hr1 := hr1.ups (Ups.trans (up1 _ _) ub7)
            replace hb1 := block_ups hb1 (Ups.trans (up1 _ _) ub7)
            have lt1_7 : w4.heap.size < w7.heap.size := (Array.getElem?_eq_some_iff.1 hb1).1
            replace hr2 := hr2.ups (Ups.trans (up1 _ _) ub7)
            replace hb2 := block_ups hb2 (Ups.trans (up1 _ _) ub7)
            have lt2_7 : w5.heap.size < w7.heap.size := (Array.getElem?_eq_some_iff.1 hb2).1
            replace hr3 := hr3.ups (Ups.trans (up1 _ _) ub7)
            replace hb3 := block_ups hb3 ub7
            have lt3_7 : w6.heap.size < w7.heap.size := (Array.getElem?_eq_some_iff.1 hb3).1
            replace uw := Ups.trans uw (Ups.trans (up1 _ _) ub7)
            have hr4 := hn.reads
            clear hn
            have hs4 := hr4
            obtain ⟨_, _, rfl, ⟨a4, c4, rfl, _⟩, ⟨a'4, c'4, rfl, _⟩⟩ := hs4
            have hb4 : (w7.alloc (.cells #[.slice a4 K.pages.length c4, .slice a'4 K.wear.length c'4, .int .i64 K.fuse, .string K.torn, .bool K.dead] 25)).heap[w7.heap.size]? = some (.cells #[.slice a4 K.pages.length c4, .slice a'4 K.wear.length c'4, .int .i64 K.fuse, .string K.torn, .bool K.dead] 25) := alloc_at _ _
            have hc := rot_calls f _ n m s (w7.alloc (.cells #[.slice a4 K.pages.length c4, .slice a'4 K.wear.length c'4, .int .i64 K.fuse, .string K.torn, .bool K.dead] 25)) (hrf.ups (up1 _ _)) hf hm
            rw [hR] at hc
            obtain ⟨kf0, kf1, kf2, kf3, kf4⟩ := block_cells hbf
            go_wp2_with fail
            refine hc.mono ?_
            clear hc
            rintro e w8 ⟨v5, rfl, hn⟩
            clear kf0 kf1 kf2 kf3 kf4
            have ub8 : Ups (w7.alloc (.cells #[.slice a4 K.pages.length c4, .slice a'4 K.wear.length c'4, .int .i64 K.fuse, .string K.torn, .bool K.dead] 25)) w8 := hn.ups
            replace hrf := hrf.ups (Ups.trans (up1 _ _) ub8)
            replace hbf := block_ups hbf (Ups.trans (up1 _ _) ub8)
            have ltf_8 : w.heap.size < w8.heap.size := (Array.getElem?_eq_some_iff.1 hbf).1
            replace hro := hro.ups (Ups.trans (up1 _ _) ub8)
            replace hbo := block_ups hbo (Ups.trans (up1 _ _) ub8)
            have lto_8 : w.heap.size + 1 < w8.heap.size := (Array.getElem?_eq_some_iff.1 hbo).1
            replace hr1 := hr1.ups (Ups.trans (up1 _ _) ub8)
            replace hb1 := block_ups hb1 (Ups.trans (up1 _ _) ub8)
            have lt1_8 : w4.heap.size < w8.heap.size := (Array.getElem?_eq_some_iff.1 hb1).1
            replace hr2 := hr2.ups (Ups.trans (up1 _ _) ub8)
            replace hb2 := block_ups hb2 (Ups.trans (up1 _ _) ub8)
            have lt2_8 : w5.heap.size < w8.heap.size := (Array.getElem?_eq_some_iff.1 hb2).1
            replace hr3 := hr3.ups (Ups.trans (up1 _ _) ub8)
            replace hb3 := block_ups hb3 (Ups.trans (up1 _ _) ub8)
            have lt3_8 : w6.heap.size < w8.heap.size := (Array.getElem?_eq_some_iff.1 hb3).1
            replace hr4 := hr4.ups (Ups.trans (up1 _ _) ub8)
            replace hb4 := block_ups hb4 ub8
            have lt4_8 : w7.heap.size < w8.heap.size := (Array.getElem?_eq_some_iff.1 hb4).1
            replace uw := Ups.trans uw (Ups.trans (up1 _ _) ub8)
            have hr5 := hn.reads
            clear hn
            have hs5 := hr5
            obtain ⟨_, _, rfl, ⟨a5, c5, rfl, _⟩, ⟨a'5, c'5, rfl, _⟩⟩ := hs5
            have hb5 : (w8.alloc (.cells #[.slice a5 R.pages.length c5, .slice a'5 R.wear.length c'5, .int .i64 R.fuse, .string R.torn, .bool R.dead] 25)).heap[w8.heap.size]? = some (.cells #[.slice a5 R.pages.length c5, .slice a'5 R.wear.length c'5, .int .i64 R.fuse, .string R.torn, .bool R.dead] 25) := alloc_at _ _
            have hc := rrot_calls f _ n m s (w8.alloc (.cells #[.slice a5 R.pages.length c5, .slice a'5 R.wear.length c'5, .int .i64 R.fuse, .string R.torn, .bool R.dead] 25)) (hrf.ups (up1 _ _)) hf hm
            rw [hR] at hc
            obtain ⟨kf0, kf1, kf2, kf3, kf4⟩ := block_cells hbf
            go_wp2_with fail
            refine hc.mono ?_
            clear hc
            rintro e w9 ⟨v6, rfl, hn⟩
            clear kf0 kf1 kf2 kf3 kf4
            have ub9 : Ups (w8.alloc (.cells #[.slice a5 R.pages.length c5, .slice a'5 R.wear.length c'5, .int .i64 R.fuse, .string R.torn, .bool R.dead] 25)) w9 := hn.ups
            replace hrf := hrf.ups (Ups.trans (up1 _ _) ub9)
            replace hbf := block_ups hbf (Ups.trans (up1 _ _) ub9)
            have ltf_9 : w.heap.size < w9.heap.size := (Array.getElem?_eq_some_iff.1 hbf).1
            replace hro := hro.ups (Ups.trans (up1 _ _) ub9)
            replace hbo := block_ups hbo (Ups.trans (up1 _ _) ub9)
            have lto_9 : w.heap.size + 1 < w9.heap.size := (Array.getElem?_eq_some_iff.1 hbo).1
            replace hr1 := hr1.ups (Ups.trans (up1 _ _) ub9)
            replace hb1 := block_ups hb1 (Ups.trans (up1 _ _) ub9)
            have lt1_9 : w4.heap.size < w9.heap.size := (Array.getElem?_eq_some_iff.1 hb1).1
            replace hr2 := hr2.ups (Ups.trans (up1 _ _) ub9)
            replace hb2 := block_ups hb2 (Ups.trans (up1 _ _) ub9)
            have lt2_9 : w5.heap.size < w9.heap.size := (Array.getElem?_eq_some_iff.1 hb2).1
            replace hr3 := hr3.ups (Ups.trans (up1 _ _) ub9)
            replace hb3 := block_ups hb3 (Ups.trans (up1 _ _) ub9)
            have lt3_9 : w6.heap.size < w9.heap.size := (Array.getElem?_eq_some_iff.1 hb3).1
            replace hr4 := hr4.ups (Ups.trans (up1 _ _) ub9)
            replace hb4 := block_ups hb4 (Ups.trans (up1 _ _) ub9)
            have lt4_9 : w7.heap.size < w9.heap.size := (Array.getElem?_eq_some_iff.1 hb4).1
            replace hr5 := hr5.ups (Ups.trans (up1 _ _) ub9)
            replace hb5 := block_ups hb5 ub9
            have lt5_9 : w8.heap.size < w9.heap.size := (Array.getElem?_eq_some_iff.1 hb5).1
            replace uw := Ups.trans uw (Ups.trans (up1 _ _) ub9)
            have hr6 := hn.reads
            clear hn
            have hs6 := hr6
            obtain ⟨_, _, rfl, ⟨a6, c6, rfl, _⟩, ⟨a'6, c'6, rfl, _⟩⟩ := hs6
            have hb6 : (w9.alloc (.cells #[.slice a6 R.pages.length c6, .slice a'6 R.wear.length c'6, .int .i64 R.fuse, .string R.torn, .bool R.dead] 25)).heap[w9.heap.size]? = some (.cells #[.slice a6 R.pages.length c6, .slice a'6 R.wear.length c'6, .int .i64 R.fuse, .string R.torn, .bool R.dead] 25) := alloc_at _ _
            have hc := rsame_calls N N _ _ (w9.alloc (.cells #[.slice a6 R.pages.length c6, .slice a'6 R.wear.length c'6, .int .i64 R.fuse, .string R.torn, .bool R.dead] 25)) (hr1.ups (up1 _ _)) (hr2.ups (up1 _ _)) (by have := LN.out; have := n12.out; omega) (by have := LN.out; have := n12.out; omega)
            rw [sameB_refl] at hc
            obtain ⟨k10, k11, k12, k13, k14⟩ := block_cells hb1
            obtain ⟨k20, k21, k22, k23, k24⟩ := block_cells hb2
            go_wp2_with fail
            refine hc.mono ?_
            clear hc
            rintro e w10 ⟨rfl, uu⟩
            clear k10 k11 k12 k13 k14 k20 k21 k22 k23 k24
            have ub10 : Ups (w9.alloc (.cells #[.slice a6 R.pages.length c6, .slice a'6 R.wear.length c'6, .int .i64 R.fuse, .string R.torn, .bool R.dead] 25)) w10 := uu
            replace hrf := hrf.ups (Ups.trans (up1 _ _) ub10)
            replace hbf := block_ups hbf (Ups.trans (up1 _ _) ub10)
            have ltf_10 : w.heap.size < w10.heap.size := (Array.getElem?_eq_some_iff.1 hbf).1
            replace hro := hro.ups (Ups.trans (up1 _ _) ub10)
            replace hbo := block_ups hbo (Ups.trans (up1 _ _) ub10)
            have lto_10 : w.heap.size + 1 < w10.heap.size := (Array.getElem?_eq_some_iff.1 hbo).1
            replace hr1 := hr1.ups (Ups.trans (up1 _ _) ub10)
            replace hb1 := block_ups hb1 (Ups.trans (up1 _ _) ub10)
            have lt1_10 : w4.heap.size < w10.heap.size := (Array.getElem?_eq_some_iff.1 hb1).1
            replace hr2 := hr2.ups (Ups.trans (up1 _ _) ub10)
            replace hb2 := block_ups hb2 (Ups.trans (up1 _ _) ub10)
            have lt2_10 : w5.heap.size < w10.heap.size := (Array.getElem?_eq_some_iff.1 hb2).1
            replace hr3 := hr3.ups (Ups.trans (up1 _ _) ub10)
            replace hb3 := block_ups hb3 (Ups.trans (up1 _ _) ub10)
            have lt3_10 : w6.heap.size < w10.heap.size := (Array.getElem?_eq_some_iff.1 hb3).1
            replace hr4 := hr4.ups (Ups.trans (up1 _ _) ub10)
            replace hb4 := block_ups hb4 (Ups.trans (up1 _ _) ub10)
            have lt4_10 : w7.heap.size < w10.heap.size := (Array.getElem?_eq_some_iff.1 hb4).1
            replace hr5 := hr5.ups (Ups.trans (up1 _ _) ub10)
            replace hb5 := block_ups hb5 (Ups.trans (up1 _ _) ub10)
            have lt5_10 : w8.heap.size < w10.heap.size := (Array.getElem?_eq_some_iff.1 hb5).1
            replace hr6 := hr6.ups (Ups.trans (up1 _ _) ub10)
            replace hb6 := block_ups hb6 ub10
            have lt6_10 : w9.heap.size < w10.heap.size := (Array.getElem?_eq_some_iff.1 hb6).1
            replace uw := Ups.trans uw (Ups.trans (up1 _ _) ub10)
            clear uu
            have hc := rsame_calls K K _ _ w10 (hr3.ups (Ups.refl _)) (hr4.ups (Ups.refl _)) (by have := LK.out; have := n12.out; omega) (by have := LK.out; have := n12.out; omega)
            rw [sameB_refl] at hc
            obtain ⟨k30, k31, k32, k33, k34⟩ := block_cells hb3
            obtain ⟨k40, k41, k42, k43, k44⟩ := block_cells hb4
            go_wp2_with fail
            refine hc.mono ?_
            clear hc
            rintro e w11 ⟨rfl, uu⟩
            clear k30 k31 k32 k33 k34 k40 k41 k42 k43 k44
            have ub11 : Ups w10 w11 := uu
            replace hrf := hrf.ups (Ups.trans (Ups.refl _) ub11)
            replace hbf := block_ups hbf (Ups.trans (Ups.refl _) ub11)
            have ltf_11 : w.heap.size < w11.heap.size := (Array.getElem?_eq_some_iff.1 hbf).1
            replace hro := hro.ups (Ups.trans (Ups.refl _) ub11)
            replace hbo := block_ups hbo (Ups.trans (Ups.refl _) ub11)
            have lto_11 : w.heap.size + 1 < w11.heap.size := (Array.getElem?_eq_some_iff.1 hbo).1
            replace hr1 := hr1.ups (Ups.trans (Ups.refl _) ub11)
            replace hb1 := block_ups hb1 (Ups.trans (Ups.refl _) ub11)
            have lt1_11 : w4.heap.size < w11.heap.size := (Array.getElem?_eq_some_iff.1 hb1).1
            replace hr2 := hr2.ups (Ups.trans (Ups.refl _) ub11)
            replace hb2 := block_ups hb2 (Ups.trans (Ups.refl _) ub11)
            have lt2_11 : w5.heap.size < w11.heap.size := (Array.getElem?_eq_some_iff.1 hb2).1
            replace hr3 := hr3.ups (Ups.trans (Ups.refl _) ub11)
            replace hb3 := block_ups hb3 (Ups.trans (Ups.refl _) ub11)
            have lt3_11 : w6.heap.size < w11.heap.size := (Array.getElem?_eq_some_iff.1 hb3).1
            replace hr4 := hr4.ups (Ups.trans (Ups.refl _) ub11)
            replace hb4 := block_ups hb4 (Ups.trans (Ups.refl _) ub11)
            have lt4_11 : w7.heap.size < w11.heap.size := (Array.getElem?_eq_some_iff.1 hb4).1
            replace hr5 := hr5.ups (Ups.trans (Ups.refl _) ub11)
            replace hb5 := block_ups hb5 (Ups.trans (Ups.refl _) ub11)
            have lt5_11 : w8.heap.size < w11.heap.size := (Array.getElem?_eq_some_iff.1 hb5).1
            replace hr6 := hr6.ups (Ups.trans (Ups.refl _) ub11)
            replace hb6 := block_ups hb6 (Ups.trans (Ups.refl _) ub11)
            have lt6_11 : w9.heap.size < w11.heap.size := (Array.getElem?_eq_some_iff.1 hb6).1
            replace uw := Ups.trans uw (Ups.trans (Ups.refl _) ub11)
            clear uu
            have hc := rsame_calls R R _ _ w11 (hr5.ups (Ups.refl _)) (hr6.ups (Ups.refl _)) (by have := LR.out; have := n12.out; omega) (by have := LR.out; have := n12.out; omega)
            rw [sameB_refl] at hc
            obtain ⟨k50, k51, k52, k53, k54⟩ := block_cells hb5
            obtain ⟨k60, k61, k62, k63, k64⟩ := block_cells hb6
            go_wp2_with fail
            refine hc.mono ?_
            clear hc
            rintro e w12 ⟨rfl, uu⟩
            clear k50 k51 k52 k53 k54 k60 k61 k62 k63 k64
            have ub12 : Ups w11 w12 := uu
            replace hrf := hrf.ups (Ups.trans (Ups.refl _) ub12)
            replace hbf := block_ups hbf (Ups.trans (Ups.refl _) ub12)
            have ltf_12 : w.heap.size < w12.heap.size := (Array.getElem?_eq_some_iff.1 hbf).1
            replace hro := hro.ups (Ups.trans (Ups.refl _) ub12)
            replace hbo := block_ups hbo (Ups.trans (Ups.refl _) ub12)
            have lto_12 : w.heap.size + 1 < w12.heap.size := (Array.getElem?_eq_some_iff.1 hbo).1
            replace hr1 := hr1.ups (Ups.trans (Ups.refl _) ub12)
            replace hb1 := block_ups hb1 (Ups.trans (Ups.refl _) ub12)
            have lt1_12 : w4.heap.size < w12.heap.size := (Array.getElem?_eq_some_iff.1 hb1).1
            replace hr2 := hr2.ups (Ups.trans (Ups.refl _) ub12)
            replace hb2 := block_ups hb2 (Ups.trans (Ups.refl _) ub12)
            have lt2_12 : w5.heap.size < w12.heap.size := (Array.getElem?_eq_some_iff.1 hb2).1
            replace hr3 := hr3.ups (Ups.trans (Ups.refl _) ub12)
            replace hb3 := block_ups hb3 (Ups.trans (Ups.refl _) ub12)
            have lt3_12 : w6.heap.size < w12.heap.size := (Array.getElem?_eq_some_iff.1 hb3).1
            replace hr4 := hr4.ups (Ups.trans (Ups.refl _) ub12)
            replace hb4 := block_ups hb4 (Ups.trans (Ups.refl _) ub12)
            have lt4_12 : w7.heap.size < w12.heap.size := (Array.getElem?_eq_some_iff.1 hb4).1
            replace hr5 := hr5.ups (Ups.trans (Ups.refl _) ub12)
            replace hb5 := block_ups hb5 (Ups.trans (Ups.refl _) ub12)
            have lt5_12 : w8.heap.size < w12.heap.size := (Array.getElem?_eq_some_iff.1 hb5).1
            replace hr6 := hr6.ups (Ups.trans (Ups.refl _) ub12)
            replace hb6 := block_ups hb6 (Ups.trans (Ups.refl _) ub12)
            have lt6_12 : w9.heap.size < w12.heap.size := (Array.getElem?_eq_some_iff.1 hb6).1
            replace uw := Ups.trans uw (Ups.trans (Ups.refl _) ub12)
            clear uu
            have hc := rcheck_calls f _ w12 (hrf.ups (Ups.refl _)) hf
            obtain ⟨kf0, kf1, kf2, kf3, kf4⟩ := block_cells hbf
            go_wp2_with fail
            refine hc.mono ?_
            clear hc
            rintro e w13 ⟨rfl, uu⟩
            clear kf0 kf1 kf2 kf3 kf4
            have ub13 : Ups w12 w13 := uu
            replace hrf := hrf.ups (Ups.trans (Ups.refl _) ub13)
            replace hbf := block_ups hbf (Ups.trans (Ups.refl _) ub13)
            have ltf_13 : w.heap.size < w13.heap.size := (Array.getElem?_eq_some_iff.1 hbf).1
            replace hro := hro.ups (Ups.trans (Ups.refl _) ub13)
            replace hbo := block_ups hbo (Ups.trans (Ups.refl _) ub13)
            have lto_13 : w.heap.size + 1 < w13.heap.size := (Array.getElem?_eq_some_iff.1 hbo).1
            replace hr1 := hr1.ups (Ups.trans (Ups.refl _) ub13)
            replace hb1 := block_ups hb1 (Ups.trans (Ups.refl _) ub13)
            have lt1_13 : w4.heap.size < w13.heap.size := (Array.getElem?_eq_some_iff.1 hb1).1
            replace hr2 := hr2.ups (Ups.trans (Ups.refl _) ub13)
            replace hb2 := block_ups hb2 (Ups.trans (Ups.refl _) ub13)
            have lt2_13 : w5.heap.size < w13.heap.size := (Array.getElem?_eq_some_iff.1 hb2).1
            replace hr3 := hr3.ups (Ups.trans (Ups.refl _) ub13)
            replace hb3 := block_ups hb3 (Ups.trans (Ups.refl _) ub13)
            have lt3_13 : w6.heap.size < w13.heap.size := (Array.getElem?_eq_some_iff.1 hb3).1
            replace hr4 := hr4.ups (Ups.trans (Ups.refl _) ub13)
            replace hb4 := block_ups hb4 (Ups.trans (Ups.refl _) ub13)
            have lt4_13 : w7.heap.size < w13.heap.size := (Array.getElem?_eq_some_iff.1 hb4).1
            replace hr5 := hr5.ups (Ups.trans (Ups.refl _) ub13)
            replace hb5 := block_ups hb5 (Ups.trans (Ups.refl _) ub13)
            have lt5_13 : w8.heap.size < w13.heap.size := (Array.getElem?_eq_some_iff.1 hb5).1
            replace hr6 := hr6.ups (Ups.trans (Ups.refl _) ub13)
            replace hb6 := block_ups hb6 (Ups.trans (Ups.refl _) ub13)
            have lt6_13 : w9.heap.size < w13.heap.size := (Array.getElem?_eq_some_iff.1 hb6).1
            replace uw := Ups.trans uw (Ups.trans (Ups.refl _) ub13)
            clear uu
            have hc := rfree_calls f _ n w13 (hrf.ups (Ups.refl _)) hf
            obtain ⟨kf0, kf1, kf2, kf3, kf4⟩ := block_cells hbf
            go_wp2_with fail
            refine hc.mono ?_
            clear hc
            rintro e w14 ⟨rfl, uu⟩
            clear kf0 kf1 kf2 kf3 kf4
            have ub14 : Ups w13 w14 := uu
            replace hrf := hrf.ups (Ups.trans (Ups.refl _) ub14)
            replace hbf := block_ups hbf (Ups.trans (Ups.refl _) ub14)
            have ltf_14 : w.heap.size < w14.heap.size := (Array.getElem?_eq_some_iff.1 hbf).1
            replace hro := hro.ups (Ups.trans (Ups.refl _) ub14)
            replace hbo := block_ups hbo (Ups.trans (Ups.refl _) ub14)
            have lto_14 : w.heap.size + 1 < w14.heap.size := (Array.getElem?_eq_some_iff.1 hbo).1
            replace hr1 := hr1.ups (Ups.trans (Ups.refl _) ub14)
            replace hb1 := block_ups hb1 (Ups.trans (Ups.refl _) ub14)
            have lt1_14 : w4.heap.size < w14.heap.size := (Array.getElem?_eq_some_iff.1 hb1).1
            replace hr2 := hr2.ups (Ups.trans (Ups.refl _) ub14)
            replace hb2 := block_ups hb2 (Ups.trans (Ups.refl _) ub14)
            have lt2_14 : w5.heap.size < w14.heap.size := (Array.getElem?_eq_some_iff.1 hb2).1
            replace hr3 := hr3.ups (Ups.trans (Ups.refl _) ub14)
            replace hb3 := block_ups hb3 (Ups.trans (Ups.refl _) ub14)
            have lt3_14 : w6.heap.size < w14.heap.size := (Array.getElem?_eq_some_iff.1 hb3).1
            replace hr4 := hr4.ups (Ups.trans (Ups.refl _) ub14)
            replace hb4 := block_ups hb4 (Ups.trans (Ups.refl _) ub14)
            have lt4_14 : w7.heap.size < w14.heap.size := (Array.getElem?_eq_some_iff.1 hb4).1
            replace hr5 := hr5.ups (Ups.trans (Ups.refl _) ub14)
            replace hb5 := block_ups hb5 (Ups.trans (Ups.refl _) ub14)
            have lt5_14 : w8.heap.size < w14.heap.size := (Array.getElem?_eq_some_iff.1 hb5).1
            replace hr6 := hr6.ups (Ups.trans (Ups.refl _) ub14)
            replace hb6 := block_ups hb6 (Ups.trans (Ups.refl _) ub14)
            have lt6_14 : w9.heap.size < w14.heap.size := (Array.getElem?_eq_some_iff.1 hb6).1
            replace uw := Ups.trans uw (Ups.trans (Ups.refl _) ub14)
            clear uu
            have hc := rsame_calls f o _ _ w14 (hrf.ups (Ups.refl _)) (hro.ups (Ups.refl _)) (by have := n12.out; omega) (by have := n12.out; omega)
            obtain ⟨kf0, kf1, kf2, kf3, kf4⟩ := block_cells hbf
            obtain ⟨ko0, ko1, ko2, ko3, ko4⟩ := block_cells hbo
            go_wp2_with fail
            refine hc.mono ?_
            clear hc
            rintro e w15 ⟨rfl, uu⟩
            clear kf0 kf1 kf2 kf3 kf4 ko0 ko1 ko2 ko3 ko4
            have ub15 : Ups w14 w15 := uu
            replace hrf := hrf.ups (Ups.trans (Ups.refl _) ub15)
            replace hbf := block_ups hbf (Ups.trans (Ups.refl _) ub15)
            have ltf_15 : w.heap.size < w15.heap.size := (Array.getElem?_eq_some_iff.1 hbf).1
            replace hro := hro.ups (Ups.trans (Ups.refl _) ub15)
            replace hbo := block_ups hbo (Ups.trans (Ups.refl _) ub15)
            have lto_15 : w.heap.size + 1 < w15.heap.size := (Array.getElem?_eq_some_iff.1 hbo).1
            replace hr1 := hr1.ups (Ups.trans (Ups.refl _) ub15)
            replace hb1 := block_ups hb1 (Ups.trans (Ups.refl _) ub15)
            have lt1_15 : w4.heap.size < w15.heap.size := (Array.getElem?_eq_some_iff.1 hb1).1
            replace hr2 := hr2.ups (Ups.trans (Ups.refl _) ub15)
            replace hb2 := block_ups hb2 (Ups.trans (Ups.refl _) ub15)
            have lt2_15 : w5.heap.size < w15.heap.size := (Array.getElem?_eq_some_iff.1 hb2).1
            replace hr3 := hr3.ups (Ups.trans (Ups.refl _) ub15)
            replace hb3 := block_ups hb3 (Ups.trans (Ups.refl _) ub15)
            have lt3_15 : w6.heap.size < w15.heap.size := (Array.getElem?_eq_some_iff.1 hb3).1
            replace hr4 := hr4.ups (Ups.trans (Ups.refl _) ub15)
            replace hb4 := block_ups hb4 (Ups.trans (Ups.refl _) ub15)
            have lt4_15 : w7.heap.size < w15.heap.size := (Array.getElem?_eq_some_iff.1 hb4).1
            replace hr5 := hr5.ups (Ups.trans (Ups.refl _) ub15)
            replace hb5 := block_ups hb5 (Ups.trans (Ups.refl _) ub15)
            have lt5_15 : w8.heap.size < w15.heap.size := (Array.getElem?_eq_some_iff.1 hb5).1
            replace hr6 := hr6.ups (Ups.trans (Ups.refl _) ub15)
            replace hb6 := block_ups hb6 (Ups.trans (Ups.refl _) ub15)
            have lt6_15 : w9.heap.size < w15.heap.size := (Array.getElem?_eq_some_iff.1 hb6).1
            replace uw := Ups.trans uw (Ups.trans (Ups.refl _) ub15)
            clear uu
            cases hcb : checkB f with
            | false =>
              have hc := check_calls f _ w15 (hrf.ups (Ups.refl _)) hf.1 hf.2.1
              simp only [hcb, if_true, Bool.false_eq_true, if_false] at hc
              obtain ⟨kf0, kf1, kf2, kf3, kf4⟩ := block_cells hbf
              go_wp2_with fail
              refine hc.mono ?_
              clear hc
              rintro e w16 ⟨rfl, uu⟩
              clear kf0 kf1 kf2 kf3 kf4
              have ub16 : Ups w15 w16 := uu
              replace hrf := hrf.ups (Ups.trans (Ups.refl _) ub16)
              replace hbf := block_ups hbf (Ups.trans (Ups.refl _) ub16)
              have ltf_16 : w.heap.size < w16.heap.size := (Array.getElem?_eq_some_iff.1 hbf).1
              replace hro := hro.ups (Ups.trans (Ups.refl _) ub16)
              replace hbo := block_ups hbo (Ups.trans (Ups.refl _) ub16)
              have lto_16 : w.heap.size + 1 < w16.heap.size := (Array.getElem?_eq_some_iff.1 hbo).1
              replace hr1 := hr1.ups (Ups.trans (Ups.refl _) ub16)
              replace hb1 := block_ups hb1 (Ups.trans (Ups.refl _) ub16)
              have lt1_16 : w4.heap.size < w16.heap.size := (Array.getElem?_eq_some_iff.1 hb1).1
              replace hr2 := hr2.ups (Ups.trans (Ups.refl _) ub16)
              replace hb2 := block_ups hb2 (Ups.trans (Ups.refl _) ub16)
              have lt2_16 : w5.heap.size < w16.heap.size := (Array.getElem?_eq_some_iff.1 hb2).1
              replace hr3 := hr3.ups (Ups.trans (Ups.refl _) ub16)
              replace hb3 := block_ups hb3 (Ups.trans (Ups.refl _) ub16)
              have lt3_16 : w6.heap.size < w16.heap.size := (Array.getElem?_eq_some_iff.1 hb3).1
              replace hr4 := hr4.ups (Ups.trans (Ups.refl _) ub16)
              replace hb4 := block_ups hb4 (Ups.trans (Ups.refl _) ub16)
              have lt4_16 : w7.heap.size < w16.heap.size := (Array.getElem?_eq_some_iff.1 hb4).1
              replace hr5 := hr5.ups (Ups.trans (Ups.refl _) ub16)
              replace hb5 := block_ups hb5 (Ups.trans (Ups.refl _) ub16)
              have lt5_16 : w8.heap.size < w16.heap.size := (Array.getElem?_eq_some_iff.1 hb5).1
              replace hr6 := hr6.ups (Ups.trans (Ups.refl _) ub16)
              replace hb6 := block_ups hb6 (Ups.trans (Ups.refl _) ub16)
              have lt6_16 : w9.heap.size < w16.heap.size := (Array.getElem?_eq_some_iff.1 hb6).1
              replace uw := Ups.trans uw (Ups.trans (Ups.refl _) ub16)
              clear uu
              have hc := free_calls f _ n w16 (hrf.ups (Ups.refl _)) hf
              obtain ⟨kf0, kf1, kf2, kf3, kf4⟩ := block_cells hbf
              go_wp2_with fail
              refine hc.mono ?_
              clear hc
              rintro e w17 ⟨rfl, uu⟩
              clear kf0 kf1 kf2 kf3 kf4
              have ub17 : Ups w16 w17 := uu
              replace hrf := hrf.ups (Ups.trans (Ups.refl _) ub17)
              replace hbf := block_ups hbf (Ups.trans (Ups.refl _) ub17)
              have ltf_17 : w.heap.size < w17.heap.size := (Array.getElem?_eq_some_iff.1 hbf).1
              replace hro := hro.ups (Ups.trans (Ups.refl _) ub17)
              replace hbo := block_ups hbo (Ups.trans (Ups.refl _) ub17)
              have lto_17 : w.heap.size + 1 < w17.heap.size := (Array.getElem?_eq_some_iff.1 hbo).1
              replace hr1 := hr1.ups (Ups.trans (Ups.refl _) ub17)
              replace hb1 := block_ups hb1 (Ups.trans (Ups.refl _) ub17)
              have lt1_17 : w4.heap.size < w17.heap.size := (Array.getElem?_eq_some_iff.1 hb1).1
              replace hr2 := hr2.ups (Ups.trans (Ups.refl _) ub17)
              replace hb2 := block_ups hb2 (Ups.trans (Ups.refl _) ub17)
              have lt2_17 : w5.heap.size < w17.heap.size := (Array.getElem?_eq_some_iff.1 hb2).1
              replace hr3 := hr3.ups (Ups.trans (Ups.refl _) ub17)
              replace hb3 := block_ups hb3 (Ups.trans (Ups.refl _) ub17)
              have lt3_17 : w6.heap.size < w17.heap.size := (Array.getElem?_eq_some_iff.1 hb3).1
              replace hr4 := hr4.ups (Ups.trans (Ups.refl _) ub17)
              replace hb4 := block_ups hb4 (Ups.trans (Ups.refl _) ub17)
              have lt4_17 : w7.heap.size < w17.heap.size := (Array.getElem?_eq_some_iff.1 hb4).1
              replace hr5 := hr5.ups (Ups.trans (Ups.refl _) ub17)
              replace hb5 := block_ups hb5 (Ups.trans (Ups.refl _) ub17)
              have lt5_17 : w8.heap.size < w17.heap.size := (Array.getElem?_eq_some_iff.1 hb5).1
              replace hr6 := hr6.ups (Ups.trans (Ups.refl _) ub17)
              replace hb6 := block_ups hb6 (Ups.trans (Ups.refl _) ub17)
              have lt6_17 : w9.heap.size < w17.heap.size := (Array.getElem?_eq_some_iff.1 hb6).1
              replace uw := Ups.trans uw (Ups.trans (Ups.refl _) ub17)
              clear uu
              have hc := same_calls f o _ _ w17 (hrf.ups (Ups.refl _)) (hro.ups (Ups.refl _)) (by have := n12.out; omega) (by have := n34.out; omega) (by have := n12.out; omega) (by have := n34.out; omega)
              obtain ⟨kf0, kf1, kf2, kf3, kf4⟩ := block_cells hbf
              obtain ⟨ko0, ko1, ko2, ko3, ko4⟩ := block_cells hbo
              go_wp2_with fail
              refine hc.mono ?_
              clear hc
              rintro e w18 ⟨rfl, uu⟩
              clear kf0 kf1 kf2 kf3 kf4 ko0 ko1 ko2 ko3 ko4
              have ub18 : Ups w17 w18 := uu
              replace hrf := hrf.ups (Ups.trans (Ups.refl _) ub18)
              replace hbf := block_ups hbf (Ups.trans (Ups.refl _) ub18)
              have ltf_18 : w.heap.size < w18.heap.size := (Array.getElem?_eq_some_iff.1 hbf).1
              replace hro := hro.ups (Ups.trans (Ups.refl _) ub18)
              replace hbo := block_ups hbo (Ups.trans (Ups.refl _) ub18)
              have lto_18 : w.heap.size + 1 < w18.heap.size := (Array.getElem?_eq_some_iff.1 hbo).1
              replace hr1 := hr1.ups (Ups.trans (Ups.refl _) ub18)
              replace hb1 := block_ups hb1 (Ups.trans (Ups.refl _) ub18)
              have lt1_18 : w4.heap.size < w18.heap.size := (Array.getElem?_eq_some_iff.1 hb1).1
              replace hr2 := hr2.ups (Ups.trans (Ups.refl _) ub18)
              replace hb2 := block_ups hb2 (Ups.trans (Ups.refl _) ub18)
              have lt2_18 : w5.heap.size < w18.heap.size := (Array.getElem?_eq_some_iff.1 hb2).1
              replace hr3 := hr3.ups (Ups.trans (Ups.refl _) ub18)
              replace hb3 := block_ups hb3 (Ups.trans (Ups.refl _) ub18)
              have lt3_18 : w6.heap.size < w18.heap.size := (Array.getElem?_eq_some_iff.1 hb3).1
              replace hr4 := hr4.ups (Ups.trans (Ups.refl _) ub18)
              replace hb4 := block_ups hb4 (Ups.trans (Ups.refl _) ub18)
              have lt4_18 : w7.heap.size < w18.heap.size := (Array.getElem?_eq_some_iff.1 hb4).1
              replace hr5 := hr5.ups (Ups.trans (Ups.refl _) ub18)
              replace hb5 := block_ups hb5 (Ups.trans (Ups.refl _) ub18)
              have lt5_18 : w8.heap.size < w18.heap.size := (Array.getElem?_eq_some_iff.1 hb5).1
              replace hr6 := hr6.ups (Ups.trans (Ups.refl _) ub18)
              replace hb6 := block_ups hb6 (Ups.trans (Ups.refl _) ub18)
              have lt6_18 : w9.heap.size < w18.heap.size := (Array.getElem?_eq_some_iff.1 hb6).1
              replace uw := Ups.trans uw (Ups.trans (Ups.refl _) ub18)
              clear uu
              go_wp2_with fail
              exact bodyPost_ret (v := .bool true) (results_one rfl rfl) rfl ⟨rfl, Ups.trans uw (Ups.refl _)⟩
            | true =>
              have hc := check_calls f _ w15 (hrf.ups (Ups.refl _)) hf.1 hf.2.1
              simp only [hcb, if_true, Bool.false_eq_true, if_false] at hc
              obtain ⟨kf0, kf1, kf2, kf3, kf4⟩ := block_cells hbf
              go_wp2_with fail
              refine hc.mono ?_
              clear hc
              rintro e w16 ⟨rfl, uu⟩
              clear kf0 kf1 kf2 kf3 kf4
              have ub16 : Ups w15 w16 := uu
              replace hrf := hrf.ups (Ups.trans (Ups.refl _) ub16)
              replace hbf := block_ups hbf (Ups.trans (Ups.refl _) ub16)
              have ltf_16 : w.heap.size < w16.heap.size := (Array.getElem?_eq_some_iff.1 hbf).1
              replace hro := hro.ups (Ups.trans (Ups.refl _) ub16)
              replace hbo := block_ups hbo (Ups.trans (Ups.refl _) ub16)
              have lto_16 : w.heap.size + 1 < w16.heap.size := (Array.getElem?_eq_some_iff.1 hbo).1
              replace hr1 := hr1.ups (Ups.trans (Ups.refl _) ub16)
              replace hb1 := block_ups hb1 (Ups.trans (Ups.refl _) ub16)
              have lt1_16 : w4.heap.size < w16.heap.size := (Array.getElem?_eq_some_iff.1 hb1).1
              replace hr2 := hr2.ups (Ups.trans (Ups.refl _) ub16)
              replace hb2 := block_ups hb2 (Ups.trans (Ups.refl _) ub16)
              have lt2_16 : w5.heap.size < w16.heap.size := (Array.getElem?_eq_some_iff.1 hb2).1
              replace hr3 := hr3.ups (Ups.trans (Ups.refl _) ub16)
              replace hb3 := block_ups hb3 (Ups.trans (Ups.refl _) ub16)
              have lt3_16 : w6.heap.size < w16.heap.size := (Array.getElem?_eq_some_iff.1 hb3).1
              replace hr4 := hr4.ups (Ups.trans (Ups.refl _) ub16)
              replace hb4 := block_ups hb4 (Ups.trans (Ups.refl _) ub16)
              have lt4_16 : w7.heap.size < w16.heap.size := (Array.getElem?_eq_some_iff.1 hb4).1
              replace hr5 := hr5.ups (Ups.trans (Ups.refl _) ub16)
              replace hb5 := block_ups hb5 (Ups.trans (Ups.refl _) ub16)
              have lt5_16 : w8.heap.size < w16.heap.size := (Array.getElem?_eq_some_iff.1 hb5).1
              replace hr6 := hr6.ups (Ups.trans (Ups.refl _) ub16)
              replace hb6 := block_ups hb6 (Ups.trans (Ups.refl _) ub16)
              have lt6_16 : w9.heap.size < w16.heap.size := (Array.getElem?_eq_some_iff.1 hb6).1
              replace uw := Ups.trans uw (Ups.trans (Ups.refl _) ub16)
              clear uu
              have hc := free_calls f _ n w16 (hrf.ups (Ups.refl _)) hf
              obtain ⟨kf0, kf1, kf2, kf3, kf4⟩ := block_cells hbf
              go_wp2_with fail
              refine hc.mono ?_
              clear hc
              rintro e w17 ⟨rfl, uu⟩
              clear kf0 kf1 kf2 kf3 kf4
              have ub17 : Ups w16 w17 := uu
              replace hrf := hrf.ups (Ups.trans (Ups.refl _) ub17)
              replace hbf := block_ups hbf (Ups.trans (Ups.refl _) ub17)
              have ltf_17 : w.heap.size < w17.heap.size := (Array.getElem?_eq_some_iff.1 hbf).1
              replace hro := hro.ups (Ups.trans (Ups.refl _) ub17)
              replace hbo := block_ups hbo (Ups.trans (Ups.refl _) ub17)
              have lto_17 : w.heap.size + 1 < w17.heap.size := (Array.getElem?_eq_some_iff.1 hbo).1
              replace hr1 := hr1.ups (Ups.trans (Ups.refl _) ub17)
              replace hb1 := block_ups hb1 (Ups.trans (Ups.refl _) ub17)
              have lt1_17 : w4.heap.size < w17.heap.size := (Array.getElem?_eq_some_iff.1 hb1).1
              replace hr2 := hr2.ups (Ups.trans (Ups.refl _) ub17)
              replace hb2 := block_ups hb2 (Ups.trans (Ups.refl _) ub17)
              have lt2_17 : w5.heap.size < w17.heap.size := (Array.getElem?_eq_some_iff.1 hb2).1
              replace hr3 := hr3.ups (Ups.trans (Ups.refl _) ub17)
              replace hb3 := block_ups hb3 (Ups.trans (Ups.refl _) ub17)
              have lt3_17 : w6.heap.size < w17.heap.size := (Array.getElem?_eq_some_iff.1 hb3).1
              replace hr4 := hr4.ups (Ups.trans (Ups.refl _) ub17)
              replace hb4 := block_ups hb4 (Ups.trans (Ups.refl _) ub17)
              have lt4_17 : w7.heap.size < w17.heap.size := (Array.getElem?_eq_some_iff.1 hb4).1
              replace hr5 := hr5.ups (Ups.trans (Ups.refl _) ub17)
              replace hb5 := block_ups hb5 (Ups.trans (Ups.refl _) ub17)
              have lt5_17 : w8.heap.size < w17.heap.size := (Array.getElem?_eq_some_iff.1 hb5).1
              replace hr6 := hr6.ups (Ups.trans (Ups.refl _) ub17)
              replace hb6 := block_ups hb6 (Ups.trans (Ups.refl _) ub17)
              have lt6_17 : w9.heap.size < w17.heap.size := (Array.getElem?_eq_some_iff.1 hb6).1
              replace uw := Ups.trans uw (Ups.trans (Ups.refl _) ub17)
              clear uu
              have hc := same_calls f o _ _ w17 (hrf.ups (Ups.refl _)) (hro.ups (Ups.refl _)) (by have := n12.out; omega) (by have := n34.out; omega) (by have := n12.out; omega) (by have := n34.out; omega)
              obtain ⟨kf0, kf1, kf2, kf3, kf4⟩ := block_cells hbf
              obtain ⟨ko0, ko1, ko2, ko3, ko4⟩ := block_cells hbo
              go_wp2_with fail
              refine hc.mono ?_
              clear hc
              rintro e w18 ⟨rfl, uu⟩
              clear kf0 kf1 kf2 kf3 kf4 ko0 ko1 ko2 ko3 ko4
              have ub18 : Ups w17 w18 := uu
              replace hrf := hrf.ups (Ups.trans (Ups.refl _) ub18)
              replace hbf := block_ups hbf (Ups.trans (Ups.refl _) ub18)
              have ltf_18 : w.heap.size < w18.heap.size := (Array.getElem?_eq_some_iff.1 hbf).1
              replace hro := hro.ups (Ups.trans (Ups.refl _) ub18)
              replace hbo := block_ups hbo (Ups.trans (Ups.refl _) ub18)
              have lto_18 : w.heap.size + 1 < w18.heap.size := (Array.getElem?_eq_some_iff.1 hbo).1
              replace hr1 := hr1.ups (Ups.trans (Ups.refl _) ub18)
              replace hb1 := block_ups hb1 (Ups.trans (Ups.refl _) ub18)
              have lt1_18 : w4.heap.size < w18.heap.size := (Array.getElem?_eq_some_iff.1 hb1).1
              replace hr2 := hr2.ups (Ups.trans (Ups.refl _) ub18)
              replace hb2 := block_ups hb2 (Ups.trans (Ups.refl _) ub18)
              have lt2_18 : w5.heap.size < w18.heap.size := (Array.getElem?_eq_some_iff.1 hb2).1
              replace hr3 := hr3.ups (Ups.trans (Ups.refl _) ub18)
              replace hb3 := block_ups hb3 (Ups.trans (Ups.refl _) ub18)
              have lt3_18 : w6.heap.size < w18.heap.size := (Array.getElem?_eq_some_iff.1 hb3).1
              replace hr4 := hr4.ups (Ups.trans (Ups.refl _) ub18)
              replace hb4 := block_ups hb4 (Ups.trans (Ups.refl _) ub18)
              have lt4_18 : w7.heap.size < w18.heap.size := (Array.getElem?_eq_some_iff.1 hb4).1
              replace hr5 := hr5.ups (Ups.trans (Ups.refl _) ub18)
              replace hb5 := block_ups hb5 (Ups.trans (Ups.refl _) ub18)
              have lt5_18 : w8.heap.size < w18.heap.size := (Array.getElem?_eq_some_iff.1 hb5).1
              replace hr6 := hr6.ups (Ups.trans (Ups.refl _) ub18)
              replace hb6 := block_ups hb6 (Ups.trans (Ups.refl _) ub18)
              have lt6_18 : w9.heap.size < w18.heap.size := (Array.getElem?_eq_some_iff.1 hb6).1
              replace uw := Ups.trans uw (Ups.trans (Ups.refl _) ub18)
              clear uu
              go_wp2_with fail
              exact bodyPost_ret (v := .bool true) (results_one rfl rfl) rfl ⟨rfl, Ups.trans uw (Ups.refl _)⟩

end Go.Proofs.Ytjpapjijlbfemaa
