/- PageDies, walked. -/
import Derived.Test.YtmabpnkdagipfaaGreatLaw5d
namespace Go.Proofs.YtmabpnkdagipfaaGreat
open Go.RowKit

set_option maxRecDepth 100000 in
set_option maxHeartbeats 20000000 in
theorem dies_law (f : Fl) (v : Value) (page : Int) (s torn : ByteArray) (w : World) (h : FlAt w v f) (hf : FlFit f) :
    Calls Tryz.prog 7 #[v, .int .i64 page, .string s, .string torn] w fun e W' => e = .returned (.bool true) ∧ Ups w W' := by
  obtain ⟨i0, hi, hz0, hz1, hz2⟩ := info_parts infoS
  obtain ⟨Wk, e, hW⟩ : ∃ W e, wakeF f 0 torn = (W, e) := ⟨_, _, rfl⟩
  obtain ⟨G, a, hG⟩ : ∃ G a, appendF Wk page s = (G, a) := ⟨_, _, rfl⟩
  have fW := wake_fit f 0 torn hf (by decide) (by decide)
  have lW := wake_len f 0 torn
  rw [hW] at fW lW
  have LW := Lib.hid lW
  clear lW
  have hrf := h
  clear h
  have hsf := hrf
  obtain ⟨_, _, rfl, ⟨af, cf, rfl, _⟩, ⟨a'f, c'f, rfl, _⟩⟩ := hsf
  have hbf : (w.alloc (.cells #[.slice af f.pages.length cf, .slice a'f f.wear.length c'f, .int .i64 f.fuse, .string f.torn, .bool f.dead] 31)).heap[w.heap.size]? = some (.cells #[.slice af f.pages.length cf, .slice a'f f.wear.length c'f, .int .i64 f.fuse, .string f.torn, .bool f.dead] 31) := alloc_at _ _
  go_enter Tryz.func7, Tryz.ntmps7
  have hc := works5 (w.alloc (.cells #[.slice af f.pages.length cf, .slice a'f f.wear.length c'f, .int .i64 f.fuse, .string f.torn, .bool f.dead] 31))
  go_wp2_with fail
  refine hc.mono ?_
  clear hc
  rintro e w1 ⟨rfl, uu⟩
  have ub1 : Ups (w.alloc (.cells #[.slice af f.pages.length cf, .slice a'f f.wear.length c'f, .int .i64 f.fuse, .string f.torn, .bool f.dead] 31)) w1 := uu
  replace hrf := hrf.ups (Ups.trans (up1 _ _) ub1)
  replace hbf := block_ups hbf ub1
  have ltf_1 : w.heap.size < w1.heap.size := (Array.getElem?_eq_some_iff.1 hbf).1
  have uw := Ups.trans (up1 _ _) ub1
  clear uu
  have hc := few_calls f _ w1 (hrf.ups (Ups.refl _)) hf
  obtain ⟨kf0, kf1, kf2, kf3, kf4⟩ := block_cells hbf
  go_wp2_with fail
  refine hc.mono ?_
  clear hc
  rintro e w2 ⟨few, rfl, hfew, uu⟩
  clear kf0 kf1 kf2 kf3 kf4
  have ub2 : Ups w1 w2 := uu
  replace hrf := hrf.ups (Ups.trans (Ups.refl _) ub2)
  replace hbf := block_ups hbf (Ups.trans (Ups.refl _) ub2)
  have ltf_2 : w.heap.size < w2.heap.size := (Array.getElem?_eq_some_iff.1 hbf).1
  replace uw := Ups.trans uw (Ups.trans (Ups.refl _) ub2)
  clear uu
  cases few with
  | false =>
    go_wp2_with fail
    exact bodyPost_ret (v := .bool true) (results_one rfl rfl) rfl ⟨rfl, Ups.trans uw (Ups.refl _)⟩
  | true =>
    obtain ⟨n1, n2⟩ := hfew rfl
    have n12 := Lib.hid (And.intro n1 n2)
    clear hfew n1 n2
    by_cases hs : (100 : Int) < s.size
    · go_wp2_with fail
      exact bodyPost_ret (v := .bool true) (results_one rfl rfl) rfl ⟨rfl, Ups.trans uw (Ups.refl _)⟩
    have hs1 : s.size ≤ 100 := by omega
    have HP := Lib.hid (dies_plain hW hG hs1)
    have hc := wake_calls f _ 0 torn w2 (hrf.ups (Ups.refl _)) hf
    rw [hW] at hc
    obtain ⟨kf0, kf1, kf2, kf3, kf4⟩ := block_cells hbf
    go_wp2_with fail
    refine hc.mono ?_
    clear hc
    rintro e w3 ⟨v1, rfl, hn⟩
    clear kf0 kf1 kf2 kf3 kf4
    have ub3 : Ups w2 w3 := hn.ups
    replace hrf := hrf.ups (Ups.trans (Ups.refl _) ub3)
    replace hbf := block_ups hbf (Ups.trans (Ups.refl _) ub3)
    have ltf_3 : w.heap.size < w3.heap.size := (Array.getElem?_eq_some_iff.1 hbf).1
    replace uw := Ups.trans uw (Ups.trans (Ups.refl _) ub3)
    have hr1 := hn.reads
    clear hn
    have hs1 := hr1
    obtain ⟨_, _, rfl, ⟨a1, c1, rfl, _⟩, ⟨a'1, c'1, rfl, _⟩⟩ := hs1
    have hb1 : (w3.alloc (.cells #[.slice a1 Wk.pages.length c1, .slice a'1 Wk.wear.length c'1, .int .i64 Wk.fuse, .string Wk.torn, .bool Wk.dead] 31)).heap[w3.heap.size]? = some (.cells #[.slice a1 Wk.pages.length c1, .slice a'1 Wk.wear.length c'1, .int .i64 Wk.fuse, .string Wk.torn, .bool Wk.dead] 31) := alloc_at _ _
    have hc := pappend_calls Wk _ page s (w3.alloc (.cells #[.slice a1 Wk.pages.length c1, .slice a'1 Wk.wear.length c'1, .int .i64 Wk.fuse, .string Wk.torn, .bool Wk.dead] 31)) (hr1.ups (up1 _ _)) fW
    rw [hG] at hc
    go_wp2_with fail
    refine hc.mono ?_
    clear hc
    rintro e w4 ⟨v2, rfl, hn⟩
    have ub4 : Ups (w3.alloc (.cells #[.slice a1 Wk.pages.length c1, .slice a'1 Wk.wear.length c'1, .int .i64 Wk.fuse, .string Wk.torn, .bool Wk.dead] 31)) w4 := hn.ups
    replace hrf := hrf.ups (Ups.trans (up1 _ _) ub4)
    replace hbf := block_ups hbf (Ups.trans (up1 _ _) ub4)
    have ltf_4 : w.heap.size < w4.heap.size := (Array.getElem?_eq_some_iff.1 hbf).1
    replace hr1 := hr1.ups (Ups.trans (up1 _ _) ub4)
    replace hb1 := block_ups hb1 ub4
    have lt1_4 : w3.heap.size < w4.heap.size := (Array.getElem?_eq_some_iff.1 hb1).1
    replace uw := Ups.trans uw (Ups.trans (up1 _ _) ub4)
    have hr2 := hn.reads
    clear hn
    have hs2 := hr2
    obtain ⟨_, _, rfl, ⟨a2, c2, rfl, _⟩, ⟨a'2, c'2, rfl, _⟩⟩ := hs2
    have hb2 : (w4.alloc (.cells #[.slice a2 G.pages.length c2, .slice a'2 G.wear.length c'2, .int .i64 G.fuse, .string G.torn, .bool G.dead] 31)).heap[w4.heap.size]? = some (.cells #[.slice a2 G.pages.length c2, .slice a'2 G.wear.length c'2, .int .i64 G.fuse, .string G.torn, .bool G.dead] 31) := alloc_at _ _
    rcases HP.out with rfl | ⟨rfl, hGW, hcodes⟩ | ⟨rfl, rfl, pg, rfl, hpg, K0⟩
    · go_wp2_with fail
      exact bodyPost_ret (v := .bool true) (results_one rfl rfl) rfl ⟨rfl, Ups.trans uw (up1 _ _)⟩
    · subst hGW
      rcases hcodes with rfl | rfl
      · have hc := same_calls G G _ _ (w4.alloc (.cells #[.slice a2 G.pages.length c2, .slice a'2 G.wear.length c'2, .int .i64 G.fuse, .string G.torn, .bool G.dead] 31)) (hr2.ups (up1 _ _)) (hr1.ups (up1 _ _)) (by have := LW.out; have := n12.out; omega) (by have := LW.out; have := n12.out; omega) (by have := LW.out; have := n12.out; omega) (by have := LW.out; have := n12.out; omega)
        rw [sameB_refl] at hc
        obtain ⟨k10, k11, k12, k13, k14⟩ := block_cells hb1
        go_wp2_with fail
        refine hc.mono ?_
        clear hc
        rintro e w5 ⟨rfl, uu⟩
        clear k10 k11 k12 k13 k14
        have ub5 : Ups (w4.alloc (.cells #[.slice a2 G.pages.length c2, .slice a'2 G.wear.length c'2, .int .i64 G.fuse, .string G.torn, .bool G.dead] 31)) w5 := uu
        replace hrf := hrf.ups (Ups.trans (up1 _ _) ub5)
        replace hbf := block_ups hbf (Ups.trans (up1 _ _) ub5)
        have ltf_5 : w.heap.size < w5.heap.size := (Array.getElem?_eq_some_iff.1 hbf).1
        replace hr1 := hr1.ups (Ups.trans (up1 _ _) ub5)
        replace hb1 := block_ups hb1 (Ups.trans (up1 _ _) ub5)
        have lt1_5 : w3.heap.size < w5.heap.size := (Array.getElem?_eq_some_iff.1 hb1).1
        replace hr2 := hr2.ups (Ups.trans (up1 _ _) ub5)
        replace hb2 := block_ups hb2 ub5
        have lt2_5 : w4.heap.size < w5.heap.size := (Array.getElem?_eq_some_iff.1 hb2).1
        replace uw := Ups.trans uw (Ups.trans (up1 _ _) ub5)
        clear uu
        go_wp2_with fail
        exact bodyPost_ret (v := .bool true) (results_one rfl rfl) rfl ⟨rfl, Ups.trans uw (Ups.refl _)⟩
      · have hc := same_calls G G _ _ (w4.alloc (.cells #[.slice a2 G.pages.length c2, .slice a'2 G.wear.length c'2, .int .i64 G.fuse, .string G.torn, .bool G.dead] 31)) (hr2.ups (up1 _ _)) (hr1.ups (up1 _ _)) (by have := LW.out; have := n12.out; omega) (by have := LW.out; have := n12.out; omega) (by have := LW.out; have := n12.out; omega) (by have := LW.out; have := n12.out; omega)
        rw [sameB_refl] at hc
        obtain ⟨k10, k11, k12, k13, k14⟩ := block_cells hb1
        go_wp2_with fail
        refine hc.mono ?_
        clear hc
        rintro e w5 ⟨rfl, uu⟩
        clear k10 k11 k12 k13 k14
        have ub5 : Ups (w4.alloc (.cells #[.slice a2 G.pages.length c2, .slice a'2 G.wear.length c'2, .int .i64 G.fuse, .string G.torn, .bool G.dead] 31)) w5 := uu
        replace hrf := hrf.ups (Ups.trans (up1 _ _) ub5)
        replace hbf := block_ups hbf (Ups.trans (up1 _ _) ub5)
        have ltf_5 : w.heap.size < w5.heap.size := (Array.getElem?_eq_some_iff.1 hbf).1
        replace hr1 := hr1.ups (Ups.trans (up1 _ _) ub5)
        replace hb1 := block_ups hb1 (Ups.trans (up1 _ _) ub5)
        have lt1_5 : w3.heap.size < w5.heap.size := (Array.getElem?_eq_some_iff.1 hb1).1
        replace hr2 := hr2.ups (Ups.trans (up1 _ _) ub5)
        replace hb2 := block_ups hb2 ub5
        have lt2_5 : w4.heap.size < w5.heap.size := (Array.getElem?_eq_some_iff.1 hb2).1
        replace uw := Ups.trans uw (Ups.trans (up1 _ _) ub5)
        clear uu
        go_wp2_with fail
        exact bodyPost_ret (v := .bool true) (results_one rfl rfl) rfl ⟨rfl, Ups.trans uw (Ups.refl _)⟩
    · have hpn : ¬ f.pages.length ≤ pg := by omega
      have iF : (pg : Int) < f.pages.length := by omega
      have iG : (pg : Int) < G.pages.length := by rw [K0.len]; omega
      have qG : ((G.pages.length : Int) != f.pages.length) = false := by rw [K0.len]; simp
      obtain ⟨bf, of, rfl, cf'⟩ := hrf.page hpg
      obtain ⟨bg, og, rfl, cg'⟩ := hr2.page (k := pg) (by rw [K0.len]; exact hpg)
      have K := Lib.hid K0
      have hsm := K0.small
      have hszg := K0.size
      clear K0
      generalize hsf : oldT f pg = tf at *
      generalize hsg : oldT G pg = tg at *
      have HSF := Lib.hid hsf
      have HSG := Lib.hid hsg
      clear hsf hsg
      have cfa : (w4.alloc (.cells #[.slice (some ⟨bg, og, none⟩) G.pages.length c2, .slice a'2 G.wear.length c'2, .int .i64 G.fuse, .string G.torn, .bool G.dead] 31)).cell? ⟨bf, of + pg, none⟩ = some (.string tf) := cell_ups (up1 _ _) cf'
      have hll := recsN_le tf (sizeN (s.size : Int))
      have cl := fun W => records_calls tf (s.size : Int) W (by omega)
      have cm := fun W => records_calls tg (s.size : Int) W (by omega)
      have cn1 := fun W => next_calls tg (s.size : Int) W (by omega)
      have cn2 := fun W => next_calls tf (s.size : Int) W (by omega)
      have cb1 := fun W => bad_calls tg (s.size : Int) W (by omega)
      have cb2 := fun W => bad_calls tf (s.size : Int) W (by omega)
      have cr1 := fun W => proom_calls tg (s.size : Int) W (by omega)
      have cr2 := fun W => proom_calls tf (s.size : Int) W (by omega)
      have nxl := nextN_le tf (sizeN (s.size : Int))
      have rml : tf.size / sizeN (s.size : Int) ≤ tf.size := Nat.div_le_self _ _
      have bdl := countTo_le (fun k => badT (place tf (sizeN (s.size : Int)) k)) (tf.size / sizeN (s.size : Int))
      rw [show countTo (fun k => badT (place tf (sizeN (s.size : Int)) k)) (tf.size / sizeN (s.size : Int)) = badN tf (sizeN (s.size : Int)) from rfl] at bdl
      rw [hszg] at cr1
      have kr := K.out.recs
      have kn := K.out.next
      have kb := K.out.bad
      have kd := K.out.dead
      rw [HSF.out, HSG.out] at kr kn kb
      generalize recsN tf (sizeN (s.size : Int)) = l at *
      generalize nextN tf (sizeN (s.size : Int)) = nx at *
      generalize badN tf (sizeN (s.size : Int)) = bd at *
      generalize recsN tg (sizeN (s.size : Int)) = lm at *
      generalize nextN tg (sizeN (s.size : Int)) = nm at *
      generalize badN tg (sizeN (s.size : Int)) = bm at *
      generalize tf.size / sizeN (s.size : Int) = rm at *
      have KD := Lib.hid kd
      clear kd
      have hbm : bm ≤ bd + 1 := kb
      clear kb
      rcases kr with hkr | hkr
      · have hkr2 := hkr.symm
        clear hkr
        subst hkr2
        rcases kn with hkn | hkn
        · have hkn2 := hkn.symm
          clear hkn
          subst hkn2
          
          obtain ⟨kf0, kf1, kf2, kf3, kf4⟩ := block_cells hbf
          go_wp2_with fail
          refine (cl _).mono ?_
          clear cfa
          rintro e w5 ⟨vl, rfl, ho, uu⟩
          clear kf0 kf1 kf2 kf3 kf4
          replace cf' := cell_ups (Ups.trans (up1 _ _) uu) cf'
          replace cg' := cell_ups (Ups.trans (up1 _ _) uu) cg'
          have ub5 : Ups (w4.alloc (.cells #[.slice (some ⟨bg, og, none⟩) G.pages.length c2, .slice a'2 G.wear.length c'2, .int .i64 G.fuse, .string G.torn, .bool G.dead] 31)) w5 := uu
          replace hrf := hrf.ups (Ups.trans (up1 _ _) ub5)
          replace hbf := block_ups hbf (Ups.trans (up1 _ _) ub5)
          have ltf_5 : w.heap.size < w5.heap.size := (Array.getElem?_eq_some_iff.1 hbf).1
          replace hr1 := hr1.ups (Ups.trans (up1 _ _) ub5)
          replace hb1 := block_ups hb1 (Ups.trans (up1 _ _) ub5)
          have lt1_5 : w3.heap.size < w5.heap.size := (Array.getElem?_eq_some_iff.1 hb1).1
          replace hr2 := hr2.ups (Ups.trans (up1 _ _) ub5)
          replace hb2 := block_ups hb2 ub5
          have lt2_5 : w4.heap.size < w5.heap.size := (Array.getElem?_eq_some_iff.1 hb2).1
          replace uw := Ups.trans uw (Ups.trans (up1 _ _) ub5)
          clear uu
          obtain ⟨k20, k21, k22, k23, k24⟩ := block_cells hb2
          go_wp2_with fail
          refine (cm _).mono ?_
          rintro e w6 ⟨vm, rfl, hm, uu⟩
          clear k20 k21 k22 k23 k24
          replace cf' := cell_ups (Ups.trans (Ups.refl _) uu) cf'
          replace cg' := cell_ups (Ups.trans (Ups.refl _) uu) cg'
          replace ho := owns_ups ho uu
          have hmt := owns_texts hm
          clear hm
          have ub6 : Ups w5 w6 := uu
          replace hrf := hrf.ups (Ups.trans (Ups.refl _) ub6)
          replace hbf := block_ups hbf (Ups.trans (Ups.refl _) ub6)
          have ltf_6 : w.heap.size < w6.heap.size := (Array.getElem?_eq_some_iff.1 hbf).1
          replace hr1 := hr1.ups (Ups.trans (Ups.refl _) ub6)
          replace hb1 := block_ups hb1 (Ups.trans (Ups.refl _) ub6)
          have lt1_6 : w3.heap.size < w6.heap.size := (Array.getElem?_eq_some_iff.1 hb1).1
          replace hr2 := hr2.ups (Ups.trans (Ups.refl _) ub6)
          replace hb2 := block_ups hb2 (Ups.trans (Ups.refl _) ub6)
          have lt2_6 : w4.heap.size < w6.heap.size := (Array.getElem?_eq_some_iff.1 hb2).1
          replace uw := Ups.trans uw (Ups.trans (Ups.refl _) ub6)
          clear uu
          have ht := rtexts_calls hmt (owns_texts ho) (by omega)
          rw [show decide (l = l) = true from decide_eq_true rfl] at ht
          go_wp2_with fail
          refine ht.mono ?_
          clear ht hmt ho
          rintro e w7 ⟨rfl, uu⟩
          replace cf' := cell_ups uu cf'
          replace cg' := cell_ups uu cg'
          have ub7 : Ups w6 w7 := uu
          replace hrf := hrf.ups (Ups.trans (Ups.refl _) ub7)
          replace hbf := block_ups hbf (Ups.trans (Ups.refl _) ub7)
          have ltf_7 : w.heap.size < w7.heap.size := (Array.getElem?_eq_some_iff.1 hbf).1
          replace hr1 := hr1.ups (Ups.trans (Ups.refl _) ub7)
          replace hb1 := block_ups hb1 (Ups.trans (Ups.refl _) ub7)
          have lt1_7 : w3.heap.size < w7.heap.size := (Array.getElem?_eq_some_iff.1 hb1).1
          replace hr2 := hr2.ups (Ups.trans (Ups.refl _) ub7)
          replace hb2 := block_ups hb2 (Ups.trans (Ups.refl _) ub7)
          have lt2_7 : w4.heap.size < w7.heap.size := (Array.getElem?_eq_some_iff.1 hb2).1
          replace uw := Ups.trans uw (Ups.trans (Ups.refl _) ub7)
          clear uu
          go_wp2_with fail
          have hwb : IntKind.i64.wrap ((bd : Int) + 1) = (bd : Int) + 1 := (IntWalk.i64_left _).trans (IntWalk.wrap64_in _ ⟨by omega, by omega⟩)
          have hws : IntKind.i64.wrap 0 = 0 := rfl
          have mf := fun W (hU : Ups (World.drew w7) W) => block_cells (block_ups hbf (drew_ups hU))
          have m2 := fun W (hU : Ups (World.drew w7) W) => block_cells (block_ups hb2 (drew_ups hU))
          have ef := fun W (hU : Ups (World.drew w7) W) => cell_ups (drew_ups hU) cf'
          have eg := fun W (hU : Ups (World.drew w7) W) => cell_ups (drew_ups hU) cg'
          clear hwb
          refine wp_region_parts (N := 16) (n := 153) (ks := [isV (.pointer (some ⟨w4.heap.size, 0, none⟩)), isV (.slice (some ⟨bg, og, none⟩) G.pages.length c2), isV (.int .i64 pg), isV (.pointer (some ⟨bg, og + pg, none⟩)), isV (.string tg), isV (.int .i64 s.size), isV (.int .i64 nx), isV (.pointer (some ⟨w.heap.size, 0, none⟩)), isV (.slice (some ⟨bf, of, none⟩) f.pages.length cf), isV (.int .i64 pg), isV (.pointer (some ⟨bf, of + pg, none⟩)), isV (.string tf), isV (.int .i64 s.size), isV (.int .i64 nx), isV (.int .i64 0), isV (.int .i64 0)]) (by decide +kernel) (by decide +kernel) (by decide +kernel) (by simp) rfl (by decide +kernel) ⟨steady_is _, steady_is _, steady_is _, steady_is _, steady_is _, steady_is _, steady_is _, steady_is _, steady_is _, steady_is _, steady_is _, steady_is _, steady_is _, steady_is _, steady_is _, steady_is _, trivial⟩ ?_ ?_
          · refine And.intro (fun ac W hO hU H => ?_) ?_
            · have h13 : ac.tmps[13]? = some (.pointer (some ⟨w4.heap.size, 0, none⟩)) := (hO 13 rfl).trans rfl
              exact growOp_plain rfl (parts_value (by simp [go_sem, h13]))
            refine And.intro (fun ac W hO hU H => ?_) ?_
            · have h104 : ac.tmps[104]? = some (.pointer (some ⟨w4.heap.size, 0, none⟩)) := isV_get (W := W) (H 0 104 rfl)
              have f0 := (m2 W hU).1
              exact growOp_plain rfl (parts_value (by simp [go_sem, h104, f0]))
            refine And.intro (fun ac W hO hU H => ?_) ?_
            · have h1 : ac.tmps[1]? = some (.int .i64 pg) := (hO 1 rfl).trans rfl
              exact growOp_plain rfl (parts_value (by simp [go_sem, h1]))
            refine And.intro (fun ac W hO hU H => ?_) ?_
            · have h105 : ac.tmps[105]? = some (.slice (some ⟨bg, og, none⟩) G.pages.length c2) := isV_get (W := W) (H 1 105 rfl)
              have h106 : ac.tmps[106]? = some (.int .i64 pg) := isV_get (W := W) (H 2 106 rfl)
              exact growOp_plain rfl (parts_value (by simp [go_sem, h105, h106, iG]))
            refine And.intro (fun ac W hO hU H => ?_) ?_
            · have h107 : ac.tmps[107]? = some (.pointer (some ⟨bg, og + pg, none⟩)) := isV_get (W := W) (H 3 107 rfl)
              have f0 := eg W hU
              exact growOp_plain rfl (parts_value (by simp [go_sem, h107, f0]))
            refine And.intro (fun ac W hO hU H => ?_) ?_
            · have h15 : ac.tmps[15]? = some (.int .i64 s.size) := (hO 15 rfl).trans rfl
              exact growOp_plain rfl (parts_value (by simp [go_sem, h15]))
            refine And.intro (fun ac W hO hU H => ?_) ?_
            · have h108 : ac.tmps[108]? = some (.string tg) := isV_get (W := W) (H 4 108 rfl)
              have h109 : ac.tmps[109]? = some (.int .i64 s.size) := isV_get (W := W) (H 5 109 rfl)
              exact growOp_plain rfl (parts_call_is (args := #[.string tg, .int .i64 s.size]) (by simp [go_sem, h108, h109]) (cn1 W))
            refine And.intro (fun ac W hO hU H => ?_) ?_
            · have h4 : ac.tmps[4]? = some (.pointer (some ⟨w.heap.size, 0, none⟩)) := (hO 4 rfl).trans rfl
              exact growOp_plain rfl (parts_value (by simp [go_sem, h4]))
            refine And.intro (fun ac W hO hU H => ?_) ?_
            · have h111 : ac.tmps[111]? = some (.pointer (some ⟨w.heap.size, 0, none⟩)) := isV_get (W := W) (H 7 111 rfl)
              have f0 := (mf W hU).1
              exact growOp_plain rfl (parts_value (by simp [go_sem, h111, f0]))
            refine And.intro (fun ac W hO hU H => ?_) ?_
            · have h1 : ac.tmps[1]? = some (.int .i64 pg) := (hO 1 rfl).trans rfl
              exact growOp_plain rfl (parts_value (by simp [go_sem, h1]))
            refine And.intro (fun ac W hO hU H => ?_) ?_
            · have h112 : ac.tmps[112]? = some (.slice (some ⟨bf, of, none⟩) f.pages.length cf) := isV_get (W := W) (H 8 112 rfl)
              have h113 : ac.tmps[113]? = some (.int .i64 pg) := isV_get (W := W) (H 9 113 rfl)
              exact growOp_plain rfl (parts_value (by simp [go_sem, h112, h113, iF]))
            refine And.intro (fun ac W hO hU H => ?_) ?_
            · have h114 : ac.tmps[114]? = some (.pointer (some ⟨bf, of + pg, none⟩)) := isV_get (W := W) (H 10 114 rfl)
              have f0 := ef W hU
              exact growOp_plain rfl (parts_value (by simp [go_sem, h114, f0]))
            refine And.intro (fun ac W hO hU H => ?_) ?_
            · have h15 : ac.tmps[15]? = some (.int .i64 s.size) := (hO 15 rfl).trans rfl
              exact growOp_plain rfl (parts_value (by simp [go_sem, h15]))
            refine And.intro (fun ac W hO hU H => ?_) ?_
            · have h115 : ac.tmps[115]? = some (.string tf) := isV_get (W := W) (H 11 115 rfl)
              have h116 : ac.tmps[116]? = some (.int .i64 s.size) := isV_get (W := W) (H 12 116 rfl)
              exact growOp_plain rfl (parts_call_is (args := #[.string tf, .int .i64 s.size]) (by simp [go_sem, h115, h116]) (cn2 W))
            refine And.intro (fun ac W hO hU H => ?_) ?_
            · have h110 : ac.tmps[110]? = some (.int .i64 nx) := isV_get (W := W) (H 6 110 rfl)
              have h117 : ac.tmps[117]? = some (.int .i64 nx) := isV_get (W := W) (H 13 117 rfl)
              exact growOp_plain rfl (parts_value (by simp [go_sem, h110, h117, hws]))
            refine And.intro (fun ac W hO hU H => ?_) ?_
            · have h118 : ac.tmps[118]? = some (.int .i64 0) := isV_get (W := W) (H 14 118 rfl)
              exact growOp_plain rfl (parts_value (by simp [go_sem, h118]))
            exact trivial
          · intro w8 xs hU hks
            obtain ⟨y0, rfl, g0⟩ := holdAll_is hks
            obtain ⟨y1, rfl, g1⟩ := holdAll_is g0
            obtain ⟨y2, rfl, g2⟩ := holdAll_is g1
            obtain ⟨y3, rfl, g3⟩ := holdAll_is g2
            obtain ⟨y4, rfl, g4⟩ := holdAll_is g3
            obtain ⟨y5, rfl, g5⟩ := holdAll_is g4
            obtain ⟨y6, rfl, g6⟩ := holdAll_is g5
            obtain ⟨y7, rfl, g7⟩ := holdAll_is g6
            obtain ⟨y8, rfl, g8⟩ := holdAll_is g7
            obtain ⟨y9, rfl, g9⟩ := holdAll_is g8
            obtain ⟨y10, rfl, g10⟩ := holdAll_is g9
            obtain ⟨y11, rfl, g11⟩ := holdAll_is g10
            obtain ⟨y12, rfl, g12⟩ := holdAll_is g11
            obtain ⟨y13, rfl, g13⟩ := holdAll_is g12
            obtain ⟨y14, rfl, g14⟩ := holdAll_is g13
            obtain ⟨y15, rfl, g15⟩ := holdAll_is g14
            obtain rfl := holdAll_nil g15
            clear hks g0 g1 g2 g3 g4 g5 g6 g7 g8 g9 g10 g11 g12 g13 g14 g15
            simp only [List.take_succ_cons, List.take_zero, List.drop_succ_cons, List.drop_zero, endTmps, List.setIfInBounds_toArray, List.set]
            have ub8 : Ups w7 w8 := drew_ups hU
            replace hrf := hrf.ups (Ups.trans (Ups.refl _) ub8)
            replace hbf := block_ups hbf (Ups.trans (Ups.refl _) ub8)
            have ltf_8 : w.heap.size < w8.heap.size := (Array.getElem?_eq_some_iff.1 hbf).1
            replace hr1 := hr1.ups (Ups.trans (Ups.refl _) ub8)
            replace hb1 := block_ups hb1 (Ups.trans (Ups.refl _) ub8)
            have lt1_8 : w3.heap.size < w8.heap.size := (Array.getElem?_eq_some_iff.1 hb1).1
            replace hr2 := hr2.ups (Ups.trans (Ups.refl _) ub8)
            replace hb2 := block_ups hb2 (Ups.trans (Ups.refl _) ub8)
            have lt2_8 : w4.heap.size < w8.heap.size := (Array.getElem?_eq_some_iff.1 hb2).1
            replace uw := Ups.trans uw (Ups.trans (Ups.refl _) ub8)
            clear hU
            clear mf m2 ef eg
            replace cf' := cell_ups ub8 cf'
            replace cg' := cell_ups ub8 cg'
            have hwb : IntKind.i64.wrap ((bd : Int) + 1) = (bd : Int) + 1 := (IntWalk.i64_left _).trans (IntWalk.wrap64_in _ ⟨by omega, by omega⟩)
            have hbb : (bm : Int) ≤ (bd : Int) + 1 := by omega
            go_wp2_with fail
            have mf := fun W (hU : Ups (World.drew w8) W) => block_cells (block_ups hbf (drew_ups hU))
            have m2 := fun W (hU : Ups (World.drew w8) W) => block_cells (block_ups hb2 (drew_ups hU))
            have ef := fun W (hU : Ups (World.drew w8) W) => cell_ups (drew_ups hU) cf'
            have eg := fun W (hU : Ups (World.drew w8) W) => cell_ups (drew_ups hU) cg'
            refine wp_region_parts (N := 35) (n := 153) (ks := [isV (.bool true), isV (.bool true), isV (.bool true), isV (.bool true), isV (.bool true), isV (.pointer (some ⟨w4.heap.size, 4, none⟩)), isV (.bool true), isV (.bool true), isV (.bool true), isV (.int .i64 0), isV (.bool true), isV (.bool true), isV (undef), isV (undef), isV (.bool true), isV (.bool true), isV (.bool true), isV (.pointer (some ⟨w4.heap.size, 0, none⟩)), isV (.slice (some ⟨bg, og, none⟩) G.pages.length c2), isV (.int .i64 pg), isV (.pointer (some ⟨bg, og + pg, none⟩)), isV (.string tg), isV (.int .i64 s.size), isV (.int .i64 bm), isV (.pointer (some ⟨w.heap.size, 0, none⟩)), isV (.slice (some ⟨bf, of, none⟩) f.pages.length cf), isV (.int .i64 pg), isV (.pointer (some ⟨bf, of + pg, none⟩)), isV (.string tf), isV (.int .i64 s.size), isV (.int .i64 bd), isV (.int .i64 (bd + 1)), isV (.bool true), isV (.bool true), isV (.bool true)]) (by decide +kernel) (by decide +kernel) (by decide +kernel) (by simp) rfl (by decide +kernel) ⟨steady_is _, steady_is _, steady_is _, steady_is _, steady_is _, steady_is _, steady_is _, steady_is _, steady_is _, steady_is _, steady_is _, steady_is _, steady_is _, steady_is _, steady_is _, steady_is _, steady_is _, steady_is _, steady_is _, steady_is _, steady_is _, steady_is _, steady_is _, steady_is _, steady_is _, steady_is _, steady_is _, steady_is _, steady_is _, steady_is _, steady_is _, steady_is _, steady_is _, steady_is _, steady_is _, trivial⟩ ?_ ?_
            · refine And.intro (fun ac W hO hU H => ?_) ?_
              · have h9 : ac.tmps[9]? = some (.bool true) := (hO 9 rfl).trans rfl
                exact growOp_plain rfl (parts_value (by simp [go_sem, h9]))
              refine And.intro (fun ac W hO hU H => ?_) ?_
              · have h119 : ac.tmps[119]? = some (.bool true) := isV_get (W := W) (H 0 119 rfl)
                exact growOp_plain rfl (parts_value (by simp [go_sem, h119]))
              refine And.intro (fun ac W hO hU H => ?_) ?_
              · have h18 : ac.tmps[18]? = some (.bool true) := (hO 18 rfl).trans rfl
                have hg : ac.tmps[120]? = some (.bool true) := isV_get (W := W) (H 1 120 rfl)
                exact growOp_done rfl rfl hg (parts_value (by simp [go_sem, h18]))
              refine And.intro (fun ac W hO hU H => ?_) ?_
              · have h120 : ac.tmps[120]? = some (.bool true) := isV_get (W := W) (H 1 120 rfl)
                have h121 : ac.tmps[121]? = some (.bool true) := isV_get (W := W) (H 2 121 rfl)
                exact growOp_plain rfl (parts_value (by simp [go_sem, h120, h121]))
              refine And.intro (fun ac W hO hU H => ?_) ?_
              · have h122 : ac.tmps[122]? = some (.bool true) := isV_get (W := W) (H 3 122 rfl)
                exact growOp_plain rfl (parts_value (by simp [go_sem, h122]))
              refine And.intro (fun ac W hO hU H => ?_) ?_
              · have h13 : ac.tmps[13]? = some (.pointer (some ⟨w4.heap.size, 0, none⟩)) := (hO 13 rfl).trans rfl
                have hg : ac.tmps[123]? = some (.bool true) := isV_get (W := W) (H 4 123 rfl)
                exact growOp_done rfl rfl hg (parts_value (by simp [go_sem, h13]))
              refine And.intro (fun ac W hO hU H => ?_) ?_
              · have h124 : ac.tmps[124]? = some (.pointer (some ⟨w4.heap.size, 4, none⟩)) := isV_get (W := W) (H 5 124 rfl)
                have hg : ac.tmps[123]? = some (.bool true) := isV_get (W := W) (H 4 123 rfl)
                have f0 := (m2 W hU).2.2.2.2
                exact growOp_done rfl rfl hg (parts_value (by simp [go_sem, h124, f0, KD.out]))
              refine And.intro (fun ac W hO hU H => ?_) ?_
              · have h123 : ac.tmps[123]? = some (.bool true) := isV_get (W := W) (H 4 123 rfl)
                have h125 : ac.tmps[125]? = some (.bool true) := isV_get (W := W) (H 6 125 rfl)
                exact growOp_plain rfl (parts_value (by simp [go_sem, h123, h125]))
              refine And.intro (fun ac W hO hU H => ?_) ?_
              · have h126 : ac.tmps[126]? = some (.bool true) := isV_get (W := W) (H 7 126 rfl)
                exact growOp_plain rfl (parts_value (by simp [go_sem, h126]))
              refine And.intro (fun ac W hO hU H => ?_) ?_
              · have h19 : ac.tmps[19]? = some (.int .i64 0) := (hO 19 rfl).trans rfl
                have hg : ac.tmps[127]? = some (.bool true) := isV_get (W := W) (H 8 127 rfl)
                exact growOp_done rfl rfl hg (parts_value (by simp [go_sem, h19]))
              refine And.intro (fun ac W hO hU H => ?_) ?_
              · have h128 : ac.tmps[128]? = some (.int .i64 0) := isV_get (W := W) (H 9 128 rfl)
                have hg : ac.tmps[127]? = some (.bool true) := isV_get (W := W) (H 8 127 rfl)
                exact growOp_done rfl rfl hg (parts_value (by simp [go_sem, h128]))
              refine And.intro (fun ac W hO hU H => ?_) ?_
              · have h129 : ac.tmps[129]? = some (.bool true) := isV_get (W := W) (H 10 129 rfl)
                have hg : ac.tmps[127]? = some (.bool true) := isV_get (W := W) (H 8 127 rfl)
                exact growOp_done rfl rfl hg (parts_value (by simp [go_sem, h129]))
              refine And.intro (fun ac W hO hU H => ?_) ?_
              · have hg : ac.tmps[130]? = some (.bool true) := isV_get (W := W) (H 11 130 rfl)
                exact growOp_left rfl rfl hg Ups.refl rfl
              refine And.intro (fun ac W hO hU H => ?_) ?_
              · have hg : ac.tmps[130]? = some (.bool true) := isV_get (W := W) (H 11 130 rfl)
                exact growOp_left rfl rfl hg Ups.refl rfl
              refine And.intro (fun ac W hO hU H => ?_) ?_
              · have h130 : ac.tmps[130]? = some (.bool true) := isV_get (W := W) (H 11 130 rfl)
                have h132 : ac.tmps[132]? = some (undef) := isV_get (W := W) (H 13 132 rfl)
                have hg : ac.tmps[127]? = some (.bool true) := isV_get (W := W) (H 8 127 rfl)
                exact growOp_done rfl rfl hg (parts_value (by simp [go_sem, h130, h132]))
              refine And.intro (fun ac W hO hU H => ?_) ?_
              · have h127 : ac.tmps[127]? = some (.bool true) := isV_get (W := W) (H 8 127 rfl)
                have h133 : ac.tmps[133]? = some (.bool true) := isV_get (W := W) (H 14 133 rfl)
                exact growOp_plain rfl (parts_value (by simp [go_sem, h127, h133]))
              refine And.intro (fun ac W hO hU H => ?_) ?_
              · have h134 : ac.tmps[134]? = some (.bool true) := isV_get (W := W) (H 15 134 rfl)
                exact growOp_plain rfl (parts_value (by simp [go_sem, h134]))
              refine And.intro (fun ac W hO hU H => ?_) ?_
              · have h13 : ac.tmps[13]? = some (.pointer (some ⟨w4.heap.size, 0, none⟩)) := (hO 13 rfl).trans rfl
                have hg : ac.tmps[135]? = some (.bool true) := isV_get (W := W) (H 16 135 rfl)
                exact growOp_done rfl rfl hg (parts_value (by simp [go_sem, h13]))
              refine And.intro (fun ac W hO hU H => ?_) ?_
              · have h136 : ac.tmps[136]? = some (.pointer (some ⟨w4.heap.size, 0, none⟩)) := isV_get (W := W) (H 17 136 rfl)
                have hg : ac.tmps[135]? = some (.bool true) := isV_get (W := W) (H 16 135 rfl)
                have f0 := (m2 W hU).1
                exact growOp_done rfl rfl hg (parts_value (by simp [go_sem, h136, f0]))
              refine And.intro (fun ac W hO hU H => ?_) ?_
              · have h1 : ac.tmps[1]? = some (.int .i64 pg) := (hO 1 rfl).trans rfl
                have hg : ac.tmps[135]? = some (.bool true) := isV_get (W := W) (H 16 135 rfl)
                exact growOp_done rfl rfl hg (parts_value (by simp [go_sem, h1]))
              refine And.intro (fun ac W hO hU H => ?_) ?_
              · have h137 : ac.tmps[137]? = some (.slice (some ⟨bg, og, none⟩) G.pages.length c2) := isV_get (W := W) (H 18 137 rfl)
                have h138 : ac.tmps[138]? = some (.int .i64 pg) := isV_get (W := W) (H 19 138 rfl)
                have hg : ac.tmps[135]? = some (.bool true) := isV_get (W := W) (H 16 135 rfl)
                exact growOp_done rfl rfl hg (parts_value (by simp [go_sem, h137, h138, iG]))
              refine And.intro (fun ac W hO hU H => ?_) ?_
              · have h139 : ac.tmps[139]? = some (.pointer (some ⟨bg, og + pg, none⟩)) := isV_get (W := W) (H 20 139 rfl)
                have hg : ac.tmps[135]? = some (.bool true) := isV_get (W := W) (H 16 135 rfl)
                have f0 := eg W hU
                exact growOp_done rfl rfl hg (parts_value (by simp [go_sem, h139, f0]))
              refine And.intro (fun ac W hO hU H => ?_) ?_
              · have h15 : ac.tmps[15]? = some (.int .i64 s.size) := (hO 15 rfl).trans rfl
                have hg : ac.tmps[135]? = some (.bool true) := isV_get (W := W) (H 16 135 rfl)
                exact growOp_done rfl rfl hg (parts_value (by simp [go_sem, h15]))
              refine And.intro (fun ac W hO hU H => ?_) ?_
              · have h140 : ac.tmps[140]? = some (.string tg) := isV_get (W := W) (H 21 140 rfl)
                have h141 : ac.tmps[141]? = some (.int .i64 s.size) := isV_get (W := W) (H 22 141 rfl)
                have hg : ac.tmps[135]? = some (.bool true) := isV_get (W := W) (H 16 135 rfl)
                exact growOp_done rfl rfl hg (parts_call_is (args := #[.string tg, .int .i64 s.size]) (by simp [go_sem, h140, h141]) (cb1 W))
              refine And.intro (fun ac W hO hU H => ?_) ?_
              · have h4 : ac.tmps[4]? = some (.pointer (some ⟨w.heap.size, 0, none⟩)) := (hO 4 rfl).trans rfl
                have hg : ac.tmps[135]? = some (.bool true) := isV_get (W := W) (H 16 135 rfl)
                exact growOp_done rfl rfl hg (parts_value (by simp [go_sem, h4]))
              refine And.intro (fun ac W hO hU H => ?_) ?_
              · have h143 : ac.tmps[143]? = some (.pointer (some ⟨w.heap.size, 0, none⟩)) := isV_get (W := W) (H 24 143 rfl)
                have hg : ac.tmps[135]? = some (.bool true) := isV_get (W := W) (H 16 135 rfl)
                have f0 := (mf W hU).1
                exact growOp_done rfl rfl hg (parts_value (by simp [go_sem, h143, f0]))
              refine And.intro (fun ac W hO hU H => ?_) ?_
              · have h1 : ac.tmps[1]? = some (.int .i64 pg) := (hO 1 rfl).trans rfl
                have hg : ac.tmps[135]? = some (.bool true) := isV_get (W := W) (H 16 135 rfl)
                exact growOp_done rfl rfl hg (parts_value (by simp [go_sem, h1]))
              refine And.intro (fun ac W hO hU H => ?_) ?_
              · have h144 : ac.tmps[144]? = some (.slice (some ⟨bf, of, none⟩) f.pages.length cf) := isV_get (W := W) (H 25 144 rfl)
                have h145 : ac.tmps[145]? = some (.int .i64 pg) := isV_get (W := W) (H 26 145 rfl)
                have hg : ac.tmps[135]? = some (.bool true) := isV_get (W := W) (H 16 135 rfl)
                exact growOp_done rfl rfl hg (parts_value (by simp [go_sem, h144, h145, iF]))
              refine And.intro (fun ac W hO hU H => ?_) ?_
              · have h146 : ac.tmps[146]? = some (.pointer (some ⟨bf, of + pg, none⟩)) := isV_get (W := W) (H 27 146 rfl)
                have hg : ac.tmps[135]? = some (.bool true) := isV_get (W := W) (H 16 135 rfl)
                have f0 := ef W hU
                exact growOp_done rfl rfl hg (parts_value (by simp [go_sem, h146, f0]))
              refine And.intro (fun ac W hO hU H => ?_) ?_
              · have h15 : ac.tmps[15]? = some (.int .i64 s.size) := (hO 15 rfl).trans rfl
                have hg : ac.tmps[135]? = some (.bool true) := isV_get (W := W) (H 16 135 rfl)
                exact growOp_done rfl rfl hg (parts_value (by simp [go_sem, h15]))
              refine And.intro (fun ac W hO hU H => ?_) ?_
              · have h147 : ac.tmps[147]? = some (.string tf) := isV_get (W := W) (H 28 147 rfl)
                have h148 : ac.tmps[148]? = some (.int .i64 s.size) := isV_get (W := W) (H 29 148 rfl)
                have hg : ac.tmps[135]? = some (.bool true) := isV_get (W := W) (H 16 135 rfl)
                exact growOp_done rfl rfl hg (parts_call_is (args := #[.string tf, .int .i64 s.size]) (by simp [go_sem, h147, h148]) (cb2 W))
              refine And.intro (fun ac W hO hU H => ?_) ?_
              · have h149 : ac.tmps[149]? = some (.int .i64 bd) := isV_get (W := W) (H 30 149 rfl)
                have hg : ac.tmps[135]? = some (.bool true) := isV_get (W := W) (H 16 135 rfl)
                exact growOp_done rfl rfl hg (parts_value (by simp [go_sem, h149, hwb]))
              refine And.intro (fun ac W hO hU H => ?_) ?_
              · have h142 : ac.tmps[142]? = some (.int .i64 bm) := isV_get (W := W) (H 23 142 rfl)
                have h150 : ac.tmps[150]? = some (.int .i64 (bd + 1)) := isV_get (W := W) (H 31 150 rfl)
                have hg : ac.tmps[135]? = some (.bool true) := isV_get (W := W) (H 16 135 rfl)
                exact growOp_done rfl rfl hg (parts_value (by simp [go_sem, h142, h150, hbb]))
              refine And.intro (fun ac W hO hU H => ?_) ?_
              · have h135 : ac.tmps[135]? = some (.bool true) := isV_get (W := W) (H 16 135 rfl)
                have h151 : ac.tmps[151]? = some (.bool true) := isV_get (W := W) (H 32 151 rfl)
                exact growOp_plain rfl (parts_value (by simp [go_sem, h135, h151]))
              refine And.intro (fun ac W hO hU H => ?_) ?_
              · have h152 : ac.tmps[152]? = some (.bool true) := isV_get (W := W) (H 33 152 rfl)
                exact growOp_plain rfl (parts_value (by simp [go_sem, h152]))
              exact trivial
            · intro w9 xs hU hks
              obtain ⟨y0, rfl, g0⟩ := holdAll_is hks
              obtain ⟨y1, rfl, g1⟩ := holdAll_is g0
              obtain ⟨y2, rfl, g2⟩ := holdAll_is g1
              obtain ⟨y3, rfl, g3⟩ := holdAll_is g2
              obtain ⟨y4, rfl, g4⟩ := holdAll_is g3
              obtain ⟨y5, rfl, g5⟩ := holdAll_is g4
              obtain ⟨y6, rfl, g6⟩ := holdAll_is g5
              obtain ⟨y7, rfl, g7⟩ := holdAll_is g6
              obtain ⟨y8, rfl, g8⟩ := holdAll_is g7
              obtain ⟨y9, rfl, g9⟩ := holdAll_is g8
              obtain ⟨y10, rfl, g10⟩ := holdAll_is g9
              obtain ⟨y11, rfl, g11⟩ := holdAll_is g10
              obtain ⟨y12, rfl, g12⟩ := holdAll_is g11
              obtain ⟨y13, rfl, g13⟩ := holdAll_is g12
              obtain ⟨y14, rfl, g14⟩ := holdAll_is g13
              obtain ⟨y15, rfl, g15⟩ := holdAll_is g14
              obtain ⟨y16, rfl, g16⟩ := holdAll_is g15
              obtain ⟨y17, rfl, g17⟩ := holdAll_is g16
              obtain ⟨y18, rfl, g18⟩ := holdAll_is g17
              obtain ⟨y19, rfl, g19⟩ := holdAll_is g18
              obtain ⟨y20, rfl, g20⟩ := holdAll_is g19
              obtain ⟨y21, rfl, g21⟩ := holdAll_is g20
              obtain ⟨y22, rfl, g22⟩ := holdAll_is g21
              obtain ⟨y23, rfl, g23⟩ := holdAll_is g22
              obtain ⟨y24, rfl, g24⟩ := holdAll_is g23
              obtain ⟨y25, rfl, g25⟩ := holdAll_is g24
              obtain ⟨y26, rfl, g26⟩ := holdAll_is g25
              obtain ⟨y27, rfl, g27⟩ := holdAll_is g26
              obtain ⟨y28, rfl, g28⟩ := holdAll_is g27
              obtain ⟨y29, rfl, g29⟩ := holdAll_is g28
              obtain ⟨y30, rfl, g30⟩ := holdAll_is g29
              obtain ⟨y31, rfl, g31⟩ := holdAll_is g30
              obtain ⟨y32, rfl, g32⟩ := holdAll_is g31
              obtain ⟨y33, rfl, g33⟩ := holdAll_is g32
              obtain ⟨y34, rfl, g34⟩ := holdAll_is g33
              obtain rfl := holdAll_nil g34
              clear hks g0 g1 g2 g3 g4 g5 g6 g7 g8 g9 g10 g11 g12 g13 g14 g15 g16 g17 g18 g19 g20 g21 g22 g23 g24 g25 g26 g27 g28 g29 g30 g31 g32 g33 g34
              simp only [List.take_succ_cons, List.take_zero, List.drop_succ_cons, List.drop_zero, endTmps, List.setIfInBounds_toArray, List.set]
              have ub9 : Ups w8 w9 := drew_ups hU
              replace hrf := hrf.ups (Ups.trans (Ups.refl _) ub9)
              replace hbf := block_ups hbf (Ups.trans (Ups.refl _) ub9)
              have ltf_9 : w.heap.size < w9.heap.size := (Array.getElem?_eq_some_iff.1 hbf).1
              replace hr1 := hr1.ups (Ups.trans (Ups.refl _) ub9)
              replace hb1 := block_ups hb1 (Ups.trans (Ups.refl _) ub9)
              have lt1_9 : w3.heap.size < w9.heap.size := (Array.getElem?_eq_some_iff.1 hb1).1
              replace hr2 := hr2.ups (Ups.trans (Ups.refl _) ub9)
              replace hb2 := block_ups hb2 (Ups.trans (Ups.refl _) ub9)
              have lt2_9 : w4.heap.size < w9.heap.size := (Array.getElem?_eq_some_iff.1 hb2).1
              replace uw := Ups.trans uw (Ups.trans (Ups.refl _) ub9)
              clear hU
              clear mf m2 ef eg
              go_wp2_with fail
              exact bodyPost_ret (v := .bool true) (results_one rfl rfl) rfl ⟨rfl, Ups.trans uw (Ups.refl _)⟩
        · have hkn2 := hkn.symm
          clear hkn
          subst hkn2
          rw [show (((nx + 1 : Nat) : Int)) = (nx : Int) + 1 from rfl] at cn1
          
          obtain ⟨kf0, kf1, kf2, kf3, kf4⟩ := block_cells hbf
          go_wp2_with fail
          refine (cl _).mono ?_
          clear cfa
          rintro e w5 ⟨vl, rfl, ho, uu⟩
          clear kf0 kf1 kf2 kf3 kf4
          replace cf' := cell_ups (Ups.trans (up1 _ _) uu) cf'
          replace cg' := cell_ups (Ups.trans (up1 _ _) uu) cg'
          have ub5 : Ups (w4.alloc (.cells #[.slice (some ⟨bg, og, none⟩) G.pages.length c2, .slice a'2 G.wear.length c'2, .int .i64 G.fuse, .string G.torn, .bool G.dead] 31)) w5 := uu
          replace hrf := hrf.ups (Ups.trans (up1 _ _) ub5)
          replace hbf := block_ups hbf (Ups.trans (up1 _ _) ub5)
          have ltf_5 : w.heap.size < w5.heap.size := (Array.getElem?_eq_some_iff.1 hbf).1
          replace hr1 := hr1.ups (Ups.trans (up1 _ _) ub5)
          replace hb1 := block_ups hb1 (Ups.trans (up1 _ _) ub5)
          have lt1_5 : w3.heap.size < w5.heap.size := (Array.getElem?_eq_some_iff.1 hb1).1
          replace hr2 := hr2.ups (Ups.trans (up1 _ _) ub5)
          replace hb2 := block_ups hb2 ub5
          have lt2_5 : w4.heap.size < w5.heap.size := (Array.getElem?_eq_some_iff.1 hb2).1
          replace uw := Ups.trans uw (Ups.trans (up1 _ _) ub5)
          clear uu
          obtain ⟨k20, k21, k22, k23, k24⟩ := block_cells hb2
          go_wp2_with fail
          refine (cm _).mono ?_
          rintro e w6 ⟨vm, rfl, hm, uu⟩
          clear k20 k21 k22 k23 k24
          replace cf' := cell_ups (Ups.trans (Ups.refl _) uu) cf'
          replace cg' := cell_ups (Ups.trans (Ups.refl _) uu) cg'
          replace ho := owns_ups ho uu
          have hmt := owns_texts hm
          clear hm
          have ub6 : Ups w5 w6 := uu
          replace hrf := hrf.ups (Ups.trans (Ups.refl _) ub6)
          replace hbf := block_ups hbf (Ups.trans (Ups.refl _) ub6)
          have ltf_6 : w.heap.size < w6.heap.size := (Array.getElem?_eq_some_iff.1 hbf).1
          replace hr1 := hr1.ups (Ups.trans (Ups.refl _) ub6)
          replace hb1 := block_ups hb1 (Ups.trans (Ups.refl _) ub6)
          have lt1_6 : w3.heap.size < w6.heap.size := (Array.getElem?_eq_some_iff.1 hb1).1
          replace hr2 := hr2.ups (Ups.trans (Ups.refl _) ub6)
          replace hb2 := block_ups hb2 (Ups.trans (Ups.refl _) ub6)
          have lt2_6 : w4.heap.size < w6.heap.size := (Array.getElem?_eq_some_iff.1 hb2).1
          replace uw := Ups.trans uw (Ups.trans (Ups.refl _) ub6)
          clear uu
          have ht := rtexts_calls hmt (owns_texts ho) (by omega)
          rw [show decide (l = l) = true from decide_eq_true rfl] at ht
          go_wp2_with fail
          refine ht.mono ?_
          clear ht hmt ho
          rintro e w7 ⟨rfl, uu⟩
          replace cf' := cell_ups uu cf'
          replace cg' := cell_ups uu cg'
          have ub7 : Ups w6 w7 := uu
          replace hrf := hrf.ups (Ups.trans (Ups.refl _) ub7)
          replace hbf := block_ups hbf (Ups.trans (Ups.refl _) ub7)
          have ltf_7 : w.heap.size < w7.heap.size := (Array.getElem?_eq_some_iff.1 hbf).1
          replace hr1 := hr1.ups (Ups.trans (Ups.refl _) ub7)
          replace hb1 := block_ups hb1 (Ups.trans (Ups.refl _) ub7)
          have lt1_7 : w3.heap.size < w7.heap.size := (Array.getElem?_eq_some_iff.1 hb1).1
          replace hr2 := hr2.ups (Ups.trans (Ups.refl _) ub7)
          replace hb2 := block_ups hb2 (Ups.trans (Ups.refl _) ub7)
          have lt2_7 : w4.heap.size < w7.heap.size := (Array.getElem?_eq_some_iff.1 hb2).1
          replace uw := Ups.trans uw (Ups.trans (Ups.refl _) ub7)
          clear uu
          go_wp2_with fail
          have hwb : IntKind.i64.wrap ((bd : Int) + 1) = (bd : Int) + 1 := (IntWalk.i64_left _).trans (IntWalk.wrap64_in _ ⟨by omega, by omega⟩)
          have hws : IntKind.i64.wrap ((nx : Int) + 1 - nx) = 1 := by rw [show (nx : Int) + 1 - nx = 1 by omega]; rfl
          have mf := fun W (hU : Ups (World.drew w7) W) => block_cells (block_ups hbf (drew_ups hU))
          have m2 := fun W (hU : Ups (World.drew w7) W) => block_cells (block_ups hb2 (drew_ups hU))
          have ef := fun W (hU : Ups (World.drew w7) W) => cell_ups (drew_ups hU) cf'
          have eg := fun W (hU : Ups (World.drew w7) W) => cell_ups (drew_ups hU) cg'
          clear hwb
          refine wp_region_parts (N := 16) (n := 153) (ks := [isV (.pointer (some ⟨w4.heap.size, 0, none⟩)), isV (.slice (some ⟨bg, og, none⟩) G.pages.length c2), isV (.int .i64 pg), isV (.pointer (some ⟨bg, og + pg, none⟩)), isV (.string tg), isV (.int .i64 s.size), isV (.int .i64 (nx + 1)), isV (.pointer (some ⟨w.heap.size, 0, none⟩)), isV (.slice (some ⟨bf, of, none⟩) f.pages.length cf), isV (.int .i64 pg), isV (.pointer (some ⟨bf, of + pg, none⟩)), isV (.string tf), isV (.int .i64 s.size), isV (.int .i64 nx), isV (.int .i64 1), isV (.int .i64 1)]) (by decide +kernel) (by decide +kernel) (by decide +kernel) (by simp) rfl (by decide +kernel) ⟨steady_is _, steady_is _, steady_is _, steady_is _, steady_is _, steady_is _, steady_is _, steady_is _, steady_is _, steady_is _, steady_is _, steady_is _, steady_is _, steady_is _, steady_is _, steady_is _, trivial⟩ ?_ ?_
          · refine And.intro (fun ac W hO hU H => ?_) ?_
            · have h13 : ac.tmps[13]? = some (.pointer (some ⟨w4.heap.size, 0, none⟩)) := (hO 13 rfl).trans rfl
              exact growOp_plain rfl (parts_value (by simp [go_sem, h13]))
            refine And.intro (fun ac W hO hU H => ?_) ?_
            · have h104 : ac.tmps[104]? = some (.pointer (some ⟨w4.heap.size, 0, none⟩)) := isV_get (W := W) (H 0 104 rfl)
              have f0 := (m2 W hU).1
              exact growOp_plain rfl (parts_value (by simp [go_sem, h104, f0]))
            refine And.intro (fun ac W hO hU H => ?_) ?_
            · have h1 : ac.tmps[1]? = some (.int .i64 pg) := (hO 1 rfl).trans rfl
              exact growOp_plain rfl (parts_value (by simp [go_sem, h1]))
            refine And.intro (fun ac W hO hU H => ?_) ?_
            · have h105 : ac.tmps[105]? = some (.slice (some ⟨bg, og, none⟩) G.pages.length c2) := isV_get (W := W) (H 1 105 rfl)
              have h106 : ac.tmps[106]? = some (.int .i64 pg) := isV_get (W := W) (H 2 106 rfl)
              exact growOp_plain rfl (parts_value (by simp [go_sem, h105, h106, iG]))
            refine And.intro (fun ac W hO hU H => ?_) ?_
            · have h107 : ac.tmps[107]? = some (.pointer (some ⟨bg, og + pg, none⟩)) := isV_get (W := W) (H 3 107 rfl)
              have f0 := eg W hU
              exact growOp_plain rfl (parts_value (by simp [go_sem, h107, f0]))
            refine And.intro (fun ac W hO hU H => ?_) ?_
            · have h15 : ac.tmps[15]? = some (.int .i64 s.size) := (hO 15 rfl).trans rfl
              exact growOp_plain rfl (parts_value (by simp [go_sem, h15]))
            refine And.intro (fun ac W hO hU H => ?_) ?_
            · have h108 : ac.tmps[108]? = some (.string tg) := isV_get (W := W) (H 4 108 rfl)
              have h109 : ac.tmps[109]? = some (.int .i64 s.size) := isV_get (W := W) (H 5 109 rfl)
              exact growOp_plain rfl (parts_call_is (args := #[.string tg, .int .i64 s.size]) (by simp [go_sem, h108, h109]) (cn1 W))
            refine And.intro (fun ac W hO hU H => ?_) ?_
            · have h4 : ac.tmps[4]? = some (.pointer (some ⟨w.heap.size, 0, none⟩)) := (hO 4 rfl).trans rfl
              exact growOp_plain rfl (parts_value (by simp [go_sem, h4]))
            refine And.intro (fun ac W hO hU H => ?_) ?_
            · have h111 : ac.tmps[111]? = some (.pointer (some ⟨w.heap.size, 0, none⟩)) := isV_get (W := W) (H 7 111 rfl)
              have f0 := (mf W hU).1
              exact growOp_plain rfl (parts_value (by simp [go_sem, h111, f0]))
            refine And.intro (fun ac W hO hU H => ?_) ?_
            · have h1 : ac.tmps[1]? = some (.int .i64 pg) := (hO 1 rfl).trans rfl
              exact growOp_plain rfl (parts_value (by simp [go_sem, h1]))
            refine And.intro (fun ac W hO hU H => ?_) ?_
            · have h112 : ac.tmps[112]? = some (.slice (some ⟨bf, of, none⟩) f.pages.length cf) := isV_get (W := W) (H 8 112 rfl)
              have h113 : ac.tmps[113]? = some (.int .i64 pg) := isV_get (W := W) (H 9 113 rfl)
              exact growOp_plain rfl (parts_value (by simp [go_sem, h112, h113, iF]))
            refine And.intro (fun ac W hO hU H => ?_) ?_
            · have h114 : ac.tmps[114]? = some (.pointer (some ⟨bf, of + pg, none⟩)) := isV_get (W := W) (H 10 114 rfl)
              have f0 := ef W hU
              exact growOp_plain rfl (parts_value (by simp [go_sem, h114, f0]))
            refine And.intro (fun ac W hO hU H => ?_) ?_
            · have h15 : ac.tmps[15]? = some (.int .i64 s.size) := (hO 15 rfl).trans rfl
              exact growOp_plain rfl (parts_value (by simp [go_sem, h15]))
            refine And.intro (fun ac W hO hU H => ?_) ?_
            · have h115 : ac.tmps[115]? = some (.string tf) := isV_get (W := W) (H 11 115 rfl)
              have h116 : ac.tmps[116]? = some (.int .i64 s.size) := isV_get (W := W) (H 12 116 rfl)
              exact growOp_plain rfl (parts_call_is (args := #[.string tf, .int .i64 s.size]) (by simp [go_sem, h115, h116]) (cn2 W))
            refine And.intro (fun ac W hO hU H => ?_) ?_
            · have h110 : ac.tmps[110]? = some (.int .i64 (nx + 1)) := isV_get (W := W) (H 6 110 rfl)
              have h117 : ac.tmps[117]? = some (.int .i64 nx) := isV_get (W := W) (H 13 117 rfl)
              exact growOp_plain rfl (parts_value (by simp [go_sem, h110, h117, hws]))
            refine And.intro (fun ac W hO hU H => ?_) ?_
            · have h118 : ac.tmps[118]? = some (.int .i64 1) := isV_get (W := W) (H 14 118 rfl)
              exact growOp_plain rfl (parts_value (by simp [go_sem, h118]))
            exact trivial
          · intro w8 xs hU hks
            obtain ⟨y0, rfl, g0⟩ := holdAll_is hks
            obtain ⟨y1, rfl, g1⟩ := holdAll_is g0
            obtain ⟨y2, rfl, g2⟩ := holdAll_is g1
            obtain ⟨y3, rfl, g3⟩ := holdAll_is g2
            obtain ⟨y4, rfl, g4⟩ := holdAll_is g3
            obtain ⟨y5, rfl, g5⟩ := holdAll_is g4
            obtain ⟨y6, rfl, g6⟩ := holdAll_is g5
            obtain ⟨y7, rfl, g7⟩ := holdAll_is g6
            obtain ⟨y8, rfl, g8⟩ := holdAll_is g7
            obtain ⟨y9, rfl, g9⟩ := holdAll_is g8
            obtain ⟨y10, rfl, g10⟩ := holdAll_is g9
            obtain ⟨y11, rfl, g11⟩ := holdAll_is g10
            obtain ⟨y12, rfl, g12⟩ := holdAll_is g11
            obtain ⟨y13, rfl, g13⟩ := holdAll_is g12
            obtain ⟨y14, rfl, g14⟩ := holdAll_is g13
            obtain ⟨y15, rfl, g15⟩ := holdAll_is g14
            obtain rfl := holdAll_nil g15
            clear hks g0 g1 g2 g3 g4 g5 g6 g7 g8 g9 g10 g11 g12 g13 g14 g15
            simp only [List.take_succ_cons, List.take_zero, List.drop_succ_cons, List.drop_zero, endTmps, List.setIfInBounds_toArray, List.set]
            have ub8 : Ups w7 w8 := drew_ups hU
            replace hrf := hrf.ups (Ups.trans (Ups.refl _) ub8)
            replace hbf := block_ups hbf (Ups.trans (Ups.refl _) ub8)
            have ltf_8 : w.heap.size < w8.heap.size := (Array.getElem?_eq_some_iff.1 hbf).1
            replace hr1 := hr1.ups (Ups.trans (Ups.refl _) ub8)
            replace hb1 := block_ups hb1 (Ups.trans (Ups.refl _) ub8)
            have lt1_8 : w3.heap.size < w8.heap.size := (Array.getElem?_eq_some_iff.1 hb1).1
            replace hr2 := hr2.ups (Ups.trans (Ups.refl _) ub8)
            replace hb2 := block_ups hb2 (Ups.trans (Ups.refl _) ub8)
            have lt2_8 : w4.heap.size < w8.heap.size := (Array.getElem?_eq_some_iff.1 hb2).1
            replace uw := Ups.trans uw (Ups.trans (Ups.refl _) ub8)
            clear hU
            clear mf m2 ef eg
            replace cf' := cell_ups ub8 cf'
            replace cg' := cell_ups ub8 cg'
            have hwb : IntKind.i64.wrap ((bd : Int) + 1) = (bd : Int) + 1 := (IntWalk.i64_left _).trans (IntWalk.wrap64_in _ ⟨by omega, by omega⟩)
            have hbb : (bm : Int) ≤ (bd : Int) + 1 := by omega
            go_wp2_with fail
            have mf := fun W (hU : Ups (World.drew w8) W) => block_cells (block_ups hbf (drew_ups hU))
            have m2 := fun W (hU : Ups (World.drew w8) W) => block_cells (block_ups hb2 (drew_ups hU))
            have ef := fun W (hU : Ups (World.drew w8) W) => cell_ups (drew_ups hU) cf'
            have eg := fun W (hU : Ups (World.drew w8) W) => cell_ups (drew_ups hU) cg'
            refine wp_region_parts (N := 35) (n := 153) (ks := [isV (.bool true), isV (.bool true), isV (.bool true), isV (.bool true), isV (.bool true), isV (.pointer (some ⟨w4.heap.size, 4, none⟩)), isV (.bool true), isV (.bool true), isV (.bool true), isV (.int .i64 1), isV (.bool false), isV (.bool false), isV (.int .i64 1), isV (.bool true), isV (.bool true), isV (.bool true), isV (.bool true), isV (.pointer (some ⟨w4.heap.size, 0, none⟩)), isV (.slice (some ⟨bg, og, none⟩) G.pages.length c2), isV (.int .i64 pg), isV (.pointer (some ⟨bg, og + pg, none⟩)), isV (.string tg), isV (.int .i64 s.size), isV (.int .i64 bm), isV (.pointer (some ⟨w.heap.size, 0, none⟩)), isV (.slice (some ⟨bf, of, none⟩) f.pages.length cf), isV (.int .i64 pg), isV (.pointer (some ⟨bf, of + pg, none⟩)), isV (.string tf), isV (.int .i64 s.size), isV (.int .i64 bd), isV (.int .i64 (bd + 1)), isV (.bool true), isV (.bool true), isV (.bool true)]) (by decide +kernel) (by decide +kernel) (by decide +kernel) (by simp) rfl (by decide +kernel) ⟨steady_is _, steady_is _, steady_is _, steady_is _, steady_is _, steady_is _, steady_is _, steady_is _, steady_is _, steady_is _, steady_is _, steady_is _, steady_is _, steady_is _, steady_is _, steady_is _, steady_is _, steady_is _, steady_is _, steady_is _, steady_is _, steady_is _, steady_is _, steady_is _, steady_is _, steady_is _, steady_is _, steady_is _, steady_is _, steady_is _, steady_is _, steady_is _, steady_is _, steady_is _, steady_is _, trivial⟩ ?_ ?_
            · refine And.intro (fun ac W hO hU H => ?_) ?_
              · have h9 : ac.tmps[9]? = some (.bool true) := (hO 9 rfl).trans rfl
                exact growOp_plain rfl (parts_value (by simp [go_sem, h9]))
              refine And.intro (fun ac W hO hU H => ?_) ?_
              · have h119 : ac.tmps[119]? = some (.bool true) := isV_get (W := W) (H 0 119 rfl)
                exact growOp_plain rfl (parts_value (by simp [go_sem, h119]))
              refine And.intro (fun ac W hO hU H => ?_) ?_
              · have h18 : ac.tmps[18]? = some (.bool true) := (hO 18 rfl).trans rfl
                have hg : ac.tmps[120]? = some (.bool true) := isV_get (W := W) (H 1 120 rfl)
                exact growOp_done rfl rfl hg (parts_value (by simp [go_sem, h18]))
              refine And.intro (fun ac W hO hU H => ?_) ?_
              · have h120 : ac.tmps[120]? = some (.bool true) := isV_get (W := W) (H 1 120 rfl)
                have h121 : ac.tmps[121]? = some (.bool true) := isV_get (W := W) (H 2 121 rfl)
                exact growOp_plain rfl (parts_value (by simp [go_sem, h120, h121]))
              refine And.intro (fun ac W hO hU H => ?_) ?_
              · have h122 : ac.tmps[122]? = some (.bool true) := isV_get (W := W) (H 3 122 rfl)
                exact growOp_plain rfl (parts_value (by simp [go_sem, h122]))
              refine And.intro (fun ac W hO hU H => ?_) ?_
              · have h13 : ac.tmps[13]? = some (.pointer (some ⟨w4.heap.size, 0, none⟩)) := (hO 13 rfl).trans rfl
                have hg : ac.tmps[123]? = some (.bool true) := isV_get (W := W) (H 4 123 rfl)
                exact growOp_done rfl rfl hg (parts_value (by simp [go_sem, h13]))
              refine And.intro (fun ac W hO hU H => ?_) ?_
              · have h124 : ac.tmps[124]? = some (.pointer (some ⟨w4.heap.size, 4, none⟩)) := isV_get (W := W) (H 5 124 rfl)
                have hg : ac.tmps[123]? = some (.bool true) := isV_get (W := W) (H 4 123 rfl)
                have f0 := (m2 W hU).2.2.2.2
                exact growOp_done rfl rfl hg (parts_value (by simp [go_sem, h124, f0, KD.out]))
              refine And.intro (fun ac W hO hU H => ?_) ?_
              · have h123 : ac.tmps[123]? = some (.bool true) := isV_get (W := W) (H 4 123 rfl)
                have h125 : ac.tmps[125]? = some (.bool true) := isV_get (W := W) (H 6 125 rfl)
                exact growOp_plain rfl (parts_value (by simp [go_sem, h123, h125]))
              refine And.intro (fun ac W hO hU H => ?_) ?_
              · have h126 : ac.tmps[126]? = some (.bool true) := isV_get (W := W) (H 7 126 rfl)
                exact growOp_plain rfl (parts_value (by simp [go_sem, h126]))
              refine And.intro (fun ac W hO hU H => ?_) ?_
              · have h19 : ac.tmps[19]? = some (.int .i64 1) := (hO 19 rfl).trans rfl
                have hg : ac.tmps[127]? = some (.bool true) := isV_get (W := W) (H 8 127 rfl)
                exact growOp_done rfl rfl hg (parts_value (by simp [go_sem, h19]))
              refine And.intro (fun ac W hO hU H => ?_) ?_
              · have h128 : ac.tmps[128]? = some (.int .i64 1) := isV_get (W := W) (H 9 128 rfl)
                have hg : ac.tmps[127]? = some (.bool true) := isV_get (W := W) (H 8 127 rfl)
                exact growOp_done rfl rfl hg (parts_value (by simp [go_sem, h128]))
              refine And.intro (fun ac W hO hU H => ?_) ?_
              · have h129 : ac.tmps[129]? = some (.bool false) := isV_get (W := W) (H 10 129 rfl)
                have hg : ac.tmps[127]? = some (.bool true) := isV_get (W := W) (H 8 127 rfl)
                exact growOp_done rfl rfl hg (parts_value (by simp [go_sem, h129]))
              refine And.intro (fun ac W hO hU H => ?_) ?_
              · have h19 : ac.tmps[19]? = some (.int .i64 1) := (hO 19 rfl).trans rfl
                have hg : ac.tmps[130]? = some (.bool false) := isV_get (W := W) (H 11 130 rfl)
                exact growOp_done rfl rfl hg (parts_value (by simp [go_sem, h19]))
              refine And.intro (fun ac W hO hU H => ?_) ?_
              · have h131 : ac.tmps[131]? = some (.int .i64 1) := isV_get (W := W) (H 12 131 rfl)
                have hg : ac.tmps[130]? = some (.bool false) := isV_get (W := W) (H 11 130 rfl)
                exact growOp_done rfl rfl hg (parts_value (by simp [go_sem, h131]))
              refine And.intro (fun ac W hO hU H => ?_) ?_
              · have h130 : ac.tmps[130]? = some (.bool false) := isV_get (W := W) (H 11 130 rfl)
                have h132 : ac.tmps[132]? = some (.bool true) := isV_get (W := W) (H 13 132 rfl)
                have hg : ac.tmps[127]? = some (.bool true) := isV_get (W := W) (H 8 127 rfl)
                exact growOp_done rfl rfl hg (parts_value (by simp [go_sem, h130, h132]))
              refine And.intro (fun ac W hO hU H => ?_) ?_
              · have h127 : ac.tmps[127]? = some (.bool true) := isV_get (W := W) (H 8 127 rfl)
                have h133 : ac.tmps[133]? = some (.bool true) := isV_get (W := W) (H 14 133 rfl)
                exact growOp_plain rfl (parts_value (by simp [go_sem, h127, h133]))
              refine And.intro (fun ac W hO hU H => ?_) ?_
              · have h134 : ac.tmps[134]? = some (.bool true) := isV_get (W := W) (H 15 134 rfl)
                exact growOp_plain rfl (parts_value (by simp [go_sem, h134]))
              refine And.intro (fun ac W hO hU H => ?_) ?_
              · have h13 : ac.tmps[13]? = some (.pointer (some ⟨w4.heap.size, 0, none⟩)) := (hO 13 rfl).trans rfl
                have hg : ac.tmps[135]? = some (.bool true) := isV_get (W := W) (H 16 135 rfl)
                exact growOp_done rfl rfl hg (parts_value (by simp [go_sem, h13]))
              refine And.intro (fun ac W hO hU H => ?_) ?_
              · have h136 : ac.tmps[136]? = some (.pointer (some ⟨w4.heap.size, 0, none⟩)) := isV_get (W := W) (H 17 136 rfl)
                have hg : ac.tmps[135]? = some (.bool true) := isV_get (W := W) (H 16 135 rfl)
                have f0 := (m2 W hU).1
                exact growOp_done rfl rfl hg (parts_value (by simp [go_sem, h136, f0]))
              refine And.intro (fun ac W hO hU H => ?_) ?_
              · have h1 : ac.tmps[1]? = some (.int .i64 pg) := (hO 1 rfl).trans rfl
                have hg : ac.tmps[135]? = some (.bool true) := isV_get (W := W) (H 16 135 rfl)
                exact growOp_done rfl rfl hg (parts_value (by simp [go_sem, h1]))
              refine And.intro (fun ac W hO hU H => ?_) ?_
              · have h137 : ac.tmps[137]? = some (.slice (some ⟨bg, og, none⟩) G.pages.length c2) := isV_get (W := W) (H 18 137 rfl)
                have h138 : ac.tmps[138]? = some (.int .i64 pg) := isV_get (W := W) (H 19 138 rfl)
                have hg : ac.tmps[135]? = some (.bool true) := isV_get (W := W) (H 16 135 rfl)
                exact growOp_done rfl rfl hg (parts_value (by simp [go_sem, h137, h138, iG]))
              refine And.intro (fun ac W hO hU H => ?_) ?_
              · have h139 : ac.tmps[139]? = some (.pointer (some ⟨bg, og + pg, none⟩)) := isV_get (W := W) (H 20 139 rfl)
                have hg : ac.tmps[135]? = some (.bool true) := isV_get (W := W) (H 16 135 rfl)
                have f0 := eg W hU
                exact growOp_done rfl rfl hg (parts_value (by simp [go_sem, h139, f0]))
              refine And.intro (fun ac W hO hU H => ?_) ?_
              · have h15 : ac.tmps[15]? = some (.int .i64 s.size) := (hO 15 rfl).trans rfl
                have hg : ac.tmps[135]? = some (.bool true) := isV_get (W := W) (H 16 135 rfl)
                exact growOp_done rfl rfl hg (parts_value (by simp [go_sem, h15]))
              refine And.intro (fun ac W hO hU H => ?_) ?_
              · have h140 : ac.tmps[140]? = some (.string tg) := isV_get (W := W) (H 21 140 rfl)
                have h141 : ac.tmps[141]? = some (.int .i64 s.size) := isV_get (W := W) (H 22 141 rfl)
                have hg : ac.tmps[135]? = some (.bool true) := isV_get (W := W) (H 16 135 rfl)
                exact growOp_done rfl rfl hg (parts_call_is (args := #[.string tg, .int .i64 s.size]) (by simp [go_sem, h140, h141]) (cb1 W))
              refine And.intro (fun ac W hO hU H => ?_) ?_
              · have h4 : ac.tmps[4]? = some (.pointer (some ⟨w.heap.size, 0, none⟩)) := (hO 4 rfl).trans rfl
                have hg : ac.tmps[135]? = some (.bool true) := isV_get (W := W) (H 16 135 rfl)
                exact growOp_done rfl rfl hg (parts_value (by simp [go_sem, h4]))
              refine And.intro (fun ac W hO hU H => ?_) ?_
              · have h143 : ac.tmps[143]? = some (.pointer (some ⟨w.heap.size, 0, none⟩)) := isV_get (W := W) (H 24 143 rfl)
                have hg : ac.tmps[135]? = some (.bool true) := isV_get (W := W) (H 16 135 rfl)
                have f0 := (mf W hU).1
                exact growOp_done rfl rfl hg (parts_value (by simp [go_sem, h143, f0]))
              refine And.intro (fun ac W hO hU H => ?_) ?_
              · have h1 : ac.tmps[1]? = some (.int .i64 pg) := (hO 1 rfl).trans rfl
                have hg : ac.tmps[135]? = some (.bool true) := isV_get (W := W) (H 16 135 rfl)
                exact growOp_done rfl rfl hg (parts_value (by simp [go_sem, h1]))
              refine And.intro (fun ac W hO hU H => ?_) ?_
              · have h144 : ac.tmps[144]? = some (.slice (some ⟨bf, of, none⟩) f.pages.length cf) := isV_get (W := W) (H 25 144 rfl)
                have h145 : ac.tmps[145]? = some (.int .i64 pg) := isV_get (W := W) (H 26 145 rfl)
                have hg : ac.tmps[135]? = some (.bool true) := isV_get (W := W) (H 16 135 rfl)
                exact growOp_done rfl rfl hg (parts_value (by simp [go_sem, h144, h145, iF]))
              refine And.intro (fun ac W hO hU H => ?_) ?_
              · have h146 : ac.tmps[146]? = some (.pointer (some ⟨bf, of + pg, none⟩)) := isV_get (W := W) (H 27 146 rfl)
                have hg : ac.tmps[135]? = some (.bool true) := isV_get (W := W) (H 16 135 rfl)
                have f0 := ef W hU
                exact growOp_done rfl rfl hg (parts_value (by simp [go_sem, h146, f0]))
              refine And.intro (fun ac W hO hU H => ?_) ?_
              · have h15 : ac.tmps[15]? = some (.int .i64 s.size) := (hO 15 rfl).trans rfl
                have hg : ac.tmps[135]? = some (.bool true) := isV_get (W := W) (H 16 135 rfl)
                exact growOp_done rfl rfl hg (parts_value (by simp [go_sem, h15]))
              refine And.intro (fun ac W hO hU H => ?_) ?_
              · have h147 : ac.tmps[147]? = some (.string tf) := isV_get (W := W) (H 28 147 rfl)
                have h148 : ac.tmps[148]? = some (.int .i64 s.size) := isV_get (W := W) (H 29 148 rfl)
                have hg : ac.tmps[135]? = some (.bool true) := isV_get (W := W) (H 16 135 rfl)
                exact growOp_done rfl rfl hg (parts_call_is (args := #[.string tf, .int .i64 s.size]) (by simp [go_sem, h147, h148]) (cb2 W))
              refine And.intro (fun ac W hO hU H => ?_) ?_
              · have h149 : ac.tmps[149]? = some (.int .i64 bd) := isV_get (W := W) (H 30 149 rfl)
                have hg : ac.tmps[135]? = some (.bool true) := isV_get (W := W) (H 16 135 rfl)
                exact growOp_done rfl rfl hg (parts_value (by simp [go_sem, h149, hwb]))
              refine And.intro (fun ac W hO hU H => ?_) ?_
              · have h142 : ac.tmps[142]? = some (.int .i64 bm) := isV_get (W := W) (H 23 142 rfl)
                have h150 : ac.tmps[150]? = some (.int .i64 (bd + 1)) := isV_get (W := W) (H 31 150 rfl)
                have hg : ac.tmps[135]? = some (.bool true) := isV_get (W := W) (H 16 135 rfl)
                exact growOp_done rfl rfl hg (parts_value (by simp [go_sem, h142, h150, hbb]))
              refine And.intro (fun ac W hO hU H => ?_) ?_
              · have h135 : ac.tmps[135]? = some (.bool true) := isV_get (W := W) (H 16 135 rfl)
                have h151 : ac.tmps[151]? = some (.bool true) := isV_get (W := W) (H 32 151 rfl)
                exact growOp_plain rfl (parts_value (by simp [go_sem, h135, h151]))
              refine And.intro (fun ac W hO hU H => ?_) ?_
              · have h152 : ac.tmps[152]? = some (.bool true) := isV_get (W := W) (H 33 152 rfl)
                exact growOp_plain rfl (parts_value (by simp [go_sem, h152]))
              exact trivial
            · intro w9 xs hU hks
              obtain ⟨y0, rfl, g0⟩ := holdAll_is hks
              obtain ⟨y1, rfl, g1⟩ := holdAll_is g0
              obtain ⟨y2, rfl, g2⟩ := holdAll_is g1
              obtain ⟨y3, rfl, g3⟩ := holdAll_is g2
              obtain ⟨y4, rfl, g4⟩ := holdAll_is g3
              obtain ⟨y5, rfl, g5⟩ := holdAll_is g4
              obtain ⟨y6, rfl, g6⟩ := holdAll_is g5
              obtain ⟨y7, rfl, g7⟩ := holdAll_is g6
              obtain ⟨y8, rfl, g8⟩ := holdAll_is g7
              obtain ⟨y9, rfl, g9⟩ := holdAll_is g8
              obtain ⟨y10, rfl, g10⟩ := holdAll_is g9
              obtain ⟨y11, rfl, g11⟩ := holdAll_is g10
              obtain ⟨y12, rfl, g12⟩ := holdAll_is g11
              obtain ⟨y13, rfl, g13⟩ := holdAll_is g12
              obtain ⟨y14, rfl, g14⟩ := holdAll_is g13
              obtain ⟨y15, rfl, g15⟩ := holdAll_is g14
              obtain ⟨y16, rfl, g16⟩ := holdAll_is g15
              obtain ⟨y17, rfl, g17⟩ := holdAll_is g16
              obtain ⟨y18, rfl, g18⟩ := holdAll_is g17
              obtain ⟨y19, rfl, g19⟩ := holdAll_is g18
              obtain ⟨y20, rfl, g20⟩ := holdAll_is g19
              obtain ⟨y21, rfl, g21⟩ := holdAll_is g20
              obtain ⟨y22, rfl, g22⟩ := holdAll_is g21
              obtain ⟨y23, rfl, g23⟩ := holdAll_is g22
              obtain ⟨y24, rfl, g24⟩ := holdAll_is g23
              obtain ⟨y25, rfl, g25⟩ := holdAll_is g24
              obtain ⟨y26, rfl, g26⟩ := holdAll_is g25
              obtain ⟨y27, rfl, g27⟩ := holdAll_is g26
              obtain ⟨y28, rfl, g28⟩ := holdAll_is g27
              obtain ⟨y29, rfl, g29⟩ := holdAll_is g28
              obtain ⟨y30, rfl, g30⟩ := holdAll_is g29
              obtain ⟨y31, rfl, g31⟩ := holdAll_is g30
              obtain ⟨y32, rfl, g32⟩ := holdAll_is g31
              obtain ⟨y33, rfl, g33⟩ := holdAll_is g32
              obtain ⟨y34, rfl, g34⟩ := holdAll_is g33
              obtain rfl := holdAll_nil g34
              clear hks g0 g1 g2 g3 g4 g5 g6 g7 g8 g9 g10 g11 g12 g13 g14 g15 g16 g17 g18 g19 g20 g21 g22 g23 g24 g25 g26 g27 g28 g29 g30 g31 g32 g33 g34
              simp only [List.take_succ_cons, List.take_zero, List.drop_succ_cons, List.drop_zero, endTmps, List.setIfInBounds_toArray, List.set]
              have ub9 : Ups w8 w9 := drew_ups hU
              replace hrf := hrf.ups (Ups.trans (Ups.refl _) ub9)
              replace hbf := block_ups hbf (Ups.trans (Ups.refl _) ub9)
              have ltf_9 : w.heap.size < w9.heap.size := (Array.getElem?_eq_some_iff.1 hbf).1
              replace hr1 := hr1.ups (Ups.trans (Ups.refl _) ub9)
              replace hb1 := block_ups hb1 (Ups.trans (Ups.refl _) ub9)
              have lt1_9 : w3.heap.size < w9.heap.size := (Array.getElem?_eq_some_iff.1 hb1).1
              replace hr2 := hr2.ups (Ups.trans (Ups.refl _) ub9)
              replace hb2 := block_ups hb2 (Ups.trans (Ups.refl _) ub9)
              have lt2_9 : w4.heap.size < w9.heap.size := (Array.getElem?_eq_some_iff.1 hb2).1
              replace uw := Ups.trans uw (Ups.trans (Ups.refl _) ub9)
              clear hU
              clear mf m2 ef eg
              go_wp2_with fail
              exact bodyPost_ret (v := .bool true) (results_one rfl rfl) rfl ⟨rfl, Ups.trans uw (Ups.refl _)⟩
      · have hkr2 := hkr.symm
        clear hkr
        subst hkr2
        rcases kn with hkn | hkn
        · have hkn2 := hkn.symm
          clear hkn
          subst hkn2
          obtain ⟨kf0, kf1, kf2, kf3, kf4⟩ := block_cells hbf
          go_wp2_with fail
          refine (cl _).mono ?_
          clear cfa
          rintro e w5 ⟨vl, rfl, ho, uu⟩
          clear kf0 kf1 kf2 kf3 kf4
          replace cf' := cell_ups (Ups.trans (up1 _ _) uu) cf'
          replace cg' := cell_ups (Ups.trans (up1 _ _) uu) cg'
          have ub5 : Ups (w4.alloc (.cells #[.slice (some ⟨bg, og, none⟩) G.pages.length c2, .slice a'2 G.wear.length c'2, .int .i64 G.fuse, .string G.torn, .bool G.dead] 31)) w5 := uu
          replace hrf := hrf.ups (Ups.trans (up1 _ _) ub5)
          replace hbf := block_ups hbf (Ups.trans (up1 _ _) ub5)
          have ltf_5 : w.heap.size < w5.heap.size := (Array.getElem?_eq_some_iff.1 hbf).1
          replace hr1 := hr1.ups (Ups.trans (up1 _ _) ub5)
          replace hb1 := block_ups hb1 (Ups.trans (up1 _ _) ub5)
          have lt1_5 : w3.heap.size < w5.heap.size := (Array.getElem?_eq_some_iff.1 hb1).1
          replace hr2 := hr2.ups (Ups.trans (up1 _ _) ub5)
          replace hb2 := block_ups hb2 ub5
          have lt2_5 : w4.heap.size < w5.heap.size := (Array.getElem?_eq_some_iff.1 hb2).1
          replace uw := Ups.trans uw (Ups.trans (up1 _ _) ub5)
          clear uu
          obtain ⟨k20, k21, k22, k23, k24⟩ := block_cells hb2
          go_wp2_with fail
          refine (cm _).mono ?_
          rintro e w6 ⟨vm, rfl, hm, uu⟩
          clear k20 k21 k22 k23 k24
          replace cf' := cell_ups (Ups.trans (Ups.refl _) uu) cf'
          replace cg' := cell_ups (Ups.trans (Ups.refl _) uu) cg'
          replace ho := owns_ups ho uu
          have hmt := owns_texts hm
          clear hm
          have ub6 : Ups w5 w6 := uu
          replace hrf := hrf.ups (Ups.trans (Ups.refl _) ub6)
          replace hbf := block_ups hbf (Ups.trans (Ups.refl _) ub6)
          have ltf_6 : w.heap.size < w6.heap.size := (Array.getElem?_eq_some_iff.1 hbf).1
          replace hr1 := hr1.ups (Ups.trans (Ups.refl _) ub6)
          replace hb1 := block_ups hb1 (Ups.trans (Ups.refl _) ub6)
          have lt1_6 : w3.heap.size < w6.heap.size := (Array.getElem?_eq_some_iff.1 hb1).1
          replace hr2 := hr2.ups (Ups.trans (Ups.refl _) ub6)
          replace hb2 := block_ups hb2 (Ups.trans (Ups.refl _) ub6)
          have lt2_6 : w4.heap.size < w6.heap.size := (Array.getElem?_eq_some_iff.1 hb2).1
          replace uw := Ups.trans uw (Ups.trans (Ups.refl _) ub6)
          clear uu
          have ht := rtexts_calls hmt (owns_texts ho) (by simp only [List.length_append, List.length_singleton]; omega)
          rw [show decide (l ++ [s] = l) = false from decide_eq_false (fun h => by have := congrArg List.length h; simp at this)] at ht
          go_wp2_with fail
          refine ht.mono ?_
          clear ht
          rintro e w7 ⟨rfl, uu⟩
          replace cf' := cell_ups uu cf'
          replace cg' := cell_ups uu cg'
          replace hmt := hmt.ups uu
          replace ho := owns_ups ho uu
          have ub7 : Ups w6 w7 := uu
          replace hrf := hrf.ups (Ups.trans (Ups.refl _) ub7)
          replace hbf := block_ups hbf (Ups.trans (Ups.refl _) ub7)
          have ltf_7 : w.heap.size < w7.heap.size := (Array.getElem?_eq_some_iff.1 hbf).1
          replace hr1 := hr1.ups (Ups.trans (Ups.refl _) ub7)
          replace hb1 := block_ups hb1 (Ups.trans (Ups.refl _) ub7)
          have lt1_7 : w3.heap.size < w7.heap.size := (Array.getElem?_eq_some_iff.1 hb1).1
          replace hr2 := hr2.ups (Ups.trans (Ups.refl _) ub7)
          replace hb2 := block_ups hb2 (Ups.trans (Ups.refl _) ub7)
          have lt2_7 : w4.heap.size < w7.heap.size := (Array.getElem?_eq_some_iff.1 hb2).1
          replace uw := Ups.trans uw (Ups.trans (Ups.refl _) ub7)
          clear uu
          have HOL := Lib.hid ho
          clear ho
          go_wp2_with (at_builtin; refine wpList_append_any rfl _ _ 26 rfl _ _ 9 i0 (.string ByteArray.empty) 16 Tryz.underlying26 hi hz0 hz1 hz2 rfl _ _ _ rfl (made_empty _) vl (l.map Value.string) rfl (owns_map (owns_ups HOL.out (up1 _ _))) (strings_cells _) (by simp only [List.length_map]; unfold maxLen; omega) (by simp only [List.length_map]; omega) (by simp) ?_)
          intro v1 x1 ho1 hg1
          replace ho1 : x1.ownsRow w7.heap.size 9 1 v1 l.length (l.map Value.string) := by simpa using ho1
          have u1 : Ups w7 x1 := grown_ups (up1 _ _) (made_empty _) (Nat.le_refl _) hg1
          clear hg1
          have HO1 := Lib.hid ho1
          clear ho1
          go_wp2_with (at_builtin; refine wpList_append_any rfl _ _ 26 rfl w7.heap.size x1.heap.size 9 i0 (.string ByteArray.empty) 16 Tryz.underlying26 hi hz0 hz1 hz2 rfl v1 l.length _ rfl (HO1.out.alloc _) (.slice (some ⟨x1.heap.size, 0, none⟩) 1 1) [.string s] rfl (made_one x1 s) (strings_cells [s]) (by simp only [List.length_cons, List.length_nil]; unfold maxLen; omega) (by simp only [List.length_cons, List.length_nil]; omega) (by have := u1.size; simp; omega) ?_)
          intro v2 x2 ho2 hg2
          have u2 : Ups w7 x2 := grown_ups (Ups.trans u1 (up1 _ _)) (HO1.out.alloc _) (Nat.le_refl _) hg2
          replace ho2 : x2.ownsRow w7.heap.size 9 1 v2 (l.length + 1) ((l ++ [s]).map Value.string) := by simpa using ho2
          have hx2 : TextsAt x2 v2 (l ++ [s]) := texts_of_own (by simp) ho2
          clear ho2 hg2
          have ht := rtexts_calls (hmt.ups u2) hx2 (by simp only [List.length_append, List.length_singleton]; omega)
          rw [show decide (l ++ [s] = l ++ [s]) = true from decide_eq_true rfl] at ht
          go_wp2_with fail
          refine ht.mono ?_
          clear ht hx2 hmt HO1 HOL
          rintro e w8 ⟨rfl, uu⟩
          replace cf' := cell_ups (Ups.trans u2 uu) cf'
          replace cg' := cell_ups (Ups.trans u2 uu) cg'
          have u3 := Ups.trans u2 uu
          have ub8 : Ups w7 w8 := u3
          replace hrf := hrf.ups (Ups.trans (Ups.refl _) ub8)
          replace hbf := block_ups hbf (Ups.trans (Ups.refl _) ub8)
          have ltf_8 : w.heap.size < w8.heap.size := (Array.getElem?_eq_some_iff.1 hbf).1
          replace hr1 := hr1.ups (Ups.trans (Ups.refl _) ub8)
          replace hb1 := block_ups hb1 (Ups.trans (Ups.refl _) ub8)
          have lt1_8 : w3.heap.size < w8.heap.size := (Array.getElem?_eq_some_iff.1 hb1).1
          replace hr2 := hr2.ups (Ups.trans (Ups.refl _) ub8)
          replace hb2 := block_ups hb2 (Ups.trans (Ups.refl _) ub8)
          have lt2_8 : w4.heap.size < w8.heap.size := (Array.getElem?_eq_some_iff.1 hb2).1
          replace uw := Ups.trans uw (Ups.trans (Ups.refl _) ub8)
          clear uu u1 u2 u3
          go_wp2_with fail
          have hwb : IntKind.i64.wrap ((bd : Int) + 1) = (bd : Int) + 1 := (IntWalk.i64_left _).trans (IntWalk.wrap64_in _ ⟨by omega, by omega⟩)
          have hws : IntKind.i64.wrap 0 = 0 := rfl
          have mf := fun W (hU : Ups (World.drew w8) W) => block_cells (block_ups hbf (drew_ups hU))
          have m2 := fun W (hU : Ups (World.drew w8) W) => block_cells (block_ups hb2 (drew_ups hU))
          have ef := fun W (hU : Ups (World.drew w8) W) => cell_ups (drew_ups hU) cf'
          have eg := fun W (hU : Ups (World.drew w8) W) => cell_ups (drew_ups hU) cg'
          clear hwb
          refine wp_region_parts (N := 16) (n := 153) (ks := [isV (.pointer (some ⟨w4.heap.size, 0, none⟩)), isV (.slice (some ⟨bg, og, none⟩) G.pages.length c2), isV (.int .i64 pg), isV (.pointer (some ⟨bg, og + pg, none⟩)), isV (.string tg), isV (.int .i64 s.size), isV (.int .i64 nx), isV (.pointer (some ⟨w.heap.size, 0, none⟩)), isV (.slice (some ⟨bf, of, none⟩) f.pages.length cf), isV (.int .i64 pg), isV (.pointer (some ⟨bf, of + pg, none⟩)), isV (.string tf), isV (.int .i64 s.size), isV (.int .i64 nx), isV (.int .i64 0), isV (.int .i64 0)]) (by decide +kernel) (by decide +kernel) (by decide +kernel) (by simp) rfl (by decide +kernel) ⟨steady_is _, steady_is _, steady_is _, steady_is _, steady_is _, steady_is _, steady_is _, steady_is _, steady_is _, steady_is _, steady_is _, steady_is _, steady_is _, steady_is _, steady_is _, steady_is _, trivial⟩ ?_ ?_
          · refine And.intro (fun ac W hO hU H => ?_) ?_
            · have h13 : ac.tmps[13]? = some (.pointer (some ⟨w4.heap.size, 0, none⟩)) := (hO 13 rfl).trans rfl
              exact growOp_plain rfl (parts_value (by simp [go_sem, h13]))
            refine And.intro (fun ac W hO hU H => ?_) ?_
            · have h104 : ac.tmps[104]? = some (.pointer (some ⟨w4.heap.size, 0, none⟩)) := isV_get (W := W) (H 0 104 rfl)
              have f0 := (m2 W hU).1
              exact growOp_plain rfl (parts_value (by simp [go_sem, h104, f0]))
            refine And.intro (fun ac W hO hU H => ?_) ?_
            · have h1 : ac.tmps[1]? = some (.int .i64 pg) := (hO 1 rfl).trans rfl
              exact growOp_plain rfl (parts_value (by simp [go_sem, h1]))
            refine And.intro (fun ac W hO hU H => ?_) ?_
            · have h105 : ac.tmps[105]? = some (.slice (some ⟨bg, og, none⟩) G.pages.length c2) := isV_get (W := W) (H 1 105 rfl)
              have h106 : ac.tmps[106]? = some (.int .i64 pg) := isV_get (W := W) (H 2 106 rfl)
              exact growOp_plain rfl (parts_value (by simp [go_sem, h105, h106, iG]))
            refine And.intro (fun ac W hO hU H => ?_) ?_
            · have h107 : ac.tmps[107]? = some (.pointer (some ⟨bg, og + pg, none⟩)) := isV_get (W := W) (H 3 107 rfl)
              have f0 := eg W hU
              exact growOp_plain rfl (parts_value (by simp [go_sem, h107, f0]))
            refine And.intro (fun ac W hO hU H => ?_) ?_
            · have h15 : ac.tmps[15]? = some (.int .i64 s.size) := (hO 15 rfl).trans rfl
              exact growOp_plain rfl (parts_value (by simp [go_sem, h15]))
            refine And.intro (fun ac W hO hU H => ?_) ?_
            · have h108 : ac.tmps[108]? = some (.string tg) := isV_get (W := W) (H 4 108 rfl)
              have h109 : ac.tmps[109]? = some (.int .i64 s.size) := isV_get (W := W) (H 5 109 rfl)
              exact growOp_plain rfl (parts_call_is (args := #[.string tg, .int .i64 s.size]) (by simp [go_sem, h108, h109]) (cn1 W))
            refine And.intro (fun ac W hO hU H => ?_) ?_
            · have h4 : ac.tmps[4]? = some (.pointer (some ⟨w.heap.size, 0, none⟩)) := (hO 4 rfl).trans rfl
              exact growOp_plain rfl (parts_value (by simp [go_sem, h4]))
            refine And.intro (fun ac W hO hU H => ?_) ?_
            · have h111 : ac.tmps[111]? = some (.pointer (some ⟨w.heap.size, 0, none⟩)) := isV_get (W := W) (H 7 111 rfl)
              have f0 := (mf W hU).1
              exact growOp_plain rfl (parts_value (by simp [go_sem, h111, f0]))
            refine And.intro (fun ac W hO hU H => ?_) ?_
            · have h1 : ac.tmps[1]? = some (.int .i64 pg) := (hO 1 rfl).trans rfl
              exact growOp_plain rfl (parts_value (by simp [go_sem, h1]))
            refine And.intro (fun ac W hO hU H => ?_) ?_
            · have h112 : ac.tmps[112]? = some (.slice (some ⟨bf, of, none⟩) f.pages.length cf) := isV_get (W := W) (H 8 112 rfl)
              have h113 : ac.tmps[113]? = some (.int .i64 pg) := isV_get (W := W) (H 9 113 rfl)
              exact growOp_plain rfl (parts_value (by simp [go_sem, h112, h113, iF]))
            refine And.intro (fun ac W hO hU H => ?_) ?_
            · have h114 : ac.tmps[114]? = some (.pointer (some ⟨bf, of + pg, none⟩)) := isV_get (W := W) (H 10 114 rfl)
              have f0 := ef W hU
              exact growOp_plain rfl (parts_value (by simp [go_sem, h114, f0]))
            refine And.intro (fun ac W hO hU H => ?_) ?_
            · have h15 : ac.tmps[15]? = some (.int .i64 s.size) := (hO 15 rfl).trans rfl
              exact growOp_plain rfl (parts_value (by simp [go_sem, h15]))
            refine And.intro (fun ac W hO hU H => ?_) ?_
            · have h115 : ac.tmps[115]? = some (.string tf) := isV_get (W := W) (H 11 115 rfl)
              have h116 : ac.tmps[116]? = some (.int .i64 s.size) := isV_get (W := W) (H 12 116 rfl)
              exact growOp_plain rfl (parts_call_is (args := #[.string tf, .int .i64 s.size]) (by simp [go_sem, h115, h116]) (cn2 W))
            refine And.intro (fun ac W hO hU H => ?_) ?_
            · have h110 : ac.tmps[110]? = some (.int .i64 nx) := isV_get (W := W) (H 6 110 rfl)
              have h117 : ac.tmps[117]? = some (.int .i64 nx) := isV_get (W := W) (H 13 117 rfl)
              exact growOp_plain rfl (parts_value (by simp [go_sem, h110, h117, hws]))
            refine And.intro (fun ac W hO hU H => ?_) ?_
            · have h118 : ac.tmps[118]? = some (.int .i64 0) := isV_get (W := W) (H 14 118 rfl)
              exact growOp_plain rfl (parts_value (by simp [go_sem, h118]))
            exact trivial
          · intro w9 xs hU hks
            obtain ⟨y0, rfl, g0⟩ := holdAll_is hks
            obtain ⟨y1, rfl, g1⟩ := holdAll_is g0
            obtain ⟨y2, rfl, g2⟩ := holdAll_is g1
            obtain ⟨y3, rfl, g3⟩ := holdAll_is g2
            obtain ⟨y4, rfl, g4⟩ := holdAll_is g3
            obtain ⟨y5, rfl, g5⟩ := holdAll_is g4
            obtain ⟨y6, rfl, g6⟩ := holdAll_is g5
            obtain ⟨y7, rfl, g7⟩ := holdAll_is g6
            obtain ⟨y8, rfl, g8⟩ := holdAll_is g7
            obtain ⟨y9, rfl, g9⟩ := holdAll_is g8
            obtain ⟨y10, rfl, g10⟩ := holdAll_is g9
            obtain ⟨y11, rfl, g11⟩ := holdAll_is g10
            obtain ⟨y12, rfl, g12⟩ := holdAll_is g11
            obtain ⟨y13, rfl, g13⟩ := holdAll_is g12
            obtain ⟨y14, rfl, g14⟩ := holdAll_is g13
            obtain ⟨y15, rfl, g15⟩ := holdAll_is g14
            obtain rfl := holdAll_nil g15
            clear hks g0 g1 g2 g3 g4 g5 g6 g7 g8 g9 g10 g11 g12 g13 g14 g15
            simp only [List.take_succ_cons, List.take_zero, List.drop_succ_cons, List.drop_zero, endTmps, List.setIfInBounds_toArray, List.set]
            have ub9 : Ups w8 w9 := drew_ups hU
            replace hrf := hrf.ups (Ups.trans (Ups.refl _) ub9)
            replace hbf := block_ups hbf (Ups.trans (Ups.refl _) ub9)
            have ltf_9 : w.heap.size < w9.heap.size := (Array.getElem?_eq_some_iff.1 hbf).1
            replace hr1 := hr1.ups (Ups.trans (Ups.refl _) ub9)
            replace hb1 := block_ups hb1 (Ups.trans (Ups.refl _) ub9)
            have lt1_9 : w3.heap.size < w9.heap.size := (Array.getElem?_eq_some_iff.1 hb1).1
            replace hr2 := hr2.ups (Ups.trans (Ups.refl _) ub9)
            replace hb2 := block_ups hb2 (Ups.trans (Ups.refl _) ub9)
            have lt2_9 : w4.heap.size < w9.heap.size := (Array.getElem?_eq_some_iff.1 hb2).1
            replace uw := Ups.trans uw (Ups.trans (Ups.refl _) ub9)
            clear hU
            clear mf m2 ef eg
            replace cf' := cell_ups ub9 cf'
            replace cg' := cell_ups ub9 cg'
            have hwb : IntKind.i64.wrap ((bd : Int) + 1) = (bd : Int) + 1 := (IntWalk.i64_left _).trans (IntWalk.wrap64_in _ ⟨by omega, by omega⟩)
            have hbb : (bm : Int) ≤ (bd : Int) + 1 := by omega
            go_wp2_with fail
            have mf := fun W (hU : Ups (World.drew w9) W) => block_cells (block_ups hbf (drew_ups hU))
            have m2 := fun W (hU : Ups (World.drew w9) W) => block_cells (block_ups hb2 (drew_ups hU))
            have ef := fun W (hU : Ups (World.drew w9) W) => cell_ups (drew_ups hU) cf'
            have eg := fun W (hU : Ups (World.drew w9) W) => cell_ups (drew_ups hU) cg'
            refine wp_region_parts (N := 35) (n := 153) (ks := [isV (.bool true), isV (.bool true), isV (.bool true), isV (.bool true), isV (.bool true), isV (.pointer (some ⟨w4.heap.size, 4, none⟩)), isV (.bool true), isV (.bool true), isV (.bool true), isV (.int .i64 0), isV (.bool true), isV (.bool true), isV (undef), isV (undef), isV (.bool true), isV (.bool true), isV (.bool true), isV (.pointer (some ⟨w4.heap.size, 0, none⟩)), isV (.slice (some ⟨bg, og, none⟩) G.pages.length c2), isV (.int .i64 pg), isV (.pointer (some ⟨bg, og + pg, none⟩)), isV (.string tg), isV (.int .i64 s.size), isV (.int .i64 bm), isV (.pointer (some ⟨w.heap.size, 0, none⟩)), isV (.slice (some ⟨bf, of, none⟩) f.pages.length cf), isV (.int .i64 pg), isV (.pointer (some ⟨bf, of + pg, none⟩)), isV (.string tf), isV (.int .i64 s.size), isV (.int .i64 bd), isV (.int .i64 (bd + 1)), isV (.bool true), isV (.bool true), isV (.bool true)]) (by decide +kernel) (by decide +kernel) (by decide +kernel) (by simp) rfl (by decide +kernel) ⟨steady_is _, steady_is _, steady_is _, steady_is _, steady_is _, steady_is _, steady_is _, steady_is _, steady_is _, steady_is _, steady_is _, steady_is _, steady_is _, steady_is _, steady_is _, steady_is _, steady_is _, steady_is _, steady_is _, steady_is _, steady_is _, steady_is _, steady_is _, steady_is _, steady_is _, steady_is _, steady_is _, steady_is _, steady_is _, steady_is _, steady_is _, steady_is _, steady_is _, steady_is _, steady_is _, trivial⟩ ?_ ?_
            · refine And.intro (fun ac W hO hU H => ?_) ?_
              · have h9 : ac.tmps[9]? = some (.bool true) := (hO 9 rfl).trans rfl
                exact growOp_plain rfl (parts_value (by simp [go_sem, h9]))
              refine And.intro (fun ac W hO hU H => ?_) ?_
              · have h119 : ac.tmps[119]? = some (.bool true) := isV_get (W := W) (H 0 119 rfl)
                exact growOp_plain rfl (parts_value (by simp [go_sem, h119]))
              refine And.intro (fun ac W hO hU H => ?_) ?_
              · have h18 : ac.tmps[18]? = some (.bool true) := (hO 18 rfl).trans rfl
                have hg : ac.tmps[120]? = some (.bool true) := isV_get (W := W) (H 1 120 rfl)
                exact growOp_done rfl rfl hg (parts_value (by simp [go_sem, h18]))
              refine And.intro (fun ac W hO hU H => ?_) ?_
              · have h120 : ac.tmps[120]? = some (.bool true) := isV_get (W := W) (H 1 120 rfl)
                have h121 : ac.tmps[121]? = some (.bool true) := isV_get (W := W) (H 2 121 rfl)
                exact growOp_plain rfl (parts_value (by simp [go_sem, h120, h121]))
              refine And.intro (fun ac W hO hU H => ?_) ?_
              · have h122 : ac.tmps[122]? = some (.bool true) := isV_get (W := W) (H 3 122 rfl)
                exact growOp_plain rfl (parts_value (by simp [go_sem, h122]))
              refine And.intro (fun ac W hO hU H => ?_) ?_
              · have h13 : ac.tmps[13]? = some (.pointer (some ⟨w4.heap.size, 0, none⟩)) := (hO 13 rfl).trans rfl
                have hg : ac.tmps[123]? = some (.bool true) := isV_get (W := W) (H 4 123 rfl)
                exact growOp_done rfl rfl hg (parts_value (by simp [go_sem, h13]))
              refine And.intro (fun ac W hO hU H => ?_) ?_
              · have h124 : ac.tmps[124]? = some (.pointer (some ⟨w4.heap.size, 4, none⟩)) := isV_get (W := W) (H 5 124 rfl)
                have hg : ac.tmps[123]? = some (.bool true) := isV_get (W := W) (H 4 123 rfl)
                have f0 := (m2 W hU).2.2.2.2
                exact growOp_done rfl rfl hg (parts_value (by simp [go_sem, h124, f0, KD.out]))
              refine And.intro (fun ac W hO hU H => ?_) ?_
              · have h123 : ac.tmps[123]? = some (.bool true) := isV_get (W := W) (H 4 123 rfl)
                have h125 : ac.tmps[125]? = some (.bool true) := isV_get (W := W) (H 6 125 rfl)
                exact growOp_plain rfl (parts_value (by simp [go_sem, h123, h125]))
              refine And.intro (fun ac W hO hU H => ?_) ?_
              · have h126 : ac.tmps[126]? = some (.bool true) := isV_get (W := W) (H 7 126 rfl)
                exact growOp_plain rfl (parts_value (by simp [go_sem, h126]))
              refine And.intro (fun ac W hO hU H => ?_) ?_
              · have h19 : ac.tmps[19]? = some (.int .i64 0) := (hO 19 rfl).trans rfl
                have hg : ac.tmps[127]? = some (.bool true) := isV_get (W := W) (H 8 127 rfl)
                exact growOp_done rfl rfl hg (parts_value (by simp [go_sem, h19]))
              refine And.intro (fun ac W hO hU H => ?_) ?_
              · have h128 : ac.tmps[128]? = some (.int .i64 0) := isV_get (W := W) (H 9 128 rfl)
                have hg : ac.tmps[127]? = some (.bool true) := isV_get (W := W) (H 8 127 rfl)
                exact growOp_done rfl rfl hg (parts_value (by simp [go_sem, h128]))
              refine And.intro (fun ac W hO hU H => ?_) ?_
              · have h129 : ac.tmps[129]? = some (.bool true) := isV_get (W := W) (H 10 129 rfl)
                have hg : ac.tmps[127]? = some (.bool true) := isV_get (W := W) (H 8 127 rfl)
                exact growOp_done rfl rfl hg (parts_value (by simp [go_sem, h129]))
              refine And.intro (fun ac W hO hU H => ?_) ?_
              · have hg : ac.tmps[130]? = some (.bool true) := isV_get (W := W) (H 11 130 rfl)
                exact growOp_left rfl rfl hg Ups.refl rfl
              refine And.intro (fun ac W hO hU H => ?_) ?_
              · have hg : ac.tmps[130]? = some (.bool true) := isV_get (W := W) (H 11 130 rfl)
                exact growOp_left rfl rfl hg Ups.refl rfl
              refine And.intro (fun ac W hO hU H => ?_) ?_
              · have h130 : ac.tmps[130]? = some (.bool true) := isV_get (W := W) (H 11 130 rfl)
                have h132 : ac.tmps[132]? = some (undef) := isV_get (W := W) (H 13 132 rfl)
                have hg : ac.tmps[127]? = some (.bool true) := isV_get (W := W) (H 8 127 rfl)
                exact growOp_done rfl rfl hg (parts_value (by simp [go_sem, h130, h132]))
              refine And.intro (fun ac W hO hU H => ?_) ?_
              · have h127 : ac.tmps[127]? = some (.bool true) := isV_get (W := W) (H 8 127 rfl)
                have h133 : ac.tmps[133]? = some (.bool true) := isV_get (W := W) (H 14 133 rfl)
                exact growOp_plain rfl (parts_value (by simp [go_sem, h127, h133]))
              refine And.intro (fun ac W hO hU H => ?_) ?_
              · have h134 : ac.tmps[134]? = some (.bool true) := isV_get (W := W) (H 15 134 rfl)
                exact growOp_plain rfl (parts_value (by simp [go_sem, h134]))
              refine And.intro (fun ac W hO hU H => ?_) ?_
              · have h13 : ac.tmps[13]? = some (.pointer (some ⟨w4.heap.size, 0, none⟩)) := (hO 13 rfl).trans rfl
                have hg : ac.tmps[135]? = some (.bool true) := isV_get (W := W) (H 16 135 rfl)
                exact growOp_done rfl rfl hg (parts_value (by simp [go_sem, h13]))
              refine And.intro (fun ac W hO hU H => ?_) ?_
              · have h136 : ac.tmps[136]? = some (.pointer (some ⟨w4.heap.size, 0, none⟩)) := isV_get (W := W) (H 17 136 rfl)
                have hg : ac.tmps[135]? = some (.bool true) := isV_get (W := W) (H 16 135 rfl)
                have f0 := (m2 W hU).1
                exact growOp_done rfl rfl hg (parts_value (by simp [go_sem, h136, f0]))
              refine And.intro (fun ac W hO hU H => ?_) ?_
              · have h1 : ac.tmps[1]? = some (.int .i64 pg) := (hO 1 rfl).trans rfl
                have hg : ac.tmps[135]? = some (.bool true) := isV_get (W := W) (H 16 135 rfl)
                exact growOp_done rfl rfl hg (parts_value (by simp [go_sem, h1]))
              refine And.intro (fun ac W hO hU H => ?_) ?_
              · have h137 : ac.tmps[137]? = some (.slice (some ⟨bg, og, none⟩) G.pages.length c2) := isV_get (W := W) (H 18 137 rfl)
                have h138 : ac.tmps[138]? = some (.int .i64 pg) := isV_get (W := W) (H 19 138 rfl)
                have hg : ac.tmps[135]? = some (.bool true) := isV_get (W := W) (H 16 135 rfl)
                exact growOp_done rfl rfl hg (parts_value (by simp [go_sem, h137, h138, iG]))
              refine And.intro (fun ac W hO hU H => ?_) ?_
              · have h139 : ac.tmps[139]? = some (.pointer (some ⟨bg, og + pg, none⟩)) := isV_get (W := W) (H 20 139 rfl)
                have hg : ac.tmps[135]? = some (.bool true) := isV_get (W := W) (H 16 135 rfl)
                have f0 := eg W hU
                exact growOp_done rfl rfl hg (parts_value (by simp [go_sem, h139, f0]))
              refine And.intro (fun ac W hO hU H => ?_) ?_
              · have h15 : ac.tmps[15]? = some (.int .i64 s.size) := (hO 15 rfl).trans rfl
                have hg : ac.tmps[135]? = some (.bool true) := isV_get (W := W) (H 16 135 rfl)
                exact growOp_done rfl rfl hg (parts_value (by simp [go_sem, h15]))
              refine And.intro (fun ac W hO hU H => ?_) ?_
              · have h140 : ac.tmps[140]? = some (.string tg) := isV_get (W := W) (H 21 140 rfl)
                have h141 : ac.tmps[141]? = some (.int .i64 s.size) := isV_get (W := W) (H 22 141 rfl)
                have hg : ac.tmps[135]? = some (.bool true) := isV_get (W := W) (H 16 135 rfl)
                exact growOp_done rfl rfl hg (parts_call_is (args := #[.string tg, .int .i64 s.size]) (by simp [go_sem, h140, h141]) (cb1 W))
              refine And.intro (fun ac W hO hU H => ?_) ?_
              · have h4 : ac.tmps[4]? = some (.pointer (some ⟨w.heap.size, 0, none⟩)) := (hO 4 rfl).trans rfl
                have hg : ac.tmps[135]? = some (.bool true) := isV_get (W := W) (H 16 135 rfl)
                exact growOp_done rfl rfl hg (parts_value (by simp [go_sem, h4]))
              refine And.intro (fun ac W hO hU H => ?_) ?_
              · have h143 : ac.tmps[143]? = some (.pointer (some ⟨w.heap.size, 0, none⟩)) := isV_get (W := W) (H 24 143 rfl)
                have hg : ac.tmps[135]? = some (.bool true) := isV_get (W := W) (H 16 135 rfl)
                have f0 := (mf W hU).1
                exact growOp_done rfl rfl hg (parts_value (by simp [go_sem, h143, f0]))
              refine And.intro (fun ac W hO hU H => ?_) ?_
              · have h1 : ac.tmps[1]? = some (.int .i64 pg) := (hO 1 rfl).trans rfl
                have hg : ac.tmps[135]? = some (.bool true) := isV_get (W := W) (H 16 135 rfl)
                exact growOp_done rfl rfl hg (parts_value (by simp [go_sem, h1]))
              refine And.intro (fun ac W hO hU H => ?_) ?_
              · have h144 : ac.tmps[144]? = some (.slice (some ⟨bf, of, none⟩) f.pages.length cf) := isV_get (W := W) (H 25 144 rfl)
                have h145 : ac.tmps[145]? = some (.int .i64 pg) := isV_get (W := W) (H 26 145 rfl)
                have hg : ac.tmps[135]? = some (.bool true) := isV_get (W := W) (H 16 135 rfl)
                exact growOp_done rfl rfl hg (parts_value (by simp [go_sem, h144, h145, iF]))
              refine And.intro (fun ac W hO hU H => ?_) ?_
              · have h146 : ac.tmps[146]? = some (.pointer (some ⟨bf, of + pg, none⟩)) := isV_get (W := W) (H 27 146 rfl)
                have hg : ac.tmps[135]? = some (.bool true) := isV_get (W := W) (H 16 135 rfl)
                have f0 := ef W hU
                exact growOp_done rfl rfl hg (parts_value (by simp [go_sem, h146, f0]))
              refine And.intro (fun ac W hO hU H => ?_) ?_
              · have h15 : ac.tmps[15]? = some (.int .i64 s.size) := (hO 15 rfl).trans rfl
                have hg : ac.tmps[135]? = some (.bool true) := isV_get (W := W) (H 16 135 rfl)
                exact growOp_done rfl rfl hg (parts_value (by simp [go_sem, h15]))
              refine And.intro (fun ac W hO hU H => ?_) ?_
              · have h147 : ac.tmps[147]? = some (.string tf) := isV_get (W := W) (H 28 147 rfl)
                have h148 : ac.tmps[148]? = some (.int .i64 s.size) := isV_get (W := W) (H 29 148 rfl)
                have hg : ac.tmps[135]? = some (.bool true) := isV_get (W := W) (H 16 135 rfl)
                exact growOp_done rfl rfl hg (parts_call_is (args := #[.string tf, .int .i64 s.size]) (by simp [go_sem, h147, h148]) (cb2 W))
              refine And.intro (fun ac W hO hU H => ?_) ?_
              · have h149 : ac.tmps[149]? = some (.int .i64 bd) := isV_get (W := W) (H 30 149 rfl)
                have hg : ac.tmps[135]? = some (.bool true) := isV_get (W := W) (H 16 135 rfl)
                exact growOp_done rfl rfl hg (parts_value (by simp [go_sem, h149, hwb]))
              refine And.intro (fun ac W hO hU H => ?_) ?_
              · have h142 : ac.tmps[142]? = some (.int .i64 bm) := isV_get (W := W) (H 23 142 rfl)
                have h150 : ac.tmps[150]? = some (.int .i64 (bd + 1)) := isV_get (W := W) (H 31 150 rfl)
                have hg : ac.tmps[135]? = some (.bool true) := isV_get (W := W) (H 16 135 rfl)
                exact growOp_done rfl rfl hg (parts_value (by simp [go_sem, h142, h150, hbb]))
              refine And.intro (fun ac W hO hU H => ?_) ?_
              · have h135 : ac.tmps[135]? = some (.bool true) := isV_get (W := W) (H 16 135 rfl)
                have h151 : ac.tmps[151]? = some (.bool true) := isV_get (W := W) (H 32 151 rfl)
                exact growOp_plain rfl (parts_value (by simp [go_sem, h135, h151]))
              refine And.intro (fun ac W hO hU H => ?_) ?_
              · have h152 : ac.tmps[152]? = some (.bool true) := isV_get (W := W) (H 33 152 rfl)
                exact growOp_plain rfl (parts_value (by simp [go_sem, h152]))
              exact trivial
            · intro w10 xs hU hks
              obtain ⟨y0, rfl, g0⟩ := holdAll_is hks
              obtain ⟨y1, rfl, g1⟩ := holdAll_is g0
              obtain ⟨y2, rfl, g2⟩ := holdAll_is g1
              obtain ⟨y3, rfl, g3⟩ := holdAll_is g2
              obtain ⟨y4, rfl, g4⟩ := holdAll_is g3
              obtain ⟨y5, rfl, g5⟩ := holdAll_is g4
              obtain ⟨y6, rfl, g6⟩ := holdAll_is g5
              obtain ⟨y7, rfl, g7⟩ := holdAll_is g6
              obtain ⟨y8, rfl, g8⟩ := holdAll_is g7
              obtain ⟨y9, rfl, g9⟩ := holdAll_is g8
              obtain ⟨y10, rfl, g10⟩ := holdAll_is g9
              obtain ⟨y11, rfl, g11⟩ := holdAll_is g10
              obtain ⟨y12, rfl, g12⟩ := holdAll_is g11
              obtain ⟨y13, rfl, g13⟩ := holdAll_is g12
              obtain ⟨y14, rfl, g14⟩ := holdAll_is g13
              obtain ⟨y15, rfl, g15⟩ := holdAll_is g14
              obtain ⟨y16, rfl, g16⟩ := holdAll_is g15
              obtain ⟨y17, rfl, g17⟩ := holdAll_is g16
              obtain ⟨y18, rfl, g18⟩ := holdAll_is g17
              obtain ⟨y19, rfl, g19⟩ := holdAll_is g18
              obtain ⟨y20, rfl, g20⟩ := holdAll_is g19
              obtain ⟨y21, rfl, g21⟩ := holdAll_is g20
              obtain ⟨y22, rfl, g22⟩ := holdAll_is g21
              obtain ⟨y23, rfl, g23⟩ := holdAll_is g22
              obtain ⟨y24, rfl, g24⟩ := holdAll_is g23
              obtain ⟨y25, rfl, g25⟩ := holdAll_is g24
              obtain ⟨y26, rfl, g26⟩ := holdAll_is g25
              obtain ⟨y27, rfl, g27⟩ := holdAll_is g26
              obtain ⟨y28, rfl, g28⟩ := holdAll_is g27
              obtain ⟨y29, rfl, g29⟩ := holdAll_is g28
              obtain ⟨y30, rfl, g30⟩ := holdAll_is g29
              obtain ⟨y31, rfl, g31⟩ := holdAll_is g30
              obtain ⟨y32, rfl, g32⟩ := holdAll_is g31
              obtain ⟨y33, rfl, g33⟩ := holdAll_is g32
              obtain ⟨y34, rfl, g34⟩ := holdAll_is g33
              obtain rfl := holdAll_nil g34
              clear hks g0 g1 g2 g3 g4 g5 g6 g7 g8 g9 g10 g11 g12 g13 g14 g15 g16 g17 g18 g19 g20 g21 g22 g23 g24 g25 g26 g27 g28 g29 g30 g31 g32 g33 g34
              simp only [List.take_succ_cons, List.take_zero, List.drop_succ_cons, List.drop_zero, endTmps, List.setIfInBounds_toArray, List.set]
              have ub10 : Ups w9 w10 := drew_ups hU
              replace hrf := hrf.ups (Ups.trans (Ups.refl _) ub10)
              replace hbf := block_ups hbf (Ups.trans (Ups.refl _) ub10)
              have ltf_10 : w.heap.size < w10.heap.size := (Array.getElem?_eq_some_iff.1 hbf).1
              replace hr1 := hr1.ups (Ups.trans (Ups.refl _) ub10)
              replace hb1 := block_ups hb1 (Ups.trans (Ups.refl _) ub10)
              have lt1_10 : w3.heap.size < w10.heap.size := (Array.getElem?_eq_some_iff.1 hb1).1
              replace hr2 := hr2.ups (Ups.trans (Ups.refl _) ub10)
              replace hb2 := block_ups hb2 (Ups.trans (Ups.refl _) ub10)
              have lt2_10 : w4.heap.size < w10.heap.size := (Array.getElem?_eq_some_iff.1 hb2).1
              replace uw := Ups.trans uw (Ups.trans (Ups.refl _) ub10)
              clear hU
              clear mf m2 ef eg
              go_wp2_with fail
              exact bodyPost_ret (v := .bool true) (results_one rfl rfl) rfl ⟨rfl, Ups.trans uw (Ups.refl _)⟩
        · have hkn2 := hkn.symm
          clear hkn
          subst hkn2
          rw [show (((nx + 1 : Nat) : Int)) = (nx : Int) + 1 from rfl] at cn1
          obtain ⟨kf0, kf1, kf2, kf3, kf4⟩ := block_cells hbf
          go_wp2_with fail
          refine (cl _).mono ?_
          clear cfa
          rintro e w5 ⟨vl, rfl, ho, uu⟩
          clear kf0 kf1 kf2 kf3 kf4
          replace cf' := cell_ups (Ups.trans (up1 _ _) uu) cf'
          replace cg' := cell_ups (Ups.trans (up1 _ _) uu) cg'
          have ub5 : Ups (w4.alloc (.cells #[.slice (some ⟨bg, og, none⟩) G.pages.length c2, .slice a'2 G.wear.length c'2, .int .i64 G.fuse, .string G.torn, .bool G.dead] 31)) w5 := uu
          replace hrf := hrf.ups (Ups.trans (up1 _ _) ub5)
          replace hbf := block_ups hbf (Ups.trans (up1 _ _) ub5)
          have ltf_5 : w.heap.size < w5.heap.size := (Array.getElem?_eq_some_iff.1 hbf).1
          replace hr1 := hr1.ups (Ups.trans (up1 _ _) ub5)
          replace hb1 := block_ups hb1 (Ups.trans (up1 _ _) ub5)
          have lt1_5 : w3.heap.size < w5.heap.size := (Array.getElem?_eq_some_iff.1 hb1).1
          replace hr2 := hr2.ups (Ups.trans (up1 _ _) ub5)
          replace hb2 := block_ups hb2 ub5
          have lt2_5 : w4.heap.size < w5.heap.size := (Array.getElem?_eq_some_iff.1 hb2).1
          replace uw := Ups.trans uw (Ups.trans (up1 _ _) ub5)
          clear uu
          obtain ⟨k20, k21, k22, k23, k24⟩ := block_cells hb2
          go_wp2_with fail
          refine (cm _).mono ?_
          rintro e w6 ⟨vm, rfl, hm, uu⟩
          clear k20 k21 k22 k23 k24
          replace cf' := cell_ups (Ups.trans (Ups.refl _) uu) cf'
          replace cg' := cell_ups (Ups.trans (Ups.refl _) uu) cg'
          replace ho := owns_ups ho uu
          have hmt := owns_texts hm
          clear hm
          have ub6 : Ups w5 w6 := uu
          replace hrf := hrf.ups (Ups.trans (Ups.refl _) ub6)
          replace hbf := block_ups hbf (Ups.trans (Ups.refl _) ub6)
          have ltf_6 : w.heap.size < w6.heap.size := (Array.getElem?_eq_some_iff.1 hbf).1
          replace hr1 := hr1.ups (Ups.trans (Ups.refl _) ub6)
          replace hb1 := block_ups hb1 (Ups.trans (Ups.refl _) ub6)
          have lt1_6 : w3.heap.size < w6.heap.size := (Array.getElem?_eq_some_iff.1 hb1).1
          replace hr2 := hr2.ups (Ups.trans (Ups.refl _) ub6)
          replace hb2 := block_ups hb2 (Ups.trans (Ups.refl _) ub6)
          have lt2_6 : w4.heap.size < w6.heap.size := (Array.getElem?_eq_some_iff.1 hb2).1
          replace uw := Ups.trans uw (Ups.trans (Ups.refl _) ub6)
          clear uu
          have ht := rtexts_calls hmt (owns_texts ho) (by simp only [List.length_append, List.length_singleton]; omega)
          rw [show decide (l ++ [s] = l) = false from decide_eq_false (fun h => by have := congrArg List.length h; simp at this)] at ht
          go_wp2_with fail
          refine ht.mono ?_
          clear ht
          rintro e w7 ⟨rfl, uu⟩
          replace cf' := cell_ups uu cf'
          replace cg' := cell_ups uu cg'
          replace hmt := hmt.ups uu
          replace ho := owns_ups ho uu
          have ub7 : Ups w6 w7 := uu
          replace hrf := hrf.ups (Ups.trans (Ups.refl _) ub7)
          replace hbf := block_ups hbf (Ups.trans (Ups.refl _) ub7)
          have ltf_7 : w.heap.size < w7.heap.size := (Array.getElem?_eq_some_iff.1 hbf).1
          replace hr1 := hr1.ups (Ups.trans (Ups.refl _) ub7)
          replace hb1 := block_ups hb1 (Ups.trans (Ups.refl _) ub7)
          have lt1_7 : w3.heap.size < w7.heap.size := (Array.getElem?_eq_some_iff.1 hb1).1
          replace hr2 := hr2.ups (Ups.trans (Ups.refl _) ub7)
          replace hb2 := block_ups hb2 (Ups.trans (Ups.refl _) ub7)
          have lt2_7 : w4.heap.size < w7.heap.size := (Array.getElem?_eq_some_iff.1 hb2).1
          replace uw := Ups.trans uw (Ups.trans (Ups.refl _) ub7)
          clear uu
          have HOL := Lib.hid ho
          clear ho
          go_wp2_with (at_builtin; refine wpList_append_any rfl _ _ 26 rfl _ _ 9 i0 (.string ByteArray.empty) 16 Tryz.underlying26 hi hz0 hz1 hz2 rfl _ _ _ rfl (made_empty _) vl (l.map Value.string) rfl (owns_map (owns_ups HOL.out (up1 _ _))) (strings_cells _) (by simp only [List.length_map]; unfold maxLen; omega) (by simp only [List.length_map]; omega) (by simp) ?_)
          intro v1 x1 ho1 hg1
          replace ho1 : x1.ownsRow w7.heap.size 9 1 v1 l.length (l.map Value.string) := by simpa using ho1
          have u1 : Ups w7 x1 := grown_ups (up1 _ _) (made_empty _) (Nat.le_refl _) hg1
          clear hg1
          have HO1 := Lib.hid ho1
          clear ho1
          go_wp2_with (at_builtin; refine wpList_append_any rfl _ _ 26 rfl w7.heap.size x1.heap.size 9 i0 (.string ByteArray.empty) 16 Tryz.underlying26 hi hz0 hz1 hz2 rfl v1 l.length _ rfl (HO1.out.alloc _) (.slice (some ⟨x1.heap.size, 0, none⟩) 1 1) [.string s] rfl (made_one x1 s) (strings_cells [s]) (by simp only [List.length_cons, List.length_nil]; unfold maxLen; omega) (by simp only [List.length_cons, List.length_nil]; omega) (by have := u1.size; simp; omega) ?_)
          intro v2 x2 ho2 hg2
          have u2 : Ups w7 x2 := grown_ups (Ups.trans u1 (up1 _ _)) (HO1.out.alloc _) (Nat.le_refl _) hg2
          replace ho2 : x2.ownsRow w7.heap.size 9 1 v2 (l.length + 1) ((l ++ [s]).map Value.string) := by simpa using ho2
          have hx2 : TextsAt x2 v2 (l ++ [s]) := texts_of_own (by simp) ho2
          clear ho2 hg2
          have ht := rtexts_calls (hmt.ups u2) hx2 (by simp only [List.length_append, List.length_singleton]; omega)
          rw [show decide (l ++ [s] = l ++ [s]) = true from decide_eq_true rfl] at ht
          go_wp2_with fail
          refine ht.mono ?_
          clear ht hx2 hmt HO1 HOL
          rintro e w8 ⟨rfl, uu⟩
          replace cf' := cell_ups (Ups.trans u2 uu) cf'
          replace cg' := cell_ups (Ups.trans u2 uu) cg'
          have u3 := Ups.trans u2 uu
          have ub8 : Ups w7 w8 := u3
          replace hrf := hrf.ups (Ups.trans (Ups.refl _) ub8)
          replace hbf := block_ups hbf (Ups.trans (Ups.refl _) ub8)
          have ltf_8 : w.heap.size < w8.heap.size := (Array.getElem?_eq_some_iff.1 hbf).1
          replace hr1 := hr1.ups (Ups.trans (Ups.refl _) ub8)
          replace hb1 := block_ups hb1 (Ups.trans (Ups.refl _) ub8)
          have lt1_8 : w3.heap.size < w8.heap.size := (Array.getElem?_eq_some_iff.1 hb1).1
          replace hr2 := hr2.ups (Ups.trans (Ups.refl _) ub8)
          replace hb2 := block_ups hb2 (Ups.trans (Ups.refl _) ub8)
          have lt2_8 : w4.heap.size < w8.heap.size := (Array.getElem?_eq_some_iff.1 hb2).1
          replace uw := Ups.trans uw (Ups.trans (Ups.refl _) ub8)
          clear uu u1 u2 u3
          go_wp2_with fail
          have hwb : IntKind.i64.wrap ((bd : Int) + 1) = (bd : Int) + 1 := (IntWalk.i64_left _).trans (IntWalk.wrap64_in _ ⟨by omega, by omega⟩)
          have hws : IntKind.i64.wrap ((nx : Int) + 1 - nx) = 1 := by rw [show (nx : Int) + 1 - nx = 1 by omega]; rfl
          have mf := fun W (hU : Ups (World.drew w8) W) => block_cells (block_ups hbf (drew_ups hU))
          have m2 := fun W (hU : Ups (World.drew w8) W) => block_cells (block_ups hb2 (drew_ups hU))
          have ef := fun W (hU : Ups (World.drew w8) W) => cell_ups (drew_ups hU) cf'
          have eg := fun W (hU : Ups (World.drew w8) W) => cell_ups (drew_ups hU) cg'
          clear hwb
          refine wp_region_parts (N := 16) (n := 153) (ks := [isV (.pointer (some ⟨w4.heap.size, 0, none⟩)), isV (.slice (some ⟨bg, og, none⟩) G.pages.length c2), isV (.int .i64 pg), isV (.pointer (some ⟨bg, og + pg, none⟩)), isV (.string tg), isV (.int .i64 s.size), isV (.int .i64 (nx + 1)), isV (.pointer (some ⟨w.heap.size, 0, none⟩)), isV (.slice (some ⟨bf, of, none⟩) f.pages.length cf), isV (.int .i64 pg), isV (.pointer (some ⟨bf, of + pg, none⟩)), isV (.string tf), isV (.int .i64 s.size), isV (.int .i64 nx), isV (.int .i64 1), isV (.int .i64 1)]) (by decide +kernel) (by decide +kernel) (by decide +kernel) (by simp) rfl (by decide +kernel) ⟨steady_is _, steady_is _, steady_is _, steady_is _, steady_is _, steady_is _, steady_is _, steady_is _, steady_is _, steady_is _, steady_is _, steady_is _, steady_is _, steady_is _, steady_is _, steady_is _, trivial⟩ ?_ ?_
          · refine And.intro (fun ac W hO hU H => ?_) ?_
            · have h13 : ac.tmps[13]? = some (.pointer (some ⟨w4.heap.size, 0, none⟩)) := (hO 13 rfl).trans rfl
              exact growOp_plain rfl (parts_value (by simp [go_sem, h13]))
            refine And.intro (fun ac W hO hU H => ?_) ?_
            · have h104 : ac.tmps[104]? = some (.pointer (some ⟨w4.heap.size, 0, none⟩)) := isV_get (W := W) (H 0 104 rfl)
              have f0 := (m2 W hU).1
              exact growOp_plain rfl (parts_value (by simp [go_sem, h104, f0]))
            refine And.intro (fun ac W hO hU H => ?_) ?_
            · have h1 : ac.tmps[1]? = some (.int .i64 pg) := (hO 1 rfl).trans rfl
              exact growOp_plain rfl (parts_value (by simp [go_sem, h1]))
            refine And.intro (fun ac W hO hU H => ?_) ?_
            · have h105 : ac.tmps[105]? = some (.slice (some ⟨bg, og, none⟩) G.pages.length c2) := isV_get (W := W) (H 1 105 rfl)
              have h106 : ac.tmps[106]? = some (.int .i64 pg) := isV_get (W := W) (H 2 106 rfl)
              exact growOp_plain rfl (parts_value (by simp [go_sem, h105, h106, iG]))
            refine And.intro (fun ac W hO hU H => ?_) ?_
            · have h107 : ac.tmps[107]? = some (.pointer (some ⟨bg, og + pg, none⟩)) := isV_get (W := W) (H 3 107 rfl)
              have f0 := eg W hU
              exact growOp_plain rfl (parts_value (by simp [go_sem, h107, f0]))
            refine And.intro (fun ac W hO hU H => ?_) ?_
            · have h15 : ac.tmps[15]? = some (.int .i64 s.size) := (hO 15 rfl).trans rfl
              exact growOp_plain rfl (parts_value (by simp [go_sem, h15]))
            refine And.intro (fun ac W hO hU H => ?_) ?_
            · have h108 : ac.tmps[108]? = some (.string tg) := isV_get (W := W) (H 4 108 rfl)
              have h109 : ac.tmps[109]? = some (.int .i64 s.size) := isV_get (W := W) (H 5 109 rfl)
              exact growOp_plain rfl (parts_call_is (args := #[.string tg, .int .i64 s.size]) (by simp [go_sem, h108, h109]) (cn1 W))
            refine And.intro (fun ac W hO hU H => ?_) ?_
            · have h4 : ac.tmps[4]? = some (.pointer (some ⟨w.heap.size, 0, none⟩)) := (hO 4 rfl).trans rfl
              exact growOp_plain rfl (parts_value (by simp [go_sem, h4]))
            refine And.intro (fun ac W hO hU H => ?_) ?_
            · have h111 : ac.tmps[111]? = some (.pointer (some ⟨w.heap.size, 0, none⟩)) := isV_get (W := W) (H 7 111 rfl)
              have f0 := (mf W hU).1
              exact growOp_plain rfl (parts_value (by simp [go_sem, h111, f0]))
            refine And.intro (fun ac W hO hU H => ?_) ?_
            · have h1 : ac.tmps[1]? = some (.int .i64 pg) := (hO 1 rfl).trans rfl
              exact growOp_plain rfl (parts_value (by simp [go_sem, h1]))
            refine And.intro (fun ac W hO hU H => ?_) ?_
            · have h112 : ac.tmps[112]? = some (.slice (some ⟨bf, of, none⟩) f.pages.length cf) := isV_get (W := W) (H 8 112 rfl)
              have h113 : ac.tmps[113]? = some (.int .i64 pg) := isV_get (W := W) (H 9 113 rfl)
              exact growOp_plain rfl (parts_value (by simp [go_sem, h112, h113, iF]))
            refine And.intro (fun ac W hO hU H => ?_) ?_
            · have h114 : ac.tmps[114]? = some (.pointer (some ⟨bf, of + pg, none⟩)) := isV_get (W := W) (H 10 114 rfl)
              have f0 := ef W hU
              exact growOp_plain rfl (parts_value (by simp [go_sem, h114, f0]))
            refine And.intro (fun ac W hO hU H => ?_) ?_
            · have h15 : ac.tmps[15]? = some (.int .i64 s.size) := (hO 15 rfl).trans rfl
              exact growOp_plain rfl (parts_value (by simp [go_sem, h15]))
            refine And.intro (fun ac W hO hU H => ?_) ?_
            · have h115 : ac.tmps[115]? = some (.string tf) := isV_get (W := W) (H 11 115 rfl)
              have h116 : ac.tmps[116]? = some (.int .i64 s.size) := isV_get (W := W) (H 12 116 rfl)
              exact growOp_plain rfl (parts_call_is (args := #[.string tf, .int .i64 s.size]) (by simp [go_sem, h115, h116]) (cn2 W))
            refine And.intro (fun ac W hO hU H => ?_) ?_
            · have h110 : ac.tmps[110]? = some (.int .i64 (nx + 1)) := isV_get (W := W) (H 6 110 rfl)
              have h117 : ac.tmps[117]? = some (.int .i64 nx) := isV_get (W := W) (H 13 117 rfl)
              exact growOp_plain rfl (parts_value (by simp [go_sem, h110, h117, hws]))
            refine And.intro (fun ac W hO hU H => ?_) ?_
            · have h118 : ac.tmps[118]? = some (.int .i64 1) := isV_get (W := W) (H 14 118 rfl)
              exact growOp_plain rfl (parts_value (by simp [go_sem, h118]))
            exact trivial
          · intro w9 xs hU hks
            obtain ⟨y0, rfl, g0⟩ := holdAll_is hks
            obtain ⟨y1, rfl, g1⟩ := holdAll_is g0
            obtain ⟨y2, rfl, g2⟩ := holdAll_is g1
            obtain ⟨y3, rfl, g3⟩ := holdAll_is g2
            obtain ⟨y4, rfl, g4⟩ := holdAll_is g3
            obtain ⟨y5, rfl, g5⟩ := holdAll_is g4
            obtain ⟨y6, rfl, g6⟩ := holdAll_is g5
            obtain ⟨y7, rfl, g7⟩ := holdAll_is g6
            obtain ⟨y8, rfl, g8⟩ := holdAll_is g7
            obtain ⟨y9, rfl, g9⟩ := holdAll_is g8
            obtain ⟨y10, rfl, g10⟩ := holdAll_is g9
            obtain ⟨y11, rfl, g11⟩ := holdAll_is g10
            obtain ⟨y12, rfl, g12⟩ := holdAll_is g11
            obtain ⟨y13, rfl, g13⟩ := holdAll_is g12
            obtain ⟨y14, rfl, g14⟩ := holdAll_is g13
            obtain ⟨y15, rfl, g15⟩ := holdAll_is g14
            obtain rfl := holdAll_nil g15
            clear hks g0 g1 g2 g3 g4 g5 g6 g7 g8 g9 g10 g11 g12 g13 g14 g15
            simp only [List.take_succ_cons, List.take_zero, List.drop_succ_cons, List.drop_zero, endTmps, List.setIfInBounds_toArray, List.set]
            have ub9 : Ups w8 w9 := drew_ups hU
            replace hrf := hrf.ups (Ups.trans (Ups.refl _) ub9)
            replace hbf := block_ups hbf (Ups.trans (Ups.refl _) ub9)
            have ltf_9 : w.heap.size < w9.heap.size := (Array.getElem?_eq_some_iff.1 hbf).1
            replace hr1 := hr1.ups (Ups.trans (Ups.refl _) ub9)
            replace hb1 := block_ups hb1 (Ups.trans (Ups.refl _) ub9)
            have lt1_9 : w3.heap.size < w9.heap.size := (Array.getElem?_eq_some_iff.1 hb1).1
            replace hr2 := hr2.ups (Ups.trans (Ups.refl _) ub9)
            replace hb2 := block_ups hb2 (Ups.trans (Ups.refl _) ub9)
            have lt2_9 : w4.heap.size < w9.heap.size := (Array.getElem?_eq_some_iff.1 hb2).1
            replace uw := Ups.trans uw (Ups.trans (Ups.refl _) ub9)
            clear hU
            clear mf m2 ef eg
            replace cf' := cell_ups ub9 cf'
            replace cg' := cell_ups ub9 cg'
            have hwb : IntKind.i64.wrap ((bd : Int) + 1) = (bd : Int) + 1 := (IntWalk.i64_left _).trans (IntWalk.wrap64_in _ ⟨by omega, by omega⟩)
            have hbb : (bm : Int) ≤ (bd : Int) + 1 := by omega
            go_wp2_with fail
            have mf := fun W (hU : Ups (World.drew w9) W) => block_cells (block_ups hbf (drew_ups hU))
            have m2 := fun W (hU : Ups (World.drew w9) W) => block_cells (block_ups hb2 (drew_ups hU))
            have ef := fun W (hU : Ups (World.drew w9) W) => cell_ups (drew_ups hU) cf'
            have eg := fun W (hU : Ups (World.drew w9) W) => cell_ups (drew_ups hU) cg'
            refine wp_region_parts (N := 35) (n := 153) (ks := [isV (.bool true), isV (.bool true), isV (.bool true), isV (.bool true), isV (.bool true), isV (.pointer (some ⟨w4.heap.size, 4, none⟩)), isV (.bool true), isV (.bool true), isV (.bool true), isV (.int .i64 1), isV (.bool false), isV (.bool false), isV (.int .i64 1), isV (.bool true), isV (.bool true), isV (.bool true), isV (.bool true), isV (.pointer (some ⟨w4.heap.size, 0, none⟩)), isV (.slice (some ⟨bg, og, none⟩) G.pages.length c2), isV (.int .i64 pg), isV (.pointer (some ⟨bg, og + pg, none⟩)), isV (.string tg), isV (.int .i64 s.size), isV (.int .i64 bm), isV (.pointer (some ⟨w.heap.size, 0, none⟩)), isV (.slice (some ⟨bf, of, none⟩) f.pages.length cf), isV (.int .i64 pg), isV (.pointer (some ⟨bf, of + pg, none⟩)), isV (.string tf), isV (.int .i64 s.size), isV (.int .i64 bd), isV (.int .i64 (bd + 1)), isV (.bool true), isV (.bool true), isV (.bool true)]) (by decide +kernel) (by decide +kernel) (by decide +kernel) (by simp) rfl (by decide +kernel) ⟨steady_is _, steady_is _, steady_is _, steady_is _, steady_is _, steady_is _, steady_is _, steady_is _, steady_is _, steady_is _, steady_is _, steady_is _, steady_is _, steady_is _, steady_is _, steady_is _, steady_is _, steady_is _, steady_is _, steady_is _, steady_is _, steady_is _, steady_is _, steady_is _, steady_is _, steady_is _, steady_is _, steady_is _, steady_is _, steady_is _, steady_is _, steady_is _, steady_is _, steady_is _, steady_is _, trivial⟩ ?_ ?_
            · refine And.intro (fun ac W hO hU H => ?_) ?_
              · have h9 : ac.tmps[9]? = some (.bool true) := (hO 9 rfl).trans rfl
                exact growOp_plain rfl (parts_value (by simp [go_sem, h9]))
              refine And.intro (fun ac W hO hU H => ?_) ?_
              · have h119 : ac.tmps[119]? = some (.bool true) := isV_get (W := W) (H 0 119 rfl)
                exact growOp_plain rfl (parts_value (by simp [go_sem, h119]))
              refine And.intro (fun ac W hO hU H => ?_) ?_
              · have h18 : ac.tmps[18]? = some (.bool true) := (hO 18 rfl).trans rfl
                have hg : ac.tmps[120]? = some (.bool true) := isV_get (W := W) (H 1 120 rfl)
                exact growOp_done rfl rfl hg (parts_value (by simp [go_sem, h18]))
              refine And.intro (fun ac W hO hU H => ?_) ?_
              · have h120 : ac.tmps[120]? = some (.bool true) := isV_get (W := W) (H 1 120 rfl)
                have h121 : ac.tmps[121]? = some (.bool true) := isV_get (W := W) (H 2 121 rfl)
                exact growOp_plain rfl (parts_value (by simp [go_sem, h120, h121]))
              refine And.intro (fun ac W hO hU H => ?_) ?_
              · have h122 : ac.tmps[122]? = some (.bool true) := isV_get (W := W) (H 3 122 rfl)
                exact growOp_plain rfl (parts_value (by simp [go_sem, h122]))
              refine And.intro (fun ac W hO hU H => ?_) ?_
              · have h13 : ac.tmps[13]? = some (.pointer (some ⟨w4.heap.size, 0, none⟩)) := (hO 13 rfl).trans rfl
                have hg : ac.tmps[123]? = some (.bool true) := isV_get (W := W) (H 4 123 rfl)
                exact growOp_done rfl rfl hg (parts_value (by simp [go_sem, h13]))
              refine And.intro (fun ac W hO hU H => ?_) ?_
              · have h124 : ac.tmps[124]? = some (.pointer (some ⟨w4.heap.size, 4, none⟩)) := isV_get (W := W) (H 5 124 rfl)
                have hg : ac.tmps[123]? = some (.bool true) := isV_get (W := W) (H 4 123 rfl)
                have f0 := (m2 W hU).2.2.2.2
                exact growOp_done rfl rfl hg (parts_value (by simp [go_sem, h124, f0, KD.out]))
              refine And.intro (fun ac W hO hU H => ?_) ?_
              · have h123 : ac.tmps[123]? = some (.bool true) := isV_get (W := W) (H 4 123 rfl)
                have h125 : ac.tmps[125]? = some (.bool true) := isV_get (W := W) (H 6 125 rfl)
                exact growOp_plain rfl (parts_value (by simp [go_sem, h123, h125]))
              refine And.intro (fun ac W hO hU H => ?_) ?_
              · have h126 : ac.tmps[126]? = some (.bool true) := isV_get (W := W) (H 7 126 rfl)
                exact growOp_plain rfl (parts_value (by simp [go_sem, h126]))
              refine And.intro (fun ac W hO hU H => ?_) ?_
              · have h19 : ac.tmps[19]? = some (.int .i64 1) := (hO 19 rfl).trans rfl
                have hg : ac.tmps[127]? = some (.bool true) := isV_get (W := W) (H 8 127 rfl)
                exact growOp_done rfl rfl hg (parts_value (by simp [go_sem, h19]))
              refine And.intro (fun ac W hO hU H => ?_) ?_
              · have h128 : ac.tmps[128]? = some (.int .i64 1) := isV_get (W := W) (H 9 128 rfl)
                have hg : ac.tmps[127]? = some (.bool true) := isV_get (W := W) (H 8 127 rfl)
                exact growOp_done rfl rfl hg (parts_value (by simp [go_sem, h128]))
              refine And.intro (fun ac W hO hU H => ?_) ?_
              · have h129 : ac.tmps[129]? = some (.bool false) := isV_get (W := W) (H 10 129 rfl)
                have hg : ac.tmps[127]? = some (.bool true) := isV_get (W := W) (H 8 127 rfl)
                exact growOp_done rfl rfl hg (parts_value (by simp [go_sem, h129]))
              refine And.intro (fun ac W hO hU H => ?_) ?_
              · have h19 : ac.tmps[19]? = some (.int .i64 1) := (hO 19 rfl).trans rfl
                have hg : ac.tmps[130]? = some (.bool false) := isV_get (W := W) (H 11 130 rfl)
                exact growOp_done rfl rfl hg (parts_value (by simp [go_sem, h19]))
              refine And.intro (fun ac W hO hU H => ?_) ?_
              · have h131 : ac.tmps[131]? = some (.int .i64 1) := isV_get (W := W) (H 12 131 rfl)
                have hg : ac.tmps[130]? = some (.bool false) := isV_get (W := W) (H 11 130 rfl)
                exact growOp_done rfl rfl hg (parts_value (by simp [go_sem, h131]))
              refine And.intro (fun ac W hO hU H => ?_) ?_
              · have h130 : ac.tmps[130]? = some (.bool false) := isV_get (W := W) (H 11 130 rfl)
                have h132 : ac.tmps[132]? = some (.bool true) := isV_get (W := W) (H 13 132 rfl)
                have hg : ac.tmps[127]? = some (.bool true) := isV_get (W := W) (H 8 127 rfl)
                exact growOp_done rfl rfl hg (parts_value (by simp [go_sem, h130, h132]))
              refine And.intro (fun ac W hO hU H => ?_) ?_
              · have h127 : ac.tmps[127]? = some (.bool true) := isV_get (W := W) (H 8 127 rfl)
                have h133 : ac.tmps[133]? = some (.bool true) := isV_get (W := W) (H 14 133 rfl)
                exact growOp_plain rfl (parts_value (by simp [go_sem, h127, h133]))
              refine And.intro (fun ac W hO hU H => ?_) ?_
              · have h134 : ac.tmps[134]? = some (.bool true) := isV_get (W := W) (H 15 134 rfl)
                exact growOp_plain rfl (parts_value (by simp [go_sem, h134]))
              refine And.intro (fun ac W hO hU H => ?_) ?_
              · have h13 : ac.tmps[13]? = some (.pointer (some ⟨w4.heap.size, 0, none⟩)) := (hO 13 rfl).trans rfl
                have hg : ac.tmps[135]? = some (.bool true) := isV_get (W := W) (H 16 135 rfl)
                exact growOp_done rfl rfl hg (parts_value (by simp [go_sem, h13]))
              refine And.intro (fun ac W hO hU H => ?_) ?_
              · have h136 : ac.tmps[136]? = some (.pointer (some ⟨w4.heap.size, 0, none⟩)) := isV_get (W := W) (H 17 136 rfl)
                have hg : ac.tmps[135]? = some (.bool true) := isV_get (W := W) (H 16 135 rfl)
                have f0 := (m2 W hU).1
                exact growOp_done rfl rfl hg (parts_value (by simp [go_sem, h136, f0]))
              refine And.intro (fun ac W hO hU H => ?_) ?_
              · have h1 : ac.tmps[1]? = some (.int .i64 pg) := (hO 1 rfl).trans rfl
                have hg : ac.tmps[135]? = some (.bool true) := isV_get (W := W) (H 16 135 rfl)
                exact growOp_done rfl rfl hg (parts_value (by simp [go_sem, h1]))
              refine And.intro (fun ac W hO hU H => ?_) ?_
              · have h137 : ac.tmps[137]? = some (.slice (some ⟨bg, og, none⟩) G.pages.length c2) := isV_get (W := W) (H 18 137 rfl)
                have h138 : ac.tmps[138]? = some (.int .i64 pg) := isV_get (W := W) (H 19 138 rfl)
                have hg : ac.tmps[135]? = some (.bool true) := isV_get (W := W) (H 16 135 rfl)
                exact growOp_done rfl rfl hg (parts_value (by simp [go_sem, h137, h138, iG]))
              refine And.intro (fun ac W hO hU H => ?_) ?_
              · have h139 : ac.tmps[139]? = some (.pointer (some ⟨bg, og + pg, none⟩)) := isV_get (W := W) (H 20 139 rfl)
                have hg : ac.tmps[135]? = some (.bool true) := isV_get (W := W) (H 16 135 rfl)
                have f0 := eg W hU
                exact growOp_done rfl rfl hg (parts_value (by simp [go_sem, h139, f0]))
              refine And.intro (fun ac W hO hU H => ?_) ?_
              · have h15 : ac.tmps[15]? = some (.int .i64 s.size) := (hO 15 rfl).trans rfl
                have hg : ac.tmps[135]? = some (.bool true) := isV_get (W := W) (H 16 135 rfl)
                exact growOp_done rfl rfl hg (parts_value (by simp [go_sem, h15]))
              refine And.intro (fun ac W hO hU H => ?_) ?_
              · have h140 : ac.tmps[140]? = some (.string tg) := isV_get (W := W) (H 21 140 rfl)
                have h141 : ac.tmps[141]? = some (.int .i64 s.size) := isV_get (W := W) (H 22 141 rfl)
                have hg : ac.tmps[135]? = some (.bool true) := isV_get (W := W) (H 16 135 rfl)
                exact growOp_done rfl rfl hg (parts_call_is (args := #[.string tg, .int .i64 s.size]) (by simp [go_sem, h140, h141]) (cb1 W))
              refine And.intro (fun ac W hO hU H => ?_) ?_
              · have h4 : ac.tmps[4]? = some (.pointer (some ⟨w.heap.size, 0, none⟩)) := (hO 4 rfl).trans rfl
                have hg : ac.tmps[135]? = some (.bool true) := isV_get (W := W) (H 16 135 rfl)
                exact growOp_done rfl rfl hg (parts_value (by simp [go_sem, h4]))
              refine And.intro (fun ac W hO hU H => ?_) ?_
              · have h143 : ac.tmps[143]? = some (.pointer (some ⟨w.heap.size, 0, none⟩)) := isV_get (W := W) (H 24 143 rfl)
                have hg : ac.tmps[135]? = some (.bool true) := isV_get (W := W) (H 16 135 rfl)
                have f0 := (mf W hU).1
                exact growOp_done rfl rfl hg (parts_value (by simp [go_sem, h143, f0]))
              refine And.intro (fun ac W hO hU H => ?_) ?_
              · have h1 : ac.tmps[1]? = some (.int .i64 pg) := (hO 1 rfl).trans rfl
                have hg : ac.tmps[135]? = some (.bool true) := isV_get (W := W) (H 16 135 rfl)
                exact growOp_done rfl rfl hg (parts_value (by simp [go_sem, h1]))
              refine And.intro (fun ac W hO hU H => ?_) ?_
              · have h144 : ac.tmps[144]? = some (.slice (some ⟨bf, of, none⟩) f.pages.length cf) := isV_get (W := W) (H 25 144 rfl)
                have h145 : ac.tmps[145]? = some (.int .i64 pg) := isV_get (W := W) (H 26 145 rfl)
                have hg : ac.tmps[135]? = some (.bool true) := isV_get (W := W) (H 16 135 rfl)
                exact growOp_done rfl rfl hg (parts_value (by simp [go_sem, h144, h145, iF]))
              refine And.intro (fun ac W hO hU H => ?_) ?_
              · have h146 : ac.tmps[146]? = some (.pointer (some ⟨bf, of + pg, none⟩)) := isV_get (W := W) (H 27 146 rfl)
                have hg : ac.tmps[135]? = some (.bool true) := isV_get (W := W) (H 16 135 rfl)
                have f0 := ef W hU
                exact growOp_done rfl rfl hg (parts_value (by simp [go_sem, h146, f0]))
              refine And.intro (fun ac W hO hU H => ?_) ?_
              · have h15 : ac.tmps[15]? = some (.int .i64 s.size) := (hO 15 rfl).trans rfl
                have hg : ac.tmps[135]? = some (.bool true) := isV_get (W := W) (H 16 135 rfl)
                exact growOp_done rfl rfl hg (parts_value (by simp [go_sem, h15]))
              refine And.intro (fun ac W hO hU H => ?_) ?_
              · have h147 : ac.tmps[147]? = some (.string tf) := isV_get (W := W) (H 28 147 rfl)
                have h148 : ac.tmps[148]? = some (.int .i64 s.size) := isV_get (W := W) (H 29 148 rfl)
                have hg : ac.tmps[135]? = some (.bool true) := isV_get (W := W) (H 16 135 rfl)
                exact growOp_done rfl rfl hg (parts_call_is (args := #[.string tf, .int .i64 s.size]) (by simp [go_sem, h147, h148]) (cb2 W))
              refine And.intro (fun ac W hO hU H => ?_) ?_
              · have h149 : ac.tmps[149]? = some (.int .i64 bd) := isV_get (W := W) (H 30 149 rfl)
                have hg : ac.tmps[135]? = some (.bool true) := isV_get (W := W) (H 16 135 rfl)
                exact growOp_done rfl rfl hg (parts_value (by simp [go_sem, h149, hwb]))
              refine And.intro (fun ac W hO hU H => ?_) ?_
              · have h142 : ac.tmps[142]? = some (.int .i64 bm) := isV_get (W := W) (H 23 142 rfl)
                have h150 : ac.tmps[150]? = some (.int .i64 (bd + 1)) := isV_get (W := W) (H 31 150 rfl)
                have hg : ac.tmps[135]? = some (.bool true) := isV_get (W := W) (H 16 135 rfl)
                exact growOp_done rfl rfl hg (parts_value (by simp [go_sem, h142, h150, hbb]))
              refine And.intro (fun ac W hO hU H => ?_) ?_
              · have h135 : ac.tmps[135]? = some (.bool true) := isV_get (W := W) (H 16 135 rfl)
                have h151 : ac.tmps[151]? = some (.bool true) := isV_get (W := W) (H 32 151 rfl)
                exact growOp_plain rfl (parts_value (by simp [go_sem, h135, h151]))
              refine And.intro (fun ac W hO hU H => ?_) ?_
              · have h152 : ac.tmps[152]? = some (.bool true) := isV_get (W := W) (H 33 152 rfl)
                exact growOp_plain rfl (parts_value (by simp [go_sem, h152]))
              exact trivial
            · intro w10 xs hU hks
              obtain ⟨y0, rfl, g0⟩ := holdAll_is hks
              obtain ⟨y1, rfl, g1⟩ := holdAll_is g0
              obtain ⟨y2, rfl, g2⟩ := holdAll_is g1
              obtain ⟨y3, rfl, g3⟩ := holdAll_is g2
              obtain ⟨y4, rfl, g4⟩ := holdAll_is g3
              obtain ⟨y5, rfl, g5⟩ := holdAll_is g4
              obtain ⟨y6, rfl, g6⟩ := holdAll_is g5
              obtain ⟨y7, rfl, g7⟩ := holdAll_is g6
              obtain ⟨y8, rfl, g8⟩ := holdAll_is g7
              obtain ⟨y9, rfl, g9⟩ := holdAll_is g8
              obtain ⟨y10, rfl, g10⟩ := holdAll_is g9
              obtain ⟨y11, rfl, g11⟩ := holdAll_is g10
              obtain ⟨y12, rfl, g12⟩ := holdAll_is g11
              obtain ⟨y13, rfl, g13⟩ := holdAll_is g12
              obtain ⟨y14, rfl, g14⟩ := holdAll_is g13
              obtain ⟨y15, rfl, g15⟩ := holdAll_is g14
              obtain ⟨y16, rfl, g16⟩ := holdAll_is g15
              obtain ⟨y17, rfl, g17⟩ := holdAll_is g16
              obtain ⟨y18, rfl, g18⟩ := holdAll_is g17
              obtain ⟨y19, rfl, g19⟩ := holdAll_is g18
              obtain ⟨y20, rfl, g20⟩ := holdAll_is g19
              obtain ⟨y21, rfl, g21⟩ := holdAll_is g20
              obtain ⟨y22, rfl, g22⟩ := holdAll_is g21
              obtain ⟨y23, rfl, g23⟩ := holdAll_is g22
              obtain ⟨y24, rfl, g24⟩ := holdAll_is g23
              obtain ⟨y25, rfl, g25⟩ := holdAll_is g24
              obtain ⟨y26, rfl, g26⟩ := holdAll_is g25
              obtain ⟨y27, rfl, g27⟩ := holdAll_is g26
              obtain ⟨y28, rfl, g28⟩ := holdAll_is g27
              obtain ⟨y29, rfl, g29⟩ := holdAll_is g28
              obtain ⟨y30, rfl, g30⟩ := holdAll_is g29
              obtain ⟨y31, rfl, g31⟩ := holdAll_is g30
              obtain ⟨y32, rfl, g32⟩ := holdAll_is g31
              obtain ⟨y33, rfl, g33⟩ := holdAll_is g32
              obtain ⟨y34, rfl, g34⟩ := holdAll_is g33
              obtain rfl := holdAll_nil g34
              clear hks g0 g1 g2 g3 g4 g5 g6 g7 g8 g9 g10 g11 g12 g13 g14 g15 g16 g17 g18 g19 g20 g21 g22 g23 g24 g25 g26 g27 g28 g29 g30 g31 g32 g33 g34
              simp only [List.take_succ_cons, List.take_zero, List.drop_succ_cons, List.drop_zero, endTmps, List.setIfInBounds_toArray, List.set]
              have ub10 : Ups w9 w10 := drew_ups hU
              replace hrf := hrf.ups (Ups.trans (Ups.refl _) ub10)
              replace hbf := block_ups hbf (Ups.trans (Ups.refl _) ub10)
              have ltf_10 : w.heap.size < w10.heap.size := (Array.getElem?_eq_some_iff.1 hbf).1
              replace hr1 := hr1.ups (Ups.trans (Ups.refl _) ub10)
              replace hb1 := block_ups hb1 (Ups.trans (Ups.refl _) ub10)
              have lt1_10 : w3.heap.size < w10.heap.size := (Array.getElem?_eq_some_iff.1 hb1).1
              replace hr2 := hr2.ups (Ups.trans (Ups.refl _) ub10)
              replace hb2 := block_ups hb2 (Ups.trans (Ups.refl _) ub10)
              have lt2_10 : w4.heap.size < w10.heap.size := (Array.getElem?_eq_some_iff.1 hb2).1
              replace uw := Ups.trans uw (Ups.trans (Ups.refl _) ub10)
              clear hU
              clear mf m2 ef eg
              go_wp2_with fail
              exact bodyPost_ret (v := .bool true) (results_one rfl rfl) rfl ⟨rfl, Ups.trans uw (Ups.refl _)⟩

end Go.Proofs.YtmabpnkdagipfaaGreat
