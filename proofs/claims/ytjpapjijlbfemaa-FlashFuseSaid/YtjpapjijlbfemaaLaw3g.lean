/- FlashFuse, walked. -/
import Derived.Test.YtjpapjijlbfemaaLaw3r
import Derived.Test.YtjpapjijlbfemaaLaw3f
namespace Go.Proofs.Ytjpapjijlbfemaa
open Go.RowKit

/-- What the loop keeps. -/
def FuseInv (f : Fl) (pg N T B : Nat) (w : World) (i : Value) (wr : World) : Prop := ∃ (k : Nat) (S : Fl) (a : Option Addr) (cc : Nat) (a' : Option Addr) (c' : Nat), k ≤ T ∧ i = .int .i64 k ∧ Fused f pg N k S ∧ FlAt wr (.agg #[.slice a S.pages.length cc, .slice a' S.wear.length c', .int .i64 S.fuse, .string S.torn, .bool S.dead]) S ∧ FlOff B (.agg #[.slice a S.pages.length cc, .slice a' S.wear.length c', .int .i64 S.fuse, .string S.torn, .bool S.dead]) ∧ wr.heap[B]? = some (.cells #[.slice a S.pages.length cc, .slice a' S.wear.length c', .int .i64 S.fuse, .string S.torn, .bool S.dead] 25) ∧ Ups w wr

set_option maxRecDepth 100000 in
set_option maxHeartbeats 8000000 in
theorem fuse_law (f : Fl) (v : Value) (page : Int) (fu st : Nat) (hfu : fu < 256) (hst : st < 256) (w : World) (h : FlAt w v f) (hf : FlFit f) :
    Calls Try.prog 7 #[v, .int .i64 page, .int .u8 fu, .int .u8 st] w fun e W' => e = .returned (.bool true) ∧ Ups w W' := by
  obtain ⟨N, hN⟩ : ∃ N : Nat, N = fu % 12 := ⟨_, rfl⟩
  obtain ⟨T, hT⟩ : ∃ T : Nat, T = st % 20 := ⟨_, rfl⟩
  have hwst : IntKind.i64.wrap (st : Int) = st := (IntWalk.i64_left _).trans (IntWalk.wrap64_in _ ⟨by omega, by omega⟩)
  have rN : Int.tmod (fu : Int) 12 = (N : Int) := by rw [Int.tmod_eq_emod_of_nonneg (by omega)]; omega
  have rT : Int.tmod (st : Int) 20 = (T : Int) := by rw [Int.tmod_eq_emod_of_nonneg (by omega)]; omega
  have bN : N < 12 := by omega
  have bT : T < 20 := by omega
  clear hN hT
  obtain ⟨K, ke, hK⟩ : ∃ K ke, wakeF f (N : Int) ⟨#[]⟩ = (K, ke) := ⟨_, _, rfl⟩
  have HK := Lib.hid (wake_facts hK)
  have hrf := h
  clear h
  have hsf := hrf
  obtain ⟨_, _, rfl, ⟨af, cf, rfl, _⟩, ⟨a'f, c'f, rfl, _⟩⟩ := hsf
  have hbf : (w.alloc (.cells #[.slice af f.pages.length cf, .slice a'f f.wear.length c'f, .int .i64 f.fuse, .string f.torn, .bool f.dead] 25)).heap[w.heap.size]? = some (.cells #[.slice af f.pages.length cf, .slice a'f f.wear.length c'f, .int .i64 f.fuse, .string f.torn, .bool f.dead] 25) := alloc_at _ _
  go_enter Try.func7, Try.ntmps7
  have hc := works3 (w.alloc (.cells #[.slice af f.pages.length cf, .slice a'f f.wear.length c'f, .int .i64 f.fuse, .string f.torn, .bool f.dead] 25))
  go_wp2_with fail
  refine hc.mono ?_
  clear hc
  rintro e w1 ⟨rfl, uu⟩
  have ub1 : Ups (w.alloc (.cells #[.slice af f.pages.length cf, .slice a'f f.wear.length c'f, .int .i64 f.fuse, .string f.torn, .bool f.dead] 25)) w1 := uu
  replace hrf := hrf.ups (Ups.trans (up1 _ _) ub1)
  replace hbf := block_ups hbf ub1
  have ltf_1 : w.heap.size < w1.heap.size := (Array.getElem?_eq_some_iff.1 hbf).1
  have uw := Ups.trans (up1 _ _) ub1
  clear uu
  have hc := few_calls f _ w1 (hrf.ups (Ups.refl _)) hf
  obtain ⟨kf0, kf1, kf2, kf3, kf4⟩ := block_cells hbf
  go_wp2_with fail
  refine hc.mono ?_
  clear hc
  rintro e w2 ⟨few, rfl, hfew, uu⟩
  clear kf0 kf1 kf2 kf3 kf4
  have ub2 : Ups w1 w2 := uu
  replace hrf := hrf.ups (Ups.trans (Ups.refl _) ub2)
  replace hbf := block_ups hbf (Ups.trans (Ups.refl _) ub2)
  have ltf_2 : w.heap.size < w2.heap.size := (Array.getElem?_eq_some_iff.1 hbf).1
  replace uw := Ups.trans uw (Ups.trans (Ups.refl _) ub2)
  clear uu
  have HF := Lib.hid hfew
  clear hfew
  have hc := wake_calls f _ (N : Int) ⟨#[]⟩ w2 (hrf.ups (Ups.refl _)) hf
  rw [hK] at hc
  obtain ⟨kf0, kf1, kf2, kf3, kf4⟩ := block_cells hbf
  go_wp2_with fail
  refine hc.mono ?_
  clear hc
  rintro e w3 ⟨v1, rfl, hn⟩
  clear kf0 kf1 kf2 kf3 kf4
  have ub3 : Ups w2 w3 := hn.ups
  replace hrf := hrf.ups (Ups.trans (Ups.refl _) ub3)
  replace hbf := block_ups hbf (Ups.trans (Ups.refl _) ub3)
  have ltf_3 : w.heap.size < w3.heap.size := (Array.getElem?_eq_some_iff.1 hbf).1
  replace uw := Ups.trans uw (Ups.trans (Ups.refl _) ub3)
  have hr1 := hn.reads
  clear hn
  have hs1 := hr1
  obtain ⟨_, _, rfl, ⟨a1, c1, rfl, _⟩, ⟨a'1, c'1, rfl, _⟩⟩ := hs1
  have hb1 : (w3.alloc (.cells #[.slice a1 K.pages.length c1, .slice a'1 K.wear.length c'1, .int .i64 K.fuse, .string K.torn, .bool K.dead] 25)).heap[w3.heap.size]? = some (.cells #[.slice a1 K.pages.length c1, .slice a'1 K.wear.length c'1, .int .i64 K.fuse, .string K.torn, .bool K.dead] 25) := alloc_at _ _
  cases few with
  | false =>
    go_wp2_with fail
    exact bodyPost_ret (v := .bool true) (results_one rfl rfl) rfl ⟨rfl, Ups.trans uw (up1 _ _)⟩
  | true =>
    obtain ⟨n1, n2⟩ := HF.out rfl
    have n12 := Lib.hid (And.intro n1 n2)
    clear HF n1 n2
    rcases HK.out with ⟨rfl, -⟩ | ⟨rfl, hck, -, -, -⟩
    · go_wp2_with fail
      exact bodyPost_ret (v := .bool true) (results_one rfl rfl) rfl ⟨rfl, Ups.trans uw (up1 _ _)⟩
    by_cases hp0 : page < 0
    · go_wp2_with fail
      exact bodyPost_ret (v := .bool true) (results_one rfl rfl) rfl ⟨rfl, Ups.trans uw (up1 _ _)⟩
    by_cases hp1 : page < (f.pages.length : Int)
    · obtain ⟨pg, rfl⟩ : ∃ pg : Nat, page = pg := ⟨page.toNat, by omega⟩
      have hpg : pg < f.pages.length := by omega
      have hpn : ¬ f.pages.length ≤ pg := by omega
      have hpn' : ¬ (f.pages.length : Int) ≤ pg := by omega
      have hF0 := Lib.hid (fused_start (n := N) hf hK (by omega) hpg)
      have HCK := Lib.hid hck
      clear hck
      obtain ⟨kf0, kf1, kf2, kf3, kf4⟩ := block_cells hbf
      go_wp2_with fail
      go_loopw [14] (fun i wr => FuseInv f pg N T w3.heap.size w3 i wr) (fun i _ => T - (intOf i).toNat)
      case atStart => exact ⟨0, K, a1, c1, a'1, c'1, Nat.zero_le _, rfl, hF0.out, hr1.ups (up1 _ _), hr1.off (Nat.le_refl _), hb1, up1 _ _⟩
      case round =>
        obtain ⟨k, S, a, cc, a', c', hk, rfl, hS, hrS, hoS, hbS, hu⟩ := hrel
        clear kf0 kf1 kf2 kf3 kf4
        replace hrf := hrf.ups hu
        replace hbf := block_ups hbf hu
        have ltf := (Array.getElem?_eq_some_iff.1 hbf).1
        have ltS := (Array.getElem?_eq_some_iff.1 hbS).1
        replace uw := Ups.trans uw hu
        clear hr1 hb1
        have HS := Lib.hid hS
        clear hS
        obtain ⟨kf0, kf1, kf2, kf3, kf4⟩ := block_cells hbf
        obtain ⟨s0, s1, s2, s3, s4⟩ := block_cells hbS
        by_cases hlt : (k : Int) < T
        · obtain ⟨X, xe, hX⟩ : ∃ X xe, eraseF S pg = (X, xe) := ⟨_, _, rfl⟩
          obtain ⟨hx1, hx2, hx3, hx4⟩ := fused_step hpg HS.out hX
          have H3 := Lib.hid hx3
          have H4 := Lib.hid hx4
          clear hx3 hx4
          have hc := erase_calls S _ pg wr hrS HS.out.fit
          rw [hX] at hc
          go_wp2_with fail
          refine hc.mono ?_
          clear hc
          rintro e w9 ⟨v9, rfl, hn⟩
          have hoX := hn.off _ ltS hoS
          have u9 := hn.ups
          have hr9 := hn.reads
          clear hn
          have hrX := hr9
          obtain ⟨_, _, rfl, ⟨ax, cx, rfl, _⟩, ⟨ax', cx', rfl, _⟩⟩ := hr9
          have hbS9 := block_ups hbS u9
          have hbf9 := block_ups hbf u9
          have ltS9 := (Array.getElem?_eq_some_iff.1 hbS9).1
          have ltf9 := (Array.getElem?_eq_some_iff.1 hbf9).1
          have hbX : (w9.alloc (.cells #[.slice ax X.pages.length cx, .slice ax' X.wear.length cx', .int .i64 X.fuse, .string X.torn, .bool X.dead] 25)).heap[w9.heap.size]? = some (.cells #[.slice ax X.pages.length cx, .slice ax' X.wear.length cx', .int .i64 X.fuse, .string X.torn, .bool X.dead] 25) := alloc_at _ _
          clear s0 s1 s2 s3 s4 kf0 kf1 kf2 kf3 kf4
          obtain ⟨s0, s1, s2, s3, s4⟩ := block_cells hbS9
          have y0 := block_frozen hbS9 0
          have y1 := block_frozen hbS9 1
          have y2 := block_frozen hbS9 2
          have y3 := block_frozen hbS9 3
          have y4 := block_frozen hbS9 4
          have hnx : X.dead = decide (N ≤ k) := hx2
          clear hx2
          by_cases hi : k < N
          · have i1 : (k : Int) < N := by omega
            have i2 : ¬ (N : Int) ≤ k := by omega
            have i3 : ¬ (N : Int) < k := by omega
            rw [if_pos hi] at hx1
            have hd : decide (N ≤ k) = false := decide_eq_false (by omega)
            rw [hd] at hnx
            subst hx1
            generalize hX5 : X.dead = xd at *
            subst hnx
            clear hd
            have HI := Lib.hid hi
            clear hi
            go_wp2_with fail
            refine ⟨⟨k + 1, X, ax, cx, ax', cx', by omega, by go_num, H4.out, ?_, ?_, ?_, ?_⟩, ?_⟩
            · rw [hX5]; exact (hrX.but (put5_but _ _ _ _ _ _ _) hoX).ups (up1 _ _)
            · rw [hX5]; exact hoX
            · rw [hX5]; exact block_ups (put5_block hbS9) (up1 _ _)
            · exact Ups.trans ((put5_but _ _ _ _ _ _ _).below (Ups.trans hu u9) (Nat.le_refl _)) (up1 _ _)
            · simp [intOf]; omega
          · have i1 : ¬ (k : Int) < N := by omega
            have i2 : (N : Int) ≤ k := by omega
            rw [if_neg hi] at hx1
            have hd : decide (N ≤ k) = true := decide_eq_true (by omega)
            rw [hd] at hnx
            subst hx1
            generalize hX5 : X.dead = xd at *
            subst hnx
            clear hd
            by_cases hj : N < k
            · have i3 : (N : Int) < k := by omega
              have hXS : sameB X S = true := by rw [H3.out hj]; exact sameB_refl _
              clear hj hi
              have hc := same_calls X S _ _ (w9.alloc (.cells #[.slice ax X.pages.length cx, .slice ax' X.wear.length cx', .int .i64 X.fuse, .string X.torn, .bool true] 25)) (hrX.ups (up1 _ _)) (hrS.ups (Ups.trans u9 (up1 _ _))) (by have := n12.out; have := H4.out.pages; omega) (by have := n12.out; have := HS.out.pages; omega) (by have := n12.out; have := H4.out.wear; omega) (by have := n12.out; have := HS.out.wear; omega)
              rw [hXS] at hc
              clear hXS
              go_wp2_with fail
              refine hc.mono ?_
              clear hc
              rintro e w10 ⟨rfl, uu⟩
              have hbS10 := block_ups hbS9 (Ups.trans (up1 _ _) uu)
              have hbX10 := block_ups hbX uu
              clear s0 s1 s2 s3 s4 y0 y1 y2 y3 y4
              obtain ⟨s0, s1, s2, s3, s4⟩ := block_cells hbS10
              obtain ⟨x0, x1, x2, x3, x4⟩ := block_cells hbX10
              have y0 := block_frozen hbS10 0
              have y1 := block_frozen hbS10 1
              have y2 := block_frozen hbS10 2
              have y3 := block_frozen hbS10 3
              have y4 := block_frozen hbS10 4
              go_wp2_with fail
              refine ⟨⟨k + 1, X, ax, cx, ax', cx', by omega, by go_num, H4.out, ?_, ?_, ?_, ?_⟩, ?_⟩
              · rw [hX5]; exact (hrX.ups (Ups.trans (up1 _ _) uu)).but (put5_but _ _ _ _ _ _ _) hoX
              · rw [hX5]; exact hoX
              · rw [hX5]; exact put5_block (block_ups hbS9 (Ups.trans (up1 _ _) uu))
              · exact (put5_but _ _ _ _ _ _ _).below (Ups.trans hu (Ups.trans u9 (Ups.trans (up1 _ _) uu))) (Nat.le_refl _)
              · simp [intOf]; omega
            · have i3 : ¬ (N : Int) < k := by omega
              clear hj hi
              go_wp2_with fail
              refine ⟨⟨k + 1, X, ax, cx, ax', cx', by omega, by go_num, H4.out, ?_, ?_, ?_, ?_⟩, ?_⟩
              · rw [hX5]; exact (hrX.but (put5_but _ _ _ _ _ _ _) hoX).ups (up1 _ _)
              · rw [hX5]; exact hoX
              · rw [hX5]; exact block_ups (put5_block hbS9) (up1 _ _)
              · exact Ups.trans ((put5_but _ _ _ _ _ _ _).below (Ups.trans hu u9) (Nat.le_refl _)) (up1 _ _)
              · simp [intOf]; omega
        · have hkT : (k : Int) = T := by omega
          have hwl : pg < f.wear.length := by rw [(check_facts HCK.out).2.2.1]; exact hpg
          have hwS : pg < S.wear.length := by rw [HS.out.wear]; exact hwl
          obtain ⟨b2, o2, rfl, cS⟩ := hrS.worn hwS
          obtain ⟨b3, o3, rfl, cf'⟩ := hrf.worn hwl
          have mS := fun W (hU : Ups (World.drew wr) W) => (block_cells (block_ups hbS (drew_ups hU))).2.1
          have mf := fun W (hU : Ups (World.drew wr) W) => (block_cells (block_ups hbf (drew_ups hU))).2.1
          have eS := fun W (hU : Ups (World.drew wr) W) => cell_ups (drew_ups hU) cS
          have ef := fun W (hU : Ups (World.drew wr) W) => cell_ups (drew_ups hU) cf'
          have hworn := HS.out.worn
          have hkT' : k = T := by omega
          rw [hkT', show ((min N T : Nat) : Int) = min (N : Int) T by omega] at hworn
          have zin := wear_in HCK.out hpg
          have iS : (pg : Int) < S.wear.length := by omega
          have if_ : (pg : Int) < f.wear.length := by omega
          clear cS cf' hkT hkT'
          generalize f.wear.getD pg 0 = zf at *
          generalize S.wear.getD pg 0 = zS at *
          have hwr : IntKind.i64.wrap (zf + min (N : Int) T) = zf + min (N : Int) T := (IntWalk.i64_left _).trans (IntWalk.wrap64_in _ ⟨by omega, by omega⟩)
          have HW := Lib.hid hworn
          clear hworn
          go_wp2_with fail
          refine wp_region_parts (N := 21) (n := 115) (ks := [isV (.bool true), isV (.bool true), isV (.pointer (some ⟨w3.heap.size, 1, none⟩)), isV (.slice (some ⟨b2, o2, none⟩) S.wear.length c'), isV (.int .i64 pg), isV (.pointer (some ⟨b2, o2 + pg, none⟩)), isV (.int .i64 zS), isV (.pointer (some ⟨w.heap.size, 1, none⟩)), isV (.slice (some ⟨b3, o3, none⟩) f.wear.length c'f), isV (.int .i64 pg), isV (.pointer (some ⟨b3, o3 + pg, none⟩)), isV (.int .i64 zf), isV (.int .i64 N), isV (.int .u8 st), isV (.int .i64 st), isV (.int .i64 T), isV (.int .i64 (min (N : Int) T)), isV (.int .i64 (zf + min (N : Int) T)), isV (.int .i64 (min (zf + min (N : Int) T) 2147483647)), isV (.bool true), isV (.bool true)]) (by decide +kernel) (by decide +kernel) (by decide +kernel) (by simp) rfl (by decide +kernel) ⟨steady_is _, steady_is _, steady_is _, steady_is _, steady_is _, steady_is _, steady_is _, steady_is _, steady_is _, steady_is _, steady_is _, steady_is _, steady_is _, steady_is _, steady_is _, steady_is _, steady_is _, steady_is _, steady_is _, steady_is _, steady_is _, trivial⟩ ?_ ?_
          · refine And.intro (fun ac W hO hU H => ?_) ?_
            · have h9 : ac.tmps[9]? = some (.bool true) := (hO 9 rfl).trans rfl
              exact growOp_plain rfl (parts_value (by simp [go_sem, h9]))
            refine And.intro (fun ac W hO hU H => ?_) ?_
            · have h94 : ac.tmps[94]? = some (.bool true) := isV_get (W := W) (H 0 94 rfl)
              exact growOp_plain rfl (parts_value (by simp [go_sem, h94]))
            refine And.intro (fun ac W hO hU H => ?_) ?_
            · have h12 : ac.tmps[12]? = some (.pointer (some ⟨w3.heap.size, 0, none⟩)) := (hO 12 rfl).trans rfl
              have hg : ac.tmps[95]? = some (.bool true) := isV_get (W := W) (H 1 95 rfl)
              exact growOp_done rfl rfl hg (parts_value (by simp [go_sem, h12]))
            refine And.intro (fun ac W hO hU H => ?_) ?_
            · have h96 : ac.tmps[96]? = some (.pointer (some ⟨w3.heap.size, 1, none⟩)) := isV_get (W := W) (H 2 96 rfl)
              have hg : ac.tmps[95]? = some (.bool true) := isV_get (W := W) (H 1 95 rfl)
              have f0 := mS W hU
              exact growOp_done rfl rfl hg (parts_value (by simp [go_sem, h96, f0]))
            refine And.intro (fun ac W hO hU H => ?_) ?_
            · have h1 : ac.tmps[1]? = some (.int .i64 pg) := (hO 1 rfl).trans rfl
              have hg : ac.tmps[95]? = some (.bool true) := isV_get (W := W) (H 1 95 rfl)
              exact growOp_done rfl rfl hg (parts_value (by simp [go_sem, h1]))
            refine And.intro (fun ac W hO hU H => ?_) ?_
            · have h97 : ac.tmps[97]? = some (.slice (some ⟨b2, o2, none⟩) S.wear.length c') := isV_get (W := W) (H 3 97 rfl)
              have h98 : ac.tmps[98]? = some (.int .i64 pg) := isV_get (W := W) (H 4 98 rfl)
              have hg : ac.tmps[95]? = some (.bool true) := isV_get (W := W) (H 1 95 rfl)
              exact growOp_done rfl rfl hg (parts_value (by simp [go_sem, h97, h98, iS]))
            refine And.intro (fun ac W hO hU H => ?_) ?_
            · have h99 : ac.tmps[99]? = some (.pointer (some ⟨b2, o2 + pg, none⟩)) := isV_get (W := W) (H 5 99 rfl)
              have hg : ac.tmps[95]? = some (.bool true) := isV_get (W := W) (H 1 95 rfl)
              have f0 := eS W hU
              exact growOp_done rfl rfl hg (parts_value (by simp [go_sem, h99, f0]))
            refine And.intro (fun ac W hO hU H => ?_) ?_
            · have h4 : ac.tmps[4]? = some (.pointer (some ⟨w.heap.size, 0, none⟩)) := (hO 4 rfl).trans rfl
              have hg : ac.tmps[95]? = some (.bool true) := isV_get (W := W) (H 1 95 rfl)
              exact growOp_done rfl rfl hg (parts_value (by simp [go_sem, h4]))
            refine And.intro (fun ac W hO hU H => ?_) ?_
            · have h101 : ac.tmps[101]? = some (.pointer (some ⟨w.heap.size, 1, none⟩)) := isV_get (W := W) (H 7 101 rfl)
              have hg : ac.tmps[95]? = some (.bool true) := isV_get (W := W) (H 1 95 rfl)
              have f0 := mf W hU
              exact growOp_done rfl rfl hg (parts_value (by simp [go_sem, h101, f0]))
            refine And.intro (fun ac W hO hU H => ?_) ?_
            · have h1 : ac.tmps[1]? = some (.int .i64 pg) := (hO 1 rfl).trans rfl
              have hg : ac.tmps[95]? = some (.bool true) := isV_get (W := W) (H 1 95 rfl)
              exact growOp_done rfl rfl hg (parts_value (by simp [go_sem, h1]))
            refine And.intro (fun ac W hO hU H => ?_) ?_
            · have h102 : ac.tmps[102]? = some (.slice (some ⟨b3, o3, none⟩) f.wear.length c'f) := isV_get (W := W) (H 8 102 rfl)
              have h103 : ac.tmps[103]? = some (.int .i64 pg) := isV_get (W := W) (H 9 103 rfl)
              have hg : ac.tmps[95]? = some (.bool true) := isV_get (W := W) (H 1 95 rfl)
              exact growOp_done rfl rfl hg (parts_value (by simp [go_sem, h102, h103, if_]))
            refine And.intro (fun ac W hO hU H => ?_) ?_
            · have h104 : ac.tmps[104]? = some (.pointer (some ⟨b3, o3 + pg, none⟩)) := isV_get (W := W) (H 10 104 rfl)
              have hg : ac.tmps[95]? = some (.bool true) := isV_get (W := W) (H 1 95 rfl)
              have f0 := ef W hU
              exact growOp_done rfl rfl hg (parts_value (by simp [go_sem, h104, f0]))
            refine And.intro (fun ac W hO hU H => ?_) ?_
            · have h11 : ac.tmps[11]? = some (.int .i64 N) := (hO 11 rfl).trans rfl
              have hg : ac.tmps[95]? = some (.bool true) := isV_get (W := W) (H 1 95 rfl)
              exact growOp_done rfl rfl hg (parts_value (by simp [go_sem, h11]))
            refine And.intro (fun ac W hO hU H => ?_) ?_
            · have h3 : ac.tmps[3]? = some (.int .u8 st) := (hO 3 rfl).trans rfl
              have hg : ac.tmps[95]? = some (.bool true) := isV_get (W := W) (H 1 95 rfl)
              exact growOp_done rfl rfl hg (parts_value (by simp [go_sem, h3]))
            refine And.intro (fun ac W hO hU H => ?_) ?_
            · have h107 : ac.tmps[107]? = some (.int .u8 st) := isV_get (W := W) (H 13 107 rfl)
              have hg : ac.tmps[95]? = some (.bool true) := isV_get (W := W) (H 1 95 rfl)
              exact growOp_done rfl rfl hg (parts_value (by simp [go_sem, h107, hwst]))
            refine And.intro (fun ac W hO hU H => ?_) ?_
            · have h108 : ac.tmps[108]? = some (.int .i64 st) := isV_get (W := W) (H 14 108 rfl)
              have hg : ac.tmps[95]? = some (.bool true) := isV_get (W := W) (H 1 95 rfl)
              exact growOp_done rfl rfl hg (parts_value (by simp [go_sem, h108, rT]))
            refine And.intro (fun ac W hO hU H => ?_) ?_
            · have h106 : ac.tmps[106]? = some (.int .i64 N) := isV_get (W := W) (H 12 106 rfl)
              have h109 : ac.tmps[109]? = some (.int .i64 T) := isV_get (W := W) (H 15 109 rfl)
              have hg : ac.tmps[95]? = some (.bool true) := isV_get (W := W) (H 1 95 rfl)
              exact growOp_done rfl rfl hg (parts_value (by simp [go_sem, h106, h109]))
            refine And.intro (fun ac W hO hU H => ?_) ?_
            · have h105 : ac.tmps[105]? = some (.int .i64 zf) := isV_get (W := W) (H 11 105 rfl)
              have h110 : ac.tmps[110]? = some (.int .i64 (min (N : Int) T)) := isV_get (W := W) (H 16 110 rfl)
              have hg : ac.tmps[95]? = some (.bool true) := isV_get (W := W) (H 1 95 rfl)
              exact growOp_done rfl rfl hg (parts_value (by simp [go_sem, h105, h110, hwr]))
            refine And.intro (fun ac W hO hU H => ?_) ?_
            · have h111 : ac.tmps[111]? = some (.int .i64 (zf + min (N : Int) T)) := isV_get (W := W) (H 17 111 rfl)
              have hg : ac.tmps[95]? = some (.bool true) := isV_get (W := W) (H 1 95 rfl)
              exact growOp_done rfl rfl hg (parts_value (by simp [go_sem, h111]))
            refine And.intro (fun ac W hO hU H => ?_) ?_
            · have h100 : ac.tmps[100]? = some (.int .i64 zS) := isV_get (W := W) (H 6 100 rfl)
              have h112 : ac.tmps[112]? = some (.int .i64 (min (zf + min (N : Int) T) 2147483647)) := isV_get (W := W) (H 18 112 rfl)
              have hg : ac.tmps[95]? = some (.bool true) := isV_get (W := W) (H 1 95 rfl)
              exact growOp_done rfl rfl hg (parts_value (by simp [go_sem, h100, h112, HW.out]))
            refine And.intro (fun ac W hO hU H => ?_) ?_
            · have h95 : ac.tmps[95]? = some (.bool true) := isV_get (W := W) (H 1 95 rfl)
              have h113 : ac.tmps[113]? = some (.bool true) := isV_get (W := W) (H 19 113 rfl)
              exact growOp_plain rfl (parts_value (by simp [go_sem, h95, h113]))
            exact trivial
          · intro W xs hU hks
            obtain ⟨y0, rfl, g0⟩ := holdAll_is hks
            obtain ⟨y1, rfl, g1⟩ := holdAll_is g0
            obtain ⟨y2, rfl, g2⟩ := holdAll_is g1
            obtain ⟨y3, rfl, g3⟩ := holdAll_is g2
            obtain ⟨y4, rfl, g4⟩ := holdAll_is g3
            obtain ⟨y5, rfl, g5⟩ := holdAll_is g4
            obtain ⟨y6, rfl, g6⟩ := holdAll_is g5
            obtain ⟨y7, rfl, g7⟩ := holdAll_is g6
            obtain ⟨y8, rfl, g8⟩ := holdAll_is g7
            obtain ⟨y9, rfl, g9⟩ := holdAll_is g8
            obtain ⟨y10, rfl, g10⟩ := holdAll_is g9
            obtain ⟨y11, rfl, g11⟩ := holdAll_is g10
            obtain ⟨y12, rfl, g12⟩ := holdAll_is g11
            obtain ⟨y13, rfl, g13⟩ := holdAll_is g12
            obtain ⟨y14, rfl, g14⟩ := holdAll_is g13
            obtain ⟨y15, rfl, g15⟩ := holdAll_is g14
            obtain ⟨y16, rfl, g16⟩ := holdAll_is g15
            obtain ⟨y17, rfl, g17⟩ := holdAll_is g16
            obtain ⟨y18, rfl, g18⟩ := holdAll_is g17
            obtain ⟨y19, rfl, g19⟩ := holdAll_is g18
            obtain ⟨y20, rfl, g20⟩ := holdAll_is g19
            obtain rfl := holdAll_nil g20
            clear hks g0 g1 g2 g3 g4 g5 g6 g7 g8 g9 g10 g11 g12 g13 g14 g15 g16 g17 g18 g19 g20
            simp only [List.take_succ_cons, List.take_zero, List.drop_succ_cons, List.drop_zero, endTmps, List.setIfInBounds_toArray, List.set]
            go_wp2_with fail
            exact bodyPost_ret (v := .bool true) (by simp [results, Try.results7, go_sem]) rfl ⟨rfl, Ups.trans uw (drew_ups hU)⟩
    · have hp2 : (f.pages.length : Int) ≤ page := by omega
      obtain ⟨kf0, kf1, kf2, kf3, kf4⟩ := block_cells hbf
      go_wp2_with fail
      exact bodyPost_ret (v := .bool true) (results_one rfl rfl) rfl ⟨rfl, Ups.trans uw (up1 _ _)⟩

end Go.Proofs.Ytjpapjijlbfemaa
