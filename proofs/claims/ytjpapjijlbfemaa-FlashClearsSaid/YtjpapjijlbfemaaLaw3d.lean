/- FlashClears, walked. -/
import Derived.Test.YtjpapjijlbfemaaLaw3r
import Derived.Test.YtjpapjijlbfemaaLaw3c
import Derived.Test.YtjpapjijlbfemaaPartsL
namespace Go.Proofs.Ytjpapjijlbfemaa
open Go.RowKit

/-- A flash of no pages, as it is laid. -/
def zeroFl : Obj := .cells #[.slice none 0 0, .slice none 0 0, .int .i64 0, .string { data := #[] }, .bool false] 25
/-- What a call yields that hands back a flash and a number. -/
def tupFl (X : Fl) (k : Int) : Kd := fun z W => ∃ v, z = .tuple #[v, .int .i64 k] ∧ FlAt W v X
def isFl (X : Fl) : Kd := fun v W => FlAt W v X
def laidFl (U : World) : Kd := fun v W => ∃ B, v = .pointer (some ⟨B, 0, none⟩) ∧ U.heap.size ≤ B ∧ W.heap[B]? = some zeroFl
theorem steady_tupFl (X : Fl) (k : Int) : Steady (tupFl X k) := by
  rintro z A B ⟨v, rfl, h⟩ hu
  exact ⟨v, rfl, h.ups hu⟩
theorem steady_isFl (X : Fl) : Steady (isFl X) := fun _ _ _ h hu => h.ups hu
theorem steady_laidFl (U : World) : Steady (laidFl U) := by
  rintro z A B ⟨b, rfl, h1, h2⟩ hu
  exact ⟨b, rfl, h1, block_ups h2 hu⟩
/-- What the yields of the call, and of what takes it apart, are to the block that is laid beside: they do not lie in it. -/
def relX (j : Nat) (u z : Value) : Prop := (j = 6 ∨ j = 7 → ∀ v k B, z = .tuple #[v, .int .i64 k] → u = .pointer (some ⟨B, 0, none⟩) → FlOff B v) ∧ (j = 8 → ∀ B, u = .pointer (some ⟨B, 0, none⟩) → FlOff B z)
theorem peel {n : Nat} {l : List Value} (h : l.length = n + 1) : ∃ x t, l = x :: t ∧ t.length = n := by
  cases l with
  | nil => simp at h
  | cons x t => exact ⟨x, t, rfl, by simpa using h⟩
theorem growUpon_alloc {P : Program} {V : Value → World → Prop} {W W' : World} {v : Value} {r : Result Next} (h : r = .ok (.value v) W') (hv : V v W') (hG : Ups W W') : growUpon P Ups V W r := by
  subst h
  exact ⟨hv, hG⟩
theorem relX_other {j : Nat} (h6 : j ≠ 6) (h7 : j ≠ 7) (h8 : j ≠ 8) (u z : Value) : relX j u z := ⟨fun h => by omega, fun h => by omega⟩

set_option maxRecDepth 100000 in
set_option maxHeartbeats 20000000 in
theorem clears_law (f : Fl) (v : Value) (page at_ : Int) (s t : ByteArray) (w : World) (h : FlAt w v f) (hf : FlFit f) (ha : at_ ≤ 9223372036854775807) :
    Calls Try.prog 6 #[v, .int .i64 page, .int .i64 at_, .string s, .string t] w fun e W' => e = .returned (.bool true) ∧ Ups w W' := by
  obtain ⟨Wk, e, hW⟩ : ∃ Wk e, wakeF f (-1) ⟨#[]⟩ = (Wk, e) := ⟨_, _, rfl⟩
  obtain ⟨A, g, hA⟩ : ∃ A g, programF Wk page at_ s = (A, g) := ⟨_, _, rfl⟩
  obtain ⟨B, b, hB⟩ : ∃ B b, programF A page at_ t = (B, b) := ⟨_, _, rfl⟩
  obtain ⟨C, i, hC⟩ : ∃ C i, programF Wk page at_ t = (C, i) := ⟨_, _, rfl⟩
  obtain ⟨E, j, hE⟩ : ∃ E j, programF C page at_ s = (E, j) := ⟨_, _, rfl⟩
  obtain ⟨X, k, hX⟩ : ∃ X k, programF Wk page at_ (andT s t) = (X, k) := ⟨_, _, rfl⟩
  obtain ⟨Y, l, hY⟩ : ∃ Y l, programF A page at_ s = (Y, l) := ⟨_, _, rfl⟩
  have fW := wake_fit f (-1) ⟨#[]⟩ hf (by decide) (by decide)
  rw [hW] at fW
  have fA := program_fit Wk page at_ s fW
  rw [hA] at fA
  have fC := program_fit Wk page at_ t fW
  rw [hC] at fC
  have hrf := h
  clear h
  have hsf := hrf
  obtain ⟨_, _, rfl, ⟨af, cf, rfl, _⟩, ⟨a'f, c'f, rfl, _⟩⟩ := hsf
  have hbf : (w.alloc (.cells #[.slice af f.pages.length cf, .slice a'f f.wear.length c'f, .int .i64 f.fuse, .string f.torn, .bool f.dead] 25)).heap[w.heap.size]? = some (.cells #[.slice af f.pages.length cf, .slice a'f f.wear.length c'f, .int .i64 f.fuse, .string f.torn, .bool f.dead] 25) := alloc_at _ _
  go_enter Try.func6, Try.ntmps6
  have hc := works3 (w.alloc (.cells #[.slice af f.pages.length cf, .slice a'f f.wear.length c'f, .int .i64 f.fuse, .string f.torn, .bool f.dead] 25))
  go_wp2_with fail
  refine hc.mono ?_
  clear hc
  rintro e w1 ⟨rfl, uu⟩
  have ub1 : Ups (w.alloc (.cells #[.slice af f.pages.length cf, .slice a'f f.wear.length c'f, .int .i64 f.fuse, .string f.torn, .bool f.dead] 25)) w1 := uu
  replace hrf := hrf.ups (Ups.trans (up1 _ _) ub1)
  replace hbf := block_ups hbf ub1
  have ltf_1 : w.heap.size < w1.heap.size := (Array.getElem?_eq_some_iff.1 hbf).1
  have uw := Ups.trans (up1 _ _) ub1
  clear uu
  have hc := few_calls f _ w1 (hrf.ups (Ups.refl _)) hf
  obtain ⟨kf0, kf1, kf2, kf3, kf4⟩ := block_cells hbf
  go_wp2_with fail
  refine hc.mono ?_
  clear hc
  rintro e w2 ⟨few, rfl, hfew, uu⟩
  clear kf0 kf1 kf2 kf3 kf4
  have ub2 : Ups w1 w2 := uu
  replace hrf := hrf.ups (Ups.trans (Ups.refl _) ub2)
  replace hbf := block_ups hbf (Ups.trans (Ups.refl _) ub2)
  have ltf_2 : w.heap.size < w2.heap.size := (Array.getElem?_eq_some_iff.1 hbf).1
  replace uw := Ups.trans uw (Ups.trans (Ups.refl _) ub2)
  clear uu
  cases few with
  | false =>
    go_wp2_with fail
    exact bodyPost_ret (v := .bool true) (results_one rfl rfl) rfl ⟨rfl, Ups.trans uw (Ups.refl _)⟩
  | true =>
    clear hfew
    by_cases hs : (400 : Int) < s.size
    · go_wp2_with fail
      exact bodyPost_ret (v := .bool true) (results_one rfl rfl) rfl ⟨rfl, Ups.trans uw (Ups.refl _)⟩
    by_cases ht : ((t.size : Int) != s.size) = true
    · go_wp2_with fail
      exact bodyPost_ret (v := .bool true) (results_one rfl rfl) rfl ⟨rfl, Ups.trans uw (Ups.refl _)⟩
    have hst : t.size = s.size := by have : (t.size : Int) = s.size := by simpa using ht
                                     omega
    have HP := Lib.hid (clears_plain hW hA hB hC hE hX hY hst)
    have ss : s.size ≤ 140737488355328 := by omega
    have st : t.size ≤ 140737488355328 := by omega
    have ht' : ((t.size : Int) != s.size) = false := by simpa using ht
    clear ht hst
    have hc := wake_calls f _ (-1) ⟨#[]⟩ w2 (hrf.ups (Ups.refl _)) hf
    rw [hW] at hc
    obtain ⟨kf0, kf1, kf2, kf3, kf4⟩ := block_cells hbf
    go_wp2_with fail
    refine hc.mono ?_
    clear hc
    rintro e w3 ⟨v1, rfl, hn⟩
    clear kf0 kf1 kf2 kf3 kf4
    have ub3 : Ups w2 w3 := hn.ups
    replace hrf := hrf.ups (Ups.trans (Ups.refl _) ub3)
    replace hbf := block_ups hbf (Ups.trans (Ups.refl _) ub3)
    have ltf_3 : w.heap.size < w3.heap.size := (Array.getElem?_eq_some_iff.1 hbf).1
    replace uw := Ups.trans uw (Ups.trans (Ups.refl _) ub3)
    have hr1 := hn.reads
    clear hn
    have hs1 := hr1
    obtain ⟨_, _, rfl, ⟨a1, c1, rfl, _⟩, ⟨a'1, c'1, rfl, _⟩⟩ := hs1
    have hb1 : (w3.alloc (.cells #[.slice a1 Wk.pages.length c1, .slice a'1 Wk.wear.length c'1, .int .i64 Wk.fuse, .string Wk.torn, .bool Wk.dead] 25)).heap[w3.heap.size]? = some (.cells #[.slice a1 Wk.pages.length c1, .slice a'1 Wk.wear.length c'1, .int .i64 Wk.fuse, .string Wk.torn, .bool Wk.dead] 25) := alloc_at _ _
    have hc := program_calls Wk _ page at_ s (w3.alloc (.cells #[.slice a1 Wk.pages.length c1, .slice a'1 Wk.wear.length c'1, .int .i64 Wk.fuse, .string Wk.torn, .bool Wk.dead] 25)) (hr1.ups (up1 _ _)) fW ha
    rw [hA] at hc
    go_wp2_with fail
    refine hc.mono ?_
    clear hc
    rintro e w4 ⟨v2, rfl, hn⟩
    have ub4 : Ups (w3.alloc (.cells #[.slice a1 Wk.pages.length c1, .slice a'1 Wk.wear.length c'1, .int .i64 Wk.fuse, .string Wk.torn, .bool Wk.dead] 25)) w4 := hn.ups
    replace hrf := hrf.ups (Ups.trans (up1 _ _) ub4)
    replace hbf := block_ups hbf (Ups.trans (up1 _ _) ub4)
    have ltf_4 : w.heap.size < w4.heap.size := (Array.getElem?_eq_some_iff.1 hbf).1
    replace hr1 := hr1.ups (Ups.trans (up1 _ _) ub4)
    replace hb1 := block_ups hb1 ub4
    have lt1_4 : w3.heap.size < w4.heap.size := (Array.getElem?_eq_some_iff.1 hb1).1
    replace uw := Ups.trans uw (Ups.trans (up1 _ _) ub4)
    have hr2 := hn.reads
    clear hn
    have hs2 := hr2
    obtain ⟨_, _, rfl, ⟨a2, c2, rfl, _⟩, ⟨a'2, c'2, rfl, _⟩⟩ := hs2
    have hb2 : (w4.alloc (.cells #[.slice a2 A.pages.length c2, .slice a'2 A.wear.length c'2, .int .i64 A.fuse, .string A.torn, .bool A.dead] 25)).heap[w4.heap.size]? = some (.cells #[.slice a2 A.pages.length c2, .slice a'2 A.wear.length c'2, .int .i64 A.fuse, .string A.torn, .bool A.dead] 25) := alloc_at _ _
    have hc := program_calls A _ page at_ t (w4.alloc (.cells #[.slice a2 A.pages.length c2, .slice a'2 A.wear.length c'2, .int .i64 A.fuse, .string A.torn, .bool A.dead] 25)) (hr2.ups (up1 _ _)) fA ha
    rw [hB] at hc
    go_wp2_with fail
    refine hc.mono ?_
    clear hc
    rintro e w5 ⟨v3, rfl, hn⟩
    have ub5 : Ups (w4.alloc (.cells #[.slice a2 A.pages.length c2, .slice a'2 A.wear.length c'2, .int .i64 A.fuse, .string A.torn, .bool A.dead] 25)) w5 := hn.ups
    replace hrf := hrf.ups (Ups.trans (up1 _ _) ub5)
    replace hbf := block_ups hbf (Ups.trans (up1 _ _) ub5)
    have ltf_5 : w.heap.size < w5.heap.size := (Array.getElem?_eq_some_iff.1 hbf).1
    replace hr1 := hr1.ups (Ups.trans (up1 _ _) ub5)
    replace hb1 := block_ups hb1 (Ups.trans (up1 _ _) ub5)
    have lt1_5 : w3.heap.size < w5.heap.size := (Array.getElem?_eq_some_iff.1 hb1).1
    replace hr2 := hr2.ups (Ups.trans (up1 _ _) ub5)
    replace hb2 := block_ups hb2 ub5
    have lt2_5 : w4.heap.size < w5.heap.size := (Array.getElem?_eq_some_iff.1 hb2).1
    replace uw := Ups.trans uw (Ups.trans (up1 _ _) ub5)
    have hr3 := hn.reads
    clear hn
    have hs3 := hr3
    obtain ⟨_, _, rfl, ⟨a3, c3, rfl, _⟩, ⟨a'3, c'3, rfl, _⟩⟩ := hs3
    have hb3 : (w5.alloc (.cells #[.slice a3 B.pages.length c3, .slice a'3 B.wear.length c'3, .int .i64 B.fuse, .string B.torn, .bool B.dead] 25)).heap[w5.heap.size]? = some (.cells #[.slice a3 B.pages.length c3, .slice a'3 B.wear.length c'3, .int .i64 B.fuse, .string B.torn, .bool B.dead] 25) := alloc_at _ _
    have hc := program_calls Wk _ page at_ t (w5.alloc (.cells #[.slice a3 B.pages.length c3, .slice a'3 B.wear.length c'3, .int .i64 B.fuse, .string B.torn, .bool B.dead] 25)) (hr1.ups (up1 _ _)) fW ha
    rw [hC] at hc
    obtain ⟨k10, k11, k12, k13, k14⟩ := block_cells hb1
    go_wp2_with fail
    refine hc.mono ?_
    clear hc
    rintro e w6 ⟨v4, rfl, hn⟩
    clear k10 k11 k12 k13 k14
    have ub6 : Ups (w5.alloc (.cells #[.slice a3 B.pages.length c3, .slice a'3 B.wear.length c'3, .int .i64 B.fuse, .string B.torn, .bool B.dead] 25)) w6 := hn.ups
    replace hrf := hrf.ups (Ups.trans (up1 _ _) ub6)
    replace hbf := block_ups hbf (Ups.trans (up1 _ _) ub6)
    have ltf_6 : w.heap.size < w6.heap.size := (Array.getElem?_eq_some_iff.1 hbf).1
    replace hr1 := hr1.ups (Ups.trans (up1 _ _) ub6)
    replace hb1 := block_ups hb1 (Ups.trans (up1 _ _) ub6)
    have lt1_6 : w3.heap.size < w6.heap.size := (Array.getElem?_eq_some_iff.1 hb1).1
    replace hr2 := hr2.ups (Ups.trans (up1 _ _) ub6)
    replace hb2 := block_ups hb2 (Ups.trans (up1 _ _) ub6)
    have lt2_6 : w4.heap.size < w6.heap.size := (Array.getElem?_eq_some_iff.1 hb2).1
    replace hr3 := hr3.ups (Ups.trans (up1 _ _) ub6)
    replace hb3 := block_ups hb3 ub6
    have lt3_6 : w5.heap.size < w6.heap.size := (Array.getElem?_eq_some_iff.1 hb3).1
    replace uw := Ups.trans uw (Ups.trans (up1 _ _) ub6)
    have hr4 := hn.reads
    clear hn
    have hs4 := hr4
    obtain ⟨_, _, rfl, ⟨a4, c4, rfl, _⟩, ⟨a'4, c'4, rfl, _⟩⟩ := hs4
    have hb4 : (w6.alloc (.cells #[.slice a4 C.pages.length c4, .slice a'4 C.wear.length c'4, .int .i64 C.fuse, .string C.torn, .bool C.dead] 25)).heap[w6.heap.size]? = some (.cells #[.slice a4 C.pages.length c4, .slice a'4 C.wear.length c'4, .int .i64 C.fuse, .string C.torn, .bool C.dead] 25) := alloc_at _ _
    have hc := program_calls C _ page at_ s (w6.alloc (.cells #[.slice a4 C.pages.length c4, .slice a'4 C.wear.length c'4, .int .i64 C.fuse, .string C.torn, .bool C.dead] 25)) (hr4.ups (up1 _ _)) fC ha
    rw [hE] at hc
    go_wp2_with fail
    refine hc.mono ?_
    clear hc
    rintro e w7 ⟨v5, rfl, hn⟩
    have ub7 : Ups (w6.alloc (.cells #[.slice a4 C.pages.length c4, .slice a'4 C.wear.length c'4, .int .i64 C.fuse, .string C.torn, .bool C.dead] 25)) w7 := hn.ups
    replace hrf := hrf.ups (Ups.trans (up1 _ _) ub7)
    replace hbf := block_ups hbf (Ups.trans (up1 _ _) ub7)
    have ltf_7 : w.heap.size < w7.heap.size := (Array.getElem?_eq_some_iff.1 hbf).1
    replace hr1 := hr1.ups (Ups.trans (up1 _ _) ub7)
    replace hb1 := block_ups hb1 (Ups.trans (up1 _ _) ub7)
    have lt1_7 : w3.heap.size < w7.heap.size := (Array.getElem?_eq_some_iff.1 hb1).1
    replace hr2 := hr2.ups (Ups.trans (up1 _ _) ub7)
    replace hb2 := block_ups hb2 (Ups.trans (up1 _ _) ub7)
    have lt2_7 : w4.heap.size < w7.heap.size := (Array.getElem?_eq_some_iff.1 hb2).1
    replace hr3 := hr3.ups (Ups.trans (up1 _ _) ub7)
    replace hb3 := block_ups hb3 (Ups.trans (up1 _ _) ub7)
    have lt3_7 : w5.heap.size < w7.heap.size := (Array.getElem?_eq_some_iff.1 hb3).1
    replace hr4 := hr4.ups (Ups.trans (up1 _ _) ub7)
    replace hb4 := block_ups hb4 ub7
    have lt4_7 : w6.heap.size < w7.heap.size := (Array.getElem?_eq_some_iff.1 hb4).1
    replace uw := Ups.trans uw (Ups.trans (up1 _ _) ub7)
    have hr5 := hn.reads
    clear hn
    have hs5 := hr5
    obtain ⟨_, _, rfl, ⟨a5, c5, rfl, _⟩, ⟨a'5, c'5, rfl, _⟩⟩ := hs5
    have hb5 : (w7.alloc (.cells #[.slice a5 E.pages.length c5, .slice a'5 E.wear.length c'5, .int .i64 E.fuse, .string E.torn, .bool E.dead] 25)).heap[w7.heap.size]? = some (.cells #[.slice a5 E.pages.length c5, .slice a'5 E.wear.length c'5, .int .i64 E.fuse, .string E.torn, .bool E.dead] 25) := alloc_at _ _
    obtain ⟨kf0, kf1, kf2, kf3, kf4⟩ := block_cells hbf
    go_wp2_with fail
    have hxc := fun W (hU : Ups (World.drew (w7.alloc (.cells #[.slice a5 E.pages.length c5, .slice a'5 E.wear.length c'5, .int .i64 E.fuse, .string E.torn, .bool E.dead] 25))) W) => program_calls Wk _ page at_ (andT s t) W (hr1.ups (Ups.trans (up1 _ _) (drew_ups hU))) fW ha
    rw [hX] at hxc
    have hoff := fun B (hB : ((w7.alloc (.cells #[.slice a5 E.pages.length c5, .slice a'5 E.wear.length c'5, .int .i64 E.fuse, .string E.torn, .bool E.dead] 25))).heap.size ≤ B) => (hr1.ups (up1 _ _)).off hB
    have hcells := fun W (hU : Ups (World.drew (w7.alloc (.cells #[.slice a5 E.pages.length c5, .slice a'5 E.wear.length c'5, .int .i64 E.fuse, .string E.torn, .bool E.dead] 25))) W) => block_cells (block_ups hb1 (Ups.trans (up1 _ _) (drew_ups hU)))
    have hup : ∀ W : World, Ups (World.drew (w7.alloc (.cells #[.slice a5 E.pages.length c5, .slice a'5 E.wear.length c'5, .int .i64 E.fuse, .string E.torn, .bool E.dead] 25))) W → ((w7.alloc (.cells #[.slice a5 E.pages.length c5, .slice a'5 E.wear.length c'5, .int .i64 E.fuse, .string E.torn, .bool E.dead] 25))).heap.size ≤ W.heap.size := fun W hU => hU.size
    have HX := Lib.hid hX
    clear hX
    refine wp_region_late (N := 11) (n := 172) (q := 9) (dq := 93) (vq := .int .i64 k) relX 10 Ups Ups.refl Ups.trans (ks := [isV (.agg #[.slice a1 Wk.pages.length c1, .slice a'1 Wk.wear.length c'1, .int .i64 Wk.fuse, .string Wk.torn, .bool Wk.dead]), isV (.int .i64 page), isV (.int .i64 at_), isV (.string s), isV (.string t), isV (.string (andT s t)), tupFl X k, tupFl X k, isFl X, isV (.int .i64 k), laidFl (w7.alloc (.cells #[.slice a5 E.pages.length c5, .slice a'5 E.wear.length c'5, .int .i64 E.fuse, .string E.torn, .bool E.dead] 25))]) (by decide +kernel) (by decide +kernel) (by decide +kernel) (by simp) rfl (by decide +kernel) ⟨steady_is _, steady_is _, steady_is _, steady_is _, steady_is _, steady_is _, steady_tupFl _ _, steady_tupFl _ _, steady_isFl _, steady_is _, steady_laidFl _, trivial⟩ (by decide) (by decide) (by decide) rfl rfl rfl rfl rfl rfl rfl rfl ?_ ?_
    · refine And.intro (fun ac W other hother hO hU H => ?_) ?_
      · have h13 : ac.tmps[13]? = some (.pointer (some ⟨w3.heap.size, 0, none⟩)) := (hO 13 rfl).trans rfl
        obtain ⟨k0, k1, k2, k3, k4⟩ := hcells W hU
        exact growOp_alone (by decide) (relX_other (by decide) (by decide) (by decide)) (growOp_plain rfl (parts_value (by simp [go_sem, h13, k0, k1, k2, k3, k4])))
      refine And.intro (fun ac W other hother hO hU H => ?_) ?_
      · have h1 : ac.tmps[1]? = some (.int .i64 page) := (hO 1 rfl).trans rfl
        exact growOp_alone (by decide) (relX_other (by decide) (by decide) (by decide)) (growOp_plain rfl (parts_value (by simp [go_sem, h1])))
      refine And.intro (fun ac W other hother hO hU H => ?_) ?_
      · have h2 : ac.tmps[2]? = some (.int .i64 at_) := (hO 2 rfl).trans rfl
        exact growOp_alone (by decide) (relX_other (by decide) (by decide) (by decide)) (growOp_plain rfl (parts_value (by simp [go_sem, h2])))
      refine And.intro (fun ac W other hother hO hU H => ?_) ?_
      · have h3 : ac.tmps[3]? = some (.string s) := (hO 3 rfl).trans rfl
        exact growOp_alone (by decide) (relX_other (by decide) (by decide) (by decide)) (growOp_plain rfl (parts_value (by simp [go_sem, h3])))
      refine And.intro (fun ac W other hother hO hU H => ?_) ?_
      · have h4 : ac.tmps[4]? = some (.string t) := (hO 4 rfl).trans rfl
        exact growOp_alone (by decide) (relX_other (by decide) (by decide) (by decide)) (growOp_plain rfl (parts_value (by simp [go_sem, h4])))
      refine And.intro (fun ac W other hother hO hU H => ?_) ?_
      · obtain ⟨_, h88, rfl, _⟩ := H 3 88 rfl
        obtain ⟨_, h89, rfl, _⟩ := H 4 89 rfl
        exact growOp_alone (by decide) (relX_other (by decide) (by decide) (by decide)) (growOp_plain rfl (parts_call_is (args := #[.string s, .string t]) (by simp [go_sem, h88, h89]) (oand_t s t W ss st)))
      refine And.intro (fun ac W other hother hO hU H => ?_) ?_
      · obtain ⟨_, h85, rfl, _⟩ := H 0 85 rfl
        obtain ⟨_, h86, rfl, _⟩ := H 1 86 rfl
        obtain ⟨_, h87, rfl, _⟩ := H 2 87 rfl
        obtain ⟨_, h90, rfl, _⟩ := H 5 90 rfl
        refine growOp_plain rfl (parts_call (f := 13) (args := #[.agg #[.slice a1 Wk.pages.length c1, .slice a'1 Wk.wear.length c'1, .int .i64 Wk.fuse, .string Wk.torn, .bool Wk.dead], .int .i64 page, .int .i64 at_, .string (andT s t)]) (by simp [go_sem, h85, h86, h87, h90]) ?_)
        refine (hxc W hU).mono ?_
        rintro e W' ⟨v, rfl, hn⟩
        refine ⟨_, rfl, ⟨⟨v, rfl, hn.reads⟩, fun _ u hu => ⟨fun _ v' k' B hz hB => ?_, fun h => by omega⟩, fun h => by omega⟩, hn.ups⟩
        simp only [Value.tuple.injEq, Array.mk.injEq, List.cons.injEq] at hz
        obtain ⟨rfl, _⟩ := hz
        obtain ⟨B', rfl, hB1, hB2⟩ := hother u hu
        simp only [Value.pointer.injEq, Option.some.injEq, Addr.mk.injEq] at hB
        obtain ⟨rfl, _⟩ := hB
        exact hn.off _ (Array.getElem?_eq_some_iff.1 hB2).1 (hoff _ hB1)
      refine And.intro (fun ac W other hother hO hU H => ?_) ?_
      · obtain ⟨_, h91, ⟨v, rfl, hv⟩, hr⟩ := H 6 91 rfl
        refine growOp_plain rfl (growUpon_value (v := .tuple #[v, .int .i64 k]) (by simp [go_sem, h91]) ⟨⟨v, rfl, hv⟩, fun _ u hu => ⟨fun _ => ((hr (by decide) u hu).1 (.inl rfl)), fun h => by omega⟩, fun h => by omega⟩)
      refine And.intro (fun ac W other hother hO hU H => ?_) ?_
      · obtain ⟨_, h84, ⟨v, rfl, hv⟩, hr⟩ := H 7 84 rfl
        refine growOp_plain rfl (growUpon_value (v := v) (by simp [go_sem, h84]) ⟨hv, fun _ u hu => ⟨fun h => by omega, fun _ B hB => (hr (by decide) u hu).1 (.inr rfl) v k B rfl hB⟩, fun h => by omega⟩)
      refine And.intro (fun ac W other hother hO hU H => ?_) ?_
      · obtain ⟨_, h84, ⟨v, rfl, hv⟩, _⟩ := H 7 84 rfl
        exact growOp_alone (by decide) (relX_other (by decide) (by decide) (by decide)) (growOp_plain rfl (parts_value (by simp [go_sem, h84])))
      refine And.intro (fun ac W other hother hO hU H => ?_) ?_
      · refine growOp_plain rfl ?_
        refine growUpon_alloc (v := .pointer (some ⟨W.heap.size, 0, none⟩)) (W' := W.alloc zeroFl) (by simp [go_sem, zeroFl]) ⟨⟨_, rfl, hup W hU, World.alloc_heap_new _ _⟩, fun h => absurd rfl h, fun _ jj z hjj hz => ?_⟩ ((Below.refl _ W).alloc (Nat.le_refl _) _)
        refine ⟨fun h v' k' B hz' hB => ?_, fun h B hB => ?_⟩
        · simp only [Value.pointer.injEq, Option.some.injEq, Addr.mk.injEq] at hB
          obtain ⟨rfl, _⟩ := hB
          have hz2 : tupFl X k z W := by rcases h with rfl | rfl <;> exact hz
          obtain ⟨v, rfl, hv⟩ := hz2
          simp only [Value.tuple.injEq, Array.mk.injEq, List.cons.injEq] at hz'
          obtain ⟨rfl, _⟩ := hz'
          exact hv.off (Nat.le_refl _)
        · simp only [Value.pointer.injEq, Option.some.injEq, Addr.mk.injEq] at hB
          obtain ⟨rfl, _⟩ := hB
          subst h
          exact (show FlAt W z X from hz).off (Nat.le_refl _)
      exact trivial
    · intro W xs hU hlen hxq hk
      obtain ⟨x0, t0, rfl, l0⟩ := peel hlen
      obtain ⟨x1, t1, rfl, l1⟩ := peel l0
      obtain ⟨x2, t2, rfl, l2⟩ := peel l1
      obtain ⟨x3, t3, rfl, l3⟩ := peel l2
      obtain ⟨x4, t4, rfl, l4⟩ := peel l3
      obtain ⟨x5, t5, rfl, l5⟩ := peel l4
      obtain ⟨x6, t6, rfl, l6⟩ := peel l5
      obtain ⟨x7, t7, rfl, l7⟩ := peel l6
      obtain ⟨x8, t8, rfl, l8⟩ := peel l7
      obtain ⟨x9, t9, rfl, l9⟩ := peel l8
      obtain ⟨x10, t10, rfl, l10⟩ := peel l9
      obtain rfl := List.eq_nil_of_length_eq_zero l10
      clear hlen l0 l1 l2 l3 l4 l5 l6 l7 l8 l9 l10
      obtain rfl := (hk 0 (by decide)).1
      obtain rfl := (hk 1 (by decide)).1
      obtain rfl := (hk 2 (by decide)).1
      obtain rfl := (hk 3 (by decide)).1
      obtain rfl := (hk 4 (by decide)).1
      obtain rfl := (hk 5 (by decide)).1
      obtain ⟨v6, rfl, _⟩ := (hk 6 (by decide)).1
      obtain ⟨v7, rfl, _⟩ := (hk 7 (by decide)).1
      have q8 : FlAt W x8 X := (hk 8 (by decide)).1
      obtain ⟨B', rfl, hB1, hB2⟩ := (hk 10 (by decide)).1
      have hoX : FlOff B' x8 := ((hk 8 (by decide)).2 (by decide) (by decide)).2 rfl B' rfl
      obtain rfl : x9 = .int .i64 k := hxq
      clear hk hoff hxc hcells hup
      simp only [List.take_succ_cons, List.take_zero, List.drop_succ_cons, List.drop_zero, endTmps, List.setIfInBounds_toArray, List.set]
      have hr8 := q8
      obtain ⟨_, _, rfl, ⟨a6, c6, rfl, _⟩, ⟨a'6, c'6, rfl, _⟩⟩ := q8
      have hB3 : W.heap[B']? = some (.cells #[.slice none 0 0, .slice none 0 0, .int .i64 0, .string { data := #[] }, .bool false] 25) := hB2
      have uW : Ups (w7.alloc (.cells #[.slice a5 E.pages.length c5, .slice a'5 E.wear.length c'5, .int .i64 E.fuse, .string E.torn, .bool E.dead] 25)) W := drew_ups hU
      refine ⟨put5 W B' (.slice a6 X.pages.length c6) (.slice a'6 X.wear.length c'6) (.int .i64 X.fuse) (.string X.torn) (.bool X.dead), fun a2 ha2 => ?_, ?_⟩
      · have h23 : a2.tmps[23]? = some (.pointer (some ⟨B', 0, none⟩)) := (ha2 23 (by decide)).trans rfl
        have h92 : a2.tmps[92]? = some (.agg #[.slice a6 X.pages.length c6, .slice a'6 X.wear.length c'6, .int .i64 X.fuse, .string X.torn, .bool X.dead]) := (ha2 92 (by decide)).trans rfl
        have h84 : a2.tmps[84]? = some (.tuple #[v7, .int .i64 k]) := (ha2 84 (by decide)).trans rfl
        obtain ⟨d0, d1, d2, d3, d4⟩ := block_cells hB3
        have y0 := block_frozen hB3 0
        have y1 := block_frozen hB3 1
        have y2 := block_frozen hB3 2
        have y3 := block_frozen hB3 3
        have y4 := block_frozen hB3 4
        clear ha2
        exact ⟨by simp [go_sem, h23, h92, d0, d1, d2, d3, d4, y0, y1, y2, y3, y4, put5], by simp [go_sem, h84]⟩
      have hnx : Ups (w7.alloc (.cells #[.slice a5 E.pages.length c5, .slice a'5 E.wear.length c'5, .int .i64 E.fuse, .string E.torn, .bool E.dead] 25)) (put5 W B' (.slice a6 X.pages.length c6) (.slice a'6 X.wear.length c'6) (.int .i64 X.fuse) (.string X.torn) (.bool X.dead)) := (put5_but _ _ _ _ _ _ _).below uW hB1
      have hr6 := hr8.but (put5_but W B' (.slice a6 X.pages.length c6) (.slice a'6 X.wear.length c'6) (.int .i64 X.fuse) (.string X.torn) (.bool X.dead)) hoX
      have hb6 := put5_block (p := .slice a6 X.pages.length c6) (q := .slice a'6 X.wear.length c'6) (x := .int .i64 X.fuse) (y := .string X.torn) (z := .bool X.dead) hB3
      clear hr8 hoX hB2 hB3 uW hU
      generalize put5 W B' (.slice a6 X.pages.length c6) (.slice a'6 X.wear.length c'6) (.int .i64 X.fuse) (.string X.torn) (.bool X.dead) = w8 at *
      have ub8 : Ups (w7.alloc (.cells #[.slice a5 E.pages.length c5, .slice a'5 E.wear.length c'5, .int .i64 E.fuse, .string E.torn, .bool E.dead] 25)) w8 := hnx
      replace hrf := hrf.ups (Ups.trans (up1 _ _) ub8)
      replace hbf := block_ups hbf (Ups.trans (up1 _ _) ub8)
      have ltf_8 : w.heap.size < w8.heap.size := (Array.getElem?_eq_some_iff.1 hbf).1
      replace hr1 := hr1.ups (Ups.trans (up1 _ _) ub8)
      replace hb1 := block_ups hb1 (Ups.trans (up1 _ _) ub8)
      have lt1_8 : w3.heap.size < w8.heap.size := (Array.getElem?_eq_some_iff.1 hb1).1
      replace hr2 := hr2.ups (Ups.trans (up1 _ _) ub8)
      replace hb2 := block_ups hb2 (Ups.trans (up1 _ _) ub8)
      have lt2_8 : w4.heap.size < w8.heap.size := (Array.getElem?_eq_some_iff.1 hb2).1
      replace hr3 := hr3.ups (Ups.trans (up1 _ _) ub8)
      replace hb3 := block_ups hb3 (Ups.trans (up1 _ _) ub8)
      have lt3_8 : w5.heap.size < w8.heap.size := (Array.getElem?_eq_some_iff.1 hb3).1
      replace hr4 := hr4.ups (Ups.trans (up1 _ _) ub8)
      replace hb4 := block_ups hb4 (Ups.trans (up1 _ _) ub8)
      have lt4_8 : w6.heap.size < w8.heap.size := (Array.getElem?_eq_some_iff.1 hb4).1
      replace hr5 := hr5.ups (Ups.trans (up1 _ _) ub8)
      replace hb5 := block_ups hb5 ub8
      have lt5_8 : w7.heap.size < w8.heap.size := (Array.getElem?_eq_some_iff.1 hb5).1
      replace uw := Ups.trans uw (Ups.trans (up1 _ _) ub8)
      have lt6_8 : B' < w8.heap.size := (Array.getElem?_eq_some_iff.1 hb6).1
      clear hnx
      have hc := program_calls A _ page at_ s w8 (hr2.ups (Ups.refl _)) fA ha
      rw [hY] at hc
      obtain ⟨k20, k21, k22, k23, k24⟩ := block_cells hb2
      go_wp2_with fail
      refine hc.mono ?_
      clear hc
      rintro e w9 ⟨v7, rfl, hn⟩
      clear k20 k21 k22 k23 k24
      have ub9 : Ups w8 w9 := hn.ups
      replace hrf := hrf.ups (Ups.trans (Ups.refl _) ub9)
      replace hbf := block_ups hbf (Ups.trans (Ups.refl _) ub9)
      have ltf_9 : w.heap.size < w9.heap.size := (Array.getElem?_eq_some_iff.1 hbf).1
      replace hr1 := hr1.ups (Ups.trans (Ups.refl _) ub9)
      replace hb1 := block_ups hb1 (Ups.trans (Ups.refl _) ub9)
      have lt1_9 : w3.heap.size < w9.heap.size := (Array.getElem?_eq_some_iff.1 hb1).1
      replace hr2 := hr2.ups (Ups.trans (Ups.refl _) ub9)
      replace hb2 := block_ups hb2 (Ups.trans (Ups.refl _) ub9)
      have lt2_9 : w4.heap.size < w9.heap.size := (Array.getElem?_eq_some_iff.1 hb2).1
      replace hr3 := hr3.ups (Ups.trans (Ups.refl _) ub9)
      replace hb3 := block_ups hb3 (Ups.trans (Ups.refl _) ub9)
      have lt3_9 : w5.heap.size < w9.heap.size := (Array.getElem?_eq_some_iff.1 hb3).1
      replace hr4 := hr4.ups (Ups.trans (Ups.refl _) ub9)
      replace hb4 := block_ups hb4 (Ups.trans (Ups.refl _) ub9)
      have lt4_9 : w6.heap.size < w9.heap.size := (Array.getElem?_eq_some_iff.1 hb4).1
      replace hr5 := hr5.ups (Ups.trans (Ups.refl _) ub9)
      replace hb5 := block_ups hb5 (Ups.trans (Ups.refl _) ub9)
      have lt5_9 : w7.heap.size < w9.heap.size := (Array.getElem?_eq_some_iff.1 hb5).1
      replace hr6 := hr6.ups (Ups.trans (Ups.refl _) ub9)
      replace hb6 := block_ups hb6 (Ups.trans (Ups.refl _) ub9)
      have lt6_9 : B' < w9.heap.size := (Array.getElem?_eq_some_iff.1 hb6).1
      replace uw := Ups.trans uw (Ups.trans (Ups.refl _) ub9)
      have hr7 := hn.reads
      clear hn
      have hs7 := hr7
      obtain ⟨_, _, rfl, ⟨a7, c7, rfl, _⟩, ⟨a'7, c'7, rfl, _⟩⟩ := hs7
      have hb7 : (w9.alloc (.cells #[.slice a7 Y.pages.length c7, .slice a'7 Y.wear.length c'7, .int .i64 Y.fuse, .string Y.torn, .bool Y.dead] 25)).heap[w9.heap.size]? = some (.cells #[.slice a7 Y.pages.length c7, .slice a'7 Y.wear.length c'7, .int .i64 Y.fuse, .string Y.torn, .bool Y.dead] 25) := alloc_at _ _
      rcases HP.out with rfl | ⟨rfl, rfl⟩ | ⟨rfl, pg, rfl, hpg, T⟩
      · go_wp2_with fail
        exact bodyPost_ret (v := .bool true) (results_one rfl rfl) rfl ⟨rfl, Ups.trans uw (up1 _ _)⟩
      · go_wp2_with fail
        exact bodyPost_ret (v := .bool true) (results_one rfl rfl) rfl ⟨rfl, Ups.trans uw (up1 _ _)⟩
      obtain ⟨⟨rfl, rfl, rfl, rfl, rfl, rfl⟩, ebd, ebx, eay, eold, eap, ebp, esz, elen, ewe⟩ := T
      subst ebd
      subst ebx
      subst eay
      have QL := Lib.hid (And.intro elen (And.intro ewe (And.intro eap ebp)))
      have hpA : pg < Y.pages.length := by rw [eap]; exact hpg
      obtain ⟨ba, oa, rfl, ca⟩ := hr2.page hpA
      obtain ⟨bw, ow, rfl, cw⟩ := hr1.page hpg
      have iA : (pg : Int) < Y.pages.length := by omega
      have iW : (pg : Int) < Wk.pages.length := by omega
      have su : (oldT Y pg).size ≤ 140737488355328 := by omega
      have sz : (oldT Wk pg).size ≤ 140737488355328 := by omega
      generalize oldT Y pg = u at *
      generalize oldT Wk pg = z at *
      have QO := Lib.hid eold
      clear elen ewe eap ebp eold esz
      go_wp2_with fail
      have m1 := fun W (hU : Ups (World.drew (w9.alloc (.cells #[.slice a7 Y.pages.length c7, .slice a'7 Y.wear.length c'7, .int .i64 Y.fuse, .string Y.torn, .bool Y.dead] 25))) W) => block_cells (block_ups hb1 (Ups.trans (up1 _ _) (drew_ups hU)))
      have m2 := fun W (hU : Ups (World.drew (w9.alloc (.cells #[.slice a7 Y.pages.length c7, .slice a'7 Y.wear.length c'7, .int .i64 Y.fuse, .string Y.torn, .bool Y.dead] 25))) W) => block_cells (block_ups hb2 (Ups.trans (up1 _ _) (drew_ups hU)))
      have m3 := fun W (hU : Ups (World.drew (w9.alloc (.cells #[.slice a7 Y.pages.length c7, .slice a'7 Y.wear.length c'7, .int .i64 Y.fuse, .string Y.torn, .bool Y.dead] 25))) W) => block_cells (block_ups hb3 (Ups.trans (up1 _ _) (drew_ups hU)))
      have m5 := fun W (hU : Ups (World.drew (w9.alloc (.cells #[.slice a7 Y.pages.length c7, .slice a'7 Y.wear.length c'7, .int .i64 Y.fuse, .string Y.torn, .bool Y.dead] 25))) W) => block_cells (block_ups hb5 (Ups.trans (up1 _ _) (drew_ups hU)))
      have m6 := fun W (hU : Ups (World.drew (w9.alloc (.cells #[.slice a7 Y.pages.length c7, .slice a'7 Y.wear.length c'7, .int .i64 Y.fuse, .string Y.torn, .bool Y.dead] 25))) W) => block_cells (block_ups hb6 (Ups.trans (up1 _ _) (drew_ups hU)))
      have m7 := fun W (hU : Ups (World.drew (w9.alloc (.cells #[.slice a7 Y.pages.length c7, .slice a'7 Y.wear.length c'7, .int .i64 Y.fuse, .string Y.torn, .bool Y.dead] 25))) W) => block_cells (block_ups hb7 (drew_ups hU))
      have sm1 := fun W (hU : Ups (World.drew (w9.alloc (.cells #[.slice a7 Y.pages.length c7, .slice a'7 Y.wear.length c'7, .int .i64 Y.fuse, .string Y.torn, .bool Y.dead] 25))) W) => same_calls X X _ _ W (hr3.ups (Ups.trans (up1 _ _) (drew_ups hU))) (hr5.ups (Ups.trans (up1 _ _) (drew_ups hU))) (by have := QL.out; omega) (by have := QL.out; omega) (by have := QL.out; rw [this.2.1.2]; omega) (by have := QL.out; rw [this.2.1.2]; omega)
      simp only [sameB_refl] at sm1
      have sm2 := fun W (hU : Ups (World.drew (w9.alloc (.cells #[.slice a7 Y.pages.length c7, .slice a'7 Y.wear.length c'7, .int .i64 Y.fuse, .string Y.torn, .bool Y.dead] 25))) W) => same_calls X X _ _ W (hr3.ups (Ups.trans (up1 _ _) (drew_ups hU))) (hr6.ups (Ups.trans (up1 _ _) (drew_ups hU))) (by have := QL.out; omega) (by have := QL.out; omega) (by have := QL.out; rw [this.2.1.2]; omega) (by have := QL.out; rw [this.2.1.2]; omega)
      simp only [sameB_refl] at sm2
      have sm3 := fun W (hU : Ups (World.drew (w9.alloc (.cells #[.slice a7 Y.pages.length c7, .slice a'7 Y.wear.length c'7, .int .i64 Y.fuse, .string Y.torn, .bool Y.dead] 25))) W) => same_calls Y Y _ _ W (hr2.ups (Ups.trans (up1 _ _) (drew_ups hU))) (hr7.ups (Ups.trans (up1 _ _) (drew_ups hU))) (by have := QL.out; omega) (by have := QL.out; omega) (by have := QL.out; rw [this.2.1.1]; omega) (by have := QL.out; rw [this.2.1.1]; omega)
      simp only [sameB_refl] at sm3
      have cu := fun W (hU : Ups (World.drew (w9.alloc (.cells #[.slice a7 Y.pages.length c7, .slice a'7 Y.wear.length c'7, .int .i64 Y.fuse, .string Y.torn, .bool Y.dead] 25))) W) => cell_ups (Ups.trans (up1 _ _) (drew_ups hU)) ca
      have cz := fun W (hU : Ups (World.drew (w9.alloc (.cells #[.slice a7 Y.pages.length c7, .slice a'7 Y.wear.length c'7, .int .i64 Y.fuse, .string Y.torn, .bool Y.dead] 25))) W) => cell_ups (Ups.trans (up1 _ _) (drew_ups hU)) cw
      refine wp_region_parts (N := 56) (n := 172) (ks := [isV (.bool true), isV (.bool true), isV (.int .i64 0), isV (.bool true), isV (.bool true), isV (.bool true), isV (.int .i64 0), isV (.bool true), isV (.bool true), isV (.bool true), isV (.int .i64 0), isV (.bool true), isV (.bool true), isV (.bool true), isV (.int .i64 0), isV (.bool true), isV (.bool true), isV (.bool true), isV (.int .i64 0), isV (.bool true), isV (.bool true), isV (.bool true), isV (.agg #[.slice a3 X.pages.length c3, .slice a'3 X.wear.length c'3, .int .i64 X.fuse, .string X.torn, .bool X.dead]), isV (.agg #[.slice a5 X.pages.length c5, .slice a'5 X.wear.length c'5, .int .i64 X.fuse, .string X.torn, .bool X.dead]), isV (.bool true), isV (.bool true), isV (.bool true), isV (.agg #[.slice a3 X.pages.length c3, .slice a'3 X.wear.length c'3, .int .i64 X.fuse, .string X.torn, .bool X.dead]), isV (.agg #[.slice a6 X.pages.length c6, .slice a'6 X.wear.length c'6, .int .i64 X.fuse, .string X.torn, .bool X.dead]), isV (.bool true), isV (.bool true), isV (.bool true), isV (.agg #[.slice (some ⟨ba, oa, none⟩) Y.pages.length c2, .slice a'2 Y.wear.length c'2, .int .i64 Y.fuse, .string Y.torn, .bool Y.dead]), isV (.agg #[.slice a7 Y.pages.length c7, .slice a'7 Y.wear.length c'7, .int .i64 Y.fuse, .string Y.torn, .bool Y.dead]), isV (.bool true), isV (.bool true), isV (.bool true), isV (.pointer (some ⟨w4.heap.size, 0, none⟩)), isV (.slice (some ⟨ba, oa, none⟩) Y.pages.length c2), isV (.int .i64 pg), isV (.pointer (some ⟨ba, oa + pg, none⟩)), isV (.string u), isV (.pointer (some ⟨w3.heap.size, 0, none⟩)), isV (.slice (some ⟨bw, ow, none⟩) Wk.pages.length c1), isV (.int .i64 pg), isV (.pointer (some ⟨bw, ow + pg, none⟩)), isV (.string z), isV (.string (andT u z)), isV (.pointer (some ⟨w4.heap.size, 0, none⟩)), isV (.slice (some ⟨ba, oa, none⟩) Y.pages.length c2), isV (.int .i64 pg), isV (.pointer (some ⟨ba, oa + pg, none⟩)), isV (.string u), isV (.bool true), isV (.bool true), isV (.bool true)]) (by decide +kernel) (by decide +kernel) (by decide +kernel) (by simp) rfl (by decide +kernel) ⟨steady_is _, steady_is _, steady_is _, steady_is _, steady_is _, steady_is _, steady_is _, steady_is _, steady_is _, steady_is _, steady_is _, steady_is _, steady_is _, steady_is _, steady_is _, steady_is _, steady_is _, steady_is _, steady_is _, steady_is _, steady_is _, steady_is _, steady_is _, steady_is _, steady_is _, steady_is _, steady_is _, steady_is _, steady_is _, steady_is _, steady_is _, steady_is _, steady_is _, steady_is _, steady_is _, steady_is _, steady_is _, steady_is _, steady_is _, steady_is _, steady_is _, steady_is _, steady_is _, steady_is _, steady_is _, steady_is _, steady_is _, steady_is _, steady_is _, steady_is _, steady_is _, steady_is _, steady_is _, steady_is _, steady_is _, steady_is _, trivial⟩ ?_ ?_
      · refine And.intro (fun ac W hO hU H => ?_) ?_
        · have h11 : ac.tmps[11]? = some (.bool true) := (hO 11 rfl).trans rfl
          exact growOp_plain rfl (parts_value (by simp [go_sem, h11]))
        refine And.intro (fun ac W hO hU H => ?_) ?_
        · have h117 : ac.tmps[117]? = some (.bool true) := isV_get (W := W) (H 0 117 rfl)
          exact growOp_plain rfl (parts_value (by simp [go_sem, h117]))
        refine And.intro (fun ac W hO hU H => ?_) ?_
        · have h18 : ac.tmps[18]? = some (.int .i64 0) := (hO 18 rfl).trans rfl
          have hg : ac.tmps[118]? = some (.bool true) := isV_get (W := W) (H 1 118 rfl)
          exact growOp_done rfl rfl hg (parts_value (by simp [go_sem, h18]))
        refine And.intro (fun ac W hO hU H => ?_) ?_
        · have h119 : ac.tmps[119]? = some (.int .i64 0) := isV_get (W := W) (H 2 119 rfl)
          have hg : ac.tmps[118]? = some (.bool true) := isV_get (W := W) (H 1 118 rfl)
          exact growOp_done rfl rfl hg (parts_value (by simp [go_sem, h119]))
        refine And.intro (fun ac W hO hU H => ?_) ?_
        · have h118 : ac.tmps[118]? = some (.bool true) := isV_get (W := W) (H 1 118 rfl)
          have h120 : ac.tmps[120]? = some (.bool true) := isV_get (W := W) (H 3 120 rfl)
          exact growOp_plain rfl (parts_value (by simp [go_sem, h118, h120]))
        refine And.intro (fun ac W hO hU H => ?_) ?_
        · have h121 : ac.tmps[121]? = some (.bool true) := isV_get (W := W) (H 4 121 rfl)
          exact growOp_plain rfl (parts_value (by simp [go_sem, h121]))
        refine And.intro (fun ac W hO hU H => ?_) ?_
        · have h20 : ac.tmps[20]? = some (.int .i64 0) := (hO 20 rfl).trans rfl
          have hg : ac.tmps[122]? = some (.bool true) := isV_get (W := W) (H 5 122 rfl)
          exact growOp_done rfl rfl hg (parts_value (by simp [go_sem, h20]))
        refine And.intro (fun ac W hO hU H => ?_) ?_
        · have h123 : ac.tmps[123]? = some (.int .i64 0) := isV_get (W := W) (H 6 123 rfl)
          have hg : ac.tmps[122]? = some (.bool true) := isV_get (W := W) (H 5 122 rfl)
          exact growOp_done rfl rfl hg (parts_value (by simp [go_sem, h123]))
        refine And.intro (fun ac W hO hU H => ?_) ?_
        · have h122 : ac.tmps[122]? = some (.bool true) := isV_get (W := W) (H 5 122 rfl)
          have h124 : ac.tmps[124]? = some (.bool true) := isV_get (W := W) (H 7 124 rfl)
          exact growOp_plain rfl (parts_value (by simp [go_sem, h122, h124]))
        refine And.intro (fun ac W hO hU H => ?_) ?_
        · have h125 : ac.tmps[125]? = some (.bool true) := isV_get (W := W) (H 8 125 rfl)
          exact growOp_plain rfl (parts_value (by simp [go_sem, h125]))
        refine And.intro (fun ac W hO hU H => ?_) ?_
        · have h22 : ac.tmps[22]? = some (.int .i64 0) := (hO 22 rfl).trans rfl
          have hg : ac.tmps[126]? = some (.bool true) := isV_get (W := W) (H 9 126 rfl)
          exact growOp_done rfl rfl hg (parts_value (by simp [go_sem, h22]))
        refine And.intro (fun ac W hO hU H => ?_) ?_
        · have h127 : ac.tmps[127]? = some (.int .i64 0) := isV_get (W := W) (H 10 127 rfl)
          have hg : ac.tmps[126]? = some (.bool true) := isV_get (W := W) (H 9 126 rfl)
          exact growOp_done rfl rfl hg (parts_value (by simp [go_sem, h127]))
        refine And.intro (fun ac W hO hU H => ?_) ?_
        · have h126 : ac.tmps[126]? = some (.bool true) := isV_get (W := W) (H 9 126 rfl)
          have h128 : ac.tmps[128]? = some (.bool true) := isV_get (W := W) (H 11 128 rfl)
          exact growOp_plain rfl (parts_value (by simp [go_sem, h126, h128]))
        refine And.intro (fun ac W hO hU H => ?_) ?_
        · have h129 : ac.tmps[129]? = some (.bool true) := isV_get (W := W) (H 12 129 rfl)
          exact growOp_plain rfl (parts_value (by simp [go_sem, h129]))
        refine And.intro (fun ac W hO hU H => ?_) ?_
        · have h24 : ac.tmps[24]? = some (.int .i64 0) := (hO 24 rfl).trans rfl
          have hg : ac.tmps[130]? = some (.bool true) := isV_get (W := W) (H 13 130 rfl)
          exact growOp_done rfl rfl hg (parts_value (by simp [go_sem, h24]))
        refine And.intro (fun ac W hO hU H => ?_) ?_
        · have h131 : ac.tmps[131]? = some (.int .i64 0) := isV_get (W := W) (H 14 131 rfl)
          have hg : ac.tmps[130]? = some (.bool true) := isV_get (W := W) (H 13 130 rfl)
          exact growOp_done rfl rfl hg (parts_value (by simp [go_sem, h131]))
        refine And.intro (fun ac W hO hU H => ?_) ?_
        · have h130 : ac.tmps[130]? = some (.bool true) := isV_get (W := W) (H 13 130 rfl)
          have h132 : ac.tmps[132]? = some (.bool true) := isV_get (W := W) (H 15 132 rfl)
          exact growOp_plain rfl (parts_value (by simp [go_sem, h130, h132]))
        refine And.intro (fun ac W hO hU H => ?_) ?_
        · have h133 : ac.tmps[133]? = some (.bool true) := isV_get (W := W) (H 16 133 rfl)
          exact growOp_plain rfl (parts_value (by simp [go_sem, h133]))
        refine And.intro (fun ac W hO hU H => ?_) ?_
        · have h26 : ac.tmps[26]? = some (.int .i64 0) := (hO 26 rfl).trans rfl
          have hg : ac.tmps[134]? = some (.bool true) := isV_get (W := W) (H 17 134 rfl)
          exact growOp_done rfl rfl hg (parts_value (by simp [go_sem, h26]))
        refine And.intro (fun ac W hO hU H => ?_) ?_
        · have h135 : ac.tmps[135]? = some (.int .i64 0) := isV_get (W := W) (H 18 135 rfl)
          have hg : ac.tmps[134]? = some (.bool true) := isV_get (W := W) (H 17 134 rfl)
          exact growOp_done rfl rfl hg (parts_value (by simp [go_sem, h135]))
        refine And.intro (fun ac W hO hU H => ?_) ?_
        · have h134 : ac.tmps[134]? = some (.bool true) := isV_get (W := W) (H 17 134 rfl)
          have h136 : ac.tmps[136]? = some (.bool true) := isV_get (W := W) (H 19 136 rfl)
          exact growOp_plain rfl (parts_value (by simp [go_sem, h134, h136]))
        refine And.intro (fun ac W hO hU H => ?_) ?_
        · have h137 : ac.tmps[137]? = some (.bool true) := isV_get (W := W) (H 20 137 rfl)
          exact growOp_plain rfl (parts_value (by simp [go_sem, h137]))
        refine And.intro (fun ac W hO hU H => ?_) ?_
        · have h17 : ac.tmps[17]? = some (.pointer (some ⟨w5.heap.size, 0, none⟩)) := (hO 17 rfl).trans rfl
          have hg : ac.tmps[138]? = some (.bool true) := isV_get (W := W) (H 21 138 rfl)
          obtain ⟨k0, k1, k2, k3, k4⟩ := m3 W hU
          exact growOp_done rfl rfl hg (parts_value (by simp [go_sem, h17, k0, k1, k2, k3, k4]))
        refine And.intro (fun ac W hO hU H => ?_) ?_
        · have h21 : ac.tmps[21]? = some (.pointer (some ⟨w7.heap.size, 0, none⟩)) := (hO 21 rfl).trans rfl
          have hg : ac.tmps[138]? = some (.bool true) := isV_get (W := W) (H 21 138 rfl)
          obtain ⟨k0, k1, k2, k3, k4⟩ := m5 W hU
          exact growOp_done rfl rfl hg (parts_value (by simp [go_sem, h21, k0, k1, k2, k3, k4]))
        refine And.intro (fun ac W hO hU H => ?_) ?_
        · have h139 : ac.tmps[139]? = some (.agg #[.slice a3 X.pages.length c3, .slice a'3 X.wear.length c'3, .int .i64 X.fuse, .string X.torn, .bool X.dead]) := isV_get (W := W) (H 22 139 rfl)
          have h140 : ac.tmps[140]? = some (.agg #[.slice a5 X.pages.length c5, .slice a'5 X.wear.length c'5, .int .i64 X.fuse, .string X.torn, .bool X.dead]) := isV_get (W := W) (H 23 140 rfl)
          have hg : ac.tmps[138]? = some (.bool true) := isV_get (W := W) (H 21 138 rfl)
          exact growOp_done rfl rfl hg (parts_call_is (args := #[.agg #[.slice a3 X.pages.length c3, .slice a'3 X.wear.length c'3, .int .i64 X.fuse, .string X.torn, .bool X.dead], .agg #[.slice a5 X.pages.length c5, .slice a'5 X.wear.length c'5, .int .i64 X.fuse, .string X.torn, .bool X.dead]]) (by simp [go_sem, h139, h140]) (sm1 W hU))
        refine And.intro (fun ac W hO hU H => ?_) ?_
        · have h138 : ac.tmps[138]? = some (.bool true) := isV_get (W := W) (H 21 138 rfl)
          have h141 : ac.tmps[141]? = some (.bool true) := isV_get (W := W) (H 24 141 rfl)
          exact growOp_plain rfl (parts_value (by simp [go_sem, h138, h141]))
        refine And.intro (fun ac W hO hU H => ?_) ?_
        · have h142 : ac.tmps[142]? = some (.bool true) := isV_get (W := W) (H 25 142 rfl)
          exact growOp_plain rfl (parts_value (by simp [go_sem, h142]))
        refine And.intro (fun ac W hO hU H => ?_) ?_
        · have h17 : ac.tmps[17]? = some (.pointer (some ⟨w5.heap.size, 0, none⟩)) := (hO 17 rfl).trans rfl
          have hg : ac.tmps[143]? = some (.bool true) := isV_get (W := W) (H 26 143 rfl)
          obtain ⟨k0, k1, k2, k3, k4⟩ := m3 W hU
          exact growOp_done rfl rfl hg (parts_value (by simp [go_sem, h17, k0, k1, k2, k3, k4]))
        refine And.intro (fun ac W hO hU H => ?_) ?_
        · have h23 : ac.tmps[23]? = some (.pointer (some ⟨B', 0, none⟩)) := (hO 23 rfl).trans rfl
          have hg : ac.tmps[143]? = some (.bool true) := isV_get (W := W) (H 26 143 rfl)
          obtain ⟨k0, k1, k2, k3, k4⟩ := m6 W hU
          exact growOp_done rfl rfl hg (parts_value (by simp [go_sem, h23, k0, k1, k2, k3, k4]))
        refine And.intro (fun ac W hO hU H => ?_) ?_
        · have h144 : ac.tmps[144]? = some (.agg #[.slice a3 X.pages.length c3, .slice a'3 X.wear.length c'3, .int .i64 X.fuse, .string X.torn, .bool X.dead]) := isV_get (W := W) (H 27 144 rfl)
          have h145 : ac.tmps[145]? = some (.agg #[.slice a6 X.pages.length c6, .slice a'6 X.wear.length c'6, .int .i64 X.fuse, .string X.torn, .bool X.dead]) := isV_get (W := W) (H 28 145 rfl)
          have hg : ac.tmps[143]? = some (.bool true) := isV_get (W := W) (H 26 143 rfl)
          exact growOp_done rfl rfl hg (parts_call_is (args := #[.agg #[.slice a3 X.pages.length c3, .slice a'3 X.wear.length c'3, .int .i64 X.fuse, .string X.torn, .bool X.dead], .agg #[.slice a6 X.pages.length c6, .slice a'6 X.wear.length c'6, .int .i64 X.fuse, .string X.torn, .bool X.dead]]) (by simp [go_sem, h144, h145]) (sm2 W hU))
        refine And.intro (fun ac W hO hU H => ?_) ?_
        · have h143 : ac.tmps[143]? = some (.bool true) := isV_get (W := W) (H 26 143 rfl)
          have h146 : ac.tmps[146]? = some (.bool true) := isV_get (W := W) (H 29 146 rfl)
          exact growOp_plain rfl (parts_value (by simp [go_sem, h143, h146]))
        refine And.intro (fun ac W hO hU H => ?_) ?_
        · have h147 : ac.tmps[147]? = some (.bool true) := isV_get (W := W) (H 30 147 rfl)
          exact growOp_plain rfl (parts_value (by simp [go_sem, h147]))
        refine And.intro (fun ac W hO hU H => ?_) ?_
        · have h15 : ac.tmps[15]? = some (.pointer (some ⟨w4.heap.size, 0, none⟩)) := (hO 15 rfl).trans rfl
          have hg : ac.tmps[148]? = some (.bool true) := isV_get (W := W) (H 31 148 rfl)
          obtain ⟨k0, k1, k2, k3, k4⟩ := m2 W hU
          exact growOp_done rfl rfl hg (parts_value (by simp [go_sem, h15, k0, k1, k2, k3, k4]))
        refine And.intro (fun ac W hO hU H => ?_) ?_
        · have h25 : ac.tmps[25]? = some (.pointer (some ⟨w9.heap.size, 0, none⟩)) := (hO 25 rfl).trans rfl
          have hg : ac.tmps[148]? = some (.bool true) := isV_get (W := W) (H 31 148 rfl)
          obtain ⟨k0, k1, k2, k3, k4⟩ := m7 W hU
          exact growOp_done rfl rfl hg (parts_value (by simp [go_sem, h25, k0, k1, k2, k3, k4]))
        refine And.intro (fun ac W hO hU H => ?_) ?_
        · have h149 : ac.tmps[149]? = some (.agg #[.slice (some ⟨ba, oa, none⟩) Y.pages.length c2, .slice a'2 Y.wear.length c'2, .int .i64 Y.fuse, .string Y.torn, .bool Y.dead]) := isV_get (W := W) (H 32 149 rfl)
          have h150 : ac.tmps[150]? = some (.agg #[.slice a7 Y.pages.length c7, .slice a'7 Y.wear.length c'7, .int .i64 Y.fuse, .string Y.torn, .bool Y.dead]) := isV_get (W := W) (H 33 150 rfl)
          have hg : ac.tmps[148]? = some (.bool true) := isV_get (W := W) (H 31 148 rfl)
          exact growOp_done rfl rfl hg (parts_call_is (args := #[.agg #[.slice (some ⟨ba, oa, none⟩) Y.pages.length c2, .slice a'2 Y.wear.length c'2, .int .i64 Y.fuse, .string Y.torn, .bool Y.dead], .agg #[.slice a7 Y.pages.length c7, .slice a'7 Y.wear.length c'7, .int .i64 Y.fuse, .string Y.torn, .bool Y.dead]]) (by simp [go_sem, h149, h150]) (sm3 W hU))
        refine And.intro (fun ac W hO hU H => ?_) ?_
        · have h148 : ac.tmps[148]? = some (.bool true) := isV_get (W := W) (H 31 148 rfl)
          have h151 : ac.tmps[151]? = some (.bool true) := isV_get (W := W) (H 34 151 rfl)
          exact growOp_plain rfl (parts_value (by simp [go_sem, h148, h151]))
        refine And.intro (fun ac W hO hU H => ?_) ?_
        · have h152 : ac.tmps[152]? = some (.bool true) := isV_get (W := W) (H 35 152 rfl)
          exact growOp_plain rfl (parts_value (by simp [go_sem, h152]))
        refine And.intro (fun ac W hO hU H => ?_) ?_
        · have h15 : ac.tmps[15]? = some (.pointer (some ⟨w4.heap.size, 0, none⟩)) := (hO 15 rfl).trans rfl
          have hg : ac.tmps[153]? = some (.bool true) := isV_get (W := W) (H 36 153 rfl)
          exact growOp_done rfl rfl hg (parts_value (by simp [go_sem, h15]))
        refine And.intro (fun ac W hO hU H => ?_) ?_
        · have h154 : ac.tmps[154]? = some (.pointer (some ⟨w4.heap.size, 0, none⟩)) := isV_get (W := W) (H 37 154 rfl)
          have hg : ac.tmps[153]? = some (.bool true) := isV_get (W := W) (H 36 153 rfl)
          have f0 := (m2 W hU).1
          exact growOp_done rfl rfl hg (parts_value (by simp [go_sem, h154, f0]))
        refine And.intro (fun ac W hO hU H => ?_) ?_
        · have h1 : ac.tmps[1]? = some (.int .i64 pg) := (hO 1 rfl).trans rfl
          have hg : ac.tmps[153]? = some (.bool true) := isV_get (W := W) (H 36 153 rfl)
          exact growOp_done rfl rfl hg (parts_value (by simp [go_sem, h1]))
        refine And.intro (fun ac W hO hU H => ?_) ?_
        · have h155 : ac.tmps[155]? = some (.slice (some ⟨ba, oa, none⟩) Y.pages.length c2) := isV_get (W := W) (H 38 155 rfl)
          have h156 : ac.tmps[156]? = some (.int .i64 pg) := isV_get (W := W) (H 39 156 rfl)
          have hg : ac.tmps[153]? = some (.bool true) := isV_get (W := W) (H 36 153 rfl)
          exact growOp_done rfl rfl hg (parts_value (by simp [go_sem, h155, h156, iA]))
        refine And.intro (fun ac W hO hU H => ?_) ?_
        · have h157 : ac.tmps[157]? = some (.pointer (some ⟨ba, oa + pg, none⟩)) := isV_get (W := W) (H 40 157 rfl)
          have hg : ac.tmps[153]? = some (.bool true) := isV_get (W := W) (H 36 153 rfl)
          have f0 := cu W hU
          exact growOp_done rfl rfl hg (parts_value (by simp [go_sem, h157, f0]))
        refine And.intro (fun ac W hO hU H => ?_) ?_
        · have h13 : ac.tmps[13]? = some (.pointer (some ⟨w3.heap.size, 0, none⟩)) := (hO 13 rfl).trans rfl
          have hg : ac.tmps[153]? = some (.bool true) := isV_get (W := W) (H 36 153 rfl)
          exact growOp_done rfl rfl hg (parts_value (by simp [go_sem, h13]))
        refine And.intro (fun ac W hO hU H => ?_) ?_
        · have h159 : ac.tmps[159]? = some (.pointer (some ⟨w3.heap.size, 0, none⟩)) := isV_get (W := W) (H 42 159 rfl)
          have hg : ac.tmps[153]? = some (.bool true) := isV_get (W := W) (H 36 153 rfl)
          have f0 := (m1 W hU).1
          exact growOp_done rfl rfl hg (parts_value (by simp [go_sem, h159, f0]))
        refine And.intro (fun ac W hO hU H => ?_) ?_
        · have h1 : ac.tmps[1]? = some (.int .i64 pg) := (hO 1 rfl).trans rfl
          have hg : ac.tmps[153]? = some (.bool true) := isV_get (W := W) (H 36 153 rfl)
          exact growOp_done rfl rfl hg (parts_value (by simp [go_sem, h1]))
        refine And.intro (fun ac W hO hU H => ?_) ?_
        · have h160 : ac.tmps[160]? = some (.slice (some ⟨bw, ow, none⟩) Wk.pages.length c1) := isV_get (W := W) (H 43 160 rfl)
          have h161 : ac.tmps[161]? = some (.int .i64 pg) := isV_get (W := W) (H 44 161 rfl)
          have hg : ac.tmps[153]? = some (.bool true) := isV_get (W := W) (H 36 153 rfl)
          exact growOp_done rfl rfl hg (parts_value (by simp [go_sem, h160, h161, iW]))
        refine And.intro (fun ac W hO hU H => ?_) ?_
        · have h162 : ac.tmps[162]? = some (.pointer (some ⟨bw, ow + pg, none⟩)) := isV_get (W := W) (H 45 162 rfl)
          have hg : ac.tmps[153]? = some (.bool true) := isV_get (W := W) (H 36 153 rfl)
          have f0 := cz W hU
          exact growOp_done rfl rfl hg (parts_value (by simp [go_sem, h162, f0]))
        refine And.intro (fun ac W hO hU H => ?_) ?_
        · have h158 : ac.tmps[158]? = some (.string u) := isV_get (W := W) (H 41 158 rfl)
          have h163 : ac.tmps[163]? = some (.string z) := isV_get (W := W) (H 46 163 rfl)
          have hg : ac.tmps[153]? = some (.bool true) := isV_get (W := W) (H 36 153 rfl)
          exact growOp_done rfl rfl hg (parts_call_is (args := #[.string u, .string z]) (by simp [go_sem, h158, h163]) (oand_t u z W su sz))
        refine And.intro (fun ac W hO hU H => ?_) ?_
        · have h15 : ac.tmps[15]? = some (.pointer (some ⟨w4.heap.size, 0, none⟩)) := (hO 15 rfl).trans rfl
          have hg : ac.tmps[153]? = some (.bool true) := isV_get (W := W) (H 36 153 rfl)
          exact growOp_done rfl rfl hg (parts_value (by simp [go_sem, h15]))
        refine And.intro (fun ac W hO hU H => ?_) ?_
        · have h165 : ac.tmps[165]? = some (.pointer (some ⟨w4.heap.size, 0, none⟩)) := isV_get (W := W) (H 48 165 rfl)
          have hg : ac.tmps[153]? = some (.bool true) := isV_get (W := W) (H 36 153 rfl)
          have f0 := (m2 W hU).1
          exact growOp_done rfl rfl hg (parts_value (by simp [go_sem, h165, f0]))
        refine And.intro (fun ac W hO hU H => ?_) ?_
        · have h1 : ac.tmps[1]? = some (.int .i64 pg) := (hO 1 rfl).trans rfl
          have hg : ac.tmps[153]? = some (.bool true) := isV_get (W := W) (H 36 153 rfl)
          exact growOp_done rfl rfl hg (parts_value (by simp [go_sem, h1]))
        refine And.intro (fun ac W hO hU H => ?_) ?_
        · have h166 : ac.tmps[166]? = some (.slice (some ⟨ba, oa, none⟩) Y.pages.length c2) := isV_get (W := W) (H 49 166 rfl)
          have h167 : ac.tmps[167]? = some (.int .i64 pg) := isV_get (W := W) (H 50 167 rfl)
          have hg : ac.tmps[153]? = some (.bool true) := isV_get (W := W) (H 36 153 rfl)
          exact growOp_done rfl rfl hg (parts_value (by simp [go_sem, h166, h167, iA]))
        refine And.intro (fun ac W hO hU H => ?_) ?_
        · have h168 : ac.tmps[168]? = some (.pointer (some ⟨ba, oa + pg, none⟩)) := isV_get (W := W) (H 51 168 rfl)
          have hg : ac.tmps[153]? = some (.bool true) := isV_get (W := W) (H 36 153 rfl)
          have f0 := cu W hU
          exact growOp_done rfl rfl hg (parts_value (by simp [go_sem, h168, f0]))
        refine And.intro (fun ac W hO hU H => ?_) ?_
        · have h164 : ac.tmps[164]? = some (.string (andT u z)) := isV_get (W := W) (H 47 164 rfl)
          have h169 : ac.tmps[169]? = some (.string u) := isV_get (W := W) (H 52 169 rfl)
          have hg : ac.tmps[153]? = some (.bool true) := isV_get (W := W) (H 36 153 rfl)
          exact growOp_done rfl rfl hg (parts_value (by simp [go_sem, h164, h169, QO.out]))
        refine And.intro (fun ac W hO hU H => ?_) ?_
        · have h153 : ac.tmps[153]? = some (.bool true) := isV_get (W := W) (H 36 153 rfl)
          have h170 : ac.tmps[170]? = some (.bool true) := isV_get (W := W) (H 53 170 rfl)
          exact growOp_plain rfl (parts_value (by simp [go_sem, h153, h170]))
        refine And.intro (fun ac W hO hU H => ?_) ?_
        · have h171 : ac.tmps[171]? = some (.bool true) := isV_get (W := W) (H 54 171 rfl)
          exact growOp_plain rfl (parts_value (by simp [go_sem, h171]))
        exact trivial
      · intro w10 xs hU hks
        obtain ⟨y0, rfl, g0⟩ := holdAll_is hks
        obtain ⟨y1, rfl, g1⟩ := holdAll_is g0
        obtain ⟨y2, rfl, g2⟩ := holdAll_is g1
        obtain ⟨y3, rfl, g3⟩ := holdAll_is g2
        obtain ⟨y4, rfl, g4⟩ := holdAll_is g3
        obtain ⟨y5, rfl, g5⟩ := holdAll_is g4
        obtain ⟨y6, rfl, g6⟩ := holdAll_is g5
        obtain ⟨y7, rfl, g7⟩ := holdAll_is g6
        obtain ⟨y8, rfl, g8⟩ := holdAll_is g7
        obtain ⟨y9, rfl, g9⟩ := holdAll_is g8
        obtain ⟨y10, rfl, g10⟩ := holdAll_is g9
        obtain ⟨y11, rfl, g11⟩ := holdAll_is g10
        obtain ⟨y12, rfl, g12⟩ := holdAll_is g11
        obtain ⟨y13, rfl, g13⟩ := holdAll_is g12
        obtain ⟨y14, rfl, g14⟩ := holdAll_is g13
        obtain ⟨y15, rfl, g15⟩ := holdAll_is g14
        obtain ⟨y16, rfl, g16⟩ := holdAll_is g15
        obtain ⟨y17, rfl, g17⟩ := holdAll_is g16
        obtain ⟨y18, rfl, g18⟩ := holdAll_is g17
        obtain ⟨y19, rfl, g19⟩ := holdAll_is g18
        obtain ⟨y20, rfl, g20⟩ := holdAll_is g19
        obtain ⟨y21, rfl, g21⟩ := holdAll_is g20
        obtain ⟨y22, rfl, g22⟩ := holdAll_is g21
        obtain ⟨y23, rfl, g23⟩ := holdAll_is g22
        obtain ⟨y24, rfl, g24⟩ := holdAll_is g23
        obtain ⟨y25, rfl, g25⟩ := holdAll_is g24
        obtain ⟨y26, rfl, g26⟩ := holdAll_is g25
        obtain ⟨y27, rfl, g27⟩ := holdAll_is g26
        obtain ⟨y28, rfl, g28⟩ := holdAll_is g27
        obtain ⟨y29, rfl, g29⟩ := holdAll_is g28
        obtain ⟨y30, rfl, g30⟩ := holdAll_is g29
        obtain ⟨y31, rfl, g31⟩ := holdAll_is g30
        obtain ⟨y32, rfl, g32⟩ := holdAll_is g31
        obtain ⟨y33, rfl, g33⟩ := holdAll_is g32
        obtain ⟨y34, rfl, g34⟩ := holdAll_is g33
        obtain ⟨y35, rfl, g35⟩ := holdAll_is g34
        obtain ⟨y36, rfl, g36⟩ := holdAll_is g35
        obtain ⟨y37, rfl, g37⟩ := holdAll_is g36
        obtain ⟨y38, rfl, g38⟩ := holdAll_is g37
        obtain ⟨y39, rfl, g39⟩ := holdAll_is g38
        obtain ⟨y40, rfl, g40⟩ := holdAll_is g39
        obtain ⟨y41, rfl, g41⟩ := holdAll_is g40
        obtain ⟨y42, rfl, g42⟩ := holdAll_is g41
        obtain ⟨y43, rfl, g43⟩ := holdAll_is g42
        obtain ⟨y44, rfl, g44⟩ := holdAll_is g43
        obtain ⟨y45, rfl, g45⟩ := holdAll_is g44
        obtain ⟨y46, rfl, g46⟩ := holdAll_is g45
        obtain ⟨y47, rfl, g47⟩ := holdAll_is g46
        obtain ⟨y48, rfl, g48⟩ := holdAll_is g47
        obtain ⟨y49, rfl, g49⟩ := holdAll_is g48
        obtain ⟨y50, rfl, g50⟩ := holdAll_is g49
        obtain ⟨y51, rfl, g51⟩ := holdAll_is g50
        obtain ⟨y52, rfl, g52⟩ := holdAll_is g51
        obtain ⟨y53, rfl, g53⟩ := holdAll_is g52
        obtain ⟨y54, rfl, g54⟩ := holdAll_is g53
        obtain ⟨y55, rfl, g55⟩ := holdAll_is g54
        obtain rfl := holdAll_nil g55
        clear hks g0 g1 g2 g3 g4 g5 g6 g7 g8 g9 g10 g11 g12 g13 g14 g15 g16 g17 g18 g19 g20 g21 g22 g23 g24 g25 g26 g27 g28 g29 g30 g31 g32 g33 g34 g35 g36 g37 g38 g39 g40 g41 g42 g43 g44 g45 g46 g47 g48 g49 g50 g51 g52 g53 g54 g55
        simp only [List.take_succ_cons, List.take_zero, List.drop_succ_cons, List.drop_zero, endTmps, List.setIfInBounds_toArray, List.set]
        have ub10 : Ups (w9.alloc (.cells #[.slice a7 Y.pages.length c7, .slice a'7 Y.wear.length c'7, .int .i64 Y.fuse, .string Y.torn, .bool Y.dead] 25)) w10 := drew_ups hU
        replace hrf := hrf.ups (Ups.trans (up1 _ _) ub10)
        replace hbf := block_ups hbf (Ups.trans (up1 _ _) ub10)
        have ltf_10 : w.heap.size < w10.heap.size := (Array.getElem?_eq_some_iff.1 hbf).1
        replace hr1 := hr1.ups (Ups.trans (up1 _ _) ub10)
        replace hb1 := block_ups hb1 (Ups.trans (up1 _ _) ub10)
        have lt1_10 : w3.heap.size < w10.heap.size := (Array.getElem?_eq_some_iff.1 hb1).1
        replace hr2 := hr2.ups (Ups.trans (up1 _ _) ub10)
        replace hb2 := block_ups hb2 (Ups.trans (up1 _ _) ub10)
        have lt2_10 : w4.heap.size < w10.heap.size := (Array.getElem?_eq_some_iff.1 hb2).1
        replace hr3 := hr3.ups (Ups.trans (up1 _ _) ub10)
        replace hb3 := block_ups hb3 (Ups.trans (up1 _ _) ub10)
        have lt3_10 : w5.heap.size < w10.heap.size := (Array.getElem?_eq_some_iff.1 hb3).1
        replace hr4 := hr4.ups (Ups.trans (up1 _ _) ub10)
        replace hb4 := block_ups hb4 (Ups.trans (up1 _ _) ub10)
        have lt4_10 : w6.heap.size < w10.heap.size := (Array.getElem?_eq_some_iff.1 hb4).1
        replace hr5 := hr5.ups (Ups.trans (up1 _ _) ub10)
        replace hb5 := block_ups hb5 (Ups.trans (up1 _ _) ub10)
        have lt5_10 : w7.heap.size < w10.heap.size := (Array.getElem?_eq_some_iff.1 hb5).1
        replace hr6 := hr6.ups (Ups.trans (up1 _ _) ub10)
        replace hb6 := block_ups hb6 (Ups.trans (up1 _ _) ub10)
        have lt6_10 : B' < w10.heap.size := (Array.getElem?_eq_some_iff.1 hb6).1
        replace hr7 := hr7.ups (Ups.trans (up1 _ _) ub10)
        replace hb7 := block_ups hb7 ub10
        have lt7_10 : w9.heap.size < w10.heap.size := (Array.getElem?_eq_some_iff.1 hb7).1
        replace uw := Ups.trans uw (Ups.trans (up1 _ _) ub10)
        clear hU
        clear m1 m2 m3 m5 m6 m7 sm1 sm2 sm3 cu cz
        go_wp2_with fail
        exact bodyPost_ret (v := .bool true) (results_one rfl rfl) rfl ⟨rfl, Ups.trans uw (Ups.refl _)⟩

end Go.Proofs.Ytjpapjijlbfemaa
