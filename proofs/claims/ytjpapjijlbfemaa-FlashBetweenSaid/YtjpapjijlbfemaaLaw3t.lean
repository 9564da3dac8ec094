/- FlashBetween, walked. -/
import Derived.Test.YtjpapjijlbfemaaLaw3r
import Derived.Test.YtjpapjijlbfemaaLaw3q
namespace Go.Proofs.Ytjpapjijlbfemaa
open Go.RowKit

theorem growOp_lost {P : Program} {ops : Array Oper} {G : World → World → Prop} {V : Kd} {o : Oper} {a : Act} {W : World} {j d : Nat} {b : Bool} (hg : o.guard = some (j, b)) (hd : (ops.toList[j]?).bind (·.dst) = some d) (hv : a.tmps[d]? = some undef) (hrefl : ∀ A, G A A) (h : V undef W) : growOp P ops G V o a W := by
  unfold growOp
  rw [Array.getElem?_toList] at hd
  rw [if_neg ?_]
  · exact ⟨h, hrefl _⟩
  · unfold Region.wanted
    rw [hg]
    cases b <;> simp [yielded, hd, hv, undef]
theorem FlAt.wears {W : World} {a : Option Addr} {n c : Nat} {p : Value} {fu : Int} {tn : ByteArray} {de : Bool} {f : Fl} (h : FlAt W (.agg #[p, .slice a n c, .int .i64 fu, .string tn, .bool de]) f) : IntsAt W (.slice a n c) f.wear := by
  obtain ⟨p, q, hv, _, hq⟩ := h
  simp only [Value.agg.injEq, Array.mk.injEq, List.cons.injEq] at hv
  obtain ⟨_, rfl, _⟩ := hv
  exact hq
theorem wake_both {f W V : Fl} {x y e g : Int} {torn : ByteArray} (hW : wakeF f x torn = (W, e)) (hV : wakeF f y torn = (V, g)) : g = e := by
  rcases wake_facts hW with ⟨h1, _⟩ | ⟨h1, hc, ht, _⟩
  · rcases wake_facts hV with ⟨h2, _⟩ | ⟨_, hc, ht, _⟩
    · omega
    · unfold wakeF at hW
      rw [if_pos (by simp [hc, ht])] at hW
      simp only [Prod.mk.injEq] at hW
      omega
  · unfold wakeF at hV
    rw [if_pos (by simp [hc, ht])] at hV
    simp only [Prod.mk.injEq] at hV
    omega

set_option maxRecDepth 100000 in
set_option maxHeartbeats 20000000 in
theorem between_law (f : Fl) (v : Value) (page at_ : Int) (s torn : ByteArray) (w : World) (h : FlAt w v f) (hf : FlFit f) (ha : at_ ≤ 9223372036854775807) :
    Calls Try.prog 5 #[v, .int .i64 page, .int .i64 at_, .string s, .string torn] w fun e W' => e = .returned (.bool true) ∧ Ups w W' := by
  obtain ⟨Wk, we, hW⟩ : ∃ Wk we, wakeF f 0 torn = (Wk, we) := ⟨_, _, rfl⟩
  obtain ⟨Vk, ve, hV⟩ : ∃ Vk ve, wakeF f (-1) torn = (Vk, ve) := ⟨_, _, rfl⟩
  obtain ⟨A, ae, hA⟩ : ∃ A ae, programF Wk page at_ s = (A, ae) := ⟨_, _, rfl⟩
  obtain ⟨B, be, hB⟩ : ∃ B be, programF Vk page at_ s = (B, be) := ⟨_, _, rfl⟩
  obtain ⟨C, ce, hC⟩ : ∃ C ce, eraseF Wk page = (C, ce) := ⟨_, _, rfl⟩
  obtain ⟨E, ee, hE⟩ : ∃ E ee, eraseF Vk page = (E, ee) := ⟨_, _, rfl⟩
  obtain rfl := wake_both hW hV
  have fW := wake_fit f 0 torn hf (by decide) (by decide)
  have fV := wake_fit f (-1) torn hf (by decide) (by decide)
  rw [hW] at fW
  rw [hV] at fV
  have fE := erase_fit Vk page fV
  rw [hE] at fE
  have HK := Lib.hid (wake_facts hW)
  have hrf := h
  clear h
  have hsf := hrf
  obtain ⟨_, _, rfl, ⟨af, cf, rfl, _⟩, ⟨a'f, c'f, rfl, _⟩⟩ := hsf
  have hbf : (w.alloc (.cells #[.slice af f.pages.length cf, .slice a'f f.wear.length c'f, .int .i64 f.fuse, .string f.torn, .bool f.dead] 25)).heap[w.heap.size]? = some (.cells #[.slice af f.pages.length cf, .slice a'f f.wear.length c'f, .int .i64 f.fuse, .string f.torn, .bool f.dead] 25) := alloc_at _ _
  go_enter Try.func5, Try.ntmps5
  have hc := works3 (w.alloc (.cells #[.slice af f.pages.length cf, .slice a'f f.wear.length c'f, .int .i64 f.fuse, .string f.torn, .bool f.dead] 25))
  go_wp2_with fail
  refine hc.mono ?_
  clear hc
  rintro e w1 ⟨rfl, uu⟩
  have ub1 : Ups (w.alloc (.cells #[.slice af f.pages.length cf, .slice a'f f.wear.length c'f, .int .i64 f.fuse, .string f.torn, .bool f.dead] 25)) w1 := uu
  replace hrf := hrf.ups (Ups.trans (up1 _ _) ub1)
  replace hbf := block_ups hbf ub1
  have ltf_1 : w.heap.size < w1.heap.size := (Array.getElem?_eq_some_iff.1 hbf).1
  have uw := Ups.trans (up1 _ _) ub1
  clear uu
  have hc := few_calls f _ w1 (hrf.ups (Ups.refl _)) hf
  obtain ⟨kf0, kf1, kf2, kf3, kf4⟩ := block_cells hbf
  go_wp2_with fail
  refine hc.mono ?_
  clear hc
  rintro e w2 ⟨few, rfl, hfew, uu⟩
  clear kf0 kf1 kf2 kf3 kf4
  have ub2 : Ups w1 w2 := uu
  replace hrf := hrf.ups (Ups.trans (Ups.refl _) ub2)
  replace hbf := block_ups hbf (Ups.trans (Ups.refl _) ub2)
  have ltf_2 : w.heap.size < w2.heap.size := (Array.getElem?_eq_some_iff.1 hbf).1
  replace uw := Ups.trans uw (Ups.trans (Ups.refl _) ub2)
  clear uu
  cases few with
  | false =>
    go_wp2_with fail
    exact bodyPost_ret (v := .bool true) (results_one rfl rfl) rfl ⟨rfl, Ups.trans uw (Ups.refl _)⟩
  | true =>
    obtain ⟨n1, n2⟩ := hfew rfl
    have n12 := Lib.hid (And.intro n1 n2)
    clear hfew n1 n2
    by_cases hs : (400 : Int) < s.size
    · go_wp2_with fail
      exact bodyPost_ret (v := .bool true) (results_one rfl rfl) rfl ⟨rfl, Ups.trans uw (Ups.refl _)⟩
    have hc := wake_calls f _ 0 torn w2 (hrf.ups (Ups.refl _)) hf
    rw [hW] at hc
    obtain ⟨kf0, kf1, kf2, kf3, kf4⟩ := block_cells hbf
    go_wp2_with fail
    refine hc.mono ?_
    clear hc
    rintro e w3 ⟨v1, rfl, hn⟩
    clear kf0 kf1 kf2 kf3 kf4
    have ub3 : Ups w2 w3 := hn.ups
    replace hrf := hrf.ups (Ups.trans (Ups.refl _) ub3)
    replace hbf := block_ups hbf (Ups.trans (Ups.refl _) ub3)
    have ltf_3 : w.heap.size < w3.heap.size := (Array.getElem?_eq_some_iff.1 hbf).1
    replace uw := Ups.trans uw (Ups.trans (Ups.refl _) ub3)
    have hr1 := hn.reads
    clear hn
    have hs1 := hr1
    obtain ⟨_, _, rfl, ⟨a1, c1, rfl, _⟩, ⟨a'1, c'1, rfl, _⟩⟩ := hs1
    have hb1 : (w3.alloc (.cells #[.slice a1 Wk.pages.length c1, .slice a'1 Wk.wear.length c'1, .int .i64 Wk.fuse, .string Wk.torn, .bool Wk.dead] 25)).heap[w3.heap.size]? = some (.cells #[.slice a1 Wk.pages.length c1, .slice a'1 Wk.wear.length c'1, .int .i64 Wk.fuse, .string Wk.torn, .bool Wk.dead] 25) := alloc_at _ _
    have hc := wake_calls f _ (-1) torn (w3.alloc (.cells #[.slice a1 Wk.pages.length c1, .slice a'1 Wk.wear.length c'1, .int .i64 Wk.fuse, .string Wk.torn, .bool Wk.dead] 25)) (hrf.ups (up1 _ _)) hf
    rw [hV] at hc
    obtain ⟨kf0, kf1, kf2, kf3, kf4⟩ := block_cells hbf
    go_wp2_with fail
    refine hc.mono ?_
    clear hc
    rintro e w4 ⟨v2, rfl, hn⟩
    clear kf0 kf1 kf2 kf3 kf4
    have ub4 : Ups (w3.alloc (.cells #[.slice a1 Wk.pages.length c1, .slice a'1 Wk.wear.length c'1, .int .i64 Wk.fuse, .string Wk.torn, .bool Wk.dead] 25)) w4 := hn.ups
    replace hrf := hrf.ups (Ups.trans (up1 _ _) ub4)
    replace hbf := block_ups hbf (Ups.trans (up1 _ _) ub4)
    have ltf_4 : w.heap.size < w4.heap.size := (Array.getElem?_eq_some_iff.1 hbf).1
    replace hr1 := hr1.ups (Ups.trans (up1 _ _) ub4)
    replace hb1 := block_ups hb1 ub4
    have lt1_4 : w3.heap.size < w4.heap.size := (Array.getElem?_eq_some_iff.1 hb1).1
    replace uw := Ups.trans uw (Ups.trans (up1 _ _) ub4)
    have hr2 := hn.reads
    clear hn
    have hs2 := hr2
    obtain ⟨_, _, rfl, ⟨a2, c2, rfl, _⟩, ⟨a'2, c'2, rfl, _⟩⟩ := hs2
    have hb2 : (w4.alloc (.cells #[.slice a2 Vk.pages.length c2, .slice a'2 Vk.wear.length c'2, .int .i64 Vk.fuse, .string Vk.torn, .bool Vk.dead] 25)).heap[w4.heap.size]? = some (.cells #[.slice a2 Vk.pages.length c2, .slice a'2 Vk.wear.length c'2, .int .i64 Vk.fuse, .string Vk.torn, .bool Vk.dead] 25) := alloc_at _ _
    rcases HK.out with ⟨rfl, -⟩ | ⟨rfl, hck, -, -, -⟩
    · go_wp2_with fail
      exact bodyPost_ret (v := .bool true) (results_one rfl rfl) rfl ⟨rfl, Ups.trans uw (up1 _ _)⟩
    by_cases hp0 : page < 0
    · go_wp2_with fail
      exact bodyPost_ret (v := .bool true) (results_one rfl rfl) rfl ⟨rfl, Ups.trans uw (up1 _ _)⟩
    by_cases hp1 : (f.pages.length : Int) ≤ page
    · obtain ⟨kf0, kf1, kf2, kf3, kf4⟩ := block_cells hbf
      go_wp2_with fail
      exact bodyPost_ret (v := .bool true) (results_one rfl rfl) rfl ⟨rfl, Ups.trans uw (up1 _ _)⟩
    obtain ⟨pg, rfl⟩ : ∃ pg : Nat, page = pg := ⟨page.toNat, by omega⟩
    have hpg : pg < f.pages.length := by omega
    have T := Lib.hid (torn_plain hW hV hA hB hC hE rfl hpg)
    have HCK := Lib.hid hck
    clear hck
    have hpn : ¬ f.pages.length ≤ pg := by omega
    have hc := program_calls Wk _ pg at_ s (w4.alloc (.cells #[.slice a2 Vk.pages.length c2, .slice a'2 Vk.wear.length c'2, .int .i64 Vk.fuse, .string Vk.torn, .bool Vk.dead] 25)) (hr1.ups (up1 _ _)) fW ha
    rw [hA] at hc
    obtain ⟨kf0, kf1, kf2, kf3, kf4⟩ := block_cells hbf
    obtain ⟨k10, k11, k12, k13, k14⟩ := block_cells hb1
    go_wp2_with fail
    refine hc.mono ?_
    clear hc
    rintro e w5 ⟨v3, rfl, hn⟩
    clear kf0 kf1 kf2 kf3 kf4 k10 k11 k12 k13 k14
    have ub5 : Ups (w4.alloc (.cells #[.slice a2 Vk.pages.length c2, .slice a'2 Vk.wear.length c'2, .int .i64 Vk.fuse, .string Vk.torn, .bool Vk.dead] 25)) w5 := hn.ups
    replace hrf := hrf.ups (Ups.trans (up1 _ _) ub5)
    replace hbf := block_ups hbf (Ups.trans (up1 _ _) ub5)
    have ltf_5 : w.heap.size < w5.heap.size := (Array.getElem?_eq_some_iff.1 hbf).1
    replace hr1 := hr1.ups (Ups.trans (up1 _ _) ub5)
    replace hb1 := block_ups hb1 (Ups.trans (up1 _ _) ub5)
    have lt1_5 : w3.heap.size < w5.heap.size := (Array.getElem?_eq_some_iff.1 hb1).1
    replace hr2 := hr2.ups (Ups.trans (up1 _ _) ub5)
    replace hb2 := block_ups hb2 ub5
    have lt2_5 : w4.heap.size < w5.heap.size := (Array.getElem?_eq_some_iff.1 hb2).1
    replace uw := Ups.trans uw (Ups.trans (up1 _ _) ub5)
    have hr3 := hn.reads
    clear hn
    have hs3 := hr3
    obtain ⟨_, _, rfl, ⟨a3, c3, rfl, _⟩, ⟨a'3, c'3, rfl, _⟩⟩ := hs3
    have hb3 : (w5.alloc (.cells #[.slice a3 A.pages.length c3, .slice a'3 A.wear.length c'3, .int .i64 A.fuse, .string A.torn, .bool A.dead] 25)).heap[w5.heap.size]? = some (.cells #[.slice a3 A.pages.length c3, .slice a'3 A.wear.length c'3, .int .i64 A.fuse, .string A.torn, .bool A.dead] 25) := alloc_at _ _
    have hc := program_calls Vk _ pg at_ s (w5.alloc (.cells #[.slice a3 A.pages.length c3, .slice a'3 A.wear.length c'3, .int .i64 A.fuse, .string A.torn, .bool A.dead] 25)) (hr2.ups (up1 _ _)) fV ha
    rw [hB] at hc
    obtain ⟨k20, k21, k22, k23, k24⟩ := block_cells hb2
    go_wp2_with fail
    refine hc.mono ?_
    clear hc
    rintro e w6 ⟨v4, rfl, hn⟩
    clear k20 k21 k22 k23 k24
    have ub6 : Ups (w5.alloc (.cells #[.slice a3 A.pages.length c3, .slice a'3 A.wear.length c'3, .int .i64 A.fuse, .string A.torn, .bool A.dead] 25)) w6 := hn.ups
    replace hrf := hrf.ups (Ups.trans (up1 _ _) ub6)
    replace hbf := block_ups hbf (Ups.trans (up1 _ _) ub6)
    have ltf_6 : w.heap.size < w6.heap.size := (Array.getElem?_eq_some_iff.1 hbf).1
    replace hr1 := hr1.ups (Ups.trans (up1 _ _) ub6)
    replace hb1 := block_ups hb1 (Ups.trans (up1 _ _) ub6)
    have lt1_6 : w3.heap.size < w6.heap.size := (Array.getElem?_eq_some_iff.1 hb1).1
    replace hr2 := hr2.ups (Ups.trans (up1 _ _) ub6)
    replace hb2 := block_ups hb2 (Ups.trans (up1 _ _) ub6)
    have lt2_6 : w4.heap.size < w6.heap.size := (Array.getElem?_eq_some_iff.1 hb2).1
    replace hr3 := hr3.ups (Ups.trans (up1 _ _) ub6)
    replace hb3 := block_ups hb3 ub6
    have lt3_6 : w5.heap.size < w6.heap.size := (Array.getElem?_eq_some_iff.1 hb3).1
    replace uw := Ups.trans uw (Ups.trans (up1 _ _) ub6)
    have hr4 := hn.reads
    clear hn
    have hs4 := hr4
    obtain ⟨_, _, rfl, ⟨a4, c4, rfl, _⟩, ⟨a'4, c'4, rfl, _⟩⟩ := hs4
    have hb4 : (w6.alloc (.cells #[.slice a4 B.pages.length c4, .slice a'4 B.wear.length c'4, .int .i64 B.fuse, .string B.torn, .bool B.dead] 25)).heap[w6.heap.size]? = some (.cells #[.slice a4 B.pages.length c4, .slice a'4 B.wear.length c'4, .int .i64 B.fuse, .string B.torn, .bool B.dead] 25) := alloc_at _ _
    have hc := erase_calls Wk _ pg (w6.alloc (.cells #[.slice a4 B.pages.length c4, .slice a'4 B.wear.length c'4, .int .i64 B.fuse, .string B.torn, .bool B.dead] 25)) (hr1.ups (up1 _ _)) fW
    rw [hC] at hc
    obtain ⟨k10, k11, k12, k13, k14⟩ := block_cells hb1
    go_wp2_with fail
    refine hc.mono ?_
    clear hc
    rintro e w7 ⟨v5, rfl, hn⟩
    clear k10 k11 k12 k13 k14
    have ub7 : Ups (w6.alloc (.cells #[.slice a4 B.pages.length c4, .slice a'4 B.wear.length c'4, .int .i64 B.fuse, .string B.torn, .bool B.dead] 25)) w7 := hn.ups
    replace hrf := hrf.ups (Ups.trans (up1 _ _) ub7)
    replace hbf := block_ups hbf (Ups.trans (up1 _ _) ub7)
    have ltf_7 : w.heap.size < w7.heap.size := (Array.getElem?_eq_some_iff.1 hbf).1
    replace hr1 := hr1.ups (Ups.trans (up1 _ _) ub7)
    replace hb1 := block_ups hb1 (Ups.trans (up1 _ _) ub7)
    have lt1_7 : w3.heap.size < w7.heap.size := (Array.getElem?_eq_some_iff.1 hb1).1
    replace hr2 := hr2.ups (Ups.trans (up1 _ _) ub7)
    replace hb2 := block_ups hb2 (Ups.trans (up1 _ _) ub7)
    have lt2_7 : w4.heap.size < w7.heap.size := (Array.getElem?_eq_some_iff.1 hb2).1
    replace hr3 := hr3.ups (Ups.trans (up1 _ _) ub7)
    replace hb3 := block_ups hb3 (Ups.trans (up1 _ _) ub7)
    have lt3_7 : w5.heap.size < w7.heap.size := (Array.getElem?_eq_some_iff.1 hb3).1
    replace hr4 := hr4.ups (Ups.trans (up1 _ _) ub7)
    replace hb4 := block_ups hb4 ub7
    have lt4_7 : w6.heap.size < w7.heap.size := (Array.getElem?_eq_some_iff.1 hb4).1
    replace uw := Ups.trans uw (Ups.trans (up1 _ _) ub7)
    have hr5 := hn.reads
    clear hn
    have hs5 := hr5
    obtain ⟨_, _, rfl, ⟨a5, c5, rfl, _⟩, ⟨a'5, c'5, rfl, _⟩⟩ := hs5
    have hb5 : (w7.alloc (.cells #[.slice a5 C.pages.length c5, .slice a'5 C.wear.length c'5, .int .i64 C.fuse, .string C.torn, .bool C.dead] 25)).heap[w7.heap.size]? = some (.cells #[.slice a5 C.pages.length c5, .slice a'5 C.wear.length c'5, .int .i64 C.fuse, .string C.torn, .bool C.dead] 25) := alloc_at _ _
    have hc := erase_calls Vk _ pg (w7.alloc (.cells #[.slice a5 C.pages.length c5, .slice a'5 C.wear.length c'5, .int .i64 C.fuse, .string C.torn, .bool C.dead] 25)) (hr2.ups (up1 _ _)) fV
    rw [hE] at hc
    obtain ⟨k20, k21, k22, k23, k24⟩ := block_cells hb2
    go_wp2_with fail
    refine hc.mono ?_
    clear hc
    rintro e w8 ⟨v6, rfl, hn⟩
    clear k20 k21 k22 k23 k24
    have ub8 : Ups (w7.alloc (.cells #[.slice a5 C.pages.length c5, .slice a'5 C.wear.length c'5, .int .i64 C.fuse, .string C.torn, .bool C.dead] 25)) w8 := hn.ups
    replace hrf := hrf.ups (Ups.trans (up1 _ _) ub8)
    replace hbf := block_ups hbf (Ups.trans (up1 _ _) ub8)
    have ltf_8 : w.heap.size < w8.heap.size := (Array.getElem?_eq_some_iff.1 hbf).1
    replace hr1 := hr1.ups (Ups.trans (up1 _ _) ub8)
    replace hb1 := block_ups hb1 (Ups.trans (up1 _ _) ub8)
    have lt1_8 : w3.heap.size < w8.heap.size := (Array.getElem?_eq_some_iff.1 hb1).1
    replace hr2 := hr2.ups (Ups.trans (up1 _ _) ub8)
    replace hb2 := block_ups hb2 (Ups.trans (up1 _ _) ub8)
    have lt2_8 : w4.heap.size < w8.heap.size := (Array.getElem?_eq_some_iff.1 hb2).1
    replace hr3 := hr3.ups (Ups.trans (up1 _ _) ub8)
    replace hb3 := block_ups hb3 (Ups.trans (up1 _ _) ub8)
    have lt3_8 : w5.heap.size < w8.heap.size := (Array.getElem?_eq_some_iff.1 hb3).1
    replace hr4 := hr4.ups (Ups.trans (up1 _ _) ub8)
    replace hb4 := block_ups hb4 (Ups.trans (up1 _ _) ub8)
    have lt4_8 : w6.heap.size < w8.heap.size := (Array.getElem?_eq_some_iff.1 hb4).1
    replace hr5 := hr5.ups (Ups.trans (up1 _ _) ub8)
    replace hb5 := block_ups hb5 ub8
    have lt5_8 : w7.heap.size < w8.heap.size := (Array.getElem?_eq_some_iff.1 hb5).1
    replace uw := Ups.trans uw (Ups.trans (up1 _ _) ub8)
    have hr6 := hn.reads
    clear hn
    have hs6 := hr6
    obtain ⟨_, _, rfl, ⟨a6, c6, rfl, _⟩, ⟨a'6, c'6, rfl, _⟩⟩ := hs6
    have hb6 : (w8.alloc (.cells #[.slice a6 E.pages.length c6, .slice a'6 E.wear.length c'6, .int .i64 E.fuse, .string E.torn, .bool E.dead] 25)).heap[w8.heap.size]? = some (.cells #[.slice a6 E.pages.length c6, .slice a'6 E.wear.length c'6, .int .i64 E.fuse, .string E.torn, .bool E.dead] 25) := alloc_at _ _
    have hpC : pg < C.pages.length := by rw [T.out.cpages]; exact hpg
    have hwl : pg < f.wear.length := by rw [(check_facts HCK.out).2.2.1]; exact hpg
    have hwE : pg < E.wear.length := by rw [T.out.dwear]; exact hwl
    obtain ⟨bf, of, rfl, cf'⟩ := hrf.page hpg
    obtain ⟨bc, oc, rfl, cc'⟩ := hr5.page hpC
    obtain ⟨bd, od, rfl, cd'⟩ := hr6.page (k := pg) (by rw [T.out.dpages]; exact hpg)
    obtain ⟨bw, ow, rfl, cw'⟩ := hrf.worn hwl
    obtain ⟨be', oe', rfl, ce'⟩ := hr6.worn hwE
    have zin := wear_in HCK.out hpg
    have hwr : IntKind.i64.wrap (f.wear.getD pg 0 + 1) = f.wear.getD pg 0 + 1 := (IntWalk.i64_left _).trans (IntWalk.wrap64_in _ ⟨by omega, by omega⟩)
    have iE : (pg : Int) < E.wear.length := by omega
    have iw : (pg : Int) < f.wear.length := by omega
    have ip : (pg : Int) < f.pages.length := by omega
    have iC : (pg : Int) < C.pages.length := by omega
    have hcp : (C.pages.length : Int) = f.pages.length := by rw [T.out.cpages]
    have hep : (E.pages.length : Int) = f.pages.length := by rw [T.out.dpages]
    have HCP := Lib.hid hcp
    have HEP := Lib.hid hep
    obtain ⟨rfl, rfl⟩ : ce = 8 ∧ ee = 0 := ⟨T.out.dies, T.out.lives⟩
    clear hcp hep
    have hworn := T.out.worn
    generalize f.wear.getD pg 0 = zf at *
    generalize E.wear.getD pg 0 = zE at *
    have HW := Lib.hid hworn
    clear hworn
    go_wp2_with fail
    have mf := fun W (hU : Ups (World.drew (w8.alloc (.cells #[.slice (some ⟨bd, od, none⟩) E.pages.length c6, .slice (some ⟨be', oe', none⟩) E.wear.length c'6, .int .i64 E.fuse, .string E.torn, .bool E.dead] 25))) W) => block_cells (block_ups hbf (Ups.trans (up1 _ _) (drew_ups hU)))
    have m5 := fun W (hU : Ups (World.drew (w8.alloc (.cells #[.slice (some ⟨bd, od, none⟩) E.pages.length c6, .slice (some ⟨be', oe', none⟩) E.wear.length c'6, .int .i64 E.fuse, .string E.torn, .bool E.dead] 25))) W) => block_cells (block_ups hb5 (Ups.trans (up1 _ _) (drew_ups hU)))
    have m6 := fun W (hU : Ups (World.drew (w8.alloc (.cells #[.slice (some ⟨bd, od, none⟩) E.pages.length c6, .slice (some ⟨be', oe', none⟩) E.wear.length c'6, .int .i64 E.fuse, .string E.torn, .bool E.dead] 25))) W) => block_cells (block_ups hb6 (drew_ups hU))
    have ew := fun W (hU : Ups (World.drew (w8.alloc (.cells #[.slice (some ⟨bd, od, none⟩) E.pages.length c6, .slice (some ⟨be', oe', none⟩) E.wear.length c'6, .int .i64 E.fuse, .string E.torn, .bool E.dead] 25))) W) => cell_ups (Ups.trans (up1 _ _) (drew_ups hU)) cw'
    have ee' := fun W (hU : Ups (World.drew (w8.alloc (.cells #[.slice (some ⟨bd, od, none⟩) E.pages.length c6, .slice (some ⟨be', oe', none⟩) E.wear.length c'6, .int .i64 E.fuse, .string E.torn, .bool E.dead] 25))) W) => cell_ups (Ups.trans (up1 _ _) (drew_ups hU)) ce'
    refine wp_region_parts (N := 48) (n := 305) (ks := [isV (.int .i64 8), isV (.bool false), isV (.bool false), isV (.int .i64 0), isV (.bool false), isV (.bool false), isV (.bool false), isV (.pointer (some ⟨w7.heap.size, 4, none⟩)), isV (.bool true), isV (.bool false), isV (.bool false), isV (.bool false), isV (.pointer (some ⟨w8.heap.size, 4, none⟩)), isV (.bool false), isV (.bool false), isV (.bool false), isV (.pointer (some ⟨w7.heap.size, 0, none⟩)), isV (.slice (some ⟨bc, oc, none⟩) C.pages.length c5), isV (.int .i64 C.pages.length), isV (.pointer (some ⟨w.heap.size, 0, none⟩)), isV (.slice (some ⟨bf, of, none⟩) f.pages.length cf), isV (.int .i64 f.pages.length), isV (.bool false), isV (.bool false), isV (.bool false), isV (.pointer (some ⟨w8.heap.size, 0, none⟩)), isV (.slice (some ⟨bd, od, none⟩) E.pages.length c6), isV (.int .i64 E.pages.length), isV (.pointer (some ⟨w.heap.size, 0, none⟩)), isV (.slice (some ⟨bf, of, none⟩) f.pages.length cf), isV (.int .i64 f.pages.length), isV (.bool false), isV (.bool false), isV (.bool false), isV (.pointer (some ⟨w8.heap.size, 1, none⟩)), isV (.slice (some ⟨be', oe', none⟩) E.wear.length c'6), isV (.int .i64 pg), isV (.pointer (some ⟨be', oe' + pg, none⟩)), isV (.int .i64 zE), isV (.pointer (some ⟨w.heap.size, 1, none⟩)), isV (.slice (some ⟨bw, ow, none⟩) f.wear.length c'f), isV (.int .i64 pg), isV (.pointer (some ⟨bw, ow + pg, none⟩)), isV (.int .i64 zf), isV (.int .i64 (zf + 1)), isV (.int .i64 (min (zf + 1) 2147483647)), isV (.bool false), isV (.bool false)]) (by decide +kernel) (by decide +kernel) (by decide +kernel) (by simp) rfl (by decide +kernel) ⟨steady_is _, steady_is _, steady_is _, steady_is _, steady_is _, steady_is _, steady_is _, steady_is _, steady_is _, steady_is _, steady_is _, steady_is _, steady_is _, steady_is _, steady_is _, steady_is _, steady_is _, steady_is _, steady_is _, steady_is _, steady_is _, steady_is _, steady_is _, steady_is _, steady_is _, steady_is _, steady_is _, steady_is _, steady_is _, steady_is _, steady_is _, steady_is _, steady_is _, steady_is _, steady_is _, steady_is _, steady_is _, steady_is _, steady_is _, steady_is _, steady_is _, steady_is _, steady_is _, steady_is _, steady_is _, steady_is _, steady_is _, steady_is _, trivial⟩ ?_ ?_
    · refine And.intro (fun ac W hO hU H => ?_) ?_
      · have h22 : ac.tmps[22]? = some (.int .i64 8) := (hO 22 rfl).trans rfl
        exact growOp_plain rfl (parts_value (by simp [go_sem, h22]))
      refine And.intro (fun ac W hO hU H => ?_) ?_
      · have h104 : ac.tmps[104]? = some (.int .i64 8) := isV_get (W := W) (H 0 104 rfl)
        exact growOp_plain rfl (parts_value (by simp [go_sem, h104]))
      refine And.intro (fun ac W hO hU H => ?_) ?_
      · have h105 : ac.tmps[105]? = some (.bool false) := isV_get (W := W) (H 1 105 rfl)
        exact growOp_plain rfl (parts_value (by simp [go_sem, h105]))
      refine And.intro (fun ac W hO hU H => ?_) ?_
      · have h24 : ac.tmps[24]? = some (.int .i64 0) := (hO 24 rfl).trans rfl
        have hg : ac.tmps[106]? = some (.bool false) := isV_get (W := W) (H 2 106 rfl)
        exact growOp_done rfl rfl hg (parts_value (by simp [go_sem, h24]))
      refine And.intro (fun ac W hO hU H => ?_) ?_
      · have h107 : ac.tmps[107]? = some (.int .i64 0) := isV_get (W := W) (H 3 107 rfl)
        have hg : ac.tmps[106]? = some (.bool false) := isV_get (W := W) (H 2 106 rfl)
        exact growOp_done rfl rfl hg (parts_value (by simp [go_sem, h107]))
      refine And.intro (fun ac W hO hU H => ?_) ?_
      · have h106 : ac.tmps[106]? = some (.bool false) := isV_get (W := W) (H 2 106 rfl)
        have h108 : ac.tmps[108]? = some (.bool false) := isV_get (W := W) (H 4 108 rfl)
        exact growOp_plain rfl (parts_value (by simp [go_sem, h106, h108]))
      refine And.intro (fun ac W hO hU H => ?_) ?_
      · have h109 : ac.tmps[109]? = some (.bool false) := isV_get (W := W) (H 5 109 rfl)
        exact growOp_plain rfl (parts_value (by simp [go_sem, h109]))
      refine And.intro (fun ac W hO hU H => ?_) ?_
      · have h21 : ac.tmps[21]? = some (.pointer (some ⟨w7.heap.size, 0, none⟩)) := (hO 21 rfl).trans rfl
        have hg : ac.tmps[110]? = some (.bool false) := isV_get (W := W) (H 6 110 rfl)
        exact growOp_done rfl rfl hg (parts_value (by simp [go_sem, h21]))
      refine And.intro (fun ac W hO hU H => ?_) ?_
      · have h111 : ac.tmps[111]? = some (.pointer (some ⟨w7.heap.size, 4, none⟩)) := isV_get (W := W) (H 7 111 rfl)
        have hg : ac.tmps[110]? = some (.bool false) := isV_get (W := W) (H 6 110 rfl)
        have f0 := (m5 W hU).2.2.2.2
        exact growOp_done rfl rfl hg (parts_value (by simp [go_sem, h111, f0, T.out.cdead]))
      refine And.intro (fun ac W hO hU H => ?_) ?_
      · have h112 : ac.tmps[112]? = some (.bool true) := isV_get (W := W) (H 8 112 rfl)
        have hg : ac.tmps[110]? = some (.bool false) := isV_get (W := W) (H 6 110 rfl)
        exact growOp_done rfl rfl hg (parts_value (by simp [go_sem, h112]))
      refine And.intro (fun ac W hO hU H => ?_) ?_
      · have h110 : ac.tmps[110]? = some (.bool false) := isV_get (W := W) (H 6 110 rfl)
        have h113 : ac.tmps[113]? = some (.bool false) := isV_get (W := W) (H 9 113 rfl)
        exact growOp_plain rfl (parts_value (by simp [go_sem, h110, h113]))
      refine And.intro (fun ac W hO hU H => ?_) ?_
      · have h114 : ac.tmps[114]? = some (.bool false) := isV_get (W := W) (H 10 114 rfl)
        exact growOp_plain rfl (parts_value (by simp [go_sem, h114]))
      refine And.intro (fun ac W hO hU H => ?_) ?_
      · have h23 : ac.tmps[23]? = some (.pointer (some ⟨w8.heap.size, 0, none⟩)) := (hO 23 rfl).trans rfl
        have hg : ac.tmps[115]? = some (.bool false) := isV_get (W := W) (H 11 115 rfl)
        exact growOp_done rfl rfl hg (parts_value (by simp [go_sem, h23]))
      refine And.intro (fun ac W hO hU H => ?_) ?_
      · have h116 : ac.tmps[116]? = some (.pointer (some ⟨w8.heap.size, 4, none⟩)) := isV_get (W := W) (H 12 116 rfl)
        have hg : ac.tmps[115]? = some (.bool false) := isV_get (W := W) (H 11 115 rfl)
        have f0 := (m6 W hU).2.2.2.2
        exact growOp_done rfl rfl hg (parts_value (by simp [go_sem, h116, f0, T.out.ddead]))
      refine And.intro (fun ac W hO hU H => ?_) ?_
      · have h115 : ac.tmps[115]? = some (.bool false) := isV_get (W := W) (H 11 115 rfl)
        have h117 : ac.tmps[117]? = some (.bool false) := isV_get (W := W) (H 13 117 rfl)
        exact growOp_plain rfl (parts_value (by simp [go_sem, h115, h117]))
      refine And.intro (fun ac W hO hU H => ?_) ?_
      · have h118 : ac.tmps[118]? = some (.bool false) := isV_get (W := W) (H 14 118 rfl)
        exact growOp_plain rfl (parts_value (by simp [go_sem, h118]))
      refine And.intro (fun ac W hO hU H => ?_) ?_
      · have h21 : ac.tmps[21]? = some (.pointer (some ⟨w7.heap.size, 0, none⟩)) := (hO 21 rfl).trans rfl
        have hg : ac.tmps[119]? = some (.bool false) := isV_get (W := W) (H 15 119 rfl)
        exact growOp_done rfl rfl hg (parts_value (by simp [go_sem, h21]))
      refine And.intro (fun ac W hO hU H => ?_) ?_
      · have h120 : ac.tmps[120]? = some (.pointer (some ⟨w7.heap.size, 0, none⟩)) := isV_get (W := W) (H 16 120 rfl)
        have hg : ac.tmps[119]? = some (.bool false) := isV_get (W := W) (H 15 119 rfl)
        have f0 := (m5 W hU).1
        exact growOp_done rfl rfl hg (parts_value (by simp [go_sem, h120, f0]))
      refine And.intro (fun ac W hO hU H => ?_) ?_
      · have h121 : ac.tmps[121]? = some (.slice (some ⟨bc, oc, none⟩) C.pages.length c5) := isV_get (W := W) (H 17 121 rfl)
        have hg : ac.tmps[119]? = some (.bool false) := isV_get (W := W) (H 15 119 rfl)
        exact growOp_done rfl rfl hg (parts_value (by simp [go_sem, h121]))
      refine And.intro (fun ac W hO hU H => ?_) ?_
      · have h5 : ac.tmps[5]? = some (.pointer (some ⟨w.heap.size, 0, none⟩)) := (hO 5 rfl).trans rfl
        have hg : ac.tmps[119]? = some (.bool false) := isV_get (W := W) (H 15 119 rfl)
        exact growOp_done rfl rfl hg (parts_value (by simp [go_sem, h5]))
      refine And.intro (fun ac W hO hU H => ?_) ?_
      · have h123 : ac.tmps[123]? = some (.pointer (some ⟨w.heap.size, 0, none⟩)) := isV_get (W := W) (H 19 123 rfl)
        have hg : ac.tmps[119]? = some (.bool false) := isV_get (W := W) (H 15 119 rfl)
        have f0 := (mf W hU).1
        exact growOp_done rfl rfl hg (parts_value (by simp [go_sem, h123, f0]))
      refine And.intro (fun ac W hO hU H => ?_) ?_
      · have h124 : ac.tmps[124]? = some (.slice (some ⟨bf, of, none⟩) f.pages.length cf) := isV_get (W := W) (H 20 124 rfl)
        have hg : ac.tmps[119]? = some (.bool false) := isV_get (W := W) (H 15 119 rfl)
        exact growOp_done rfl rfl hg (parts_value (by simp [go_sem, h124]))
      refine And.intro (fun ac W hO hU H => ?_) ?_
      · have h122 : ac.tmps[122]? = some (.int .i64 C.pages.length) := isV_get (W := W) (H 18 122 rfl)
        have h125 : ac.tmps[125]? = some (.int .i64 f.pages.length) := isV_get (W := W) (H 21 125 rfl)
        have hg : ac.tmps[119]? = some (.bool false) := isV_get (W := W) (H 15 119 rfl)
        exact growOp_done rfl rfl hg (parts_value (by simp [go_sem, h122, h125, HCP.out]))
      refine And.intro (fun ac W hO hU H => ?_) ?_
      · have h119 : ac.tmps[119]? = some (.bool false) := isV_get (W := W) (H 15 119 rfl)
        have h126 : ac.tmps[126]? = some (.bool false) := isV_get (W := W) (H 22 126 rfl)
        exact growOp_plain rfl (parts_value (by simp [go_sem, h119, h126]))
      refine And.intro (fun ac W hO hU H => ?_) ?_
      · have h127 : ac.tmps[127]? = some (.bool false) := isV_get (W := W) (H 23 127 rfl)
        exact growOp_plain rfl (parts_value (by simp [go_sem, h127]))
      refine And.intro (fun ac W hO hU H => ?_) ?_
      · have h23 : ac.tmps[23]? = some (.pointer (some ⟨w8.heap.size, 0, none⟩)) := (hO 23 rfl).trans rfl
        have hg : ac.tmps[128]? = some (.bool false) := isV_get (W := W) (H 24 128 rfl)
        exact growOp_done rfl rfl hg (parts_value (by simp [go_sem, h23]))
      refine And.intro (fun ac W hO hU H => ?_) ?_
      · have h129 : ac.tmps[129]? = some (.pointer (some ⟨w8.heap.size, 0, none⟩)) := isV_get (W := W) (H 25 129 rfl)
        have hg : ac.tmps[128]? = some (.bool false) := isV_get (W := W) (H 24 128 rfl)
        have f0 := (m6 W hU).1
        exact growOp_done rfl rfl hg (parts_value (by simp [go_sem, h129, f0]))
      refine And.intro (fun ac W hO hU H => ?_) ?_
      · have h130 : ac.tmps[130]? = some (.slice (some ⟨bd, od, none⟩) E.pages.length c6) := isV_get (W := W) (H 26 130 rfl)
        have hg : ac.tmps[128]? = some (.bool false) := isV_get (W := W) (H 24 128 rfl)
        exact growOp_done rfl rfl hg (parts_value (by simp [go_sem, h130]))
      refine And.intro (fun ac W hO hU H => ?_) ?_
      · have h5 : ac.tmps[5]? = some (.pointer (some ⟨w.heap.size, 0, none⟩)) := (hO 5 rfl).trans rfl
        have hg : ac.tmps[128]? = some (.bool false) := isV_get (W := W) (H 24 128 rfl)
        exact growOp_done rfl rfl hg (parts_value (by simp [go_sem, h5]))
      refine And.intro (fun ac W hO hU H => ?_) ?_
      · have h132 : ac.tmps[132]? = some (.pointer (some ⟨w.heap.size, 0, none⟩)) := isV_get (W := W) (H 28 132 rfl)
        have hg : ac.tmps[128]? = some (.bool false) := isV_get (W := W) (H 24 128 rfl)
        have f0 := (mf W hU).1
        exact growOp_done rfl rfl hg (parts_value (by simp [go_sem, h132, f0]))
      refine And.intro (fun ac W hO hU H => ?_) ?_
      · have h133 : ac.tmps[133]? = some (.slice (some ⟨bf, of, none⟩) f.pages.length cf) := isV_get (W := W) (H 29 133 rfl)
        have hg : ac.tmps[128]? = some (.bool false) := isV_get (W := W) (H 24 128 rfl)
        exact growOp_done rfl rfl hg (parts_value (by simp [go_sem, h133]))
      refine And.intro (fun ac W hO hU H => ?_) ?_
      · have h131 : ac.tmps[131]? = some (.int .i64 E.pages.length) := isV_get (W := W) (H 27 131 rfl)
        have h134 : ac.tmps[134]? = some (.int .i64 f.pages.length) := isV_get (W := W) (H 30 134 rfl)
        have hg : ac.tmps[128]? = some (.bool false) := isV_get (W := W) (H 24 128 rfl)
        exact growOp_done rfl rfl hg (parts_value (by simp [go_sem, h131, h134, HEP.out]))
      refine And.intro (fun ac W hO hU H => ?_) ?_
      · have h128 : ac.tmps[128]? = some (.bool false) := isV_get (W := W) (H 24 128 rfl)
        have h135 : ac.tmps[135]? = some (.bool false) := isV_get (W := W) (H 31 135 rfl)
        exact growOp_plain rfl (parts_value (by simp [go_sem, h128, h135]))
      refine And.intro (fun ac W hO hU H => ?_) ?_
      · have h136 : ac.tmps[136]? = some (.bool false) := isV_get (W := W) (H 32 136 rfl)
        exact growOp_plain rfl (parts_value (by simp [go_sem, h136]))
      refine And.intro (fun ac W hO hU H => ?_) ?_
      · have h23 : ac.tmps[23]? = some (.pointer (some ⟨w8.heap.size, 0, none⟩)) := (hO 23 rfl).trans rfl
        have hg : ac.tmps[137]? = some (.bool false) := isV_get (W := W) (H 33 137 rfl)
        exact growOp_done rfl rfl hg (parts_value (by simp [go_sem, h23]))
      refine And.intro (fun ac W hO hU H => ?_) ?_
      · have h138 : ac.tmps[138]? = some (.pointer (some ⟨w8.heap.size, 1, none⟩)) := isV_get (W := W) (H 34 138 rfl)
        have hg : ac.tmps[137]? = some (.bool false) := isV_get (W := W) (H 33 137 rfl)
        have f0 := (m6 W hU).2.1
        exact growOp_done rfl rfl hg (parts_value (by simp [go_sem, h138, f0]))
      refine And.intro (fun ac W hO hU H => ?_) ?_
      · have h1 : ac.tmps[1]? = some (.int .i64 pg) := (hO 1 rfl).trans rfl
        have hg : ac.tmps[137]? = some (.bool false) := isV_get (W := W) (H 33 137 rfl)
        exact growOp_done rfl rfl hg (parts_value (by simp [go_sem, h1]))
      refine And.intro (fun ac W hO hU H => ?_) ?_
      · have h139 : ac.tmps[139]? = some (.slice (some ⟨be', oe', none⟩) E.wear.length c'6) := isV_get (W := W) (H 35 139 rfl)
        have h140 : ac.tmps[140]? = some (.int .i64 pg) := isV_get (W := W) (H 36 140 rfl)
        have hg : ac.tmps[137]? = some (.bool false) := isV_get (W := W) (H 33 137 rfl)
        exact growOp_done rfl rfl hg (parts_value (by simp [go_sem, h139, h140, iE]))
      refine And.intro (fun ac W hO hU H => ?_) ?_
      · have h141 : ac.tmps[141]? = some (.pointer (some ⟨be', oe' + pg, none⟩)) := isV_get (W := W) (H 37 141 rfl)
        have hg : ac.tmps[137]? = some (.bool false) := isV_get (W := W) (H 33 137 rfl)
        have f0 := ee' W hU
        exact growOp_done rfl rfl hg (parts_value (by simp [go_sem, h141, f0]))
      refine And.intro (fun ac W hO hU H => ?_) ?_
      · have h5 : ac.tmps[5]? = some (.pointer (some ⟨w.heap.size, 0, none⟩)) := (hO 5 rfl).trans rfl
        have hg : ac.tmps[137]? = some (.bool false) := isV_get (W := W) (H 33 137 rfl)
        exact growOp_done rfl rfl hg (parts_value (by simp [go_sem, h5]))
      refine And.intro (fun ac W hO hU H => ?_) ?_
      · have h143 : ac.tmps[143]? = some (.pointer (some ⟨w.heap.size, 1, none⟩)) := isV_get (W := W) (H 39 143 rfl)
        have hg : ac.tmps[137]? = some (.bool false) := isV_get (W := W) (H 33 137 rfl)
        have f0 := (mf W hU).2.1
        exact growOp_done rfl rfl hg (parts_value (by simp [go_sem, h143, f0]))
      refine And.intro (fun ac W hO hU H => ?_) ?_
      · have h1 : ac.tmps[1]? = some (.int .i64 pg) := (hO 1 rfl).trans rfl
        have hg : ac.tmps[137]? = some (.bool false) := isV_get (W := W) (H 33 137 rfl)
        exact growOp_done rfl rfl hg (parts_value (by simp [go_sem, h1]))
      refine And.intro (fun ac W hO hU H => ?_) ?_
      · have h144 : ac.tmps[144]? = some (.slice (some ⟨bw, ow, none⟩) f.wear.length c'f) := isV_get (W := W) (H 40 144 rfl)
        have h145 : ac.tmps[145]? = some (.int .i64 pg) := isV_get (W := W) (H 41 145 rfl)
        have hg : ac.tmps[137]? = some (.bool false) := isV_get (W := W) (H 33 137 rfl)
        exact growOp_done rfl rfl hg (parts_value (by simp [go_sem, h144, h145, iw]))
      refine And.intro (fun ac W hO hU H => ?_) ?_
      · have h146 : ac.tmps[146]? = some (.pointer (some ⟨bw, ow + pg, none⟩)) := isV_get (W := W) (H 42 146 rfl)
        have hg : ac.tmps[137]? = some (.bool false) := isV_get (W := W) (H 33 137 rfl)
        have f0 := ew W hU
        exact growOp_done rfl rfl hg (parts_value (by simp [go_sem, h146, f0]))
      refine And.intro (fun ac W hO hU H => ?_) ?_
      · have h147 : ac.tmps[147]? = some (.int .i64 zf) := isV_get (W := W) (H 43 147 rfl)
        have hg : ac.tmps[137]? = some (.bool false) := isV_get (W := W) (H 33 137 rfl)
        exact growOp_done rfl rfl hg (parts_value (by simp [go_sem, h147, hwr]))
      refine And.intro (fun ac W hO hU H => ?_) ?_
      · have h148 : ac.tmps[148]? = some (.int .i64 (zf + 1)) := isV_get (W := W) (H 44 148 rfl)
        have hg : ac.tmps[137]? = some (.bool false) := isV_get (W := W) (H 33 137 rfl)
        exact growOp_done rfl rfl hg (parts_value (by simp [go_sem, h148]))
      refine And.intro (fun ac W hO hU H => ?_) ?_
      · have h142 : ac.tmps[142]? = some (.int .i64 zE) := isV_get (W := W) (H 38 142 rfl)
        have h149 : ac.tmps[149]? = some (.int .i64 (min (zf + 1) 2147483647)) := isV_get (W := W) (H 45 149 rfl)
        have hg : ac.tmps[137]? = some (.bool false) := isV_get (W := W) (H 33 137 rfl)
        exact growOp_done rfl rfl hg (parts_value (by simp [go_sem, h142, h149, HW.out]))
      refine And.intro (fun ac W hO hU H => ?_) ?_
      · have h137 : ac.tmps[137]? = some (.bool false) := isV_get (W := W) (H 33 137 rfl)
        have h150 : ac.tmps[150]? = some (.bool false) := isV_get (W := W) (H 46 150 rfl)
        exact growOp_plain rfl (parts_value (by simp [go_sem, h137, h150]))
      exact trivial
    · intro w9 xs hU hks
      obtain ⟨y0, rfl, g0⟩ := holdAll_is hks
      obtain ⟨y1, rfl, g1⟩ := holdAll_is g0
      obtain ⟨y2, rfl, g2⟩ := holdAll_is g1
      obtain ⟨y3, rfl, g3⟩ := holdAll_is g2
      obtain ⟨y4, rfl, g4⟩ := holdAll_is g3
      obtain ⟨y5, rfl, g5⟩ := holdAll_is g4
      obtain ⟨y6, rfl, g6⟩ := holdAll_is g5
      obtain ⟨y7, rfl, g7⟩ := holdAll_is g6
      obtain ⟨y8, rfl, g8⟩ := holdAll_is g7
      obtain ⟨y9, rfl, g9⟩ := holdAll_is g8
      obtain ⟨y10, rfl, g10⟩ := holdAll_is g9
      obtain ⟨y11, rfl, g11⟩ := holdAll_is g10
      obtain ⟨y12, rfl, g12⟩ := holdAll_is g11
      obtain ⟨y13, rfl, g13⟩ := holdAll_is g12
      obtain ⟨y14, rfl, g14⟩ := holdAll_is g13
      obtain ⟨y15, rfl, g15⟩ := holdAll_is g14
      obtain ⟨y16, rfl, g16⟩ := holdAll_is g15
      obtain ⟨y17, rfl, g17⟩ := holdAll_is g16
      obtain ⟨y18, rfl, g18⟩ := holdAll_is g17
      obtain ⟨y19, rfl, g19⟩ := holdAll_is g18
      obtain ⟨y20, rfl, g20⟩ := holdAll_is g19
      obtain ⟨y21, rfl, g21⟩ := holdAll_is g20
      obtain ⟨y22, rfl, g22⟩ := holdAll_is g21
      obtain ⟨y23, rfl, g23⟩ := holdAll_is g22
      obtain ⟨y24, rfl, g24⟩ := holdAll_is g23
      obtain ⟨y25, rfl, g25⟩ := holdAll_is g24
      obtain ⟨y26, rfl, g26⟩ := holdAll_is g25
      obtain ⟨y27, rfl, g27⟩ := holdAll_is g26
      obtain ⟨y28, rfl, g28⟩ := holdAll_is g27
      obtain ⟨y29, rfl, g29⟩ := holdAll_is g28
      obtain ⟨y30, rfl, g30⟩ := holdAll_is g29
      obtain ⟨y31, rfl, g31⟩ := holdAll_is g30
      obtain ⟨y32, rfl, g32⟩ := holdAll_is g31
      obtain ⟨y33, rfl, g33⟩ := holdAll_is g32
      obtain ⟨y34, rfl, g34⟩ := holdAll_is g33
      obtain ⟨y35, rfl, g35⟩ := holdAll_is g34
      obtain ⟨y36, rfl, g36⟩ := holdAll_is g35
      obtain ⟨y37, rfl, g37⟩ := holdAll_is g36
      obtain ⟨y38, rfl, g38⟩ := holdAll_is g37
      obtain ⟨y39, rfl, g39⟩ := holdAll_is g38
      obtain ⟨y40, rfl, g40⟩ := holdAll_is g39
      obtain ⟨y41, rfl, g41⟩ := holdAll_is g40
      obtain ⟨y42, rfl, g42⟩ := holdAll_is g41
      obtain ⟨y43, rfl, g43⟩ := holdAll_is g42
      obtain ⟨y44, rfl, g44⟩ := holdAll_is g43
      obtain ⟨y45, rfl, g45⟩ := holdAll_is g44
      obtain ⟨y46, rfl, g46⟩ := holdAll_is g45
      obtain ⟨y47, rfl, g47⟩ := holdAll_is g46
      obtain rfl := holdAll_nil g47
      clear hks g0 g1 g2 g3 g4 g5 g6 g7 g8 g9 g10 g11 g12 g13 g14 g15 g16 g17 g18 g19 g20 g21 g22 g23 g24 g25 g26 g27 g28 g29 g30 g31 g32 g33 g34 g35 g36 g37 g38 g39 g40 g41 g42 g43 g44 g45 g46 g47
      simp only [List.take_succ_cons, List.take_zero, List.drop_succ_cons, List.drop_zero, endTmps, List.setIfInBounds_toArray, List.set]
      have ub9 : Ups (w8.alloc (.cells #[.slice (some ⟨bd, od, none⟩) E.pages.length c6, .slice (some ⟨be', oe', none⟩) E.wear.length c'6, .int .i64 E.fuse, .string E.torn, .bool E.dead] 25)) w9 := drew_ups hU
      replace hrf := hrf.ups (Ups.trans (up1 _ _) ub9)
      replace hbf := block_ups hbf (Ups.trans (up1 _ _) ub9)
      have ltf_9 : w.heap.size < w9.heap.size := (Array.getElem?_eq_some_iff.1 hbf).1
      replace hr1 := hr1.ups (Ups.trans (up1 _ _) ub9)
      replace hb1 := block_ups hb1 (Ups.trans (up1 _ _) ub9)
      have lt1_9 : w3.heap.size < w9.heap.size := (Array.getElem?_eq_some_iff.1 hb1).1
      replace hr2 := hr2.ups (Ups.trans (up1 _ _) ub9)
      replace hb2 := block_ups hb2 (Ups.trans (up1 _ _) ub9)
      have lt2_9 : w4.heap.size < w9.heap.size := (Array.getElem?_eq_some_iff.1 hb2).1
      replace hr3 := hr3.ups (Ups.trans (up1 _ _) ub9)
      replace hb3 := block_ups hb3 (Ups.trans (up1 _ _) ub9)
      have lt3_9 : w5.heap.size < w9.heap.size := (Array.getElem?_eq_some_iff.1 hb3).1
      replace hr4 := hr4.ups (Ups.trans (up1 _ _) ub9)
      replace hb4 := block_ups hb4 (Ups.trans (up1 _ _) ub9)
      have lt4_9 : w6.heap.size < w9.heap.size := (Array.getElem?_eq_some_iff.1 hb4).1
      replace hr5 := hr5.ups (Ups.trans (up1 _ _) ub9)
      replace hb5 := block_ups hb5 (Ups.trans (up1 _ _) ub9)
      have lt5_9 : w7.heap.size < w9.heap.size := (Array.getElem?_eq_some_iff.1 hb5).1
      replace hr6 := hr6.ups (Ups.trans (up1 _ _) ub9)
      replace hb6 := block_ups hb6 ub9
      have lt6_9 : w8.heap.size < w9.heap.size := (Array.getElem?_eq_some_iff.1 hb6).1
      replace uw := Ups.trans uw (Ups.trans (up1 _ _) ub9)
      clear hU
      clear mf m5 m6 ew ee'
      obtain ⟨kf0, kf1, kf2, kf3, kf4⟩ := block_cells hbf
      have cf2 := cell_ups (Ups.trans (up1 _ _) ub9) cf'
      have cc2 := cell_ups (Ups.trans (up1 _ _) ub9) cc'
      clear cf' cc' cw' ce' cd'
      have hover := T.out.over
      have sx := old_size HCK.out hpg
      have sy := T.out.csize
      generalize hx : oldT f pg = x at *
      generalize hy : oldT C pg = y at *
      have HO := Lib.hid hover
      have HX := Lib.hid hx
      have HY := Lib.hid hy
      have sx' : x.size ≤ 140737488355328 := by omega
      have sy' : y.size ≤ 140737488355328 := by omega
      clear hover hx hy sx sy
      go_wp2_with fail
      have mf := fun W (hU : Ups (World.drew w9) W) => block_cells (block_ups hbf (drew_ups hU))
      have m5 := fun W (hU : Ups (World.drew w9) W) => block_cells (block_ups hb5 (drew_ups hU))
      have m6 := fun W (hU : Ups (World.drew w9) W) => block_cells (block_ups hb6 (drew_ups hU))
      have ey := fun W (hU : Ups (World.drew w9) W) => cell_ups (drew_ups hU) cc2
      have hints := fun W (hU : Ups (World.drew w9) W) => rints_calls (hr5.ups (drew_ups hU)).wears (hrf.ups (drew_ups hU)).wears (by have := n12.out; rw [T.out.cwear]; omega)
      have hfree := fun W (hU : Ups (World.drew w9) W) => free_calls E _ pg W (hr6.ups (drew_ups hU)) fE
      rw [show decide (C.wear = f.wear) = true from decide_eq_true T.out.cwear] at hints
      rw [T.out.free] at hfree
      refine wp_region_parts (N := 27) (n := 305) (ks := [isV (.string x), isV (.pointer (some ⟨w7.heap.size, 0, none⟩)), isV (.slice (some ⟨bc, oc, none⟩) C.pages.length c5), isV (.int .i64 pg), isV (.pointer (some ⟨bc, oc + pg, none⟩)), isV (.string y), isV (.string (orT x y)), isV (.pointer (some ⟨w7.heap.size, 0, none⟩)), isV (.slice (some ⟨bc, oc, none⟩) C.pages.length c5), isV (.int .i64 pg), isV (.pointer (some ⟨bc, oc + pg, none⟩)), isV (.string y), isV (.bool false), isV (.bool false), isV (.pointer (some ⟨w7.heap.size, 1, none⟩)), isV (.slice a'5 C.wear.length c'5), isV (.pointer (some ⟨w.heap.size, 1, none⟩)), isV (.slice (some ⟨bw, ow, none⟩) f.wear.length c'f), isV (.bool true), isV (.bool false), isV (.bool false), isV (.bool false), isV (.agg #[.slice (some ⟨bd, od, none⟩) E.pages.length c6, .slice (some ⟨be', oe', none⟩) E.wear.length c'6, .int .i64 E.fuse, .string E.torn, .bool E.dead]), isV (.int .i64 pg), isV (.bool true), isV (.bool false), isV (.bool false)]) (by decide +kernel) (by decide +kernel) (by decide +kernel) (by simp) rfl (by decide +kernel) ⟨steady_is _, steady_is _, steady_is _, steady_is _, steady_is _, steady_is _, steady_is _, steady_is _, steady_is _, steady_is _, steady_is _, steady_is _, steady_is _, steady_is _, steady_is _, steady_is _, steady_is _, steady_is _, steady_is _, steady_is _, steady_is _, steady_is _, steady_is _, steady_is _, steady_is _, steady_is _, steady_is _, trivial⟩ ?_ ?_
      · refine And.intro (fun ac W hO hU H => ?_) ?_
        · have h25 : ac.tmps[25]? = some (.string x) := (hO 25 rfl).trans rfl
          exact growOp_plain rfl (parts_value (by simp [go_sem, h25]))
        refine And.intro (fun ac W hO hU H => ?_) ?_
        · have h21 : ac.tmps[21]? = some (.pointer (some ⟨w7.heap.size, 0, none⟩)) := (hO 21 rfl).trans rfl
          exact growOp_plain rfl (parts_value (by simp [go_sem, h21]))
        refine And.intro (fun ac W hO hU H => ?_) ?_
        · have h158 : ac.tmps[158]? = some (.pointer (some ⟨w7.heap.size, 0, none⟩)) := isV_get (W := W) (H 1 158 rfl)
          have f0 := (m5 W hU).1
          exact growOp_plain rfl (parts_value (by simp [go_sem, h158, f0]))
        refine And.intro (fun ac W hO hU H => ?_) ?_
        · have h1 : ac.tmps[1]? = some (.int .i64 pg) := (hO 1 rfl).trans rfl
          exact growOp_plain rfl (parts_value (by simp [go_sem, h1]))
        refine And.intro (fun ac W hO hU H => ?_) ?_
        · have h159 : ac.tmps[159]? = some (.slice (some ⟨bc, oc, none⟩) C.pages.length c5) := isV_get (W := W) (H 2 159 rfl)
          have h160 : ac.tmps[160]? = some (.int .i64 pg) := isV_get (W := W) (H 3 160 rfl)
          exact growOp_plain rfl (parts_value (by simp [go_sem, h159, h160, iC]))
        refine And.intro (fun ac W hO hU H => ?_) ?_
        · have h161 : ac.tmps[161]? = some (.pointer (some ⟨bc, oc + pg, none⟩)) := isV_get (W := W) (H 4 161 rfl)
          have f0 := ey W hU
          exact growOp_plain rfl (parts_value (by simp [go_sem, h161, f0]))
        refine And.intro (fun ac W hO hU H => ?_) ?_
        · have h157 : ac.tmps[157]? = some (.string x) := isV_get (W := W) (H 0 157 rfl)
          have h162 : ac.tmps[162]? = some (.string y) := isV_get (W := W) (H 5 162 rfl)
          exact growOp_plain rfl (parts_call_is (args := #[.string x, .string y]) (by simp [go_sem, h157, h162]) (oor_t x y W sx' sy'))
        refine And.intro (fun ac W hO hU H => ?_) ?_
        · have h21 : ac.tmps[21]? = some (.pointer (some ⟨w7.heap.size, 0, none⟩)) := (hO 21 rfl).trans rfl
          exact growOp_plain rfl (parts_value (by simp [go_sem, h21]))
        refine And.intro (fun ac W hO hU H => ?_) ?_
        · have h164 : ac.tmps[164]? = some (.pointer (some ⟨w7.heap.size, 0, none⟩)) := isV_get (W := W) (H 7 164 rfl)
          have f0 := (m5 W hU).1
          exact growOp_plain rfl (parts_value (by simp [go_sem, h164, f0]))
        refine And.intro (fun ac W hO hU H => ?_) ?_
        · have h1 : ac.tmps[1]? = some (.int .i64 pg) := (hO 1 rfl).trans rfl
          exact growOp_plain rfl (parts_value (by simp [go_sem, h1]))
        refine And.intro (fun ac W hO hU H => ?_) ?_
        · have h165 : ac.tmps[165]? = some (.slice (some ⟨bc, oc, none⟩) C.pages.length c5) := isV_get (W := W) (H 8 165 rfl)
          have h166 : ac.tmps[166]? = some (.int .i64 pg) := isV_get (W := W) (H 9 166 rfl)
          exact growOp_plain rfl (parts_value (by simp [go_sem, h165, h166, iC]))
        refine And.intro (fun ac W hO hU H => ?_) ?_
        · have h167 : ac.tmps[167]? = some (.pointer (some ⟨bc, oc + pg, none⟩)) := isV_get (W := W) (H 10 167 rfl)
          have f0 := ey W hU
          exact growOp_plain rfl (parts_value (by simp [go_sem, h167, f0]))
        refine And.intro (fun ac W hO hU H => ?_) ?_
        · have h163 : ac.tmps[163]? = some (.string (orT x y)) := isV_get (W := W) (H 6 163 rfl)
          have h168 : ac.tmps[168]? = some (.string y) := isV_get (W := W) (H 11 168 rfl)
          exact growOp_plain rfl (parts_value (by simp [go_sem, h163, h168, HO.out]))
        refine And.intro (fun ac W hO hU H => ?_) ?_
        · have h169 : ac.tmps[169]? = some (.bool false) := isV_get (W := W) (H 12 169 rfl)
          exact growOp_plain rfl (parts_value (by simp [go_sem, h169]))
        refine And.intro (fun ac W hO hU H => ?_) ?_
        · have h21 : ac.tmps[21]? = some (.pointer (some ⟨w7.heap.size, 0, none⟩)) := (hO 21 rfl).trans rfl
          have hg : ac.tmps[170]? = some (.bool false) := isV_get (W := W) (H 13 170 rfl)
          exact growOp_done rfl rfl hg (parts_value (by simp [go_sem, h21]))
        refine And.intro (fun ac W hO hU H => ?_) ?_
        · have h171 : ac.tmps[171]? = some (.pointer (some ⟨w7.heap.size, 1, none⟩)) := isV_get (W := W) (H 14 171 rfl)
          have hg : ac.tmps[170]? = some (.bool false) := isV_get (W := W) (H 13 170 rfl)
          have f0 := (m5 W hU).2.1
          exact growOp_done rfl rfl hg (parts_value (by simp [go_sem, h171, f0]))
        refine And.intro (fun ac W hO hU H => ?_) ?_
        · have h5 : ac.tmps[5]? = some (.pointer (some ⟨w.heap.size, 0, none⟩)) := (hO 5 rfl).trans rfl
          have hg : ac.tmps[170]? = some (.bool false) := isV_get (W := W) (H 13 170 rfl)
          exact growOp_done rfl rfl hg (parts_value (by simp [go_sem, h5]))
        refine And.intro (fun ac W hO hU H => ?_) ?_
        · have h173 : ac.tmps[173]? = some (.pointer (some ⟨w.heap.size, 1, none⟩)) := isV_get (W := W) (H 16 173 rfl)
          have hg : ac.tmps[170]? = some (.bool false) := isV_get (W := W) (H 13 170 rfl)
          have f0 := (mf W hU).2.1
          exact growOp_done rfl rfl hg (parts_value (by simp [go_sem, h173, f0]))
        refine And.intro (fun ac W hO hU H => ?_) ?_
        · have h172 : ac.tmps[172]? = some (.slice a'5 C.wear.length c'5) := isV_get (W := W) (H 15 172 rfl)
          have h174 : ac.tmps[174]? = some (.slice (some ⟨bw, ow, none⟩) f.wear.length c'f) := isV_get (W := W) (H 17 174 rfl)
          have hg : ac.tmps[170]? = some (.bool false) := isV_get (W := W) (H 13 170 rfl)
          exact growOp_done rfl rfl hg (parts_call_is (args := #[.slice a'5 C.wear.length c'5, .slice (some ⟨bw, ow, none⟩) f.wear.length c'f]) (by simp [go_sem, h172, h174]) (hints W hU))
        refine And.intro (fun ac W hO hU H => ?_) ?_
        · have h175 : ac.tmps[175]? = some (.bool true) := isV_get (W := W) (H 18 175 rfl)
          have hg : ac.tmps[170]? = some (.bool false) := isV_get (W := W) (H 13 170 rfl)
          exact growOp_done rfl rfl hg (parts_value (by simp [go_sem, h175]))
        refine And.intro (fun ac W hO hU H => ?_) ?_
        · have h170 : ac.tmps[170]? = some (.bool false) := isV_get (W := W) (H 13 170 rfl)
          have h176 : ac.tmps[176]? = some (.bool false) := isV_get (W := W) (H 19 176 rfl)
          exact growOp_plain rfl (parts_value (by simp [go_sem, h170, h176]))
        refine And.intro (fun ac W hO hU H => ?_) ?_
        · have h177 : ac.tmps[177]? = some (.bool false) := isV_get (W := W) (H 20 177 rfl)
          exact growOp_plain rfl (parts_value (by simp [go_sem, h177]))
        refine And.intro (fun ac W hO hU H => ?_) ?_
        · have h23 : ac.tmps[23]? = some (.pointer (some ⟨w8.heap.size, 0, none⟩)) := (hO 23 rfl).trans rfl
          have hg : ac.tmps[178]? = some (.bool false) := isV_get (W := W) (H 21 178 rfl)
          obtain ⟨k0, k1, k2, k3, k4⟩ := m6 W hU
          exact growOp_done rfl rfl hg (parts_value (by simp [go_sem, h23, k0, k1, k2, k3, k4]))
        refine And.intro (fun ac W hO hU H => ?_) ?_
        · have h1 : ac.tmps[1]? = some (.int .i64 pg) := (hO 1 rfl).trans rfl
          have hg : ac.tmps[178]? = some (.bool false) := isV_get (W := W) (H 21 178 rfl)
          exact growOp_done rfl rfl hg (parts_value (by simp [go_sem, h1]))
        refine And.intro (fun ac W hO hU H => ?_) ?_
        · have h179 : ac.tmps[179]? = some (.agg #[.slice (some ⟨bd, od, none⟩) E.pages.length c6, .slice (some ⟨be', oe', none⟩) E.wear.length c'6, .int .i64 E.fuse, .string E.torn, .bool E.dead]) := isV_get (W := W) (H 22 179 rfl)
          have h180 : ac.tmps[180]? = some (.int .i64 pg) := isV_get (W := W) (H 23 180 rfl)
          have hg : ac.tmps[178]? = some (.bool false) := isV_get (W := W) (H 21 178 rfl)
          exact growOp_done rfl rfl hg (parts_call_is (args := #[.agg #[.slice (some ⟨bd, od, none⟩) E.pages.length c6, .slice (some ⟨be', oe', none⟩) E.wear.length c'6, .int .i64 E.fuse, .string E.torn, .bool E.dead], .int .i64 pg]) (by simp [go_sem, h179, h180]) (hfree W hU))
        refine And.intro (fun ac W hO hU H => ?_) ?_
        · have h181 : ac.tmps[181]? = some (.bool true) := isV_get (W := W) (H 24 181 rfl)
          have hg : ac.tmps[178]? = some (.bool false) := isV_get (W := W) (H 21 178 rfl)
          exact growOp_done rfl rfl hg (parts_value (by simp [go_sem, h181]))
        refine And.intro (fun ac W hO hU H => ?_) ?_
        · have h178 : ac.tmps[178]? = some (.bool false) := isV_get (W := W) (H 21 178 rfl)
          have h182 : ac.tmps[182]? = some (.bool false) := isV_get (W := W) (H 25 182 rfl)
          exact growOp_plain rfl (parts_value (by simp [go_sem, h178, h182]))
        exact trivial
      · intro w10 xs hU hks
        obtain ⟨y0, rfl, g0⟩ := holdAll_is hks
        obtain ⟨y1, rfl, g1⟩ := holdAll_is g0
        obtain ⟨y2, rfl, g2⟩ := holdAll_is g1
        obtain ⟨y3, rfl, g3⟩ := holdAll_is g2
        obtain ⟨y4, rfl, g4⟩ := holdAll_is g3
        obtain ⟨y5, rfl, g5⟩ := holdAll_is g4
        obtain ⟨y6, rfl, g6⟩ := holdAll_is g5
        obtain ⟨y7, rfl, g7⟩ := holdAll_is g6
        obtain ⟨y8, rfl, g8⟩ := holdAll_is g7
        obtain ⟨y9, rfl, g9⟩ := holdAll_is g8
        obtain ⟨y10, rfl, g10⟩ := holdAll_is g9
        obtain ⟨y11, rfl, g11⟩ := holdAll_is g10
        obtain ⟨y12, rfl, g12⟩ := holdAll_is g11
        obtain ⟨y13, rfl, g13⟩ := holdAll_is g12
        obtain ⟨y14, rfl, g14⟩ := holdAll_is g13
        obtain ⟨y15, rfl, g15⟩ := holdAll_is g14
        obtain ⟨y16, rfl, g16⟩ := holdAll_is g15
        obtain ⟨y17, rfl, g17⟩ := holdAll_is g16
        obtain ⟨y18, rfl, g18⟩ := holdAll_is g17
        obtain ⟨y19, rfl, g19⟩ := holdAll_is g18
        obtain ⟨y20, rfl, g20⟩ := holdAll_is g19
        obtain ⟨y21, rfl, g21⟩ := holdAll_is g20
        obtain ⟨y22, rfl, g22⟩ := holdAll_is g21
        obtain ⟨y23, rfl, g23⟩ := holdAll_is g22
        obtain ⟨y24, rfl, g24⟩ := holdAll_is g23
        obtain ⟨y25, rfl, g25⟩ := holdAll_is g24
        obtain ⟨y26, rfl, g26⟩ := holdAll_is g25
        obtain rfl := holdAll_nil g26
        clear hks g0 g1 g2 g3 g4 g5 g6 g7 g8 g9 g10 g11 g12 g13 g14 g15 g16 g17 g18 g19 g20 g21 g22 g23 g24 g25 g26
        simp only [List.take_succ_cons, List.take_zero, List.drop_succ_cons, List.drop_zero, endTmps, List.setIfInBounds_toArray, List.set]
        have ub10 : Ups w9 w10 := drew_ups hU
        replace hrf := hrf.ups (Ups.trans (Ups.refl _) ub10)
        replace hbf := block_ups hbf (Ups.trans (Ups.refl _) ub10)
        have ltf_10 : w.heap.size < w10.heap.size := (Array.getElem?_eq_some_iff.1 hbf).1
        replace hr1 := hr1.ups (Ups.trans (Ups.refl _) ub10)
        replace hb1 := block_ups hb1 (Ups.trans (Ups.refl _) ub10)
        have lt1_10 : w3.heap.size < w10.heap.size := (Array.getElem?_eq_some_iff.1 hb1).1
        replace hr2 := hr2.ups (Ups.trans (Ups.refl _) ub10)
        replace hb2 := block_ups hb2 (Ups.trans (Ups.refl _) ub10)
        have lt2_10 : w4.heap.size < w10.heap.size := (Array.getElem?_eq_some_iff.1 hb2).1
        replace hr3 := hr3.ups (Ups.trans (Ups.refl _) ub10)
        replace hb3 := block_ups hb3 (Ups.trans (Ups.refl _) ub10)
        have lt3_10 : w5.heap.size < w10.heap.size := (Array.getElem?_eq_some_iff.1 hb3).1
        replace hr4 := hr4.ups (Ups.trans (Ups.refl _) ub10)
        replace hb4 := block_ups hb4 (Ups.trans (Ups.refl _) ub10)
        have lt4_10 : w6.heap.size < w10.heap.size := (Array.getElem?_eq_some_iff.1 hb4).1
        replace hr5 := hr5.ups (Ups.trans (Ups.refl _) ub10)
        replace hb5 := block_ups hb5 (Ups.trans (Ups.refl _) ub10)
        have lt5_10 : w7.heap.size < w10.heap.size := (Array.getElem?_eq_some_iff.1 hb5).1
        replace hr6 := hr6.ups (Ups.trans (Ups.refl _) ub10)
        replace hb6 := block_ups hb6 (Ups.trans (Ups.refl _) ub10)
        have lt6_10 : w8.heap.size < w10.heap.size := (Array.getElem?_eq_some_iff.1 hb6).1
        replace uw := Ups.trans uw (Ups.trans (Ups.refl _) ub10)
        clear hU
        clear mf m5 m6 ey hints hfree
        rcases T.out.more with ⟨rfl, rfl⟩ | ⟨rfl, rfl, hm1, hm2, hm3, hm4, hm5, hm6, hm7, hm8, hm9⟩
        · go_wp2_with fail
          exact bodyPost_ret (v := .bool true) (results_one rfl rfl) rfl ⟨rfl, Ups.trans uw (Ups.refl _)⟩
        have M1 := Lib.hid hm1
        have M2 := Lib.hid hm2
        have M3 := Lib.hid hm3
        have M4 := Lib.hid hm4
        have M5 := Lib.hid hm5
        have M6 := Lib.hid hm6
        have M7 := Lib.hid hm7
        have M8 := Lib.hid hm8
        have M9 := Lib.hid hm9
        clear hm1 hm2 hm3 hm4 hm5 hm6 hm7 hm8 hm9
        obtain ⟨kf0, kf1, kf2, kf3, kf4⟩ := block_cells hbf
        go_wp2_with fail
        go_loopw [26] (fun i wr => ∃ k : Nat, k ≤ f.pages.length ∧ i = .int .i64 k ∧ Ups w10 wr) (fun i _ => f.pages.length - (intOf i).toNat)
        case atStart => exact ⟨0, Nat.zero_le _, rfl, Ups.refl _⟩
        case round =>
          obtain ⟨k, hk, rfl, hu⟩ := hrel
          clear kf0 kf1 kf2 kf3 kf4
          replace hrf := hrf.ups hu
          replace hbf := block_ups hbf hu
          have ltf_50 : w.heap.size < wr.heap.size := (Array.getElem?_eq_some_iff.1 hbf).1
          replace hr1 := hr1.ups hu
          replace hb1 := block_ups hb1 hu
          have lt1_50 : w3.heap.size < wr.heap.size := (Array.getElem?_eq_some_iff.1 hb1).1
          replace hr2 := hr2.ups hu
          replace hb2 := block_ups hb2 hu
          have lt2_50 : w4.heap.size < wr.heap.size := (Array.getElem?_eq_some_iff.1 hb2).1
          replace hr3 := hr3.ups hu
          replace hb3 := block_ups hb3 hu
          have lt3_50 : w5.heap.size < wr.heap.size := (Array.getElem?_eq_some_iff.1 hb3).1
          replace hr4 := hr4.ups hu
          replace hb4 := block_ups hb4 hu
          have lt4_50 : w6.heap.size < wr.heap.size := (Array.getElem?_eq_some_iff.1 hb4).1
          replace hr5 := hr5.ups hu
          replace hb5 := block_ups hb5 hu
          have lt5_50 : w7.heap.size < wr.heap.size := (Array.getElem?_eq_some_iff.1 hb5).1
          replace hr6 := hr6.ups hu
          replace hb6 := block_ups hb6 hu
          have lt6_50 : w8.heap.size < wr.heap.size := (Array.getElem?_eq_some_iff.1 hb6).1
          replace uw := Ups.trans uw hu
          by_cases hlt : (k : Int) < f.pages.length
          · have hlt' : k < f.pages.length := by omega
            have n8 := n12.out.1
            obtain ⟨_, _, ef, cf⟩ := hrf.page hlt'
            cases ef
            obtain ⟨ba, oa, rfl, ca⟩ := hr3.page (k := k) (by rw [M3.out]; exact hlt')
            obtain ⟨bb, ob, rfl, cb⟩ := hr4.page (k := k) (by rw [M4.out]; exact hlt')
            obtain ⟨_, _, ec, cc⟩ := hr5.page (k := k) (by rw [T.out.cpages]; exact hlt')
            cases ec
            obtain ⟨_, _, ed, cd⟩ := hr6.page (k := k) (by rw [T.out.dpages]; exact hlt')
            cases ed
            have iA : (k : Int) < A.pages.length := by rw [M3.out]; exact hlt
            have iB : (k : Int) < B.pages.length := by rw [M4.out]; exact hlt
            have iC' : (k : Int) < C.pages.length := by rw [T.out.cpages]; exact hlt
            have iD' : (k : Int) < E.pages.length := by rw [T.out.dpages]; exact hlt
            have mf := fun W (hU : Ups (World.drew wr) W) => (block_cells (block_ups hbf (drew_ups hU))).1
            have m3 := fun W (hU : Ups (World.drew wr) W) => (block_cells (block_ups hb3 (drew_ups hU))).1
            have m4 := fun W (hU : Ups (World.drew wr) W) => (block_cells (block_ups hb4 (drew_ups hU))).1
            have m5 := fun W (hU : Ups (World.drew wr) W) => (block_cells (block_ups hb5 (drew_ups hU))).1
            have m6 := fun W (hU : Ups (World.drew wr) W) => (block_cells (block_ups hb6 (drew_ups hU))).1
            by_cases hp : k = pg
            · clear cf ca cb cc cd
              have hpd : ((k : Int) != pg) = false := by simp [hp]
              clear hp
              obtain ⟨kf0, kf1, kf2, kf3, kf4⟩ := block_cells hbf
              go_wp2_with fail
              refine wp_region_parts (N := 55) (n := 305) (ks := [isV (.int .i64 k), isV (.int .i64 pg), isV (.bool false), isV (.bool false), isV (undef), isV (undef), isV (undef), isV (undef), isV (undef), isV (undef), isV (undef), isV (undef), isV (undef), isV (undef), isV (undef), isV (undef), isV (undef), isV (undef), isV (undef), isV (undef), isV (undef), isV (undef), isV (undef), isV (undef), isV (undef), isV (undef), isV (undef), isV (undef), isV (undef), isV (undef), isV (undef), isV (undef), isV (undef), isV (undef), isV (undef), isV (undef), isV (undef), isV (undef), isV (undef), isV (undef), isV (undef), isV (undef), isV (undef), isV (undef), isV (undef), isV (undef), isV (undef), isV (undef), isV (undef), isV (undef), isV (undef), isV (undef), isV (undef), isV (undef), isV (.bool false)]) (by decide +kernel) (by decide +kernel) (by decide +kernel) (by simp) rfl (by decide +kernel) ⟨steady_is _, steady_is _, steady_is _, steady_is _, steady_is _, steady_is _, steady_is _, steady_is _, steady_is _, steady_is _, steady_is _, steady_is _, steady_is _, steady_is _, steady_is _, steady_is _, steady_is _, steady_is _, steady_is _, steady_is _, steady_is _, steady_is _, steady_is _, steady_is _, steady_is _, steady_is _, steady_is _, steady_is _, steady_is _, steady_is _, steady_is _, steady_is _, steady_is _, steady_is _, steady_is _, steady_is _, steady_is _, steady_is _, steady_is _, steady_is _, steady_is _, steady_is _, steady_is _, steady_is _, steady_is _, steady_is _, steady_is _, steady_is _, steady_is _, steady_is _, steady_is _, steady_is _, steady_is _, steady_is _, steady_is _, trivial⟩ ?_ ?_
              · refine And.intro (fun ac W hO hU H => ?_) ?_
                · have h26 : ac.tmps[26]? = some (.int .i64 k) := (hO 26 rfl).trans rfl
                  exact growOp_plain rfl (parts_value (by simp [go_sem, h26]))
                refine And.intro (fun ac W hO hU H => ?_) ?_
                · have h1 : ac.tmps[1]? = some (.int .i64 pg) := (hO 1 rfl).trans rfl
                  exact growOp_plain rfl (parts_value (by simp [go_sem, h1]))
                refine And.intro (fun ac W hO hU H => ?_) ?_
                · have h199 : ac.tmps[199]? = some (.int .i64 k) := isV_get (W := W) (H 0 199 rfl)
                  have h200 : ac.tmps[200]? = some (.int .i64 pg) := isV_get (W := W) (H 1 200 rfl)
                  exact growOp_plain rfl (parts_value (by simp [go_sem, h199, h200, hpd]))
                refine And.intro (fun ac W hO hU H => ?_) ?_
                · have h201 : ac.tmps[201]? = some (.bool false) := isV_get (W := W) (H 2 201 rfl)
                  exact growOp_plain rfl (parts_value (by simp [go_sem, h201]))
                refine And.intro (fun ac W hO hU H => ?_) ?_
                · have hg : ac.tmps[202]? = some (.bool false) := isV_get (W := W) (H 3 202 rfl)
                  exact growOp_left rfl rfl hg Ups.refl rfl
                refine And.intro (fun ac W hO hU H => ?_) ?_
                · have hg : ac.tmps[202]? = some (.bool false) := isV_get (W := W) (H 3 202 rfl)
                  exact growOp_left rfl rfl hg Ups.refl rfl
                refine And.intro (fun ac W hO hU H => ?_) ?_
                · have hg : ac.tmps[202]? = some (.bool false) := isV_get (W := W) (H 3 202 rfl)
                  exact growOp_left rfl rfl hg Ups.refl rfl
                refine And.intro (fun ac W hO hU H => ?_) ?_
                · have hg : ac.tmps[202]? = some (.bool false) := isV_get (W := W) (H 3 202 rfl)
                  exact growOp_left rfl rfl hg Ups.refl rfl
                refine And.intro (fun ac W hO hU H => ?_) ?_
                · have hg : ac.tmps[202]? = some (.bool false) := isV_get (W := W) (H 3 202 rfl)
                  exact growOp_left rfl rfl hg Ups.refl rfl
                refine And.intro (fun ac W hO hU H => ?_) ?_
                · have hg : ac.tmps[202]? = some (.bool false) := isV_get (W := W) (H 3 202 rfl)
                  exact growOp_left rfl rfl hg Ups.refl rfl
                refine And.intro (fun ac W hO hU H => ?_) ?_
                · have hg : ac.tmps[202]? = some (.bool false) := isV_get (W := W) (H 3 202 rfl)
                  exact growOp_left rfl rfl hg Ups.refl rfl
                refine And.intro (fun ac W hO hU H => ?_) ?_
                · have hg : ac.tmps[202]? = some (.bool false) := isV_get (W := W) (H 3 202 rfl)
                  exact growOp_left rfl rfl hg Ups.refl rfl
                refine And.intro (fun ac W hO hU H => ?_) ?_
                · have hg : ac.tmps[202]? = some (.bool false) := isV_get (W := W) (H 3 202 rfl)
                  exact growOp_left rfl rfl hg Ups.refl rfl
                refine And.intro (fun ac W hO hU H => ?_) ?_
                · have hg : ac.tmps[202]? = some (.bool false) := isV_get (W := W) (H 3 202 rfl)
                  exact growOp_left rfl rfl hg Ups.refl rfl
                refine And.intro (fun ac W hO hU H => ?_) ?_
                · have hg : ac.tmps[202]? = some (.bool false) := isV_get (W := W) (H 3 202 rfl)
                  exact growOp_left rfl rfl hg Ups.refl rfl
                refine And.intro (fun ac W hO hU H => ?_) ?_
                · have hg : ac.tmps[202]? = some (.bool false) := isV_get (W := W) (H 3 202 rfl)
                  exact growOp_left rfl rfl hg Ups.refl rfl
                refine And.intro (fun ac W hO hU H => ?_) ?_
                · have hg : ac.tmps[214]? = some (undef) := isV_get (W := W) (H 15 214 rfl)
                  exact growOp_lost rfl rfl hg Ups.refl rfl
                refine And.intro (fun ac W hO hU H => ?_) ?_
                · have hg : ac.tmps[214]? = some (undef) := isV_get (W := W) (H 15 214 rfl)
                  exact growOp_lost rfl rfl hg Ups.refl rfl
                refine And.intro (fun ac W hO hU H => ?_) ?_
                · have hg : ac.tmps[214]? = some (undef) := isV_get (W := W) (H 15 214 rfl)
                  exact growOp_lost rfl rfl hg Ups.refl rfl
                refine And.intro (fun ac W hO hU H => ?_) ?_
                · have hg : ac.tmps[214]? = some (undef) := isV_get (W := W) (H 15 214 rfl)
                  exact growOp_lost rfl rfl hg Ups.refl rfl
                refine And.intro (fun ac W hO hU H => ?_) ?_
                · have hg : ac.tmps[214]? = some (undef) := isV_get (W := W) (H 15 214 rfl)
                  exact growOp_lost rfl rfl hg Ups.refl rfl
                refine And.intro (fun ac W hO hU H => ?_) ?_
                · have hg : ac.tmps[214]? = some (undef) := isV_get (W := W) (H 15 214 rfl)
                  exact growOp_lost rfl rfl hg Ups.refl rfl
                refine And.intro (fun ac W hO hU H => ?_) ?_
                · have hg : ac.tmps[214]? = some (undef) := isV_get (W := W) (H 15 214 rfl)
                  exact growOp_lost rfl rfl hg Ups.refl rfl
                refine And.intro (fun ac W hO hU H => ?_) ?_
                · have hg : ac.tmps[214]? = some (undef) := isV_get (W := W) (H 15 214 rfl)
                  exact growOp_lost rfl rfl hg Ups.refl rfl
                refine And.intro (fun ac W hO hU H => ?_) ?_
                · have hg : ac.tmps[214]? = some (undef) := isV_get (W := W) (H 15 214 rfl)
                  exact growOp_lost rfl rfl hg Ups.refl rfl
                refine And.intro (fun ac W hO hU H => ?_) ?_
                · have hg : ac.tmps[214]? = some (undef) := isV_get (W := W) (H 15 214 rfl)
                  exact growOp_lost rfl rfl hg Ups.refl rfl
                refine And.intro (fun ac W hO hU H => ?_) ?_
                · have hg : ac.tmps[214]? = some (undef) := isV_get (W := W) (H 15 214 rfl)
                  exact growOp_lost rfl rfl hg Ups.refl rfl
                refine And.intro (fun ac W hO hU H => ?_) ?_
                · have hg : ac.tmps[202]? = some (.bool false) := isV_get (W := W) (H 3 202 rfl)
                  exact growOp_left rfl rfl hg Ups.refl rfl
                refine And.intro (fun ac W hO hU H => ?_) ?_
                · have hg : ac.tmps[202]? = some (.bool false) := isV_get (W := W) (H 3 202 rfl)
                  exact growOp_left rfl rfl hg Ups.refl rfl
                refine And.intro (fun ac W hO hU H => ?_) ?_
                · have hg : ac.tmps[227]? = some (undef) := isV_get (W := W) (H 28 227 rfl)
                  exact growOp_lost rfl rfl hg Ups.refl rfl
                refine And.intro (fun ac W hO hU H => ?_) ?_
                · have hg : ac.tmps[227]? = some (undef) := isV_get (W := W) (H 28 227 rfl)
                  exact growOp_lost rfl rfl hg Ups.refl rfl
                refine And.intro (fun ac W hO hU H => ?_) ?_
                · have hg : ac.tmps[227]? = some (undef) := isV_get (W := W) (H 28 227 rfl)
                  exact growOp_lost rfl rfl hg Ups.refl rfl
                refine And.intro (fun ac W hO hU H => ?_) ?_
                · have hg : ac.tmps[227]? = some (undef) := isV_get (W := W) (H 28 227 rfl)
                  exact growOp_lost rfl rfl hg Ups.refl rfl
                refine And.intro (fun ac W hO hU H => ?_) ?_
                · have hg : ac.tmps[227]? = some (undef) := isV_get (W := W) (H 28 227 rfl)
                  exact growOp_lost rfl rfl hg Ups.refl rfl
                refine And.intro (fun ac W hO hU H => ?_) ?_
                · have hg : ac.tmps[227]? = some (undef) := isV_get (W := W) (H 28 227 rfl)
                  exact growOp_lost rfl rfl hg Ups.refl rfl
                refine And.intro (fun ac W hO hU H => ?_) ?_
                · have hg : ac.tmps[227]? = some (undef) := isV_get (W := W) (H 28 227 rfl)
                  exact growOp_lost rfl rfl hg Ups.refl rfl
                refine And.intro (fun ac W hO hU H => ?_) ?_
                · have hg : ac.tmps[227]? = some (undef) := isV_get (W := W) (H 28 227 rfl)
                  exact growOp_lost rfl rfl hg Ups.refl rfl
                refine And.intro (fun ac W hO hU H => ?_) ?_
                · have hg : ac.tmps[227]? = some (undef) := isV_get (W := W) (H 28 227 rfl)
                  exact growOp_lost rfl rfl hg Ups.refl rfl
                refine And.intro (fun ac W hO hU H => ?_) ?_
                · have hg : ac.tmps[227]? = some (undef) := isV_get (W := W) (H 28 227 rfl)
                  exact growOp_lost rfl rfl hg Ups.refl rfl
                refine And.intro (fun ac W hO hU H => ?_) ?_
                · have hg : ac.tmps[227]? = some (undef) := isV_get (W := W) (H 28 227 rfl)
                  exact growOp_lost rfl rfl hg Ups.refl rfl
                refine And.intro (fun ac W hO hU H => ?_) ?_
                · have hg : ac.tmps[202]? = some (.bool false) := isV_get (W := W) (H 3 202 rfl)
                  exact growOp_left rfl rfl hg Ups.refl rfl
                refine And.intro (fun ac W hO hU H => ?_) ?_
                · have hg : ac.tmps[202]? = some (.bool false) := isV_get (W := W) (H 3 202 rfl)
                  exact growOp_left rfl rfl hg Ups.refl rfl
                refine And.intro (fun ac W hO hU H => ?_) ?_
                · have hg : ac.tmps[240]? = some (undef) := isV_get (W := W) (H 41 240 rfl)
                  exact growOp_lost rfl rfl hg Ups.refl rfl
                refine And.intro (fun ac W hO hU H => ?_) ?_
                · have hg : ac.tmps[240]? = some (undef) := isV_get (W := W) (H 41 240 rfl)
                  exact growOp_lost rfl rfl hg Ups.refl rfl
                refine And.intro (fun ac W hO hU H => ?_) ?_
                · have hg : ac.tmps[240]? = some (undef) := isV_get (W := W) (H 41 240 rfl)
                  exact growOp_lost rfl rfl hg Ups.refl rfl
                refine And.intro (fun ac W hO hU H => ?_) ?_
                · have hg : ac.tmps[240]? = some (undef) := isV_get (W := W) (H 41 240 rfl)
                  exact growOp_lost rfl rfl hg Ups.refl rfl
                refine And.intro (fun ac W hO hU H => ?_) ?_
                · have hg : ac.tmps[240]? = some (undef) := isV_get (W := W) (H 41 240 rfl)
                  exact growOp_lost rfl rfl hg Ups.refl rfl
                refine And.intro (fun ac W hO hU H => ?_) ?_
                · have hg : ac.tmps[240]? = some (undef) := isV_get (W := W) (H 41 240 rfl)
                  exact growOp_lost rfl rfl hg Ups.refl rfl
                refine And.intro (fun ac W hO hU H => ?_) ?_
                · have hg : ac.tmps[240]? = some (undef) := isV_get (W := W) (H 41 240 rfl)
                  exact growOp_lost rfl rfl hg Ups.refl rfl
                refine And.intro (fun ac W hO hU H => ?_) ?_
                · have hg : ac.tmps[240]? = some (undef) := isV_get (W := W) (H 41 240 rfl)
                  exact growOp_lost rfl rfl hg Ups.refl rfl
                refine And.intro (fun ac W hO hU H => ?_) ?_
                · have hg : ac.tmps[240]? = some (undef) := isV_get (W := W) (H 41 240 rfl)
                  exact growOp_lost rfl rfl hg Ups.refl rfl
                refine And.intro (fun ac W hO hU H => ?_) ?_
                · have hg : ac.tmps[240]? = some (undef) := isV_get (W := W) (H 41 240 rfl)
                  exact growOp_lost rfl rfl hg Ups.refl rfl
                refine And.intro (fun ac W hO hU H => ?_) ?_
                · have hg : ac.tmps[240]? = some (undef) := isV_get (W := W) (H 41 240 rfl)
                  exact growOp_lost rfl rfl hg Ups.refl rfl
                refine And.intro (fun ac W hO hU H => ?_) ?_
                · have hg : ac.tmps[202]? = some (.bool false) := isV_get (W := W) (H 3 202 rfl)
                  exact growOp_left rfl rfl hg Ups.refl rfl
                refine And.intro (fun ac W hO hU H => ?_) ?_
                · have h202 : ac.tmps[202]? = some (.bool false) := isV_get (W := W) (H 3 202 rfl)
                  have h252 : ac.tmps[252]? = some (undef) := isV_get (W := W) (H 53 252 rfl)
                  exact growOp_plain rfl (parts_value (by simp [go_sem, h202, h252]))
                exact trivial
              · intro W xs hU hks
                obtain ⟨y0, rfl, g0⟩ := holdAll_is hks
                obtain ⟨y1, rfl, g1⟩ := holdAll_is g0
                obtain ⟨y2, rfl, g2⟩ := holdAll_is g1
                obtain ⟨y3, rfl, g3⟩ := holdAll_is g2
                obtain ⟨y4, rfl, g4⟩ := holdAll_is g3
                obtain ⟨y5, rfl, g5⟩ := holdAll_is g4
                obtain ⟨y6, rfl, g6⟩ := holdAll_is g5
                obtain ⟨y7, rfl, g7⟩ := holdAll_is g6
                obtain ⟨y8, rfl, g8⟩ := holdAll_is g7
                obtain ⟨y9, rfl, g9⟩ := holdAll_is g8
                obtain ⟨y10, rfl, g10⟩ := holdAll_is g9
                obtain ⟨y11, rfl, g11⟩ := holdAll_is g10
                obtain ⟨y12, rfl, g12⟩ := holdAll_is g11
                obtain ⟨y13, rfl, g13⟩ := holdAll_is g12
                obtain ⟨y14, rfl, g14⟩ := holdAll_is g13
                obtain ⟨y15, rfl, g15⟩ := holdAll_is g14
                obtain ⟨y16, rfl, g16⟩ := holdAll_is g15
                obtain ⟨y17, rfl, g17⟩ := holdAll_is g16
                obtain ⟨y18, rfl, g18⟩ := holdAll_is g17
                obtain ⟨y19, rfl, g19⟩ := holdAll_is g18
                obtain ⟨y20, rfl, g20⟩ := holdAll_is g19
                obtain ⟨y21, rfl, g21⟩ := holdAll_is g20
                obtain ⟨y22, rfl, g22⟩ := holdAll_is g21
                obtain ⟨y23, rfl, g23⟩ := holdAll_is g22
                obtain ⟨y24, rfl, g24⟩ := holdAll_is g23
                obtain ⟨y25, rfl, g25⟩ := holdAll_is g24
                obtain ⟨y26, rfl, g26⟩ := holdAll_is g25
                obtain ⟨y27, rfl, g27⟩ := holdAll_is g26
                obtain ⟨y28, rfl, g28⟩ := holdAll_is g27
                obtain ⟨y29, rfl, g29⟩ := holdAll_is g28
                obtain ⟨y30, rfl, g30⟩ := holdAll_is g29
                obtain ⟨y31, rfl, g31⟩ := holdAll_is g30
                obtain ⟨y32, rfl, g32⟩ := holdAll_is g31
                obtain ⟨y33, rfl, g33⟩ := holdAll_is g32
                obtain ⟨y34, rfl, g34⟩ := holdAll_is g33
                obtain ⟨y35, rfl, g35⟩ := holdAll_is g34
                obtain ⟨y36, rfl, g36⟩ := holdAll_is g35
                obtain ⟨y37, rfl, g37⟩ := holdAll_is g36
                obtain ⟨y38, rfl, g38⟩ := holdAll_is g37
                obtain ⟨y39, rfl, g39⟩ := holdAll_is g38
                obtain ⟨y40, rfl, g40⟩ := holdAll_is g39
                obtain ⟨y41, rfl, g41⟩ := holdAll_is g40
                obtain ⟨y42, rfl, g42⟩ := holdAll_is g41
                obtain ⟨y43, rfl, g43⟩ := holdAll_is g42
                obtain ⟨y44, rfl, g44⟩ := holdAll_is g43
                obtain ⟨y45, rfl, g45⟩ := holdAll_is g44
                obtain ⟨y46, rfl, g46⟩ := holdAll_is g45
                obtain ⟨y47, rfl, g47⟩ := holdAll_is g46
                obtain ⟨y48, rfl, g48⟩ := holdAll_is g47
                obtain ⟨y49, rfl, g49⟩ := holdAll_is g48
                obtain ⟨y50, rfl, g50⟩ := holdAll_is g49
                obtain ⟨y51, rfl, g51⟩ := holdAll_is g50
                obtain ⟨y52, rfl, g52⟩ := holdAll_is g51
                obtain ⟨y53, rfl, g53⟩ := holdAll_is g52
                obtain ⟨y54, rfl, g54⟩ := holdAll_is g53
                obtain rfl := holdAll_nil g54
                clear hks g0 g1 g2 g3 g4 g5 g6 g7 g8 g9 g10 g11 g12 g13 g14 g15 g16 g17 g18 g19 g20 g21 g22 g23 g24 g25 g26 g27 g28 g29 g30 g31 g32 g33 g34 g35 g36 g37 g38 g39 g40 g41 g42 g43 g44 g45 g46 g47 g48 g49 g50 g51 g52 g53 g54
                simp only [List.take_succ_cons, List.take_zero, List.drop_succ_cons, List.drop_zero, endTmps, List.setIfInBounds_toArray, List.set]
                go_wp2_with fail
                refine ⟨⟨k + 1, by omega, by go_num, Ups.trans hu (drew_ups hU)⟩, ?_⟩
                simp [intOf]; omega
            · have hpd : ((k : Int) != pg) = true := by simp; omega
              obtain ⟨qa, qb, qc, qd⟩ := M5.out k hp
              rw [qa] at ca
              rw [qb] at cb
              rw [qc] at cc
              rw [qd] at cd
              have ef := fun W (hU : Ups (World.drew wr) W) => cell_ups (drew_ups hU) cf
              have ea := fun W (hU : Ups (World.drew wr) W) => cell_ups (drew_ups hU) ca
              have eb := fun W (hU : Ups (World.drew wr) W) => cell_ups (drew_ups hU) cb
              have ec := fun W (hU : Ups (World.drew wr) W) => cell_ups (drew_ups hU) cc
              have ed := fun W (hU : Ups (World.drew wr) W) => cell_ups (drew_ups hU) cd
              clear hp qa qb qc qd cf ca cb cc cd
              generalize oldT f k = z at *
              obtain ⟨kf0, kf1, kf2, kf3, kf4⟩ := block_cells hbf
              go_wp2_with fail
              refine wp_region_parts (N := 55) (n := 305) (ks := [isV (.int .i64 k), isV (.int .i64 pg), isV (.bool true), isV (.bool true), isV (.pointer (some ⟨w5.heap.size, 0, none⟩)), isV (.slice (some ⟨ba, oa, none⟩) A.pages.length c3), isV (.int .i64 k), isV (.pointer (some ⟨ba, oa + k, none⟩)), isV (.string z), isV (.pointer (some ⟨w.heap.size, 0, none⟩)), isV (.slice (some ⟨bf, of, none⟩) f.pages.length cf), isV (.int .i64 k), isV (.pointer (some ⟨bf, of + k, none⟩)), isV (.string z), isV (.bool false), isV (.bool false), isV (.pointer (some ⟨w6.heap.size, 0, none⟩)), isV (.slice (some ⟨bb, ob, none⟩) B.pages.length c4), isV (.int .i64 k), isV (.pointer (some ⟨bb, ob + k, none⟩)), isV (.string z), isV (.pointer (some ⟨w.heap.size, 0, none⟩)), isV (.slice (some ⟨bf, of, none⟩) f.pages.length cf), isV (.int .i64 k), isV (.pointer (some ⟨bf, of + k, none⟩)), isV (.string z), isV (.bool false), isV (.bool false), isV (.bool false), isV (.pointer (some ⟨w7.heap.size, 0, none⟩)), isV (.slice (some ⟨bc, oc, none⟩) C.pages.length c5), isV (.int .i64 k), isV (.pointer (some ⟨bc, oc + k, none⟩)), isV (.string z), isV (.pointer (some ⟨w.heap.size, 0, none⟩)), isV (.slice (some ⟨bf, of, none⟩) f.pages.length cf), isV (.int .i64 k), isV (.pointer (some ⟨bf, of + k, none⟩)), isV (.string z), isV (.bool false), isV (.bool false), isV (.bool false), isV (.pointer (some ⟨w8.heap.size, 0, none⟩)), isV (.slice (some ⟨bd, od, none⟩) E.pages.length c6), isV (.int .i64 k), isV (.pointer (some ⟨bd, od + k, none⟩)), isV (.string z), isV (.pointer (some ⟨w.heap.size, 0, none⟩)), isV (.slice (some ⟨bf, of, none⟩) f.pages.length cf), isV (.int .i64 k), isV (.pointer (some ⟨bf, of + k, none⟩)), isV (.string z), isV (.bool false), isV (.bool false), isV (.bool false)]) (by decide +kernel) (by decide +kernel) (by decide +kernel) (by simp) rfl (by decide +kernel) ⟨steady_is _, steady_is _, steady_is _, steady_is _, steady_is _, steady_is _, steady_is _, steady_is _, steady_is _, steady_is _, steady_is _, steady_is _, steady_is _, steady_is _, steady_is _, steady_is _, steady_is _, steady_is _, steady_is _, steady_is _, steady_is _, steady_is _, steady_is _, steady_is _, steady_is _, steady_is _, steady_is _, steady_is _, steady_is _, steady_is _, steady_is _, steady_is _, steady_is _, steady_is _, steady_is _, steady_is _, steady_is _, steady_is _, steady_is _, steady_is _, steady_is _, steady_is _, steady_is _, steady_is _, steady_is _, steady_is _, steady_is _, steady_is _, steady_is _, steady_is _, steady_is _, steady_is _, steady_is _, steady_is _, steady_is _, trivial⟩ ?_ ?_
              · refine And.intro (fun ac W hO hU H => ?_) ?_
                · have h26 : ac.tmps[26]? = some (.int .i64 k) := (hO 26 rfl).trans rfl
                  exact growOp_plain rfl (parts_value (by simp [go_sem, h26]))
                refine And.intro (fun ac W hO hU H => ?_) ?_
                · have h1 : ac.tmps[1]? = some (.int .i64 pg) := (hO 1 rfl).trans rfl
                  exact growOp_plain rfl (parts_value (by simp [go_sem, h1]))
                refine And.intro (fun ac W hO hU H => ?_) ?_
                · have h199 : ac.tmps[199]? = some (.int .i64 k) := isV_get (W := W) (H 0 199 rfl)
                  have h200 : ac.tmps[200]? = some (.int .i64 pg) := isV_get (W := W) (H 1 200 rfl)
                  exact growOp_plain rfl (parts_value (by simp [go_sem, h199, h200, hpd]))
                refine And.intro (fun ac W hO hU H => ?_) ?_
                · have h201 : ac.tmps[201]? = some (.bool true) := isV_get (W := W) (H 2 201 rfl)
                  exact growOp_plain rfl (parts_value (by simp [go_sem, h201]))
                refine And.intro (fun ac W hO hU H => ?_) ?_
                · have h17 : ac.tmps[17]? = some (.pointer (some ⟨w5.heap.size, 0, none⟩)) := (hO 17 rfl).trans rfl
                  have hg : ac.tmps[202]? = some (.bool true) := isV_get (W := W) (H 3 202 rfl)
                  exact growOp_done rfl rfl hg (parts_value (by simp [go_sem, h17]))
                refine And.intro (fun ac W hO hU H => ?_) ?_
                · have h203 : ac.tmps[203]? = some (.pointer (some ⟨w5.heap.size, 0, none⟩)) := isV_get (W := W) (H 4 203 rfl)
                  have hg : ac.tmps[202]? = some (.bool true) := isV_get (W := W) (H 3 202 rfl)
                  have f0 := m3 W hU
                  exact growOp_done rfl rfl hg (parts_value (by simp [go_sem, h203, f0]))
                refine And.intro (fun ac W hO hU H => ?_) ?_
                · have h26 : ac.tmps[26]? = some (.int .i64 k) := (hO 26 rfl).trans rfl
                  have hg : ac.tmps[202]? = some (.bool true) := isV_get (W := W) (H 3 202 rfl)
                  exact growOp_done rfl rfl hg (parts_value (by simp [go_sem, h26]))
                refine And.intro (fun ac W hO hU H => ?_) ?_
                · have h204 : ac.tmps[204]? = some (.slice (some ⟨ba, oa, none⟩) A.pages.length c3) := isV_get (W := W) (H 5 204 rfl)
                  have h205 : ac.tmps[205]? = some (.int .i64 k) := isV_get (W := W) (H 6 205 rfl)
                  have hg : ac.tmps[202]? = some (.bool true) := isV_get (W := W) (H 3 202 rfl)
                  exact growOp_done rfl rfl hg (parts_value (by simp [go_sem, h204, h205, iA]))
                refine And.intro (fun ac W hO hU H => ?_) ?_
                · have h206 : ac.tmps[206]? = some (.pointer (some ⟨ba, oa + k, none⟩)) := isV_get (W := W) (H 7 206 rfl)
                  have hg : ac.tmps[202]? = some (.bool true) := isV_get (W := W) (H 3 202 rfl)
                  have f0 := ea W hU
                  exact growOp_done rfl rfl hg (parts_value (by simp [go_sem, h206, f0]))
                refine And.intro (fun ac W hO hU H => ?_) ?_
                · have h5 : ac.tmps[5]? = some (.pointer (some ⟨w.heap.size, 0, none⟩)) := (hO 5 rfl).trans rfl
                  have hg : ac.tmps[202]? = some (.bool true) := isV_get (W := W) (H 3 202 rfl)
                  exact growOp_done rfl rfl hg (parts_value (by simp [go_sem, h5]))
                refine And.intro (fun ac W hO hU H => ?_) ?_
                · have h208 : ac.tmps[208]? = some (.pointer (some ⟨w.heap.size, 0, none⟩)) := isV_get (W := W) (H 9 208 rfl)
                  have hg : ac.tmps[202]? = some (.bool true) := isV_get (W := W) (H 3 202 rfl)
                  have f0 := mf W hU
                  exact growOp_done rfl rfl hg (parts_value (by simp [go_sem, h208, f0]))
                refine And.intro (fun ac W hO hU H => ?_) ?_
                · have h26 : ac.tmps[26]? = some (.int .i64 k) := (hO 26 rfl).trans rfl
                  have hg : ac.tmps[202]? = some (.bool true) := isV_get (W := W) (H 3 202 rfl)
                  exact growOp_done rfl rfl hg (parts_value (by simp [go_sem, h26]))
                refine And.intro (fun ac W hO hU H => ?_) ?_
                · have h209 : ac.tmps[209]? = some (.slice (some ⟨bf, of, none⟩) f.pages.length cf) := isV_get (W := W) (H 10 209 rfl)
                  have h210 : ac.tmps[210]? = some (.int .i64 k) := isV_get (W := W) (H 11 210 rfl)
                  have hg : ac.tmps[202]? = some (.bool true) := isV_get (W := W) (H 3 202 rfl)
                  exact growOp_done rfl rfl hg (parts_value (by simp [go_sem, h209, h210, hlt]))
                refine And.intro (fun ac W hO hU H => ?_) ?_
                · have h211 : ac.tmps[211]? = some (.pointer (some ⟨bf, of + k, none⟩)) := isV_get (W := W) (H 12 211 rfl)
                  have hg : ac.tmps[202]? = some (.bool true) := isV_get (W := W) (H 3 202 rfl)
                  have f0 := ef W hU
                  exact growOp_done rfl rfl hg (parts_value (by simp [go_sem, h211, f0]))
                refine And.intro (fun ac W hO hU H => ?_) ?_
                · have h207 : ac.tmps[207]? = some (.string z) := isV_get (W := W) (H 8 207 rfl)
                  have h212 : ac.tmps[212]? = some (.string z) := isV_get (W := W) (H 13 212 rfl)
                  have hg : ac.tmps[202]? = some (.bool true) := isV_get (W := W) (H 3 202 rfl)
                  exact growOp_done rfl rfl hg (parts_value (by simp [go_sem, h207, h212]))
                refine And.intro (fun ac W hO hU H => ?_) ?_
                · have h213 : ac.tmps[213]? = some (.bool false) := isV_get (W := W) (H 14 213 rfl)
                  have hg : ac.tmps[202]? = some (.bool true) := isV_get (W := W) (H 3 202 rfl)
                  exact growOp_done rfl rfl hg (parts_value (by simp [go_sem, h213]))
                refine And.intro (fun ac W hO hU H => ?_) ?_
                · have h19 : ac.tmps[19]? = some (.pointer (some ⟨w6.heap.size, 0, none⟩)) := (hO 19 rfl).trans rfl
                  have hg : ac.tmps[214]? = some (.bool false) := isV_get (W := W) (H 15 214 rfl)
                  exact growOp_done rfl rfl hg (parts_value (by simp [go_sem, h19]))
                refine And.intro (fun ac W hO hU H => ?_) ?_
                · have h215 : ac.tmps[215]? = some (.pointer (some ⟨w6.heap.size, 0, none⟩)) := isV_get (W := W) (H 16 215 rfl)
                  have hg : ac.tmps[214]? = some (.bool false) := isV_get (W := W) (H 15 214 rfl)
                  have f0 := m4 W hU
                  exact growOp_done rfl rfl hg (parts_value (by simp [go_sem, h215, f0]))
                refine And.intro (fun ac W hO hU H => ?_) ?_
                · have h26 : ac.tmps[26]? = some (.int .i64 k) := (hO 26 rfl).trans rfl
                  have hg : ac.tmps[214]? = some (.bool false) := isV_get (W := W) (H 15 214 rfl)
                  exact growOp_done rfl rfl hg (parts_value (by simp [go_sem, h26]))
                refine And.intro (fun ac W hO hU H => ?_) ?_
                · have h216 : ac.tmps[216]? = some (.slice (some ⟨bb, ob, none⟩) B.pages.length c4) := isV_get (W := W) (H 17 216 rfl)
                  have h217 : ac.tmps[217]? = some (.int .i64 k) := isV_get (W := W) (H 18 217 rfl)
                  have hg : ac.tmps[214]? = some (.bool false) := isV_get (W := W) (H 15 214 rfl)
                  exact growOp_done rfl rfl hg (parts_value (by simp [go_sem, h216, h217, iB]))
                refine And.intro (fun ac W hO hU H => ?_) ?_
                · have h218 : ac.tmps[218]? = some (.pointer (some ⟨bb, ob + k, none⟩)) := isV_get (W := W) (H 19 218 rfl)
                  have hg : ac.tmps[214]? = some (.bool false) := isV_get (W := W) (H 15 214 rfl)
                  have f0 := eb W hU
                  exact growOp_done rfl rfl hg (parts_value (by simp [go_sem, h218, f0]))
                refine And.intro (fun ac W hO hU H => ?_) ?_
                · have h5 : ac.tmps[5]? = some (.pointer (some ⟨w.heap.size, 0, none⟩)) := (hO 5 rfl).trans rfl
                  have hg : ac.tmps[214]? = some (.bool false) := isV_get (W := W) (H 15 214 rfl)
                  exact growOp_done rfl rfl hg (parts_value (by simp [go_sem, h5]))
                refine And.intro (fun ac W hO hU H => ?_) ?_
                · have h220 : ac.tmps[220]? = some (.pointer (some ⟨w.heap.size, 0, none⟩)) := isV_get (W := W) (H 21 220 rfl)
                  have hg : ac.tmps[214]? = some (.bool false) := isV_get (W := W) (H 15 214 rfl)
                  have f0 := mf W hU
                  exact growOp_done rfl rfl hg (parts_value (by simp [go_sem, h220, f0]))
                refine And.intro (fun ac W hO hU H => ?_) ?_
                · have h26 : ac.tmps[26]? = some (.int .i64 k) := (hO 26 rfl).trans rfl
                  have hg : ac.tmps[214]? = some (.bool false) := isV_get (W := W) (H 15 214 rfl)
                  exact growOp_done rfl rfl hg (parts_value (by simp [go_sem, h26]))
                refine And.intro (fun ac W hO hU H => ?_) ?_
                · have h221 : ac.tmps[221]? = some (.slice (some ⟨bf, of, none⟩) f.pages.length cf) := isV_get (W := W) (H 22 221 rfl)
                  have h222 : ac.tmps[222]? = some (.int .i64 k) := isV_get (W := W) (H 23 222 rfl)
                  have hg : ac.tmps[214]? = some (.bool false) := isV_get (W := W) (H 15 214 rfl)
                  exact growOp_done rfl rfl hg (parts_value (by simp [go_sem, h221, h222, hlt]))
                refine And.intro (fun ac W hO hU H => ?_) ?_
                · have h223 : ac.tmps[223]? = some (.pointer (some ⟨bf, of + k, none⟩)) := isV_get (W := W) (H 24 223 rfl)
                  have hg : ac.tmps[214]? = some (.bool false) := isV_get (W := W) (H 15 214 rfl)
                  have f0 := ef W hU
                  exact growOp_done rfl rfl hg (parts_value (by simp [go_sem, h223, f0]))
                refine And.intro (fun ac W hO hU H => ?_) ?_
                · have h219 : ac.tmps[219]? = some (.string z) := isV_get (W := W) (H 20 219 rfl)
                  have h224 : ac.tmps[224]? = some (.string z) := isV_get (W := W) (H 25 224 rfl)
                  have hg : ac.tmps[214]? = some (.bool false) := isV_get (W := W) (H 15 214 rfl)
                  exact growOp_done rfl rfl hg (parts_value (by simp [go_sem, h219, h224]))
                refine And.intro (fun ac W hO hU H => ?_) ?_
                · have h214 : ac.tmps[214]? = some (.bool false) := isV_get (W := W) (H 15 214 rfl)
                  have h225 : ac.tmps[225]? = some (.bool false) := isV_get (W := W) (H 26 225 rfl)
                  have hg : ac.tmps[202]? = some (.bool true) := isV_get (W := W) (H 3 202 rfl)
                  exact growOp_done rfl rfl hg (parts_value (by simp [go_sem, h214, h225]))
                refine And.intro (fun ac W hO hU H => ?_) ?_
                · have h226 : ac.tmps[226]? = some (.bool false) := isV_get (W := W) (H 27 226 rfl)
                  have hg : ac.tmps[202]? = some (.bool true) := isV_get (W := W) (H 3 202 rfl)
                  exact growOp_done rfl rfl hg (parts_value (by simp [go_sem, h226]))
                refine And.intro (fun ac W hO hU H => ?_) ?_
                · have h21 : ac.tmps[21]? = some (.pointer (some ⟨w7.heap.size, 0, none⟩)) := (hO 21 rfl).trans rfl
                  have hg : ac.tmps[227]? = some (.bool false) := isV_get (W := W) (H 28 227 rfl)
                  exact growOp_done rfl rfl hg (parts_value (by simp [go_sem, h21]))
                refine And.intro (fun ac W hO hU H => ?_) ?_
                · have h228 : ac.tmps[228]? = some (.pointer (some ⟨w7.heap.size, 0, none⟩)) := isV_get (W := W) (H 29 228 rfl)
                  have hg : ac.tmps[227]? = some (.bool false) := isV_get (W := W) (H 28 227 rfl)
                  have f0 := m5 W hU
                  exact growOp_done rfl rfl hg (parts_value (by simp [go_sem, h228, f0]))
                refine And.intro (fun ac W hO hU H => ?_) ?_
                · have h26 : ac.tmps[26]? = some (.int .i64 k) := (hO 26 rfl).trans rfl
                  have hg : ac.tmps[227]? = some (.bool false) := isV_get (W := W) (H 28 227 rfl)
                  exact growOp_done rfl rfl hg (parts_value (by simp [go_sem, h26]))
                refine And.intro (fun ac W hO hU H => ?_) ?_
                · have h229 : ac.tmps[229]? = some (.slice (some ⟨bc, oc, none⟩) C.pages.length c5) := isV_get (W := W) (H 30 229 rfl)
                  have h230 : ac.tmps[230]? = some (.int .i64 k) := isV_get (W := W) (H 31 230 rfl)
                  have hg : ac.tmps[227]? = some (.bool false) := isV_get (W := W) (H 28 227 rfl)
                  exact growOp_done rfl rfl hg (parts_value (by simp [go_sem, h229, h230, iC']))
                refine And.intro (fun ac W hO hU H => ?_) ?_
                · have h231 : ac.tmps[231]? = some (.pointer (some ⟨bc, oc + k, none⟩)) := isV_get (W := W) (H 32 231 rfl)
                  have hg : ac.tmps[227]? = some (.bool false) := isV_get (W := W) (H 28 227 rfl)
                  have f0 := ec W hU
                  exact growOp_done rfl rfl hg (parts_value (by simp [go_sem, h231, f0]))
                refine And.intro (fun ac W hO hU H => ?_) ?_
                · have h5 : ac.tmps[5]? = some (.pointer (some ⟨w.heap.size, 0, none⟩)) := (hO 5 rfl).trans rfl
                  have hg : ac.tmps[227]? = some (.bool false) := isV_get (W := W) (H 28 227 rfl)
                  exact growOp_done rfl rfl hg (parts_value (by simp [go_sem, h5]))
                refine And.intro (fun ac W hO hU H => ?_) ?_
                · have h233 : ac.tmps[233]? = some (.pointer (some ⟨w.heap.size, 0, none⟩)) := isV_get (W := W) (H 34 233 rfl)
                  have hg : ac.tmps[227]? = some (.bool false) := isV_get (W := W) (H 28 227 rfl)
                  have f0 := mf W hU
                  exact growOp_done rfl rfl hg (parts_value (by simp [go_sem, h233, f0]))
                refine And.intro (fun ac W hO hU H => ?_) ?_
                · have h26 : ac.tmps[26]? = some (.int .i64 k) := (hO 26 rfl).trans rfl
                  have hg : ac.tmps[227]? = some (.bool false) := isV_get (W := W) (H 28 227 rfl)
                  exact growOp_done rfl rfl hg (parts_value (by simp [go_sem, h26]))
                refine And.intro (fun ac W hO hU H => ?_) ?_
                · have h234 : ac.tmps[234]? = some (.slice (some ⟨bf, of, none⟩) f.pages.length cf) := isV_get (W := W) (H 35 234 rfl)
                  have h235 : ac.tmps[235]? = some (.int .i64 k) := isV_get (W := W) (H 36 235 rfl)
                  have hg : ac.tmps[227]? = some (.bool false) := isV_get (W := W) (H 28 227 rfl)
                  exact growOp_done rfl rfl hg (parts_value (by simp [go_sem, h234, h235, hlt]))
                refine And.intro (fun ac W hO hU H => ?_) ?_
                · have h236 : ac.tmps[236]? = some (.pointer (some ⟨bf, of + k, none⟩)) := isV_get (W := W) (H 37 236 rfl)
                  have hg : ac.tmps[227]? = some (.bool false) := isV_get (W := W) (H 28 227 rfl)
                  have f0 := ef W hU
                  exact growOp_done rfl rfl hg (parts_value (by simp [go_sem, h236, f0]))
                refine And.intro (fun ac W hO hU H => ?_) ?_
                · have h232 : ac.tmps[232]? = some (.string z) := isV_get (W := W) (H 33 232 rfl)
                  have h237 : ac.tmps[237]? = some (.string z) := isV_get (W := W) (H 38 237 rfl)
                  have hg : ac.tmps[227]? = some (.bool false) := isV_get (W := W) (H 28 227 rfl)
                  exact growOp_done rfl rfl hg (parts_value (by simp [go_sem, h232, h237]))
                refine And.intro (fun ac W hO hU H => ?_) ?_
                · have h227 : ac.tmps[227]? = some (.bool false) := isV_get (W := W) (H 28 227 rfl)
                  have h238 : ac.tmps[238]? = some (.bool false) := isV_get (W := W) (H 39 238 rfl)
                  have hg : ac.tmps[202]? = some (.bool true) := isV_get (W := W) (H 3 202 rfl)
                  exact growOp_done rfl rfl hg (parts_value (by simp [go_sem, h227, h238]))
                refine And.intro (fun ac W hO hU H => ?_) ?_
                · have h239 : ac.tmps[239]? = some (.bool false) := isV_get (W := W) (H 40 239 rfl)
                  have hg : ac.tmps[202]? = some (.bool true) := isV_get (W := W) (H 3 202 rfl)
                  exact growOp_done rfl rfl hg (parts_value (by simp [go_sem, h239]))
                refine And.intro (fun ac W hO hU H => ?_) ?_
                · have h23 : ac.tmps[23]? = some (.pointer (some ⟨w8.heap.size, 0, none⟩)) := (hO 23 rfl).trans rfl
                  have hg : ac.tmps[240]? = some (.bool false) := isV_get (W := W) (H 41 240 rfl)
                  exact growOp_done rfl rfl hg (parts_value (by simp [go_sem, h23]))
                refine And.intro (fun ac W hO hU H => ?_) ?_
                · have h241 : ac.tmps[241]? = some (.pointer (some ⟨w8.heap.size, 0, none⟩)) := isV_get (W := W) (H 42 241 rfl)
                  have hg : ac.tmps[240]? = some (.bool false) := isV_get (W := W) (H 41 240 rfl)
                  have f0 := m6 W hU
                  exact growOp_done rfl rfl hg (parts_value (by simp [go_sem, h241, f0]))
                refine And.intro (fun ac W hO hU H => ?_) ?_
                · have h26 : ac.tmps[26]? = some (.int .i64 k) := (hO 26 rfl).trans rfl
                  have hg : ac.tmps[240]? = some (.bool false) := isV_get (W := W) (H 41 240 rfl)
                  exact growOp_done rfl rfl hg (parts_value (by simp [go_sem, h26]))
                refine And.intro (fun ac W hO hU H => ?_) ?_
                · have h242 : ac.tmps[242]? = some (.slice (some ⟨bd, od, none⟩) E.pages.length c6) := isV_get (W := W) (H 43 242 rfl)
                  have h243 : ac.tmps[243]? = some (.int .i64 k) := isV_get (W := W) (H 44 243 rfl)
                  have hg : ac.tmps[240]? = some (.bool false) := isV_get (W := W) (H 41 240 rfl)
                  exact growOp_done rfl rfl hg (parts_value (by simp [go_sem, h242, h243, iD']))
                refine And.intro (fun ac W hO hU H => ?_) ?_
                · have h244 : ac.tmps[244]? = some (.pointer (some ⟨bd, od + k, none⟩)) := isV_get (W := W) (H 45 244 rfl)
                  have hg : ac.tmps[240]? = some (.bool false) := isV_get (W := W) (H 41 240 rfl)
                  have f0 := ed W hU
                  exact growOp_done rfl rfl hg (parts_value (by simp [go_sem, h244, f0]))
                refine And.intro (fun ac W hO hU H => ?_) ?_
                · have h5 : ac.tmps[5]? = some (.pointer (some ⟨w.heap.size, 0, none⟩)) := (hO 5 rfl).trans rfl
                  have hg : ac.tmps[240]? = some (.bool false) := isV_get (W := W) (H 41 240 rfl)
                  exact growOp_done rfl rfl hg (parts_value (by simp [go_sem, h5]))
                refine And.intro (fun ac W hO hU H => ?_) ?_
                · have h246 : ac.tmps[246]? = some (.pointer (some ⟨w.heap.size, 0, none⟩)) := isV_get (W := W) (H 47 246 rfl)
                  have hg : ac.tmps[240]? = some (.bool false) := isV_get (W := W) (H 41 240 rfl)
                  have f0 := mf W hU
                  exact growOp_done rfl rfl hg (parts_value (by simp [go_sem, h246, f0]))
                refine And.intro (fun ac W hO hU H => ?_) ?_
                · have h26 : ac.tmps[26]? = some (.int .i64 k) := (hO 26 rfl).trans rfl
                  have hg : ac.tmps[240]? = some (.bool false) := isV_get (W := W) (H 41 240 rfl)
                  exact growOp_done rfl rfl hg (parts_value (by simp [go_sem, h26]))
                refine And.intro (fun ac W hO hU H => ?_) ?_
                · have h247 : ac.tmps[247]? = some (.slice (some ⟨bf, of, none⟩) f.pages.length cf) := isV_get (W := W) (H 48 247 rfl)
                  have h248 : ac.tmps[248]? = some (.int .i64 k) := isV_get (W := W) (H 49 248 rfl)
                  have hg : ac.tmps[240]? = some (.bool false) := isV_get (W := W) (H 41 240 rfl)
                  exact growOp_done rfl rfl hg (parts_value (by simp [go_sem, h247, h248, hlt]))
                refine And.intro (fun ac W hO hU H => ?_) ?_
                · have h249 : ac.tmps[249]? = some (.pointer (some ⟨bf, of + k, none⟩)) := isV_get (W := W) (H 50 249 rfl)
                  have hg : ac.tmps[240]? = some (.bool false) := isV_get (W := W) (H 41 240 rfl)
                  have f0 := ef W hU
                  exact growOp_done rfl rfl hg (parts_value (by simp [go_sem, h249, f0]))
                refine And.intro (fun ac W hO hU H => ?_) ?_
                · have h245 : ac.tmps[245]? = some (.string z) := isV_get (W := W) (H 46 245 rfl)
                  have h250 : ac.tmps[250]? = some (.string z) := isV_get (W := W) (H 51 250 rfl)
                  have hg : ac.tmps[240]? = some (.bool false) := isV_get (W := W) (H 41 240 rfl)
                  exact growOp_done rfl rfl hg (parts_value (by simp [go_sem, h245, h250]))
                refine And.intro (fun ac W hO hU H => ?_) ?_
                · have h240 : ac.tmps[240]? = some (.bool false) := isV_get (W := W) (H 41 240 rfl)
                  have h251 : ac.tmps[251]? = some (.bool false) := isV_get (W := W) (H 52 251 rfl)
                  have hg : ac.tmps[202]? = some (.bool true) := isV_get (W := W) (H 3 202 rfl)
                  exact growOp_done rfl rfl hg (parts_value (by simp [go_sem, h240, h251]))
                refine And.intro (fun ac W hO hU H => ?_) ?_
                · have h202 : ac.tmps[202]? = some (.bool true) := isV_get (W := W) (H 3 202 rfl)
                  have h252 : ac.tmps[252]? = some (.bool false) := isV_get (W := W) (H 53 252 rfl)
                  exact growOp_plain rfl (parts_value (by simp [go_sem, h202, h252]))
                exact trivial
              · intro W xs hU hks
                obtain ⟨y0, rfl, g0⟩ := holdAll_is hks
                obtain ⟨y1, rfl, g1⟩ := holdAll_is g0
                obtain ⟨y2, rfl, g2⟩ := holdAll_is g1
                obtain ⟨y3, rfl, g3⟩ := holdAll_is g2
                obtain ⟨y4, rfl, g4⟩ := holdAll_is g3
                obtain ⟨y5, rfl, g5⟩ := holdAll_is g4
                obtain ⟨y6, rfl, g6⟩ := holdAll_is g5
                obtain ⟨y7, rfl, g7⟩ := holdAll_is g6
                obtain ⟨y8, rfl, g8⟩ := holdAll_is g7
                obtain ⟨y9, rfl, g9⟩ := holdAll_is g8
                obtain ⟨y10, rfl, g10⟩ := holdAll_is g9
                obtain ⟨y11, rfl, g11⟩ := holdAll_is g10
                obtain ⟨y12, rfl, g12⟩ := holdAll_is g11
                obtain ⟨y13, rfl, g13⟩ := holdAll_is g12
                obtain ⟨y14, rfl, g14⟩ := holdAll_is g13
                obtain ⟨y15, rfl, g15⟩ := holdAll_is g14
                obtain ⟨y16, rfl, g16⟩ := holdAll_is g15
                obtain ⟨y17, rfl, g17⟩ := holdAll_is g16
                obtain ⟨y18, rfl, g18⟩ := holdAll_is g17
                obtain ⟨y19, rfl, g19⟩ := holdAll_is g18
                obtain ⟨y20, rfl, g20⟩ := holdAll_is g19
                obtain ⟨y21, rfl, g21⟩ := holdAll_is g20
                obtain ⟨y22, rfl, g22⟩ := holdAll_is g21
                obtain ⟨y23, rfl, g23⟩ := holdAll_is g22
                obtain ⟨y24, rfl, g24⟩ := holdAll_is g23
                obtain ⟨y25, rfl, g25⟩ := holdAll_is g24
                obtain ⟨y26, rfl, g26⟩ := holdAll_is g25
                obtain ⟨y27, rfl, g27⟩ := holdAll_is g26
                obtain ⟨y28, rfl, g28⟩ := holdAll_is g27
                obtain ⟨y29, rfl, g29⟩ := holdAll_is g28
                obtain ⟨y30, rfl, g30⟩ := holdAll_is g29
                obtain ⟨y31, rfl, g31⟩ := holdAll_is g30
                obtain ⟨y32, rfl, g32⟩ := holdAll_is g31
                obtain ⟨y33, rfl, g33⟩ := holdAll_is g32
                obtain ⟨y34, rfl, g34⟩ := holdAll_is g33
                obtain ⟨y35, rfl, g35⟩ := holdAll_is g34
                obtain ⟨y36, rfl, g36⟩ := holdAll_is g35
                obtain ⟨y37, rfl, g37⟩ := holdAll_is g36
                obtain ⟨y38, rfl, g38⟩ := holdAll_is g37
                obtain ⟨y39, rfl, g39⟩ := holdAll_is g38
                obtain ⟨y40, rfl, g40⟩ := holdAll_is g39
                obtain ⟨y41, rfl, g41⟩ := holdAll_is g40
                obtain ⟨y42, rfl, g42⟩ := holdAll_is g41
                obtain ⟨y43, rfl, g43⟩ := holdAll_is g42
                obtain ⟨y44, rfl, g44⟩ := holdAll_is g43
                obtain ⟨y45, rfl, g45⟩ := holdAll_is g44
                obtain ⟨y46, rfl, g46⟩ := holdAll_is g45
                obtain ⟨y47, rfl, g47⟩ := holdAll_is g46
                obtain ⟨y48, rfl, g48⟩ := holdAll_is g47
                obtain ⟨y49, rfl, g49⟩ := holdAll_is g48
                obtain ⟨y50, rfl, g50⟩ := holdAll_is g49
                obtain ⟨y51, rfl, g51⟩ := holdAll_is g50
                obtain ⟨y52, rfl, g52⟩ := holdAll_is g51
                obtain ⟨y53, rfl, g53⟩ := holdAll_is g52
                obtain ⟨y54, rfl, g54⟩ := holdAll_is g53
                obtain rfl := holdAll_nil g54
                clear hks g0 g1 g2 g3 g4 g5 g6 g7 g8 g9 g10 g11 g12 g13 g14 g15 g16 g17 g18 g19 g20 g21 g22 g23 g24 g25 g26 g27 g28 g29 g30 g31 g32 g33 g34 g35 g36 g37 g38 g39 g40 g41 g42 g43 g44 g45 g46 g47 g48 g49 g50 g51 g52 g53 g54
                simp only [List.take_succ_cons, List.take_zero, List.drop_succ_cons, List.drop_zero, endTmps, List.setIfInBounds_toArray, List.set]
                go_wp2_with fail
                refine ⟨⟨k + 1, by omega, by go_num, Ups.trans hu (drew_ups hU)⟩, ?_⟩
                simp [intOf]; omega
          · have q6 := M6.out
            have q7 := M7.out
            have q8 := M8.out
            have q9 := M9.out
            rw [HX.out] at q6 q8 q9
            obtain ⟨ba, oa, rfl, ca⟩ := hr3.page (k := pg) (by rw [M3.out]; exact hpg)
            obtain ⟨bb, ob, rfl, cb⟩ := hr4.page (k := pg) (by rw [M4.out]; exact hpg)
            have iA : (pg : Int) < A.pages.length := by rw [M3.out]; omega
            have iB : (pg : Int) < B.pages.length := by rw [M4.out]; omega
            generalize oldT A pg = u at *
            generalize oldT B pg = v at *
            have Q6 := Lib.hid q6
            have Q7 := Lib.hid q7
            have su' : u.size ≤ 140737488355328 := by omega
            have sv' : v.size ≤ 140737488355328 := by omega
            clear q6 q7 q8 q9
            have m3 := fun W (hU : Ups (World.drew wr) W) => (block_cells (block_ups hb3 (drew_ups hU))).1
            have m4 := fun W (hU : Ups (World.drew wr) W) => (block_cells (block_ups hb4 (drew_ups hU))).1
            have ea := fun W (hU : Ups (World.drew wr) W) => cell_ups (drew_ups hU) ca
            have eb := fun W (hU : Ups (World.drew wr) W) => cell_ups (drew_ups hU) cb
            obtain ⟨kf0, kf1, kf2, kf3, kf4⟩ := block_cells hbf
            go_wp2_with fail
            clear kf0 kf1 kf2 kf3 kf4
            refine wp_region_parts (N := 32) (n := 305) (ks := [isV (.string x), isV (.pointer (some ⟨w5.heap.size, 0, none⟩)), isV (.slice (some ⟨ba, oa, none⟩) A.pages.length c3), isV (.int .i64 pg), isV (.pointer (some ⟨ba, oa + pg, none⟩)), isV (.string u), isV (.string (andT x u)), isV (.pointer (some ⟨w5.heap.size, 0, none⟩)), isV (.slice (some ⟨ba, oa, none⟩) A.pages.length c3), isV (.int .i64 pg), isV (.pointer (some ⟨ba, oa + pg, none⟩)), isV (.string u), isV (.bool true), isV (.bool true), isV (.pointer (some ⟨w5.heap.size, 0, none⟩)), isV (.slice (some ⟨ba, oa, none⟩) A.pages.length c3), isV (.int .i64 pg), isV (.pointer (some ⟨ba, oa + pg, none⟩)), isV (.string u), isV (.pointer (some ⟨w6.heap.size, 0, none⟩)), isV (.slice (some ⟨bb, ob, none⟩) B.pages.length c4), isV (.int .i64 pg), isV (.pointer (some ⟨bb, ob + pg, none⟩)), isV (.string v), isV (.string (orT u v)), isV (.pointer (some ⟨w5.heap.size, 0, none⟩)), isV (.slice (some ⟨ba, oa, none⟩) A.pages.length c3), isV (.int .i64 pg), isV (.pointer (some ⟨ba, oa + pg, none⟩)), isV (.string u), isV (.bool true), isV (.bool true)]) (by decide +kernel) (by decide +kernel) (by decide +kernel) (by simp) rfl (by decide +kernel) ⟨steady_is _, steady_is _, steady_is _, steady_is _, steady_is _, steady_is _, steady_is _, steady_is _, steady_is _, steady_is _, steady_is _, steady_is _, steady_is _, steady_is _, steady_is _, steady_is _, steady_is _, steady_is _, steady_is _, steady_is _, steady_is _, steady_is _, steady_is _, steady_is _, steady_is _, steady_is _, steady_is _, steady_is _, steady_is _, steady_is _, steady_is _, steady_is _, trivial⟩ ?_ ?_
            · refine And.intro (fun ac W hO hU H => ?_) ?_
              · have h25 : ac.tmps[25]? = some (.string x) := (hO 25 rfl).trans rfl
                exact growOp_plain rfl (parts_value (by simp [go_sem, h25]))
              refine And.intro (fun ac W hO hU H => ?_) ?_
              · have h17 : ac.tmps[17]? = some (.pointer (some ⟨w5.heap.size, 0, none⟩)) := (hO 17 rfl).trans rfl
                exact growOp_plain rfl (parts_value (by simp [go_sem, h17]))
              refine And.intro (fun ac W hO hU H => ?_) ?_
              · have h255 : ac.tmps[255]? = some (.pointer (some ⟨w5.heap.size, 0, none⟩)) := isV_get (W := W) (H 1 255 rfl)
                have f0 := m3 W hU
                exact growOp_plain rfl (parts_value (by simp [go_sem, h255, f0]))
              refine And.intro (fun ac W hO hU H => ?_) ?_
              · have h1 : ac.tmps[1]? = some (.int .i64 pg) := (hO 1 rfl).trans rfl
                exact growOp_plain rfl (parts_value (by simp [go_sem, h1]))
              refine And.intro (fun ac W hO hU H => ?_) ?_
              · have h256 : ac.tmps[256]? = some (.slice (some ⟨ba, oa, none⟩) A.pages.length c3) := isV_get (W := W) (H 2 256 rfl)
                have h257 : ac.tmps[257]? = some (.int .i64 pg) := isV_get (W := W) (H 3 257 rfl)
                exact growOp_plain rfl (parts_value (by simp [go_sem, h256, h257, iA]))
              refine And.intro (fun ac W hO hU H => ?_) ?_
              · have h258 : ac.tmps[258]? = some (.pointer (some ⟨ba, oa + pg, none⟩)) := isV_get (W := W) (H 4 258 rfl)
                have f0 := ea W hU
                exact growOp_plain rfl (parts_value (by simp [go_sem, h258, f0]))
              refine And.intro (fun ac W hO hU H => ?_) ?_
              · have h254 : ac.tmps[254]? = some (.string x) := isV_get (W := W) (H 0 254 rfl)
                have h259 : ac.tmps[259]? = some (.string u) := isV_get (W := W) (H 5 259 rfl)
                exact growOp_plain rfl (parts_call_is (args := #[.string x, .string u]) (by simp [go_sem, h254, h259]) (oand_t x u W sx' su'))
              refine And.intro (fun ac W hO hU H => ?_) ?_
              · have h17 : ac.tmps[17]? = some (.pointer (some ⟨w5.heap.size, 0, none⟩)) := (hO 17 rfl).trans rfl
                exact growOp_plain rfl (parts_value (by simp [go_sem, h17]))
              refine And.intro (fun ac W hO hU H => ?_) ?_
              · have h261 : ac.tmps[261]? = some (.pointer (some ⟨w5.heap.size, 0, none⟩)) := isV_get (W := W) (H 7 261 rfl)
                have f0 := m3 W hU
                exact growOp_plain rfl (parts_value (by simp [go_sem, h261, f0]))
              refine And.intro (fun ac W hO hU H => ?_) ?_
              · have h1 : ac.tmps[1]? = some (.int .i64 pg) := (hO 1 rfl).trans rfl
                exact growOp_plain rfl (parts_value (by simp [go_sem, h1]))
              refine And.intro (fun ac W hO hU H => ?_) ?_
              · have h262 : ac.tmps[262]? = some (.slice (some ⟨ba, oa, none⟩) A.pages.length c3) := isV_get (W := W) (H 8 262 rfl)
                have h263 : ac.tmps[263]? = some (.int .i64 pg) := isV_get (W := W) (H 9 263 rfl)
                exact growOp_plain rfl (parts_value (by simp [go_sem, h262, h263, iA]))
              refine And.intro (fun ac W hO hU H => ?_) ?_
              · have h264 : ac.tmps[264]? = some (.pointer (some ⟨ba, oa + pg, none⟩)) := isV_get (W := W) (H 10 264 rfl)
                have f0 := ea W hU
                exact growOp_plain rfl (parts_value (by simp [go_sem, h264, f0]))
              refine And.intro (fun ac W hO hU H => ?_) ?_
              · have h260 : ac.tmps[260]? = some (.string (andT x u)) := isV_get (W := W) (H 6 260 rfl)
                have h265 : ac.tmps[265]? = some (.string u) := isV_get (W := W) (H 11 265 rfl)
                exact growOp_plain rfl (parts_value (by simp [go_sem, h260, h265, Q6.out]))
              refine And.intro (fun ac W hO hU H => ?_) ?_
              · have h266 : ac.tmps[266]? = some (.bool true) := isV_get (W := W) (H 12 266 rfl)
                exact growOp_plain rfl (parts_value (by simp [go_sem, h266]))
              refine And.intro (fun ac W hO hU H => ?_) ?_
              · have h17 : ac.tmps[17]? = some (.pointer (some ⟨w5.heap.size, 0, none⟩)) := (hO 17 rfl).trans rfl
                have hg : ac.tmps[267]? = some (.bool true) := isV_get (W := W) (H 13 267 rfl)
                exact growOp_done rfl rfl hg (parts_value (by simp [go_sem, h17]))
              refine And.intro (fun ac W hO hU H => ?_) ?_
              · have h268 : ac.tmps[268]? = some (.pointer (some ⟨w5.heap.size, 0, none⟩)) := isV_get (W := W) (H 14 268 rfl)
                have hg : ac.tmps[267]? = some (.bool true) := isV_get (W := W) (H 13 267 rfl)
                have f0 := m3 W hU
                exact growOp_done rfl rfl hg (parts_value (by simp [go_sem, h268, f0]))
              refine And.intro (fun ac W hO hU H => ?_) ?_
              · have h1 : ac.tmps[1]? = some (.int .i64 pg) := (hO 1 rfl).trans rfl
                have hg : ac.tmps[267]? = some (.bool true) := isV_get (W := W) (H 13 267 rfl)
                exact growOp_done rfl rfl hg (parts_value (by simp [go_sem, h1]))
              refine And.intro (fun ac W hO hU H => ?_) ?_
              · have h269 : ac.tmps[269]? = some (.slice (some ⟨ba, oa, none⟩) A.pages.length c3) := isV_get (W := W) (H 15 269 rfl)
                have h270 : ac.tmps[270]? = some (.int .i64 pg) := isV_get (W := W) (H 16 270 rfl)
                have hg : ac.tmps[267]? = some (.bool true) := isV_get (W := W) (H 13 267 rfl)
                exact growOp_done rfl rfl hg (parts_value (by simp [go_sem, h269, h270, iA]))
              refine And.intro (fun ac W hO hU H => ?_) ?_
              · have h271 : ac.tmps[271]? = some (.pointer (some ⟨ba, oa + pg, none⟩)) := isV_get (W := W) (H 17 271 rfl)
                have hg : ac.tmps[267]? = some (.bool true) := isV_get (W := W) (H 13 267 rfl)
                have f0 := ea W hU
                exact growOp_done rfl rfl hg (parts_value (by simp [go_sem, h271, f0]))
              refine And.intro (fun ac W hO hU H => ?_) ?_
              · have h19 : ac.tmps[19]? = some (.pointer (some ⟨w6.heap.size, 0, none⟩)) := (hO 19 rfl).trans rfl
                have hg : ac.tmps[267]? = some (.bool true) := isV_get (W := W) (H 13 267 rfl)
                exact growOp_done rfl rfl hg (parts_value (by simp [go_sem, h19]))
              refine And.intro (fun ac W hO hU H => ?_) ?_
              · have h273 : ac.tmps[273]? = some (.pointer (some ⟨w6.heap.size, 0, none⟩)) := isV_get (W := W) (H 19 273 rfl)
                have hg : ac.tmps[267]? = some (.bool true) := isV_get (W := W) (H 13 267 rfl)
                have f0 := m4 W hU
                exact growOp_done rfl rfl hg (parts_value (by simp [go_sem, h273, f0]))
              refine And.intro (fun ac W hO hU H => ?_) ?_
              · have h1 : ac.tmps[1]? = some (.int .i64 pg) := (hO 1 rfl).trans rfl
                have hg : ac.tmps[267]? = some (.bool true) := isV_get (W := W) (H 13 267 rfl)
                exact growOp_done rfl rfl hg (parts_value (by simp [go_sem, h1]))
              refine And.intro (fun ac W hO hU H => ?_) ?_
              · have h274 : ac.tmps[274]? = some (.slice (some ⟨bb, ob, none⟩) B.pages.length c4) := isV_get (W := W) (H 20 274 rfl)
                have h275 : ac.tmps[275]? = some (.int .i64 pg) := isV_get (W := W) (H 21 275 rfl)
                have hg : ac.tmps[267]? = some (.bool true) := isV_get (W := W) (H 13 267 rfl)
                exact growOp_done rfl rfl hg (parts_value (by simp [go_sem, h274, h275, iB]))
              refine And.intro (fun ac W hO hU H => ?_) ?_
              · have h276 : ac.tmps[276]? = some (.pointer (some ⟨bb, ob + pg, none⟩)) := isV_get (W := W) (H 22 276 rfl)
                have hg : ac.tmps[267]? = some (.bool true) := isV_get (W := W) (H 13 267 rfl)
                have f0 := eb W hU
                exact growOp_done rfl rfl hg (parts_value (by simp [go_sem, h276, f0]))
              refine And.intro (fun ac W hO hU H => ?_) ?_
              · have h272 : ac.tmps[272]? = some (.string u) := isV_get (W := W) (H 18 272 rfl)
                have h277 : ac.tmps[277]? = some (.string v) := isV_get (W := W) (H 23 277 rfl)
                have hg : ac.tmps[267]? = some (.bool true) := isV_get (W := W) (H 13 267 rfl)
                exact growOp_done rfl rfl hg (parts_call_is (args := #[.string u, .string v]) (by simp [go_sem, h272, h277]) (oor_t u v W su' sv'))
              refine And.intro (fun ac W hO hU H => ?_) ?_
              · have h17 : ac.tmps[17]? = some (.pointer (some ⟨w5.heap.size, 0, none⟩)) := (hO 17 rfl).trans rfl
                have hg : ac.tmps[267]? = some (.bool true) := isV_get (W := W) (H 13 267 rfl)
                exact growOp_done rfl rfl hg (parts_value (by simp [go_sem, h17]))
              refine And.intro (fun ac W hO hU H => ?_) ?_
              · have h279 : ac.tmps[279]? = some (.pointer (some ⟨w5.heap.size, 0, none⟩)) := isV_get (W := W) (H 25 279 rfl)
                have hg : ac.tmps[267]? = some (.bool true) := isV_get (W := W) (H 13 267 rfl)
                have f0 := m3 W hU
                exact growOp_done rfl rfl hg (parts_value (by simp [go_sem, h279, f0]))
              refine And.intro (fun ac W hO hU H => ?_) ?_
              · have h1 : ac.tmps[1]? = some (.int .i64 pg) := (hO 1 rfl).trans rfl
                have hg : ac.tmps[267]? = some (.bool true) := isV_get (W := W) (H 13 267 rfl)
                exact growOp_done rfl rfl hg (parts_value (by simp [go_sem, h1]))
              refine And.intro (fun ac W hO hU H => ?_) ?_
              · have h280 : ac.tmps[280]? = some (.slice (some ⟨ba, oa, none⟩) A.pages.length c3) := isV_get (W := W) (H 26 280 rfl)
                have h281 : ac.tmps[281]? = some (.int .i64 pg) := isV_get (W := W) (H 27 281 rfl)
                have hg : ac.tmps[267]? = some (.bool true) := isV_get (W := W) (H 13 267 rfl)
                exact growOp_done rfl rfl hg (parts_value (by simp [go_sem, h280, h281, iA]))
              refine And.intro (fun ac W hO hU H => ?_) ?_
              · have h282 : ac.tmps[282]? = some (.pointer (some ⟨ba, oa + pg, none⟩)) := isV_get (W := W) (H 28 282 rfl)
                have hg : ac.tmps[267]? = some (.bool true) := isV_get (W := W) (H 13 267 rfl)
                have f0 := ea W hU
                exact growOp_done rfl rfl hg (parts_value (by simp [go_sem, h282, f0]))
              refine And.intro (fun ac W hO hU H => ?_) ?_
              · have h278 : ac.tmps[278]? = some (.string (orT u v)) := isV_get (W := W) (H 24 278 rfl)
                have h283 : ac.tmps[283]? = some (.string u) := isV_get (W := W) (H 29 283 rfl)
                have hg : ac.tmps[267]? = some (.bool true) := isV_get (W := W) (H 13 267 rfl)
                exact growOp_done rfl rfl hg (parts_value (by simp [go_sem, h278, h283, Q7.out]))
              refine And.intro (fun ac W hO hU H => ?_) ?_
              · have h267 : ac.tmps[267]? = some (.bool true) := isV_get (W := W) (H 13 267 rfl)
                have h284 : ac.tmps[284]? = some (.bool true) := isV_get (W := W) (H 30 284 rfl)
                exact growOp_plain rfl (parts_value (by simp [go_sem, h267, h284]))
              exact trivial
            · intro w51 xs hU hks
              obtain ⟨y0, rfl, g0⟩ := holdAll_is hks
              obtain ⟨y1, rfl, g1⟩ := holdAll_is g0
              obtain ⟨y2, rfl, g2⟩ := holdAll_is g1
              obtain ⟨y3, rfl, g3⟩ := holdAll_is g2
              obtain ⟨y4, rfl, g4⟩ := holdAll_is g3
              obtain ⟨y5, rfl, g5⟩ := holdAll_is g4
              obtain ⟨y6, rfl, g6⟩ := holdAll_is g5
              obtain ⟨y7, rfl, g7⟩ := holdAll_is g6
              obtain ⟨y8, rfl, g8⟩ := holdAll_is g7
              obtain ⟨y9, rfl, g9⟩ := holdAll_is g8
              obtain ⟨y10, rfl, g10⟩ := holdAll_is g9
              obtain ⟨y11, rfl, g11⟩ := holdAll_is g10
              obtain ⟨y12, rfl, g12⟩ := holdAll_is g11
              obtain ⟨y13, rfl, g13⟩ := holdAll_is g12
              obtain ⟨y14, rfl, g14⟩ := holdAll_is g13
              obtain ⟨y15, rfl, g15⟩ := holdAll_is g14
              obtain ⟨y16, rfl, g16⟩ := holdAll_is g15
              obtain ⟨y17, rfl, g17⟩ := holdAll_is g16
              obtain ⟨y18, rfl, g18⟩ := holdAll_is g17
              obtain ⟨y19, rfl, g19⟩ := holdAll_is g18
              obtain ⟨y20, rfl, g20⟩ := holdAll_is g19
              obtain ⟨y21, rfl, g21⟩ := holdAll_is g20
              obtain ⟨y22, rfl, g22⟩ := holdAll_is g21
              obtain ⟨y23, rfl, g23⟩ := holdAll_is g22
              obtain ⟨y24, rfl, g24⟩ := holdAll_is g23
              obtain ⟨y25, rfl, g25⟩ := holdAll_is g24
              obtain ⟨y26, rfl, g26⟩ := holdAll_is g25
              obtain ⟨y27, rfl, g27⟩ := holdAll_is g26
              obtain ⟨y28, rfl, g28⟩ := holdAll_is g27
              obtain ⟨y29, rfl, g29⟩ := holdAll_is g28
              obtain ⟨y30, rfl, g30⟩ := holdAll_is g29
              obtain ⟨y31, rfl, g31⟩ := holdAll_is g30
              obtain rfl := holdAll_nil g31
              clear hks g0 g1 g2 g3 g4 g5 g6 g7 g8 g9 g10 g11 g12 g13 g14 g15 g16 g17 g18 g19 g20 g21 g22 g23 g24 g25 g26 g27 g28 g29 g30 g31
              simp only [List.take_succ_cons, List.take_zero, List.drop_succ_cons, List.drop_zero, endTmps, List.setIfInBounds_toArray, List.set]
              have ub51 : Ups wr w51 := drew_ups hU
              replace hrf := hrf.ups (Ups.trans (Ups.refl _) ub51)
              replace hbf := block_ups hbf (Ups.trans (Ups.refl _) ub51)
              have ltf_51 : w.heap.size < w51.heap.size := (Array.getElem?_eq_some_iff.1 hbf).1
              replace hr1 := hr1.ups (Ups.trans (Ups.refl _) ub51)
              replace hb1 := block_ups hb1 (Ups.trans (Ups.refl _) ub51)
              have lt1_51 : w3.heap.size < w51.heap.size := (Array.getElem?_eq_some_iff.1 hb1).1
              replace hr2 := hr2.ups (Ups.trans (Ups.refl _) ub51)
              replace hb2 := block_ups hb2 (Ups.trans (Ups.refl _) ub51)
              have lt2_51 : w4.heap.size < w51.heap.size := (Array.getElem?_eq_some_iff.1 hb2).1
              replace hr3 := hr3.ups (Ups.trans (Ups.refl _) ub51)
              replace hb3 := block_ups hb3 (Ups.trans (Ups.refl _) ub51)
              have lt3_51 : w5.heap.size < w51.heap.size := (Array.getElem?_eq_some_iff.1 hb3).1
              replace hr4 := hr4.ups (Ups.trans (Ups.refl _) ub51)
              replace hb4 := block_ups hb4 (Ups.trans (Ups.refl _) ub51)
              have lt4_51 : w6.heap.size < w51.heap.size := (Array.getElem?_eq_some_iff.1 hb4).1
              replace hr5 := hr5.ups (Ups.trans (Ups.refl _) ub51)
              replace hb5 := block_ups hb5 (Ups.trans (Ups.refl _) ub51)
              have lt5_51 : w7.heap.size < w51.heap.size := (Array.getElem?_eq_some_iff.1 hb5).1
              replace hr6 := hr6.ups (Ups.trans (Ups.refl _) ub51)
              replace hb6 := block_ups hb6 (Ups.trans (Ups.refl _) ub51)
              have lt6_51 : w8.heap.size < w51.heap.size := (Array.getElem?_eq_some_iff.1 hb6).1
              replace uw := Ups.trans uw (Ups.trans (Ups.refl _) ub51)
              clear hU
              clear m3 m4 ea eb
              have hdead := M1.out
              have hc := rints_calls (hr3.ups (Ups.refl _)).wears (hrf.ups (Ups.refl _)).wears (by have := n12.out; rw [M2.out]; omega)
              rw [show decide (A.wear = f.wear) = true from decide_eq_true M2.out] at hc
              obtain ⟨kf0, kf1, kf2, kf3, kf4⟩ := block_cells hbf
              obtain ⟨k30, k31, k32, k33, k34⟩ := block_cells hb3
              go_wp2_with fail
              refine hc.mono ?_
              clear hc
              rintro e w52 ⟨rfl, uu⟩
              clear kf0 kf1 kf2 kf3 kf4 k30 k31 k32 k33 k34
              have ub52 : Ups w51 w52 := uu
              replace hrf := hrf.ups (Ups.trans (Ups.refl _) ub52)
              replace hbf := block_ups hbf (Ups.trans (Ups.refl _) ub52)
              have ltf_52 : w.heap.size < w52.heap.size := (Array.getElem?_eq_some_iff.1 hbf).1
              replace hr1 := hr1.ups (Ups.trans (Ups.refl _) ub52)
              replace hb1 := block_ups hb1 (Ups.trans (Ups.refl _) ub52)
              have lt1_52 : w3.heap.size < w52.heap.size := (Array.getElem?_eq_some_iff.1 hb1).1
              replace hr2 := hr2.ups (Ups.trans (Ups.refl _) ub52)
              replace hb2 := block_ups hb2 (Ups.trans (Ups.refl _) ub52)
              have lt2_52 : w4.heap.size < w52.heap.size := (Array.getElem?_eq_some_iff.1 hb2).1
              replace hr3 := hr3.ups (Ups.trans (Ups.refl _) ub52)
              replace hb3 := block_ups hb3 (Ups.trans (Ups.refl _) ub52)
              have lt3_52 : w5.heap.size < w52.heap.size := (Array.getElem?_eq_some_iff.1 hb3).1
              replace hr4 := hr4.ups (Ups.trans (Ups.refl _) ub52)
              replace hb4 := block_ups hb4 (Ups.trans (Ups.refl _) ub52)
              have lt4_52 : w6.heap.size < w52.heap.size := (Array.getElem?_eq_some_iff.1 hb4).1
              replace hr5 := hr5.ups (Ups.trans (Ups.refl _) ub52)
              replace hb5 := block_ups hb5 (Ups.trans (Ups.refl _) ub52)
              have lt5_52 : w7.heap.size < w52.heap.size := (Array.getElem?_eq_some_iff.1 hb5).1
              replace hr6 := hr6.ups (Ups.trans (Ups.refl _) ub52)
              replace hb6 := block_ups hb6 (Ups.trans (Ups.refl _) ub52)
              have lt6_52 : w8.heap.size < w52.heap.size := (Array.getElem?_eq_some_iff.1 hb6).1
              replace uw := Ups.trans uw (Ups.trans (Ups.refl _) ub52)
              clear uu
              go_wp2_with fail
              exact bodyPost_ret (v := .bool true) (results_one rfl rfl) rfl ⟨rfl, Ups.trans uw (Ups.refl _)⟩

end Go.Proofs.Ytjpapjijlbfemaa
