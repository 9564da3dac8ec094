/- PageErased, walked. -/
import Derived.Test.YtmabpnkdagipfaaGreatBase5
import Derived.LoopTactic
namespace Go.Proofs.YtmabpnkdagipfaaGreat
open Go.RowKit

theorem wake_code {f W : Fl} {fuse e : Int} {torn : ByteArray} (h : wakeF f fuse torn = (W, e)) : e = 0 ∨ ((e : Int) != 0) = true := by
  rcases wake_facts h with ⟨rfl, _⟩ | ⟨rfl, _⟩
  · exact .inr rfl
  · exact .inl rfl
structure Erased (f A B : Fl) (n : Nat) : Prop where
  alen : A.pages.length = f.pages.length
  blen : B.pages.length = f.pages.length
  torn : ∃ y, oldT A n = orT (oldT f n) y
  whole : oldT B n = onesT (oldT f n).size
  size : (oldT f n).size ≤ 8192
theorem erased_plain {f W V A B : Fl} {i j : Int} {n : Nat} {torn : ByteArray} (hW : wakeF f 0 torn = (W, 0)) (hV : wakeF f (-1) ⟨#[]⟩ = (V, 0)) (hA : eraseF W n = (A, i)) (hB : eraseF V n = (B, j)) (hn : n < f.pages.length) : j = 0 ∧ Erased f A B n := by
  rcases wake_facts hW with ⟨h1, _⟩ | ⟨_, hc, ht, rfl, hcW⟩
  · omega
  rcases wake_facts hV with ⟨h1, _⟩ | ⟨_, _, _, rfl, hcV⟩
  · omega
  have ho := old_size hc hn
  have bW := hasB_of hcW (n := n) hn
  have bV := hasB_of hcV (n := n) hn
  unfold eraseF at hA hB
  rw [if_pos bW] at hA
  rw [if_pos bV] at hB
  simp only [stepF, Int.toNat_natCast, Bool.false_eq_true, if_false, if_true, show ¬ (8 : Int) = 0 by decide, Prod.mk.injEq] at hA
  simp only [stepF, Int.toNat_natCast, Bool.false_eq_true, if_false, if_true, show ¬ (-1 : Int) = 0 by decide, Prod.mk.injEq] at hB
  obtain ⟨hA, rfl⟩ := hA
  obtain ⟨hB, rfl⟩ := hB
  have pA : A.pages = f.pages.set n (orT (oldT f n) (maskOf { f with dead := false, fuse := 0, torn := torn })) := by rw [← hA]; rfl
  have pB : B.pages = f.pages.set n (onesT (oldT f n).size) := by rw [← hB]; rfl
  have oA := oldT_put pA hn n
  have oB := oldT_put pB hn n
  rw [if_pos rfl] at oA oB
  exact ⟨rfl, by rw [pA]; simp, by rw [pB]; simp, ⟨_, oA⟩, oB, by omega⟩

/-- What is read where a page was erased in part. -/
theorem erased_reads (s y : ByteArray) (z k : Nat) : ((rreadT (place (orT s y) z k)).2 = 0 ∧ (rreadT (place s z k)).2 = 0 ∧ (rreadT (place (orT s y) z k)).1 = (rreadT (place s z k)).1) ∨
    ((rreadT (place (orT s y) z k)).2 = 0 ∧ (rreadT (place s z k)).2 = 2) ∨ (rreadT (place (orT s y) z k)).2 = 2 := by
  rcases rread_codes (place (orT s y) z k) with h | h
  · rcases rread_codes (place s z k) with h' | h'
    · exact .inl ⟨h, h', erased_part s y z k h h'⟩
    · exact .inr (.inl ⟨h, h'⟩)
  · exact .inr (.inr h)

set_option maxRecDepth 100000 in
set_option maxHeartbeats 20000000 in
theorem erased_law (f : Fl) (v : Value) (page : Int) (torn : ByteArray) (nn : Nat) (hnn : nn < 256) (w : World) (h : FlAt w v f) (hf : FlFit f) :
    Calls Tryz.prog 5 #[v, .int .i64 page, .string torn, .int .u8 nn] w fun e W' => e = .returned (.bool true) ∧ Ups w W' := by
  obtain ⟨Wk, we, hW⟩ : ∃ W e, wakeF f 0 torn = (W, e) := ⟨_, _, rfl⟩
  obtain ⟨Vk, ve, hV⟩ : ∃ W e, wakeF f (-1) ⟨#[]⟩ = (W, e) := ⟨_, _, rfl⟩
  obtain ⟨A, ae, hA⟩ : ∃ A ae, eraseF Wk page = (A, ae) := ⟨_, _, rfl⟩
  obtain ⟨B, be, hB⟩ : ∃ B be, eraseF Vk page = (B, be) := ⟨_, _, rfl⟩
  have fW := wake_fit f 0 torn hf (by decide) (by decide)
  have fV := wake_fit f (-1) ⟨#[]⟩ hf (by decide) (by decide)
  rw [hW] at fW
  rw [hV] at fV
  have HW := Lib.hid (wake_code hW)
  have HV := Lib.hid (wake_code hV)
  have hrf := h
  clear h
  have hsf := hrf
  obtain ⟨_, _, rfl, ⟨af, cf, rfl, _⟩, ⟨a'f, c'f, rfl, _⟩⟩ := hsf
  have hbf : (w.alloc (.cells #[.slice af f.pages.length cf, .slice a'f f.wear.length c'f, .int .i64 f.fuse, .string f.torn, .bool f.dead] 31)).heap[w.heap.size]? = some (.cells #[.slice af f.pages.length cf, .slice a'f f.wear.length c'f, .int .i64 f.fuse, .string f.torn, .bool f.dead] 31) := alloc_at _ _
  go_enter Tryz.func5, Tryz.ntmps5
  have hc := works5 (w.alloc (.cells #[.slice af f.pages.length cf, .slice a'f f.wear.length c'f, .int .i64 f.fuse, .string f.torn, .bool f.dead] 31))
  go_wp2_with fail
  refine hc.mono ?_
  clear hc
  rintro e w1 ⟨rfl, uu⟩
  have ub1 : Ups (w.alloc (.cells #[.slice af f.pages.length cf, .slice a'f f.wear.length c'f, .int .i64 f.fuse, .string f.torn, .bool f.dead] 31)) w1 := uu
  replace hrf := hrf.ups (Ups.trans (up1 _ _) ub1)
  replace hbf := block_ups hbf ub1
  have ltf_1 : w.heap.size < w1.heap.size := (Array.getElem?_eq_some_iff.1 hbf).1
  have uw := Ups.trans (up1 _ _) ub1
  clear uu
  have hc := few_calls f _ w1 (hrf.ups (Ups.refl _)) hf
  obtain ⟨kf0, kf1, kf2, kf3, kf4⟩ := block_cells hbf
  go_wp2_with fail
  refine hc.mono ?_
  clear hc
  rintro e w2 ⟨few, rfl, hfew, uu⟩
  clear kf0 kf1 kf2 kf3 kf4
  have ub2 : Ups w1 w2 := uu
  replace hrf := hrf.ups (Ups.trans (Ups.refl _) ub2)
  replace hbf := block_ups hbf (Ups.trans (Ups.refl _) ub2)
  have ltf_2 : w.heap.size < w2.heap.size := (Array.getElem?_eq_some_iff.1 hbf).1
  replace uw := Ups.trans uw (Ups.trans (Ups.refl _) ub2)
  clear uu
  cases few with
  | false =>
    clear hfew
    have hc := wake_calls f _ 0 torn w2 (hrf.ups (Ups.refl _)) hf
    rw [hW] at hc
    obtain ⟨kf0, kf1, kf2, kf3, kf4⟩ := block_cells hbf
    go_wp2_with fail
    refine hc.mono ?_
    clear hc
    rintro e w3 ⟨v1, rfl, hn⟩
    clear kf0 kf1 kf2 kf3 kf4
    have ub3 : Ups w2 w3 := hn.ups
    replace hrf := hrf.ups (Ups.trans (Ups.refl _) ub3)
    replace hbf := block_ups hbf (Ups.trans (Ups.refl _) ub3)
    have ltf_3 : w.heap.size < w3.heap.size := (Array.getElem?_eq_some_iff.1 hbf).1
    replace uw := Ups.trans uw (Ups.trans (Ups.refl _) ub3)
    have hr1 := hn.reads
    clear hn
    have hs1 := hr1
    obtain ⟨_, _, rfl, ⟨a1, c1, rfl, _⟩, ⟨a'1, c'1, rfl, _⟩⟩ := hs1
    have hb1 : (w3.alloc (.cells #[.slice a1 Wk.pages.length c1, .slice a'1 Wk.wear.length c'1, .int .i64 Wk.fuse, .string Wk.torn, .bool Wk.dead] 31)).heap[w3.heap.size]? = some (.cells #[.slice a1 Wk.pages.length c1, .slice a'1 Wk.wear.length c'1, .int .i64 Wk.fuse, .string Wk.torn, .bool Wk.dead] 31) := alloc_at _ _
    have hc := wake_calls f _ (-1) ⟨#[]⟩ (w3.alloc (.cells #[.slice a1 Wk.pages.length c1, .slice a'1 Wk.wear.length c'1, .int .i64 Wk.fuse, .string Wk.torn, .bool Wk.dead] 31)) (hrf.ups (up1 _ _)) hf
    rw [hV] at hc
    obtain ⟨kf0, kf1, kf2, kf3, kf4⟩ := block_cells hbf
    go_wp2_with fail
    refine hc.mono ?_
    clear hc
    rintro e w4 ⟨v2, rfl, hn⟩
    clear kf0 kf1 kf2 kf3 kf4
    have ub4 : Ups (w3.alloc (.cells #[.slice a1 Wk.pages.length c1, .slice a'1 Wk.wear.length c'1, .int .i64 Wk.fuse, .string Wk.torn, .bool Wk.dead] 31)) w4 := hn.ups
    replace hrf := hrf.ups (Ups.trans (up1 _ _) ub4)
    replace hbf := block_ups hbf (Ups.trans (up1 _ _) ub4)
    have ltf_4 : w.heap.size < w4.heap.size := (Array.getElem?_eq_some_iff.1 hbf).1
    replace hr1 := hr1.ups (Ups.trans (up1 _ _) ub4)
    replace hb1 := block_ups hb1 ub4
    have lt1_4 : w3.heap.size < w4.heap.size := (Array.getElem?_eq_some_iff.1 hb1).1
    replace uw := Ups.trans uw (Ups.trans (up1 _ _) ub4)
    have hr2 := hn.reads
    clear hn
    have hs2 := hr2
    obtain ⟨_, _, rfl, ⟨a2, c2, rfl, _⟩, ⟨a'2, c'2, rfl, _⟩⟩ := hs2
    have hb2 : (w4.alloc (.cells #[.slice a2 Vk.pages.length c2, .slice a'2 Vk.wear.length c'2, .int .i64 Vk.fuse, .string Vk.torn, .bool Vk.dead] 31)).heap[w4.heap.size]? = some (.cells #[.slice a2 Vk.pages.length c2, .slice a'2 Vk.wear.length c'2, .int .i64 Vk.fuse, .string Vk.torn, .bool Vk.dead] 31) := alloc_at _ _
    go_wp2_with fail
    exact bodyPost_ret (v := .bool true) (results_one rfl rfl) rfl ⟨rfl, Ups.trans uw (up1 _ _)⟩
  | true =>
    clear hfew
    have hc := wake_calls f _ 0 torn w2 (hrf.ups (Ups.refl _)) hf
    rw [hW] at hc
    obtain ⟨kf0, kf1, kf2, kf3, kf4⟩ := block_cells hbf
    go_wp2_with fail
    refine hc.mono ?_
    clear hc
    rintro e w3 ⟨v1, rfl, hn⟩
    clear kf0 kf1 kf2 kf3 kf4
    have ub3 : Ups w2 w3 := hn.ups
    replace hrf := hrf.ups (Ups.trans (Ups.refl _) ub3)
    replace hbf := block_ups hbf (Ups.trans (Ups.refl _) ub3)
    have ltf_3 : w.heap.size < w3.heap.size := (Array.getElem?_eq_some_iff.1 hbf).1
    replace uw := Ups.trans uw (Ups.trans (Ups.refl _) ub3)
    have hr1 := hn.reads
    clear hn
    have hs1 := hr1
    obtain ⟨_, _, rfl, ⟨a1, c1, rfl, _⟩, ⟨a'1, c'1, rfl, _⟩⟩ := hs1
    have hb1 : (w3.alloc (.cells #[.slice a1 Wk.pages.length c1, .slice a'1 Wk.wear.length c'1, .int .i64 Wk.fuse, .string Wk.torn, .bool Wk.dead] 31)).heap[w3.heap.size]? = some (.cells #[.slice a1 Wk.pages.length c1, .slice a'1 Wk.wear.length c'1, .int .i64 Wk.fuse, .string Wk.torn, .bool Wk.dead] 31) := alloc_at _ _
    have hc := wake_calls f _ (-1) ⟨#[]⟩ (w3.alloc (.cells #[.slice a1 Wk.pages.length c1, .slice a'1 Wk.wear.length c'1, .int .i64 Wk.fuse, .string Wk.torn, .bool Wk.dead] 31)) (hrf.ups (up1 _ _)) hf
    rw [hV] at hc
    obtain ⟨kf0, kf1, kf2, kf3, kf4⟩ := block_cells hbf
    go_wp2_with fail
    refine hc.mono ?_
    clear hc
    rintro e w4 ⟨v2, rfl, hn⟩
    clear kf0 kf1 kf2 kf3 kf4
    have ub4 : Ups (w3.alloc (.cells #[.slice a1 Wk.pages.length c1, .slice a'1 Wk.wear.length c'1, .int .i64 Wk.fuse, .string Wk.torn, .bool Wk.dead] 31)) w4 := hn.ups
    replace hrf := hrf.ups (Ups.trans (up1 _ _) ub4)
    replace hbf := block_ups hbf (Ups.trans (up1 _ _) ub4)
    have ltf_4 : w.heap.size < w4.heap.size := (Array.getElem?_eq_some_iff.1 hbf).1
    replace hr1 := hr1.ups (Ups.trans (up1 _ _) ub4)
    replace hb1 := block_ups hb1 ub4
    have lt1_4 : w3.heap.size < w4.heap.size := (Array.getElem?_eq_some_iff.1 hb1).1
    replace uw := Ups.trans uw (Ups.trans (up1 _ _) ub4)
    have hr2 := hn.reads
    clear hn
    have hs2 := hr2
    obtain ⟨_, _, rfl, ⟨a2, c2, rfl, _⟩, ⟨a'2, c'2, rfl, _⟩⟩ := hs2
    have hb2 : (w4.alloc (.cells #[.slice a2 Vk.pages.length c2, .slice a'2 Vk.wear.length c'2, .int .i64 Vk.fuse, .string Vk.torn, .bool Vk.dead] 31)).heap[w4.heap.size]? = some (.cells #[.slice a2 Vk.pages.length c2, .slice a'2 Vk.wear.length c'2, .int .i64 Vk.fuse, .string Vk.torn, .bool Vk.dead] 31) := alloc_at _ _
    rcases HW.out with rfl | hwe
    · rcases HV.out with rfl | hve
      · by_cases hp0 : page < 0
        · go_wp2_with fail
          exact bodyPost_ret (v := .bool true) (results_one rfl rfl) rfl ⟨rfl, Ups.trans uw (up1 _ _)⟩
        by_cases hp1 : (f.pages.length : Int) ≤ page
        · obtain ⟨kf0, kf1, kf2, kf3, kf4⟩ := block_cells hbf
          go_wp2_with fail
          exact bodyPost_ret (v := .bool true) (results_one rfl rfl) rfl ⟨rfl, Ups.trans uw (up1 _ _)⟩
        obtain ⟨pg, rfl⟩ : ∃ pg : Nat, page = pg := ⟨page.toNat, by omega⟩
        have hpg : pg < f.pages.length := by omega
        have hpn : ¬ f.pages.length ≤ pg := by omega
        obtain ⟨rfl, T0⟩ := erased_plain hW hV hA hB hpg
        have T := Lib.hid T0
        clear T0
        have hc := erase_calls Wk _ pg (w4.alloc (.cells #[.slice a2 Vk.pages.length c2, .slice a'2 Vk.wear.length c'2, .int .i64 Vk.fuse, .string Vk.torn, .bool Vk.dead] 31)) (hr1.ups (up1 _ _)) fW
        rw [hA] at hc
        obtain ⟨k10, k11, k12, k13, k14⟩ := block_cells hb1
        obtain ⟨kf0, kf1, kf2, kf3, kf4⟩ := block_cells hbf
        go_wp2_with fail
        refine hc.mono ?_
        clear hc
        rintro e w5 ⟨v3, rfl, hn⟩
        clear k10 k11 k12 k13 k14 kf0 kf1 kf2 kf3 kf4
        have ub5 : Ups (w4.alloc (.cells #[.slice a2 Vk.pages.length c2, .slice a'2 Vk.wear.length c'2, .int .i64 Vk.fuse, .string Vk.torn, .bool Vk.dead] 31)) w5 := hn.ups
        replace hrf := hrf.ups (Ups.trans (up1 _ _) ub5)
        replace hbf := block_ups hbf (Ups.trans (up1 _ _) ub5)
        have ltf_5 : w.heap.size < w5.heap.size := (Array.getElem?_eq_some_iff.1 hbf).1
        replace hr1 := hr1.ups (Ups.trans (up1 _ _) ub5)
        replace hb1 := block_ups hb1 (Ups.trans (up1 _ _) ub5)
        have lt1_5 : w3.heap.size < w5.heap.size := (Array.getElem?_eq_some_iff.1 hb1).1
        replace hr2 := hr2.ups (Ups.trans (up1 _ _) ub5)
        replace hb2 := block_ups hb2 ub5
        have lt2_5 : w4.heap.size < w5.heap.size := (Array.getElem?_eq_some_iff.1 hb2).1
        replace uw := Ups.trans uw (Ups.trans (up1 _ _) ub5)
        have hr3 := hn.reads
        clear hn
        have hs3 := hr3
        obtain ⟨_, _, rfl, ⟨a3, c3, rfl, _⟩, ⟨a'3, c'3, rfl, _⟩⟩ := hs3
        have hb3 : (w5.alloc (.cells #[.slice a3 A.pages.length c3, .slice a'3 A.wear.length c'3, .int .i64 A.fuse, .string A.torn, .bool A.dead] 31)).heap[w5.heap.size]? = some (.cells #[.slice a3 A.pages.length c3, .slice a'3 A.wear.length c'3, .int .i64 A.fuse, .string A.torn, .bool A.dead] 31) := alloc_at _ _
        have hc := erase_calls Vk _ pg (w5.alloc (.cells #[.slice a3 A.pages.length c3, .slice a'3 A.wear.length c'3, .int .i64 A.fuse, .string A.torn, .bool A.dead] 31)) (hr2.ups (up1 _ _)) fV
        rw [hB] at hc
        obtain ⟨k20, k21, k22, k23, k24⟩ := block_cells hb2
        go_wp2_with fail
        refine hc.mono ?_
        clear hc
        rintro e w6 ⟨v4, rfl, hn⟩
        clear k20 k21 k22 k23 k24
        have ub6 : Ups (w5.alloc (.cells #[.slice a3 A.pages.length c3, .slice a'3 A.wear.length c'3, .int .i64 A.fuse, .string A.torn, .bool A.dead] 31)) w6 := hn.ups
        replace hrf := hrf.ups (Ups.trans (up1 _ _) ub6)
        replace hbf := block_ups hbf (Ups.trans (up1 _ _) ub6)
        have ltf_6 : w.heap.size < w6.heap.size := (Array.getElem?_eq_some_iff.1 hbf).1
        replace hr1 := hr1.ups (Ups.trans (up1 _ _) ub6)
        replace hb1 := block_ups hb1 (Ups.trans (up1 _ _) ub6)
        have lt1_6 : w3.heap.size < w6.heap.size := (Array.getElem?_eq_some_iff.1 hb1).1
        replace hr2 := hr2.ups (Ups.trans (up1 _ _) ub6)
        replace hb2 := block_ups hb2 (Ups.trans (up1 _ _) ub6)
        have lt2_6 : w4.heap.size < w6.heap.size := (Array.getElem?_eq_some_iff.1 hb2).1
        replace hr3 := hr3.ups (Ups.trans (up1 _ _) ub6)
        replace hb3 := block_ups hb3 ub6
        have lt3_6 : w5.heap.size < w6.heap.size := (Array.getElem?_eq_some_iff.1 hb3).1
        replace uw := Ups.trans uw (Ups.trans (up1 _ _) ub6)
        have hr4 := hn.reads
        clear hn
        have hs4 := hr4
        obtain ⟨_, _, rfl, ⟨a4, c4, rfl, _⟩, ⟨a'4, c'4, rfl, _⟩⟩ := hs4
        have hb4 : (w6.alloc (.cells #[.slice a4 B.pages.length c4, .slice a'4 B.wear.length c'4, .int .i64 B.fuse, .string B.torn, .bool B.dead] 31)).heap[w6.heap.size]? = some (.cells #[.slice a4 B.pages.length c4, .slice a'4 B.wear.length c'4, .int .i64 B.fuse, .string B.torn, .bool B.dead] 31) := alloc_at _ _
        have hza := T.out.size
        obtain ⟨bf, of, rfl, cf'⟩ := hrf.page hpg
        obtain ⟨ba, oa, rfl, ca'⟩ := hr3.page (k := pg) (by rw [T.out.alen]; exact hpg)
        obtain ⟨bb, ob, rfl, cb'⟩ := hr4.page (k := pg) (by rw [T.out.blen]; exact hpg)
        have iA : (pg : Int) < A.pages.length := by rw [T.out.alen]; omega
        have iB : (pg : Int) < B.pages.length := by rw [T.out.blen]; omega
        have iF : (pg : Int) < f.pages.length := by omega
        have qA : ((A.pages.length : Int) != f.pages.length) = false := by rw [T.out.alen]; simp
        have qB : ((B.pages.length : Int) != f.pages.length) = false := by rw [T.out.blen]; simp
        obtain ⟨y, ey⟩ := T.out.torn
        rw [ey] at ca'
        rw [T.out.whole] at cb'
        have hsa := orT_size (oldT f pg) y
        have hsb := onesT_size (oldT f pg).size
        have hem := ones_empty (oldT f pg).size (sizeN (nn : Int))
        generalize oldT f pg = s at *
        have HEY := Lib.hid ey
        clear ey
        generalize hsx : orT s y = sx at *
        generalize hso : onesT s.size = so at *
        have HSX := Lib.hid hsx
        have HSO := Lib.hid hso
        clear hsx hso
        have HEM := Lib.hid hem
        clear hem
        have cfa : (w6.alloc (.cells #[.slice (some ⟨bb, ob, none⟩) B.pages.length c4, .slice a'4 B.wear.length c'4, .int .i64 B.fuse, .string B.torn, .bool B.dead] 31)).cell? ⟨bf, of + pg, none⟩ = some (.string s) := cell_ups (up1 _ _) cf'
        have hroom : s.size / sizeN (nn : Int) ≤ s.size := Nat.div_le_self _ _
        have hc := proom_calls s (nn : Int) (w6.alloc (.cells #[.slice (some ⟨bb, ob, none⟩) B.pages.length c4, .slice a'4 B.wear.length c'4, .int .i64 B.fuse, .string B.torn, .bool B.dead] 31)) (by omega)
        generalize hrr : s.size / sizeN (nn : Int) = r at *
        have HRR := Lib.hid hrr
        clear hrr
        obtain ⟨kf0, kf1, kf2, kf3, kf4⟩ := block_cells hbf
        obtain ⟨k30, k31, k32, k33, k34⟩ := block_cells hb3
        go_wp2_with fail
        refine hc.mono ?_
        clear hc cfa
        rintro e w7 ⟨rfl, uu⟩
        clear kf0 kf1 kf2 kf3 kf4 k30 k31 k32 k33 k34
        replace cf' := cell_ups (Ups.trans (up1 _ _) uu) cf'
        replace ca' := cell_ups (Ups.trans (up1 _ _) uu) ca'
        replace cb' := cell_ups (Ups.trans (up1 _ _) uu) cb'
        have ub7 : Ups (w6.alloc (.cells #[.slice (some ⟨bb, ob, none⟩) B.pages.length c4, .slice a'4 B.wear.length c'4, .int .i64 B.fuse, .string B.torn, .bool B.dead] 31)) w7 := uu
        replace hrf := hrf.ups (Ups.trans (up1 _ _) ub7)
        replace hbf := block_ups hbf (Ups.trans (up1 _ _) ub7)
        have ltf_7 : w.heap.size < w7.heap.size := (Array.getElem?_eq_some_iff.1 hbf).1
        replace hr1 := hr1.ups (Ups.trans (up1 _ _) ub7)
        replace hb1 := block_ups hb1 (Ups.trans (up1 _ _) ub7)
        have lt1_7 : w3.heap.size < w7.heap.size := (Array.getElem?_eq_some_iff.1 hb1).1
        replace hr2 := hr2.ups (Ups.trans (up1 _ _) ub7)
        replace hb2 := block_ups hb2 (Ups.trans (up1 _ _) ub7)
        have lt2_7 : w4.heap.size < w7.heap.size := (Array.getElem?_eq_some_iff.1 hb2).1
        replace hr3 := hr3.ups (Ups.trans (up1 _ _) ub7)
        replace hb3 := block_ups hb3 (Ups.trans (up1 _ _) ub7)
        have lt3_7 : w5.heap.size < w7.heap.size := (Array.getElem?_eq_some_iff.1 hb3).1
        replace hr4 := hr4.ups (Ups.trans (up1 _ _) ub7)
        replace hb4 := block_ups hb4 ub7
        have lt4_7 : w6.heap.size < w7.heap.size := (Array.getElem?_eq_some_iff.1 hb4).1
        replace uw := Ups.trans uw (Ups.trans (up1 _ _) ub7)
        clear uu
        obtain ⟨kf0, kf1, kf2, kf3, kf4⟩ := block_cells hbf
        obtain ⟨k30, k31, k32, k33, k34⟩ := block_cells hb3
        obtain ⟨k40, k41, k42, k43, k44⟩ := block_cells hb4
        go_wp2_with fail
        go_loopw [21] (fun i wr => ∃ k : Nat, k ≤ r ∧ i = .int .i64 k ∧ Ups w7 wr) (fun i _ => r - (intOf i).toNat)
        case atStart => exact ⟨0, Nat.zero_le _, rfl, Ups.refl _⟩
        case round =>
          obtain ⟨k, hk, rfl, hu⟩ := hrel
          clear kf0 kf1 kf2 kf3 kf4 k30 k31 k32 k33 k34 k40 k41 k42 k43 k44
          replace cf' := cell_ups hu cf'
          replace ca' := cell_ups hu ca'
          replace cb' := cell_ups hu cb'
          replace hrf := hrf.ups (Ups.trans (Ups.refl _) hu)
          replace hbf := block_ups hbf (Ups.trans (Ups.refl _) hu)
          have ltf_50 : w.heap.size < wr.heap.size := (Array.getElem?_eq_some_iff.1 hbf).1
          replace hr1 := hr1.ups (Ups.trans (Ups.refl _) hu)
          replace hb1 := block_ups hb1 (Ups.trans (Ups.refl _) hu)
          have lt1_50 : w3.heap.size < wr.heap.size := (Array.getElem?_eq_some_iff.1 hb1).1
          replace hr2 := hr2.ups (Ups.trans (Ups.refl _) hu)
          replace hb2 := block_ups hb2 (Ups.trans (Ups.refl _) hu)
          have lt2_50 : w4.heap.size < wr.heap.size := (Array.getElem?_eq_some_iff.1 hb2).1
          replace hr3 := hr3.ups (Ups.trans (Ups.refl _) hu)
          replace hb3 := block_ups hb3 (Ups.trans (Ups.refl _) hu)
          have lt3_50 : w5.heap.size < wr.heap.size := (Array.getElem?_eq_some_iff.1 hb3).1
          replace hr4 := hr4.ups (Ups.trans (Ups.refl _) hu)
          replace hb4 := block_ups hb4 (Ups.trans (Ups.refl _) hu)
          have lt4_50 : w6.heap.size < wr.heap.size := (Array.getElem?_eq_some_iff.1 hb4).1
          replace uw := Ups.trans uw (Ups.trans (Ups.refl _) hu)
          by_cases hlt : (k : Int) < r
          · have hlt' : k < s.size / sizeN (nn : Int) := by rw [HRR.out]; omega
            have hltx : k < sx.size / sizeN (nn : Int) := by rw [hsa]; exact hlt'
            have cs1 := fun W => slot_calls sx (nn : Int) (k : Int) W (by omega)
            have cs2 := fun W => slot_calls s (nn : Int) (k : Int) W (by omega)
            rw [slot_at hltx] at cs1
            rw [slot_at hlt'] at cs2
            have hps1 := place_size hltx
            have hps2 := place_size hlt'
            have hz8 := (sizeN_le (nn : Int)).1
            have cr1 := fun W => read_c (place sx (sizeN (nn : Int)) k) W (by omega)
            have cr2 := fun W => read_c (place s (sizeN (nn : Int)) k) W (by omega)
            have hrd := erased_reads s y (sizeN (nn : Int)) k
            rw [HSX.out] at hrd
            clear hps1 hps2 hltx hlt'
            generalize place sx (sizeN (nn : Int)) k = t1 at *
            generalize place s (sizeN (nn : Int)) k = t2 at *
            generalize (rreadT t1).1 = p1 at *
            generalize (rreadT t1).2 = e1 at *
            generalize (rreadT t2).1 = p2 at *
            generalize (rreadT t2).2 = e2 at *
            rcases hrd with ⟨rfl, rfl, rfl⟩ | ⟨rfl, rfl⟩ | rfl
            · obtain ⟨kf0, kf1, kf2, kf3, kf4⟩ := block_cells hbf
              obtain ⟨k30, k31, k32, k33, k34⟩ := block_cells hb3
              go_wp2_with fail
              refine (cs1 _).mono ?_
              rintro e x1 ⟨rfl, g1⟩
              go_wp2_with fail
              refine (cr1 _).mono ?_
              rintro e x2 ⟨rfl, g2⟩
              replace cf' := cell_ups (Ups.trans g1 g2) cf'
              clear kf0 kf1 kf2 kf3 kf4 k30 k31 k32 k33 k34
              have hbf2 := block_ups hbf (Ups.trans g1 g2)
              obtain ⟨kf0, kf1, kf2, kf3, kf4⟩ := block_cells hbf2
              go_wp2_with fail
              refine (cs2 _).mono ?_
              rintro e x3 ⟨rfl, g3⟩
              go_wp2_with fail
              refine (cr2 _).mono ?_
              rintro e x4 ⟨rfl, g4⟩
              go_wp2_with fail
              refine ⟨⟨k + 1, by omega, by go_num, Ups.trans hu (Ups.trans g1 (Ups.trans g2 (Ups.trans g3 g4)))⟩, ?_⟩
              simp [intOf]; omega
            · obtain ⟨kf0, kf1, kf2, kf3, kf4⟩ := block_cells hbf
              obtain ⟨k30, k31, k32, k33, k34⟩ := block_cells hb3
              go_wp2_with fail
              refine (cs1 _).mono ?_
              rintro e x1 ⟨rfl, g1⟩
              go_wp2_with fail
              refine (cr1 _).mono ?_
              rintro e x2 ⟨rfl, g2⟩
              replace cf' := cell_ups (Ups.trans g1 g2) cf'
              clear kf0 kf1 kf2 kf3 kf4 k30 k31 k32 k33 k34
              have hbf2 := block_ups hbf (Ups.trans g1 g2)
              obtain ⟨kf0, kf1, kf2, kf3, kf4⟩ := block_cells hbf2
              go_wp2_with fail
              refine (cs2 _).mono ?_
              rintro e x3 ⟨rfl, g3⟩
              go_wp2_with fail
              refine (cr2 _).mono ?_
              rintro e x4 ⟨rfl, g4⟩
              go_wp2_with fail
              refine ⟨⟨k + 1, by omega, by go_num, Ups.trans hu (Ups.trans g1 (Ups.trans g2 (Ups.trans g3 g4)))⟩, ?_⟩
              simp [intOf]; omega
            · obtain ⟨kf0, kf1, kf2, kf3, kf4⟩ := block_cells hbf
              obtain ⟨k30, k31, k32, k33, k34⟩ := block_cells hb3
              go_wp2_with fail
              refine (cs1 _).mono ?_
              rintro e x1 ⟨rfl, g1⟩
              go_wp2_with fail
              refine (cr1 _).mono ?_
              rintro e x2 ⟨rfl, g2⟩
              replace cf' := cell_ups (Ups.trans g1 g2) cf'
              clear kf0 kf1 kf2 kf3 kf4 k30 k31 k32 k33 k34
              have hbf2 := block_ups hbf (Ups.trans g1 g2)
              obtain ⟨kf0, kf1, kf2, kf3, kf4⟩ := block_cells hbf2
              go_wp2_with fail
              refine (cs2 _).mono ?_
              rintro e x3 ⟨rfl, g3⟩
              go_wp2_with fail
              refine (cr2 _).mono ?_
              rintro e x4 ⟨rfl, g4⟩
              go_wp2_with fail
              refine ⟨⟨k + 1, by omega, by go_num, Ups.trans hu (Ups.trans g1 (Ups.trans g2 (Ups.trans g3 g4)))⟩, ?_⟩
              simp [intOf]; omega
          · have hpn' := HEM.out
            have c1 := fun W => records_calls so (nn : Int) W (by omega)
            have c2 := fun W => bad_calls so (nn : Int) W (by omega)
            have c3 := fun W => next_calls so (nn : Int) W (by omega)
            rw [hpn'.1] at c1
            rw [hpn'.2.1] at c2
            rw [hpn'.2.2] at c3
            clear hpn'
            obtain ⟨k40, k41, k42, k43, k44⟩ := block_cells hb4
            go_wp2_with fail
            refine (c1 _).mono ?_
            rintro e x1 ⟨vr, rfl, ho, g1⟩
            obtain ⟨al, cl, rfl⟩ := owns_slice ho
            clear ho
            clear k40 k41 k42 k43 k44
            have cb2 := cell_ups g1 cb'
            have hb42 := block_ups hb4 g1
            obtain ⟨k40, k41, k42, k43, k44⟩ := block_cells hb42
            go_wp2_with fail
            refine (c2 _).mono ?_
            rintro e x2 ⟨rfl, g2⟩
            clear k40 k41 k42 k43 k44
            have cb3 := cell_ups g2 cb2
            have hb43 := block_ups hb42 g2
            obtain ⟨k40, k41, k42, k43, k44⟩ := block_cells hb43
            go_wp2_with fail
            refine (c3 _).mono ?_
            rintro e x3 ⟨rfl, g3⟩
            go_wp2_with fail
            exact bodyPost_ret (v := .bool true) (results_one rfl rfl) rfl ⟨rfl, Ups.trans uw (Ups.trans g1 (Ups.trans g2 g3))⟩
      · go_wp2_with fail
        exact bodyPost_ret (v := .bool true) (results_one rfl rfl) rfl ⟨rfl, Ups.trans uw (up1 _ _)⟩
    · go_wp2_with fail
      exact bodyPost_ret (v := .bool true) (results_one rfl rfl) rfl ⟨rfl, Ups.trans uw (up1 _ _)⟩

end Go.Proofs.YtmabpnkdagipfaaGreat
