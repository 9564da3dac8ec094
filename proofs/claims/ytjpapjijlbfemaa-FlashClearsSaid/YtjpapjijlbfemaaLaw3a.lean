/- FlashSteps, walked. -/
import Derived.Test.YtjpapjijlbfemaaWorks3
import Derived.Test.YtjpapjijlbfemaaRefRest
import Derived.Test.YtjpapjijlbfemaaRefNew
namespace Go.Proofs.Ytjpapjijlbfemaa
open Go.RowKit

theorem sameB_refl (f : Fl) : sameB f f = true := by simp [sameB]
theorem step_len (f : Fl) (n : Nat) (a b : ByteArray) : (stepF f n a b).1.pages.length = f.pages.length ∧ (stepF f n a b).1.wear.length = f.wear.length := by
  unfold stepF
  split
  · exact ⟨rfl, rfl⟩
  · split <;> simp
theorem erase_len (f : Fl) (page : Int) : (eraseF f page).1.pages.length = f.pages.length ∧ (eraseF f page).1.wear.length = f.wear.length := by
  unfold eraseF
  split
  · have := step_len f page.toNat (onesT (oldT f page.toNat).size) (orT (oldT f page.toNat) (maskOf f))
    simp only
    split
    · simp [this.1, this.2]
    · exact this
  · exact ⟨rfl, rfl⟩
theorem program_len (f : Fl) (page at_ : Int) (s : ByteArray) : (programF f page at_ s).1.pages.length = f.pages.length ∧ (programF f page at_ s).1.wear.length = f.wear.length := by
  unfold programF
  split
  · exact step_len _ _ _ _
  · exact ⟨rfl, rfl⟩
theorem wake_len (f : Fl) (fuse : Int) (torn : ByteArray) : (wakeF f fuse torn).1.pages.length = f.pages.length ∧ (wakeF f fuse torn).1.wear.length = f.wear.length := by
  unfold wakeF
  split <;> exact ⟨rfl, rfl⟩
theorem rot_len (f : Fl) (page at_ : Int) (s : ByteArray) : (rotF f page at_ s).1.pages.length = f.pages.length ∧ (rotF f page at_ s).1.wear.length = f.wear.length := by
  unfold rotF
  split <;> simp
theorem new_len (pages size : Int) : (newF pages size).1.pages.length ≤ 6 ∧ (newF pages size).1.wear.length ≤ 6 := by
  unfold newF
  split
  · simp
  · simp only [List.length_replicate]
    omega

set_option maxRecDepth 100000 in
set_option maxHeartbeats 8000000 in
theorem steps_law (f : Fl) (v : Value) (page at_ : Int) (s : ByteArray) (w : World) (h : FlAt w v f) (hf : FlFit f) (ha : at_ ≤ 9223372036854775807) :
    Calls Try.prog 3 #[v, .int .i64 page, .int .i64 at_, .string s] w fun e W' => e = .returned (.bool true) ∧ Ups w W' := by
  obtain ⟨E, ee, hE⟩ : ∃ E ee, eraseF f page = (E, ee) := ⟨_, _, rfl⟩
  obtain ⟨P, pe, hP⟩ : ∃ P pe, programF f page at_ s = (P, pe) := ⟨_, _, rfl⟩
  have lE := erase_len f page
  have lP := program_len f page at_ s
  rw [hE] at lE
  rw [hP] at lP
  simp only at lE lP
  have LE := Lib.hid lE
  have LP := Lib.hid lP
  clear lE lP
  have hrf := h
  clear h
  have hsf := hrf
  obtain ⟨_, _, rfl, ⟨af, cf, rfl, _⟩, ⟨a'f, c'f, rfl, _⟩⟩ := hsf
  have hbf : (w.alloc (.cells #[.slice af f.pages.length cf, .slice a'f f.wear.length c'f, .int .i64 f.fuse, .string f.torn, .bool f.dead] 25)).heap[w.heap.size]? = some (.cells #[.slice af f.pages.length cf, .slice a'f f.wear.length c'f, .int .i64 f.fuse, .string f.torn, .bool f.dead] 25) := alloc_at _ _
  go_enter Try.func3, Try.ntmps3
  have hc := works3 (w.alloc (.cells #[.slice af f.pages.length cf, .slice a'f f.wear.length c'f, .int .i64 f.fuse, .string f.torn, .bool f.dead] 25))
  go_wp2_with fail
  refine hc.mono ?_
  clear hc
  rintro e w1 ⟨rfl, uu⟩
  have ub1 : Ups (w.alloc (.cells #[.slice af f.pages.length cf, .slice a'f f.wear.length c'f, .int .i64 f.fuse, .string f.torn, .bool f.dead] 25)) w1 := uu
  replace hrf := hrf.ups (Ups.trans (up1 _ _) ub1)
  replace hbf := block_ups hbf ub1
  have ltf_1 : w.heap.size < w1.heap.size := (Array.getElem?_eq_some_iff.1 hbf).1
  have uw := Ups.trans (up1 _ _) ub1
  clear uu
  have hc := few_calls f _ w1 (hrf.ups (Ups.refl _)) hf
  obtain ⟨kf0, kf1, kf2, kf3, kf4⟩ := block_cells hbf
  go_wp2_with fail
  refine hc.mono ?_
  clear hc
  rintro e w2 ⟨few, rfl, hfew, uu⟩
  clear kf0 kf1 kf2 kf3 kf4
  have ub2 : Ups w1 w2 := uu
  replace hrf := hrf.ups (Ups.trans (Ups.refl _) ub2)
  replace hbf := block_ups hbf (Ups.trans (Ups.refl _) ub2)
  have ltf_2 : w.heap.size < w2.heap.size := (Array.getElem?_eq_some_iff.1 hbf).1
  replace uw := Ups.trans uw (Ups.trans (Ups.refl _) ub2)
  clear uu
  cases few with
  | false =>
    go_wp2_with fail
    exact bodyPost_ret (v := .bool true) (results_one rfl rfl) rfl ⟨rfl, Ups.trans uw (Ups.refl _)⟩
  | true =>
    obtain ⟨n1, n2⟩ := hfew rfl
    clear hfew
    by_cases hs : (400 : Int) < s.size
    · go_wp2_with fail
      exact bodyPost_ret (v := .bool true) (results_one rfl rfl) rfl ⟨rfl, Ups.trans uw (Ups.refl _)⟩
    have hc := erase_calls f _ page w2 (hrf.ups (Ups.refl _)) hf
    rw [hE] at hc
    obtain ⟨kf0, kf1, kf2, kf3, kf4⟩ := block_cells hbf
    go_wp2_with fail
    refine hc.mono ?_
    clear hc
    rintro e w3 ⟨v1, rfl, hn⟩
    clear kf0 kf1 kf2 kf3 kf4
    have ub3 : Ups w2 w3 := hn.ups
    replace hrf := hrf.ups (Ups.trans (Ups.refl _) ub3)
    replace hbf := block_ups hbf (Ups.trans (Ups.refl _) ub3)
    have ltf_3 : w.heap.size < w3.heap.size := (Array.getElem?_eq_some_iff.1 hbf).1
    replace uw := Ups.trans uw (Ups.trans (Ups.refl _) ub3)
    have hr1 := hn.reads
    clear hn
    have hs1 := hr1
    obtain ⟨_, _, rfl, ⟨a1, c1, rfl, _⟩, ⟨a'1, c'1, rfl, _⟩⟩ := hs1
    have hb1 : (w3.alloc (.cells #[.slice a1 E.pages.length c1, .slice a'1 E.wear.length c'1, .int .i64 E.fuse, .string E.torn, .bool E.dead] 25)).heap[w3.heap.size]? = some (.cells #[.slice a1 E.pages.length c1, .slice a'1 E.wear.length c'1, .int .i64 E.fuse, .string E.torn, .bool E.dead] 25) := alloc_at _ _
    have hc := rerase_calls f _ page (w3.alloc (.cells #[.slice a1 E.pages.length c1, .slice a'1 E.wear.length c'1, .int .i64 E.fuse, .string E.torn, .bool E.dead] 25)) (hrf.ups (up1 _ _)) hf
    rw [hE] at hc
    obtain ⟨kf0, kf1, kf2, kf3, kf4⟩ := block_cells hbf
    go_wp2_with fail
    refine hc.mono ?_
    clear hc
    rintro e w4 ⟨v2, rfl, hn⟩
    clear kf0 kf1 kf2 kf3 kf4
    have ub4 : Ups (w3.alloc (.cells #[.slice a1 E.pages.length c1, .slice a'1 E.wear.length c'1, .int .i64 E.fuse, .string E.torn, .bool E.dead] 25)) w4 := hn.ups
    replace hrf := hrf.ups (Ups.trans (up1 _ _) ub4)
    replace hbf := block_ups hbf (Ups.trans (up1 _ _) ub4)
    have ltf_4 : w.heap.size < w4.heap.size := (Array.getElem?_eq_some_iff.1 hbf).1
    replace hr1 := hr1.ups (Ups.trans (up1 _ _) ub4)
    replace hb1 := block_ups hb1 ub4
    have lt1_4 : w3.heap.size < w4.heap.size := (Array.getElem?_eq_some_iff.1 hb1).1
    replace uw := Ups.trans uw (Ups.trans (up1 _ _) ub4)
    have hr2 := hn.reads
    clear hn
    have hs2 := hr2
    obtain ⟨_, _, rfl, ⟨a2, c2, rfl, _⟩, ⟨a'2, c'2, rfl, _⟩⟩ := hs2
    have hb2 : (w4.alloc (.cells #[.slice a2 E.pages.length c2, .slice a'2 E.wear.length c'2, .int .i64 E.fuse, .string E.torn, .bool E.dead] 25)).heap[w4.heap.size]? = some (.cells #[.slice a2 E.pages.length c2, .slice a'2 E.wear.length c'2, .int .i64 E.fuse, .string E.torn, .bool E.dead] 25) := alloc_at _ _
    have hc := program_calls f _ page at_ s (w4.alloc (.cells #[.slice a2 E.pages.length c2, .slice a'2 E.wear.length c'2, .int .i64 E.fuse, .string E.torn, .bool E.dead] 25)) (hrf.ups (up1 _ _)) hf ha
    rw [hP] at hc
    obtain ⟨kf0, kf1, kf2, kf3, kf4⟩ := block_cells hbf
    go_wp2_with fail
    refine hc.mono ?_
    clear hc
    rintro e w5 ⟨v3, rfl, hn⟩
    clear kf0 kf1 kf2 kf3 kf4
    have ub5 : Ups (w4.alloc (.cells #[.slice a2 E.pages.length c2, .slice a'2 E.wear.length c'2, .int .i64 E.fuse, .string E.torn, .bool E.dead] 25)) w5 := hn.ups
    replace hrf := hrf.ups (Ups.trans (up1 _ _) ub5)
    replace hbf := block_ups hbf (Ups.trans (up1 _ _) ub5)
    have ltf_5 : w.heap.size < w5.heap.size := (Array.getElem?_eq_some_iff.1 hbf).1
    replace hr1 := hr1.ups (Ups.trans (up1 _ _) ub5)
    replace hb1 := block_ups hb1 (Ups.trans (up1 _ _) ub5)
    have lt1_5 : w3.heap.size < w5.heap.size := (Array.getElem?_eq_some_iff.1 hb1).1
    replace hr2 := hr2.ups (Ups.trans (up1 _ _) ub5)
    replace hb2 := block_ups hb2 ub5
    have lt2_5 : w4.heap.size < w5.heap.size := (Array.getElem?_eq_some_iff.1 hb2).1
    replace uw := Ups.trans uw (Ups.trans (up1 _ _) ub5)
    have hr3 := hn.reads
    clear hn
    have hs3 := hr3
    obtain ⟨_, _, rfl, ⟨a3, c3, rfl, _⟩, ⟨a'3, c'3, rfl, _⟩⟩ := hs3
    have hb3 : (w5.alloc (.cells #[.slice a3 P.pages.length c3, .slice a'3 P.wear.length c'3, .int .i64 P.fuse, .string P.torn, .bool P.dead] 25)).heap[w5.heap.size]? = some (.cells #[.slice a3 P.pages.length c3, .slice a'3 P.wear.length c'3, .int .i64 P.fuse, .string P.torn, .bool P.dead] 25) := alloc_at _ _
    have hc := rprogram_calls f _ page at_ s (w5.alloc (.cells #[.slice a3 P.pages.length c3, .slice a'3 P.wear.length c'3, .int .i64 P.fuse, .string P.torn, .bool P.dead] 25)) (hrf.ups (up1 _ _)) hf ha
    rw [hP] at hc
    obtain ⟨kf0, kf1, kf2, kf3, kf4⟩ := block_cells hbf
    go_wp2_with fail
    refine hc.mono ?_
    clear hc
    rintro e w6 ⟨v4, rfl, hn⟩
    clear kf0 kf1 kf2 kf3 kf4
    have ub6 : Ups (w5.alloc (.cells #[.slice a3 P.pages.length c3, .slice a'3 P.wear.length c'3, .int .i64 P.fuse, .string P.torn, .bool P.dead] 25)) w6 := hn.ups
    replace hrf := hrf.ups (Ups.trans (up1 _ _) ub6)
    replace hbf := block_ups hbf (Ups.trans (up1 _ _) ub6)
    have ltf_6 : w.heap.size < w6.heap.size := (Array.getElem?_eq_some_iff.1 hbf).1
    replace hr1 := hr1.ups (Ups.trans (up1 _ _) ub6)
    replace hb1 := block_ups hb1 (Ups.trans (up1 _ _) ub6)
    have lt1_6 : w3.heap.size < w6.heap.size := (Array.getElem?_eq_some_iff.1 hb1).1
    replace hr2 := hr2.ups (Ups.trans (up1 _ _) ub6)
    replace hb2 := block_ups hb2 (Ups.trans (up1 _ _) ub6)
    have lt2_6 : w4.heap.size < w6.heap.size := (Array.getElem?_eq_some_iff.1 hb2).1
    replace hr3 := hr3.ups (Ups.trans (up1 _ _) ub6)
    replace hb3 := block_ups hb3 ub6
    have lt3_6 : w5.heap.size < w6.heap.size := (Array.getElem?_eq_some_iff.1 hb3).1
    replace uw := Ups.trans uw (Ups.trans (up1 _ _) ub6)
    have hr4 := hn.reads
    clear hn
    have hs4 := hr4
    obtain ⟨_, _, rfl, ⟨a4, c4, rfl, _⟩, ⟨a'4, c'4, rfl, _⟩⟩ := hs4
    have hb4 : (w6.alloc (.cells #[.slice a4 P.pages.length c4, .slice a'4 P.wear.length c'4, .int .i64 P.fuse, .string P.torn, .bool P.dead] 25)).heap[w6.heap.size]? = some (.cells #[.slice a4 P.pages.length c4, .slice a'4 P.wear.length c'4, .int .i64 P.fuse, .string P.torn, .bool P.dead] 25) := alloc_at _ _
    have hc := rsame_calls E E _ _ (w6.alloc (.cells #[.slice a4 P.pages.length c4, .slice a'4 P.wear.length c'4, .int .i64 P.fuse, .string P.torn, .bool P.dead] 25)) (hr1.ups (up1 _ _)) (hr2.ups (up1 _ _)) (by have := LE.out; omega) (by have := LE.out; omega)
    rw [sameB_refl] at hc
    obtain ⟨k10, k11, k12, k13, k14⟩ := block_cells hb1
    obtain ⟨k20, k21, k22, k23, k24⟩ := block_cells hb2
    go_wp2_with fail
    refine hc.mono ?_
    clear hc
    rintro e w7 ⟨rfl, uu⟩
    clear k10 k11 k12 k13 k14 k20 k21 k22 k23 k24
    have ub7 : Ups (w6.alloc (.cells #[.slice a4 P.pages.length c4, .slice a'4 P.wear.length c'4, .int .i64 P.fuse, .string P.torn, .bool P.dead] 25)) w7 := uu
    replace hrf := hrf.ups (Ups.trans (up1 _ _) ub7)
    replace hbf := block_ups hbf (Ups.trans (up1 _ _) ub7)
    have ltf_7 : w.heap.size < w7.heap.size := (Array.getElem?_eq_some_iff.1 hbf).1
    replace hr1 := hr1.ups (Ups.trans (up1 _ _) ub7)
    replace hb1 := block_ups hb1 (Ups.trans (up1 _ _) ub7)
    have lt1_7 : w3.heap.size < w7.heap.size := (Array.getElem?_eq_some_iff.1 hb1).1
    replace hr2 := hr2.ups (Ups.trans (up1 _ _) ub7)
    replace hb2 := block_ups hb2 (Ups.trans (up1 _ _) ub7)
    have lt2_7 : w4.heap.size < w7.heap.size := (Array.getElem?_eq_some_iff.1 hb2).1
    replace hr3 := hr3.ups (Ups.trans (up1 _ _) ub7)
    replace hb3 := block_ups hb3 (Ups.trans (up1 _ _) ub7)
    have lt3_7 : w5.heap.size < w7.heap.size := (Array.getElem?_eq_some_iff.1 hb3).1
    replace hr4 := hr4.ups (Ups.trans (up1 _ _) ub7)
    replace hb4 := block_ups hb4 ub7
    have lt4_7 : w6.heap.size < w7.heap.size := (Array.getElem?_eq_some_iff.1 hb4).1
    replace uw := Ups.trans uw (Ups.trans (up1 _ _) ub7)
    clear uu
    have hc := rsame_calls P P _ _ w7 (hr3.ups (Ups.refl _)) (hr4.ups (Ups.refl _)) (by have := LP.out; omega) (by have := LP.out; omega)
    rw [sameB_refl] at hc
    obtain ⟨k30, k31, k32, k33, k34⟩ := block_cells hb3
    obtain ⟨k40, k41, k42, k43, k44⟩ := block_cells hb4
    go_wp2_with fail
    refine hc.mono ?_
    clear hc
    rintro e w8 ⟨rfl, uu⟩
    clear k30 k31 k32 k33 k34 k40 k41 k42 k43 k44
    have ub8 : Ups w7 w8 := uu
    replace hrf := hrf.ups (Ups.trans (Ups.refl _) ub8)
    replace hbf := block_ups hbf (Ups.trans (Ups.refl _) ub8)
    have ltf_8 : w.heap.size < w8.heap.size := (Array.getElem?_eq_some_iff.1 hbf).1
    replace hr1 := hr1.ups (Ups.trans (Ups.refl _) ub8)
    replace hb1 := block_ups hb1 (Ups.trans (Ups.refl _) ub8)
    have lt1_8 : w3.heap.size < w8.heap.size := (Array.getElem?_eq_some_iff.1 hb1).1
    replace hr2 := hr2.ups (Ups.trans (Ups.refl _) ub8)
    replace hb2 := block_ups hb2 (Ups.trans (Ups.refl _) ub8)
    have lt2_8 : w4.heap.size < w8.heap.size := (Array.getElem?_eq_some_iff.1 hb2).1
    replace hr3 := hr3.ups (Ups.trans (Ups.refl _) ub8)
    replace hb3 := block_ups hb3 (Ups.trans (Ups.refl _) ub8)
    have lt3_8 : w5.heap.size < w8.heap.size := (Array.getElem?_eq_some_iff.1 hb3).1
    replace hr4 := hr4.ups (Ups.trans (Ups.refl _) ub8)
    replace hb4 := block_ups hb4 (Ups.trans (Ups.refl _) ub8)
    have lt4_8 : w6.heap.size < w8.heap.size := (Array.getElem?_eq_some_iff.1 hb4).1
    replace uw := Ups.trans uw (Ups.trans (Ups.refl _) ub8)
    clear uu
    go_wp2_with fail
    exact bodyPost_ret (v := .bool true) (results_one rfl rfl) rfl ⟨rfl, Ups.trans uw (Ups.refl _)⟩

end Go.Proofs.Ytjpapjijlbfemaa
