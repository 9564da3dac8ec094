/- What ouroboroslaw03.works comes to: true. -/
import Derived.Test.YtjpapjijlbfemaaFew
import Derived.Outline
namespace Go.Proofs.Ytjpapjijlbfemaa
open Go.RowKit

theorem up1 (W : World) (o : Obj) : Ups W (W.alloc o) := (Below.refl _ _).alloc (Nat.le_refl _) _
theorem up2 (W : World) (o o' : Obj) : Ups W ((W.alloc o).alloc o') := Ups.trans (up1 W o) (up1 _ o')
theorem lit_text (l : List UInt8) (W : World) (B : Nat) (hB : B = W.heap.size) :
    (convert 44 9 (.slice (some ⟨B, 0, none⟩) l.length l.length)).run Try.prog (W.alloc (.cells (cellsB l) 5)) = .ok (.string (bs l)) (W.alloc (.cells (cellsB l) 5)) := by
  subst hB
  exact run_convert_bytes_back (P := Try.prog) (W.alloc (.cells (cellsB l) 5)) 44 9 5 ⟨W.heap.size, 0, none⟩ l.length l Try.underlying44 Try.underlying5 Try.underlying9 (fun j hj => by
    rw [addr0, World.cell?_alloc_mark]
    exact cellsB_get _ j hj)
theorem w3_1 : newF 2 4 = ((⟨[(bs [255, 255, 255, 255]), (bs [255, 255, 255, 255])], [0, 0], -1, ⟨#[]⟩, false⟩ : Fl), 0) := by decide +kernel
theorem w3_2 : programF (⟨[(bs [255, 255, 255, 255]), (bs [255, 255, 255, 255])], [0, 0], -1, ⟨#[]⟩, false⟩ : Fl) 1 1 (bs [240]) = ((⟨[(bs [255, 255, 255, 255]), (bs [255, 240, 255, 255])], [0, 0], -1, ⟨#[]⟩, false⟩ : Fl), 0) := by decide +kernel
theorem w3_3 : programF (⟨[(bs [255, 255, 255, 255]), (bs [255, 240, 255, 255])], [0, 0], -1, ⟨#[]⟩, false⟩ : Fl) 1 1 (bs [15, 15]) = ((⟨[(bs [255, 255, 255, 255]), (bs [255, 0, 15, 255])], [0, 0], -1, ⟨#[]⟩, false⟩ : Fl), 0) := by decide +kernel
theorem w3_4 : eraseF (⟨[(bs [255, 255, 255, 255]), (bs [255, 0, 15, 255])], [0, 0], -1, ⟨#[]⟩, false⟩ : Fl) 1 = ((⟨[(bs [255, 255, 255, 255]), (bs [255, 255, 255, 255])], [0, 1], -1, ⟨#[]⟩, false⟩ : Fl), 0) := by decide +kernel
theorem w3_5 : wakeF (⟨[(bs [255, 255, 255, 255]), (bs [255, 255, 255, 255])], [0, 1], -1, ⟨#[]⟩, false⟩ : Fl) 0 (bs [3]) = ((⟨[(bs [255, 255, 255, 255]), (bs [255, 255, 255, 255])], [0, 1], 0, (bs [3]), false⟩ : Fl), 0) := by decide +kernel
theorem w3_6 : programF (⟨[(bs [255, 255, 255, 255]), (bs [255, 255, 255, 255])], [0, 1], 0, (bs [3]), false⟩ : Fl) 0 0 (bs [0, 0]) = ((⟨[(bs [252, 252, 255, 255]), (bs [255, 255, 255, 255])], [0, 1], 0, (bs [3]), true⟩ : Fl), 8) := by decide +kernel
theorem w3_7 : eraseF (⟨[(bs [252, 252, 255, 255]), (bs [255, 255, 255, 255])], [0, 1], 0, (bs [3]), true⟩ : Fl) 0 = ((⟨[(bs [252, 252, 255, 255]), (bs [255, 255, 255, 255])], [0, 1], 0, (bs [3]), true⟩ : Fl), 8) := by decide +kernel
theorem w3_8 : rotF (⟨[(bs [252, 252, 255, 255]), (bs [255, 255, 255, 255])], [0, 1], 0, (bs [3]), true⟩ : Fl) 0 2 (bs [1]) = ((⟨[(bs [252, 252, 254, 255]), (bs [255, 255, 255, 255])], [0, 1], 0, (bs [3]), true⟩ : Fl), 0) := by decide +kernel

theorem w3_free {v : Value} (W : World) (h : FlAt W v (⟨[(bs [255, 255, 255, 255]), (bs [255, 255, 255, 255])], [0, 1], -1, ⟨#[]⟩, false⟩ : Fl)) : Calls Try.prog 25 #[v, .int .i64 1] W fun e W' => e = .returned (.bool true) ∧ Ups W W' := by
  have := free_calls _ v 1 W h (by unfold FlFit; decide)
  rwa [show freeB (⟨[(bs [255, 255, 255, 255]), (bs [255, 255, 255, 255])], [0, 1], -1, ⟨#[]⟩, false⟩ : Fl) 1 = true by decide +kernel] at this
theorem w3_check {v : Value} (W : World) (h : FlAt W v (⟨[(bs [255, 255, 255, 255]), (bs [255, 255, 255, 255])], [0, 0], -1, ⟨#[]⟩, false⟩ : Fl)) : Calls Try.prog 24 #[v] W fun e W' => e = .returned (.int .i64 0) ∧ Ups W W' := by
  have := check_calls _ v W h (by decide) (by decide)
  rwa [show checkB (⟨[(bs [255, 255, 255, 255]), (bs [255, 255, 255, 255])], [0, 0], -1, ⟨#[]⟩, false⟩ : Fl) = true by decide +kernel] at this
theorem w3_zero (W : World) : Calls Try.prog 24 #[.agg #[.slice none 0 0, .slice none 0 0, .int .i64 0, .string ⟨#[]⟩, .bool false]] W fun e W' => e = .returned (.int .i64 1) ∧ Ups W W' := by
  have := check_calls ⟨[], [], 0, ⟨#[]⟩, false⟩ _ W ⟨_, _, rfl, ⟨none, 0, rfl, fun h => absurd h (Nat.lt_irrefl 0)⟩, ⟨none, 0, rfl, fun h => absurd h (Nat.lt_irrefl 0)⟩⟩ (by decide) (by decide)
  rwa [show checkB ⟨[], [], 0, ⟨#[]⟩, false⟩ = false by decide +kernel] at this
theorem w3_same {v : Value} (W : World) (h : FlAt W v (⟨[(bs [255, 255, 255, 255]), (bs [255, 255, 255, 255])], [0, 0], -1, ⟨#[]⟩, false⟩ : Fl)) : Calls Try.prog 26 #[v, v] W fun e W' => e = .returned (.bool true) ∧ Ups W W' := by
  have := same_calls _ _ v v W h h (by decide) (by decide) (by decide) (by decide)
  rwa [show sameB (⟨[(bs [255, 255, 255, 255]), (bs [255, 255, 255, 255])], [0, 0], -1, ⟨#[]⟩, false⟩ : Fl) (⟨[(bs [255, 255, 255, 255]), (bs [255, 255, 255, 255])], [0, 0], -1, ⟨#[]⟩, false⟩ : Fl) = true by decide +kernel] at this
theorem w3_diff {v v' : Value} (W : World) (h : FlAt W v (⟨[(bs [255, 255, 255, 255]), (bs [255, 255, 255, 255])], [0, 0], -1, ⟨#[]⟩, false⟩ : Fl)) (h' : FlAt W v' (⟨[(bs [255, 255, 255, 255]), (bs [255, 240, 255, 255])], [0, 0], -1, ⟨#[]⟩, false⟩ : Fl)) : Calls Try.prog 26 #[v, v'] W fun e W' => e = .returned (.bool false) ∧ Ups W W' := by
  have := same_calls _ _ v v' W h h' (by decide) (by decide) (by decide) (by decide)
  rwa [show sameB (⟨[(bs [255, 255, 255, 255]), (bs [255, 255, 255, 255])], [0, 0], -1, ⟨#[]⟩, false⟩ : Fl) (⟨[(bs [255, 255, 255, 255]), (bs [255, 240, 255, 255])], [0, 0], -1, ⟨#[]⟩, false⟩ : Fl) = false by decide +kernel] at this

set_option maxRecDepth 100000 in
set_option maxHeartbeats 8000000 in
theorem works3 (w : World) : Calls Try.prog 9 #[] w fun e W' => e = .returned (.bool true) ∧ Ups w W' := by
  have hnew := new_calls 2 4 w
  rw [w3_1] at hnew
  have hlit0 : ∀ (W : World) (B : Nat), B = W.heap.size → (convert 44 9 (.slice (some ⟨B, 0, none⟩) 2 2)).run Try.prog (W.alloc (.cells #[.int .u8 0, .int .u8 0] 5)) = .ok (.string (bs [0, 0])) (W.alloc (.cells #[.int .u8 0, .int .u8 0] 5)) := fun W B hB => lit_text [0, 0] W B hB
  have hlit1 : ∀ (W : World) (B : Nat), B = W.heap.size → (convert 44 9 (.slice (some ⟨B, 0, none⟩) 1 1)).run Try.prog (W.alloc (.cells #[.int .u8 1] 5)) = .ok (.string (bs [1])) (W.alloc (.cells #[.int .u8 1] 5)) := fun W B hB => lit_text [1] W B hB
  have hlit2 : ∀ (W : World) (B : Nat), B = W.heap.size → (convert 44 9 (.slice (some ⟨B, 0, none⟩) 1 1)).run Try.prog (W.alloc (.cells #[.int .u8 3] 5)) = .ok (.string (bs [3])) (W.alloc (.cells #[.int .u8 3] 5)) := fun W B hB => lit_text [3] W B hB
  have hlit3 : ∀ (W : World) (B : Nat), B = W.heap.size → (convert 44 9 (.slice (some ⟨B, 0, none⟩) 2 2)).run Try.prog (W.alloc (.cells #[.int .u8 15, .int .u8 15] 5)) = .ok (.string (bs [15, 15])) (W.alloc (.cells #[.int .u8 15, .int .u8 15] 5)) := fun W B hB => lit_text [15, 15] W B hB
  have hlit4 : ∀ (W : World) (B : Nat), B = W.heap.size → (convert 44 9 (.slice (some ⟨B, 0, none⟩) 1 1)).run Try.prog (W.alloc (.cells #[.int .u8 240] 5)) = .ok (.string (bs [240])) (W.alloc (.cells #[.int .u8 240] 5)) := fun W B hB => lit_text [240] W B hB
  go_enter Try.func9, Try.ntmps9
  go_wp2_with fail
  refine hnew.mono ?_
  rintro e w1 ⟨v1, rfl, hr1, u1, _⟩
  clear hnew
  have hs1 := hr1
  obtain ⟨_, _, rfl, ⟨ap1, cp1, rfl, hp1⟩, ⟨aq1, cq1, rfl, hq1⟩⟩ := hs1
  obtain ⟨b1, o1, rfl, hj1⟩ := hp1 (by decide)
  obtain ⟨b'1, o'1, rfl, hi1⟩ := hq1 (by decide)
  clear hp1 hq1
  have hb1 : (w1.alloc (.cells #[.slice (some ⟨b1, o1, none⟩) 2 cp1, .slice (some ⟨b'1, o'1, none⟩) 2 cq1, .int .i64 (-1), .string ⟨#[]⟩, .bool false] 25)).heap[w1.heap.size]? = some (.cells #[.slice (some ⟨b1, o1, none⟩) 2 cp1, .slice (some ⟨b'1, o'1, none⟩) 2 cq1, .int .i64 (-1), .string ⟨#[]⟩, .bool false] 25) := alloc_at w1 _
  have hc2 := fun (W : World) (hu : Ups w1 W) => program_calls (⟨[(bs [255, 255, 255, 255]), (bs [255, 255, 255, 255])], [0, 0], -1, ⟨#[]⟩, false⟩ : Fl) _ 1 1 (bs [240]) W (hr1.ups hu) (by unfold FlFit; decide) (by decide)
  rw [w3_2] at hc2
  go_wp2_with fail
  refine (hc2 _ (up2 _ _ _)).mono ?_
  rintro e w2 ⟨v2, rfl, hn2⟩
  have uu2 : Ups w1 w2 := (Ups.trans (up2 _ _ _) hn2.ups)
  have ub2 : Ups (w1.alloc (.cells #[.slice (some ⟨b1, o1, none⟩) 2 cp1, .slice (some ⟨b'1, o'1, none⟩) 2 cq1, .int .i64 (-1), .string ⟨#[]⟩, .bool false] 25)) w2 := (Ups.trans (up1 _ _) hn2.ups)
  have u2 := Ups.trans u1 uu2
  replace hr1 := hr1.ups uu2
  replace hb1 := block_ups hb1 ub2
  have lt1_2 : w1.heap.size < w2.heap.size := (Array.getElem?_eq_some_iff.1 hb1).1
  have hr2 := hn2.reads
  have hs2 := hr2
  obtain ⟨_, _, rfl, ⟨ap2, cp2, rfl, hp2⟩, ⟨aq2, cq2, rfl, hq2⟩⟩ := hs2
  obtain ⟨b2, o2, rfl, hj2⟩ := hp2 (by decide)
  obtain ⟨b'2, o'2, rfl, hi2⟩ := hq2 (by decide)
  clear hp2 hq2
  have hb2 : (w2.alloc (.cells #[.slice (some ⟨b2, o2, none⟩) 2 cp2, .slice (some ⟨b'2, o'2, none⟩) 2 cq2, .int .i64 (-1), .string ⟨#[]⟩, .bool false] 25)).heap[w2.heap.size]? = some (.cells #[.slice (some ⟨b2, o2, none⟩) 2 cp2, .slice (some ⟨b'2, o'2, none⟩) 2 cq2, .int .i64 (-1), .string ⟨#[]⟩, .bool false] 25) := alloc_at w2 _
  clear hc2 hn2
  have hc3 := fun (W : World) (hu : Ups w2 W) => program_calls (⟨[(bs [255, 255, 255, 255]), (bs [255, 240, 255, 255])], [0, 0], -1, ⟨#[]⟩, false⟩ : Fl) _ 1 1 (bs [15, 15]) W (hr2.ups hu) (by unfold FlFit; decide) (by decide)
  rw [w3_3] at hc3
  go_wp2_with fail
  refine (hc3 _ (up2 _ _ _)).mono ?_
  rintro e w3 ⟨v3, rfl, hn3⟩
  have uu3 : Ups w2 w3 := (Ups.trans (up2 _ _ _) hn3.ups)
  have ub3 : Ups (w2.alloc (.cells #[.slice (some ⟨b2, o2, none⟩) 2 cp2, .slice (some ⟨b'2, o'2, none⟩) 2 cq2, .int .i64 (-1), .string ⟨#[]⟩, .bool false] 25)) w3 := (Ups.trans (up1 _ _) hn3.ups)
  have u3 := Ups.trans u2 uu3
  replace hr1 := hr1.ups uu3
  replace hb1 := block_ups hb1 uu3
  have lt1_3 : w1.heap.size < w3.heap.size := (Array.getElem?_eq_some_iff.1 hb1).1
  replace hr2 := hr2.ups uu3
  replace hb2 := block_ups hb2 ub3
  have lt2_3 : w2.heap.size < w3.heap.size := (Array.getElem?_eq_some_iff.1 hb2).1
  have hr3 := hn3.reads
  have hs3 := hr3
  obtain ⟨_, _, rfl, ⟨ap3, cp3, rfl, hp3⟩, ⟨aq3, cq3, rfl, hq3⟩⟩ := hs3
  obtain ⟨b3, o3, rfl, hj3⟩ := hp3 (by decide)
  obtain ⟨b'3, o'3, rfl, hi3⟩ := hq3 (by decide)
  clear hp3 hq3
  have hb3 : (w3.alloc (.cells #[.slice (some ⟨b3, o3, none⟩) 2 cp3, .slice (some ⟨b'3, o'3, none⟩) 2 cq3, .int .i64 (-1), .string ⟨#[]⟩, .bool false] 25)).heap[w3.heap.size]? = some (.cells #[.slice (some ⟨b3, o3, none⟩) 2 cp3, .slice (some ⟨b'3, o'3, none⟩) 2 cq3, .int .i64 (-1), .string ⟨#[]⟩, .bool false] 25) := alloc_at w3 _
  clear hc3 hn3
  have hc4 := fun (W : World) (hu : Ups w3 W) => erase_calls (⟨[(bs [255, 255, 255, 255]), (bs [255, 0, 15, 255])], [0, 0], -1, ⟨#[]⟩, false⟩ : Fl) _ 1 W (hr3.ups hu) (by unfold FlFit; decide)
  rw [w3_4] at hc4
  go_wp2_with fail
  refine (hc4 _ (up1 _ _)).mono ?_
  rintro e w4 ⟨v4, rfl, hn4⟩
  have uu4 : Ups w3 w4 := (Ups.trans (up1 _ _) hn4.ups)
  have ub4 : Ups (w3.alloc (.cells #[.slice (some ⟨b3, o3, none⟩) 2 cp3, .slice (some ⟨b'3, o'3, none⟩) 2 cq3, .int .i64 (-1), .string ⟨#[]⟩, .bool false] 25)) w4 := (Ups.trans (Ups.refl _) hn4.ups)
  have u4 := Ups.trans u3 uu4
  replace hr1 := hr1.ups uu4
  replace hb1 := block_ups hb1 uu4
  have lt1_4 : w1.heap.size < w4.heap.size := (Array.getElem?_eq_some_iff.1 hb1).1
  replace hr2 := hr2.ups uu4
  replace hb2 := block_ups hb2 uu4
  have lt2_4 : w2.heap.size < w4.heap.size := (Array.getElem?_eq_some_iff.1 hb2).1
  replace hr3 := hr3.ups uu4
  replace hb3 := block_ups hb3 ub4
  have lt3_4 : w3.heap.size < w4.heap.size := (Array.getElem?_eq_some_iff.1 hb3).1
  have hr4 := hn4.reads
  have hs4 := hr4
  obtain ⟨_, _, rfl, ⟨ap4, cp4, rfl, hp4⟩, ⟨aq4, cq4, rfl, hq4⟩⟩ := hs4
  obtain ⟨b4, o4, rfl, hj4⟩ := hp4 (by decide)
  obtain ⟨b'4, o'4, rfl, hi4⟩ := hq4 (by decide)
  clear hp4 hq4
  have hb4 : (w4.alloc (.cells #[.slice (some ⟨b4, o4, none⟩) 2 cp4, .slice (some ⟨b'4, o'4, none⟩) 2 cq4, .int .i64 (-1), .string ⟨#[]⟩, .bool false] 25)).heap[w4.heap.size]? = some (.cells #[.slice (some ⟨b4, o4, none⟩) 2 cp4, .slice (some ⟨b'4, o'4, none⟩) 2 cq4, .int .i64 (-1), .string ⟨#[]⟩, .bool false] 25) := alloc_at w4 _
  clear hc4 hn4
  have hc5 := fun (W : World) (hu : Ups w4 W) => wake_calls (⟨[(bs [255, 255, 255, 255]), (bs [255, 255, 255, 255])], [0, 1], -1, ⟨#[]⟩, false⟩ : Fl) _ 0 (bs [3]) W (hr4.ups hu) (by unfold FlFit; decide)
  rw [w3_5] at hc5
  go_wp2_with fail
  refine (hc5 _ (up2 _ _ _)).mono ?_
  rintro e w5 ⟨v5, rfl, hn5⟩
  have uu5 : Ups w4 w5 := (Ups.trans (up2 _ _ _) hn5.ups)
  have ub5 : Ups (w4.alloc (.cells #[.slice (some ⟨b4, o4, none⟩) 2 cp4, .slice (some ⟨b'4, o'4, none⟩) 2 cq4, .int .i64 (-1), .string ⟨#[]⟩, .bool false] 25)) w5 := (Ups.trans (up1 _ _) hn5.ups)
  have u5 := Ups.trans u4 uu5
  replace hr1 := hr1.ups uu5
  replace hb1 := block_ups hb1 uu5
  have lt1_5 : w1.heap.size < w5.heap.size := (Array.getElem?_eq_some_iff.1 hb1).1
  replace hr2 := hr2.ups uu5
  replace hb2 := block_ups hb2 uu5
  have lt2_5 : w2.heap.size < w5.heap.size := (Array.getElem?_eq_some_iff.1 hb2).1
  replace hr3 := hr3.ups uu5
  replace hb3 := block_ups hb3 uu5
  have lt3_5 : w3.heap.size < w5.heap.size := (Array.getElem?_eq_some_iff.1 hb3).1
  replace hr4 := hr4.ups uu5
  replace hb4 := block_ups hb4 ub5
  have lt4_5 : w4.heap.size < w5.heap.size := (Array.getElem?_eq_some_iff.1 hb4).1
  have hr5 := hn5.reads
  have hs5 := hr5
  obtain ⟨_, _, rfl, ⟨ap5, cp5, rfl, hp5⟩, ⟨aq5, cq5, rfl, hq5⟩⟩ := hs5
  obtain ⟨b5, o5, rfl, hj5⟩ := hp5 (by decide)
  obtain ⟨b'5, o'5, rfl, hi5⟩ := hq5 (by decide)
  clear hp5 hq5
  have hb5 : (w5.alloc (.cells #[.slice (some ⟨b5, o5, none⟩) 2 cp5, .slice (some ⟨b'5, o'5, none⟩) 2 cq5, .int .i64 (0), .string (bs [3]), .bool false] 25)).heap[w5.heap.size]? = some (.cells #[.slice (some ⟨b5, o5, none⟩) 2 cp5, .slice (some ⟨b'5, o'5, none⟩) 2 cq5, .int .i64 (0), .string (bs [3]), .bool false] 25) := alloc_at w5 _
  clear hc5 hn5
  have hc6 := fun (W : World) (hu : Ups w5 W) => program_calls (⟨[(bs [255, 255, 255, 255]), (bs [255, 255, 255, 255])], [0, 1], 0, (bs [3]), false⟩ : Fl) _ 0 0 (bs [0, 0]) W (hr5.ups hu) (by unfold FlFit; decide) (by decide)
  rw [w3_6] at hc6
  go_wp2_with fail
  refine (hc6 _ (up2 _ _ _)).mono ?_
  rintro e w6 ⟨v6, rfl, hn6⟩
  have uu6 : Ups w5 w6 := (Ups.trans (up2 _ _ _) hn6.ups)
  have ub6 : Ups (w5.alloc (.cells #[.slice (some ⟨b5, o5, none⟩) 2 cp5, .slice (some ⟨b'5, o'5, none⟩) 2 cq5, .int .i64 (0), .string (bs [3]), .bool false] 25)) w6 := (Ups.trans (up1 _ _) hn6.ups)
  have u6 := Ups.trans u5 uu6
  replace hr1 := hr1.ups uu6
  replace hb1 := block_ups hb1 uu6
  have lt1_6 : w1.heap.size < w6.heap.size := (Array.getElem?_eq_some_iff.1 hb1).1
  replace hr2 := hr2.ups uu6
  replace hb2 := block_ups hb2 uu6
  have lt2_6 : w2.heap.size < w6.heap.size := (Array.getElem?_eq_some_iff.1 hb2).1
  replace hr3 := hr3.ups uu6
  replace hb3 := block_ups hb3 uu6
  have lt3_6 : w3.heap.size < w6.heap.size := (Array.getElem?_eq_some_iff.1 hb3).1
  replace hr4 := hr4.ups uu6
  replace hb4 := block_ups hb4 uu6
  have lt4_6 : w4.heap.size < w6.heap.size := (Array.getElem?_eq_some_iff.1 hb4).1
  replace hr5 := hr5.ups uu6
  replace hb5 := block_ups hb5 ub6
  have lt5_6 : w5.heap.size < w6.heap.size := (Array.getElem?_eq_some_iff.1 hb5).1
  have hr6 := hn6.reads
  have hs6 := hr6
  obtain ⟨_, _, rfl, ⟨ap6, cp6, rfl, hp6⟩, ⟨aq6, cq6, rfl, hq6⟩⟩ := hs6
  obtain ⟨b6, o6, rfl, hj6⟩ := hp6 (by decide)
  obtain ⟨b'6, o'6, rfl, hi6⟩ := hq6 (by decide)
  clear hp6 hq6
  have hb6 : (w6.alloc (.cells #[.slice (some ⟨b6, o6, none⟩) 2 cp6, .slice (some ⟨b'6, o'6, none⟩) 2 cq6, .int .i64 (0), .string (bs [3]), .bool true] 25)).heap[w6.heap.size]? = some (.cells #[.slice (some ⟨b6, o6, none⟩) 2 cp6, .slice (some ⟨b'6, o'6, none⟩) 2 cq6, .int .i64 (0), .string (bs [3]), .bool true] 25) := alloc_at w6 _
  clear hc6 hn6
  have hc7 := fun (W : World) (hu : Ups w6 W) => erase_calls (⟨[(bs [252, 252, 255, 255]), (bs [255, 255, 255, 255])], [0, 1], 0, (bs [3]), true⟩ : Fl) _ 0 W (hr6.ups hu) (by unfold FlFit; decide)
  rw [w3_7] at hc7
  go_wp2_with fail
  refine (hc7 _ (up1 _ _)).mono ?_
  rintro e w7 ⟨v7, rfl, hn7⟩
  have uu7 : Ups w6 w7 := (Ups.trans (up1 _ _) hn7.ups)
  have ub7 : Ups (w6.alloc (.cells #[.slice (some ⟨b6, o6, none⟩) 2 cp6, .slice (some ⟨b'6, o'6, none⟩) 2 cq6, .int .i64 (0), .string (bs [3]), .bool true] 25)) w7 := (Ups.trans (Ups.refl _) hn7.ups)
  have u7 := Ups.trans u6 uu7
  replace hr1 := hr1.ups uu7
  replace hb1 := block_ups hb1 uu7
  have lt1_7 : w1.heap.size < w7.heap.size := (Array.getElem?_eq_some_iff.1 hb1).1
  replace hr2 := hr2.ups uu7
  replace hb2 := block_ups hb2 uu7
  have lt2_7 : w2.heap.size < w7.heap.size := (Array.getElem?_eq_some_iff.1 hb2).1
  replace hr3 := hr3.ups uu7
  replace hb3 := block_ups hb3 uu7
  have lt3_7 : w3.heap.size < w7.heap.size := (Array.getElem?_eq_some_iff.1 hb3).1
  replace hr4 := hr4.ups uu7
  replace hb4 := block_ups hb4 uu7
  have lt4_7 : w4.heap.size < w7.heap.size := (Array.getElem?_eq_some_iff.1 hb4).1
  replace hr5 := hr5.ups uu7
  replace hb5 := block_ups hb5 uu7
  have lt5_7 : w5.heap.size < w7.heap.size := (Array.getElem?_eq_some_iff.1 hb5).1
  replace hr6 := hr6.ups uu7
  replace hb6 := block_ups hb6 ub7
  have lt6_7 : w6.heap.size < w7.heap.size := (Array.getElem?_eq_some_iff.1 hb6).1
  have hr7 := hn7.reads
  have hs7 := hr7
  obtain ⟨_, _, rfl, ⟨ap7, cp7, rfl, hp7⟩, ⟨aq7, cq7, rfl, hq7⟩⟩ := hs7
  obtain ⟨b7, o7, rfl, hj7⟩ := hp7 (by decide)
  obtain ⟨b'7, o'7, rfl, hi7⟩ := hq7 (by decide)
  clear hp7 hq7
  have hb7 : (w7.alloc (.cells #[.slice (some ⟨b7, o7, none⟩) 2 cp7, .slice (some ⟨b'7, o'7, none⟩) 2 cq7, .int .i64 (0), .string (bs [3]), .bool true] 25)).heap[w7.heap.size]? = some (.cells #[.slice (some ⟨b7, o7, none⟩) 2 cp7, .slice (some ⟨b'7, o'7, none⟩) 2 cq7, .int .i64 (0), .string (bs [3]), .bool true] 25) := alloc_at w7 _
  clear hc7 hn7
  obtain ⟨k0, k1, k2, k3, k4⟩ := block_cells hb6
  have hc8 := fun (W : World) (hu : Ups w7 W) => rot_calls (⟨[(bs [252, 252, 255, 255]), (bs [255, 255, 255, 255])], [0, 1], 0, (bs [3]), true⟩ : Fl) _ 0 2 (bs [1]) W (hr6.ups hu) (by unfold FlFit; decide) (by decide)
  rw [w3_8] at hc8
  go_wp2_with fail
  refine (hc8 _ (up2 _ _ _)).mono ?_
  rintro e w8 ⟨v8, rfl, hn8⟩
  have uu8 : Ups w7 w8 := (Ups.trans (up2 _ _ _) hn8.ups)
  have ub8 : Ups (w7.alloc (.cells #[.slice (some ⟨b7, o7, none⟩) 2 cp7, .slice (some ⟨b'7, o'7, none⟩) 2 cq7, .int .i64 (0), .string (bs [3]), .bool true] 25)) w8 := (Ups.trans (up1 _ _) hn8.ups)
  have u8 := Ups.trans u7 uu8
  replace hr1 := hr1.ups uu8
  replace hb1 := block_ups hb1 uu8
  have lt1_8 : w1.heap.size < w8.heap.size := (Array.getElem?_eq_some_iff.1 hb1).1
  replace hr2 := hr2.ups uu8
  replace hb2 := block_ups hb2 uu8
  have lt2_8 : w2.heap.size < w8.heap.size := (Array.getElem?_eq_some_iff.1 hb2).1
  replace hr3 := hr3.ups uu8
  replace hb3 := block_ups hb3 uu8
  have lt3_8 : w3.heap.size < w8.heap.size := (Array.getElem?_eq_some_iff.1 hb3).1
  replace hr4 := hr4.ups uu8
  replace hb4 := block_ups hb4 uu8
  have lt4_8 : w4.heap.size < w8.heap.size := (Array.getElem?_eq_some_iff.1 hb4).1
  replace hr5 := hr5.ups uu8
  replace hb5 := block_ups hb5 uu8
  have lt5_8 : w5.heap.size < w8.heap.size := (Array.getElem?_eq_some_iff.1 hb5).1
  replace hr6 := hr6.ups uu8
  replace hb6 := block_ups hb6 uu8
  have lt6_8 : w6.heap.size < w8.heap.size := (Array.getElem?_eq_some_iff.1 hb6).1
  replace hr7 := hr7.ups uu8
  replace hb7 := block_ups hb7 ub8
  have lt7_8 : w7.heap.size < w8.heap.size := (Array.getElem?_eq_some_iff.1 hb7).1
  have hr8 := hn8.reads
  have hs8 := hr8
  obtain ⟨_, _, rfl, ⟨ap8, cp8, rfl, hp8⟩, ⟨aq8, cq8, rfl, hq8⟩⟩ := hs8
  obtain ⟨b8, o8, rfl, hj8⟩ := hp8 (by decide)
  obtain ⟨b'8, o'8, rfl, hi8⟩ := hq8 (by decide)
  clear hp8 hq8
  have hb8 : (w8.alloc (.cells #[.slice (some ⟨b8, o8, none⟩) 2 cp8, .slice (some ⟨b'8, o'8, none⟩) 2 cq8, .int .i64 (0), .string (bs [3]), .bool true] 25)).heap[w8.heap.size]? = some (.cells #[.slice (some ⟨b8, o8, none⟩) 2 cp8, .slice (some ⟨b'8, o'8, none⟩) 2 cq8, .int .i64 (0), .string (bs [3]), .bool true] 25) := alloc_at w8 _
  clear hc8 hn8 k0 k1 k2 k3 k4
  obtain ⟨k20, k21, k22, k23, k24⟩ := block_cells hb2
  obtain ⟨k30, k31, k32, k33, k34⟩ := block_cells hb3
  obtain ⟨k40, k41, k42, k43, k44⟩ := block_cells hb4
  obtain ⟨k60, k61, k62, k63, k64⟩ := block_cells hb6
  clear hlit0 hlit1 hlit2 hlit3 hlit4
  have f1 : ∀ W, Ups (World.drew (w8.alloc (.cells #[.slice (some ⟨b8, o8, none⟩) 2 cp8, .slice (some ⟨b'8, o'8, none⟩) 2 cq8, .int .i64 (0), .string (bs [3]), .bool true] 25))) W → FlAt W _ (⟨[(bs [255, 255, 255, 255]), (bs [255, 255, 255, 255])], [0, 0], -1, ⟨#[]⟩, false⟩ : Fl) := fun W hU => hr1.ups (Ups.trans (up1 _ _) (drew_ups hU))
  have f2 : ∀ W, Ups (World.drew (w8.alloc (.cells #[.slice (some ⟨b8, o8, none⟩) 2 cp8, .slice (some ⟨b'8, o'8, none⟩) 2 cq8, .int .i64 (0), .string (bs [3]), .bool true] 25))) W → FlAt W _ (⟨[(bs [255, 255, 255, 255]), (bs [255, 240, 255, 255])], [0, 0], -1, ⟨#[]⟩, false⟩ : Fl) := fun W hU => hr2.ups (Ups.trans (up1 _ _) (drew_ups hU))
  have f4 : ∀ W, Ups (World.drew (w8.alloc (.cells #[.slice (some ⟨b8, o8, none⟩) 2 cp8, .slice (some ⟨b'8, o'8, none⟩) 2 cq8, .int .i64 (0), .string (bs [3]), .bool true] 25))) W → FlAt W _ (⟨[(bs [255, 255, 255, 255]), (bs [255, 255, 255, 255])], [0, 1], -1, ⟨#[]⟩, false⟩ : Fl) := fun W hU => hr4.ups (Ups.trans (up1 _ _) (drew_ups hU))
  have m1 := fun W (hU : Ups (World.drew (w8.alloc (.cells #[.slice (some ⟨b8, o8, none⟩) 2 cp8, .slice (some ⟨b'8, o'8, none⟩) 2 cq8, .int .i64 (0), .string (bs [3]), .bool true] 25))) W) => block_cells (block_ups hb1 (Ups.trans (up1 _ _) (drew_ups hU)))
  have m2 := fun W (hU : Ups (World.drew (w8.alloc (.cells #[.slice (some ⟨b8, o8, none⟩) 2 cp8, .slice (some ⟨b'8, o'8, none⟩) 2 cq8, .int .i64 (0), .string (bs [3]), .bool true] 25))) W) => block_cells (block_ups hb2 (Ups.trans (up1 _ _) (drew_ups hU)))
  have m3 := fun W (hU : Ups (World.drew (w8.alloc (.cells #[.slice (some ⟨b8, o8, none⟩) 2 cp8, .slice (some ⟨b'8, o'8, none⟩) 2 cq8, .int .i64 (0), .string (bs [3]), .bool true] 25))) W) => block_cells (block_ups hb3 (Ups.trans (up1 _ _) (drew_ups hU)))
  have m4 := fun W (hU : Ups (World.drew (w8.alloc (.cells #[.slice (some ⟨b8, o8, none⟩) 2 cp8, .slice (some ⟨b'8, o'8, none⟩) 2 cq8, .int .i64 (0), .string (bs [3]), .bool true] 25))) W) => block_cells (block_ups hb4 (Ups.trans (up1 _ _) (drew_ups hU)))
  have m6 := fun W (hU : Ups (World.drew (w8.alloc (.cells #[.slice (some ⟨b8, o8, none⟩) 2 cp8, .slice (some ⟨b'8, o'8, none⟩) 2 cq8, .int .i64 (0), .string (bs [3]), .bool true] 25))) W) => block_cells (block_ups hb6 (Ups.trans (up1 _ _) (drew_ups hU)))
  have m8 := fun W (hU : Ups (World.drew (w8.alloc (.cells #[.slice (some ⟨b8, o8, none⟩) 2 cp8, .slice (some ⟨b'8, o'8, none⟩) 2 cq8, .int .i64 (0), .string (bs [3]), .bool true] 25))) W) => block_cells (block_ups hb8 (drew_ups hU))
  have e2 : ∀ W, Ups (World.drew (w8.alloc (.cells #[.slice (some ⟨b8, o8, none⟩) 2 cp8, .slice (some ⟨b'8, o'8, none⟩) 2 cq8, .int .i64 (0), .string (bs [3]), .bool true] 25))) W → W.cell? ⟨b2, o2 + 1, none⟩ = some (.string (bs [255, 240, 255, 255])) := fun W hU => cell_ups (Ups.trans (Ups.trans uu3 (Ups.trans uu4 (Ups.trans uu5 (Ups.trans uu6 (Ups.trans uu7 (uu8)))))) (Ups.trans (up1 _ _) (drew_ups hU))) (hj2 1 (by decide))
  have e3 : ∀ W, Ups (World.drew (w8.alloc (.cells #[.slice (some ⟨b8, o8, none⟩) 2 cp8, .slice (some ⟨b'8, o'8, none⟩) 2 cq8, .int .i64 (0), .string (bs [3]), .bool true] 25))) W → W.cell? ⟨b3, o3 + 1, none⟩ = some (.string (bs [255, 0, 15, 255])) := fun W hU => cell_ups (Ups.trans (Ups.trans uu4 (Ups.trans uu5 (Ups.trans uu6 (Ups.trans uu7 (uu8))))) (Ups.trans (up1 _ _) (drew_ups hU))) (hj3 1 (by decide))
  have e6 : ∀ W, Ups (World.drew (w8.alloc (.cells #[.slice (some ⟨b8, o8, none⟩) 2 cp8, .slice (some ⟨b'8, o'8, none⟩) 2 cq8, .int .i64 (0), .string (bs [3]), .bool true] 25))) W → W.cell? ⟨b6, o6, none⟩ = some (.string (bs [252, 252, 255, 255])) := fun W hU => cell_ups (Ups.trans (Ups.trans uu7 (uu8)) (Ups.trans (up1 _ _) (drew_ups hU))) (hj6 0 (by decide))
  have e8 : ∀ W, Ups (World.drew (w8.alloc (.cells #[.slice (some ⟨b8, o8, none⟩) 2 cp8, .slice (some ⟨b'8, o'8, none⟩) 2 cq8, .int .i64 (0), .string (bs [3]), .bool true] 25))) W → W.cell? ⟨b8, o8, none⟩ = some (.string (bs [252, 252, 254, 255])) := fun W hU => cell_ups (Ups.trans (up1 _ _) (drew_ups hU)) (hj8 0 (by decide))
  have e4 : ∀ W, Ups (World.drew (w8.alloc (.cells #[.slice (some ⟨b8, o8, none⟩) 2 cp8, .slice (some ⟨b'8, o'8, none⟩) 2 cq8, .int .i64 (0), .string (bs [3]), .bool true] 25))) W → W.cell? ⟨b'4, o'4 + 1, none⟩ = some (.int .i64 1) := fun W hU => cell_ups (Ups.trans (Ups.trans uu5 (Ups.trans uu6 (Ups.trans uu7 (uu8)))) (Ups.trans (up1 _ _) (drew_ups hU))) (hi4 1 (by decide))
  go_wp2_with fail
  refine wp_region_parts (N := 102) (n := 196) (ks := [isV (.int .i64 0), isV (.bool true), isV (.bool true), isV (.int .i64 0), isV (.bool true), isV (.bool true), isV (.bool true), isV (.int .i64 0), isV (.bool true), isV (.bool true), isV (.bool true), isV (.int .i64 0), isV (.bool true), isV (.bool true), isV (.bool true), isV (.int .i64 0), isV (.bool true), isV (.bool true), isV (.bool true), isV (.pointer (some ⟨w2.heap.size, 0, none⟩)), isV (.slice (some ⟨b2, o2, none⟩) 2 cp2), isV (.pointer (some ⟨b2, o2 + 1, none⟩)), isV (.string (bs [255, 240, 255, 255])), slV [255, 240, 255, 255], isV (.string (bs [255, 240, 255, 255])), isV (.bool true), isV (.bool true), isV (.bool true), isV (.pointer (some ⟨w3.heap.size, 0, none⟩)), isV (.slice (some ⟨b3, o3, none⟩) 2 cp3), isV (.pointer (some ⟨b3, o3 + 1, none⟩)), isV (.string (bs [255, 0, 15, 255])), slV [255, 0, 15, 255], isV (.string (bs [255, 0, 15, 255])), isV (.bool true), isV (.bool true), isV (.bool true), isV (.agg #[.slice (some ⟨b4, o4, none⟩) 2 cp4, .slice (some ⟨b'4, o'4, none⟩) 2 cq4, .int .i64 (-1), .string ⟨#[]⟩, .bool false]), isV (.bool true), isV (.bool true), isV (.bool true), isV (.pointer (some ⟨w4.heap.size, 1, none⟩)), isV (.slice (some ⟨b'4, o'4, none⟩) 2 cq4), isV (.pointer (some ⟨b'4, o'4 + 1, none⟩)), isV (.int .i64 1), isV (.bool true), isV (.bool true), isV (.bool true), isV (.int .i64 8), isV (.bool true), isV (.bool true), isV (.bool true), isV (.pointer (some ⟨w6.heap.size, 4, none⟩)), isV (.bool true), isV (.bool true), isV (.bool true), isV (.pointer (some ⟨w6.heap.size, 0, none⟩)), isV (.slice (some ⟨b6, o6, none⟩) 2 cp6), isV (.pointer (some ⟨b6, o6, none⟩)), isV (.string (bs [252, 252, 255, 255])), slV [252, 252, 255, 255], isV (.string (bs [252, 252, 255, 255])), isV (.bool true), isV (.bool true), isV (.bool true), isV (.int .i64 8), isV (.bool true), isV (.bool true), isV (.bool true), isV (.int .i64 0), isV (.bool true), isV (.bool true), isV (.bool true), isV (.pointer (some ⟨w8.heap.size, 0, none⟩)), isV (.slice (some ⟨b8, o8, none⟩) 2 cp8), isV (.pointer (some ⟨b8, o8, none⟩)), isV (.string (bs [252, 252, 254, 255])), slV [252, 252, 254, 255], isV (.string (bs [252, 252, 254, 255])), isV (.bool true), isV (.bool true), isV (.bool true), isV (.agg #[.slice (some ⟨b1, o1, none⟩) 2 cp1, .slice (some ⟨b'1, o'1, none⟩) 2 cq1, .int .i64 (-1), .string ⟨#[]⟩, .bool false]), isV (.int .i64 0), isV (.bool true), isV (.bool true), isV (.bool true), isV (.agg #[.slice none 0 0, .slice none 0 0, .int .i64 0, .string ⟨#[]⟩, .bool false]), isV (.int .i64 1), isV (.bool true), isV (.bool true), isV (.bool true), isV (.agg #[.slice (some ⟨b1, o1, none⟩) 2 cp1, .slice (some ⟨b'1, o'1, none⟩) 2 cq1, .int .i64 (-1), .string ⟨#[]⟩, .bool false]), isV (.agg #[.slice (some ⟨b1, o1, none⟩) 2 cp1, .slice (some ⟨b'1, o'1, none⟩) 2 cq1, .int .i64 (-1), .string ⟨#[]⟩, .bool false]), isV (.bool true), isV (.bool true), isV (.bool true), isV (.agg #[.slice (some ⟨b1, o1, none⟩) 2 cp1, .slice (some ⟨b'1, o'1, none⟩) 2 cq1, .int .i64 (-1), .string ⟨#[]⟩, .bool false]), isV (.agg #[.slice (some ⟨b2, o2, none⟩) 2 cp2, .slice (some ⟨b'2, o'2, none⟩) 2 cq2, .int .i64 (-1), .string ⟨#[]⟩, .bool false]), isV (.bool false), isV (.bool true), isV (.bool true)]) (by decide +kernel) (by decide +kernel) (by decide +kernel) (by simp) rfl (by decide +kernel) ⟨steady_is _, steady_is _, steady_is _, steady_is _, steady_is _, steady_is _, steady_is _, steady_is _, steady_is _, steady_is _, steady_is _, steady_is _, steady_is _, steady_is _, steady_is _, steady_is _, steady_is _, steady_is _, steady_is _, steady_is _, steady_is _, steady_is _, steady_is _, steady_sl _, steady_is _, steady_is _, steady_is _, steady_is _, steady_is _, steady_is _, steady_is _, steady_is _, steady_sl _, steady_is _, steady_is _, steady_is _, steady_is _, steady_is _, steady_is _, steady_is _, steady_is _, steady_is _, steady_is _, steady_is _, steady_is _, steady_is _, steady_is _, steady_is _, steady_is _, steady_is _, steady_is _, steady_is _, steady_is _, steady_is _, steady_is _, steady_is _, steady_is _, steady_is _, steady_is _, steady_is _, steady_sl _, steady_is _, steady_is _, steady_is _, steady_is _, steady_is _, steady_is _, steady_is _, steady_is _, steady_is _, steady_is _, steady_is _, steady_is _, steady_is _, steady_is _, steady_is _, steady_is _, steady_sl _, steady_is _, steady_is _, steady_is _, steady_is _, steady_is _, steady_is _, steady_is _, steady_is _, steady_is _, steady_is _, steady_is _, steady_is _, steady_is _, steady_is _, steady_is _, steady_is _, steady_is _, steady_is _, steady_is _, steady_is _, steady_is _, steady_is _, steady_is _, steady_is _, trivial⟩ ?_ ?_
  · refine And.intro (fun ac W hO hU H => ?_) ?_
    · have h2 : ac.tmps[2]? = some (.int .i64 0) := (hO 2 rfl).trans rfl
      exact growOp_plain rfl (parts_value (by simp [go_sem, h2]))
    refine And.intro (fun ac W hO hU H => ?_) ?_
    · have h94 : ac.tmps[94]? = some (.int .i64 0) := isV_get (W := W) (H 0 94 rfl)
      exact growOp_plain rfl (parts_value (by simp [go_sem, h94]))
    refine And.intro (fun ac W hO hU H => ?_) ?_
    · have h95 : ac.tmps[95]? = some (.bool true) := isV_get (W := W) (H 1 95 rfl)
      exact growOp_plain rfl (parts_value (by simp [go_sem, h95]))
    refine And.intro (fun ac W hO hU H => ?_) ?_
    · have h4 : ac.tmps[4]? = some (.int .i64 0) := (hO 4 rfl).trans rfl
      have hg : ac.tmps[96]? = some (.bool true) := isV_get (W := W) (H 2 96 rfl)
      exact growOp_done rfl rfl hg (parts_value (by simp [go_sem, h4]))
    refine And.intro (fun ac W hO hU H => ?_) ?_
    · have h97 : ac.tmps[97]? = some (.int .i64 0) := isV_get (W := W) (H 3 97 rfl)
      have hg : ac.tmps[96]? = some (.bool true) := isV_get (W := W) (H 2 96 rfl)
      exact growOp_done rfl rfl hg (parts_value (by simp [go_sem, h97]))
    refine And.intro (fun ac W hO hU H => ?_) ?_
    · have h96 : ac.tmps[96]? = some (.bool true) := isV_get (W := W) (H 2 96 rfl)
      have h98 : ac.tmps[98]? = some (.bool true) := isV_get (W := W) (H 4 98 rfl)
      exact growOp_plain rfl (parts_value (by simp [go_sem, h96, h98]))
    refine And.intro (fun ac W hO hU H => ?_) ?_
    · have h99 : ac.tmps[99]? = some (.bool true) := isV_get (W := W) (H 5 99 rfl)
      exact growOp_plain rfl (parts_value (by simp [go_sem, h99]))
    refine And.intro (fun ac W hO hU H => ?_) ?_
    · have h6 : ac.tmps[6]? = some (.int .i64 0) := (hO 6 rfl).trans rfl
      have hg : ac.tmps[100]? = some (.bool true) := isV_get (W := W) (H 6 100 rfl)
      exact growOp_done rfl rfl hg (parts_value (by simp [go_sem, h6]))
    refine And.intro (fun ac W hO hU H => ?_) ?_
    · have h101 : ac.tmps[101]? = some (.int .i64 0) := isV_get (W := W) (H 7 101 rfl)
      have hg : ac.tmps[100]? = some (.bool true) := isV_get (W := W) (H 6 100 rfl)
      exact growOp_done rfl rfl hg (parts_value (by simp [go_sem, h101]))
    refine And.intro (fun ac W hO hU H => ?_) ?_
    · have h100 : ac.tmps[100]? = some (.bool true) := isV_get (W := W) (H 6 100 rfl)
      have h102 : ac.tmps[102]? = some (.bool true) := isV_get (W := W) (H 8 102 rfl)
      exact growOp_plain rfl (parts_value (by simp [go_sem, h100, h102]))
    refine And.intro (fun ac W hO hU H => ?_) ?_
    · have h103 : ac.tmps[103]? = some (.bool true) := isV_get (W := W) (H 9 103 rfl)
      exact growOp_plain rfl (parts_value (by simp [go_sem, h103]))
    refine And.intro (fun ac W hO hU H => ?_) ?_
    · have h8 : ac.tmps[8]? = some (.int .i64 0) := (hO 8 rfl).trans rfl
      have hg : ac.tmps[104]? = some (.bool true) := isV_get (W := W) (H 10 104 rfl)
      exact growOp_done rfl rfl hg (parts_value (by simp [go_sem, h8]))
    refine And.intro (fun ac W hO hU H => ?_) ?_
    · have h105 : ac.tmps[105]? = some (.int .i64 0) := isV_get (W := W) (H 11 105 rfl)
      have hg : ac.tmps[104]? = some (.bool true) := isV_get (W := W) (H 10 104 rfl)
      exact growOp_done rfl rfl hg (parts_value (by simp [go_sem, h105]))
    refine And.intro (fun ac W hO hU H => ?_) ?_
    · have h104 : ac.tmps[104]? = some (.bool true) := isV_get (W := W) (H 10 104 rfl)
      have h106 : ac.tmps[106]? = some (.bool true) := isV_get (W := W) (H 12 106 rfl)
      exact growOp_plain rfl (parts_value (by simp [go_sem, h104, h106]))
    refine And.intro (fun ac W hO hU H => ?_) ?_
    · have h107 : ac.tmps[107]? = some (.bool true) := isV_get (W := W) (H 13 107 rfl)
      exact growOp_plain rfl (parts_value (by simp [go_sem, h107]))
    refine And.intro (fun ac W hO hU H => ?_) ?_
    · have h10 : ac.tmps[10]? = some (.int .i64 0) := (hO 10 rfl).trans rfl
      have hg : ac.tmps[108]? = some (.bool true) := isV_get (W := W) (H 14 108 rfl)
      exact growOp_done rfl rfl hg (parts_value (by simp [go_sem, h10]))
    refine And.intro (fun ac W hO hU H => ?_) ?_
    · have h109 : ac.tmps[109]? = some (.int .i64 0) := isV_get (W := W) (H 15 109 rfl)
      have hg : ac.tmps[108]? = some (.bool true) := isV_get (W := W) (H 14 108 rfl)
      exact growOp_done rfl rfl hg (parts_value (by simp [go_sem, h109]))
    refine And.intro (fun ac W hO hU H => ?_) ?_
    · have h108 : ac.tmps[108]? = some (.bool true) := isV_get (W := W) (H 14 108 rfl)
      have h110 : ac.tmps[110]? = some (.bool true) := isV_get (W := W) (H 16 110 rfl)
      exact growOp_plain rfl (parts_value (by simp [go_sem, h108, h110]))
    refine And.intro (fun ac W hO hU H => ?_) ?_
    · have h111 : ac.tmps[111]? = some (.bool true) := isV_get (W := W) (H 17 111 rfl)
      exact growOp_plain rfl (parts_value (by simp [go_sem, h111]))
    refine And.intro (fun ac W hO hU H => ?_) ?_
    · have h3 : ac.tmps[3]? = some (.pointer (some ⟨w2.heap.size, 0, none⟩)) := (hO 3 rfl).trans rfl
      have hg : ac.tmps[112]? = some (.bool true) := isV_get (W := W) (H 18 112 rfl)
      exact growOp_done rfl rfl hg (parts_value (by simp [go_sem, h3]))
    refine And.intro (fun ac W hO hU H => ?_) ?_
    · have h113 : ac.tmps[113]? = some (.pointer (some ⟨w2.heap.size, 0, none⟩)) := isV_get (W := W) (H 19 113 rfl)
      have hg : ac.tmps[112]? = some (.bool true) := isV_get (W := W) (H 18 112 rfl)
      have f0 := (m2 W hU).1
      exact growOp_done rfl rfl hg (parts_value (by simp [go_sem, h113, f0]))
    refine And.intro (fun ac W hO hU H => ?_) ?_
    · have h114 : ac.tmps[114]? = some (.slice (some ⟨b2, o2, none⟩) 2 cp2) := isV_get (W := W) (H 20 114 rfl)
      have hg : ac.tmps[112]? = some (.bool true) := isV_get (W := W) (H 18 112 rfl)
      exact growOp_done rfl rfl hg (parts_value (by simp [go_sem, h114]))
    refine And.intro (fun ac W hO hU H => ?_) ?_
    · have h115 : ac.tmps[115]? = some (.pointer (some ⟨b2, o2 + 1, none⟩)) := isV_get (W := W) (H 21 115 rfl)
      have hg : ac.tmps[112]? = some (.bool true) := isV_get (W := W) (H 18 112 rfl)
      have f0 := e2 W hU
      exact growOp_done rfl rfl hg (parts_value (by simp [go_sem, h115, f0]))
    refine And.intro (fun ac W hO hU H => ?_) ?_
    · have hg : ac.tmps[112]? = some (.bool true) := isV_get (W := W) (H 18 112 rfl)
      exact growOp_done rfl rfl hg (parts_lit (by simp [go_sem] <;> rfl))
    refine And.intro (fun ac W hO hU H => ?_) ?_
    · obtain ⟨v117, h117, q117⟩ := H 23 117 rfl
      have hg : ac.tmps[112]? = some (.bool true) := isV_get (W := W) (H 18 112 rfl)
      exact growOp_done rfl rfl hg (parts_conv h117 q117 rfl)
    refine And.intro (fun ac W hO hU H => ?_) ?_
    · have h116 : ac.tmps[116]? = some (.string (bs [255, 240, 255, 255])) := isV_get (W := W) (H 22 116 rfl)
      have h118 : ac.tmps[118]? = some (.string (bs [255, 240, 255, 255])) := isV_get (W := W) (H 24 118 rfl)
      have hg : ac.tmps[112]? = some (.bool true) := isV_get (W := W) (H 18 112 rfl)
      exact growOp_done rfl rfl hg (parts_value (by simp [go_sem, h116, h118]))
    refine And.intro (fun ac W hO hU H => ?_) ?_
    · have h112 : ac.tmps[112]? = some (.bool true) := isV_get (W := W) (H 18 112 rfl)
      have h119 : ac.tmps[119]? = some (.bool true) := isV_get (W := W) (H 25 119 rfl)
      exact growOp_plain rfl (parts_value (by simp [go_sem, h112, h119]))
    refine And.intro (fun ac W hO hU H => ?_) ?_
    · have h120 : ac.tmps[120]? = some (.bool true) := isV_get (W := W) (H 26 120 rfl)
      exact growOp_plain rfl (parts_value (by simp [go_sem, h120]))
    refine And.intro (fun ac W hO hU H => ?_) ?_
    · have h5 : ac.tmps[5]? = some (.pointer (some ⟨w3.heap.size, 0, none⟩)) := (hO 5 rfl).trans rfl
      have hg : ac.tmps[121]? = some (.bool true) := isV_get (W := W) (H 27 121 rfl)
      exact growOp_done rfl rfl hg (parts_value (by simp [go_sem, h5]))
    refine And.intro (fun ac W hO hU H => ?_) ?_
    · have h122 : ac.tmps[122]? = some (.pointer (some ⟨w3.heap.size, 0, none⟩)) := isV_get (W := W) (H 28 122 rfl)
      have hg : ac.tmps[121]? = some (.bool true) := isV_get (W := W) (H 27 121 rfl)
      have f0 := (m3 W hU).1
      exact growOp_done rfl rfl hg (parts_value (by simp [go_sem, h122, f0]))
    refine And.intro (fun ac W hO hU H => ?_) ?_
    · have h123 : ac.tmps[123]? = some (.slice (some ⟨b3, o3, none⟩) 2 cp3) := isV_get (W := W) (H 29 123 rfl)
      have hg : ac.tmps[121]? = some (.bool true) := isV_get (W := W) (H 27 121 rfl)
      exact growOp_done rfl rfl hg (parts_value (by simp [go_sem, h123]))
    refine And.intro (fun ac W hO hU H => ?_) ?_
    · have h124 : ac.tmps[124]? = some (.pointer (some ⟨b3, o3 + 1, none⟩)) := isV_get (W := W) (H 30 124 rfl)
      have hg : ac.tmps[121]? = some (.bool true) := isV_get (W := W) (H 27 121 rfl)
      have f0 := e3 W hU
      exact growOp_done rfl rfl hg (parts_value (by simp [go_sem, h124, f0]))
    refine And.intro (fun ac W hO hU H => ?_) ?_
    · have hg : ac.tmps[121]? = some (.bool true) := isV_get (W := W) (H 27 121 rfl)
      exact growOp_done rfl rfl hg (parts_lit (by simp [go_sem] <;> rfl))
    refine And.intro (fun ac W hO hU H => ?_) ?_
    · obtain ⟨v126, h126, q126⟩ := H 32 126 rfl
      have hg : ac.tmps[121]? = some (.bool true) := isV_get (W := W) (H 27 121 rfl)
      exact growOp_done rfl rfl hg (parts_conv h126 q126 rfl)
    refine And.intro (fun ac W hO hU H => ?_) ?_
    · have h125 : ac.tmps[125]? = some (.string (bs [255, 0, 15, 255])) := isV_get (W := W) (H 31 125 rfl)
      have h127 : ac.tmps[127]? = some (.string (bs [255, 0, 15, 255])) := isV_get (W := W) (H 33 127 rfl)
      have hg : ac.tmps[121]? = some (.bool true) := isV_get (W := W) (H 27 121 rfl)
      exact growOp_done rfl rfl hg (parts_value (by simp [go_sem, h125, h127]))
    refine And.intro (fun ac W hO hU H => ?_) ?_
    · have h121 : ac.tmps[121]? = some (.bool true) := isV_get (W := W) (H 27 121 rfl)
      have h128 : ac.tmps[128]? = some (.bool true) := isV_get (W := W) (H 34 128 rfl)
      exact growOp_plain rfl (parts_value (by simp [go_sem, h121, h128]))
    refine And.intro (fun ac W hO hU H => ?_) ?_
    · have h129 : ac.tmps[129]? = some (.bool true) := isV_get (W := W) (H 35 129 rfl)
      exact growOp_plain rfl (parts_value (by simp [go_sem, h129]))
    refine And.intro (fun ac W hO hU H => ?_) ?_
    · have h7 : ac.tmps[7]? = some (.pointer (some ⟨w4.heap.size, 0, none⟩)) := (hO 7 rfl).trans rfl
      have hg : ac.tmps[130]? = some (.bool true) := isV_get (W := W) (H 36 130 rfl)
      obtain ⟨k0, k1, k2, k3, k4⟩ := m4 W hU
      exact growOp_done rfl rfl hg (parts_value (by simp [go_sem, h7, k0, k1, k2, k3, k4]))
    refine And.intro (fun ac W hO hU H => ?_) ?_
    · have h131 : ac.tmps[131]? = some (.agg #[.slice (some ⟨b4, o4, none⟩) 2 cp4, .slice (some ⟨b'4, o'4, none⟩) 2 cq4, .int .i64 (-1), .string ⟨#[]⟩, .bool false]) := isV_get (W := W) (H 37 131 rfl)
      have hg : ac.tmps[130]? = some (.bool true) := isV_get (W := W) (H 36 130 rfl)
      exact growOp_done rfl rfl hg (parts_call_is (args := #[.agg #[.slice (some ⟨b4, o4, none⟩) 2 cp4, .slice (some ⟨b'4, o'4, none⟩) 2 cq4, .int .i64 (-1), .string ⟨#[]⟩, .bool false], .int .i64 1]) (by simp [go_sem, h131]) (w3_free W (f4 W hU)))
    refine And.intro (fun ac W hO hU H => ?_) ?_
    · have h130 : ac.tmps[130]? = some (.bool true) := isV_get (W := W) (H 36 130 rfl)
      have h132 : ac.tmps[132]? = some (.bool true) := isV_get (W := W) (H 38 132 rfl)
      exact growOp_plain rfl (parts_value (by simp [go_sem, h130, h132]))
    refine And.intro (fun ac W hO hU H => ?_) ?_
    · have h133 : ac.tmps[133]? = some (.bool true) := isV_get (W := W) (H 39 133 rfl)
      exact growOp_plain rfl (parts_value (by simp [go_sem, h133]))
    refine And.intro (fun ac W hO hU H => ?_) ?_
    · have h7 : ac.tmps[7]? = some (.pointer (some ⟨w4.heap.size, 0, none⟩)) := (hO 7 rfl).trans rfl
      have hg : ac.tmps[134]? = some (.bool true) := isV_get (W := W) (H 40 134 rfl)
      exact growOp_done rfl rfl hg (parts_value (by simp [go_sem, h7]))
    refine And.intro (fun ac W hO hU H => ?_) ?_
    · have h135 : ac.tmps[135]? = some (.pointer (some ⟨w4.heap.size, 1, none⟩)) := isV_get (W := W) (H 41 135 rfl)
      have hg : ac.tmps[134]? = some (.bool true) := isV_get (W := W) (H 40 134 rfl)
      have f0 := (m4 W hU).2.1
      exact growOp_done rfl rfl hg (parts_value (by simp [go_sem, h135, f0]))
    refine And.intro (fun ac W hO hU H => ?_) ?_
    · have h136 : ac.tmps[136]? = some (.slice (some ⟨b'4, o'4, none⟩) 2 cq4) := isV_get (W := W) (H 42 136 rfl)
      have hg : ac.tmps[134]? = some (.bool true) := isV_get (W := W) (H 40 134 rfl)
      exact growOp_done rfl rfl hg (parts_value (by simp [go_sem, h136]))
    refine And.intro (fun ac W hO hU H => ?_) ?_
    · have h137 : ac.tmps[137]? = some (.pointer (some ⟨b'4, o'4 + 1, none⟩)) := isV_get (W := W) (H 43 137 rfl)
      have hg : ac.tmps[134]? = some (.bool true) := isV_get (W := W) (H 40 134 rfl)
      have f0 := e4 W hU
      exact growOp_done rfl rfl hg (parts_value (by simp [go_sem, h137, f0]))
    refine And.intro (fun ac W hO hU H => ?_) ?_
    · have h138 : ac.tmps[138]? = some (.int .i64 1) := isV_get (W := W) (H 44 138 rfl)
      have hg : ac.tmps[134]? = some (.bool true) := isV_get (W := W) (H 40 134 rfl)
      exact growOp_done rfl rfl hg (parts_value (by simp [go_sem, h138]))
    refine And.intro (fun ac W hO hU H => ?_) ?_
    · have h134 : ac.tmps[134]? = some (.bool true) := isV_get (W := W) (H 40 134 rfl)
      have h139 : ac.tmps[139]? = some (.bool true) := isV_get (W := W) (H 45 139 rfl)
      exact growOp_plain rfl (parts_value (by simp [go_sem, h134, h139]))
    refine And.intro (fun ac W hO hU H => ?_) ?_
    · have h140 : ac.tmps[140]? = some (.bool true) := isV_get (W := W) (H 46 140 rfl)
      exact growOp_plain rfl (parts_value (by simp [go_sem, h140]))
    refine And.intro (fun ac W hO hU H => ?_) ?_
    · have h12 : ac.tmps[12]? = some (.int .i64 8) := (hO 12 rfl).trans rfl
      have hg : ac.tmps[141]? = some (.bool true) := isV_get (W := W) (H 47 141 rfl)
      exact growOp_done rfl rfl hg (parts_value (by simp [go_sem, h12]))
    refine And.intro (fun ac W hO hU H => ?_) ?_
    · have h142 : ac.tmps[142]? = some (.int .i64 8) := isV_get (W := W) (H 48 142 rfl)
      have hg : ac.tmps[141]? = some (.bool true) := isV_get (W := W) (H 47 141 rfl)
      exact growOp_done rfl rfl hg (parts_value (by simp [go_sem, h142]))
    refine And.intro (fun ac W hO hU H => ?_) ?_
    · have h141 : ac.tmps[141]? = some (.bool true) := isV_get (W := W) (H 47 141 rfl)
      have h143 : ac.tmps[143]? = some (.bool true) := isV_get (W := W) (H 49 143 rfl)
      exact growOp_plain rfl (parts_value (by simp [go_sem, h141, h143]))
    refine And.intro (fun ac W hO hU H => ?_) ?_
    · have h144 : ac.tmps[144]? = some (.bool true) := isV_get (W := W) (H 50 144 rfl)
      exact growOp_plain rfl (parts_value (by simp [go_sem, h144]))
    refine And.intro (fun ac W hO hU H => ?_) ?_
    · have h11 : ac.tmps[11]? = some (.pointer (some ⟨w6.heap.size, 0, none⟩)) := (hO 11 rfl).trans rfl
      have hg : ac.tmps[145]? = some (.bool true) := isV_get (W := W) (H 51 145 rfl)
      exact growOp_done rfl rfl hg (parts_value (by simp [go_sem, h11]))
    refine And.intro (fun ac W hO hU H => ?_) ?_
    · have h146 : ac.tmps[146]? = some (.pointer (some ⟨w6.heap.size, 4, none⟩)) := isV_get (W := W) (H 52 146 rfl)
      have hg : ac.tmps[145]? = some (.bool true) := isV_get (W := W) (H 51 145 rfl)
      have f0 := (m6 W hU).2.2.2.2
      exact growOp_done rfl rfl hg (parts_value (by simp [go_sem, h146, f0]))
    refine And.intro (fun ac W hO hU H => ?_) ?_
    · have h145 : ac.tmps[145]? = some (.bool true) := isV_get (W := W) (H 51 145 rfl)
      have h147 : ac.tmps[147]? = some (.bool true) := isV_get (W := W) (H 53 147 rfl)
      exact growOp_plain rfl (parts_value (by simp [go_sem, h145, h147]))
    refine And.intro (fun ac W hO hU H => ?_) ?_
    · have h148 : ac.tmps[148]? = some (.bool true) := isV_get (W := W) (H 54 148 rfl)
      exact growOp_plain rfl (parts_value (by simp [go_sem, h148]))
    refine And.intro (fun ac W hO hU H => ?_) ?_
    · have h11 : ac.tmps[11]? = some (.pointer (some ⟨w6.heap.size, 0, none⟩)) := (hO 11 rfl).trans rfl
      have hg : ac.tmps[149]? = some (.bool true) := isV_get (W := W) (H 55 149 rfl)
      exact growOp_done rfl rfl hg (parts_value (by simp [go_sem, h11]))
    refine And.intro (fun ac W hO hU H => ?_) ?_
    · have h150 : ac.tmps[150]? = some (.pointer (some ⟨w6.heap.size, 0, none⟩)) := isV_get (W := W) (H 56 150 rfl)
      have hg : ac.tmps[149]? = some (.bool true) := isV_get (W := W) (H 55 149 rfl)
      have f0 := (m6 W hU).1
      exact growOp_done rfl rfl hg (parts_value (by simp [go_sem, h150, f0]))
    refine And.intro (fun ac W hO hU H => ?_) ?_
    · have h151 : ac.tmps[151]? = some (.slice (some ⟨b6, o6, none⟩) 2 cp6) := isV_get (W := W) (H 57 151 rfl)
      have hg : ac.tmps[149]? = some (.bool true) := isV_get (W := W) (H 55 149 rfl)
      exact growOp_done rfl rfl hg (parts_value (by simp [go_sem, h151]))
    refine And.intro (fun ac W hO hU H => ?_) ?_
    · have h152 : ac.tmps[152]? = some (.pointer (some ⟨b6, o6, none⟩)) := isV_get (W := W) (H 58 152 rfl)
      have hg : ac.tmps[149]? = some (.bool true) := isV_get (W := W) (H 55 149 rfl)
      have f0 := e6 W hU
      exact growOp_done rfl rfl hg (parts_value (by simp [go_sem, h152, f0]))
    refine And.intro (fun ac W hO hU H => ?_) ?_
    · have hg : ac.tmps[149]? = some (.bool true) := isV_get (W := W) (H 55 149 rfl)
      exact growOp_done rfl rfl hg (parts_lit (by simp [go_sem] <;> rfl))
    refine And.intro (fun ac W hO hU H => ?_) ?_
    · obtain ⟨v154, h154, q154⟩ := H 60 154 rfl
      have hg : ac.tmps[149]? = some (.bool true) := isV_get (W := W) (H 55 149 rfl)
      exact growOp_done rfl rfl hg (parts_conv h154 q154 rfl)
    refine And.intro (fun ac W hO hU H => ?_) ?_
    · have h153 : ac.tmps[153]? = some (.string (bs [252, 252, 255, 255])) := isV_get (W := W) (H 59 153 rfl)
      have h155 : ac.tmps[155]? = some (.string (bs [252, 252, 255, 255])) := isV_get (W := W) (H 61 155 rfl)
      have hg : ac.tmps[149]? = some (.bool true) := isV_get (W := W) (H 55 149 rfl)
      exact growOp_done rfl rfl hg (parts_value (by simp [go_sem, h153, h155]))
    refine And.intro (fun ac W hO hU H => ?_) ?_
    · have h149 : ac.tmps[149]? = some (.bool true) := isV_get (W := W) (H 55 149 rfl)
      have h156 : ac.tmps[156]? = some (.bool true) := isV_get (W := W) (H 62 156 rfl)
      exact growOp_plain rfl (parts_value (by simp [go_sem, h149, h156]))
    refine And.intro (fun ac W hO hU H => ?_) ?_
    · have h157 : ac.tmps[157]? = some (.bool true) := isV_get (W := W) (H 63 157 rfl)
      exact growOp_plain rfl (parts_value (by simp [go_sem, h157]))
    refine And.intro (fun ac W hO hU H => ?_) ?_
    · have h14 : ac.tmps[14]? = some (.int .i64 8) := (hO 14 rfl).trans rfl
      have hg : ac.tmps[158]? = some (.bool true) := isV_get (W := W) (H 64 158 rfl)
      exact growOp_done rfl rfl hg (parts_value (by simp [go_sem, h14]))
    refine And.intro (fun ac W hO hU H => ?_) ?_
    · have h159 : ac.tmps[159]? = some (.int .i64 8) := isV_get (W := W) (H 65 159 rfl)
      have hg : ac.tmps[158]? = some (.bool true) := isV_get (W := W) (H 64 158 rfl)
      exact growOp_done rfl rfl hg (parts_value (by simp [go_sem, h159]))
    refine And.intro (fun ac W hO hU H => ?_) ?_
    · have h158 : ac.tmps[158]? = some (.bool true) := isV_get (W := W) (H 64 158 rfl)
      have h160 : ac.tmps[160]? = some (.bool true) := isV_get (W := W) (H 66 160 rfl)
      exact growOp_plain rfl (parts_value (by simp [go_sem, h158, h160]))
    refine And.intro (fun ac W hO hU H => ?_) ?_
    · have h161 : ac.tmps[161]? = some (.bool true) := isV_get (W := W) (H 67 161 rfl)
      exact growOp_plain rfl (parts_value (by simp [go_sem, h161]))
    refine And.intro (fun ac W hO hU H => ?_) ?_
    · have h16 : ac.tmps[16]? = some (.int .i64 0) := (hO 16 rfl).trans rfl
      have hg : ac.tmps[162]? = some (.bool true) := isV_get (W := W) (H 68 162 rfl)
      exact growOp_done rfl rfl hg (parts_value (by simp [go_sem, h16]))
    refine And.intro (fun ac W hO hU H => ?_) ?_
    · have h163 : ac.tmps[163]? = some (.int .i64 0) := isV_get (W := W) (H 69 163 rfl)
      have hg : ac.tmps[162]? = some (.bool true) := isV_get (W := W) (H 68 162 rfl)
      exact growOp_done rfl rfl hg (parts_value (by simp [go_sem, h163]))
    refine And.intro (fun ac W hO hU H => ?_) ?_
    · have h162 : ac.tmps[162]? = some (.bool true) := isV_get (W := W) (H 68 162 rfl)
      have h164 : ac.tmps[164]? = some (.bool true) := isV_get (W := W) (H 70 164 rfl)
      exact growOp_plain rfl (parts_value (by simp [go_sem, h162, h164]))
    refine And.intro (fun ac W hO hU H => ?_) ?_
    · have h165 : ac.tmps[165]? = some (.bool true) := isV_get (W := W) (H 71 165 rfl)
      exact growOp_plain rfl (parts_value (by simp [go_sem, h165]))
    refine And.intro (fun ac W hO hU H => ?_) ?_
    · have h15 : ac.tmps[15]? = some (.pointer (some ⟨w8.heap.size, 0, none⟩)) := (hO 15 rfl).trans rfl
      have hg : ac.tmps[166]? = some (.bool true) := isV_get (W := W) (H 72 166 rfl)
      exact growOp_done rfl rfl hg (parts_value (by simp [go_sem, h15]))
    refine And.intro (fun ac W hO hU H => ?_) ?_
    · have h167 : ac.tmps[167]? = some (.pointer (some ⟨w8.heap.size, 0, none⟩)) := isV_get (W := W) (H 73 167 rfl)
      have hg : ac.tmps[166]? = some (.bool true) := isV_get (W := W) (H 72 166 rfl)
      have f0 := (m8 W hU).1
      exact growOp_done rfl rfl hg (parts_value (by simp [go_sem, h167, f0]))
    refine And.intro (fun ac W hO hU H => ?_) ?_
    · have h168 : ac.tmps[168]? = some (.slice (some ⟨b8, o8, none⟩) 2 cp8) := isV_get (W := W) (H 74 168 rfl)
      have hg : ac.tmps[166]? = some (.bool true) := isV_get (W := W) (H 72 166 rfl)
      exact growOp_done rfl rfl hg (parts_value (by simp [go_sem, h168]))
    refine And.intro (fun ac W hO hU H => ?_) ?_
    · have h169 : ac.tmps[169]? = some (.pointer (some ⟨b8, o8, none⟩)) := isV_get (W := W) (H 75 169 rfl)
      have hg : ac.tmps[166]? = some (.bool true) := isV_get (W := W) (H 72 166 rfl)
      have f0 := e8 W hU
      exact growOp_done rfl rfl hg (parts_value (by simp [go_sem, h169, f0]))
    refine And.intro (fun ac W hO hU H => ?_) ?_
    · have hg : ac.tmps[166]? = some (.bool true) := isV_get (W := W) (H 72 166 rfl)
      exact growOp_done rfl rfl hg (parts_lit (by simp [go_sem] <;> rfl))
    refine And.intro (fun ac W hO hU H => ?_) ?_
    · obtain ⟨v171, h171, q171⟩ := H 77 171 rfl
      have hg : ac.tmps[166]? = some (.bool true) := isV_get (W := W) (H 72 166 rfl)
      exact growOp_done rfl rfl hg (parts_conv h171 q171 rfl)
    refine And.intro (fun ac W hO hU H => ?_) ?_
    · have h170 : ac.tmps[170]? = some (.string (bs [252, 252, 254, 255])) := isV_get (W := W) (H 76 170 rfl)
      have h172 : ac.tmps[172]? = some (.string (bs [252, 252, 254, 255])) := isV_get (W := W) (H 78 172 rfl)
      have hg : ac.tmps[166]? = some (.bool true) := isV_get (W := W) (H 72 166 rfl)
      exact growOp_done rfl rfl hg (parts_value (by simp [go_sem, h170, h172]))
    refine And.intro (fun ac W hO hU H => ?_) ?_
    · have h166 : ac.tmps[166]? = some (.bool true) := isV_get (W := W) (H 72 166 rfl)
      have h173 : ac.tmps[173]? = some (.bool true) := isV_get (W := W) (H 79 173 rfl)
      exact growOp_plain rfl (parts_value (by simp [go_sem, h166, h173]))
    refine And.intro (fun ac W hO hU H => ?_) ?_
    · have h174 : ac.tmps[174]? = some (.bool true) := isV_get (W := W) (H 80 174 rfl)
      exact growOp_plain rfl (parts_value (by simp [go_sem, h174]))
    refine And.intro (fun ac W hO hU H => ?_) ?_
    · have h1 : ac.tmps[1]? = some (.pointer (some ⟨w1.heap.size, 0, none⟩)) := (hO 1 rfl).trans rfl
      have hg : ac.tmps[175]? = some (.bool true) := isV_get (W := W) (H 81 175 rfl)
      obtain ⟨k0, k1, k2, k3, k4⟩ := m1 W hU
      exact growOp_done rfl rfl hg (parts_value (by simp [go_sem, h1, k0, k1, k2, k3, k4]))
    refine And.intro (fun ac W hO hU H => ?_) ?_
    · have h176 : ac.tmps[176]? = some (.agg #[.slice (some ⟨b1, o1, none⟩) 2 cp1, .slice (some ⟨b'1, o'1, none⟩) 2 cq1, .int .i64 (-1), .string ⟨#[]⟩, .bool false]) := isV_get (W := W) (H 82 176 rfl)
      have hg : ac.tmps[175]? = some (.bool true) := isV_get (W := W) (H 81 175 rfl)
      exact growOp_done rfl rfl hg (parts_call_is (args := #[.agg #[.slice (some ⟨b1, o1, none⟩) 2 cp1, .slice (some ⟨b'1, o'1, none⟩) 2 cq1, .int .i64 (-1), .string ⟨#[]⟩, .bool false]]) (by simp [go_sem, h176]) (w3_check W (f1 W hU)))
    refine And.intro (fun ac W hO hU H => ?_) ?_
    · have h177 : ac.tmps[177]? = some (.int .i64 0) := isV_get (W := W) (H 83 177 rfl)
      have hg : ac.tmps[175]? = some (.bool true) := isV_get (W := W) (H 81 175 rfl)
      exact growOp_done rfl rfl hg (parts_value (by simp [go_sem, h177]))
    refine And.intro (fun ac W hO hU H => ?_) ?_
    · have h175 : ac.tmps[175]? = some (.bool true) := isV_get (W := W) (H 81 175 rfl)
      have h178 : ac.tmps[178]? = some (.bool true) := isV_get (W := W) (H 84 178 rfl)
      exact growOp_plain rfl (parts_value (by simp [go_sem, h175, h178]))
    refine And.intro (fun ac W hO hU H => ?_) ?_
    · have h179 : ac.tmps[179]? = some (.bool true) := isV_get (W := W) (H 85 179 rfl)
      exact growOp_plain rfl (parts_value (by simp [go_sem, h179]))
    refine And.intro (fun ac W hO hU H => ?_) ?_
    · have hg : ac.tmps[180]? = some (.bool true) := isV_get (W := W) (H 86 180 rfl)
      exact growOp_done rfl rfl hg (parts_value (by simp [go_sem]))
    refine And.intro (fun ac W hO hU H => ?_) ?_
    · have h181 : ac.tmps[181]? = some (.agg #[.slice none 0 0, .slice none 0 0, .int .i64 0, .string ⟨#[]⟩, .bool false]) := isV_get (W := W) (H 87 181 rfl)
      have hg : ac.tmps[180]? = some (.bool true) := isV_get (W := W) (H 86 180 rfl)
      exact growOp_done rfl rfl hg (parts_call_is (args := #[.agg #[.slice none 0 0, .slice none 0 0, .int .i64 0, .string ⟨#[]⟩, .bool false]]) (by simp [go_sem, h181]) (w3_zero W))
    refine And.intro (fun ac W hO hU H => ?_) ?_
    · have h182 : ac.tmps[182]? = some (.int .i64 1) := isV_get (W := W) (H 88 182 rfl)
      have hg : ac.tmps[180]? = some (.bool true) := isV_get (W := W) (H 86 180 rfl)
      exact growOp_done rfl rfl hg (parts_value (by simp [go_sem, h182]))
    refine And.intro (fun ac W hO hU H => ?_) ?_
    · have h180 : ac.tmps[180]? = some (.bool true) := isV_get (W := W) (H 86 180 rfl)
      have h183 : ac.tmps[183]? = some (.bool true) := isV_get (W := W) (H 89 183 rfl)
      exact growOp_plain rfl (parts_value (by simp [go_sem, h180, h183]))
    refine And.intro (fun ac W hO hU H => ?_) ?_
    · have h184 : ac.tmps[184]? = some (.bool true) := isV_get (W := W) (H 90 184 rfl)
      exact growOp_plain rfl (parts_value (by simp [go_sem, h184]))
    refine And.intro (fun ac W hO hU H => ?_) ?_
    · have h1 : ac.tmps[1]? = some (.pointer (some ⟨w1.heap.size, 0, none⟩)) := (hO 1 rfl).trans rfl
      have hg : ac.tmps[185]? = some (.bool true) := isV_get (W := W) (H 91 185 rfl)
      obtain ⟨k0, k1, k2, k3, k4⟩ := m1 W hU
      exact growOp_done rfl rfl hg (parts_value (by simp [go_sem, h1, k0, k1, k2, k3, k4]))
    refine And.intro (fun ac W hO hU H => ?_) ?_
    · have h1 : ac.tmps[1]? = some (.pointer (some ⟨w1.heap.size, 0, none⟩)) := (hO 1 rfl).trans rfl
      have hg : ac.tmps[185]? = some (.bool true) := isV_get (W := W) (H 91 185 rfl)
      obtain ⟨k0, k1, k2, k3, k4⟩ := m1 W hU
      exact growOp_done rfl rfl hg (parts_value (by simp [go_sem, h1, k0, k1, k2, k3, k4]))
    refine And.intro (fun ac W hO hU H => ?_) ?_
    · have h186 : ac.tmps[186]? = some (.agg #[.slice (some ⟨b1, o1, none⟩) 2 cp1, .slice (some ⟨b'1, o'1, none⟩) 2 cq1, .int .i64 (-1), .string ⟨#[]⟩, .bool false]) := isV_get (W := W) (H 92 186 rfl)
      have h187 : ac.tmps[187]? = some (.agg #[.slice (some ⟨b1, o1, none⟩) 2 cp1, .slice (some ⟨b'1, o'1, none⟩) 2 cq1, .int .i64 (-1), .string ⟨#[]⟩, .bool false]) := isV_get (W := W) (H 93 187 rfl)
      have hg : ac.tmps[185]? = some (.bool true) := isV_get (W := W) (H 91 185 rfl)
      exact growOp_done rfl rfl hg (parts_call_is (args := #[.agg #[.slice (some ⟨b1, o1, none⟩) 2 cp1, .slice (some ⟨b'1, o'1, none⟩) 2 cq1, .int .i64 (-1), .string ⟨#[]⟩, .bool false], .agg #[.slice (some ⟨b1, o1, none⟩) 2 cp1, .slice (some ⟨b'1, o'1, none⟩) 2 cq1, .int .i64 (-1), .string ⟨#[]⟩, .bool false]]) (by simp [go_sem, h186, h187]) (w3_same W (f1 W hU)))
    refine And.intro (fun ac W hO hU H => ?_) ?_
    · have h185 : ac.tmps[185]? = some (.bool true) := isV_get (W := W) (H 91 185 rfl)
      have h188 : ac.tmps[188]? = some (.bool true) := isV_get (W := W) (H 94 188 rfl)
      exact growOp_plain rfl (parts_value (by simp [go_sem, h185, h188]))
    refine And.intro (fun ac W hO hU H => ?_) ?_
    · have h189 : ac.tmps[189]? = some (.bool true) := isV_get (W := W) (H 95 189 rfl)
      exact growOp_plain rfl (parts_value (by simp [go_sem, h189]))
    refine And.intro (fun ac W hO hU H => ?_) ?_
    · have h1 : ac.tmps[1]? = some (.pointer (some ⟨w1.heap.size, 0, none⟩)) := (hO 1 rfl).trans rfl
      have hg : ac.tmps[190]? = some (.bool true) := isV_get (W := W) (H 96 190 rfl)
      obtain ⟨k0, k1, k2, k3, k4⟩ := m1 W hU
      exact growOp_done rfl rfl hg (parts_value (by simp [go_sem, h1, k0, k1, k2, k3, k4]))
    refine And.intro (fun ac W hO hU H => ?_) ?_
    · have h3 : ac.tmps[3]? = some (.pointer (some ⟨w2.heap.size, 0, none⟩)) := (hO 3 rfl).trans rfl
      have hg : ac.tmps[190]? = some (.bool true) := isV_get (W := W) (H 96 190 rfl)
      obtain ⟨k0, k1, k2, k3, k4⟩ := m2 W hU
      exact growOp_done rfl rfl hg (parts_value (by simp [go_sem, h3, k0, k1, k2, k3, k4]))
    refine And.intro (fun ac W hO hU H => ?_) ?_
    · have h191 : ac.tmps[191]? = some (.agg #[.slice (some ⟨b1, o1, none⟩) 2 cp1, .slice (some ⟨b'1, o'1, none⟩) 2 cq1, .int .i64 (-1), .string ⟨#[]⟩, .bool false]) := isV_get (W := W) (H 97 191 rfl)
      have h192 : ac.tmps[192]? = some (.agg #[.slice (some ⟨b2, o2, none⟩) 2 cp2, .slice (some ⟨b'2, o'2, none⟩) 2 cq2, .int .i64 (-1), .string ⟨#[]⟩, .bool false]) := isV_get (W := W) (H 98 192 rfl)
      have hg : ac.tmps[190]? = some (.bool true) := isV_get (W := W) (H 96 190 rfl)
      exact growOp_done rfl rfl hg (parts_call_is (args := #[.agg #[.slice (some ⟨b1, o1, none⟩) 2 cp1, .slice (some ⟨b'1, o'1, none⟩) 2 cq1, .int .i64 (-1), .string ⟨#[]⟩, .bool false], .agg #[.slice (some ⟨b2, o2, none⟩) 2 cp2, .slice (some ⟨b'2, o'2, none⟩) 2 cq2, .int .i64 (-1), .string ⟨#[]⟩, .bool false]]) (by simp [go_sem, h191, h192]) (w3_diff W (f1 W hU) (f2 W hU)))
    refine And.intro (fun ac W hO hU H => ?_) ?_
    · have h193 : ac.tmps[193]? = some (.bool false) := isV_get (W := W) (H 99 193 rfl)
      have hg : ac.tmps[190]? = some (.bool true) := isV_get (W := W) (H 96 190 rfl)
      exact growOp_done rfl rfl hg (parts_value (by simp [go_sem, h193]))
    refine And.intro (fun ac W hO hU H => ?_) ?_
    · have h190 : ac.tmps[190]? = some (.bool true) := isV_get (W := W) (H 96 190 rfl)
      have h194 : ac.tmps[194]? = some (.bool true) := isV_get (W := W) (H 100 194 rfl)
      exact growOp_plain rfl (parts_value (by simp [go_sem, h190, h194]))
    exact trivial
  · intro W xs hU hks
    obtain ⟨y0, rfl, g0⟩ := holdAll_is hks
    obtain ⟨y1, rfl, g1⟩ := holdAll_is g0
    obtain ⟨y2, rfl, g2⟩ := holdAll_is g1
    obtain ⟨y3, rfl, g3⟩ := holdAll_is g2
    obtain ⟨y4, rfl, g4⟩ := holdAll_is g3
    obtain ⟨y5, rfl, g5⟩ := holdAll_is g4
    obtain ⟨y6, rfl, g6⟩ := holdAll_is g5
    obtain ⟨y7, rfl, g7⟩ := holdAll_is g6
    obtain ⟨y8, rfl, g8⟩ := holdAll_is g7
    obtain ⟨y9, rfl, g9⟩ := holdAll_is g8
    obtain ⟨y10, rfl, g10⟩ := holdAll_is g9
    obtain ⟨y11, rfl, g11⟩ := holdAll_is g10
    obtain ⟨y12, rfl, g12⟩ := holdAll_is g11
    obtain ⟨y13, rfl, g13⟩ := holdAll_is g12
    obtain ⟨y14, rfl, g14⟩ := holdAll_is g13
    obtain ⟨y15, rfl, g15⟩ := holdAll_is g14
    obtain ⟨y16, rfl, g16⟩ := holdAll_is g15
    obtain ⟨y17, rfl, g17⟩ := holdAll_is g16
    obtain ⟨y18, rfl, g18⟩ := holdAll_is g17
    obtain ⟨y19, rfl, g19⟩ := holdAll_is g18
    obtain ⟨y20, rfl, g20⟩ := holdAll_is g19
    obtain ⟨y21, rfl, g21⟩ := holdAll_is g20
    obtain ⟨y22, rfl, g22⟩ := holdAll_is g21
    obtain ⟨v23, y23, rfl, q23, g23⟩ := holdAll_cons g22
    obtain ⟨y24, rfl, g24⟩ := holdAll_is g23
    obtain ⟨y25, rfl, g25⟩ := holdAll_is g24
    obtain ⟨y26, rfl, g26⟩ := holdAll_is g25
    obtain ⟨y27, rfl, g27⟩ := holdAll_is g26
    obtain ⟨y28, rfl, g28⟩ := holdAll_is g27
    obtain ⟨y29, rfl, g29⟩ := holdAll_is g28
    obtain ⟨y30, rfl, g30⟩ := holdAll_is g29
    obtain ⟨y31, rfl, g31⟩ := holdAll_is g30
    obtain ⟨v32, y32, rfl, q32, g32⟩ := holdAll_cons g31
    obtain ⟨y33, rfl, g33⟩ := holdAll_is g32
    obtain ⟨y34, rfl, g34⟩ := holdAll_is g33
    obtain ⟨y35, rfl, g35⟩ := holdAll_is g34
    obtain ⟨y36, rfl, g36⟩ := holdAll_is g35
    obtain ⟨y37, rfl, g37⟩ := holdAll_is g36
    obtain ⟨y38, rfl, g38⟩ := holdAll_is g37
    obtain ⟨y39, rfl, g39⟩ := holdAll_is g38
    obtain ⟨y40, rfl, g40⟩ := holdAll_is g39
    obtain ⟨y41, rfl, g41⟩ := holdAll_is g40
    obtain ⟨y42, rfl, g42⟩ := holdAll_is g41
    obtain ⟨y43, rfl, g43⟩ := holdAll_is g42
    obtain ⟨y44, rfl, g44⟩ := holdAll_is g43
    obtain ⟨y45, rfl, g45⟩ := holdAll_is g44
    obtain ⟨y46, rfl, g46⟩ := holdAll_is g45
    obtain ⟨y47, rfl, g47⟩ := holdAll_is g46
    obtain ⟨y48, rfl, g48⟩ := holdAll_is g47
    obtain ⟨y49, rfl, g49⟩ := holdAll_is g48
    obtain ⟨y50, rfl, g50⟩ := holdAll_is g49
    obtain ⟨y51, rfl, g51⟩ := holdAll_is g50
    obtain ⟨y52, rfl, g52⟩ := holdAll_is g51
    obtain ⟨y53, rfl, g53⟩ := holdAll_is g52
    obtain ⟨y54, rfl, g54⟩ := holdAll_is g53
    obtain ⟨y55, rfl, g55⟩ := holdAll_is g54
    obtain ⟨y56, rfl, g56⟩ := holdAll_is g55
    obtain ⟨y57, rfl, g57⟩ := holdAll_is g56
    obtain ⟨y58, rfl, g58⟩ := holdAll_is g57
    obtain ⟨y59, rfl, g59⟩ := holdAll_is g58
    obtain ⟨v60, y60, rfl, q60, g60⟩ := holdAll_cons g59
    obtain ⟨y61, rfl, g61⟩ := holdAll_is g60
    obtain ⟨y62, rfl, g62⟩ := holdAll_is g61
    obtain ⟨y63, rfl, g63⟩ := holdAll_is g62
    obtain ⟨y64, rfl, g64⟩ := holdAll_is g63
    obtain ⟨y65, rfl, g65⟩ := holdAll_is g64
    obtain ⟨y66, rfl, g66⟩ := holdAll_is g65
    obtain ⟨y67, rfl, g67⟩ := holdAll_is g66
    obtain ⟨y68, rfl, g68⟩ := holdAll_is g67
    obtain ⟨y69, rfl, g69⟩ := holdAll_is g68
    obtain ⟨y70, rfl, g70⟩ := holdAll_is g69
    obtain ⟨y71, rfl, g71⟩ := holdAll_is g70
    obtain ⟨y72, rfl, g72⟩ := holdAll_is g71
    obtain ⟨y73, rfl, g73⟩ := holdAll_is g72
    obtain ⟨y74, rfl, g74⟩ := holdAll_is g73
    obtain ⟨y75, rfl, g75⟩ := holdAll_is g74
    obtain ⟨y76, rfl, g76⟩ := holdAll_is g75
    obtain ⟨v77, y77, rfl, q77, g77⟩ := holdAll_cons g76
    obtain ⟨y78, rfl, g78⟩ := holdAll_is g77
    obtain ⟨y79, rfl, g79⟩ := holdAll_is g78
    obtain ⟨y80, rfl, g80⟩ := holdAll_is g79
    obtain ⟨y81, rfl, g81⟩ := holdAll_is g80
    obtain ⟨y82, rfl, g82⟩ := holdAll_is g81
    obtain ⟨y83, rfl, g83⟩ := holdAll_is g82
    obtain ⟨y84, rfl, g84⟩ := holdAll_is g83
    obtain ⟨y85, rfl, g85⟩ := holdAll_is g84
    obtain ⟨y86, rfl, g86⟩ := holdAll_is g85
    obtain ⟨y87, rfl, g87⟩ := holdAll_is g86
    obtain ⟨y88, rfl, g88⟩ := holdAll_is g87
    obtain ⟨y89, rfl, g89⟩ := holdAll_is g88
    obtain ⟨y90, rfl, g90⟩ := holdAll_is g89
    obtain ⟨y91, rfl, g91⟩ := holdAll_is g90
    obtain ⟨y92, rfl, g92⟩ := holdAll_is g91
    obtain ⟨y93, rfl, g93⟩ := holdAll_is g92
    obtain ⟨y94, rfl, g94⟩ := holdAll_is g93
    obtain ⟨y95, rfl, g95⟩ := holdAll_is g94
    obtain ⟨y96, rfl, g96⟩ := holdAll_is g95
    obtain ⟨y97, rfl, g97⟩ := holdAll_is g96
    obtain ⟨y98, rfl, g98⟩ := holdAll_is g97
    obtain ⟨y99, rfl, g99⟩ := holdAll_is g98
    obtain ⟨y100, rfl, g100⟩ := holdAll_is g99
    obtain ⟨y101, rfl, g101⟩ := holdAll_is g100
    obtain rfl := holdAll_nil g101
    clear hks g0 g1 g2 g3 g4 g5 g6 g7 g8 g9 g10 g11 g12 g13 g14 g15 g16 g17 g18 g19 g20 g21 g22 g23 g24 g25 g26 g27 g28 g29 g30 g31 g32 g33 g34 g35 g36 g37 g38 g39 g40 g41 g42 g43 g44 g45 g46 g47 g48 g49 g50 g51 g52 g53 g54 g55 g56 g57 g58 g59 g60 g61 g62 g63 g64 g65 g66 g67 g68 g69 g70 g71 g72 g73 g74 g75 g76 g77 g78 g79 g80 g81 g82 g83 g84 g85 g86 g87 g88 g89 g90 g91 g92 g93 g94 g95 g96 g97 g98 g99 g100 g101
    simp only [List.append_eq, List.cons_append, List.nil_append, List.take_succ_cons, List.take_zero, List.drop_succ_cons, List.drop_zero, endTmps, List.setIfInBounds_toArray, List.set]
    go_wp2_with fail
    exact bodyPost_ret (v := .bool true) (by simp [results, Try.results9, go_sem]) rfl ⟨rfl, Ups.trans u8 (Ups.trans (up1 _ _) (drew_ups hU))⟩

end Go.Proofs.Ytjpapjijlbfemaa
