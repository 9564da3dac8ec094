/- Texts of this proof, one behind the other: Works5. -/
import Derived.Outline
import Derived.Test.YtmabpnkdagipfaaGreatJ19
import Derived.Test.YtmabpnkdagipfaaGreatJ28
import Derived.Test.YtmabpnkdagipfaaGreatJ29
import Derived.Test.YtmabpnkdagipfaaGreatJ30
import Derived.Test.YtmabpnkdagipfaaGreatJ32

/- What ouroboroslaw05.works comes to: true. -/
namespace Go.Proofs.YtmabpnkdagipfaaGreat
open Go.RowKit

def t0 : ByteArray := bs (List.replicate 25 255)
def t1 : ByteArray := makeT ⟨#[120]⟩ ++ bs (List.replicate 15 255)
def t2 : ByteArray := makeT ⟨#[120]⟩ ++ (makeT ⟨#[121]⟩ ++ bs (List.replicate 5 255))
def t3 : ByteArray := t0.extract 0 5
def t4 : ByteArray := t3 ++ ⟨#[97, 98, 99, 100, 101]⟩
def t5 : ByteArray := t0.extract 10 25
def t6 : ByteArray := t4 ++ t5
def k1 : ByteArray := makeT ⟨#[121]⟩
def fl1 : Fl := ⟨[t0], [0], -1, ⟨#[]⟩, false⟩
def fl2 : Fl := ⟨[t1], [0], -1, ⟨#[]⟩, false⟩
def fl3 : Fl := ⟨[t2], [0], -1, ⟨#[]⟩, false⟩
theorem w5_new : newF 1 25 = (fl1, 0) := by decide +kernel
theorem w5_a : appendF fl1 0 ⟨#[120]⟩ = (fl2, 0) := by decide +kernel
theorem w5_b : appendF fl2 0 ⟨#[121]⟩ = (fl3, 0) := by decide +kernel
theorem w5_c : appendF fl3 0 ⟨#[122]⟩ = (fl3, 4) := by decide +kernel
theorem w5_d : appendF fl3 1 ⟨#[122]⟩ = (fl3, 1) := by decide +kernel
theorem w5_r : recsN t2 (sizeN 1) = [⟨#[120]⟩, ⟨#[121]⟩] := by decide +kernel
theorem v5_room (W : World) : Calls Tryz.prog 16 #[.string t0, .int .i64 1] W fun e W' => e = .returned (.int .i64 2) ∧ Ups W W' := by
  have := proom_calls t0 1 W (by decide +kernel)
  rwa [show t0.size / sizeN 1 = 2 by decide +kernel] at this
theorem v5_next (W : World) : Calls Tryz.prog 19 #[.string t0, .int .i64 1] W fun e W' => e = .returned (.int .i64 0) ∧ Ups W W' := by
  have := next_calls t0 1 W (by decide +kernel)
  rwa [show nextN t0 (sizeN 1) = 0 by decide +kernel] at this
theorem v5_bad (W : World) : Calls Tryz.prog 18 #[.string t0, .int .i64 1] W fun e W' => e = .returned (.int .i64 0) ∧ Ups W W' := by
  have := bad_calls t0 1 W (by decide +kernel)
  rwa [show badN t0 (sizeN 1) = 0 by decide +kernel] at this
theorem v5_next2 (W : World) : Calls Tryz.prog 19 #[.string t2, .int .i64 1] W fun e W' => e = .returned (.int .i64 2) ∧ Ups W W' := by
  have := next_calls t2 1 W (by decide +kernel)
  rwa [show nextN t2 (sizeN 1) = 2 by decide +kernel] at this
theorem v5_slot (W : World) : Calls Tryz.prog 17 #[.string t2, .int .i64 1, .int .i64 1] W fun e W' => e = .returned (.string k1) ∧ Ups W W' := by
  have := slot_calls t2 1 1 W (by decide +kernel)
  rwa [show slotT t2 (sizeN 1) 1 = k1 by decide +kernel] at this
theorem v5_make (W : World) : Calls Tryz.prog 29 #[.string ⟨#[121]⟩] W fun e W' => e = .returned (.string k1) ∧ Ups W W' := make_calls ⟨#[121]⟩ W (by decide +kernel)
theorem v5_none (W : World) : Calls Tryz.prog 17 #[.string t0, .int .i64 1, .int .i64 2] W fun e W' => e = .returned (.string ⟨#[]⟩) ∧ Ups W W' := by
  have := slot_calls t0 1 2 W (by decide +kernel)
  rwa [show slotT t0 (sizeN 1) 2 = ⟨#[]⟩ by decide +kernel] at this
theorem v5_bad2 (W : World) : Calls Tryz.prog 18 #[.string t6, .int .i64 1] W fun e W' => e = .returned (.int .i64 1) ∧ Ups W W' := by
  have := bad_calls t6 1 W (by decide +kernel)
  rwa [show badN t6 (sizeN 1) = 1 by decide +kernel] at this
theorem t0_size : t0.size = 25 := by decide +kernel
theorem t3_size : t3.size = 5 := by decide +kernel
theorem t4_size : t4.size = 10 := by decide +kernel
theorem t5_size : t5.size = 15 := by decide +kernel

def txV (l : List ByteArray) : Kd := fun v W => TextsAt W v l
theorem steady_txV (l : List ByteArray) : Steady (txV l) := fun _ _ _ h hu => h.ups hu
theorem parts_new {P : Program} {V : Kd} {W W' : World} {v : Value} {r : Result Next} (h : r = .ok (.value v) W') (hv : V v W') (hG : Ups W W') : growUpon P Ups V W r := by
  subst h
  exact ⟨hv, hG⟩
theorem txV_two (W : World) (a b : ByteArray) : txV [a, b] (.slice (some ⟨W.heap.size, 0, none⟩) 2 2) (W.alloc (.cells #[.string a, .string b] 9)) := by
  refine ⟨_, 2, rfl, fun _ => ⟨_, 0, rfl, fun j hj => ?_⟩⟩
  rw [Nat.zero_add]
  unfold World.cell?
  rw [World.alloc_heap_new]
  have : j = 0 ∨ j = 1 := by simp at hj; omega
  rcases this with rfl | rfl <;> rfl

set_option maxRecDepth 100000 in
set_option maxHeartbeats 40000000 in
theorem works5 (w : World) : Calls Tryz.prog 8 #[] w fun e W' => e = .returned (.bool true) ∧ Ups w W' := by
  have q1 : ((fl1.pages.length : Int) != 1) = false := by decide +kernel
  have q3 : ((fl3.pages.length : Int) != 1) = false := by decide +kernel
  have i1 : (0 : Int) < fl1.pages.length := by decide +kernel
  have i3 : (0 : Int) < fl3.pages.length := by decide +kernel
  have ne3 : fl3.pages ≠ [] := by decide +kernel
  go_enter Tryz.func8, Tryz.ntmps8
  have hc := new_calls 1 25 w
  rw [w5_new] at hc
  go_wp2_with fail
  refine hc.mono ?_
  clear hc
  rintro e w1 ⟨v1, rfl, hr1, uu, _⟩
  have ub1 : Ups w w1 := uu
  have uw := Ups.trans (Ups.refl _) ub1
  clear uu
  have hs1 := hr1
  obtain ⟨_, _, rfl, ⟨a1, c1, rfl, _⟩, ⟨a'1, c'1, rfl, _⟩⟩ := hs1
  have hb1 : (w1.alloc (.cells #[.slice a1 fl1.pages.length c1, .slice a'1 fl1.wear.length c'1, .int .i64 fl1.fuse, .string fl1.torn, .bool fl1.dead] 31)).heap[w1.heap.size]? = some (.cells #[.slice a1 fl1.pages.length c1, .slice a'1 fl1.wear.length c'1, .int .i64 fl1.fuse, .string fl1.torn, .bool fl1.dead] 31) := alloc_at _ _
  obtain ⟨b1, o1, rfl, cf1⟩ := hr1.page (k := 0) (by decide +kernel)
  rw [Nat.add_zero, show oldT fl1 0 = t0 from rfl] at cf1
  have cf1a : (w1.alloc (.cells #[.slice (some ⟨b1, o1, none⟩) fl1.pages.length c1, .slice a'1 fl1.wear.length c'1, .int .i64 fl1.fuse, .string fl1.torn, .bool fl1.dead] 31)).cell? ⟨b1, o1, none⟩ = some (.string t0) := cell_ups (up1 _ _) cf1
  have hc := pappend_calls fl1 _ 0 ⟨#[120]⟩ (w1.alloc (.cells #[.slice (some ⟨b1, o1, none⟩) fl1.pages.length c1, .slice a'1 fl1.wear.length c'1, .int .i64 fl1.fuse, .string fl1.torn, .bool fl1.dead] 31)) (hr1.ups (up1 _ _)) (by unfold FlFit; decide +kernel)
  rw [w5_a] at hc
  go_wp2_with fail
  refine hc.mono ?_
  clear hc
  rintro e w2 ⟨v2, rfl, hn⟩
  have ub2 : Ups (w1.alloc (.cells #[.slice (some ⟨b1, o1, none⟩) fl1.pages.length c1, .slice a'1 fl1.wear.length c'1, .int .i64 fl1.fuse, .string fl1.torn, .bool fl1.dead] 31)) w2 := hn.ups
  replace hr1 := hr1.ups (Ups.trans (up1 _ _) ub2)
  replace hb1 := block_ups hb1 ub2
  have lt1_2 : w1.heap.size < w2.heap.size := (Array.getElem?_eq_some_iff.1 hb1).1
  replace uw := Ups.trans uw (Ups.trans (up1 _ _) ub2)
  have hr2 := hn.reads
  clear hn
  have hs2 := hr2
  obtain ⟨_, _, rfl, ⟨a2, c2, rfl, _⟩, ⟨a'2, c'2, rfl, _⟩⟩ := hs2
  have hb2 : (w2.alloc (.cells #[.slice a2 fl2.pages.length c2, .slice a'2 fl2.wear.length c'2, .int .i64 fl2.fuse, .string fl2.torn, .bool fl2.dead] 31)).heap[w2.heap.size]? = some (.cells #[.slice a2 fl2.pages.length c2, .slice a'2 fl2.wear.length c'2, .int .i64 fl2.fuse, .string fl2.torn, .bool fl2.dead] 31) := alloc_at _ _
  clear cf1a
  have hc := pappend_calls fl2 _ 0 ⟨#[121]⟩ (w2.alloc (.cells #[.slice a2 fl2.pages.length c2, .slice a'2 fl2.wear.length c'2, .int .i64 fl2.fuse, .string fl2.torn, .bool fl2.dead] 31)) (hr2.ups (up1 _ _)) (by unfold FlFit; decide +kernel)
  rw [w5_b] at hc
  go_wp2_with fail
  refine hc.mono ?_
  clear hc
  rintro e w3 ⟨v3, rfl, hn⟩
  have ub3 : Ups (w2.alloc (.cells #[.slice a2 fl2.pages.length c2, .slice a'2 fl2.wear.length c'2, .int .i64 fl2.fuse, .string fl2.torn, .bool fl2.dead] 31)) w3 := hn.ups
  replace hr1 := hr1.ups (Ups.trans (up1 _ _) ub3)
  replace hb1 := block_ups hb1 (Ups.trans (up1 _ _) ub3)
  have lt1_3 : w1.heap.size < w3.heap.size := (Array.getElem?_eq_some_iff.1 hb1).1
  replace hr2 := hr2.ups (Ups.trans (up1 _ _) ub3)
  replace hb2 := block_ups hb2 ub3
  have lt2_3 : w2.heap.size < w3.heap.size := (Array.getElem?_eq_some_iff.1 hb2).1
  replace uw := Ups.trans uw (Ups.trans (up1 _ _) ub3)
  have hr3 := hn.reads
  clear hn
  have hs3 := hr3
  obtain ⟨_, _, rfl, ⟨a3, c3, rfl, _⟩, ⟨a'3, c'3, rfl, _⟩⟩ := hs3
  have hb3 : (w3.alloc (.cells #[.slice a3 fl3.pages.length c3, .slice a'3 fl3.wear.length c'3, .int .i64 fl3.fuse, .string fl3.torn, .bool fl3.dead] 31)).heap[w3.heap.size]? = some (.cells #[.slice a3 fl3.pages.length c3, .slice a'3 fl3.wear.length c'3, .int .i64 fl3.fuse, .string fl3.torn, .bool fl3.dead] 31) := alloc_at _ _
  have hc := pappend_calls fl3 _ 0 ⟨#[122]⟩ (w3.alloc (.cells #[.slice a3 fl3.pages.length c3, .slice a'3 fl3.wear.length c'3, .int .i64 fl3.fuse, .string fl3.torn, .bool fl3.dead] 31)) (hr3.ups (up1 _ _)) (by unfold FlFit; decide +kernel)
  rw [w5_c] at hc
  go_wp2_with fail
  refine hc.mono ?_
  clear hc
  rintro e w4 ⟨v4, rfl, hn⟩
  have ub4 : Ups (w3.alloc (.cells #[.slice a3 fl3.pages.length c3, .slice a'3 fl3.wear.length c'3, .int .i64 fl3.fuse, .string fl3.torn, .bool fl3.dead] 31)) w4 := hn.ups
  replace hr1 := hr1.ups (Ups.trans (up1 _ _) ub4)
  replace hb1 := block_ups hb1 (Ups.trans (up1 _ _) ub4)
  have lt1_4 : w1.heap.size < w4.heap.size := (Array.getElem?_eq_some_iff.1 hb1).1
  replace hr2 := hr2.ups (Ups.trans (up1 _ _) ub4)
  replace hb2 := block_ups hb2 (Ups.trans (up1 _ _) ub4)
  have lt2_4 : w2.heap.size < w4.heap.size := (Array.getElem?_eq_some_iff.1 hb2).1
  replace hr3 := hr3.ups (Ups.trans (up1 _ _) ub4)
  replace hb3 := block_ups hb3 ub4
  have lt3_4 : w3.heap.size < w4.heap.size := (Array.getElem?_eq_some_iff.1 hb3).1
  replace uw := Ups.trans uw (Ups.trans (up1 _ _) ub4)
  have hr4 := hn.reads
  clear hn
  have hs4 := hr4
  obtain ⟨_, _, rfl, ⟨a4, c4, rfl, _⟩, ⟨a'4, c'4, rfl, _⟩⟩ := hs4
  have hb4 : (w4.alloc (.cells #[.slice a4 fl3.pages.length c4, .slice a'4 fl3.wear.length c'4, .int .i64 fl3.fuse, .string fl3.torn, .bool fl3.dead] 31)).heap[w4.heap.size]? = some (.cells #[.slice a4 fl3.pages.length c4, .slice a'4 fl3.wear.length c'4, .int .i64 fl3.fuse, .string fl3.torn, .bool fl3.dead] 31) := alloc_at _ _
  have hc := pappend_calls fl3 _ 1 ⟨#[122]⟩ (w4.alloc (.cells #[.slice a4 fl3.pages.length c4, .slice a'4 fl3.wear.length c'4, .int .i64 fl3.fuse, .string fl3.torn, .bool fl3.dead] 31)) (hr3.ups (up1 _ _)) (by unfold FlFit; decide +kernel)
  rw [w5_d] at hc
  obtain ⟨k30, k31, k32, k33, k34⟩ := block_cells hb3
  go_wp2_with fail
  refine hc.mono ?_
  clear hc
  rintro e w5 ⟨v5, rfl, hn⟩
  clear k30 k31 k32 k33 k34
  have ub5 : Ups (w4.alloc (.cells #[.slice a4 fl3.pages.length c4, .slice a'4 fl3.wear.length c'4, .int .i64 fl3.fuse, .string fl3.torn, .bool fl3.dead] 31)) w5 := hn.ups
  replace hr1 := hr1.ups (Ups.trans (up1 _ _) ub5)
  replace hb1 := block_ups hb1 (Ups.trans (up1 _ _) ub5)
  have lt1_5 : w1.heap.size < w5.heap.size := (Array.getElem?_eq_some_iff.1 hb1).1
  replace hr2 := hr2.ups (Ups.trans (up1 _ _) ub5)
  replace hb2 := block_ups hb2 (Ups.trans (up1 _ _) ub5)
  have lt2_5 : w2.heap.size < w5.heap.size := (Array.getElem?_eq_some_iff.1 hb2).1
  replace hr3 := hr3.ups (Ups.trans (up1 _ _) ub5)
  replace hb3 := block_ups hb3 (Ups.trans (up1 _ _) ub5)
  have lt3_5 : w3.heap.size < w5.heap.size := (Array.getElem?_eq_some_iff.1 hb3).1
  replace hr4 := hr4.ups (Ups.trans (up1 _ _) ub5)
  replace hb4 := block_ups hb4 ub5
  have lt4_5 : w4.heap.size < w5.heap.size := (Array.getElem?_eq_some_iff.1 hb4).1
  replace uw := Ups.trans uw (Ups.trans (up1 _ _) ub5)
  have hr5 := hn.reads
  clear hn
  have hs5 := hr5
  obtain ⟨_, _, rfl, ⟨a5, c5, rfl, _⟩, ⟨a'5, c'5, rfl, _⟩⟩ := hs5
  have hb5 : (w5.alloc (.cells #[.slice a5 fl3.pages.length c5, .slice a'5 fl3.wear.length c'5, .int .i64 fl3.fuse, .string fl3.torn, .bool fl3.dead] 31)).heap[w5.heap.size]? = some (.cells #[.slice a5 fl3.pages.length c5, .slice a'5 fl3.wear.length c'5, .int .i64 fl3.fuse, .string fl3.torn, .bool fl3.dead] 31) := alloc_at _ _
  obtain ⟨b3, o3, rfl, cf3⟩ := hr3.page (k := 0) (by decide +kernel)
  rw [Nat.add_zero, show oldT fl3 0 = t2 from rfl] at cf3
  have cf3a : (w5.alloc (.cells #[.slice a5 fl3.pages.length c5, .slice a'5 fl3.wear.length c'5, .int .i64 fl3.fuse, .string fl3.torn, .bool fl3.dead] 31)).cell? ⟨b3, o3, none⟩ = some (.string t2) := cell_ups (up1 _ _) cf3
  have hc := records_calls t2 1 (w5.alloc (.cells #[.slice a5 fl3.pages.length c5, .slice a'5 fl3.wear.length c'5, .int .i64 fl3.fuse, .string fl3.torn, .bool fl3.dead] 31)) (by decide +kernel)
  rw [w5_r] at hc
  obtain ⟨k30, k31, k32, k33, k34⟩ := block_cells hb3
  go_wp2_with fail
  refine hc.mono ?_
  clear hc
  rintro e w6 ⟨vl, rfl, hown, uu⟩
  clear k30 k31 k32 k33 k34
  clear cf3a
  replace cf3 := cell_ups (Ups.trans (up1 _ _) uu) cf3
  have ub6 : Ups (w5.alloc (.cells #[.slice a5 fl3.pages.length c5, .slice a'5 fl3.wear.length c'5, .int .i64 fl3.fuse, .string fl3.torn, .bool fl3.dead] 31)) w6 := uu
  replace hr1 := hr1.ups (Ups.trans (up1 _ _) ub6)
  replace hb1 := block_ups hb1 (Ups.trans (up1 _ _) ub6)
  have lt1_6 : w1.heap.size < w6.heap.size := (Array.getElem?_eq_some_iff.1 hb1).1
  replace hr2 := hr2.ups (Ups.trans (up1 _ _) ub6)
  replace hb2 := block_ups hb2 (Ups.trans (up1 _ _) ub6)
  have lt2_6 : w2.heap.size < w6.heap.size := (Array.getElem?_eq_some_iff.1 hb2).1
  replace hr3 := hr3.ups (Ups.trans (up1 _ _) ub6)
  replace hb3 := block_ups hb3 (Ups.trans (up1 _ _) ub6)
  have lt3_6 : w3.heap.size < w6.heap.size := (Array.getElem?_eq_some_iff.1 hb3).1
  replace hr4 := hr4.ups (Ups.trans (up1 _ _) ub6)
  replace hb4 := block_ups hb4 (Ups.trans (up1 _ _) ub6)
  have lt4_6 : w4.heap.size < w6.heap.size := (Array.getElem?_eq_some_iff.1 hb4).1
  replace hr5 := hr5.ups (Ups.trans (up1 _ _) ub6)
  replace hb5 := block_ups hb5 ub6
  have lt5_6 : w5.heap.size < w6.heap.size := (Array.getElem?_eq_some_iff.1 hb5).1
  replace uw := Ups.trans uw (Ups.trans (up1 _ _) ub6)
  clear uu
  have hl := texts_of_own (l := [⟨#[120]⟩, ⟨#[121]⟩]) rfl hown
  clear hown
  have hl0 := hl
  obtain ⟨al, cl, rfl, _⟩ := hl
  simp only [List.length_cons, List.length_nil, Nat.zero_add, Nat.reduceAdd] at hl0 ⊢
  have z0 := t0_size
  have z3 := t3_size
  have z4 := t4_size
  have z5 := t5_size
  have m3 := fun W (hU : Ups (World.drew w6) W) => block_cells (block_ups hb3 (drew_ups hU))
  have e3 := fun W (hU : Ups (World.drew w6) W) => cell_ups (drew_ups hU) cf3
  have htx : ∀ W (v : Value), Ups (World.drew w6) W → txV [⟨#[120]⟩, ⟨#[121]⟩] v W → Calls Tryz.prog 11 #[.slice al 2 cl, v] W fun e W' => e = .returned (.bool true) ∧ Ups W W' := fun W v hU hv => by
    have := rtexts_calls (hl0.ups (drew_ups hU)) hv (by decide)
    rwa [show decide (([⟨#[120]⟩, ⟨#[121]⟩] : List ByteArray) = [⟨#[120]⟩, ⟨#[121]⟩]) = true by decide +kernel] at this
  go_wp2_with fail
  refine wp_region_parts (N := 70) (n := 124) (ks := [isV (.int .i64 0), isV (.bool true), isV (.bool true), isV (.string t0), isV (.int .i64 2), isV (.bool true), isV (.bool true), isV (.bool true), isV (.string t0), isV (.int .i64 0), isV (.bool true), isV (.bool true), isV (.bool true), isV (.string t0), isV (.int .i64 0), isV (.bool true), isV (.bool true), isV (.bool true), isV (.int .i64 0), isV (.bool true), isV (.bool true), isV (.bool true), isV (.int .i64 0), isV (.bool true), isV (.bool true), isV (.bool true), isV (.int .i64 4), isV (.bool true), isV (.bool true), isV (.bool true), isV (.int .i64 1), isV (.bool true), isV (.bool true), isV (.bool true), isV (.slice al 2 cl), txV [⟨#[120]⟩, ⟨#[121]⟩], isV (.bool true), isV (.bool true), isV (.bool true), isV (.pointer (some ⟨w3.heap.size, 0, none⟩)), isV (.slice (some ⟨b3, o3, none⟩) fl3.pages.length c3), isV (.pointer (some ⟨b3, o3, none⟩)), isV (.string t2), isV (.int .i64 2), isV (.bool true), isV (.bool true), isV (.bool true), isV (.pointer (some ⟨w3.heap.size, 0, none⟩)), isV (.slice (some ⟨b3, o3, none⟩) fl3.pages.length c3), isV (.pointer (some ⟨b3, o3, none⟩)), isV (.string t2), isV (.string k1), isV (.string k1), isV (.bool true), isV (.bool true), isV (.bool true), isV (.string t0), isV (.string ⟨#[]⟩), isV (.bool true), isV (.bool true), isV (.bool true), isV (.string t0), isV (.string t3), isV (.string t4), isV (.string t0), isV (.string t5), isV (.string t6), isV (.int .i64 1), isV (.bool true), isV (.bool true)]) (by decide +kernel) (by decide +kernel) (by decide +kernel) (by simp) rfl (by decide +kernel) ⟨steady_is _, steady_is _, steady_is _, steady_is _, steady_is _, steady_is _, steady_is _, steady_is _, steady_is _, steady_is _, steady_is _, steady_is _, steady_is _, steady_is _, steady_is _, steady_is _, steady_is _, steady_is _, steady_is _, steady_is _, steady_is _, steady_is _, steady_is _, steady_is _, steady_is _, steady_is _, steady_is _, steady_is _, steady_is _, steady_is _, steady_is _, steady_is _, steady_is _, steady_is _, steady_is _, steady_txV _, steady_is _, steady_is _, steady_is _, steady_is _, steady_is _, steady_is _, steady_is _, steady_is _, steady_is _, steady_is _, steady_is _, steady_is _, steady_is _, steady_is _, steady_is _, steady_is _, steady_is _, steady_is _, steady_is _, steady_is _, steady_is _, steady_is _, steady_is _, steady_is _, steady_is _, steady_is _, steady_is _, steady_is _, steady_is _, steady_is _, steady_is _, steady_is _, steady_is _, steady_is _, trivial⟩ ?_ ?_
  · refine And.intro (fun ac W hO hU H => ?_) ?_
    · have h2 : ac.tmps[2]? = some (.int .i64 0) := (hO 2 rfl).trans rfl
      exact growOp_plain rfl (parts_value (by simp [go_sem, h2]))
    refine And.intro (fun ac W hO hU H => ?_) ?_
    · have h54 : ac.tmps[54]? = some (.int .i64 0) := isV_get (W := W) (H 0 54 rfl)
      exact growOp_plain rfl (parts_value (by simp [go_sem, h54]))
    refine And.intro (fun ac W hO hU H => ?_) ?_
    · have h55 : ac.tmps[55]? = some (.bool true) := isV_get (W := W) (H 1 55 rfl)
      exact growOp_plain rfl (parts_value (by simp [go_sem, h55]))
    refine And.intro (fun ac W hO hU H => ?_) ?_
    · have h3 : ac.tmps[3]? = some (.string t0) := (hO 3 rfl).trans rfl
      have hg : ac.tmps[56]? = some (.bool true) := isV_get (W := W) (H 2 56 rfl)
      exact growOp_done rfl rfl hg (parts_value (by simp [go_sem, h3]))
    refine And.intro (fun ac W hO hU H => ?_) ?_
    · have h57 : ac.tmps[57]? = some (.string t0) := isV_get (W := W) (H 3 57 rfl)
      have hg : ac.tmps[56]? = some (.bool true) := isV_get (W := W) (H 2 56 rfl)
      exact growOp_done rfl rfl hg (parts_call_is (args := #[.string t0, .int .i64 1]) (by simp [go_sem, h57]) (v5_room W))
    refine And.intro (fun ac W hO hU H => ?_) ?_
    · have h58 : ac.tmps[58]? = some (.int .i64 2) := isV_get (W := W) (H 4 58 rfl)
      have hg : ac.tmps[56]? = some (.bool true) := isV_get (W := W) (H 2 56 rfl)
      exact growOp_done rfl rfl hg (parts_value (by simp [go_sem, h58]))
    refine And.intro (fun ac W hO hU H => ?_) ?_
    · have h56 : ac.tmps[56]? = some (.bool true) := isV_get (W := W) (H 2 56 rfl)
      have h59 : ac.tmps[59]? = some (.bool true) := isV_get (W := W) (H 5 59 rfl)
      exact growOp_plain rfl (parts_value (by simp [go_sem, h56, h59]))
    refine And.intro (fun ac W hO hU H => ?_) ?_
    · have h60 : ac.tmps[60]? = some (.bool true) := isV_get (W := W) (H 6 60 rfl)
      exact growOp_plain rfl (parts_value (by simp [go_sem, h60]))
    refine And.intro (fun ac W hO hU H => ?_) ?_
    · have h3 : ac.tmps[3]? = some (.string t0) := (hO 3 rfl).trans rfl
      have hg : ac.tmps[61]? = some (.bool true) := isV_get (W := W) (H 7 61 rfl)
      exact growOp_done rfl rfl hg (parts_value (by simp [go_sem, h3]))
    refine And.intro (fun ac W hO hU H => ?_) ?_
    · have h62 : ac.tmps[62]? = some (.string t0) := isV_get (W := W) (H 8 62 rfl)
      have hg : ac.tmps[61]? = some (.bool true) := isV_get (W := W) (H 7 61 rfl)
      exact growOp_done rfl rfl hg (parts_call_is (args := #[.string t0, .int .i64 1]) (by simp [go_sem, h62]) (v5_next W))
    refine And.intro (fun ac W hO hU H => ?_) ?_
    · have h63 : ac.tmps[63]? = some (.int .i64 0) := isV_get (W := W) (H 9 63 rfl)
      have hg : ac.tmps[61]? = some (.bool true) := isV_get (W := W) (H 7 61 rfl)
      exact growOp_done rfl rfl hg (parts_value (by simp [go_sem, h63]))
    refine And.intro (fun ac W hO hU H => ?_) ?_
    · have h61 : ac.tmps[61]? = some (.bool true) := isV_get (W := W) (H 7 61 rfl)
      have h64 : ac.tmps[64]? = some (.bool true) := isV_get (W := W) (H 10 64 rfl)
      exact growOp_plain rfl (parts_value (by simp [go_sem, h61, h64]))
    refine And.intro (fun ac W hO hU H => ?_) ?_
    · have h65 : ac.tmps[65]? = some (.bool true) := isV_get (W := W) (H 11 65 rfl)
      exact growOp_plain rfl (parts_value (by simp [go_sem, h65]))
    refine And.intro (fun ac W hO hU H => ?_) ?_
    · have h3 : ac.tmps[3]? = some (.string t0) := (hO 3 rfl).trans rfl
      have hg : ac.tmps[66]? = some (.bool true) := isV_get (W := W) (H 12 66 rfl)
      exact growOp_done rfl rfl hg (parts_value (by simp [go_sem, h3]))
    refine And.intro (fun ac W hO hU H => ?_) ?_
    · have h67 : ac.tmps[67]? = some (.string t0) := isV_get (W := W) (H 13 67 rfl)
      have hg : ac.tmps[66]? = some (.bool true) := isV_get (W := W) (H 12 66 rfl)
      exact growOp_done rfl rfl hg (parts_call_is (args := #[.string t0, .int .i64 1]) (by simp [go_sem, h67]) (v5_bad W))
    refine And.intro (fun ac W hO hU H => ?_) ?_
    · have h68 : ac.tmps[68]? = some (.int .i64 0) := isV_get (W := W) (H 14 68 rfl)
      have hg : ac.tmps[66]? = some (.bool true) := isV_get (W := W) (H 12 66 rfl)
      exact growOp_done rfl rfl hg (parts_value (by simp [go_sem, h68]))
    refine And.intro (fun ac W hO hU H => ?_) ?_
    · have h66 : ac.tmps[66]? = some (.bool true) := isV_get (W := W) (H 12 66 rfl)
      have h69 : ac.tmps[69]? = some (.bool true) := isV_get (W := W) (H 15 69 rfl)
      exact growOp_plain rfl (parts_value (by simp [go_sem, h66, h69]))
    refine And.intro (fun ac W hO hU H => ?_) ?_
    · have h70 : ac.tmps[70]? = some (.bool true) := isV_get (W := W) (H 16 70 rfl)
      exact growOp_plain rfl (parts_value (by simp [go_sem, h70]))
    refine And.intro (fun ac W hO hU H => ?_) ?_
    · have h5 : ac.tmps[5]? = some (.int .i64 0) := (hO 5 rfl).trans rfl
      have hg : ac.tmps[71]? = some (.bool true) := isV_get (W := W) (H 17 71 rfl)
      exact growOp_done rfl rfl hg (parts_value (by simp [go_sem, h5]))
    refine And.intro (fun ac W hO hU H => ?_) ?_
    · have h72 : ac.tmps[72]? = some (.int .i64 0) := isV_get (W := W) (H 18 72 rfl)
      have hg : ac.tmps[71]? = some (.bool true) := isV_get (W := W) (H 17 71 rfl)
      exact growOp_done rfl rfl hg (parts_value (by simp [go_sem, h72]))
    refine And.intro (fun ac W hO hU H => ?_) ?_
    · have h71 : ac.tmps[71]? = some (.bool true) := isV_get (W := W) (H 17 71 rfl)
      have h73 : ac.tmps[73]? = some (.bool true) := isV_get (W := W) (H 19 73 rfl)
      exact growOp_plain rfl (parts_value (by simp [go_sem, h71, h73]))
    refine And.intro (fun ac W hO hU H => ?_) ?_
    · have h74 : ac.tmps[74]? = some (.bool true) := isV_get (W := W) (H 20 74 rfl)
      exact growOp_plain rfl (parts_value (by simp [go_sem, h74]))
    refine And.intro (fun ac W hO hU H => ?_) ?_
    · have h7 : ac.tmps[7]? = some (.int .i64 0) := (hO 7 rfl).trans rfl
      have hg : ac.tmps[75]? = some (.bool true) := isV_get (W := W) (H 21 75 rfl)
      exact growOp_done rfl rfl hg (parts_value (by simp [go_sem, h7]))
    refine And.intro (fun ac W hO hU H => ?_) ?_
    · have h76 : ac.tmps[76]? = some (.int .i64 0) := isV_get (W := W) (H 22 76 rfl)
      have hg : ac.tmps[75]? = some (.bool true) := isV_get (W := W) (H 21 75 rfl)
      exact growOp_done rfl rfl hg (parts_value (by simp [go_sem, h76]))
    refine And.intro (fun ac W hO hU H => ?_) ?_
    · have h75 : ac.tmps[75]? = some (.bool true) := isV_get (W := W) (H 21 75 rfl)
      have h77 : ac.tmps[77]? = some (.bool true) := isV_get (W := W) (H 23 77 rfl)
      exact growOp_plain rfl (parts_value (by simp [go_sem, h75, h77]))
    refine And.intro (fun ac W hO hU H => ?_) ?_
    · have h78 : ac.tmps[78]? = some (.bool true) := isV_get (W := W) (H 24 78 rfl)
      exact growOp_plain rfl (parts_value (by simp [go_sem, h78]))
    refine And.intro (fun ac W hO hU H => ?_) ?_
    · have h9 : ac.tmps[9]? = some (.int .i64 4) := (hO 9 rfl).trans rfl
      have hg : ac.tmps[79]? = some (.bool true) := isV_get (W := W) (H 25 79 rfl)
      exact growOp_done rfl rfl hg (parts_value (by simp [go_sem, h9]))
    refine And.intro (fun ac W hO hU H => ?_) ?_
    · have h80 : ac.tmps[80]? = some (.int .i64 4) := isV_get (W := W) (H 26 80 rfl)
      have hg : ac.tmps[79]? = some (.bool true) := isV_get (W := W) (H 25 79 rfl)
      exact growOp_done rfl rfl hg (parts_value (by simp [go_sem, h80]))
    refine And.intro (fun ac W hO hU H => ?_) ?_
    · have h79 : ac.tmps[79]? = some (.bool true) := isV_get (W := W) (H 25 79 rfl)
      have h81 : ac.tmps[81]? = some (.bool true) := isV_get (W := W) (H 27 81 rfl)
      exact growOp_plain rfl (parts_value (by simp [go_sem, h79, h81]))
    refine And.intro (fun ac W hO hU H => ?_) ?_
    · have h82 : ac.tmps[82]? = some (.bool true) := isV_get (W := W) (H 28 82 rfl)
      exact growOp_plain rfl (parts_value (by simp [go_sem, h82]))
    refine And.intro (fun ac W hO hU H => ?_) ?_
    · have h11 : ac.tmps[11]? = some (.int .i64 1) := (hO 11 rfl).trans rfl
      have hg : ac.tmps[83]? = some (.bool true) := isV_get (W := W) (H 29 83 rfl)
      exact growOp_done rfl rfl hg (parts_value (by simp [go_sem, h11]))
    refine And.intro (fun ac W hO hU H => ?_) ?_
    · have h84 : ac.tmps[84]? = some (.int .i64 1) := isV_get (W := W) (H 30 84 rfl)
      have hg : ac.tmps[83]? = some (.bool true) := isV_get (W := W) (H 29 83 rfl)
      exact growOp_done rfl rfl hg (parts_value (by simp [go_sem, h84]))
    refine And.intro (fun ac W hO hU H => ?_) ?_
    · have h83 : ac.tmps[83]? = some (.bool true) := isV_get (W := W) (H 29 83 rfl)
      have h85 : ac.tmps[85]? = some (.bool true) := isV_get (W := W) (H 31 85 rfl)
      exact growOp_plain rfl (parts_value (by simp [go_sem, h83, h85]))
    refine And.intro (fun ac W hO hU H => ?_) ?_
    · have h86 : ac.tmps[86]? = some (.bool true) := isV_get (W := W) (H 32 86 rfl)
      exact growOp_plain rfl (parts_value (by simp [go_sem, h86]))
    refine And.intro (fun ac W hO hU H => ?_) ?_
    · have h12 : ac.tmps[12]? = some (.slice al 2 cl) := (hO 12 rfl).trans rfl
      have hg : ac.tmps[87]? = some (.bool true) := isV_get (W := W) (H 33 87 rfl)
      exact growOp_done rfl rfl hg (parts_value (by simp [go_sem, h12]))
    refine And.intro (fun ac W hO hU H => ?_) ?_
    · have hg : ac.tmps[87]? = some (.bool true) := isV_get (W := W) (H 33 87 rfl)
      exact growOp_done rfl rfl hg (parts_new (v := .slice (some ⟨W.heap.size, 0, none⟩) 2 2) (W' := W.alloc (.cells #[.string ⟨#[120]⟩, .string ⟨#[121]⟩] 9)) (by simp [go_sem]) (txV_two W _ _) ((Below.refl _ W).alloc (Nat.le_refl _) _))
    refine And.intro (fun ac W hO hU H => ?_) ?_
    · have h88 : ac.tmps[88]? = some (.slice al 2 cl) := isV_get (W := W) (H 34 88 rfl)
      obtain ⟨v89, h89, q89⟩ := H 35 89 rfl
      have hg : ac.tmps[87]? = some (.bool true) := isV_get (W := W) (H 33 87 rfl)
      exact growOp_done rfl rfl hg (parts_call_is (args := #[.slice al 2 cl, v89]) (by simp [go_sem, h88, h89]) (htx W v89 hU q89))
    refine And.intro (fun ac W hO hU H => ?_) ?_
    · have h87 : ac.tmps[87]? = some (.bool true) := isV_get (W := W) (H 33 87 rfl)
      have h90 : ac.tmps[90]? = some (.bool true) := isV_get (W := W) (H 36 90 rfl)
      exact growOp_plain rfl (parts_value (by simp [go_sem, h87, h90]))
    refine And.intro (fun ac W hO hU H => ?_) ?_
    · have h91 : ac.tmps[91]? = some (.bool true) := isV_get (W := W) (H 37 91 rfl)
      exact growOp_plain rfl (parts_value (by simp [go_sem, h91]))
    refine And.intro (fun ac W hO hU H => ?_) ?_
    · have h6 : ac.tmps[6]? = some (.pointer (some ⟨w3.heap.size, 0, none⟩)) := (hO 6 rfl).trans rfl
      have hg : ac.tmps[92]? = some (.bool true) := isV_get (W := W) (H 38 92 rfl)
      exact growOp_done rfl rfl hg (parts_value (by simp [go_sem, h6]))
    refine And.intro (fun ac W hO hU H => ?_) ?_
    · have h93 : ac.tmps[93]? = some (.pointer (some ⟨w3.heap.size, 0, none⟩)) := isV_get (W := W) (H 39 93 rfl)
      have hg : ac.tmps[92]? = some (.bool true) := isV_get (W := W) (H 38 92 rfl)
      have f0 := (m3 W hU).1
      exact growOp_done rfl rfl hg (parts_value (by simp [go_sem, h93, f0]))
    refine And.intro (fun ac W hO hU H => ?_) ?_
    · have h94 : ac.tmps[94]? = some (.slice (some ⟨b3, o3, none⟩) fl3.pages.length c3) := isV_get (W := W) (H 40 94 rfl)
      have hg : ac.tmps[92]? = some (.bool true) := isV_get (W := W) (H 38 92 rfl)
      exact growOp_done rfl rfl hg (parts_value (by simp [go_sem, h94, ne3]))
    refine And.intro (fun ac W hO hU H => ?_) ?_
    · have h95 : ac.tmps[95]? = some (.pointer (some ⟨b3, o3, none⟩)) := isV_get (W := W) (H 41 95 rfl)
      have hg : ac.tmps[92]? = some (.bool true) := isV_get (W := W) (H 38 92 rfl)
      have f0 := e3 W hU
      exact growOp_done rfl rfl hg (parts_value (by simp [go_sem, h95, f0]))
    refine And.intro (fun ac W hO hU H => ?_) ?_
    · have h96 : ac.tmps[96]? = some (.string t2) := isV_get (W := W) (H 42 96 rfl)
      have hg : ac.tmps[92]? = some (.bool true) := isV_get (W := W) (H 38 92 rfl)
      exact growOp_done rfl rfl hg (parts_call_is (args := #[.string t2, .int .i64 1]) (by simp [go_sem, h96]) (v5_next2 W))
    refine And.intro (fun ac W hO hU H => ?_) ?_
    · have h97 : ac.tmps[97]? = some (.int .i64 2) := isV_get (W := W) (H 43 97 rfl)
      have hg : ac.tmps[92]? = some (.bool true) := isV_get (W := W) (H 38 92 rfl)
      exact growOp_done rfl rfl hg (parts_value (by simp [go_sem, h97]))
    refine And.intro (fun ac W hO hU H => ?_) ?_
    · have h92 : ac.tmps[92]? = some (.bool true) := isV_get (W := W) (H 38 92 rfl)
      have h98 : ac.tmps[98]? = some (.bool true) := isV_get (W := W) (H 44 98 rfl)
      exact growOp_plain rfl (parts_value (by simp [go_sem, h92, h98]))
    refine And.intro (fun ac W hO hU H => ?_) ?_
    · have h99 : ac.tmps[99]? = some (.bool true) := isV_get (W := W) (H 45 99 rfl)
      exact growOp_plain rfl (parts_value (by simp [go_sem, h99]))
    refine And.intro (fun ac W hO hU H => ?_) ?_
    · have h6 : ac.tmps[6]? = some (.pointer (some ⟨w3.heap.size, 0, none⟩)) := (hO 6 rfl).trans rfl
      have hg : ac.tmps[100]? = some (.bool true) := isV_get (W := W) (H 46 100 rfl)
      exact growOp_done rfl rfl hg (parts_value (by simp [go_sem, h6]))
    refine And.intro (fun ac W hO hU H => ?_) ?_
    · have h101 : ac.tmps[101]? = some (.pointer (some ⟨w3.heap.size, 0, none⟩)) := isV_get (W := W) (H 47 101 rfl)
      have hg : ac.tmps[100]? = some (.bool true) := isV_get (W := W) (H 46 100 rfl)
      have f0 := (m3 W hU).1
      exact growOp_done rfl rfl hg (parts_value (by simp [go_sem, h101, f0]))
    refine And.intro (fun ac W hO hU H => ?_) ?_
    · have h102 : ac.tmps[102]? = some (.slice (some ⟨b3, o3, none⟩) fl3.pages.length c3) := isV_get (W := W) (H 48 102 rfl)
      have hg : ac.tmps[100]? = some (.bool true) := isV_get (W := W) (H 46 100 rfl)
      exact growOp_done rfl rfl hg (parts_value (by simp [go_sem, h102, ne3]))
    refine And.intro (fun ac W hO hU H => ?_) ?_
    · have h103 : ac.tmps[103]? = some (.pointer (some ⟨b3, o3, none⟩)) := isV_get (W := W) (H 49 103 rfl)
      have hg : ac.tmps[100]? = some (.bool true) := isV_get (W := W) (H 46 100 rfl)
      have f0 := e3 W hU
      exact growOp_done rfl rfl hg (parts_value (by simp [go_sem, h103, f0]))
    refine And.intro (fun ac W hO hU H => ?_) ?_
    · have h104 : ac.tmps[104]? = some (.string t2) := isV_get (W := W) (H 50 104 rfl)
      have hg : ac.tmps[100]? = some (.bool true) := isV_get (W := W) (H 46 100 rfl)
      exact growOp_done rfl rfl hg (parts_call_is (args := #[.string t2, .int .i64 1, .int .i64 1]) (by simp [go_sem, h104]) (v5_slot W))
    refine And.intro (fun ac W hO hU H => ?_) ?_
    · have hg : ac.tmps[100]? = some (.bool true) := isV_get (W := W) (H 46 100 rfl)
      exact growOp_done rfl rfl hg (parts_call_is (args := #[.string ⟨#[121]⟩]) (by simp [go_sem]) (v5_make W))
    refine And.intro (fun ac W hO hU H => ?_) ?_
    · have h105 : ac.tmps[105]? = some (.string k1) := isV_get (W := W) (H 51 105 rfl)
      have h106 : ac.tmps[106]? = some (.string k1) := isV_get (W := W) (H 52 106 rfl)
      have hg : ac.tmps[100]? = some (.bool true) := isV_get (W := W) (H 46 100 rfl)
      exact growOp_done rfl rfl hg (parts_value (by simp [go_sem, h105, h106]))
    refine And.intro (fun ac W hO hU H => ?_) ?_
    · have h100 : ac.tmps[100]? = some (.bool true) := isV_get (W := W) (H 46 100 rfl)
      have h107 : ac.tmps[107]? = some (.bool true) := isV_get (W := W) (H 53 107 rfl)
      exact growOp_plain rfl (parts_value (by simp [go_sem, h100, h107]))
    refine And.intro (fun ac W hO hU H => ?_) ?_
    · have h108 : ac.tmps[108]? = some (.bool true) := isV_get (W := W) (H 54 108 rfl)
      exact growOp_plain rfl (parts_value (by simp [go_sem, h108]))
    refine And.intro (fun ac W hO hU H => ?_) ?_
    · have h3 : ac.tmps[3]? = some (.string t0) := (hO 3 rfl).trans rfl
      have hg : ac.tmps[109]? = some (.bool true) := isV_get (W := W) (H 55 109 rfl)
      exact growOp_done rfl rfl hg (parts_value (by simp [go_sem, h3]))
    refine And.intro (fun ac W hO hU H => ?_) ?_
    · have h110 : ac.tmps[110]? = some (.string t0) := isV_get (W := W) (H 56 110 rfl)
      have hg : ac.tmps[109]? = some (.bool true) := isV_get (W := W) (H 55 109 rfl)
      exact growOp_done rfl rfl hg (parts_call_is (args := #[.string t0, .int .i64 1, .int .i64 2]) (by simp [go_sem, h110]) (v5_none W))
    refine And.intro (fun ac W hO hU H => ?_) ?_
    · have h111 : ac.tmps[111]? = some (.string ⟨#[]⟩) := isV_get (W := W) (H 57 111 rfl)
      have hg : ac.tmps[109]? = some (.bool true) := isV_get (W := W) (H 55 109 rfl)
      exact growOp_done rfl rfl hg (parts_value (by simp [go_sem, h111]))
    refine And.intro (fun ac W hO hU H => ?_) ?_
    · have h109 : ac.tmps[109]? = some (.bool true) := isV_get (W := W) (H 55 109 rfl)
      have h112 : ac.tmps[112]? = some (.bool true) := isV_get (W := W) (H 58 112 rfl)
      exact growOp_plain rfl (parts_value (by simp [go_sem, h109, h112]))
    refine And.intro (fun ac W hO hU H => ?_) ?_
    · have h113 : ac.tmps[113]? = some (.bool true) := isV_get (W := W) (H 59 113 rfl)
      exact growOp_plain rfl (parts_value (by simp [go_sem, h113]))
    refine And.intro (fun ac W hO hU H => ?_) ?_
    · have h3 : ac.tmps[3]? = some (.string t0) := (hO 3 rfl).trans rfl
      have hg : ac.tmps[114]? = some (.bool true) := isV_get (W := W) (H 60 114 rfl)
      exact growOp_done rfl rfl hg (parts_value (by simp [go_sem, h3]))
    refine And.intro (fun ac W hO hU H => ?_) ?_
    · have h115 : ac.tmps[115]? = some (.string t0) := isV_get (W := W) (H 61 115 rfl)
      have hg : ac.tmps[114]? = some (.bool true) := isV_get (W := W) (H 60 114 rfl)
      have f1 := show t0.extract 0 5 = t3 from rfl
      exact growOp_done rfl rfl hg (parts_value (by simp [go_sem, h115, z0, f1]))
    refine And.intro (fun ac W hO hU H => ?_) ?_
    · have h116 : ac.tmps[116]? = some (.string t3) := isV_get (W := W) (H 62 116 rfl)
      have hg : ac.tmps[114]? = some (.bool true) := isV_get (W := W) (H 60 114 rfl)
      have f1 := show t3 ++ ⟨#[97, 98, 99, 100, 101]⟩ = t4 from rfl
      exact growOp_done rfl rfl hg (parts_value (by simp [go_sem, h116, z3, f1]))
    refine And.intro (fun ac W hO hU H => ?_) ?_
    · have h3 : ac.tmps[3]? = some (.string t0) := (hO 3 rfl).trans rfl
      have hg : ac.tmps[114]? = some (.bool true) := isV_get (W := W) (H 60 114 rfl)
      exact growOp_done rfl rfl hg (parts_value (by simp [go_sem, h3]))
    refine And.intro (fun ac W hO hU H => ?_) ?_
    · have h118 : ac.tmps[118]? = some (.string t0) := isV_get (W := W) (H 64 118 rfl)
      have hg : ac.tmps[114]? = some (.bool true) := isV_get (W := W) (H 60 114 rfl)
      have f1 := show t0.extract 10 25 = t5 from rfl
      exact growOp_done rfl rfl hg (parts_value (by simp [go_sem, h118, z0, f1]))
    refine And.intro (fun ac W hO hU H => ?_) ?_
    · have h117 : ac.tmps[117]? = some (.string t4) := isV_get (W := W) (H 63 117 rfl)
      have h119 : ac.tmps[119]? = some (.string t5) := isV_get (W := W) (H 65 119 rfl)
      have hg : ac.tmps[114]? = some (.bool true) := isV_get (W := W) (H 60 114 rfl)
      have f2 := show t4 ++ t5 = t6 from rfl
      exact growOp_done rfl rfl hg (parts_value (by simp [go_sem, h117, h119, z4, z5, f2]))
    refine And.intro (fun ac W hO hU H => ?_) ?_
    · have h120 : ac.tmps[120]? = some (.string t6) := isV_get (W := W) (H 66 120 rfl)
      have hg : ac.tmps[114]? = some (.bool true) := isV_get (W := W) (H 60 114 rfl)
      exact growOp_done rfl rfl hg (parts_call_is (args := #[.string t6, .int .i64 1]) (by simp [go_sem, h120]) (v5_bad2 W))
    refine And.intro (fun ac W hO hU H => ?_) ?_
    · have h121 : ac.tmps[121]? = some (.int .i64 1) := isV_get (W := W) (H 67 121 rfl)
      have hg : ac.tmps[114]? = some (.bool true) := isV_get (W := W) (H 60 114 rfl)
      exact growOp_done rfl rfl hg (parts_value (by simp [go_sem, h121]))
    refine And.intro (fun ac W hO hU H => ?_) ?_
    · have h114 : ac.tmps[114]? = some (.bool true) := isV_get (W := W) (H 60 114 rfl)
      have h122 : ac.tmps[122]? = some (.bool true) := isV_get (W := W) (H 68 122 rfl)
      exact growOp_plain rfl (parts_value (by simp [go_sem, h114, h122]))
    exact trivial
  · intro w7 xs hU hks
    obtain ⟨y0, rfl, g0⟩ := holdAll_is hks
    obtain ⟨y1, rfl, g1⟩ := holdAll_is g0
    obtain ⟨y2, rfl, g2⟩ := holdAll_is g1
    obtain ⟨y3, rfl, g3⟩ := holdAll_is g2
    obtain ⟨y4, rfl, g4⟩ := holdAll_is g3
    obtain ⟨y5, rfl, g5⟩ := holdAll_is g4
    obtain ⟨y6, rfl, g6⟩ := holdAll_is g5
    obtain ⟨y7, rfl, g7⟩ := holdAll_is g6
    obtain ⟨y8, rfl, g8⟩ := holdAll_is g7
    obtain ⟨y9, rfl, g9⟩ := holdAll_is g8
    obtain ⟨y10, rfl, g10⟩ := holdAll_is g9
    obtain ⟨y11, rfl, g11⟩ := holdAll_is g10
    obtain ⟨y12, rfl, g12⟩ := holdAll_is g11
    obtain ⟨y13, rfl, g13⟩ := holdAll_is g12
    obtain ⟨y14, rfl, g14⟩ := holdAll_is g13
    obtain ⟨y15, rfl, g15⟩ := holdAll_is g14
    obtain ⟨y16, rfl, g16⟩ := holdAll_is g15
    obtain ⟨y17, rfl, g17⟩ := holdAll_is g16
    obtain ⟨y18, rfl, g18⟩ := holdAll_is g17
    obtain ⟨y19, rfl, g19⟩ := holdAll_is g18
    obtain ⟨y20, rfl, g20⟩ := holdAll_is g19
    obtain ⟨y21, rfl, g21⟩ := holdAll_is g20
    obtain ⟨y22, rfl, g22⟩ := holdAll_is g21
    obtain ⟨y23, rfl, g23⟩ := holdAll_is g22
    obtain ⟨y24, rfl, g24⟩ := holdAll_is g23
    obtain ⟨y25, rfl, g25⟩ := holdAll_is g24
    obtain ⟨y26, rfl, g26⟩ := holdAll_is g25
    obtain ⟨y27, rfl, g27⟩ := holdAll_is g26
    obtain ⟨y28, rfl, g28⟩ := holdAll_is g27
    obtain ⟨y29, rfl, g29⟩ := holdAll_is g28
    obtain ⟨y30, rfl, g30⟩ := holdAll_is g29
    obtain ⟨y31, rfl, g31⟩ := holdAll_is g30
    obtain ⟨y32, rfl, g32⟩ := holdAll_is g31
    obtain ⟨y33, rfl, g33⟩ := holdAll_is g32
    obtain ⟨y34, rfl, g34⟩ := holdAll_is g33
    obtain ⟨v35, y35, rfl, q35, g35⟩ := holdAll_cons g34
    obtain ⟨y36, rfl, g36⟩ := holdAll_is g35
    obtain ⟨y37, rfl, g37⟩ := holdAll_is g36
    obtain ⟨y38, rfl, g38⟩ := holdAll_is g37
    obtain ⟨y39, rfl, g39⟩ := holdAll_is g38
    obtain ⟨y40, rfl, g40⟩ := holdAll_is g39
    obtain ⟨y41, rfl, g41⟩ := holdAll_is g40
    obtain ⟨y42, rfl, g42⟩ := holdAll_is g41
    obtain ⟨y43, rfl, g43⟩ := holdAll_is g42
    obtain ⟨y44, rfl, g44⟩ := holdAll_is g43
    obtain ⟨y45, rfl, g45⟩ := holdAll_is g44
    obtain ⟨y46, rfl, g46⟩ := holdAll_is g45
    obtain ⟨y47, rfl, g47⟩ := holdAll_is g46
    obtain ⟨y48, rfl, g48⟩ := holdAll_is g47
    obtain ⟨y49, rfl, g49⟩ := holdAll_is g48
    obtain ⟨y50, rfl, g50⟩ := holdAll_is g49
    obtain ⟨y51, rfl, g51⟩ := holdAll_is g50
    obtain ⟨y52, rfl, g52⟩ := holdAll_is g51
    obtain ⟨y53, rfl, g53⟩ := holdAll_is g52
    obtain ⟨y54, rfl, g54⟩ := holdAll_is g53
    obtain ⟨y55, rfl, g55⟩ := holdAll_is g54
    obtain ⟨y56, rfl, g56⟩ := holdAll_is g55
    obtain ⟨y57, rfl, g57⟩ := holdAll_is g56
    obtain ⟨y58, rfl, g58⟩ := holdAll_is g57
    obtain ⟨y59, rfl, g59⟩ := holdAll_is g58
    obtain ⟨y60, rfl, g60⟩ := holdAll_is g59
    obtain ⟨y61, rfl, g61⟩ := holdAll_is g60
    obtain ⟨y62, rfl, g62⟩ := holdAll_is g61
    obtain ⟨y63, rfl, g63⟩ := holdAll_is g62
    obtain ⟨y64, rfl, g64⟩ := holdAll_is g63
    obtain ⟨y65, rfl, g65⟩ := holdAll_is g64
    obtain ⟨y66, rfl, g66⟩ := holdAll_is g65
    obtain ⟨y67, rfl, g67⟩ := holdAll_is g66
    obtain ⟨y68, rfl, g68⟩ := holdAll_is g67
    obtain ⟨y69, rfl, g69⟩ := holdAll_is g68
    obtain rfl := holdAll_nil g69
    clear hks g0 g1 g2 g3 g4 g5 g6 g7 g8 g9 g10 g11 g12 g13 g14 g15 g16 g17 g18 g19 g20 g21 g22 g23 g24 g25 g26 g27 g28 g29 g30 g31 g32 g33 g34 g35 g36 g37 g38 g39 g40 g41 g42 g43 g44 g45 g46 g47 g48 g49 g50 g51 g52 g53 g54 g55 g56 g57 g58 g59 g60 g61 g62 g63 g64 g65 g66 g67 g68 g69
    simp only [List.append_eq, List.cons_append, List.nil_append, List.take_succ_cons, List.take_zero, List.drop_succ_cons, List.drop_zero, endTmps, List.setIfInBounds_toArray, List.set]
    have ub7 : Ups w6 w7 := drew_ups hU
    replace hr1 := hr1.ups (Ups.trans (Ups.refl _) ub7)
    replace hb1 := block_ups hb1 (Ups.trans (Ups.refl _) ub7)
    have lt1_7 : w1.heap.size < w7.heap.size := (Array.getElem?_eq_some_iff.1 hb1).1
    replace hr2 := hr2.ups (Ups.trans (Ups.refl _) ub7)
    replace hb2 := block_ups hb2 (Ups.trans (Ups.refl _) ub7)
    have lt2_7 : w2.heap.size < w7.heap.size := (Array.getElem?_eq_some_iff.1 hb2).1
    replace hr3 := hr3.ups (Ups.trans (Ups.refl _) ub7)
    replace hb3 := block_ups hb3 (Ups.trans (Ups.refl _) ub7)
    have lt3_7 : w3.heap.size < w7.heap.size := (Array.getElem?_eq_some_iff.1 hb3).1
    replace hr4 := hr4.ups (Ups.trans (Ups.refl _) ub7)
    replace hb4 := block_ups hb4 (Ups.trans (Ups.refl _) ub7)
    have lt4_7 : w4.heap.size < w7.heap.size := (Array.getElem?_eq_some_iff.1 hb4).1
    replace hr5 := hr5.ups (Ups.trans (Ups.refl _) ub7)
    replace hb5 := block_ups hb5 (Ups.trans (Ups.refl _) ub7)
    have lt5_7 : w5.heap.size < w7.heap.size := (Array.getElem?_eq_some_iff.1 hb5).1
    replace uw := Ups.trans uw (Ups.trans (Ups.refl _) ub7)
    clear hU
    go_wp2_with fail
    exact bodyPost_ret (v := .bool true) (results_one rfl rfl) rfl ⟨rfl, Ups.trans uw (Ups.refl _)⟩

end Go.Proofs.YtmabpnkdagipfaaGreat
