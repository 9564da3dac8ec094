/- Texts of this proof, one behind the other: FlMask. -/
import Derived.IntWalk
import Derived.Test.YtmabpnkdagipfaaGreatJ21
import Derived.Test.YtmabpnkdagipfaaGreatJ23

/- What flash.mask comes to. -/
namespace Go.Proofs.YtmabpnkdagipfaaGreat
open Go.RowKit

/-- The bits that a torn step does, so many bytes. -/
def maskL (torn : List UInt8) (size : Nat) : List UInt8 := (List.range size).map fun i => torn.getD (i % torn.length) 0
def maskT (torn : ByteArray) (size : Nat) : ByteArray := bs (maskL torn.data.toList size)
theorem maskL_length (torn : List UInt8) (size : Nat) : (maskL torn size).length = size := by simp [maskL]
theorem maskT_size (torn : ByteArray) (size : Nat) : (maskT torn size).size = size := by rw [maskT, bs_size, maskL_length]
theorem maskL_nil (size : Nat) : maskL [] size = List.replicate size 0 := by
  unfold maskL
  refine List.eq_replicate_iff.2 ⟨by simp, fun c hc => ?_⟩
  obtain ⟨i, _, rfl⟩ := List.mem_map.1 hc
  simp
theorem repeatL_at (l : List UInt8) (h : 0 < l.length) : ∀ (c i : Nat), i < c * l.length → (Lib.repeatL l c)[i]? = some (l.getD (i % l.length) 0)
  | 0, i, hi => by simp at hi
  | c + 1, i, hi => by
    unfold Lib.repeatL
    by_cases h1 : i < l.length
    · rw [List.getElem?_append_left h1, Nat.mod_eq_of_lt h1]
      simp [h1]
    · rw [List.getElem?_append_right (by omega), repeatL_at l h c (i - l.length) (by rw [Nat.succ_mul] at hi; omega)]
      rw [← Nat.mod_eq_sub_mod (a := i) (b := l.length) (by omega)]
theorem repeatL_mask (l : List UInt8) (size : Nat) (h : 0 < l.length) : (Lib.repeatL l (size / l.length + 1)).take size = maskL l size := by
  have hb : size < (size / l.length + 1) * l.length := by
    have := Nat.lt_div_mul_add (a := size) h
    rw [Nat.succ_mul]
    omega
  apply List.ext_getElem?
  intro i
  by_cases hi : i < size
  · rw [List.getElem?_take_of_lt hi, repeatL_at l h _ _ (by omega)]
    simp [maskL, hi]
  · rw [List.getElem?_eq_none (by simp; omega), List.getElem?_eq_none (by simp [maskL]; omega)]

set_option maxRecDepth 100000 in
set_option maxHeartbeats 1000000 in
theorem mask_calls (f : Fl) (v : Value) (w : World) (h : FlAt w v f) (first : ByteArray) (h0 : 0 < f.pages.length) (hf : f.pages.getD 0 ByteArray.empty = first) (hb : f.pages.length ≤ 1000) (hs : first.size ≤ 8192) (ht : f.torn.size ≤ 64) :
    Calls Tryz.prog 75 #[v] w fun e W' => e = .returned (.string (maskT f.torn first.size)) ∧ Ups w W' := by
  obtain ⟨p, q, rfl, ⟨a, c, rfl, hp⟩, ⟨a', c', rfl, _⟩⟩ := h
  obtain ⟨b, off, rfl, hp'⟩ := hp h0
  have hc0 := hp' 0 h0
  rw [hf, Nat.add_zero] at hc0
  have h0' : (0 : Int) < f.pages.length := by omega
  have hbl := lt_of_cell hc0
  simp only at hbl
  have hu1 : Ups w (w.alloc (.cells #[.slice (some ⟨b, off, none⟩) f.pages.length c, .slice a' f.wear.length c', .int .i64 f.fuse, .string f.torn, .bool f.dead] 31)) := (Below.refl _ w).alloc (Nat.le_refl _) _
  clear hp hp' hf
  by_cases ht0 : f.torn.size = 0
  · have he : f.torn = bs [] := text_ext (by
      have := toList_length f.torn
      rw [ht0] at this
      rw [List.eq_nil_of_length_eq_zero this, bs_toList])
    have hm : maskT f.torn first.size = zerosT first.size := by rw [he, maskT, bs_toList, maskL_nil, zerosT]
    rw [hm]
    clear hm ht0
    rw [he] at hu1 ⊢
    have hnil : (bs []).toList = [] := by decide +kernel
    have hmk := run_make_row' (P := Tryz.prog) 80 5 (.int .u8 0) 1 Tryz.underlying80 info_b8 rfl .i64 .i64 first.size (by omega) (by omega)
    have hz := zeros_text first.size (w.alloc (.cells #[.slice (some ⟨b, off, none⟩) f.pages.length c, .slice a' f.wear.length c', .int .i64 f.fuse, .string (bs []), .bool f.dead] 31)) (w.heap.size + 1) (by simp)
    go_enter Tryz.func75, Tryz.ntmps75
    go_wp2_with fail
    go_ret
    exact ⟨rfl, (Below.alloc hu1 hu1.size _)⟩
  · have ht1 : ¬ (f.torn.size : Int) = 0 := by omega
    have hne : (f.torn.toList == []) = false := by
      rw [beq_eq_false_iff_ne, ByteArray.toList_eq]
      intro e
      apply ht0
      rw [← toList_length, e]
      rfl
    have hdiv : (first.size : Int).tdiv (f.torn.size : Int) = ((first.size / f.torn.size : Nat) : Int) := by
      rw [Int.tdiv_eq_ediv_of_nonneg (by omega)]
      norm_cast
    have hq : first.size / f.torn.size ≤ 8192 := Nat.le_trans (Nat.div_le_self _ _) hs
    have hlen : f.torn.size * (first.size / f.torn.size + 1) ≤ 140737488355328 := by
      have := Nat.mul_le_mul ht (show first.size / f.torn.size + 1 ≤ 8193 by omega)
      omega
    have hrep := fun W => Tryz.strings_Repeat f.torn (first.size / f.torn.size + 1) W (by omega) hlen
    have hte : ¬ f.torn = ByteArray.empty := fun e => ht0 (by rw [e]; rfl)
    have hcell : ∀ W, Ups (World.drew (w.alloc (.cells #[.slice (some ⟨b, off, none⟩) f.pages.length c, .slice a' f.wear.length c', .int .i64 f.fuse, .string f.torn, .bool f.dead] 31))) W → W.cell? ⟨w.heap.size, 3, none⟩ = some (.string f.torn) := fun W hU => cell_ups (drew_ups hU) (by rw [World.cell?_alloc_mark]; rfl)
    have hrl := repeatL_mask f.torn.data.toList first.size (by rw [toList_length]; omega)
    rw [toList_length] at hrl
    have hsl : (bs (Lib.repeatL f.torn.data.toList (first.size / f.torn.size + 1))).extract 0 first.size = maskT f.torn first.size := by
      apply text_ext
      rw [maskT, bs_toList, ← hrl]
      simp [ByteArray.data_extract, bs]
    have hsz : first.size ≤ (bs (Lib.repeatL f.torn.data.toList (first.size / f.torn.size + 1))).size := by
      have h1 := congrArg List.length hrl
      rw [maskL_length, List.length_take, ← bs_size] at h1
      omega
    have hnlt : ¬ (bs (Lib.repeatL f.torn.data.toList (first.size / f.torn.size + 1))).size < first.size := by omega
    change ∀ W, Calls _ _ _ W fun e w' => e = .returned (.string (bs (Lib.repeatL f.torn.data.toList (first.size / f.torn.size + 1)))) ∧ Ups W w' at hrep
    generalize bs (Lib.repeatL f.torn.data.toList (first.size / f.torn.size + 1)) = R at *
    generalize first.size / f.torn.size = q at *
    have hw0 : IntKind.i64.wrap (q : Int) = q := (IntWalk.i64_left _).trans (IntWalk.wrap64_in _ ⟨by omega, by omega⟩)
    have hw1 : IntKind.i64.wrap ((q : Int) + 1) = (q : Int) + 1 := (IntWalk.i64_left _).trans (IntWalk.wrap64_in _ ⟨by omega, by omega⟩)
    clear hrl hlen hsz ht0 ht1
    go_enter Tryz.func75, Tryz.ntmps75
    go_wp2_with fail
    refine wp_region_parts (N := 11) (n := 26) (ks := [isV (.pointer (some ⟨w.heap.size, 3, none⟩)), isV (.string f.torn), isV (.int .i64 (first.size : Nat)), isV (.pointer (some ⟨w.heap.size, 3, none⟩)), isV (.string f.torn), isV (.int .i64 (f.torn.size : Nat)), isV (.int .i64 (q : Nat)), isV (.int .i64 (q + 1 : Nat)), isV (.string R), isV (.int .i64 (first.size : Nat)), isV (.string (maskT f.torn first.size))]) (by decide +kernel) (by decide +kernel) (by decide +kernel) (by simp) rfl (by decide +kernel) ⟨steady_is _, steady_is _, steady_is _, steady_is _, steady_is _, steady_is _, steady_is _, steady_is _, steady_is _, steady_is _, steady_is _, trivial⟩ ?_ ?_
    · refine And.intro (fun ac W hO hU H => ?_) ?_
      · have h1 : ac.tmps[1]? = some (.pointer (some ⟨w.heap.size, 0, none⟩)) := (hO 1 rfl).trans rfl
        exact growOp_plain rfl (parts_value (by simp [go_sem, h1]))
      refine And.intro (fun ac W hO hU H => ?_) ?_
      · have h15 : ac.tmps[15]? = some (.pointer (some ⟨w.heap.size, 3, none⟩)) := isV_get (W := W) (H 0 15 rfl)
        have hc := hcell W hU
        exact growOp_plain rfl (parts_value (by simp [go_sem, h15, hc]))
      refine And.intro (fun ac W hO hU H => ?_) ?_
      · have h3 : ac.tmps[3]? = some (.int .i64 (first.size : Nat)) := (hO 3 rfl).trans rfl
        exact growOp_plain rfl (parts_value (by simp [go_sem, h3]))
      refine And.intro (fun ac W hO hU H => ?_) ?_
      · have h1 : ac.tmps[1]? = some (.pointer (some ⟨w.heap.size, 0, none⟩)) := (hO 1 rfl).trans rfl
        exact growOp_plain rfl (parts_value (by simp [go_sem, h1]))
      refine And.intro (fun ac W hO hU H => ?_) ?_
      · have h18 : ac.tmps[18]? = some (.pointer (some ⟨w.heap.size, 3, none⟩)) := isV_get (W := W) (H 3 18 rfl)
        have hc := hcell W hU
        exact growOp_plain rfl (parts_value (by simp [go_sem, h18, hc]))
      refine And.intro (fun ac W hO hU H => ?_) ?_
      · have h19 : ac.tmps[19]? = some (.string f.torn) := isV_get (W := W) (H 4 19 rfl)
        exact growOp_plain rfl (parts_value (by simp [go_sem, h19]))
      refine And.intro (fun ac W hO hU H => ?_) ?_
      · have h17 : ac.tmps[17]? = some (.int .i64 (first.size : Nat)) := isV_get (W := W) (H 2 17 rfl)
        have h20 : ac.tmps[20]? = some (.int .i64 (f.torn.size : Nat)) := isV_get (W := W) (H 5 20 rfl)
        exact growOp_plain rfl (parts_value (by simp [go_sem, h17, h20, hdiv, hte, hw0]))
      refine And.intro (fun ac W hO hU H => ?_) ?_
      · have h21 : ac.tmps[21]? = some (.int .i64 (q : Nat)) := isV_get (W := W) (H 6 21 rfl)
        exact growOp_plain rfl (parts_value (by simp [go_sem, h21, hw1]))
      refine And.intro (fun ac W hO hU H => ?_) ?_
      · have h16 : ac.tmps[16]? = some (.string f.torn) := isV_get (W := W) (H 1 16 rfl)
        have h22 : ac.tmps[22]? = some (.int .i64 (q + 1 : Nat)) := isV_get (W := W) (H 7 22 rfl)
        exact growOp_plain rfl (parts_call_is (args := #[.string f.torn, .int .i64 (q + 1 : Nat)]) (by simp [go_sem, h16, h22]) (hrep W))
      refine And.intro (fun ac W hO hU H => ?_) ?_
      · have h3 : ac.tmps[3]? = some (.int .i64 (first.size : Nat)) := (hO 3 rfl).trans rfl
        exact growOp_plain rfl (parts_value (by simp [go_sem, h3]))
      refine And.intro (fun ac W hO hU H => ?_) ?_
      · have h23 : ac.tmps[23]? = some (.string R) := isV_get (W := W) (H 8 23 rfl)
        have h24 : ac.tmps[24]? = some (.int .i64 (first.size : Nat)) := isV_get (W := W) (H 9 24 rfl)
        exact growOp_plain rfl (parts_value (by simp [go_sem, h23, h24, hsl, hnlt]))
      exact trivial
    · intro W xs hU hks
      obtain ⟨y0, rfl, g0⟩ := holdAll_is hks
      obtain ⟨y1, rfl, g1⟩ := holdAll_is g0
      obtain ⟨y2, rfl, g2⟩ := holdAll_is g1
      obtain ⟨y3, rfl, g3⟩ := holdAll_is g2
      obtain ⟨y4, rfl, g4⟩ := holdAll_is g3
      obtain ⟨y5, rfl, g5⟩ := holdAll_is g4
      obtain ⟨y6, rfl, g6⟩ := holdAll_is g5
      obtain ⟨y7, rfl, g7⟩ := holdAll_is g6
      obtain ⟨y8, rfl, g8⟩ := holdAll_is g7
      obtain ⟨y9, rfl, g9⟩ := holdAll_is g8
      obtain ⟨y10, rfl, g10⟩ := holdAll_is g9
      obtain rfl := holdAll_nil g10
      clear hks g0 g1 g2 g3 g4 g5 g6 g7 g8 g9 g10
      simp only [List.take_succ_cons, List.take_zero, List.drop_succ_cons, List.drop_zero, endTmps, List.setIfInBounds_toArray, List.set]
      go_wp2_with fail
      go_ret
      exact ⟨rfl, Ups.trans hu1 (drew_ups hU)⟩

end Go.Proofs.YtmabpnkdagipfaaGreat
