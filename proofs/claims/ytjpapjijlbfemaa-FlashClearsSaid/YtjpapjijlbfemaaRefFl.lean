/- What ouroborosref03.page, dead, burnt, with, worn, mask come to. -/
import Derived.Test.YtjpapjijlbfemaaRefChk
import Derived.Test.YtjpapjijlbfemaaFlNew
import Derived.Test.YtjpapjijlbfemaaRefNot
import Derived.Deep.AppendLies
namespace Go.Proofs.Ytjpapjijlbfemaa
open Go.RowKit

set_option maxRecDepth 100000 in
set_option maxHeartbeats 1000000 in
theorem rpage_calls (f : Fl) (v : Value) (page : Int) (w : World) (h : FlAt w v f) (hf : FlFit f) :
    Calls Try.prog 35 #[v, .int .i64 page] w fun e W' => e = .returned (.bool (hasB f page)) ∧ Ups w W' := by
  have h0 := h
  obtain ⟨p, q, rfl, ⟨a, c, rfl, hp⟩, ⟨a', c', rfl, hq⟩⟩ := h
  have hbel : Ups w (w.alloc (.cells #[.slice a f.pages.length c, .slice a' f.wear.length c', .int .i64 f.fuse, .string f.torn, .bool f.dead] 25)) := (Below.refl _ w).alloc (Nat.le_refl _) _
  have hk0 : (w.alloc (.cells #[.slice a f.pages.length c, .slice a' f.wear.length c', .int .i64 f.fuse, .string f.torn, .bool f.dead] 25)).heap[w.heap.size]? = some (.cells #[.slice a f.pages.length c, .slice a' f.wear.length c', .int .i64 f.fuse, .string f.torn, .bool f.dead] 25) := ((Own.start w).alloc (.cells #[.slice a f.pages.length c, .slice a' f.wear.length c', .int .i64 f.fuse, .string f.torn, .bool f.dead] 25)).at w.heap.size 0 rfl rfl
  have hc := rcheck_calls f _ _ (h0.ups hbel) hf
  have hh : hasB f page = (checkB f && decide (0 ≤ page) && decide (page < f.pages.length)) := rfl
  have hf1 := hf.1
  generalize hasB f page = r at *
  have HH := Lib.hid hh
  clear hh h0 hp hq hf
  cases hk : checkB f with
  | false =>
    rw [hk] at hc
    have hr : r = false := by rw [HH.out, hk]; rfl
    subst hr
    clear HH hk
    go_enter Try.func35, Try.ntmps35
    go_wp2_with fail
    refine hc.mono ?_
    rintro e w1 ⟨rfl, hb⟩
    go_wp2_with fail
    go_ret
    exact ⟨rfl, Ups.trans hbel hb⟩
  | true =>
    rw [hk] at hc
    have hr : r = (decide (0 ≤ page) && decide (page < f.pages.length)) := by rw [HH.out, hk, Bool.true_and]
    clear HH hk
    by_cases h1 : 0 ≤ page
    · rw [decide_eq_true h1, Bool.true_and] at hr
      subst hr
      go_enter Try.func35, Try.ntmps35
      go_wp2_with fail
      refine hc.mono ?_
      rintro e w1 ⟨rfl, hb⟩
      obtain ⟨k0, k1, k2, k3, k4⟩ := block_cells (block_ups hk0 hb)
      go_wp2_with fail
      go_ret
      exact ⟨rfl, Ups.trans hbel hb⟩
    · rw [decide_eq_false h1, Bool.false_and] at hr
      subst hr
      go_enter Try.func35, Try.ntmps35
      go_wp2_with fail
      refine hc.mono ?_
      rintro e w1 ⟨rfl, hb⟩
      go_wp2_with fail
      go_ret
      exact ⟨rfl, Ups.trans hbel hb⟩

set_option maxRecDepth 100000 in
set_option maxHeartbeats 1000000 in
theorem rdead_calls (f : Fl) (v : Value) (w : World) (h : FlAt w v f) :
    Calls Try.prog 36 #[v] w fun e W' => ∃ v', e = .returned v' ∧ FlNew w v W' v' { f with dead := true } := by
  have hall := h
  obtain ⟨p, q, rfl, hT, hI⟩ := h
  have hrP : RowOff (w.heap.size + 1) p := hT.off (Nat.le_succ _)
  have hrQ : RowOff (w.heap.size + 1) q := hI.off (Nat.le_succ _)
  have hrP0 : RowOff w.heap.size p := hT.off (Nat.le_refl _)
  have hrQ0 : RowOff w.heap.size q := hI.off (Nat.le_refl _)
  have hT0 := hT
  have hI0 := hI
  obtain ⟨a, c, rfl, hp⟩ := hT0
  obtain ⟨a', c', rfl, hq⟩ := hI0
  have hu2 : Ups w ((w.alloc (.cells #[.slice a f.pages.length c, .slice a' f.wear.length c', .int .i64 f.fuse, .string f.torn, .bool true] 25)).alloc (.cells #[.slice a f.pages.length c, .slice a' f.wear.length c', .int .i64 f.fuse, .string f.torn, .bool true] 25)) := ((Own.start w).alloc (.cells #[.slice a f.pages.length c, .slice a' f.wear.length c', .int .i64 f.fuse, .string f.torn, .bool true] 25) |>.alloc (.cells #[.slice a f.pages.length c, .slice a' f.wear.length c', .int .i64 f.fuse, .string f.torn, .bool true] 25)).bel
  clear hp hq hall
  go_enter Try.func36, Try.ntmps36
  go_wp2_with fail
  refine bodyPost_ret (v := .agg #[.slice a f.pages.length c, .slice a' f.wear.length c', .int .i64 f.fuse, .string f.torn, .bool true]) ?_ rfl ⟨_, rfl, ?_⟩
  · simp [results, Try.results36, go_sem]
  · exact ⟨⟨_, _, rfl, hT.ups hu2, hI.ups hu2⟩, hu2, fun B hB ho => FlOff.mk ho.fst ho.snd⟩

/-- One step less. -/
def burntF (f : Fl) : Fl := { f with fuse := if 0 < f.fuse then f.fuse - 1 else f.fuse }

set_option maxRecDepth 100000 in
set_option maxHeartbeats 1000000 in
theorem rburnt1_calls (f : Fl) (v : Value) (w : World) (h : FlAt w v f) (h0 : 0 < f.fuse) (hfu : f.fuse ≤ 9223372036854775807) :
    Calls Try.prog 40 #[v] w fun e W' => ∃ v', e = .returned v' ∧ FlNew w v W' v' { f with fuse := f.fuse - 1 } := by
  have hall := h
  obtain ⟨p, q, rfl, hT, hI⟩ := h
  have hrP : RowOff (w.heap.size + 1) p := hT.off (Nat.le_succ _)
  have hrQ : RowOff (w.heap.size + 1) q := hI.off (Nat.le_succ _)
  have hrP0 : RowOff w.heap.size p := hT.off (Nat.le_refl _)
  have hrQ0 : RowOff w.heap.size q := hI.off (Nat.le_refl _)
  have hT0 := hT
  have hI0 := hI
  obtain ⟨a, c, rfl, hp⟩ := hT0
  obtain ⟨a', c', rfl, hq⟩ := hI0
  have hw1 : IntKind.i64.wrap (f.fuse - 1) = f.fuse - 1 := (IntWalk.i64_left _).trans (IntWalk.wrap64_in _ ⟨by omega, by omega⟩)
  have hu2 : Ups w ((w.alloc (.cells #[.slice a f.pages.length c, .slice a' f.wear.length c', .int .i64 (f.fuse - 1), .string f.torn, .bool f.dead] 25)).alloc (.cells #[.slice a f.pages.length c, .slice a' f.wear.length c', .int .i64 (f.fuse - 1), .string f.torn, .bool f.dead] 25)) := ((Own.start w).alloc (.cells #[.slice a f.pages.length c, .slice a' f.wear.length c', .int .i64 (f.fuse - 1), .string f.torn, .bool f.dead] 25) |>.alloc (.cells #[.slice a f.pages.length c, .slice a' f.wear.length c', .int .i64 (f.fuse - 1), .string f.torn, .bool f.dead] 25)).bel
  clear hp hq hall
  go_enter Try.func40, Try.ntmps40
  go_wp2_with fail
  refine bodyPost_ret (v := .agg #[.slice a f.pages.length c, .slice a' f.wear.length c', .int .i64 (f.fuse - 1), .string f.torn, .bool f.dead]) ?_ rfl ⟨_, rfl, ?_⟩
  · simp [results, Try.results40, go_sem]
  · exact ⟨⟨_, _, rfl, hT.ups hu2, hI.ups hu2⟩, hu2, fun B hB ho => FlOff.mk ho.fst ho.snd⟩

set_option maxRecDepth 100000 in
set_option maxHeartbeats 1000000 in
theorem rburnt2_calls (f : Fl) (v : Value) (w : World) (h : FlAt w v f) (h0 : ¬ 0 < f.fuse) :
    Calls Try.prog 40 #[v] w fun e W' => ∃ v', e = .returned v' ∧ FlNew w v W' v' f := by
  have hall := h
  obtain ⟨p, q, rfl, hT, hI⟩ := h
  have hrP : RowOff (w.heap.size + 1) p := hT.off (Nat.le_succ _)
  have hrQ : RowOff (w.heap.size + 1) q := hI.off (Nat.le_succ _)
  have hrP0 : RowOff w.heap.size p := hT.off (Nat.le_refl _)
  have hrQ0 : RowOff w.heap.size q := hI.off (Nat.le_refl _)
  have hT0 := hT
  have hI0 := hI
  obtain ⟨a, c, rfl, hp⟩ := hT0
  obtain ⟨a', c', rfl, hq⟩ := hI0
  have hu2 : Ups w ((w.alloc (.cells #[.slice a f.pages.length c, .slice a' f.wear.length c', .int .i64 f.fuse, .string f.torn, .bool f.dead] 25)).alloc (.cells #[.slice a f.pages.length c, .slice a' f.wear.length c', .int .i64 f.fuse, .string f.torn, .bool f.dead] 25)) := ((Own.start w).alloc (.cells #[.slice a f.pages.length c, .slice a' f.wear.length c', .int .i64 f.fuse, .string f.torn, .bool f.dead] 25) |>.alloc (.cells #[.slice a f.pages.length c, .slice a' f.wear.length c', .int .i64 f.fuse, .string f.torn, .bool f.dead] 25)).bel
  clear hp hq hall
  go_enter Try.func40, Try.ntmps40
  go_wp2_with fail
  refine bodyPost_ret (v := .agg #[.slice a f.pages.length c, .slice a' f.wear.length c', .int .i64 f.fuse, .string f.torn, .bool f.dead]) ?_ rfl ⟨_, rfl, ?_⟩
  · simp [results, Try.results40, go_sem]
  · exact ⟨⟨_, _, rfl, hT.ups hu2, hI.ups hu2⟩, hu2, fun B hB ho => FlOff.mk ho.fst ho.snd⟩

theorem rburnt_calls (f : Fl) (v : Value) (w : World) (h : FlAt w v f) (hfu : f.fuse ≤ 9223372036854775807) :
    Calls Try.prog 40 #[v] w fun e W' => ∃ v', e = .returned v' ∧ FlNew w v W' v' (burntF f) := by
  unfold burntF
  by_cases h0 : 0 < f.fuse
  · rw [if_pos h0]
    exact rburnt1_calls f v w h h0 hfu
  · rw [if_neg h0]
    exact rburnt2_calls f v w h h0

theorem ups_of_grown {A B : World} {row : Option Nat} (h : A.grownBy B row) (hr : row = none) : Ups A B := by
  subst hr
  exact ⟨h.os, h.tape, h.output, h.size, fun i hi => h.block i hi (by simp)⟩
theorem app_facts {w2 w3 : World} {B e n : Nat} {v' : Value} {xs : List Value} {row : Option Nat} (hown : w3.ownsRow B e 1 v' (0 + n) ([] ++ xs)) (hgrow : w2.grownBy w3 row) (hr : row = none) (h0 : 0 < n) :
    ∃ g cg, v' = .slice (some ⟨g, 0, none⟩) n cg ∧ B ≤ g ∧ Ups w2 w3 ∧ (∀ j, w3.frozen? ⟨g, j, none⟩ = false) ∧ ∀ j, j < n → w3.cell? ⟨g, j, none⟩ = xs[j]? := by
  rw [Nat.zero_add, List.nil_append] at hown
  obtain ⟨g, cg, cur, rfl, hgw, hgc, hcur⟩ := own_cells hown h0
  exact ⟨g, cg, rfl, hgw, ups_of_grown hgrow hr, block_frozen hgc, fun j hj => by rw [cell_of hgc, hcur j hj]⟩
theorem texts_set {W : World} {g n c : Nat} {l : List ByteArray} (hn : n < l.length) (h : ∀ j, j < l.length → W.cell? ⟨g, j, none⟩ = some (.string (l.getD j ByteArray.empty))) (u : ByteArray) :
    TextsAt (W.setCell ⟨g, n, none⟩ (.string u)) (.slice (some ⟨g, 0, none⟩) l.length c) (l.set n u) := by
  refine ⟨_, c, by rw [List.length_set], fun _ => ⟨g, 0, rfl, fun j hj => ?_⟩⟩
  rw [List.length_set] at hj
  rw [Nat.zero_add]
  by_cases hjn : j = n
  · subst hjn
    rw [World.cell?_setCell_same _ _ _ (h j hj)]
    simp [hj]
  · rw [World.cell?_setCell_other _ _ _ _ (fun e => hjn (by have := congrArg Addr.off e; exact this.symm)), h j hj]
    have : ¬ n = j := fun e => hjn e.symm
    simp [List.getD_eq_getElem?_getD, this]

set_option maxRecDepth 100000 in
set_option maxHeartbeats 2000000 in
theorem rwith_calls (f : Fl) (v : Value) (page : Nat) (s : ByteArray) (w : World) (h : FlAt w v f) (hp0 : page < f.pages.length) (hb1 : f.pages.length ≤ 1000) :
    Calls Try.prog 37 #[v, .int .i64 page, .string s] w fun e W' => ∃ v', e = .returned v' ∧ FlNew w v W' v' { f with pages := f.pages.set page s } := by
  have hall := h
  obtain ⟨p, q, rfl, hT, hI⟩ := h
  have hrP : RowOff (w.heap.size + 1) p := hT.off (Nat.le_succ _)
  have hrQ : RowOff (w.heap.size + 1) q := hI.off (Nat.le_succ _)
  have hrP0 : RowOff w.heap.size p := hT.off (Nat.le_refl _)
  have hrQ0 : RowOff w.heap.size q := hI.off (Nat.le_refl _)
  have hT0 := hT
  have hI0 := hI
  obtain ⟨a, c, rfl, hp⟩ := hT0
  obtain ⟨a', c', rfl, hq⟩ := hI0
  have hu2 : Ups w ((w.alloc (.cells #[.slice a f.pages.length c, .slice a' f.wear.length c', .int .i64 f.fuse, .string f.torn, .bool f.dead] 25)).alloc (.cells #[.slice none 0 0, .slice none 0 0, .int .i64 0, .string { data := #[] }, .bool false] 25)) := ((Own.start w).alloc (.cells #[.slice a f.pages.length c, .slice a' f.wear.length c', .int .i64 f.fuse, .string f.torn, .bool f.dead] 25) |>.alloc (.cells #[.slice none 0 0, .slice none 0 0, .int .i64 0, .string { data := #[] }, .bool false] 25)).bel
  have hk0 : ((w.alloc (.cells #[.slice a f.pages.length c, .slice a' f.wear.length c', .int .i64 f.fuse, .string f.torn, .bool f.dead] 25)).alloc (.cells #[.slice none 0 0, .slice none 0 0, .int .i64 0, .string { data := #[] }, .bool false] 25)).heap[w.heap.size]? = some (.cells #[.slice a f.pages.length c, .slice a' f.wear.length c', .int .i64 f.fuse, .string f.torn, .bool f.dead] 25) := ((Own.start w).alloc (.cells #[.slice a f.pages.length c, .slice a' f.wear.length c', .int .i64 f.fuse, .string f.torn, .bool f.dead] 25) |>.alloc (.cells #[.slice none 0 0, .slice none 0 0, .int .i64 0, .string { data := #[] }, .bool false] 25)).at w.heap.size 0 rfl rfl
  have hk1 : ((w.alloc (.cells #[.slice a f.pages.length c, .slice a' f.wear.length c', .int .i64 f.fuse, .string f.torn, .bool f.dead] 25)).alloc (.cells #[.slice none 0 0, .slice none 0 0, .int .i64 0, .string { data := #[] }, .bool false] 25)).heap[w.heap.size + 1]? = some (.cells #[.slice none 0 0, .slice none 0 0, .int .i64 0, .string { data := #[] }, .bool false] 25) := ((Own.start w).alloc (.cells #[.slice a f.pages.length c, .slice a' f.wear.length c', .int .i64 f.fuse, .string f.torn, .bool f.dead] 25) |>.alloc (.cells #[.slice none 0 0, .slice none 0 0, .int .i64 0, .string { data := #[] }, .bool false] 25)).at (w.heap.size + 1) 1 rfl rfl
  have hz2 : w.heap.size + 1 < ((w.alloc (.cells #[.slice a f.pages.length c, .slice a' f.wear.length c', .int .i64 f.fuse, .string f.torn, .bool f.dead] 25)).alloc (.cells #[.slice none 0 0, .slice none 0 0, .int .i64 0, .string { data := #[] }, .bool false] 25)).heap.size := (Array.getElem?_eq_some_iff.1 hk1).1
  obtain ⟨b, off, rfl, hp'⟩ := hp (by omega)
  obtain ⟨i0, hi, hx0, hx1, hx2⟩ := info_parts info_str
  have hip : (page : Int) < f.pages.length := by omega
  have hbig : f.pages.length ≤ maxLen := by unfold maxLen; omega
  have hcells : ∀ W, Ups w W → ∀ j u, (f.pages.map Value.string)[j]? = some u → W.cell? ((⟨b, off, none⟩ : Addr).add j) = some u := by
    intro W hu j u hj
    have hlt : j < f.pages.length := by
      rcases Nat.lt_or_ge j f.pages.length with h | h
      · exact h
      · rw [List.getElem?_eq_none (by simpa using h)] at hj; cases hj
    have := cell_ups hu (hp' j hlt)
    rw [show (⟨b, off, none⟩ : Addr).add j = ⟨b, off + j, none⟩ by unfold Addr.add; split <;> simp_all, this, ← hj]
    simp [hlt]
  have hcells2 : ∀ (W : World) (g : Nat), (∀ j, j < f.pages.length → W.cell? ⟨g, j, none⟩ = (f.pages.map Value.string)[j]?) → ∀ j, j < f.pages.length → W.cell? ⟨g, j, none⟩ = some (Value.string (f.pages.getD j ByteArray.empty)) := by
    intro W g h j hj
    rw [h j hj]
    simp [hj]
  go_enter Try.func37, Try.ntmps37
  go_wp2_with (
    at_builtin
    refine wpList_append_own _ rfl _ _ 22 rfl (w.heap.size + 2) 9 i0 (.string ⟨#[]⟩) 1 16 Try.underlying22 hi hx0 hx1 hx2 rfl (by decide) _ 0 [] rfl (World.ownsRow_nil _ _ _ _) ⟨b, off, none⟩ f.pages.length c (f.pages.map Value.string) rfl (by simp) (hcells _ hu2) (by simp [Value.oneCell']) (by simpa using hbig) (by omega) hz2 ?_
    intro v' w3 hown hgrow _
    obtain ⟨g, cg, rfl, hgw, hu3, hfz, hcx⟩ := app_facts hown hgrow rfl (by omega)
    have hk03 := block_ups hk0 hu3
    have hk13 := block_ups hk1 hu3
    obtain ⟨k0, k1, k2, k3, k4⟩ := block_cells hk03
    have x0 := block_frozen hk03 0
    obtain ⟨d0, d1, d2, d3, d4⟩ := block_cells hk13
    have y0 := block_frozen hk13 0
    have y1 := block_frozen hk13 1
    have y2 := block_frozen hk13 2
    have y3 := block_frozen hk13 3
    have y4 := block_frozen hk13 4
    have hcg := hcells2 w3 g hcx
    have hcp := hcg page hp0
    have hfg := hfz page
    have n1 : ¬ g = w.heap.size := by omega
    have n2 : ¬ w.heap.size = g := by omega
    have n3 : ¬ g = w.heap.size + 1 := by omega
    have n4 : ¬ w.heap.size + 1 = g := by omega
    have HCG := Lib.hid hcg
    have HU3 := Lib.hid (Ups.trans hu2 hu3)
    have hdummy := hz2
    clear hcells hk0 hk1 hk03 hk13 hgrow hown hcg hfz hcx hp')
  have hb1 : But g w3 (w3.setCell ⟨g, page, none⟩ (.string s)) := (But.refl _ _).set page _
  have hb2 : But w.heap.size (w3.setCell ⟨g, page, none⟩ (.string s)) ((w3.setCell ⟨g, page, none⟩ (.string s)).setCell ⟨w.heap.size, 0, none⟩ (.slice (some ⟨g, 0, none⟩) f.pages.length cg)) := (But.refl _ _).set 0 _
  have hu5 := hb2.below (hb1.below HU3.out (by omega)) (Nat.le_refl _)
  refine bodyPost_ret (v := .agg #[.slice (some ⟨g, 0, none⟩) f.pages.length cg, .slice a' f.wear.length c', .int .i64 f.fuse, .string f.torn, .bool f.dead]) ?_ rfl ⟨_, rfl, ?_⟩
  · simp [results, Try.results37, go_sem, d0, d1, d2, d3, d4, n3, n4]
  · have hnew := texts_set (c := cg) hp0 HCG.out s
    have hnew2 := hnew.but hb2 (RowOff.fresh n1)
    have hoth := ((hI.ups HU3.out).but hb1 (hI.off (by omega))).but hb2 hrQ0
    exact fl_stored (v' := .agg #[.slice (some ⟨g, 0, none⟩) f.pages.length cg, .slice a' f.wear.length c', .int .i64 f.fuse, .string f.torn, .bool f.dead]) hu5 (Nat.le_succ _) ⟨_, _, rfl, hnew2, hoth⟩ (FlOff.mk (RowOff.fresh n3) hrQ) (fun B hB ho => FlOff.mk (RowOff.fresh (by omega)) ho.snd) rfl

set_option maxRecDepth 100000 in
set_option maxHeartbeats 2000000 in
theorem rworn_calls (f : Fl) (v : Value) (page : Nat) (w : World) (h : FlAt w v f) (hp0 : page < f.wear.length) (hb1 : f.wear.length ≤ 1000) (hw : 0 ≤ f.wear.getD page 0) (hw2 : f.wear.getD page 0 ≤ 2147483647) :
    Calls Try.prog 41 #[v, .int .i64 page] w fun e W' => ∃ v', e = .returned v' ∧ FlNew w v W' v' { f with wear := f.wear.set page (min (f.wear.getD page 0 + 1) 2147483647) } := by
  have hall := h
  obtain ⟨p, q, rfl, hT, hI⟩ := h
  have hrP : RowOff (w.heap.size + 1) p := hT.off (Nat.le_succ _)
  have hrQ : RowOff (w.heap.size + 1) q := hI.off (Nat.le_succ _)
  have hrP0 : RowOff w.heap.size p := hT.off (Nat.le_refl _)
  have hrQ0 : RowOff w.heap.size q := hI.off (Nat.le_refl _)
  have hT0 := hT
  have hI0 := hI
  obtain ⟨a, c, rfl, hp⟩ := hT0
  obtain ⟨a', c', rfl, hq⟩ := hI0
  have hu2 : Ups w ((w.alloc (.cells #[.slice a f.pages.length c, .slice a' f.wear.length c', .int .i64 f.fuse, .string f.torn, .bool f.dead] 25)).alloc (.cells #[.slice none 0 0, .slice none 0 0, .int .i64 0, .string { data := #[] }, .bool false] 25)) := ((Own.start w).alloc (.cells #[.slice a f.pages.length c, .slice a' f.wear.length c', .int .i64 f.fuse, .string f.torn, .bool f.dead] 25) |>.alloc (.cells #[.slice none 0 0, .slice none 0 0, .int .i64 0, .string { data := #[] }, .bool false] 25)).bel
  have hk0 : ((w.alloc (.cells #[.slice a f.pages.length c, .slice a' f.wear.length c', .int .i64 f.fuse, .string f.torn, .bool f.dead] 25)).alloc (.cells #[.slice none 0 0, .slice none 0 0, .int .i64 0, .string { data := #[] }, .bool false] 25)).heap[w.heap.size]? = some (.cells #[.slice a f.pages.length c, .slice a' f.wear.length c', .int .i64 f.fuse, .string f.torn, .bool f.dead] 25) := ((Own.start w).alloc (.cells #[.slice a f.pages.length c, .slice a' f.wear.length c', .int .i64 f.fuse, .string f.torn, .bool f.dead] 25) |>.alloc (.cells #[.slice none 0 0, .slice none 0 0, .int .i64 0, .string { data := #[] }, .bool false] 25)).at w.heap.size 0 rfl rfl
  have hk1 : ((w.alloc (.cells #[.slice a f.pages.length c, .slice a' f.wear.length c', .int .i64 f.fuse, .string f.torn, .bool f.dead] 25)).alloc (.cells #[.slice none 0 0, .slice none 0 0, .int .i64 0, .string { data := #[] }, .bool false] 25)).heap[w.heap.size + 1]? = some (.cells #[.slice none 0 0, .slice none 0 0, .int .i64 0, .string { data := #[] }, .bool false] 25) := ((Own.start w).alloc (.cells #[.slice a f.pages.length c, .slice a' f.wear.length c', .int .i64 f.fuse, .string f.torn, .bool f.dead] 25) |>.alloc (.cells #[.slice none 0 0, .slice none 0 0, .int .i64 0, .string { data := #[] }, .bool false] 25)).at (w.heap.size + 1) 1 rfl rfl
  have hz2 : w.heap.size + 1 < ((w.alloc (.cells #[.slice a f.pages.length c, .slice a' f.wear.length c', .int .i64 f.fuse, .string f.torn, .bool f.dead] 25)).alloc (.cells #[.slice none 0 0, .slice none 0 0, .int .i64 0, .string { data := #[] }, .bool false] 25)).heap.size := (Array.getElem?_eq_some_iff.1 hk1).1
  obtain ⟨b, off, rfl, hp'⟩ := hq (by omega)
  obtain ⟨i0, hi, hx0, hx1, hx2⟩ := info_parts info_i64
  have hip : (page : Int) < f.wear.length := by omega
  have hbig : f.wear.length ≤ maxLen := by unfold maxLen; omega
  have hcells : ∀ W, Ups w W → ∀ j u, (f.wear.map (Value.int .i64))[j]? = some u → W.cell? ((⟨b, off, none⟩ : Addr).add j) = some u := by
    intro W hu j u hj
    have hlt : j < f.wear.length := by
      rcases Nat.lt_or_ge j f.wear.length with h | h
      · exact h
      · rw [List.getElem?_eq_none (by simpa using h)] at hj; cases hj
    have := cell_ups hu (hp' j hlt)
    rw [show (⟨b, off, none⟩ : Addr).add j = ⟨b, off + j, none⟩ by unfold Addr.add; split <;> simp_all, this, ← hj]
    simp [hlt]
  have hcells2 : ∀ (W : World) (g : Nat), (∀ j, j < f.wear.length → W.cell? ⟨g, j, none⟩ = (f.wear.map (Value.int .i64))[j]?) → ∀ j, j < f.wear.length → W.cell? ⟨g, j, none⟩ = some ((Value.int .i64) (f.wear.getD j 0)) := by
    intro W g h j hj
    rw [h j hj]
    simp [hj]
  go_enter Try.func41, Try.ntmps41
  go_wp2_with (
    at_builtin
    refine wpList_append_own _ rfl _ _ 23 rfl (w.heap.size + 2) 3 i0 (.int .i64 0) 1 8 Try.underlying23 hi hx0 hx1 hx2 rfl (by decide) _ 0 [] rfl (World.ownsRow_nil _ _ _ _) ⟨b, off, none⟩ f.wear.length c' (f.wear.map (Value.int .i64)) rfl (by simp) (hcells _ hu2) (by simp [Value.oneCell']) (by simpa using hbig) (by omega) hz2 ?_
    intro v' w3 hown hgrow _
    obtain ⟨g, cg, rfl, hgw, hu3, hfz, hcx⟩ := app_facts hown hgrow rfl (by omega)
    have hk03 := block_ups hk0 hu3
    have hk13 := block_ups hk1 hu3
    obtain ⟨k0, k1, k2, k3, k4⟩ := block_cells hk03
    have x1 := block_frozen hk03 1
    obtain ⟨d0, d1, d2, d3, d4⟩ := block_cells hk13
    have y0 := block_frozen hk13 0
    have y1 := block_frozen hk13 1
    have y2 := block_frozen hk13 2
    have y3 := block_frozen hk13 3
    have y4 := block_frozen hk13 4
    have hcg := hcells2 w3 g hcx
    have hcp := hcg page hp0
    have hfg := hfz page
    have n1 : ¬ g = w.heap.size := by omega
    have n2 : ¬ w.heap.size = g := by omega
    have n3 : ¬ g = w.heap.size + 1 := by omega
    have n4 : ¬ w.heap.size + 1 = g := by omega
    have HCG := Lib.hid hcg
    have HU3 := Lib.hid (Ups.trans hu2 hu3)
    generalize hgen : f.wear.getD page 0 = old at *
    have HG := Lib.hid hgen
    clear hgen
    have hwr : IntKind.i64.wrap (old + 1) = old + 1 := (IntWalk.i64_left _).trans (IntWalk.wrap64_in _ ⟨by omega, by omega⟩)
    clear hcells hk0 hk1 hk03 hk13 hgrow hown hcg hfz hcx hp')
  have hb1 : But g w3 (w3.setCell ⟨g, page, none⟩ (.int .i64 (min (old + 1) 2147483647))) := (But.refl _ _).set page _
  have hb2 : But w.heap.size (w3.setCell ⟨g, page, none⟩ (.int .i64 (min (old + 1) 2147483647))) ((w3.setCell ⟨g, page, none⟩ (.int .i64 (min (old + 1) 2147483647))).setCell ⟨w.heap.size, 1, none⟩ (.slice (some ⟨g, 0, none⟩) f.wear.length cg)) := (But.refl _ _).set 1 _
  have hu5 := hb2.below (hb1.below HU3.out (by omega)) (Nat.le_refl _)
  refine bodyPost_ret (v := .agg #[.slice a f.pages.length c, .slice (some ⟨g, 0, none⟩) f.wear.length cg, .int .i64 f.fuse, .string f.torn, .bool f.dead]) ?_ rfl ⟨_, rfl, ?_⟩
  · simp [results, Try.results41, go_sem, d0, d1, d2, d3, d4, n3, n4]
  · have hnew := ints_set (c := cg) hp0 HCG.out (min (old + 1) 2147483647)
    have hnew2 := hnew.but hb2 (RowOff.fresh n1)
    have hoth := ((hT.ups HU3.out).but hb1 (hT.off (by omega))).but hb2 hrP0
    exact fl_stored (v' := .agg #[.slice a f.pages.length c, .slice (some ⟨g, 0, none⟩) f.wear.length cg, .int .i64 f.fuse, .string f.torn, .bool f.dead]) hu5 (Nat.le_succ _) ⟨_, _, rfl, hoth, (by simp only [HG.out]; exact hnew2)⟩ (FlOff.mk hrP (RowOff.fresh n3)) (fun B hB ho => FlOff.mk ho.fst (RowOff.fresh (by omega))) rfl

end Go.Proofs.Ytjpapjijlbfemaa
