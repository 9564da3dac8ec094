/- Texts of this proof, one behind the other: RefFl, RefMask, RefOps, RefRest, RefNew, Law3a, Law3r. -/
import Derived.Deep.AppendLies
import Derived.Test.YtmabpnkdagipfaaGreatJ12
import Derived.Test.YtmabpnkdagipfaaGreatJ27
import Derived.Test.YtmabpnkdagipfaaGreatJ31

/- What ouroborosref03.page, dead, burnt, with, worn, mask come to. -/
namespace Go.Proofs.YtmabpnkdagipfaaGreat
open Go.RowKit

set_option maxRecDepth 100000 in
set_option maxHeartbeats 1000000 in
theorem rpage_calls (f : Fl) (v : Value) (page : Int) (w : World) (h : FlAt w v f) (hf : FlFit f) :
    Calls Tryz.prog 65 #[v, .int .i64 page] w fun e W' => e = .returned (.bool (hasB f page)) ∧ Ups w W' := by
  have h0 := h
  obtain ⟨p, q, rfl, ⟨a, c, rfl, hp⟩, ⟨a', c', rfl, hq⟩⟩ := h
  have hbel : Ups w (w.alloc (.cells #[.slice a f.pages.length c, .slice a' f.wear.length c', .int .i64 f.fuse, .string f.torn, .bool f.dead] 31)) := (Below.refl _ w).alloc (Nat.le_refl _) _
  have hk0 : (w.alloc (.cells #[.slice a f.pages.length c, .slice a' f.wear.length c', .int .i64 f.fuse, .string f.torn, .bool f.dead] 31)).heap[w.heap.size]? = some (.cells #[.slice a f.pages.length c, .slice a' f.wear.length c', .int .i64 f.fuse, .string f.torn, .bool f.dead] 31) := ((Own.start w).alloc (.cells #[.slice a f.pages.length c, .slice a' f.wear.length c', .int .i64 f.fuse, .string f.torn, .bool f.dead] 31)).at w.heap.size 0 rfl rfl
  have hc := rcheck_calls f _ _ (h0.ups hbel) hf
  have hh : hasB f page = (checkB f && decide (0 ≤ page) && decide (page < f.pages.length)) := rfl
  have hf1 := hf.1
  generalize hasB f page = r at *
  have HH := Lib.hid hh
  clear hh h0 hp hq hf
  cases hk : checkB f with
  | false =>
    rw [hk] at hc
    have hr : r = false := by rw [HH.out, hk]; rfl
    subst hr
    clear HH hk
    go_enter Tryz.func65, Tryz.ntmps65
    go_wp2_with fail
    refine hc.mono ?_
    rintro e w1 ⟨rfl, hb⟩
    go_wp2_with fail
    go_ret
    exact ⟨rfl, Ups.trans hbel hb⟩
  | true =>
    rw [hk] at hc
    have hr : r = (decide (0 ≤ page) && decide (page < f.pages.length)) := by rw [HH.out, hk, Bool.true_and]
    clear HH hk
    by_cases h1 : 0 ≤ page
    · rw [decide_eq_true h1, Bool.true_and] at hr
      subst hr
      go_enter Tryz.func65, Tryz.ntmps65
      go_wp2_with fail
      refine hc.mono ?_
      rintro e w1 ⟨rfl, hb⟩
      obtain ⟨k0, k1, k2, k3, k4⟩ := block_cells (block_ups hk0 hb)
      go_wp2_with fail
      go_ret
      exact ⟨rfl, Ups.trans hbel hb⟩
    · rw [decide_eq_false h1, Bool.false_and] at hr
      subst hr
      go_enter Tryz.func65, Tryz.ntmps65
      go_wp2_with fail
      refine hc.mono ?_
      rintro e w1 ⟨rfl, hb⟩
      go_wp2_with fail
      go_ret
      exact ⟨rfl, Ups.trans hbel hb⟩

set_option maxRecDepth 100000 in
set_option maxHeartbeats 1000000 in
theorem rdead_calls (f : Fl) (v : Value) (w : World) (h : FlAt w v f) :
    Calls Tryz.prog 69 #[v] w fun e W' => ∃ v', e = .returned v' ∧ FlNew w v W' v' { f with dead := true } := by
  have hall := h
  obtain ⟨p, q, rfl, hT, hI⟩ := h
  have hrP : RowOff (w.heap.size + 1) p := hT.off (Nat.le_succ _)
  have hrQ : RowOff (w.heap.size + 1) q := hI.off (Nat.le_succ _)
  have hrP0 : RowOff w.heap.size p := hT.off (Nat.le_refl _)
  have hrQ0 : RowOff w.heap.size q := hI.off (Nat.le_refl _)
  have hT0 := hT
  have hI0 := hI
  obtain ⟨a, c, rfl, hp⟩ := hT0
  obtain ⟨a', c', rfl, hq⟩ := hI0
  have hu2 : Ups w ((w.alloc (.cells #[.slice a f.pages.length c, .slice a' f.wear.length c', .int .i64 f.fuse, .string f.torn, .bool true] 31)).alloc (.cells #[.slice a f.pages.length c, .slice a' f.wear.length c', .int .i64 f.fuse, .string f.torn, .bool true] 31)) := ((Own.start w).alloc (.cells #[.slice a f.pages.length c, .slice a' f.wear.length c', .int .i64 f.fuse, .string f.torn, .bool true] 31) |>.alloc (.cells #[.slice a f.pages.length c, .slice a' f.wear.length c', .int .i64 f.fuse, .string f.torn, .bool true] 31)).bel
  clear hp hq hall
  go_enter Tryz.func69, Tryz.ntmps69
  go_wp2_with fail
  refine bodyPost_ret (v := .agg #[.slice a f.pages.length c, .slice a' f.wear.length c', .int .i64 f.fuse, .string f.torn, .bool true]) ?_ rfl ⟨_, rfl, ?_⟩
  · simp [results, Tryz.results69, go_sem]
  · exact ⟨⟨_, _, rfl, hT.ups hu2, hI.ups hu2⟩, hu2, fun B hB ho => FlOff.mk ho.fst ho.snd⟩

/-- One step less. -/
def burntF (f : Fl) : Fl := { f with fuse := if 0 < f.fuse then f.fuse - 1 else f.fuse }

set_option maxRecDepth 100000 in
set_option maxHeartbeats 1000000 in
theorem rburnt1_calls (f : Fl) (v : Value) (w : World) (h : FlAt w v f) (h0 : 0 < f.fuse) (hfu : f.fuse ≤ 9223372036854775807) :
    Calls Tryz.prog 72 #[v] w fun e W' => ∃ v', e = .returned v' ∧ FlNew w v W' v' { f with fuse := f.fuse - 1 } := by
  have hall := h
  obtain ⟨p, q, rfl, hT, hI⟩ := h
  have hrP : RowOff (w.heap.size + 1) p := hT.off (Nat.le_succ _)
  have hrQ : RowOff (w.heap.size + 1) q := hI.off (Nat.le_succ _)
  have hrP0 : RowOff w.heap.size p := hT.off (Nat.le_refl _)
  have hrQ0 : RowOff w.heap.size q := hI.off (Nat.le_refl _)
  have hT0 := hT
  have hI0 := hI
  obtain ⟨a, c, rfl, hp⟩ := hT0
  obtain ⟨a', c', rfl, hq⟩ := hI0
  have hw1 : IntKind.i64.wrap (f.fuse - 1) = f.fuse - 1 := (IntWalk.i64_left _).trans (IntWalk.wrap64_in _ ⟨by omega, by omega⟩)
  have hu2 : Ups w ((w.alloc (.cells #[.slice a f.pages.length c, .slice a' f.wear.length c', .int .i64 (f.fuse - 1), .string f.torn, .bool f.dead] 31)).alloc (.cells #[.slice a f.pages.length c, .slice a' f.wear.length c', .int .i64 (f.fuse - 1), .string f.torn, .bool f.dead] 31)) := ((Own.start w).alloc (.cells #[.slice a f.pages.length c, .slice a' f.wear.length c', .int .i64 (f.fuse - 1), .string f.torn, .bool f.dead] 31) |>.alloc (.cells #[.slice a f.pages.length c, .slice a' f.wear.length c', .int .i64 (f.fuse - 1), .string f.torn, .bool f.dead] 31)).bel
  clear hp hq hall
  go_enter Tryz.func72, Tryz.ntmps72
  go_wp2_with fail
  refine bodyPost_ret (v := .agg #[.slice a f.pages.length c, .slice a' f.wear.length c', .int .i64 (f.fuse - 1), .string f.torn, .bool f.dead]) ?_ rfl ⟨_, rfl, ?_⟩
  · simp [results, Tryz.results72, go_sem]
  · exact ⟨⟨_, _, rfl, hT.ups hu2, hI.ups hu2⟩, hu2, fun B hB ho => FlOff.mk ho.fst ho.snd⟩

set_option maxRecDepth 100000 in
set_option maxHeartbeats 1000000 in
theorem rburnt2_calls (f : Fl) (v : Value) (w : World) (h : FlAt w v f) (h0 : ¬ 0 < f.fuse) :
    Calls Tryz.prog 72 #[v] w fun e W' => ∃ v', e = .returned v' ∧ FlNew w v W' v' f := by
  have hall := h
  obtain ⟨p, q, rfl, hT, hI⟩ := h
  have hrP : RowOff (w.heap.size + 1) p := hT.off (Nat.le_succ _)
  have hrQ : RowOff (w.heap.size + 1) q := hI.off (Nat.le_succ _)
  have hrP0 : RowOff w.heap.size p := hT.off (Nat.le_refl _)
  have hrQ0 : RowOff w.heap.size q := hI.off (Nat.le_refl _)
  have hT0 := hT
  have hI0 := hI
  obtain ⟨a, c, rfl, hp⟩ := hT0
  obtain ⟨a', c', rfl, hq⟩ := hI0
  have hu2 : Ups w ((w.alloc (.cells #[.slice a f.pages.length c, .slice a' f.wear.length c', .int .i64 f.fuse, .string f.torn, .bool f.dead] 31)).alloc (.cells #[.slice a f.pages.length c, .slice a' f.wear.length c', .int .i64 f.fuse, .string f.torn, .bool f.dead] 31)) := ((Own.start w).alloc (.cells #[.slice a f.pages.length c, .slice a' f.wear.length c', .int .i64 f.fuse, .string f.torn, .bool f.dead] 31) |>.alloc (.cells #[.slice a f.pages.length c, .slice a' f.wear.length c', .int .i64 f.fuse, .string f.torn, .bool f.dead] 31)).bel
  clear hp hq hall
  go_enter Tryz.func72, Tryz.ntmps72
  go_wp2_with fail
  refine bodyPost_ret (v := .agg #[.slice a f.pages.length c, .slice a' f.wear.length c', .int .i64 f.fuse, .string f.torn, .bool f.dead]) ?_ rfl ⟨_, rfl, ?_⟩
  · simp [results, Tryz.results72, go_sem]
  · exact ⟨⟨_, _, rfl, hT.ups hu2, hI.ups hu2⟩, hu2, fun B hB ho => FlOff.mk ho.fst ho.snd⟩

theorem rburnt_calls (f : Fl) (v : Value) (w : World) (h : FlAt w v f) (hfu : f.fuse ≤ 9223372036854775807) :
    Calls Tryz.prog 72 #[v] w fun e W' => ∃ v', e = .returned v' ∧ FlNew w v W' v' (burntF f) := by
  unfold burntF
  by_cases h0 : 0 < f.fuse
  · rw [if_pos h0]
    exact rburnt1_calls f v w h h0 hfu
  · rw [if_neg h0]
    exact rburnt2_calls f v w h h0

theorem ups_of_grown {A B : World} {row : Option Nat} (h : A.grownBy B row) (hr : row = none) : Ups A B := by
  subst hr
  exact ⟨h.os, h.tape, h.output, h.size, fun i hi => h.block i hi (by simp)⟩
theorem app_facts {w2 w3 : World} {B e n : Nat} {v' : Value} {xs : List Value} {row : Option Nat} (hown : w3.ownsRow B e 1 v' (0 + n) ([] ++ xs)) (hgrow : w2.grownBy w3 row) (hr : row = none) (h0 : 0 < n) :
    ∃ g cg, v' = .slice (some ⟨g, 0, none⟩) n cg ∧ B ≤ g ∧ Ups w2 w3 ∧ (∀ j, w3.frozen? ⟨g, j, none⟩ = false) ∧ ∀ j, j < n → w3.cell? ⟨g, j, none⟩ = xs[j]? := by
  rw [Nat.zero_add, List.nil_append] at hown
  obtain ⟨g, cg, cur, rfl, hgw, hgc, hcur⟩ := own_cells hown h0
  exact ⟨g, cg, rfl, hgw, ups_of_grown hgrow hr, block_frozen hgc, fun j hj => by rw [cell_of hgc, hcur j hj]⟩
theorem texts_set {W : World} {g n c : Nat} {l : List ByteArray} (hn : n < l.length) (h : ∀ j, j < l.length → W.cell? ⟨g, j, none⟩ = some (.string (l.getD j ByteArray.empty))) (u : ByteArray) :
    TextsAt (W.setCell ⟨g, n, none⟩ (.string u)) (.slice (some ⟨g, 0, none⟩) l.length c) (l.set n u) := by
  refine ⟨_, c, by rw [List.length_set], fun _ => ⟨g, 0, rfl, fun j hj => ?_⟩⟩
  rw [List.length_set] at hj
  rw [Nat.zero_add]
  by_cases hjn : j = n
  · subst hjn
    rw [World.cell?_setCell_same _ _ _ (h j hj)]
    simp [hj]
  · rw [World.cell?_setCell_other _ _ _ _ (fun e => hjn (by have := congrArg Addr.off e; exact this.symm)), h j hj]
    have : ¬ n = j := fun e => hjn e.symm
    simp [List.getD_eq_getElem?_getD, this]

set_option maxRecDepth 100000 in
set_option maxHeartbeats 2000000 in
theorem rwith_calls (f : Fl) (v : Value) (page : Nat) (s : ByteArray) (w : World) (h : FlAt w v f) (hp0 : page < f.pages.length) (hb1 : f.pages.length ≤ 1000) :
    Calls Tryz.prog 70 #[v, .int .i64 page, .string s] w fun e W' => ∃ v', e = .returned v' ∧ FlNew w v W' v' { f with pages := f.pages.set page s } := by
  have hall := h
  obtain ⟨p, q, rfl, hT, hI⟩ := h
  have hrP : RowOff (w.heap.size + 1) p := hT.off (Nat.le_succ _)
  have hrQ : RowOff (w.heap.size + 1) q := hI.off (Nat.le_succ _)
  have hrP0 : RowOff w.heap.size p := hT.off (Nat.le_refl _)
  have hrQ0 : RowOff w.heap.size q := hI.off (Nat.le_refl _)
  have hT0 := hT
  have hI0 := hI
  obtain ⟨a, c, rfl, hp⟩ := hT0
  obtain ⟨a', c', rfl, hq⟩ := hI0
  have hu2 : Ups w ((w.alloc (.cells #[.slice a f.pages.length c, .slice a' f.wear.length c', .int .i64 f.fuse, .string f.torn, .bool f.dead] 31)).alloc (.cells #[.slice none 0 0, .slice none 0 0, .int .i64 0, .string { data := #[] }, .bool false] 31)) := ((Own.start w).alloc (.cells #[.slice a f.pages.length c, .slice a' f.wear.length c', .int .i64 f.fuse, .string f.torn, .bool f.dead] 31) |>.alloc (.cells #[.slice none 0 0, .slice none 0 0, .int .i64 0, .string { data := #[] }, .bool false] 31)).bel
  have hk0 : ((w.alloc (.cells #[.slice a f.pages.length c, .slice a' f.wear.length c', .int .i64 f.fuse, .string f.torn, .bool f.dead] 31)).alloc (.cells #[.slice none 0 0, .slice none 0 0, .int .i64 0, .string { data := #[] }, .bool false] 31)).heap[w.heap.size]? = some (.cells #[.slice a f.pages.length c, .slice a' f.wear.length c', .int .i64 f.fuse, .string f.torn, .bool f.dead] 31) := ((Own.start w).alloc (.cells #[.slice a f.pages.length c, .slice a' f.wear.length c', .int .i64 f.fuse, .string f.torn, .bool f.dead] 31) |>.alloc (.cells #[.slice none 0 0, .slice none 0 0, .int .i64 0, .string { data := #[] }, .bool false] 31)).at w.heap.size 0 rfl rfl
  have hk1 : ((w.alloc (.cells #[.slice a f.pages.length c, .slice a' f.wear.length c', .int .i64 f.fuse, .string f.torn, .bool f.dead] 31)).alloc (.cells #[.slice none 0 0, .slice none 0 0, .int .i64 0, .string { data := #[] }, .bool false] 31)).heap[w.heap.size + 1]? = some (.cells #[.slice none 0 0, .slice none 0 0, .int .i64 0, .string { data := #[] }, .bool false] 31) := ((Own.start w).alloc (.cells #[.slice a f.pages.length c, .slice a' f.wear.length c', .int .i64 f.fuse, .string f.torn, .bool f.dead] 31) |>.alloc (.cells #[.slice none 0 0, .slice none 0 0, .int .i64 0, .string { data := #[] }, .bool false] 31)).at (w.heap.size + 1) 1 rfl rfl
  have hz2 : w.heap.size + 1 < ((w.alloc (.cells #[.slice a f.pages.length c, .slice a' f.wear.length c', .int .i64 f.fuse, .string f.torn, .bool f.dead] 31)).alloc (.cells #[.slice none 0 0, .slice none 0 0, .int .i64 0, .string { data := #[] }, .bool false] 31)).heap.size := (Array.getElem?_eq_some_iff.1 hk1).1
  obtain ⟨b, off, rfl, hp'⟩ := hp (by omega)
  obtain ⟨i0, hi, hx0, hx1, hx2⟩ := info_parts info_str
  have hip : (page : Int) < f.pages.length := by omega
  have hbig : f.pages.length ≤ maxLen := by unfold maxLen; omega
  have hcells : ∀ W, Ups w W → ∀ j u, (f.pages.map Value.string)[j]? = some u → W.cell? ((⟨b, off, none⟩ : Addr).add j) = some u := by
    intro W hu j u hj
    have hlt : j < f.pages.length := by
      rcases Nat.lt_or_ge j f.pages.length with h | h
      · exact h
      · rw [List.getElem?_eq_none (by simpa using h)] at hj; cases hj
    have := cell_ups hu (hp' j hlt)
    rw [show (⟨b, off, none⟩ : Addr).add j = ⟨b, off + j, none⟩ by unfold Addr.add; split <;> simp_all, this, ← hj]
    simp [hlt]
  have hcells2 : ∀ (W : World) (g : Nat), (∀ j, j < f.pages.length → W.cell? ⟨g, j, none⟩ = (f.pages.map Value.string)[j]?) → ∀ j, j < f.pages.length → W.cell? ⟨g, j, none⟩ = some (Value.string (f.pages.getD j ByteArray.empty)) := by
    intro W g h j hj
    rw [h j hj]
    simp [hj]
  go_enter Tryz.func70, Tryz.ntmps70
  go_wp2_with (
    at_builtin
    refine wpList_append_own _ rfl _ _ 26 rfl (w.heap.size + 2) 9 i0 (.string ⟨#[]⟩) 1 16 Tryz.underlying26 hi hx0 hx1 hx2 rfl (by decide) _ 0 [] rfl (World.ownsRow_nil _ _ _ _) ⟨b, off, none⟩ f.pages.length c (f.pages.map Value.string) rfl (by simp) (hcells _ hu2) (by simp [Value.oneCell']) (by simpa using hbig) (by omega) hz2 ?_
    intro v' w3 hown hgrow _
    obtain ⟨g, cg, rfl, hgw, hu3, hfz, hcx⟩ := app_facts hown hgrow rfl (by omega)
    have hk03 := block_ups hk0 hu3
    have hk13 := block_ups hk1 hu3
    obtain ⟨k0, k1, k2, k3, k4⟩ := block_cells hk03
    have x0 := block_frozen hk03 0
    obtain ⟨d0, d1, d2, d3, d4⟩ := block_cells hk13
    have y0 := block_frozen hk13 0
    have y1 := block_frozen hk13 1
    have y2 := block_frozen hk13 2
    have y3 := block_frozen hk13 3
    have y4 := block_frozen hk13 4
    have hcg := hcells2 w3 g hcx
    have hcp := hcg page hp0
    have hfg := hfz page
    have n1 : ¬ g = w.heap.size := by omega
    have n2 : ¬ w.heap.size = g := by omega
    have n3 : ¬ g = w.heap.size + 1 := by omega
    have n4 : ¬ w.heap.size + 1 = g := by omega
    have HCG := Lib.hid hcg
    have HU3 := Lib.hid (Ups.trans hu2 hu3)
    have hdummy := hz2
    clear hcells hk0 hk1 hk03 hk13 hgrow hown hcg hfz hcx hp')
  have hb1 : But g w3 (w3.setCell ⟨g, page, none⟩ (.string s)) := (But.refl _ _).set page _
  have hb2 : But w.heap.size (w3.setCell ⟨g, page, none⟩ (.string s)) ((w3.setCell ⟨g, page, none⟩ (.string s)).setCell ⟨w.heap.size, 0, none⟩ (.slice (some ⟨g, 0, none⟩) f.pages.length cg)) := (But.refl _ _).set 0 _
  have hu5 := hb2.below (hb1.below HU3.out (by omega)) (Nat.le_refl _)
  refine bodyPost_ret (v := .agg #[.slice (some ⟨g, 0, none⟩) f.pages.length cg, .slice a' f.wear.length c', .int .i64 f.fuse, .string f.torn, .bool f.dead]) ?_ rfl ⟨_, rfl, ?_⟩
  · simp [results, Tryz.results70, go_sem, d0, d1, d2, d3, d4, n3, n4]
  · have hnew := texts_set (c := cg) hp0 HCG.out s
    have hnew2 := hnew.but hb2 (RowOff.fresh n1)
    have hoth := ((hI.ups HU3.out).but hb1 (hI.off (by omega))).but hb2 hrQ0
    exact fl_stored (v' := .agg #[.slice (some ⟨g, 0, none⟩) f.pages.length cg, .slice a' f.wear.length c', .int .i64 f.fuse, .string f.torn, .bool f.dead]) hu5 (Nat.le_succ _) ⟨_, _, rfl, hnew2, hoth⟩ (FlOff.mk (RowOff.fresh n3) hrQ) (fun B hB ho => FlOff.mk (RowOff.fresh (by omega)) ho.snd) rfl

end Go.Proofs.YtmabpnkdagipfaaGreat

/- What ouroborosref03.mask comes to. -/
namespace Go.Proofs.YtmabpnkdagipfaaGreat
open Go.RowKit

theorem own_ups {A B : World} {base e size n : Nat} {v : Value} {xs : List Value} (h : A.ownsRow base e size v n xs) (hu : Ups A B) : B.ownsRow base e size v n xs := by
  obtain ⟨hl, h | ⟨g, cap, cur, rfl, hB, hg, h1, h2, h3, h4⟩⟩ := h
  · exact ⟨hl, .inl h⟩
  · exact ⟨hl, .inr ⟨g, cap, cur, rfl, hB, block_ups hg hu, h1, h2, h3, h4⟩⟩

set_option maxRecDepth 100000 in
set_option maxHeartbeats 2000000 in
theorem rmask_calls (f : Fl) (v : Value) (w : World) (h : FlAt w v f) (first : ByteArray) (h0 : 0 < f.pages.length) (hf : f.pages.getD 0 ByteArray.empty = first) (hb : f.pages.length ≤ 1000) (hs : first.size ≤ 8192) (ht : f.torn.size ≤ 64) :
    Calls Tryz.prog 68 #[v] w fun e W' => e = .returned (.string (maskT f.torn first.size)) ∧ Ups w W' := by
  obtain ⟨p, q, rfl, ⟨a, c, rfl, hp⟩, ⟨a', c', rfl, _⟩⟩ := h
  obtain ⟨b, off, rfl, hp'⟩ := hp h0
  have hc0 := hp' 0 h0
  rw [hf, Nat.add_zero] at hc0
  have h0' : (0 : Int) < f.pages.length := by omega
  have hu1 : Ups w (w.alloc (.cells #[.slice (some ⟨b, off, none⟩) f.pages.length c, .slice a' f.wear.length c', .int .i64 f.fuse, .string f.torn, .bool f.dead] 31)) := (Below.refl _ w).alloc (Nat.le_refl _) _
  have hk0 : (w.alloc (.cells #[.slice (some ⟨b, off, none⟩) f.pages.length c, .slice a' f.wear.length c', .int .i64 f.fuse, .string f.torn, .bool f.dead] 31)).heap[w.heap.size]? = some (.cells #[.slice (some ⟨b, off, none⟩) f.pages.length c, .slice a' f.wear.length c', .int .i64 f.fuse, .string f.torn, .bool f.dead] 31) := alloc_at w _
  obtain ⟨i0, hi, hx0, hx1, hx2⟩ := info_parts info_u8
  have HI := Lib.hid (And.intro hi (And.intro hx0 (And.intro hx1 hx2)))
  have hlenM : (maskL f.torn.data.toList first.size).length = first.size := maskL_length _ _
  have HL := Lib.hid hlenM
  have HH0 := Lib.hid hc0
  clear hi hx0 hx1 hx2 hp hp' hf hlenM hc0
  go_enter Tryz.func68, Tryz.ntmps68
  go_wp2_with fail
  go_loopw [3, 4] (fun v i wr => ∃ k : Nat, k ≤ first.size ∧ i = .int .i64 k ∧ wr.ownsRow (w.alloc (.cells #[.slice (some ⟨b, off, none⟩) f.pages.length c, .slice a' f.wear.length c', .int .i64 f.fuse, .string f.torn, .bool f.dead] 31)).heap.size 5 1 v ((maskL f.torn.data.toList first.size).take k).length (((maskL f.torn.data.toList first.size).take k).map enc8) ∧ Ups (w.alloc (.cells #[.slice (some ⟨b, off, none⟩) f.pages.length c, .slice a' f.wear.length c', .int .i64 f.fuse, .string f.torn, .bool f.dead] 31)) wr)
    (fun _ i _ => first.size - (intOf i).toNat)
  case atStart => exact ⟨0, Nat.zero_le _, rfl, World.ownsRow_nil _ _ _ _, Ups.refl _⟩
  case round =>
    obtain ⟨k, hk, rfl, hown, hbel⟩ := hrel
    obtain ⟨k0, k1, k2, k3, k4⟩ := block_cells (block_ups hk0 hbel)
    have e0 := cell_ups (Ups.trans hu1 hbel) HH0.out
    by_cases hlt : k < first.size
    · have htake : ((maskL f.torn.data.toList first.size).take k).length = k := by rw [List.length_take, HL.out]; omega
      have hnext : (maskL f.torn.data.toList first.size).take (k + 1) = (maskL f.torn.data.toList first.size).take k ++ [f.torn.data.toList.getD (k % f.torn.data.toList.length) 0] := by
        rw [List.take_succ_eq_append_getElem (by rw [HL.out]; exact hlt)]
        simp [maskL]
      rw [htake] at hown
      rw [toList_length] at hnext
      obtain ⟨hi, hx0, hx1, hx2⟩ := HI.out
      have hsz := hbel.size
      have HB := Lib.hid hbel
      have HT := Lib.hid htake
      have HN := Lib.hid hnext
      clear htake hnext
      by_cases ht0 : f.torn.size = 0
      · have hg : f.torn.data.toList.getD (k % f.torn.size) 0 = 0 := by
          have : f.torn.data.toList = [] := List.eq_nil_of_length_eq_zero (by rw [toList_length]; exact ht0)
          rw [this]
          simp
        rw [hg] at HN
        have hte : f.torn = ByteArray.empty := by
          apply text_ext
          have : f.torn.data.toList = [] := List.eq_nil_of_length_eq_zero (by rw [toList_length]; exact ht0)
          rw [this]
          rfl
        have ht1 : ¬ (0 : Int) < f.torn.size := by omega
        have hownW := hown
        have HBW := HB
        generalize (maskL f.torn.data.toList first.size).take k = L at *
        clear hown hbel ht0 hte hg
        go_wp2_with (
          at_builtin
          go_loud (refine wpList_append_own _ rfl _ _ 80 rfl (w.alloc (.cells #[.slice (some ⟨b, off, none⟩) f.pages.length c, .slice a' f.wear.length c', .int .i64 f.fuse, .string f.torn, .bool f.dead] 31)).heap.size 5 i0 (.int .u8 0) 1 1 Tryz.underlying80 hi hx0 hx1 hx2 rfl (by decide) _ _ _ rfl (hownW.alloc _) ⟨wr.heap.size, 0, none⟩ 1 1 [enc8 0] rfl rfl (cell_one_new _ _ _) (by simp [enc8_one]) (by unfold maxLen; omega) (by omega) (Nat.le_trans HBW.out.size (by simp)) ?_)
          intro v' w1 hown' hgrow _)
        have hb2 := below_append HBW.out hownW hgrow
        clear hi hx0 hx1 hx2
        go_wp2
        go_roundw
        case rel =>
          refine ⟨k + 1, by omega, by go_num, ?_, hb2⟩
          rw [HN.out]
          have hT := HT.out
          refine own_snoc ?_
          rw [hT]
          exact hown'
        case measure => simp [intOf]; omega
      · have hrl : k % f.torn.size < f.torn.size := Nat.mod_lt _ (by omega)
        have hmod : (k : Int).tmod (f.torn.size : Int) = ((k % f.torn.size : Nat) : Int) := by
          rw [Int.tmod_eq_emod_of_nonneg (by omega)]
          norm_cast
        have hte : ¬ f.torn = ByteArray.empty := fun e => ht0 (by rw [e]; rfl)
        have ht1 : (0 : Int) < f.torn.size := by omega
        have hidx : (f.torn[k % f.torn.size]'hrl) = f.torn.data.toList.getD (k % f.torn.size) 0 := by
          rw [List.getD_eq_getElem?_getD, List.getElem?_eq_getElem (by rw [toList_length]; exact hrl)]
          rfl
        generalize f.torn.data.toList.getD (k % f.torn.size) 0 = x at *
        generalize (maskL f.torn.data.toList first.size).take k = L at *
        generalize k % f.torn.size = r at *
        have hwr : IntKind.i64.wrap (r : Int) = r := (IntWalk.i64_left _).trans (IntWalk.wrap64_in _ ⟨by omega, by omega⟩)
        have ct := fun W (hU : Ups (World.drew wr) W) => (block_cells (block_ups hk0 (Ups.trans hbel (drew_ups hU)))).2.2.2.1
        go_wp2_with fail
        refine wp_region_parts (N := 8) (n := 33) (ks := [isV (.pointer (some ⟨w.heap.size, 3, none⟩)), isV (.string f.torn), isV (.int .i64 k), isV (.pointer (some ⟨w.heap.size, 3, none⟩)), isV (.string f.torn), isV (.int .i64 (f.torn.size : Nat)), isV (.int .i64 (r : Nat)), isV (.int .u8 (x.toNat : Nat))]) (by decide +kernel) (by decide +kernel) (by decide +kernel) (by simp) rfl (by decide +kernel) ⟨steady_is _, steady_is _, steady_is _, steady_is _, steady_is _, steady_is _, steady_is _, steady_is _, trivial⟩ ?_ ?_
        · refine And.intro (fun ac W hO hU H => ?_) ?_
          · have h1 : ac.tmps[1]? = some (.pointer (some ⟨w.heap.size, 0, none⟩)) := (hO 1 rfl).trans rfl
            exact growOp_plain rfl (parts_value (by simp [go_sem, h1]))
          refine And.intro (fun ac W hO hU H => ?_) ?_
          · have h19 : ac.tmps[19]? = some (.pointer (some ⟨w.heap.size, 3, none⟩)) := isV_get (W := W) (H 0 19 rfl)
            have f0 := ct W hU
            exact growOp_plain rfl (parts_value (by simp [go_sem, h19, f0]))
          refine And.intro (fun ac W hO hU H => ?_) ?_
          · have h4 : ac.tmps[4]? = some (.int .i64 k) := (hO 4 rfl).trans rfl
            exact growOp_plain rfl (parts_value (by simp [go_sem, h4]))
          refine And.intro (fun ac W hO hU H => ?_) ?_
          · have h1 : ac.tmps[1]? = some (.pointer (some ⟨w.heap.size, 0, none⟩)) := (hO 1 rfl).trans rfl
            exact growOp_plain rfl (parts_value (by simp [go_sem, h1]))
          refine And.intro (fun ac W hO hU H => ?_) ?_
          · have h22 : ac.tmps[22]? = some (.pointer (some ⟨w.heap.size, 3, none⟩)) := isV_get (W := W) (H 3 22 rfl)
            have f0 := ct W hU
            exact growOp_plain rfl (parts_value (by simp [go_sem, h22, f0]))
          refine And.intro (fun ac W hO hU H => ?_) ?_
          · have h23 : ac.tmps[23]? = some (.string f.torn) := isV_get (W := W) (H 4 23 rfl)
            exact growOp_plain rfl (parts_value (by simp [go_sem, h23]))
          refine And.intro (fun ac W hO hU H => ?_) ?_
          · have h21 : ac.tmps[21]? = some (.int .i64 k) := isV_get (W := W) (H 2 21 rfl)
            have h24 : ac.tmps[24]? = some (.int .i64 (f.torn.size : Nat)) := isV_get (W := W) (H 5 24 rfl)
            exact growOp_plain rfl (parts_value (by simp [go_sem, h21, h24, hmod, hte]))
          refine And.intro (fun ac W hO hU H => ?_) ?_
          · have h20 : ac.tmps[20]? = some (.string f.torn) := isV_get (W := W) (H 1 20 rfl)
            have h25 : ac.tmps[25]? = some (.int .i64 (r : Nat)) := isV_get (W := W) (H 6 25 rfl)
            exact growOp_plain rfl (parts_value (by simp [go_sem, h20, h25, hrl, hidx]))
          exact trivial
        · intro W xs hU hks
          obtain ⟨y0, rfl, g0⟩ := holdAll_is hks
          obtain ⟨y1, rfl, g1⟩ := holdAll_is g0
          obtain ⟨y2, rfl, g2⟩ := holdAll_is g1
          obtain ⟨y3, rfl, g3⟩ := holdAll_is g2
          obtain ⟨y4, rfl, g4⟩ := holdAll_is g3
          obtain ⟨y5, rfl, g5⟩ := holdAll_is g4
          obtain ⟨y6, rfl, g6⟩ := holdAll_is g5
          obtain ⟨y7, rfl, g7⟩ := holdAll_is g6
          obtain rfl := holdAll_nil g7
          clear hks g0 g1 g2 g3 g4 g5 g6 g7
          simp only [List.take_succ_cons, List.take_zero, List.drop_succ_cons, List.drop_zero, endTmps, List.setIfInBounds_toArray, List.set]
          have hownW := own_ups hown (drew_ups hU)
          have HBW := Lib.hid (Ups.trans HB.out (drew_ups hU))
          have hszW := HBW.out.size
          clear hown hbel ct hidx hmod hte
          go_wp2_with (
            at_builtin
            go_loud (refine wpList_append_own _ rfl _ _ 80 rfl (w.alloc (.cells #[.slice (some ⟨b, off, none⟩) f.pages.length c, .slice a' f.wear.length c', .int .i64 f.fuse, .string f.torn, .bool f.dead] 31)).heap.size 5 i0 (.int .u8 0) 1 1 Tryz.underlying80 hi hx0 hx1 hx2 rfl (by decide) _ _ _ rfl (hownW.alloc _) ⟨W.heap.size, 0, none⟩ 1 1 [enc8 x] rfl rfl (cell_one_new _ _ _) (by simp [enc8_one]) (by unfold maxLen; omega) (by omega) (Nat.le_trans HBW.out.size (by simp)) ?_)
            intro v' w1 hown' hgrow _)
          have hb2 := below_append HBW.out hownW hgrow
          clear hi hx0 hx1 hx2
          go_wp2
          go_roundw
          case rel =>
            refine ⟨k + 1, by omega, by go_num, ?_, hb2⟩
            rw [HN.out]
            have hT := HT.out
            refine own_snoc ?_
            rw [hT]
            exact hown'
          case measure => simp [intOf]; omega
    · have hcv := string_of_own (by rw [List.take_of_length_le (by rw [HL.out]; omega)] at hown; exact hown)
      go_wp2
      go_ret
      exact ⟨rfl, Ups.trans hu1 hbel⟩

end Go.Proofs.YtmabpnkdagipfaaGreat

/- What ouroborosref03's other functions come to. -/
namespace Go.Proofs.YtmabpnkdagipfaaGreat
open Go.RowKit

theorem qor_t (a b : ByteArray) (w : World) (ha : a.size ≤ 140737488355328) :
    Calls Tryz.prog 66 #[.string a, .string b] w fun e w' => e = .returned (.string (orT a b)) ∧ Ups w w' := ref_or a b w ha
theorem qand_t (a b : ByteArray) (w : World) (ha : a.size ≤ 140737488355328) :
    Calls Tryz.prog 71 #[.string a, .string b] w fun e w' => e = .returned (.string (andT a b)) ∧ Ups w w' := ref_and a b w ha
theorem qxor_t (a b : ByteArray) (w : World) (ha : a.size ≤ 140737488355328) :
    Calls Tryz.prog 84 #[.string a, .string b] w fun e w' => e = .returned (.string (xorT a b)) ∧ Ups w w' := ref_xor a b w ha
theorem qnot_t (a : ByteArray) (w : World) (ha : a.size ≤ 100000) :
    Calls Tryz.prog 67 #[.string a] w fun e w' => e = .returned (.string (notT a)) ∧ Ups w w' := ref_not a w ha
theorem qones_t (n : Nat) (w : World) (ha : n ≤ 100000) :
    Calls Tryz.prog 58 #[.int .i64 n] w fun e w' => e = .returned (.string (onesT n)) ∧ Ups w w' := ref_ones n w ha

theorem kd_first {P : Program} {w W : World} {A : Value} {g g' : Fl} {f : FuncId} {args : Array Value} (_h : FlAt W A g) (hz : w.heap.size + 1 < W.heap.size) (hc : Calls P f args W fun e W' => ∃ v', e = .returned v' ∧ FlNew W A W' v' g') :
    Calls P f args W fun e W' => ∃ x, e = .returned x ∧ (FlAt W' x g' ∧ ∀ B, B ≤ w.heap.size + 1 → FlOff B A → FlOff B x) ∧ Ups W W' := by
  refine hc.mono ?_
  rintro e W' ⟨v', rfl, hn⟩
  exact ⟨v', rfl, ⟨hn.reads, fun B hB ho => hn.off B (by omega) ho⟩, hn.ups⟩
theorem kd_step {P : Program} {w W : World} {A v : Value} {g g' : Fl} {f : FuncId} {args : Array Value} (hq : FlAt W v g ∧ ∀ B, B ≤ w.heap.size + 1 → FlOff B A → FlOff B v) (hz : w.heap.size + 1 < W.heap.size) (hc : Calls P f args W fun e W' => ∃ v', e = .returned v' ∧ FlNew W v W' v' g') :
    Calls P f args W fun e W' => ∃ x, e = .returned x ∧ (FlAt W' x g' ∧ ∀ B, B ≤ w.heap.size + 1 → FlOff B A → FlOff B x) ∧ Ups W W' := by
  refine hc.mono ?_
  rintro e W' ⟨v', rfl, hn⟩
  exact ⟨v', rfl, ⟨hn.reads, fun B hB ho => hn.off B (by omega) (hq.2 B hB ho)⟩, hn.ups⟩

theorem and_pad (old d : ByteArray) (m : Nat) : andT old (d ++ onesT m) = andT old d := by
  unfold andT
  rw [show (d ++ onesT m).data.toList = d.data.toList ++ List.replicate m 255 by simp [onesT, bs], mixL_pad 255 andB_ones]
theorem or_pad (d x : ByteArray) (m : Nat) : orT (d ++ onesT m) x = orT d x ++ onesT m := by
  apply text_ext
  rw [show (orT d x ++ onesT m).data.toList = (orT d x).data.toList ++ (onesT m).data.toList by simp]
  rw [orT, orT, onesT, bs_toList, bs_toList, bs_toList, show (d ++ bs (List.replicate m 255)).data.toList = d.data.toList ++ List.replicate m 255 by simp [bs], mixL_swallow 255 orB_ones]

set_option maxRecDepth 100000 in
set_option maxHeartbeats 4000000 in
theorem rprogram_none (pages : List ByteArray) (wear : List Int) (fuse : Int) (ftorn : ByteArray) (dead : Bool) (v : Value) (page at_ : Int) (s : ByteArray) (w : World) (h : FlAt w v (⟨pages, wear, fuse, ftorn, dead⟩ : Fl)) (hf : FlFit (⟨pages, wear, fuse, ftorn, dead⟩ : Fl)) (hb : hasB (⟨pages, wear, fuse, ftorn, dead⟩ : Fl) page = false) :
    Calls Tryz.prog 43 #[v, .int .i64 page, .int .i64 at_, .string s] w fun e W' => ∃ v', e = .returned (.tuple #[v', .int .i64 (programF (⟨pages, wear, fuse, ftorn, dead⟩ : Fl) page at_ s).2]) ∧ FlNew w v W' v' (programF (⟨pages, wear, fuse, ftorn, dead⟩ : Fl) page at_ s).1 := by
  have hall := h
  obtain ⟨p, q, rfl, hT, hI⟩ := h
  simp only at hT hI
  have hrP : RowOff (w.heap.size + 1) p := hT.off (Nat.le_succ _)
  have hrQ : RowOff (w.heap.size + 1) q := hI.off (Nat.le_succ _)
  have hT0 := hT
  have hI0 := hI
  obtain ⟨a, c, rfl, hp⟩ := hT0
  obtain ⟨a', c', rfl, _⟩ := hI0
  have hu2 : Ups w ((w.alloc (.cells #[.slice a pages.length c, .slice a' wear.length c', .int .i64 fuse, .string ftorn, .bool dead] 31)).alloc (.cells #[.slice none 0 0, .slice none 0 0, .int .i64 0, .string { data := #[] }, .bool false] 31)) := ((Own.start w).alloc (.cells #[.slice a pages.length c, .slice a' wear.length c', .int .i64 fuse, .string ftorn, .bool dead] 31) |>.alloc (.cells #[.slice none 0 0, .slice none 0 0, .int .i64 0, .string { data := #[] }, .bool false] 31)).bel
  have hk0 : ((w.alloc (.cells #[.slice a pages.length c, .slice a' wear.length c', .int .i64 fuse, .string ftorn, .bool dead] 31)).alloc (.cells #[.slice none 0 0, .slice none 0 0, .int .i64 0, .string { data := #[] }, .bool false] 31)).heap[w.heap.size]? = some (.cells #[.slice a pages.length c, .slice a' wear.length c', .int .i64 fuse, .string ftorn, .bool dead] 31) := ((Own.start w).alloc (.cells #[.slice a pages.length c, .slice a' wear.length c', .int .i64 fuse, .string ftorn, .bool dead] 31) |>.alloc (.cells #[.slice none 0 0, .slice none 0 0, .int .i64 0, .string { data := #[] }, .bool false] 31)).at w.heap.size 0 rfl rfl
  have hk1 : ((w.alloc (.cells #[.slice a pages.length c, .slice a' wear.length c', .int .i64 fuse, .string ftorn, .bool dead] 31)).alloc (.cells #[.slice none 0 0, .slice none 0 0, .int .i64 0, .string { data := #[] }, .bool false] 31)).heap[w.heap.size + 1]? = some (.cells #[.slice none 0 0, .slice none 0 0, .int .i64 0, .string { data := #[] }, .bool false] 31) := ((Own.start w).alloc (.cells #[.slice a pages.length c, .slice a' wear.length c', .int .i64 fuse, .string ftorn, .bool dead] 31) |>.alloc (.cells #[.slice none 0 0, .slice none 0 0, .int .i64 0, .string { data := #[] }, .bool false] 31)).at (w.heap.size + 1) 1 rfl rfl
  have hz2 : w.heap.size + 1 < ((w.alloc (.cells #[.slice a pages.length c, .slice a' wear.length c', .int .i64 fuse, .string ftorn, .bool dead] 31)).alloc (.cells #[.slice none 0 0, .slice none 0 0, .int .i64 0, .string { data := #[] }, .bool false] 31)).heap.size := (Array.getElem?_eq_some_iff.1 hk1).1
  have hst := rpage_calls _ _ page _ (hall.ups hu2) hf
  have he : programF (⟨pages, wear, fuse, ftorn, dead⟩ : Fl) page at_ s = ((⟨pages, wear, fuse, ftorn, dead⟩ : Fl), 1) := by simp [programF, standsB, hb]
  rw [he]
  rw [hb] at hst
  clear he hb
  go_enter Tryz.func43, Tryz.ntmps43
  go_wp2_with fail
  refine hst.mono ?_
  rintro e w3 ⟨rfl, hb3⟩
  obtain ⟨k0, k1, k2, k3, k4⟩ := block_cells (block_ups hk0 hb3)
  have hzz := block_ups hk1 hb3
  obtain ⟨d0, d1, d2, d3, d4⟩ := block_cells hzz
  have y0 := block_frozen hzz 0
  have y1 := block_frozen hzz 1
  have y2 := block_frozen hzz 2
  have y3 := block_frozen hzz 3
  have y4 := block_frozen hzz 4
  have hu3 := Ups.trans hu2 hb3
  have HA := Lib.hid hall
  clear hall hT hI hst hk0 hk1 hzz hf
  go_wp2_with fail
  refine bodyPost_ret (v := .tuple #[.agg #[.slice a pages.length c, .slice a' wear.length c', .int .i64 fuse, .string ftorn, .bool dead], .int .i64 1]) ?_ rfl ⟨_, rfl, ?_⟩
  · simp [results, Tryz.results43, go_sem, d0, d1, d2, d3, d4]
  · exact fl_stored hu3 (Nat.le_succ _) (HA.out.ups hu3) (FlOff.mk hrP hrQ) (fun B hB ho => ho) rfl

set_option maxRecDepth 100000 in
set_option maxHeartbeats 4000000 in
theorem rprogram_low (pages : List ByteArray) (wear : List Int) (fuse : Int) (ftorn : ByteArray) (dead : Bool) (v : Value) (n : Nat) (at_ : Int) (s : ByteArray) (w : World) (h : FlAt w v (⟨pages, wear, fuse, ftorn, dead⟩ : Fl)) (hf : FlFit (⟨pages, wear, fuse, ftorn, dead⟩ : Fl)) (hb : hasB (⟨pages, wear, fuse, ftorn, dead⟩ : Fl) n = true) (hn : n < pages.length) (h1 : at_ < 0) :
    Calls Tryz.prog 43 #[v, .int .i64 n, .int .i64 at_, .string s] w fun e W' => ∃ v', e = .returned (.tuple #[v', .int .i64 (programF (⟨pages, wear, fuse, ftorn, dead⟩ : Fl) n at_ s).2]) ∧ FlNew w v W' v' (programF (⟨pages, wear, fuse, ftorn, dead⟩ : Fl) n at_ s).1 := by
  have hall := h
  obtain ⟨p, q, rfl, hT, hI⟩ := h
  simp only at hT hI
  have hrP : RowOff (w.heap.size + 1) p := hT.off (Nat.le_succ _)
  have hrQ : RowOff (w.heap.size + 1) q := hI.off (Nat.le_succ _)
  have hT0 := hT
  have hI0 := hI
  obtain ⟨a, c, rfl, hp⟩ := hT0
  obtain ⟨a', c', rfl, _⟩ := hI0
  have hu2 : Ups w ((w.alloc (.cells #[.slice a pages.length c, .slice a' wear.length c', .int .i64 fuse, .string ftorn, .bool dead] 31)).alloc (.cells #[.slice none 0 0, .slice none 0 0, .int .i64 0, .string { data := #[] }, .bool false] 31)) := ((Own.start w).alloc (.cells #[.slice a pages.length c, .slice a' wear.length c', .int .i64 fuse, .string ftorn, .bool dead] 31) |>.alloc (.cells #[.slice none 0 0, .slice none 0 0, .int .i64 0, .string { data := #[] }, .bool false] 31)).bel
  have hk0 : ((w.alloc (.cells #[.slice a pages.length c, .slice a' wear.length c', .int .i64 fuse, .string ftorn, .bool dead] 31)).alloc (.cells #[.slice none 0 0, .slice none 0 0, .int .i64 0, .string { data := #[] }, .bool false] 31)).heap[w.heap.size]? = some (.cells #[.slice a pages.length c, .slice a' wear.length c', .int .i64 fuse, .string ftorn, .bool dead] 31) := ((Own.start w).alloc (.cells #[.slice a pages.length c, .slice a' wear.length c', .int .i64 fuse, .string ftorn, .bool dead] 31) |>.alloc (.cells #[.slice none 0 0, .slice none 0 0, .int .i64 0, .string { data := #[] }, .bool false] 31)).at w.heap.size 0 rfl rfl
  have hk1 : ((w.alloc (.cells #[.slice a pages.length c, .slice a' wear.length c', .int .i64 fuse, .string ftorn, .bool dead] 31)).alloc (.cells #[.slice none 0 0, .slice none 0 0, .int .i64 0, .string { data := #[] }, .bool false] 31)).heap[w.heap.size + 1]? = some (.cells #[.slice none 0 0, .slice none 0 0, .int .i64 0, .string { data := #[] }, .bool false] 31) := ((Own.start w).alloc (.cells #[.slice a pages.length c, .slice a' wear.length c', .int .i64 fuse, .string ftorn, .bool dead] 31) |>.alloc (.cells #[.slice none 0 0, .slice none 0 0, .int .i64 0, .string { data := #[] }, .bool false] 31)).at (w.heap.size + 1) 1 rfl rfl
  have hz2 : w.heap.size + 1 < ((w.alloc (.cells #[.slice a pages.length c, .slice a' wear.length c', .int .i64 fuse, .string ftorn, .bool dead] 31)).alloc (.cells #[.slice none 0 0, .slice none 0 0, .int .i64 0, .string { data := #[] }, .bool false] 31)).heap.size := (Array.getElem?_eq_some_iff.1 hk1).1
  have hst := rpage_calls _ _ n _ (hall.ups hu2) hf
  rw [hb] at hst
  have hck := (has_facts hb).1
  obtain ⟨b, off, rfl, hp'⟩ := hp (by omega)
  obtain ⟨c1, c2, c3, c4, c5, c6⟩ := check_facts hck
  simp only at c1 c2 c3 c4 c5
  have sn := old_size hck hn
  have s0 := old_size hck (n := 0) c1
  have sn1 := sn.2.1
  have sm : (maskOf (⟨pages, wear, fuse, ftorn, dead⟩ : Fl)).size ≤ 8192 := by rw [maskOf, maskT_size]; omega
  have s01 := s0.2.1
  have hip : (n : Int) < pages.length := by omega
  have hb1 : pages.length ≤ 1000 := by omega
  have hc0' : w.cell? ⟨b, off + n, none⟩ = some (.string (oldT (⟨pages, wear, fuse, ftorn, dead⟩ : Fl) n)) := hp' n hn
  have hwn : n < wear.length := by omega
  have hw6 : wear.length ≤ 1000 := by omega
  have hwz : wear.getD n 0 ∈ wear := by rw [List.getD_eq_getElem?_getD, List.getElem?_eq_getElem hwn]; exact List.getElem_mem _
  have hw1 := (c5 _ hwz).1
  have hw2 := (c5 _ hwz).2
  have hmk : ∀ W, Ups w W → Calls Tryz.prog 68 #[.agg #[.slice (some ⟨b, off, none⟩) pages.length c, .slice a' wear.length c', .int .i64 fuse, .string ftorn, .bool dead]] W fun e W' => e = .returned (.string (maskOf (⟨pages, wear, fuse, ftorn, dead⟩ : Fl))) ∧ Ups W W' := fun W hU => rmask_calls (⟨pages, wear, fuse, ftorn, dead⟩ : Fl) _ W (hall.ups hU) (oldT (⟨pages, wear, fuse, ftorn, dead⟩ : Fl) 0) c1 rfl (by simp only; omega) s01 c4
  have he : programF (⟨pages, wear, fuse, ftorn, dead⟩ : Fl) n at_ s = ((⟨pages, wear, fuse, ftorn, dead⟩ : Fl), 1) := by
    have : standsB (⟨pages, wear, fuse, ftorn, dead⟩ : Fl) n at_ s.size = false := by
      simp only [standsB, hb, Bool.true_and, Int.toNat_natCast]
      simp
      try omega
    simp [programF, this]
  rw [he]
  generalize oldT (⟨pages, wear, fuse, ftorn, dead⟩ : Fl) n = old at *
  clear he hb c3 c5 c6 hp hp' s0 sn hwz hck hmk
  go_enter Tryz.func43, Tryz.ntmps43
  go_wp2_with fail
  refine hst.mono ?_
  rintro e w3 ⟨rfl, hb3⟩
  have hu3 := Ups.trans hu2 hb3
  have hk03 := block_ups hk0 hb3
  have hzz3 := block_ups hk1 hb3
  have hz3 : w.heap.size + 1 < w3.heap.size := Nat.lt_of_lt_of_le hz2 hb3.size
  have hcells := fun W (hU : Ups (World.drew w3) W) => block_cells (block_ups hk03 (drew_ups hU))
  have hc0 := fun W (hU : Ups (World.drew w3) W) => (hcells W hU).1
  have hcold := fun W (hU : Ups (World.drew w3) W) => cell_ups (Ups.trans hu3 (drew_ups hU)) hc0'
  have hfl := fun W (hU : Ups (World.drew w3) W) => hall.ups (Ups.trans hu3 (drew_ups hU))
  have hsize := fun W (hU : Ups (World.drew w3) W) => Nat.lt_of_lt_of_le hz3 (drew_ups hU).size
  obtain ⟨k0, k1, k2, k3, k4⟩ := block_cells hk03
  have hcc := cell_ups hu3 hc0'
  have HA := Lib.hid hall
  clear hT hI hst hk0 hk1 hk03
  have hzz := hzz3
  obtain ⟨d0, d1, d2, d3, d4⟩ := block_cells hzz
  have y0 := block_frozen hzz 0
  have y1 := block_frozen hzz 1
  have y2 := block_frozen hzz 2
  have y3 := block_frozen hzz 3
  have y4 := block_frozen hzz 4
  clear hcells hc0 hcold hfl hsize hall hzz3 hzz
  go_wp2_with fail
  refine bodyPost_ret (v := .tuple #[.agg #[.slice (some ⟨b, off, none⟩) pages.length c, .slice a' wear.length c', .int .i64 fuse, .string ftorn, .bool dead], .int .i64 1]) ?_ rfl ⟨_, rfl, ?_⟩
  · simp [results, Tryz.results43, go_sem, d0, d1, d2, d3, d4]
  · exact fl_stored hu3 (Nat.le_succ _) (HA.out.ups hu3) (FlOff.mk hrP hrQ) (fun B hB ho => ho) rfl

set_option maxRecDepth 100000 in
set_option maxHeartbeats 4000000 in
theorem rprogram_high (pages : List ByteArray) (wear : List Int) (fuse : Int) (ftorn : ByteArray) (dead : Bool) (v : Value) (n : Nat) (at_ : Int) (s : ByteArray) (w : World) (h : FlAt w v (⟨pages, wear, fuse, ftorn, dead⟩ : Fl)) (hf : FlFit (⟨pages, wear, fuse, ftorn, dead⟩ : Fl)) (hb : hasB (⟨pages, wear, fuse, ftorn, dead⟩ : Fl) n = true) (hn : n < pages.length) (h1 : ¬ at_ < 0) (h2 : ((oldT (⟨pages, wear, fuse, ftorn, dead⟩ : Fl) n).size : Int) < at_) :
    Calls Tryz.prog 43 #[v, .int .i64 n, .int .i64 at_, .string s] w fun e W' => ∃ v', e = .returned (.tuple #[v', .int .i64 (programF (⟨pages, wear, fuse, ftorn, dead⟩ : Fl) n at_ s).2]) ∧ FlNew w v W' v' (programF (⟨pages, wear, fuse, ftorn, dead⟩ : Fl) n at_ s).1 := by
  have hall := h
  obtain ⟨p, q, rfl, hT, hI⟩ := h
  simp only at hT hI
  have hrP : RowOff (w.heap.size + 1) p := hT.off (Nat.le_succ _)
  have hrQ : RowOff (w.heap.size + 1) q := hI.off (Nat.le_succ _)
  have hT0 := hT
  have hI0 := hI
  obtain ⟨a, c, rfl, hp⟩ := hT0
  obtain ⟨a', c', rfl, _⟩ := hI0
  have hu2 : Ups w ((w.alloc (.cells #[.slice a pages.length c, .slice a' wear.length c', .int .i64 fuse, .string ftorn, .bool dead] 31)).alloc (.cells #[.slice none 0 0, .slice none 0 0, .int .i64 0, .string { data := #[] }, .bool false] 31)) := ((Own.start w).alloc (.cells #[.slice a pages.length c, .slice a' wear.length c', .int .i64 fuse, .string ftorn, .bool dead] 31) |>.alloc (.cells #[.slice none 0 0, .slice none 0 0, .int .i64 0, .string { data := #[] }, .bool false] 31)).bel
  have hk0 : ((w.alloc (.cells #[.slice a pages.length c, .slice a' wear.length c', .int .i64 fuse, .string ftorn, .bool dead] 31)).alloc (.cells #[.slice none 0 0, .slice none 0 0, .int .i64 0, .string { data := #[] }, .bool false] 31)).heap[w.heap.size]? = some (.cells #[.slice a pages.length c, .slice a' wear.length c', .int .i64 fuse, .string ftorn, .bool dead] 31) := ((Own.start w).alloc (.cells #[.slice a pages.length c, .slice a' wear.length c', .int .i64 fuse, .string ftorn, .bool dead] 31) |>.alloc (.cells #[.slice none 0 0, .slice none 0 0, .int .i64 0, .string { data := #[] }, .bool false] 31)).at w.heap.size 0 rfl rfl
  have hk1 : ((w.alloc (.cells #[.slice a pages.length c, .slice a' wear.length c', .int .i64 fuse, .string ftorn, .bool dead] 31)).alloc (.cells #[.slice none 0 0, .slice none 0 0, .int .i64 0, .string { data := #[] }, .bool false] 31)).heap[w.heap.size + 1]? = some (.cells #[.slice none 0 0, .slice none 0 0, .int .i64 0, .string { data := #[] }, .bool false] 31) := ((Own.start w).alloc (.cells #[.slice a pages.length c, .slice a' wear.length c', .int .i64 fuse, .string ftorn, .bool dead] 31) |>.alloc (.cells #[.slice none 0 0, .slice none 0 0, .int .i64 0, .string { data := #[] }, .bool false] 31)).at (w.heap.size + 1) 1 rfl rfl
  have hz2 : w.heap.size + 1 < ((w.alloc (.cells #[.slice a pages.length c, .slice a' wear.length c', .int .i64 fuse, .string ftorn, .bool dead] 31)).alloc (.cells #[.slice none 0 0, .slice none 0 0, .int .i64 0, .string { data := #[] }, .bool false] 31)).heap.size := (Array.getElem?_eq_some_iff.1 hk1).1
  have hst := rpage_calls _ _ n _ (hall.ups hu2) hf
  rw [hb] at hst
  have hck := (has_facts hb).1
  obtain ⟨b, off, rfl, hp'⟩ := hp (by omega)
  obtain ⟨c1, c2, c3, c4, c5, c6⟩ := check_facts hck
  simp only at c1 c2 c3 c4 c5
  have sn := old_size hck hn
  have s0 := old_size hck (n := 0) c1
  have sn1 := sn.2.1
  have sm : (maskOf (⟨pages, wear, fuse, ftorn, dead⟩ : Fl)).size ≤ 8192 := by rw [maskOf, maskT_size]; omega
  have s01 := s0.2.1
  have hip : (n : Int) < pages.length := by omega
  have hb1 : pages.length ≤ 1000 := by omega
  have hc0' : w.cell? ⟨b, off + n, none⟩ = some (.string (oldT (⟨pages, wear, fuse, ftorn, dead⟩ : Fl) n)) := hp' n hn
  have hwn : n < wear.length := by omega
  have hw6 : wear.length ≤ 1000 := by omega
  have hwz : wear.getD n 0 ∈ wear := by rw [List.getD_eq_getElem?_getD, List.getElem?_eq_getElem hwn]; exact List.getElem_mem _
  have hw1 := (c5 _ hwz).1
  have hw2 := (c5 _ hwz).2
  have hmk : ∀ W, Ups w W → Calls Tryz.prog 68 #[.agg #[.slice (some ⟨b, off, none⟩) pages.length c, .slice a' wear.length c', .int .i64 fuse, .string ftorn, .bool dead]] W fun e W' => e = .returned (.string (maskOf (⟨pages, wear, fuse, ftorn, dead⟩ : Fl))) ∧ Ups W W' := fun W hU => rmask_calls (⟨pages, wear, fuse, ftorn, dead⟩ : Fl) _ W (hall.ups hU) (oldT (⟨pages, wear, fuse, ftorn, dead⟩ : Fl) 0) c1 rfl (by simp only; omega) s01 c4
  have he : programF (⟨pages, wear, fuse, ftorn, dead⟩ : Fl) n at_ s = ((⟨pages, wear, fuse, ftorn, dead⟩ : Fl), 1) := by
    have : standsB (⟨pages, wear, fuse, ftorn, dead⟩ : Fl) n at_ s.size = false := by
      simp only [standsB, hb, Bool.true_and, Int.toNat_natCast]
      simp
      try omega
    simp [programF, this]
  rw [he]
  generalize oldT (⟨pages, wear, fuse, ftorn, dead⟩ : Fl) n = old at *
  clear he hb c3 c5 c6 hp hp' s0 sn hwz hck hmk
  go_enter Tryz.func43, Tryz.ntmps43
  go_wp2_with fail
  refine hst.mono ?_
  rintro e w3 ⟨rfl, hb3⟩
  have hu3 := Ups.trans hu2 hb3
  have hk03 := block_ups hk0 hb3
  have hzz3 := block_ups hk1 hb3
  have hz3 : w.heap.size + 1 < w3.heap.size := Nat.lt_of_lt_of_le hz2 hb3.size
  have hcells := fun W (hU : Ups (World.drew w3) W) => block_cells (block_ups hk03 (drew_ups hU))
  have hc0 := fun W (hU : Ups (World.drew w3) W) => (hcells W hU).1
  have hcold := fun W (hU : Ups (World.drew w3) W) => cell_ups (Ups.trans hu3 (drew_ups hU)) hc0'
  have hfl := fun W (hU : Ups (World.drew w3) W) => hall.ups (Ups.trans hu3 (drew_ups hU))
  have hsize := fun W (hU : Ups (World.drew w3) W) => Nat.lt_of_lt_of_le hz3 (drew_ups hU).size
  obtain ⟨k0, k1, k2, k3, k4⟩ := block_cells hk03
  have hcc := cell_ups hu3 hc0'
  have HA := Lib.hid hall
  clear hT hI hst hk0 hk1 hk03
  have hzz := hzz3
  obtain ⟨d0, d1, d2, d3, d4⟩ := block_cells hzz
  have y0 := block_frozen hzz 0
  have y1 := block_frozen hzz 1
  have y2 := block_frozen hzz 2
  have y3 := block_frozen hzz 3
  have y4 := block_frozen hzz 4
  clear hcells hc0 hcold hfl hsize hall hzz3 hzz
  go_wp2_with fail
  refine bodyPost_ret (v := .tuple #[.agg #[.slice (some ⟨b, off, none⟩) pages.length c, .slice a' wear.length c', .int .i64 fuse, .string ftorn, .bool dead], .int .i64 1]) ?_ rfl ⟨_, rfl, ?_⟩
  · simp [results, Tryz.results43, go_sem, d0, d1, d2, d3, d4]
  · exact fl_stored hu3 (Nat.le_succ _) (HA.out.ups hu3) (FlOff.mk hrP hrQ) (fun B hB ho => ho) rfl

set_option maxRecDepth 100000 in
set_option maxHeartbeats 4000000 in
theorem rprogram_long (pages : List ByteArray) (wear : List Int) (fuse : Int) (ftorn : ByteArray) (dead : Bool) (v : Value) (n : Nat) (at_ : Int) (s : ByteArray) (w : World) (h : FlAt w v (⟨pages, wear, fuse, ftorn, dead⟩ : Fl)) (hf : FlFit (⟨pages, wear, fuse, ftorn, dead⟩ : Fl)) (hb : hasB (⟨pages, wear, fuse, ftorn, dead⟩ : Fl) n = true) (hn : n < pages.length) (h1 : ¬ at_ < 0) (h2 : ¬ ((oldT (⟨pages, wear, fuse, ftorn, dead⟩ : Fl) n).size : Int) < at_) (h3 : ((oldT (⟨pages, wear, fuse, ftorn, dead⟩ : Fl) n).size : Int) - at_ < s.size) :
    Calls Tryz.prog 43 #[v, .int .i64 n, .int .i64 at_, .string s] w fun e W' => ∃ v', e = .returned (.tuple #[v', .int .i64 (programF (⟨pages, wear, fuse, ftorn, dead⟩ : Fl) n at_ s).2]) ∧ FlNew w v W' v' (programF (⟨pages, wear, fuse, ftorn, dead⟩ : Fl) n at_ s).1 := by
  have hall := h
  obtain ⟨p, q, rfl, hT, hI⟩ := h
  simp only at hT hI
  have hrP : RowOff (w.heap.size + 1) p := hT.off (Nat.le_succ _)
  have hrQ : RowOff (w.heap.size + 1) q := hI.off (Nat.le_succ _)
  have hT0 := hT
  have hI0 := hI
  obtain ⟨a, c, rfl, hp⟩ := hT0
  obtain ⟨a', c', rfl, _⟩ := hI0
  have hu2 : Ups w ((w.alloc (.cells #[.slice a pages.length c, .slice a' wear.length c', .int .i64 fuse, .string ftorn, .bool dead] 31)).alloc (.cells #[.slice none 0 0, .slice none 0 0, .int .i64 0, .string { data := #[] }, .bool false] 31)) := ((Own.start w).alloc (.cells #[.slice a pages.length c, .slice a' wear.length c', .int .i64 fuse, .string ftorn, .bool dead] 31) |>.alloc (.cells #[.slice none 0 0, .slice none 0 0, .int .i64 0, .string { data := #[] }, .bool false] 31)).bel
  have hk0 : ((w.alloc (.cells #[.slice a pages.length c, .slice a' wear.length c', .int .i64 fuse, .string ftorn, .bool dead] 31)).alloc (.cells #[.slice none 0 0, .slice none 0 0, .int .i64 0, .string { data := #[] }, .bool false] 31)).heap[w.heap.size]? = some (.cells #[.slice a pages.length c, .slice a' wear.length c', .int .i64 fuse, .string ftorn, .bool dead] 31) := ((Own.start w).alloc (.cells #[.slice a pages.length c, .slice a' wear.length c', .int .i64 fuse, .string ftorn, .bool dead] 31) |>.alloc (.cells #[.slice none 0 0, .slice none 0 0, .int .i64 0, .string { data := #[] }, .bool false] 31)).at w.heap.size 0 rfl rfl
  have hk1 : ((w.alloc (.cells #[.slice a pages.length c, .slice a' wear.length c', .int .i64 fuse, .string ftorn, .bool dead] 31)).alloc (.cells #[.slice none 0 0, .slice none 0 0, .int .i64 0, .string { data := #[] }, .bool false] 31)).heap[w.heap.size + 1]? = some (.cells #[.slice none 0 0, .slice none 0 0, .int .i64 0, .string { data := #[] }, .bool false] 31) := ((Own.start w).alloc (.cells #[.slice a pages.length c, .slice a' wear.length c', .int .i64 fuse, .string ftorn, .bool dead] 31) |>.alloc (.cells #[.slice none 0 0, .slice none 0 0, .int .i64 0, .string { data := #[] }, .bool false] 31)).at (w.heap.size + 1) 1 rfl rfl
  have hz2 : w.heap.size + 1 < ((w.alloc (.cells #[.slice a pages.length c, .slice a' wear.length c', .int .i64 fuse, .string ftorn, .bool dead] 31)).alloc (.cells #[.slice none 0 0, .slice none 0 0, .int .i64 0, .string { data := #[] }, .bool false] 31)).heap.size := (Array.getElem?_eq_some_iff.1 hk1).1
  have hst := rpage_calls _ _ n _ (hall.ups hu2) hf
  rw [hb] at hst
  have hck := (has_facts hb).1
  obtain ⟨b, off, rfl, hp'⟩ := hp (by omega)
  obtain ⟨c1, c2, c3, c4, c5, c6⟩ := check_facts hck
  simp only at c1 c2 c3 c4 c5
  have sn := old_size hck hn
  have s0 := old_size hck (n := 0) c1
  have sn1 := sn.2.1
  have sm : (maskOf (⟨pages, wear, fuse, ftorn, dead⟩ : Fl)).size ≤ 8192 := by rw [maskOf, maskT_size]; omega
  have s01 := s0.2.1
  have hip : (n : Int) < pages.length := by omega
  have hb1 : pages.length ≤ 1000 := by omega
  have hc0' : w.cell? ⟨b, off + n, none⟩ = some (.string (oldT (⟨pages, wear, fuse, ftorn, dead⟩ : Fl) n)) := hp' n hn
  have hwn : n < wear.length := by omega
  have hw6 : wear.length ≤ 1000 := by omega
  have hwz : wear.getD n 0 ∈ wear := by rw [List.getD_eq_getElem?_getD, List.getElem?_eq_getElem hwn]; exact List.getElem_mem _
  have hw1 := (c5 _ hwz).1
  have hw2 := (c5 _ hwz).2
  have hmk : ∀ W, Ups w W → Calls Tryz.prog 68 #[.agg #[.slice (some ⟨b, off, none⟩) pages.length c, .slice a' wear.length c', .int .i64 fuse, .string ftorn, .bool dead]] W fun e W' => e = .returned (.string (maskOf (⟨pages, wear, fuse, ftorn, dead⟩ : Fl))) ∧ Ups W W' := fun W hU => rmask_calls (⟨pages, wear, fuse, ftorn, dead⟩ : Fl) _ W (hall.ups hU) (oldT (⟨pages, wear, fuse, ftorn, dead⟩ : Fl) 0) c1 rfl (by simp only; omega) s01 c4
  have he : programF (⟨pages, wear, fuse, ftorn, dead⟩ : Fl) n at_ s = ((⟨pages, wear, fuse, ftorn, dead⟩ : Fl), 1) := by
    have : standsB (⟨pages, wear, fuse, ftorn, dead⟩ : Fl) n at_ s.size = false := by
      simp only [standsB, hb, Bool.true_and, Int.toNat_natCast]
      simp
      try omega
    simp [programF, this]
  rw [he]
  have hwr : IntKind.i64.wrap (((oldT (⟨pages, wear, fuse, ftorn, dead⟩ : Fl) n).size : Int) - at_) = (oldT (⟨pages, wear, fuse, ftorn, dead⟩ : Fl) n).size - at_ := (IntWalk.i64_left _).trans (IntWalk.wrap64_in _ ⟨by omega, by omega⟩)
  generalize oldT (⟨pages, wear, fuse, ftorn, dead⟩ : Fl) n = old at *
  clear he hb c3 c5 c6 hp hp' s0 sn hwz hck hmk
  go_enter Tryz.func43, Tryz.ntmps43
  go_wp2_with fail
  refine hst.mono ?_
  rintro e w3 ⟨rfl, hb3⟩
  have hu3 := Ups.trans hu2 hb3
  have hk03 := block_ups hk0 hb3
  have hzz3 := block_ups hk1 hb3
  have hz3 : w.heap.size + 1 < w3.heap.size := Nat.lt_of_lt_of_le hz2 hb3.size
  have hcells := fun W (hU : Ups (World.drew w3) W) => block_cells (block_ups hk03 (drew_ups hU))
  have hc0 := fun W (hU : Ups (World.drew w3) W) => (hcells W hU).1
  have hcold := fun W (hU : Ups (World.drew w3) W) => cell_ups (Ups.trans hu3 (drew_ups hU)) hc0'
  have hfl := fun W (hU : Ups (World.drew w3) W) => hall.ups (Ups.trans hu3 (drew_ups hU))
  have hsize := fun W (hU : Ups (World.drew w3) W) => Nat.lt_of_lt_of_le hz3 (drew_ups hU).size
  obtain ⟨k0, k1, k2, k3, k4⟩ := block_cells hk03
  have hcc := cell_ups hu3 hc0'
  have HA := Lib.hid hall
  clear hT hI hst hk0 hk1 hk03
  have hzz := hzz3
  obtain ⟨d0, d1, d2, d3, d4⟩ := block_cells hzz
  have y0 := block_frozen hzz 0
  have y1 := block_frozen hzz 1
  have y2 := block_frozen hzz 2
  have y3 := block_frozen hzz 3
  have y4 := block_frozen hzz 4
  clear hcells hc0 hcold hfl hsize hall hzz3 hzz
  go_wp2_with fail
  refine bodyPost_ret (v := .tuple #[.agg #[.slice (some ⟨b, off, none⟩) pages.length c, .slice a' wear.length c', .int .i64 fuse, .string ftorn, .bool dead], .int .i64 1]) ?_ rfl ⟨_, rfl, ?_⟩
  · simp [results, Tryz.results43, go_sem, d0, d1, d2, d3, d4]
  · exact fl_stored hu3 (Nat.le_succ _) (HA.out.ups hu3) (FlOff.mk hrP hrQ) (fun B hB ho => ho) rfl

set_option maxRecDepth 100000 in
set_option maxHeartbeats 4000000 in
theorem rprogram_dead (pages : List ByteArray) (wear : List Int) (fuse : Int) (ftorn : ByteArray) (v : Value) (n k : Nat) (s : ByteArray) (w : World) (h : FlAt w v (⟨pages, wear, fuse, ftorn, true⟩ : Fl)) (hf : FlFit (⟨pages, wear, fuse, ftorn, true⟩ : Fl)) (hb : hasB (⟨pages, wear, fuse, ftorn, true⟩ : Fl) n = true) (hn : n < pages.length) (hks : k + s.size ≤ (oldT (⟨pages, wear, fuse, ftorn, true⟩ : Fl) n).size) :
    Calls Tryz.prog 43 #[v, .int .i64 n, .int .i64 k, .string s] w fun e W' => ∃ v', e = .returned (.tuple #[v', .int .i64 (programF (⟨pages, wear, fuse, ftorn, true⟩ : Fl) n k s).2]) ∧ FlNew w v W' v' (programF (⟨pages, wear, fuse, ftorn, true⟩ : Fl) n k s).1 := by
  have hall := h
  obtain ⟨p, q, rfl, hT, hI⟩ := h
  simp only at hT hI
  have hrP : RowOff (w.heap.size + 1) p := hT.off (Nat.le_succ _)
  have hrQ : RowOff (w.heap.size + 1) q := hI.off (Nat.le_succ _)
  have hT0 := hT
  have hI0 := hI
  obtain ⟨a, c, rfl, hp⟩ := hT0
  obtain ⟨a', c', rfl, _⟩ := hI0
  have hu2 : Ups w ((w.alloc (.cells #[.slice a pages.length c, .slice a' wear.length c', .int .i64 fuse, .string ftorn, .bool true] 31)).alloc (.cells #[.slice none 0 0, .slice none 0 0, .int .i64 0, .string { data := #[] }, .bool false] 31)) := ((Own.start w).alloc (.cells #[.slice a pages.length c, .slice a' wear.length c', .int .i64 fuse, .string ftorn, .bool true] 31) |>.alloc (.cells #[.slice none 0 0, .slice none 0 0, .int .i64 0, .string { data := #[] }, .bool false] 31)).bel
  have hk0 : ((w.alloc (.cells #[.slice a pages.length c, .slice a' wear.length c', .int .i64 fuse, .string ftorn, .bool true] 31)).alloc (.cells #[.slice none 0 0, .slice none 0 0, .int .i64 0, .string { data := #[] }, .bool false] 31)).heap[w.heap.size]? = some (.cells #[.slice a pages.length c, .slice a' wear.length c', .int .i64 fuse, .string ftorn, .bool true] 31) := ((Own.start w).alloc (.cells #[.slice a pages.length c, .slice a' wear.length c', .int .i64 fuse, .string ftorn, .bool true] 31) |>.alloc (.cells #[.slice none 0 0, .slice none 0 0, .int .i64 0, .string { data := #[] }, .bool false] 31)).at w.heap.size 0 rfl rfl
  have hk1 : ((w.alloc (.cells #[.slice a pages.length c, .slice a' wear.length c', .int .i64 fuse, .string ftorn, .bool true] 31)).alloc (.cells #[.slice none 0 0, .slice none 0 0, .int .i64 0, .string { data := #[] }, .bool false] 31)).heap[w.heap.size + 1]? = some (.cells #[.slice none 0 0, .slice none 0 0, .int .i64 0, .string { data := #[] }, .bool false] 31) := ((Own.start w).alloc (.cells #[.slice a pages.length c, .slice a' wear.length c', .int .i64 fuse, .string ftorn, .bool true] 31) |>.alloc (.cells #[.slice none 0 0, .slice none 0 0, .int .i64 0, .string { data := #[] }, .bool false] 31)).at (w.heap.size + 1) 1 rfl rfl
  have hz2 : w.heap.size + 1 < ((w.alloc (.cells #[.slice a pages.length c, .slice a' wear.length c', .int .i64 fuse, .string ftorn, .bool true] 31)).alloc (.cells #[.slice none 0 0, .slice none 0 0, .int .i64 0, .string { data := #[] }, .bool false] 31)).heap.size := (Array.getElem?_eq_some_iff.1 hk1).1
  have hst := rpage_calls _ _ n _ (hall.ups hu2) hf
  rw [hb] at hst
  have hck := (has_facts hb).1
  obtain ⟨b, off, rfl, hp'⟩ := hp (by omega)
  obtain ⟨c1, c2, c3, c4, c5, c6⟩ := check_facts hck
  simp only at c1 c2 c3 c4 c5
  have sn := old_size hck hn
  have s0 := old_size hck (n := 0) c1
  have sn1 := sn.2.1
  have sm : (maskOf (⟨pages, wear, fuse, ftorn, true⟩ : Fl)).size ≤ 8192 := by rw [maskOf, maskT_size]; omega
  have s01 := s0.2.1
  have hip : (n : Int) < pages.length := by omega
  have hb1 : pages.length ≤ 1000 := by omega
  have hc0' : w.cell? ⟨b, off + n, none⟩ = some (.string (oldT (⟨pages, wear, fuse, ftorn, true⟩ : Fl) n)) := hp' n hn
  have hwn : n < wear.length := by omega
  have hw6 : wear.length ≤ 1000 := by omega
  have hwz : wear.getD n 0 ∈ wear := by rw [List.getD_eq_getElem?_getD, List.getElem?_eq_getElem hwn]; exact List.getElem_mem _
  have hw1 := (c5 _ hwz).1
  have hw2 := (c5 _ hwz).2
  have hmk : ∀ W, Ups w W → Calls Tryz.prog 68 #[.agg #[.slice (some ⟨b, off, none⟩) pages.length c, .slice a' wear.length c', .int .i64 fuse, .string ftorn, .bool true]] W fun e W' => e = .returned (.string (maskOf (⟨pages, wear, fuse, ftorn, true⟩ : Fl))) ∧ Ups W W' := fun W hU => rmask_calls (⟨pages, wear, fuse, ftorn, true⟩ : Fl) _ W (hall.ups hU) (oldT (⟨pages, wear, fuse, ftorn, true⟩ : Fl) 0) c1 rfl (by simp only; omega) s01 c4
  have hsb : standsB (⟨pages, wear, fuse, ftorn, true⟩ : Fl) n k s.size = true := by
    simp only [standsB, hb, Bool.true_and, Int.toNat_natCast]
    simp
    omega
  have he : programF (⟨pages, wear, fuse, ftorn, true⟩ : Fl) n k s = ((⟨pages, wear, fuse, ftorn, true⟩ : Fl), 8) := by simp [programF, hsb, stepF]
  rw [he]
  generalize oldT (⟨pages, wear, fuse, ftorn, true⟩ : Fl) n = old at *
  clear he hb hsb c3 c5 c6 hp hp' s0 sn hwz hck hmk
  have tk1 : ¬ (k : Int) < 0 := by omega
  have tk2 : ¬ (old.size : Int) < k := by omega
  have tk3 : ¬ (old.size : Int) - k < s.size := by omega
  have hwr : IntKind.i64.wrap ((old.size : Int) - k) = old.size - k := (IntWalk.i64_left _).trans (IntWalk.wrap64_in _ ⟨by omega, by omega⟩)
  go_enter Tryz.func43, Tryz.ntmps43
  go_wp2_with fail
  refine hst.mono ?_
  rintro e w3 ⟨rfl, hb3⟩
  have hu3 := Ups.trans hu2 hb3
  have hk03 := block_ups hk0 hb3
  have hzz3 := block_ups hk1 hb3
  have hz3 : w.heap.size + 1 < w3.heap.size := Nat.lt_of_lt_of_le hz2 hb3.size
  have hcells := fun W (hU : Ups (World.drew w3) W) => block_cells (block_ups hk03 (drew_ups hU))
  have hc0 := fun W (hU : Ups (World.drew w3) W) => (hcells W hU).1
  have hcold := fun W (hU : Ups (World.drew w3) W) => cell_ups (Ups.trans hu3 (drew_ups hU)) hc0'
  have hfl := fun W (hU : Ups (World.drew w3) W) => hall.ups (Ups.trans hu3 (drew_ups hU))
  have hsize := fun W (hU : Ups (World.drew w3) W) => Nat.lt_of_lt_of_le hz3 (drew_ups hU).size
  obtain ⟨k0, k1, k2, k3, k4⟩ := block_cells hk03
  have hcc := cell_ups hu3 hc0'
  have HA := Lib.hid hall
  clear hT hI hst hk0 hk1 hk03
  have hzz := hzz3
  obtain ⟨d0, d1, d2, d3, d4⟩ := block_cells hzz
  have y0 := block_frozen hzz 0
  have y1 := block_frozen hzz 1
  have y2 := block_frozen hzz 2
  have y3 := block_frozen hzz 3
  have y4 := block_frozen hzz 4
  clear hcells hc0 hcold hfl hsize hall hzz3 hzz
  go_wp2_with fail
  refine bodyPost_ret (v := .tuple #[.agg #[.slice (some ⟨b, off, none⟩) pages.length c, .slice a' wear.length c', .int .i64 fuse, .string ftorn, .bool true], .int .i64 8]) ?_ rfl ⟨_, rfl, ?_⟩
  · simp [results, Tryz.results43, go_sem, d0, d1, d2, d3, d4]
  · exact fl_stored hu3 (Nat.le_succ _) (HA.out.ups hu3) (FlOff.mk hrP hrQ) (fun B hB ho => ho) rfl

set_option maxRecDepth 100000 in
set_option maxHeartbeats 4000000 in
theorem rprogram_zero (pages : List ByteArray) (wear : List Int) (fuse : Int) (ftorn : ByteArray) (v : Value) (n k : Nat) (s : ByteArray) (w : World) (h : FlAt w v (⟨pages, wear, fuse, ftorn, false⟩ : Fl)) (hf : FlFit (⟨pages, wear, fuse, ftorn, false⟩ : Fl)) (hb : hasB (⟨pages, wear, fuse, ftorn, false⟩ : Fl) n = true) (hn : n < pages.length) (hks : k + s.size ≤ (oldT (⟨pages, wear, fuse, ftorn, false⟩ : Fl) n).size) (h0 : fuse = 0) :
    Calls Tryz.prog 43 #[v, .int .i64 n, .int .i64 k, .string s] w fun e W' => ∃ v', e = .returned (.tuple #[v', .int .i64 (programF (⟨pages, wear, fuse, ftorn, false⟩ : Fl) n k s).2]) ∧ FlNew w v W' v' (programF (⟨pages, wear, fuse, ftorn, false⟩ : Fl) n k s).1 := by
  have hall := h
  obtain ⟨p, q, rfl, hT, hI⟩ := h
  simp only at hT hI
  have hrP : RowOff (w.heap.size + 1) p := hT.off (Nat.le_succ _)
  have hrQ : RowOff (w.heap.size + 1) q := hI.off (Nat.le_succ _)
  have hT0 := hT
  have hI0 := hI
  obtain ⟨a, c, rfl, hp⟩ := hT0
  obtain ⟨a', c', rfl, _⟩ := hI0
  have hu2 : Ups w ((w.alloc (.cells #[.slice a pages.length c, .slice a' wear.length c', .int .i64 fuse, .string ftorn, .bool false] 31)).alloc (.cells #[.slice none 0 0, .slice none 0 0, .int .i64 0, .string { data := #[] }, .bool false] 31)) := ((Own.start w).alloc (.cells #[.slice a pages.length c, .slice a' wear.length c', .int .i64 fuse, .string ftorn, .bool false] 31) |>.alloc (.cells #[.slice none 0 0, .slice none 0 0, .int .i64 0, .string { data := #[] }, .bool false] 31)).bel
  have hk0 : ((w.alloc (.cells #[.slice a pages.length c, .slice a' wear.length c', .int .i64 fuse, .string ftorn, .bool false] 31)).alloc (.cells #[.slice none 0 0, .slice none 0 0, .int .i64 0, .string { data := #[] }, .bool false] 31)).heap[w.heap.size]? = some (.cells #[.slice a pages.length c, .slice a' wear.length c', .int .i64 fuse, .string ftorn, .bool false] 31) := ((Own.start w).alloc (.cells #[.slice a pages.length c, .slice a' wear.length c', .int .i64 fuse, .string ftorn, .bool false] 31) |>.alloc (.cells #[.slice none 0 0, .slice none 0 0, .int .i64 0, .string { data := #[] }, .bool false] 31)).at w.heap.size 0 rfl rfl
  have hk1 : ((w.alloc (.cells #[.slice a pages.length c, .slice a' wear.length c', .int .i64 fuse, .string ftorn, .bool false] 31)).alloc (.cells #[.slice none 0 0, .slice none 0 0, .int .i64 0, .string { data := #[] }, .bool false] 31)).heap[w.heap.size + 1]? = some (.cells #[.slice none 0 0, .slice none 0 0, .int .i64 0, .string { data := #[] }, .bool false] 31) := ((Own.start w).alloc (.cells #[.slice a pages.length c, .slice a' wear.length c', .int .i64 fuse, .string ftorn, .bool false] 31) |>.alloc (.cells #[.slice none 0 0, .slice none 0 0, .int .i64 0, .string { data := #[] }, .bool false] 31)).at (w.heap.size + 1) 1 rfl rfl
  have hz2 : w.heap.size + 1 < ((w.alloc (.cells #[.slice a pages.length c, .slice a' wear.length c', .int .i64 fuse, .string ftorn, .bool false] 31)).alloc (.cells #[.slice none 0 0, .slice none 0 0, .int .i64 0, .string { data := #[] }, .bool false] 31)).heap.size := (Array.getElem?_eq_some_iff.1 hk1).1
  have hst := rpage_calls _ _ n _ (hall.ups hu2) hf
  rw [hb] at hst
  have hck := (has_facts hb).1
  obtain ⟨b, off, rfl, hp'⟩ := hp (by omega)
  obtain ⟨c1, c2, c3, c4, c5, c6⟩ := check_facts hck
  simp only at c1 c2 c3 c4 c5
  have sn := old_size hck hn
  have s0 := old_size hck (n := 0) c1
  have sn1 := sn.2.1
  have sm : (maskOf (⟨pages, wear, fuse, ftorn, false⟩ : Fl)).size ≤ 8192 := by rw [maskOf, maskT_size]; omega
  have s01 := s0.2.1
  have hip : (n : Int) < pages.length := by omega
  have hb1 : pages.length ≤ 1000 := by omega
  have hc0' : w.cell? ⟨b, off + n, none⟩ = some (.string (oldT (⟨pages, wear, fuse, ftorn, false⟩ : Fl) n)) := hp' n hn
  have hwn : n < wear.length := by omega
  have hw6 : wear.length ≤ 1000 := by omega
  have hwz : wear.getD n 0 ∈ wear := by rw [List.getD_eq_getElem?_getD, List.getElem?_eq_getElem hwn]; exact List.getElem_mem _
  have hw1 := (c5 _ hwz).1
  have hw2 := (c5 _ hwz).2
  have hmk : ∀ W, Ups w W → Calls Tryz.prog 68 #[.agg #[.slice (some ⟨b, off, none⟩) pages.length c, .slice a' wear.length c', .int .i64 fuse, .string ftorn, .bool false]] W fun e W' => e = .returned (.string (maskOf (⟨pages, wear, fuse, ftorn, false⟩ : Fl))) ∧ Ups W W' := fun W hU => rmask_calls (⟨pages, wear, fuse, ftorn, false⟩ : Fl) _ W (hall.ups hU) (oldT (⟨pages, wear, fuse, ftorn, false⟩ : Fl) 0) c1 rfl (by simp only; omega) s01 c4
  have hsb : standsB (⟨pages, wear, fuse, ftorn, false⟩ : Fl) n k s.size = true := by
    simp only [standsB, hb, Bool.true_and, Int.toNat_natCast]
    simp
    omega
  have he : programF (⟨pages, wear, fuse, ftorn, false⟩ : Fl) n k s = ((⟨pages.set n (andT (oldT (⟨pages, wear, fuse, ftorn, false⟩ : Fl) n) (orT (onesT k ++ s) (notT (maskOf (⟨pages, wear, fuse, ftorn, false⟩ : Fl))))), wear, fuse, ftorn, true⟩ : Fl), 8) := by rw [programF, if_pos hsb]; simp [stepF, h0]
  rw [he]
  generalize oldT (⟨pages, wear, fuse, ftorn, false⟩ : Fl) n = old at *
  generalize maskOf (⟨pages, wear, fuse, ftorn, false⟩ : Fl) = mask at *
  generalize oldT (⟨pages, wear, fuse, ftorn, false⟩ : Fl) 0 = first at *
  clear he hb hsb c3 c5 c6 hp hp' s0 sn hwz hck
  have hz0 : (fuse == 0) = true := by simp [h0]
  clear h0
  have tk1 : ¬ (k : Int) < 0 := by omega
  have tk2 : ¬ (old.size : Int) < k := by omega
  have tk3 : ¬ (old.size : Int) - k < s.size := by omega
  have hwr : IntKind.i64.wrap ((old.size : Int) - k) = old.size - k := (IntWalk.i64_left _).trans (IntWalk.wrap64_in _ ⟨by omega, by omega⟩)
  obtain ⟨m, hm⟩ : ∃ m : Nat, old.size = k + s.size + m := ⟨old.size - (k + s.size), by omega⟩
  have hwr2 : IntKind.i64.wrap ((old.size : Int) - k - s.size) = old.size - k - s.size := (IntWalk.i64_left _).trans (IntWalk.wrap64_in _ ⟨by omega, by omega⟩)
  have hones1 := fun W => qones_t k W (by omega)
  have hones2 : ∀ W, Calls Tryz.prog 58 #[.int .i64 ((old.size : Int) - k - s.size)] W fun e W' => e = .returned (.string (onesT m)) ∧ Ups W W' := by
    intro W
    rw [show (old.size : Int) - k - s.size = (m : Int) by omega]
    exact qones_t m W (by omega)
  have hsz1 : (onesT k ++ s).size = k + s.size := by rw [ByteArray.size_append, onesT_size]
  have hsz2 : (onesT k ++ s ++ onesT m).size = old.size := by rw [ByteArray.size_append, onesT_size, hsz1]; omega
  have hsz3 : (onesT k).size + s.size ≤ 8192 := by rw [onesT_size]; omega
  have hsz4 : (onesT k).size + s.size + (onesT m).size ≤ 8192 := by rw [onesT_size, onesT_size]; omega
  have hfin : andT old (orT (onesT k ++ s) (notT mask)) = andT old (orT (onesT k ++ s ++ onesT m) (notT mask)) := by rw [or_pad, and_pad]
  rw [hfin]
  clear hm hfin hsz1
  go_enter Tryz.func43, Tryz.ntmps43
  go_wp2_with fail
  refine hst.mono ?_
  rintro e w3 ⟨rfl, hb3⟩
  have hu3 := Ups.trans hu2 hb3
  have hk03 := block_ups hk0 hb3
  have hzz3 := block_ups hk1 hb3
  have hz3 : w.heap.size + 1 < w3.heap.size := Nat.lt_of_lt_of_le hz2 hb3.size
  have hcells := fun W (hU : Ups (World.drew w3) W) => block_cells (block_ups hk03 (drew_ups hU))
  have hc0 := fun W (hU : Ups (World.drew w3) W) => (hcells W hU).1
  have hcold := fun W (hU : Ups (World.drew w3) W) => cell_ups (Ups.trans hu3 (drew_ups hU)) hc0'
  have hfl := fun W (hU : Ups (World.drew w3) W) => hall.ups (Ups.trans hu3 (drew_ups hU))
  have hsize := fun W (hU : Ups (World.drew w3) W) => Nat.lt_of_lt_of_le hz3 (drew_ups hU).size
  obtain ⟨k0, k1, k2, k3, k4⟩ := block_cells hk03
  have hcc := cell_ups hu3 hc0'
  have HA := Lib.hid hall
  have hk03' := hk03
  clear hT hI hst hk0 hk1 hk03
  go_wp2_with fail
  refine (hones1 _).mono ?_
  rintro e w5 ⟨rfl, hb5⟩
  go_wp2_with fail
  refine (hones2 _).mono ?_
  rintro e w6 ⟨rfl, hb6⟩
  have hu6 := Ups.trans hu3 (Ups.trans hb5 hb6)
  have hk06 := block_ups hk03' (Ups.trans hb5 hb6)
  have hzz6 := block_ups hzz3 (Ups.trans hb5 hb6)
  have hz6 : w.heap.size + 1 < w6.heap.size := Nat.lt_of_lt_of_le hz3 (Ups.trans hb5 hb6).size
  clear hcells hc0 hcold hfl hsize k0 k1 k2 k3 k4 hcc hzz3
  obtain ⟨k0, k1, k2, k3, k4⟩ := block_cells hk06
  have hcc := cell_ups hu6 hc0'
  go_wp2_with fail
  refine (hmk _ hu6).mono ?_
  rintro e w7 ⟨rfl, hb7⟩
  go_wp2_with fail
  refine (qnot_t mask _ (by omega)).mono ?_
  rintro e w8 ⟨rfl, hb8⟩
  go_wp2_with fail
  refine (qor_t (onesT k ++ s ++ onesT m) (notT mask) _ (by omega)).mono ?_
  rintro e w9 ⟨rfl, hb9⟩
  have hb69 := Ups.trans hb7 (Ups.trans hb8 hb9)
  have hu9 := Ups.trans hu6 hb69
  have hk09 := block_ups hk06 hb69
  have hzz9 := block_ups hzz6 hb69
  have hz9 : w.heap.size + 1 < w9.heap.size := Nat.lt_of_lt_of_le hz6 hb69.size
  have hcells := fun W (hU : Ups (World.drew w9) W) => block_cells (block_ups hk09 (drew_ups hU))
  have hc0 := fun W (hU : Ups (World.drew w9) W) => (hcells W hU).1
  have hcold := fun W (hU : Ups (World.drew w9) W) => cell_ups (Ups.trans hu9 (drew_ups hU)) hc0'
  have hfl := fun W (hU : Ups (World.drew w9) W) => hall.ups (Ups.trans hu9 (drew_ups hU))
  have hsize := fun W (hU : Ups (World.drew w9) W) => Nat.lt_of_lt_of_le hz9 (drew_ups hU).size
  clear k0 k1 k2 k3 k4 hcc hzz6
  obtain ⟨k0, k1, k2, k3, k4⟩ := block_cells hk09
  have hcc := cell_ups hu9 hc0'
  go_wp2_with fail
  refine wp_region_parts (N := 11) (n := 96) (ks := [isV (.agg #[.slice (some ⟨b, off, none⟩) pages.length c, .slice a' wear.length c', .int .i64 fuse, .string ftorn, .bool false]), isV (.int .i64 n), isV (.pointer (some ⟨w.heap.size, 0, none⟩)), isV (.slice (some ⟨b, off, none⟩) pages.length c), isV (.int .i64 n), isV (.pointer (some ⟨b, off + n, none⟩)), isV (.string old), isV (.string (orT (onesT k ++ s ++ onesT m) (notT mask))), isV (.string (andT old (orT (onesT k ++ s ++ onesT m) (notT mask)))), fun v' W' => FlAt W' v' (⟨pages.set n (andT old (orT (onesT k ++ s ++ onesT m) (notT mask))), wear, fuse, ftorn, false⟩ : Fl) ∧ ∀ B, B ≤ w.heap.size + 1 → FlOff B (.agg #[.slice (some ⟨b, off, none⟩) pages.length c, .slice a' wear.length c', .int .i64 fuse, .string ftorn, .bool false]) → FlOff B v', fun v' W' => FlAt W' v' (⟨pages.set n (andT old (orT (onesT k ++ s ++ onesT m) (notT mask))), wear, fuse, ftorn, true⟩ : Fl) ∧ ∀ B, B ≤ w.heap.size + 1 → FlOff B (.agg #[.slice (some ⟨b, off, none⟩) pages.length c, .slice a' wear.length c', .int .i64 fuse, .string ftorn, .bool false]) → FlOff B v']) (by decide +kernel) (by decide +kernel) (by decide +kernel) (by simp) rfl (by decide +kernel) ⟨steady_is _, steady_is _, steady_is _, steady_is _, steady_is _, steady_is _, steady_is _, steady_is _, steady_is _, fun _ _ _ h hu => ⟨h.1.ups hu, h.2⟩, fun _ _ _ h hu => ⟨h.1.ups hu, h.2⟩, trivial⟩ ?_ ?_
  · refine And.intro (fun ac W hO hU H => ?_) ?_
    · have h4 : ac.tmps[4]? = some (.pointer (some ⟨w.heap.size, 0, none⟩)) := (hO 4 rfl).trans rfl
      obtain ⟨k0, k1, k2, k3, k4⟩ := hcells W hU
      exact growOp_plain rfl (parts_value (by simp [go_sem, h4, k0, k1, k2, k3, k4]))
    refine And.intro (fun ac W hO hU H => ?_) ?_
    · have h1 : ac.tmps[1]? = some (.int .i64 n) := (hO 1 rfl).trans rfl
      exact growOp_plain rfl (parts_value (by simp [go_sem, h1]))
    refine And.intro (fun ac W hO hU H => ?_) ?_
    · have h4 : ac.tmps[4]? = some (.pointer (some ⟨w.heap.size, 0, none⟩)) := (hO 4 rfl).trans rfl
      exact growOp_plain rfl (parts_value (by simp [go_sem, h4]))
    refine And.intro (fun ac W hO hU H => ?_) ?_
    · have h76 : ac.tmps[76]? = some (.pointer (some ⟨w.heap.size, 0, none⟩)) := isV_get (W := W) (H 2 76 rfl)
      have f0 := hc0 W hU
      exact growOp_plain rfl (parts_value (by simp [go_sem, h76, f0]))
    refine And.intro (fun ac W hO hU H => ?_) ?_
    · have h1 : ac.tmps[1]? = some (.int .i64 n) := (hO 1 rfl).trans rfl
      exact growOp_plain rfl (parts_value (by simp [go_sem, h1]))
    refine And.intro (fun ac W hO hU H => ?_) ?_
    · have h77 : ac.tmps[77]? = some (.slice (some ⟨b, off, none⟩) pages.length c) := isV_get (W := W) (H 3 77 rfl)
      have h78 : ac.tmps[78]? = some (.int .i64 n) := isV_get (W := W) (H 4 78 rfl)
      exact growOp_plain rfl (parts_value (by simp [go_sem, h77, h78, hip]))
    refine And.intro (fun ac W hO hU H => ?_) ?_
    · have h79 : ac.tmps[79]? = some (.pointer (some ⟨b, off + n, none⟩)) := isV_get (W := W) (H 5 79 rfl)
      have f0 := hcold W hU
      exact growOp_plain rfl (parts_value (by simp [go_sem, h79, f0]))
    refine And.intro (fun ac W hO hU H => ?_) ?_
    · have h12 : ac.tmps[12]? = some (.string (orT (onesT k ++ s ++ onesT m) (notT mask))) := (hO 12 rfl).trans rfl
      exact growOp_plain rfl (parts_value (by simp [go_sem, h12]))
    refine And.intro (fun ac W hO hU H => ?_) ?_
    · have h80 : ac.tmps[80]? = some (.string old) := isV_get (W := W) (H 6 80 rfl)
      have h81 : ac.tmps[81]? = some (.string (orT (onesT k ++ s ++ onesT m) (notT mask))) := isV_get (W := W) (H 7 81 rfl)
      exact growOp_plain rfl (parts_call_is (args := #[.string old, .string (orT (onesT k ++ s ++ onesT m) (notT mask))]) (by simp [go_sem, h80, h81]) (qand_t _ _ W (by omega)))
    refine And.intro (fun ac W hO hU H => ?_) ?_
    · have h74 : ac.tmps[74]? = some (.agg #[.slice (some ⟨b, off, none⟩) pages.length c, .slice a' wear.length c', .int .i64 fuse, .string ftorn, .bool false]) := isV_get (W := W) (H 0 74 rfl)
      have h75 : ac.tmps[75]? = some (.int .i64 n) := isV_get (W := W) (H 1 75 rfl)
      have h82 : ac.tmps[82]? = some (.string (andT old (orT (onesT k ++ s ++ onesT m) (notT mask)))) := isV_get (W := W) (H 8 82 rfl)
      exact growOp_plain rfl (parts_call (f := 70) (args := #[.agg #[.slice (some ⟨b, off, none⟩) pages.length c, .slice a' wear.length c', .int .i64 fuse, .string ftorn, .bool false], .int .i64 n, .string (andT old (orT (onesT k ++ s ++ onesT m) (notT mask)))]) (by simp [go_sem, h74, h75, h82]) (kd_first (hfl W hU) (hsize W hU) (rwith_calls _ _ n _ W (hfl W hU) hn hb1)))
    refine And.intro (fun ac W hO hU H => ?_) ?_
    · obtain ⟨v83, h83, q83⟩ := H 9 83 rfl
      exact growOp_plain rfl (parts_call (f := 69) (args := #[v83]) (by simp [go_sem, h83]) (kd_step q83 (hsize W hU) (rdead_calls _ _ W q83.1)))
    exact trivial
  · intro W xs hU hks
    obtain ⟨y0, rfl, g0⟩ := holdAll_is hks
    obtain ⟨y1, rfl, g1⟩ := holdAll_is g0
    obtain ⟨y2, rfl, g2⟩ := holdAll_is g1
    obtain ⟨y3, rfl, g3⟩ := holdAll_is g2
    obtain ⟨y4, rfl, g4⟩ := holdAll_is g3
    obtain ⟨y5, rfl, g5⟩ := holdAll_is g4
    obtain ⟨y6, rfl, g6⟩ := holdAll_is g5
    obtain ⟨y7, rfl, g7⟩ := holdAll_is g6
    obtain ⟨y8, rfl, g8⟩ := holdAll_is g7
    obtain ⟨v9, y9, rfl, q9, g9⟩ := holdAll_cons g8
    obtain ⟨v10, y10, rfl, q10, g10⟩ := holdAll_cons g9
    obtain rfl := holdAll_nil g10
    clear hks g0 g1 g2 g3 g4 g5 g6 g7 g8 g9 g10
    simp only [List.take_succ_cons, List.take_zero, List.drop_succ_cons, List.drop_zero, endTmps, List.setIfInBounds_toArray, List.set]
    have hzz := block_ups hzz9 (drew_ups hU)
    obtain ⟨d0, d1, d2, d3, d4⟩ := block_cells hzz
    have y0 := block_frozen hzz 0
    have y1 := block_frozen hzz 1
    have y2 := block_frozen hzz 2
    have y3 := block_frozen hzz 3
    have y4 := block_frozen hzz 4
    have huW := Ups.trans hu9 (drew_ups hU)
    obtain ⟨hread, hoff⟩ := q10
    have HB := Lib.hid hread
    have HO := Lib.hid hoff
    obtain ⟨_, _, rfl, ⟨ap, cp, rfl, _⟩, ⟨aq, cq, rfl, _⟩⟩ := hread
    clear hoff hzz hcells hc0 hcold hfl hsize hall hzz9 hmk
    go_wp2_with fail
    refine bodyPost_ret (v := .tuple #[.agg #[.slice ap (pages.set n (andT old (orT (onesT k ++ s ++ onesT m) (notT mask)))).length cp, .slice aq wear.length cq, .int .i64 fuse, .string ftorn, .bool true], .int .i64 8]) ?_ rfl ⟨_, rfl, ?_⟩
    · simp [results, Tryz.results43, go_sem, d0, d1, d2, d3, d4]
    · exact fl_stored huW (Nat.le_succ _) HB.out (HO.out _ (Nat.le_refl _) (FlOff.mk hrP hrQ)) (fun B hB ho => HO.out B (by omega) (FlOff.mk ho.fst ho.snd)) (by simp )

set_option maxRecDepth 100000 in
set_option maxHeartbeats 4000000 in
theorem rprogram_more (pages : List ByteArray) (wear : List Int) (fuse : Int) (ftorn : ByteArray) (v : Value) (n k : Nat) (s : ByteArray) (w : World) (h : FlAt w v (⟨pages, wear, fuse, ftorn, false⟩ : Fl)) (hf : FlFit (⟨pages, wear, fuse, ftorn, false⟩ : Fl)) (hb : hasB (⟨pages, wear, fuse, ftorn, false⟩ : Fl) n = true) (hn : n < pages.length) (hks : k + s.size ≤ (oldT (⟨pages, wear, fuse, ftorn, false⟩ : Fl) n).size) (h0 : ¬ fuse = 0) :
    Calls Tryz.prog 43 #[v, .int .i64 n, .int .i64 k, .string s] w fun e W' => ∃ v', e = .returned (.tuple #[v', .int .i64 (programF (⟨pages, wear, fuse, ftorn, false⟩ : Fl) n k s).2]) ∧ FlNew w v W' v' (programF (⟨pages, wear, fuse, ftorn, false⟩ : Fl) n k s).1 := by
  have hall := h
  obtain ⟨p, q, rfl, hT, hI⟩ := h
  simp only at hT hI
  have hrP : RowOff (w.heap.size + 1) p := hT.off (Nat.le_succ _)
  have hrQ : RowOff (w.heap.size + 1) q := hI.off (Nat.le_succ _)
  have hT0 := hT
  have hI0 := hI
  obtain ⟨a, c, rfl, hp⟩ := hT0
  obtain ⟨a', c', rfl, _⟩ := hI0
  have hu2 : Ups w ((w.alloc (.cells #[.slice a pages.length c, .slice a' wear.length c', .int .i64 fuse, .string ftorn, .bool false] 31)).alloc (.cells #[.slice none 0 0, .slice none 0 0, .int .i64 0, .string { data := #[] }, .bool false] 31)) := ((Own.start w).alloc (.cells #[.slice a pages.length c, .slice a' wear.length c', .int .i64 fuse, .string ftorn, .bool false] 31) |>.alloc (.cells #[.slice none 0 0, .slice none 0 0, .int .i64 0, .string { data := #[] }, .bool false] 31)).bel
  have hk0 : ((w.alloc (.cells #[.slice a pages.length c, .slice a' wear.length c', .int .i64 fuse, .string ftorn, .bool false] 31)).alloc (.cells #[.slice none 0 0, .slice none 0 0, .int .i64 0, .string { data := #[] }, .bool false] 31)).heap[w.heap.size]? = some (.cells #[.slice a pages.length c, .slice a' wear.length c', .int .i64 fuse, .string ftorn, .bool false] 31) := ((Own.start w).alloc (.cells #[.slice a pages.length c, .slice a' wear.length c', .int .i64 fuse, .string ftorn, .bool false] 31) |>.alloc (.cells #[.slice none 0 0, .slice none 0 0, .int .i64 0, .string { data := #[] }, .bool false] 31)).at w.heap.size 0 rfl rfl
  have hk1 : ((w.alloc (.cells #[.slice a pages.length c, .slice a' wear.length c', .int .i64 fuse, .string ftorn, .bool false] 31)).alloc (.cells #[.slice none 0 0, .slice none 0 0, .int .i64 0, .string { data := #[] }, .bool false] 31)).heap[w.heap.size + 1]? = some (.cells #[.slice none 0 0, .slice none 0 0, .int .i64 0, .string { data := #[] }, .bool false] 31) := ((Own.start w).alloc (.cells #[.slice a pages.length c, .slice a' wear.length c', .int .i64 fuse, .string ftorn, .bool false] 31) |>.alloc (.cells #[.slice none 0 0, .slice none 0 0, .int .i64 0, .string { data := #[] }, .bool false] 31)).at (w.heap.size + 1) 1 rfl rfl
  have hz2 : w.heap.size + 1 < ((w.alloc (.cells #[.slice a pages.length c, .slice a' wear.length c', .int .i64 fuse, .string ftorn, .bool false] 31)).alloc (.cells #[.slice none 0 0, .slice none 0 0, .int .i64 0, .string { data := #[] }, .bool false] 31)).heap.size := (Array.getElem?_eq_some_iff.1 hk1).1
  have hst := rpage_calls _ _ n _ (hall.ups hu2) hf
  rw [hb] at hst
  have hck := (has_facts hb).1
  obtain ⟨b, off, rfl, hp'⟩ := hp (by omega)
  obtain ⟨c1, c2, c3, c4, c5, c6⟩ := check_facts hck
  simp only at c1 c2 c3 c4 c5
  have sn := old_size hck hn
  have s0 := old_size hck (n := 0) c1
  have sn1 := sn.2.1
  have sm : (maskOf (⟨pages, wear, fuse, ftorn, false⟩ : Fl)).size ≤ 8192 := by rw [maskOf, maskT_size]; omega
  have s01 := s0.2.1
  have hip : (n : Int) < pages.length := by omega
  have hb1 : pages.length ≤ 1000 := by omega
  have hc0' : w.cell? ⟨b, off + n, none⟩ = some (.string (oldT (⟨pages, wear, fuse, ftorn, false⟩ : Fl) n)) := hp' n hn
  have hwn : n < wear.length := by omega
  have hw6 : wear.length ≤ 1000 := by omega
  have hwz : wear.getD n 0 ∈ wear := by rw [List.getD_eq_getElem?_getD, List.getElem?_eq_getElem hwn]; exact List.getElem_mem _
  have hw1 := (c5 _ hwz).1
  have hw2 := (c5 _ hwz).2
  have hmk : ∀ W, Ups w W → Calls Tryz.prog 68 #[.agg #[.slice (some ⟨b, off, none⟩) pages.length c, .slice a' wear.length c', .int .i64 fuse, .string ftorn, .bool false]] W fun e W' => e = .returned (.string (maskOf (⟨pages, wear, fuse, ftorn, false⟩ : Fl))) ∧ Ups W W' := fun W hU => rmask_calls (⟨pages, wear, fuse, ftorn, false⟩ : Fl) _ W (hall.ups hU) (oldT (⟨pages, wear, fuse, ftorn, false⟩ : Fl) 0) c1 rfl (by simp only; omega) s01 c4
  have hsb : standsB (⟨pages, wear, fuse, ftorn, false⟩ : Fl) n k s.size = true := by
    simp only [standsB, hb, Bool.true_and, Int.toNat_natCast]
    simp
    omega
  have he : programF (⟨pages, wear, fuse, ftorn, false⟩ : Fl) n k s = (burntF (⟨pages.set n (andT (oldT (⟨pages, wear, fuse, ftorn, false⟩ : Fl) n) (onesT k ++ s)), wear, fuse, ftorn, false⟩ : Fl), 0) := by rw [programF, if_pos hsb]; simp [stepF, h0, burntF]
  rw [he]
  generalize oldT (⟨pages, wear, fuse, ftorn, false⟩ : Fl) n = old at *
  generalize maskOf (⟨pages, wear, fuse, ftorn, false⟩ : Fl) = mask at *
  generalize oldT (⟨pages, wear, fuse, ftorn, false⟩ : Fl) 0 = first at *
  clear he hb hsb c3 c5 c6 hp hp' s0 sn hwz hck
  have hz0 : (fuse == 0) = false := by simpa using h0
  clear h0
  have tk1 : ¬ (k : Int) < 0 := by omega
  have tk2 : ¬ (old.size : Int) < k := by omega
  have tk3 : ¬ (old.size : Int) - k < s.size := by omega
  have hwr : IntKind.i64.wrap ((old.size : Int) - k) = old.size - k := (IntWalk.i64_left _).trans (IntWalk.wrap64_in _ ⟨by omega, by omega⟩)
  obtain ⟨m, hm⟩ : ∃ m : Nat, old.size = k + s.size + m := ⟨old.size - (k + s.size), by omega⟩
  have hwr2 : IntKind.i64.wrap ((old.size : Int) - k - s.size) = old.size - k - s.size := (IntWalk.i64_left _).trans (IntWalk.wrap64_in _ ⟨by omega, by omega⟩)
  have hones1 := fun W => qones_t k W (by omega)
  have hones2 : ∀ W, Calls Tryz.prog 58 #[.int .i64 ((old.size : Int) - k - s.size)] W fun e W' => e = .returned (.string (onesT m)) ∧ Ups W W' := by
    intro W
    rw [show (old.size : Int) - k - s.size = (m : Int) by omega]
    exact qones_t m W (by omega)
  have hsz1 : (onesT k ++ s).size = k + s.size := by rw [ByteArray.size_append, onesT_size]
  have hsz2 : (onesT k ++ s ++ onesT m).size = old.size := by rw [ByteArray.size_append, onesT_size, hsz1]; omega
  have hsz3 : (onesT k).size + s.size ≤ 8192 := by rw [onesT_size]; omega
  have hsz4 : (onesT k).size + s.size + (onesT m).size ≤ 8192 := by rw [onesT_size, onesT_size]; omega
  have hfin : andT old (onesT k ++ s) = andT old (onesT k ++ s ++ onesT m) := by rw [and_pad]
  rw [hfin]
  clear hm hfin hsz1
  go_enter Tryz.func43, Tryz.ntmps43
  go_wp2_with fail
  refine hst.mono ?_
  rintro e w3 ⟨rfl, hb3⟩
  have hu3 := Ups.trans hu2 hb3
  have hk03 := block_ups hk0 hb3
  have hzz3 := block_ups hk1 hb3
  have hz3 : w.heap.size + 1 < w3.heap.size := Nat.lt_of_lt_of_le hz2 hb3.size
  have hcells := fun W (hU : Ups (World.drew w3) W) => block_cells (block_ups hk03 (drew_ups hU))
  have hc0 := fun W (hU : Ups (World.drew w3) W) => (hcells W hU).1
  have hcold := fun W (hU : Ups (World.drew w3) W) => cell_ups (Ups.trans hu3 (drew_ups hU)) hc0'
  have hfl := fun W (hU : Ups (World.drew w3) W) => hall.ups (Ups.trans hu3 (drew_ups hU))
  have hsize := fun W (hU : Ups (World.drew w3) W) => Nat.lt_of_lt_of_le hz3 (drew_ups hU).size
  obtain ⟨k0, k1, k2, k3, k4⟩ := block_cells hk03
  have hcc := cell_ups hu3 hc0'
  have HA := Lib.hid hall
  have hk03' := hk03
  clear hT hI hst hk0 hk1 hk03
  go_wp2_with fail
  refine (hones1 _).mono ?_
  rintro e w5 ⟨rfl, hb5⟩
  go_wp2_with fail
  refine (hones2 _).mono ?_
  rintro e w6 ⟨rfl, hb6⟩
  have hu6 := Ups.trans hu3 (Ups.trans hb5 hb6)
  have hk06 := block_ups hk03' (Ups.trans hb5 hb6)
  have hzz6 := block_ups hzz3 (Ups.trans hb5 hb6)
  have hz6 : w.heap.size + 1 < w6.heap.size := Nat.lt_of_lt_of_le hz3 (Ups.trans hb5 hb6).size
  clear hcells hc0 hcold hfl hsize k0 k1 k2 k3 k4 hcc hzz3
  obtain ⟨k0, k1, k2, k3, k4⟩ := block_cells hk06
  have hcc := cell_ups hu6 hc0'
  have hcells := fun W (hU : Ups (World.drew w6) W) => block_cells (block_ups hk06 (drew_ups hU))
  have hc0 := fun W (hU : Ups (World.drew w6) W) => (hcells W hU).1
  have hcold := fun W (hU : Ups (World.drew w6) W) => cell_ups (Ups.trans hu6 (drew_ups hU)) hc0'
  have hfl := fun W (hU : Ups (World.drew w6) W) => hall.ups (Ups.trans hu6 (drew_ups hU))
  have hsize := fun W (hU : Ups (World.drew w6) W) => Nat.lt_of_lt_of_le hz6 (drew_ups hU).size
  go_wp2_with fail
  refine wp_region_parts (N := 11) (n := 96) (ks := [isV (.agg #[.slice (some ⟨b, off, none⟩) pages.length c, .slice a' wear.length c', .int .i64 fuse, .string ftorn, .bool false]), isV (.int .i64 n), isV (.pointer (some ⟨w.heap.size, 0, none⟩)), isV (.slice (some ⟨b, off, none⟩) pages.length c), isV (.int .i64 n), isV (.pointer (some ⟨b, off + n, none⟩)), isV (.string old), isV (.string (onesT k ++ s ++ onesT m)), isV (.string (andT old (onesT k ++ s ++ onesT m))), fun v' W' => FlAt W' v' (⟨pages.set n (andT old (onesT k ++ s ++ onesT m)), wear, fuse, ftorn, false⟩ : Fl) ∧ ∀ B, B ≤ w.heap.size + 1 → FlOff B (.agg #[.slice (some ⟨b, off, none⟩) pages.length c, .slice a' wear.length c', .int .i64 fuse, .string ftorn, .bool false]) → FlOff B v', fun v' W' => FlAt W' v' (burntF (⟨pages.set n (andT old (onesT k ++ s ++ onesT m)), wear, fuse, ftorn, false⟩ : Fl)) ∧ ∀ B, B ≤ w.heap.size + 1 → FlOff B (.agg #[.slice (some ⟨b, off, none⟩) pages.length c, .slice a' wear.length c', .int .i64 fuse, .string ftorn, .bool false]) → FlOff B v']) (by decide +kernel) (by decide +kernel) (by decide +kernel) (by simp) rfl (by decide +kernel) ⟨steady_is _, steady_is _, steady_is _, steady_is _, steady_is _, steady_is _, steady_is _, steady_is _, steady_is _, fun _ _ _ h hu => ⟨h.1.ups hu, h.2⟩, fun _ _ _ h hu => ⟨h.1.ups hu, h.2⟩, trivial⟩ ?_ ?_
  · refine And.intro (fun ac W hO hU H => ?_) ?_
    · have h4 : ac.tmps[4]? = some (.pointer (some ⟨w.heap.size, 0, none⟩)) := (hO 4 rfl).trans rfl
      obtain ⟨k0, k1, k2, k3, k4⟩ := hcells W hU
      exact growOp_plain rfl (parts_value (by simp [go_sem, h4, k0, k1, k2, k3, k4]))
    refine And.intro (fun ac W hO hU H => ?_) ?_
    · have h1 : ac.tmps[1]? = some (.int .i64 n) := (hO 1 rfl).trans rfl
      exact growOp_plain rfl (parts_value (by simp [go_sem, h1]))
    refine And.intro (fun ac W hO hU H => ?_) ?_
    · have h4 : ac.tmps[4]? = some (.pointer (some ⟨w.heap.size, 0, none⟩)) := (hO 4 rfl).trans rfl
      exact growOp_plain rfl (parts_value (by simp [go_sem, h4]))
    refine And.intro (fun ac W hO hU H => ?_) ?_
    · have h87 : ac.tmps[87]? = some (.pointer (some ⟨w.heap.size, 0, none⟩)) := isV_get (W := W) (H 2 87 rfl)
      have f0 := hc0 W hU
      exact growOp_plain rfl (parts_value (by simp [go_sem, h87, f0]))
    refine And.intro (fun ac W hO hU H => ?_) ?_
    · have h1 : ac.tmps[1]? = some (.int .i64 n) := (hO 1 rfl).trans rfl
      exact growOp_plain rfl (parts_value (by simp [go_sem, h1]))
    refine And.intro (fun ac W hO hU H => ?_) ?_
    · have h88 : ac.tmps[88]? = some (.slice (some ⟨b, off, none⟩) pages.length c) := isV_get (W := W) (H 3 88 rfl)
      have h89 : ac.tmps[89]? = some (.int .i64 n) := isV_get (W := W) (H 4 89 rfl)
      exact growOp_plain rfl (parts_value (by simp [go_sem, h88, h89, hip]))
    refine And.intro (fun ac W hO hU H => ?_) ?_
    · have h90 : ac.tmps[90]? = some (.pointer (some ⟨b, off + n, none⟩)) := isV_get (W := W) (H 5 90 rfl)
      have f0 := hcold W hU
      exact growOp_plain rfl (parts_value (by simp [go_sem, h90, f0]))
    refine And.intro (fun ac W hO hU H => ?_) ?_
    · have h11 : ac.tmps[11]? = some (.string (onesT k ++ s ++ onesT m)) := (hO 11 rfl).trans rfl
      exact growOp_plain rfl (parts_value (by simp [go_sem, h11]))
    refine And.intro (fun ac W hO hU H => ?_) ?_
    · have h91 : ac.tmps[91]? = some (.string old) := isV_get (W := W) (H 6 91 rfl)
      have h92 : ac.tmps[92]? = some (.string (onesT k ++ s ++ onesT m)) := isV_get (W := W) (H 7 92 rfl)
      exact growOp_plain rfl (parts_call_is (args := #[.string old, .string (onesT k ++ s ++ onesT m)]) (by simp [go_sem, h91, h92]) (qand_t _ _ W (by omega)))
    refine And.intro (fun ac W hO hU H => ?_) ?_
    · have h85 : ac.tmps[85]? = some (.agg #[.slice (some ⟨b, off, none⟩) pages.length c, .slice a' wear.length c', .int .i64 fuse, .string ftorn, .bool false]) := isV_get (W := W) (H 0 85 rfl)
      have h86 : ac.tmps[86]? = some (.int .i64 n) := isV_get (W := W) (H 1 86 rfl)
      have h93 : ac.tmps[93]? = some (.string (andT old (onesT k ++ s ++ onesT m))) := isV_get (W := W) (H 8 93 rfl)
      exact growOp_plain rfl (parts_call (f := 70) (args := #[.agg #[.slice (some ⟨b, off, none⟩) pages.length c, .slice a' wear.length c', .int .i64 fuse, .string ftorn, .bool false], .int .i64 n, .string (andT old (onesT k ++ s ++ onesT m))]) (by simp [go_sem, h85, h86, h93]) (kd_first (hfl W hU) (hsize W hU) (rwith_calls _ _ n _ W (hfl W hU) hn hb1)))
    refine And.intro (fun ac W hO hU H => ?_) ?_
    · obtain ⟨v94, h94, q94⟩ := H 9 94 rfl
      exact growOp_plain rfl (parts_call (f := 72) (args := #[v94]) (by simp [go_sem, h94]) (kd_step q94 (hsize W hU) (rburnt_calls _ _ W q94.1 hf.2.2.2)))
    exact trivial
  · intro W xs hU hks
    obtain ⟨y0, rfl, g0⟩ := holdAll_is hks
    obtain ⟨y1, rfl, g1⟩ := holdAll_is g0
    obtain ⟨y2, rfl, g2⟩ := holdAll_is g1
    obtain ⟨y3, rfl, g3⟩ := holdAll_is g2
    obtain ⟨y4, rfl, g4⟩ := holdAll_is g3
    obtain ⟨y5, rfl, g5⟩ := holdAll_is g4
    obtain ⟨y6, rfl, g6⟩ := holdAll_is g5
    obtain ⟨y7, rfl, g7⟩ := holdAll_is g6
    obtain ⟨y8, rfl, g8⟩ := holdAll_is g7
    obtain ⟨v9, y9, rfl, q9, g9⟩ := holdAll_cons g8
    obtain ⟨v10, y10, rfl, q10, g10⟩ := holdAll_cons g9
    obtain rfl := holdAll_nil g10
    clear hks g0 g1 g2 g3 g4 g5 g6 g7 g8 g9 g10
    simp only [List.take_succ_cons, List.take_zero, List.drop_succ_cons, List.drop_zero, endTmps, List.setIfInBounds_toArray, List.set]
    have hzz := block_ups hzz6 (drew_ups hU)
    obtain ⟨d0, d1, d2, d3, d4⟩ := block_cells hzz
    have y0 := block_frozen hzz 0
    have y1 := block_frozen hzz 1
    have y2 := block_frozen hzz 2
    have y3 := block_frozen hzz 3
    have y4 := block_frozen hzz 4
    have huW := Ups.trans hu6 (drew_ups hU)
    obtain ⟨hread, hoff⟩ := q10
    have HB := Lib.hid hread
    have HO := Lib.hid hoff
    obtain ⟨_, _, rfl, ⟨ap, cp, rfl, _⟩, ⟨aq, cq, rfl, _⟩⟩ := hread
    clear hoff hzz hcells hc0 hcold hfl hsize hall hzz6 hmk
    go_wp2_with fail
    refine bodyPost_ret (v := .tuple #[.agg #[.slice ap (pages.set n (andT old (onesT k ++ s ++ onesT m))).length cp, .slice aq wear.length cq, .int .i64 (if 0 < fuse then fuse - 1 else fuse), .string ftorn, .bool false], .int .i64 0]) ?_ rfl ⟨_, rfl, ?_⟩
    · simp [results, Tryz.results43, go_sem, d0, d1, d2, d3, d4, burntF]
    · exact fl_stored huW (Nat.le_succ _) HB.out (HO.out _ (Nat.le_refl _) (FlOff.mk hrP hrQ)) (fun B hB ho => HO.out B (by omega) (FlOff.mk ho.fst ho.snd)) (by simp [burntF])

theorem rprogram_calls (f : Fl) (v : Value) (page at_ : Int) (s : ByteArray) (w : World) (h : FlAt w v f) (hf : FlFit f) (ha : at_ ≤ 9223372036854775807) :
    Calls Tryz.prog 43 #[v, .int .i64 page, .int .i64 at_, .string s] w fun e W' => ∃ v', e = .returned (.tuple #[v', .int .i64 (programF f page at_ s).2]) ∧ FlNew w v W' v' (programF f page at_ s).1 := by
  cases hb : hasB f page with
  | false =>
    obtain ⟨pages, wear, fuse, ftorn, dead⟩ := f
    exact rprogram_none pages wear fuse ftorn dead v page at_ s w h hf hb
  | true =>
    obtain ⟨hck, n, rfl, hn⟩ := has_facts hb
    obtain ⟨pages, wear, fuse, ftorn, dead⟩ := f
    by_cases h1 : at_ < 0
    · exact rprogram_low pages wear fuse ftorn dead v n at_ s w h hf hb hn h1
    by_cases h2 : ((oldT ⟨pages, wear, fuse, ftorn, dead⟩ n).size : Int) < at_
    · exact rprogram_high pages wear fuse ftorn dead v n at_ s w h hf hb hn h1 h2
    by_cases h3 : ((oldT ⟨pages, wear, fuse, ftorn, dead⟩ n).size : Int) - at_ < s.size
    · exact rprogram_long pages wear fuse ftorn dead v n at_ s w h hf hb hn h1 h2 h3
    obtain ⟨k, rfl⟩ : ∃ k : Nat, at_ = k := ⟨at_.toNat, by omega⟩
    have hks : k + s.size ≤ (oldT ⟨pages, wear, fuse, ftorn, dead⟩ n).size := by omega
    cases dead with
    | true => exact rprogram_dead pages wear fuse ftorn v n k s w h hf hb hn hks
    | false =>
      by_cases h0 : fuse = 0
      · exact rprogram_zero pages wear fuse ftorn v n k s w h hf hb hn hks h0
      · exact rprogram_more pages wear fuse ftorn v n k s w h hf hb hn hks h0

end Go.Proofs.YtmabpnkdagipfaaGreat

/- What ouroborosref03.Wake, Rot, Free, Same come to. -/
namespace Go.Proofs.YtmabpnkdagipfaaGreat
open Go.RowKit

set_option maxRecDepth 100000 in
set_option maxHeartbeats 1000000 in
theorem rsame_calls (f g : Fl) (v v' : Value) (w : World) (h : FlAt w v f) (h' : FlAt w v' g) (b1 : f.pages.length ≤ 1000000) (b3 : f.wear.length ≤ 1000000) :
    Calls Tryz.prog 23 #[v, v'] w fun e W' => e = .returned (.bool (sameB f g)) ∧ Ups w W' := by
  obtain ⟨p, q, rfl, hp, hq⟩ := h
  obtain ⟨p', q', rfl, hp', hq'⟩ := h'
  have heT := fun W (hu : Ups w W) => rtexts_calls (hp.ups hu) (hp'.ups hu) b1
  have heI := fun W (hu : Ups w W) => rints_calls (hq.ups hu) (hq'.ups hu) b3
  obtain ⟨a1, c1, rfl, _⟩ := hp
  obtain ⟨a2, c2, rfl, _⟩ := hq
  obtain ⟨a3, c3, rfl, _⟩ := hp'
  obtain ⟨a4, c4, rfl, _⟩ := hq'
  have hs : sameB f g = (decide (f.pages = g.pages) && decide (f.wear = g.wear) && (f.fuse == g.fuse) && (f.torn.toList == g.torn.toList) && (f.dead == g.dead)) := rfl
  rw [hs]
  clear hs
  generalize decide (f.pages = g.pages) = P at *
  generalize decide (f.wear = g.wear) = Q at *
  go_enter Tryz.func23, Tryz.ntmps23
  go_wp2_with fail
  have o2 := ((Own.start w).alloc (.cells #[.slice a1 f.pages.length c1, .slice a2 f.wear.length c2, .int .i64 f.fuse, .string f.torn, .bool f.dead] 31)).alloc (.cells #[.slice a3 g.pages.length c3, .slice a4 g.wear.length c4, .int .i64 g.fuse, .string g.torn, .bool g.dead] 31)
  have hu2 : Ups w ((w.alloc (.cells #[.slice a1 f.pages.length c1, .slice a2 f.wear.length c2, .int .i64 f.fuse, .string f.torn, .bool f.dead] 31)).alloc (.cells #[.slice a3 g.pages.length c3, .slice a4 g.wear.length c4, .int .i64 g.fuse, .string g.torn, .bool g.dead] 31)) := o2.bel
  have hk0 := o2.at w.heap.size 0 rfl rfl
  have hk1 := o2.at (w.heap.size + 1) 1 rfl rfl
  clear o2
  generalize (w.alloc (.cells #[.slice a1 f.pages.length c1, .slice a2 f.wear.length c2, .int .i64 f.fuse, .string f.torn, .bool f.dead] 31)).alloc (.cells #[.slice a3 g.pages.length c3, .slice a4 g.wear.length c4, .int .i64 g.fuse, .string g.torn, .bool g.dead] 31) = W2 at *
  refine (heT _ hu2).mono ?_
  rintro e W3 ⟨rfl, hb3⟩
  have cA : ∀ j v, (#[.slice a1 f.pages.length c1, .slice a2 f.wear.length c2, .int .i64 f.fuse, .string f.torn, .bool f.dead] : Array Value)[j]? = some v → W3.cell? ⟨w.heap.size, j, none⟩ = some v := fun j v h => cell_ups hb3 (by rw [cell_of hk0]; exact h)
  have cB : ∀ j v, (#[.slice a3 g.pages.length c3, .slice a4 g.wear.length c4, .int .i64 g.fuse, .string g.torn, .bool g.dead] : Array Value)[j]? = some v → W3.cell? ⟨w.heap.size + 1, j, none⟩ = some v := fun j v h => cell_ups hb3 (by rw [cell_of hk1]; exact h)
  have k1 := cA 1 _ rfl
  have m1 := cB 1 _ rfl
  clear hk0 hk1
  have HA := Lib.hid cA
  have HB := Lib.hid cB
  clear cA cB
  cases P
  · go_wp2_with fail
    go_ret
    exact ⟨by simp, Ups.trans hu2 hb3⟩
  · go_wp2_with fail
    refine (heI _ (Ups.trans hu2 hb3)).mono ?_
    rintro e W4 ⟨rfl, hb4⟩
    have k2 := cell_ups hb4 (HA.out 2 _ rfl)
    have k3 := cell_ups hb4 (HA.out 3 _ rfl)
    have k4 := cell_ups hb4 (HA.out 4 _ rfl)
    have m2 := cell_ups hb4 (HB.out 2 _ rfl)
    have m3 := cell_ups hb4 (HB.out 3 _ rfl)
    have m4 := cell_ups hb4 (HB.out 4 _ rfl)
    have hu := Ups.trans hu2 (Ups.trans hb3 hb4)
    cases Q
    · go_wp2_with fail
      go_ret
      exact ⟨by simp, hu⟩
    · cases e1 : (f.fuse == g.fuse)
      · go_wp2_with fail
        go_ret
        exact ⟨by simp; intro h; exact absurd h (by simpa using e1), hu⟩
      · cases e2 : (f.torn.toList == g.torn.toList)
        · go_wp2_with fail
          go_ret
          exact ⟨by simp; simp at e1; try simp at e2; simp_all, hu⟩
        · go_wp2_with fail
          go_ret
          exact ⟨by simp; simp at e1; try simp at e2; simp_all, hu⟩


theorem free_eq (s : ByteArray) : (s.toList == (onesT s.size).toList) = decide (count s.data.toList = 8 * s.size) := by
  have hc : ∀ l : List UInt8, count l = 8 * l.length ↔ l = List.replicate l.length 255 := by
    intro l
    induction l with
    | nil => simp [count]
    | cons c l ih =>
      have h1 := count_le l
      have h2 : pop c ≤ 8 ∧ (pop c = 8 ↔ c = 255) := by
        have h : ∀ c : Fin 256, pop (UInt8.ofNat c.val) ≤ 8 ∧ (pop (UInt8.ofNat c.val) = 8 ↔ UInt8.ofNat c.val = 255) := by decide +kernel
        have := h ⟨c.toNat, c.toNat_lt⟩
        simpa using this
      have h3 : count (c :: l) = pop c + count l := by simp [count]
      rw [h3, List.length_cons, List.replicate_succ, List.cons.injEq, ← ih, ← h2.2]
      omega
  have := hc s.data.toList
  rw [toList_length] at this
  rw [Bool.eq_iff_iff, beq_iff_eq, decide_eq_true_eq, this, ByteArray.toList_eq, ByteArray.toList_eq, onesT, bs_toList]

end Go.Proofs.YtmabpnkdagipfaaGreat

/- What ouroborosref03.New comes to. -/
namespace Go.Proofs.YtmabpnkdagipfaaGreat
open Go.RowKit

/-- The flash that New fills: so many pages. -/
def newCells (vP : Value) (g c : Nat) : Obj := .cells #[vP, .slice (some ⟨g, 0, none⟩) c c, .int .i64 (-1), .string { data := #[] }, .bool false] 31 (0, 0)

theorem own_but {B : Nat} {A A' : World} {base e size n : Nat} {v : Value} {xs : List Value} (h : A.ownsRow base e size v n xs) (hb : But B A A') (hB : B < base) : A'.ownsRow base e size v n xs := by
  obtain ⟨hl, h | ⟨g, cap, cur, rfl, hg0, hg, h1, h2, h3, h4⟩⟩ := h
  · exact ⟨hl, .inl h⟩
  · exact ⟨hl, .inr ⟨g, cap, cur, rfl, hg0, (hb.block g (by omega)).trans hg, h1, h2, h3, h4⟩⟩
theorem grown_low {A B : World} {base e size n : Nat} {v : Value} {xs : List Value} (h : A.grownBy B v.ownBlock) (ho : A.ownsRow base e size v n xs) {i : Nat} {o : Obj} (hi : i < base) (hat : A.heap[i]? = some o) : B.heap[i]? = some o :=
  (h.block i (Array.getElem?_eq_some_iff.1 hat).1 (fun e => by have := own_base ho e.symm; omega)).trans hat
theorem grown_below {w A B : World} {base e size n : Nat} {v : Value} {xs : List Value} (h : A.grownBy B v.ownBlock) (ho : A.ownsRow base e size v n xs) (hw : Below w.heap.size w A) (hb : w.heap.size ≤ base) : Below w.heap.size w B :=
  ⟨h.os.trans hw.os, h.tape.trans hw.tape, h.output.trans hw.output, Nat.le_trans hw.size h.size, fun i hi => (h.block i (Nat.lt_of_lt_of_le hi hw.size) (fun e => by have := own_base ho e.symm; omega)).trans (hw.block i hi)⟩

end Go.Proofs.YtmabpnkdagipfaaGreat

/- FlashSteps, walked. -/
namespace Go.Proofs.YtmabpnkdagipfaaGreat
open Go.RowKit

theorem sameB_refl (f : Fl) : sameB f f = true := by simp [sameB]
theorem step_len (f : Fl) (n : Nat) (a b : ByteArray) : (stepF f n a b).1.pages.length = f.pages.length ∧ (stepF f n a b).1.wear.length = f.wear.length := by
  unfold stepF
  split
  · exact ⟨rfl, rfl⟩
  · split <;> simp
theorem erase_len (f : Fl) (page : Int) : (eraseF f page).1.pages.length = f.pages.length ∧ (eraseF f page).1.wear.length = f.wear.length := by
  unfold eraseF
  split
  · have := step_len f page.toNat (onesT (oldT f page.toNat).size) (orT (oldT f page.toNat) (maskOf f))
    simp only
    split
    · simp [this.1, this.2]
    · exact this
  · exact ⟨rfl, rfl⟩
theorem program_len (f : Fl) (page at_ : Int) (s : ByteArray) : (programF f page at_ s).1.pages.length = f.pages.length ∧ (programF f page at_ s).1.wear.length = f.wear.length := by
  unfold programF
  split
  · exact step_len _ _ _ _
  · exact ⟨rfl, rfl⟩
theorem wake_len (f : Fl) (fuse : Int) (torn : ByteArray) : (wakeF f fuse torn).1.pages.length = f.pages.length ∧ (wakeF f fuse torn).1.wear.length = f.wear.length := by
  unfold wakeF
  split <;> exact ⟨rfl, rfl⟩
theorem rot_len (f : Fl) (page at_ : Int) (s : ByteArray) : (rotF f page at_ s).1.pages.length = f.pages.length ∧ (rotF f page at_ s).1.wear.length = f.wear.length := by
  unfold rotF
  split <;> simp
theorem new_len (pages size : Int) : (newF pages size).1.pages.length ≤ 6 ∧ (newF pages size).1.wear.length ≤ 6 := by
  unfold newF
  split
  · simp
  · simp only [List.length_replicate]
    omega

end Go.Proofs.YtmabpnkdagipfaaGreat

/- FlashRots, walked. -/
namespace Go.Proofs.YtmabpnkdagipfaaGreat
open Go.RowKit

theorem FlAt.page {W : World} {a : Option Addr} {n c : Nat} {q : Value} {fu : Int} {tn : ByteArray} {de : Bool} {f : Fl} (h : FlAt W (.agg #[.slice a n c, q, .int .i64 fu, .string tn, .bool de]) f) {k : Nat} (hk : k < f.pages.length) :
    ∃ b off, a = some ⟨b, off, none⟩ ∧ W.cell? ⟨b, off + k, none⟩ = some (.string (oldT f k)) := by
  obtain ⟨p, q, hv, ⟨a', c', hp, hj⟩, _⟩ := h
  simp only [Value.agg.injEq, Array.mk.injEq, List.cons.injEq] at hv
  obtain ⟨rfl, _⟩ := hv
  simp only [Value.slice.injEq] at hp
  obtain ⟨rfl, _, _⟩ := hp
  obtain ⟨b, off, rfl, hc⟩ := hj (by omega)
  exact ⟨b, off, rfl, hc k hk⟩
theorem FlAt.worn {W : World} {a : Option Addr} {n c : Nat} {p : Value} {fu : Int} {tn : ByteArray} {de : Bool} {f : Fl} (h : FlAt W (.agg #[p, .slice a n c, .int .i64 fu, .string tn, .bool de]) f) {k : Nat} (hk : k < f.wear.length) :
    ∃ b off, a = some ⟨b, off, none⟩ ∧ W.cell? ⟨b, off + k, none⟩ = some (.int .i64 (f.wear.getD k 0)) := by
  obtain ⟨p, q, hv, _, ⟨a', c', hp, hj⟩⟩ := h
  simp only [Value.agg.injEq, Array.mk.injEq, List.cons.injEq] at hv
  obtain ⟨_, rfl, _⟩ := hv
  simp only [Value.slice.injEq] at hp
  obtain ⟨rfl, _, _⟩ := hp
  obtain ⟨b, off, rfl, hc⟩ := hj (by omega)
  exact ⟨b, off, rfl, hc k hk⟩
theorem step_fit (f : Fl) (n : Nat) (a b : ByteArray) (h : FlFit f) : FlFit (stepF f n a b).1 := by
  obtain ⟨h1, h2, h3, h4⟩ := h
  unfold stepF
  split
  · exact ⟨h1, h2, h3, h4⟩
  · split
    · exact ⟨by simpa using h1, h2, h3, h4⟩
    · refine ⟨by simpa using h1, h2, ?_, ?_⟩ <;> simp only <;> split <;> omega
theorem erase_fit (f : Fl) (page : Int) (h : FlFit f) : FlFit (eraseF f page).1 := by
  unfold eraseF
  split
  · have := step_fit f page.toNat (onesT (oldT f page.toNat).size) (orT (oldT f page.toNat) (maskOf f)) h
    simp only
    split
    · exact ⟨this.1, by simpa using this.2.1, this.2.2.1, this.2.2.2⟩
    · exact this
  · exact h
theorem program_fit (f : Fl) (page at_ : Int) (s : ByteArray) (h : FlFit f) : FlFit (programF f page at_ s).1 := by
  unfold programF
  split
  · exact step_fit _ _ _ _ h
  · exact h
theorem wake_fit (f : Fl) (fuse : Int) (torn : ByteArray) (h : FlFit f) (h1 : -9223372036854775808 ≤ fuse) (h2 : fuse ≤ 9223372036854775807) : FlFit (wakeF f fuse torn).1 := by
  unfold wakeF
  split
  · exact ⟨h.1, h.2.1, h1, h2⟩
  · exact h
theorem rot_fit (f : Fl) (page at_ : Int) (s : ByteArray) (h : FlFit f) : FlFit (rotF f page at_ s).1 := by
  unfold rotF
  split
  · exact ⟨by simpa using h.1, h.2.1, h.2.2.1, h.2.2.2⟩
  · exact h

end Go.Proofs.YtmabpnkdagipfaaGreat
