/- What flash.with comes to. -/
import Derived.Test.YtjpapjijlbfemaaFlMem
namespace Go.Proofs.Ytjpapjijlbfemaa
open Go.RowKit

set_option maxRecDepth 100000 in
set_option maxHeartbeats 1000000 in
theorem with_calls (f : Fl) (v : Value) (page : Nat) (s : ByteArray) (w : World) (h : FlAt w v f) (hp0 : page < f.pages.length) (hb1 : f.pages.length ≤ 1000) :
    Calls Try.prog 49 #[v, .int .i64 page, .string s] w fun e W' => ∃ v', e = .returned v' ∧ FlNew w v W' v' { f with pages := f.pages.set page s } := by
  obtain ⟨p, q, rfl, ⟨a, c, rfl, hp⟩, hq⟩ := h
  obtain ⟨b, off, rfl, hp'⟩ := hp (by omega)
  have HQ := Lib.hid hq
  obtain ⟨a', c', rfl, _⟩ := hq
  go_enter Try.func49, Try.ntmps49
  go_wp2_with fail
  have o2 := ((Own.start w).alloc (.cells #[.slice (some ⟨b, off, none⟩) f.pages.length c, .slice a' f.wear.length c', .int .i64 f.fuse, .string f.torn, .bool f.dead] 25)).alloc (.cells #[.slice none 0 0, .slice none 0 0, .int .i64 0, .string { data := #[] }, .bool false] 25)
  have hu2 : Ups w ((w.alloc (.cells #[.slice (some ⟨b, off, none⟩) f.pages.length c, .slice a' f.wear.length c', .int .i64 f.fuse, .string f.torn, .bool f.dead] 25)).alloc (.cells #[.slice none 0 0, .slice none 0 0, .int .i64 0, .string { data := #[] }, .bool false] 25)) := o2.bel
  have hz2 := o2.size
  have hk0 := o2.at w.heap.size 0 rfl rfl
  have hk1 := o2.at (w.heap.size + 1) 1 rfl rfl
  simp only [List.nil_append, List.cons_append, List.length_cons, List.length_nil, Nat.zero_add, Nat.reduceAdd] at hz2
  clear o2
  generalize (w.alloc (.cells #[.slice (some ⟨b, off, none⟩) f.pages.length c, .slice a' f.wear.length c', .int .i64 f.fuse, .string f.torn, .bool f.dead] 25)).alloc (.cells #[.slice none 0 0, .slice none 0 0, .int .i64 0, .string { data := #[] }, .bool false] 25) = W2 at *
  refine (Try.slices_Clone_string b off f.pages.length c f.pages W2 (Nat.le_refl _) (by omega) (fun j hj => cell_ups hu2 (hp' j hj))).mono ?_
  rintro e W3 ⟨v', rfl, hown, _, hbel⟩
  rw [List.take_length] at hown
  obtain ⟨g, cap, rfl, hg, ⟨x, hx⟩, hfz, hset⟩ := own_store hown page hp0 (.string s)
  have hj0 := hbel.block w.heap.size (by omega)
  have hj1 := hbel.block (w.heap.size + 1) (by omega)
  rw [hk0] at hj0
  rw [hk1] at hj1
  have hu3 : Ups w W3 := Ups.trans hu2 hbel
  have c0 : W3.cell? ⟨w.heap.size, 0, none⟩ = some (.slice (some ⟨b, off, none⟩) f.pages.length c) := by rw [cell_of hj0]; rfl
  have c1 : W3.cell? ⟨w.heap.size, 1, none⟩ = some (.slice a' f.wear.length c') := by rw [cell_of hj0]; rfl
  have c2 : W3.cell? ⟨w.heap.size, 2, none⟩ = some (.int .i64 f.fuse) := by rw [cell_of hj0]; rfl
  have c3 : W3.cell? ⟨w.heap.size, 3, none⟩ = some (.string f.torn) := by rw [cell_of hj0]; rfl
  have c4 : W3.cell? ⟨w.heap.size, 4, none⟩ = some (.bool f.dead) := by rw [cell_of hj0]; rfl
  have z0 : W3.frozen? ⟨w.heap.size, 0, none⟩ = false := by unfold World.frozen?; rw [hj0]; simp
  have d0 : W3.cell? ⟨w.heap.size + 1, 0, none⟩ = some (.slice none 0 0) := by rw [cell_of hj1]; rfl
  have y0 : W3.frozen? ⟨w.heap.size + 1, 0, none⟩ = false := by unfold World.frozen?; rw [hj1]; simp
  have d1 : W3.cell? ⟨w.heap.size + 1, 1, none⟩ = some (.slice none 0 0) := by rw [cell_of hj1]; rfl
  have y1 : W3.frozen? ⟨w.heap.size + 1, 1, none⟩ = false := by unfold World.frozen?; rw [hj1]; simp
  have d2 : W3.cell? ⟨w.heap.size + 1, 2, none⟩ = some (.int .i64 0) := by rw [cell_of hj1]; rfl
  have y2 : W3.frozen? ⟨w.heap.size + 1, 2, none⟩ = false := by unfold World.frozen?; rw [hj1]; simp
  have d3 : W3.cell? ⟨w.heap.size + 1, 3, none⟩ = some (.string { data := #[] }) := by rw [cell_of hj1]; rfl
  have y3 : W3.frozen? ⟨w.heap.size + 1, 3, none⟩ = false := by unfold World.frozen?; rw [hj1]; simp
  have d4 : W3.cell? ⟨w.heap.size + 1, 4, none⟩ = some (.bool false) := by rw [cell_of hj1]; rfl
  have y4 : W3.frozen? ⟨w.heap.size + 1, 4, none⟩ = false := by unfold World.frozen?; rw [hj1]; simp
  have n3 : ¬ g = w.heap.size + 1 := by omega
  have n4 : ¬ w.heap.size + 1 = g := by omega
  have hgw : w.heap.size ≤ g := by omega
  have n1 : ¬ g = w.heap.size := by omega
  have n2 : ¬ w.heap.size = g := by omega
  have ip : (page : Int) < f.pages.length := by omega
  have HS := Lib.hid hset
  have HO := Lib.hid hown
  clear hset hown hj0 hj1 hk0 hk1 hp hp' hbel hz2 hg
  go_wp2_with fail
  have hown := HO.out
  have hta := texts_of_own rfl hown
  obtain ⟨_, _, e0, hcs⟩ := hta
  cases e0
  obtain ⟨_, _, e1, hcs⟩ := hcs (by omega)
  cases e1
  have hu : Ups w (((((((W3.setCell ⟨w.heap.size, 0, none⟩ (.slice (some ⟨g, 0, none⟩) f.pages.length cap)).setCell ⟨g, page, none⟩ (.string s)).setCell ⟨w.heap.size + 1, 0, none⟩ (.slice (some ⟨g, 0, none⟩) f.pages.length cap)).setCell ⟨w.heap.size + 1, 1, none⟩ (.slice a' f.wear.length c')).setCell ⟨w.heap.size + 1, 2, none⟩ (.int .i64 f.fuse)).setCell ⟨w.heap.size + 1, 3, none⟩ (.string f.torn)).setCell ⟨w.heap.size + 1, 4, none⟩ (.bool f.dead)) :=
    ((((((Below.setCell hu3 (Nat.le_refl _) _).setCell hgw _).setCell (Nat.le_succ _) _).setCell (Nat.le_succ _) _).setCell (Nat.le_succ _) _).setCell (Nat.le_succ _) _).setCell (Nat.le_succ _) _
  refine bodyPost_ret (v := .agg #[.slice (some ⟨g, 0, none⟩) f.pages.length cap, .slice a' f.wear.length c', .int .i64 f.fuse, .string f.torn, .bool f.dead]) ?_ rfl ⟨_, rfl, ⟨⟨_, _, rfl, ?_, HQ.out.ups hu⟩, hu, fun B hB ho => FlOff.mk (RowOff.fresh (by omega)) ho.snd⟩⟩
  · simp [results, Try.results49, go_sem, d0, d1, d2, d3, d4]
  · refine ⟨_, cap, by rw [List.length_set], fun _ => ⟨g, 0, rfl, fun j hj => ?_⟩⟩
    rw [List.length_set] at hj
    have hcj := hcs j hj
    rw [Nat.zero_add] at hcj ⊢
    have ne : ∀ (i : Nat) (B : Nat), ¬ g = B → (⟨B, i, none⟩ : Addr) ≠ ⟨g, j, none⟩ := fun i B hB e => hB (by have := congrArg Addr.block e; exact this.symm)
    rw [World.cell?_setCell_other _ _ _ _ (ne _ _ n3), World.cell?_setCell_other _ _ _ _ (ne _ _ n3), World.cell?_setCell_other _ _ _ _ (ne _ _ n3), World.cell?_setCell_other _ _ _ _ (ne _ _ n3), World.cell?_setCell_other _ _ _ _ (ne _ _ n3)]
    by_cases hjp : j = page
    · subst hjp
      have hx' : (W3.setCell ⟨w.heap.size, 0, none⟩ (.slice (some ⟨g, 0, none⟩) f.pages.length cap)).cell? ⟨g, j, none⟩ = some x := by
        rw [World.cell?_setCell_other _ _ _ _ (ne _ _ n1)]
        exact hx
      rw [World.cell?_setCell_same _ _ _ hx']
      simp [hj]
    · rw [World.cell?_setCell_other _ _ _ _ (fun e => hjp (by have := congrArg Addr.off e; exact this.symm)), World.cell?_setCell_other _ _ _ _ (ne _ _ n1), hcj]
      have : ¬ page = j := fun e => hjp e.symm
      simp [List.getD_eq_getElem?_getD, this]

end Go.Proofs.Ytjpapjijlbfemaa
