/- Texts of this proof, one behind the other: FlOpen. -/
import Derived.Deep.Strs
import Derived.ChangeSlices
import Derived.Carry
import Derived.KernelRfl
import Derived.Test.YtmabpnkdagipfaaGreatJ26

/- A flash that was handed in, opened: how it reads. -/
namespace Go.Proofs.YtmabpnkdagipfaaGreat
open Go.RowKit Go.ChangeShapes Go.WideShapes Go.Deep

theorem fl_cells : Tryz.prog.cellsOf 31 = 5 := by kernel_rfl
theorem fl_cells1 : Tryz.prog.cellsOf 26 = 1 := by kernel_rfl
theorem fl_cells2 : Tryz.prog.cellsOf 29 = 1 := by kernel_rfl
theorem fl_cells3 : Tryz.prog.cellsOf 3 = 1 := by kernel_rfl
theorem fl_cells4 : Tryz.prog.cellsOf 9 = 1 := by kernel_rfl
theorem fl_cells5 : Tryz.prog.cellsOf 4 = 1 := by kernel_rfl
theorem list5 {α : Type} (l : List α) (h : l.length = 5) : ∃ a b c d e, l = [a, b, c, d, e] := by
  match l, h with
  | [a, b, c, d, e], _ => exact ⟨a, b, c, d, e, rfl⟩
theorem addr_spot {w : World} {a : Addr} {v : Value} (h : w.cell? (a.add 0) = some v) : ∃ b off, a = ⟨b, off, none⟩ := by
  obtain ⟨b, off, spot⟩ := a
  have hspot : spot = none := by simpa [Addr.add] using World.cell?_spot h
  subst hspot
  exact ⟨b, off, rfl⟩
theorem add_at (b off i : Nat) : (⟨b, off, none⟩ : Addr).add i = ⟨b, off + i, none⟩ := by
  unfold Addr.add
  split
  · rename_i h
    subst h
    rfl
  · rfl
theorem int_fits {k : Int} (h : (Lit.int .i64 k).wf = true) : -9223372036854775808 ≤ k ∧ k ≤ 9223372036854775807 := by
  have e1 : IntKind.i64.min = -9223372036854775808 := by decide
  have e2 : IntKind.i64.max = 9223372036854775807 := by decide
  simpa only [Lit.wf, Bool.and_eq_true, decide_eq_true_eq, e1, e2] using h

section
variable {H : Type} {enc : TypeId × Value → H} {w : World} {base : Nat} {spare : Nat → Bool} {held : Bool}

theorem texts_of {fuel : Nat} {c : Value} {x : DataW H × List MemPlace} (h : DataW.trod enc Tryz.prog w base spare held fuel 26 [c] = some x) :
    ∃ l : List ByteArray, TextsAt w c l ∧ l.length ≤ 9223372036854775807 := by
  rcases open_strs Tryz.underlying26 Tryz.underlying9 fl_cells4 h with ⟨e, _⟩ | ⟨a, len, cap, m, S, e, _, hl, hm, hmm, _, hi⟩
  · obtain rfl := (List.cons.inj e).1
    exact ⟨[], ⟨none, 0, rfl, fun h => absurd h (Nat.lt_irrefl 0)⟩, by simp⟩
  · obtain rfl := (List.cons.inj e).1
    have hlm : len ≤ m := by rw [hmm]; split <;> omega
    have hmax : maxLen = 9223372036854775807 := by decide
    refine ⟨(List.range len).map S, ⟨some a, cap, by simp, fun h0 => ?_⟩, by simp; omega⟩
    simp at h0
    obtain ⟨b, off, rfl⟩ := addr_spot (hi 0 (by omega)).1
    refine ⟨b, off, rfl, fun j hj => ?_⟩
    simp at hj
    have := (hi j (by omega)).1
    rw [add_at] at this
    rw [this]
    simp [hj]
theorem ints_of {fuel : Nat} {c : Value} {x : DataW H × List MemPlace} (h : DataW.trod enc Tryz.prog w base spare held fuel 29 [c] = some x) :
    ∃ l : List Int, IntsAt w c l ∧ l.length ≤ 9223372036854775807 := by
  rcases open_ints Tryz.underlying29 Tryz.underlying3 fl_cells3 h with ⟨e, _⟩ | ⟨a, len, cap, zs, e, _, hl, hm, hz, _, hi, _⟩
  · obtain rfl := (List.cons.inj e).1
    exact ⟨[], ⟨none, 0, rfl, fun h => absurd h (Nat.lt_irrefl 0)⟩, by simp⟩
  · obtain rfl := (List.cons.inj e).1
    have hlm : len ≤ zs.length := by rw [hz]; split <;> omega
    have hmax : maxLen = 9223372036854775807 := by decide
    have hlen : (zs.take len).length = len := by rw [List.length_take]; omega
    refine ⟨zs.take len, ⟨some a, cap, by rw [hlen], fun h0 => ?_⟩, by omega⟩
    rw [hlen] at h0
    obtain ⟨b, off, rfl⟩ := addr_spot (hi 0 (by omega))
    refine ⟨b, off, rfl, fun j hj => ?_⟩
    rw [hlen] at hj
    have := hi j (by omega)
    rw [add_at] at this
    rw [this]
    simp [List.getD, List.getElem?_take, hj]

theorem fl_of {fuel : Nat} {cs : List Value} {x : DataW H × List MemPlace} (h : DataW.trod enc Tryz.prog w base spare held fuel 31 cs = some x) :
    ∃ f : Fl, FlAt w (.agg cs.toArray) f ∧ FlFit f := by
  obtain ⟨xs, n, _, rfl, hl, hx, hf⟩ := DataW.trod_struct Tryz.underlying31 h
  rw [fl_cells] at hl
  obtain ⟨c0, c1, c2, c3, c4, rfl⟩ := list5 cs hl
  obtain ⟨x0, x1, x2, x3, x4, rfl⟩ := list5 xs hx
  have h0 := hf 0 _ rfl
  have h1 := hf 1 _ rfl
  have h2 := hf 2 _ rfl
  have h3 := hf 3 _ rfl
  have h4 := hf 4 _ rfl
  simp [fl_cells1, fl_cells2, fl_cells3, fl_cells4, fl_cells5] at h0 h1 h2 h3 h4
  obtain ⟨pages, hp, hp'⟩ := texts_of h0
  obtain ⟨wear, hq, hq'⟩ := ints_of h1
  obtain ⟨fuse, e2, _, w2⟩ := DataW.trod_int Tryz.underlying3 h2
  obtain ⟨torn, e3, _, w3⟩ := DataW.trod_string Tryz.underlying9 h3
  obtain ⟨dead, e4, _⟩ := DataW.trod_bool Tryz.underlying4 h4
  obtain rfl := (List.cons.inj e2).1
  obtain rfl := (List.cons.inj e3).1
  obtain rfl := (List.cons.inj e4).1
  exact ⟨⟨pages, wear, fuse, torn, dead⟩, ⟨_, _, rfl, hp, hq⟩, hp', hq', (int_fits w2).1, (int_fits w2).2⟩
end
end Go.Proofs.YtmabpnkdagipfaaGreat
