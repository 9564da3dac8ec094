/- The flash's memory: where its rows do not lie, and a store of a whole flash into a block. -/
import Derived.Test.YtjpapjijlbfemaaFlHas
namespace Go.Proofs.Ytjpapjijlbfemaa
open Go.RowKit

theorem lt_of_cell {W : World} {p : Addr} {v : Value} (h : W.cell? p = some v) : p.block < W.heap.size := by
  rcases Nat.lt_or_ge p.block W.heap.size with hl | hg
  · exact hl
  · exfalso
    unfold World.cell? at h
    rw [Array.getElem?_eq_none hg] at h
    simp at h

/-- The slice's row does not lie in block B. -/
def RowOff (B : Nat) (v : Value) : Prop := ∀ b off n c, v = .slice (some ⟨b, off, none⟩) n c → 0 < n → b ≠ B
/-- No row of the flash lies in block B. -/
def FlOff (B : Nat) (v : Value) : Prop := ∀ p q x y z, v = .agg #[p, q, x, y, z] → RowOff B p ∧ RowOff B q

theorem FlOff.mk {B : Nat} {p q x y z : Value} (hp : RowOff B p) (hq : RowOff B q) : FlOff B (.agg #[p, q, x, y, z]) := by
  intro p' q' x' y' z' e
  simp only [Value.agg.injEq, Array.mk.injEq, List.cons.injEq, and_true] at e
  obtain ⟨rfl, rfl, _⟩ := e
  exact ⟨hp, hq⟩
theorem FlOff.fst {B : Nat} {p q x y z : Value} (h : FlOff B (.agg #[p, q, x, y, z])) : RowOff B p := (h p q x y z rfl).1
theorem FlOff.snd {B : Nat} {p q x y z : Value} (h : FlOff B (.agg #[p, q, x, y, z])) : RowOff B q := (h p q x y z rfl).2
theorem RowOff.fresh {B g off n c : Nat} (h : g ≠ B) : RowOff B (.slice (some ⟨g, off, none⟩) n c) := by
  intro b off n c e _
  simp only [Value.slice.injEq, Option.some.injEq, Addr.mk.injEq] at e
  obtain ⟨⟨rfl, _⟩, _⟩ := e
  exact h
theorem RowOff.none {B n c : Nat} : RowOff B (.slice none n c) := by
  intro b off n c e _
  simp at e

/-- What lies in the memory that was there does not lie in what is new. -/
theorem TextsAt.off {W : World} {v : Value} {l : List ByteArray} (h : TextsAt W v l) {B : Nat} (hB : W.heap.size ≤ B) : RowOff B v := by
  obtain ⟨a, c, rfl, hc⟩ := h
  intro b off n c' e h0
  simp only [Value.slice.injEq] at e
  obtain ⟨rfl, rfl, _⟩ := e
  obtain ⟨b', off', e, hj⟩ := hc h0
  simp only [Option.some.injEq, Addr.mk.injEq] at e
  obtain ⟨rfl, rfl, _⟩ := e
  have := lt_of_cell (hj 0 h0)
  simp only at this
  omega
theorem IntsAt.off {W : World} {v : Value} {l : List Int} (h : IntsAt W v l) {B : Nat} (hB : W.heap.size ≤ B) : RowOff B v := by
  obtain ⟨a, c, rfl, hc⟩ := h
  intro b off n c' e h0
  simp only [Value.slice.injEq] at e
  obtain ⟨rfl, rfl, _⟩ := e
  obtain ⟨b', off', e, hj⟩ := hc h0
  simp only [Option.some.injEq, Addr.mk.injEq] at e
  obtain ⟨rfl, rfl, _⟩ := e
  have := lt_of_cell (hj 0 h0)
  simp only at this
  omega
theorem FlAt.off {W : World} {v : Value} {f : Fl} (h : FlAt W v f) {B : Nat} (hB : W.heap.size ≤ B) : FlOff B v := by
  obtain ⟨p, q, rfl, h1, h2⟩ := h
  exact FlOff.mk (h1.off hB) (h2.off hB)

/-- Worlds that are one but for block B. -/
structure But (B : Nat) (A A' : World) : Prop where
  os : A'.os = A.os
  tape : A'.tape = A.tape
  output : A'.output = A.output
  size : A'.heap.size = A.heap.size
  block : ∀ k, k ≠ B → A'.heap[k]? = A.heap[k]?
theorem But.refl (B : Nat) (A : World) : But B A A := ⟨rfl, rfl, rfl, rfl, fun _ _ => rfl⟩
theorem But.set {B : Nat} {A A' : World} (h : But B A A') (j : Nat) (v : Value) : But B A (A'.setCell ⟨B, j, none⟩ v) := by
  refine ⟨h.os, h.tape, h.output, by simp [World.setCell, h.size], fun k hk => ?_⟩
  rw [← h.block k hk]
  simp only [World.setCell, Array.getElem?_modify]
  rw [if_neg (fun e => hk e.symm)]
theorem But.cell {B : Nat} {A A' : World} (h : But B A A') {b off : Nat} (hb : b ≠ B) : A'.cell? ⟨b, off, none⟩ = A.cell? ⟨b, off, none⟩ := by
  unfold World.cell?
  rw [h.block b hb]
theorem But.below {B n : Nat} {w A A' : World} (h : But B A A') (hw : Below n w A) (hn : n ≤ B) : Below n w A' :=
  ⟨h.os.trans hw.os, h.tape.trans hw.tape, h.output.trans hw.output, by rw [h.size]; exact hw.size, fun k hk => (h.block k (by omega)).trans (hw.block k hk)⟩

theorem TextsAt.but {W W' : World} {v : Value} {l : List ByteArray} {B : Nat} (h : TextsAt W v l) (hb : But B W W') (ho : RowOff B v) : TextsAt W' v l := by
  obtain ⟨a, c, rfl, hc⟩ := h
  refine ⟨a, c, rfl, fun h0 => ?_⟩
  obtain ⟨b, off, rfl, hj⟩ := hc h0
  exact ⟨b, off, rfl, fun j hlt => (hb.cell (ho b off _ c rfl h0)).trans (hj j hlt)⟩
theorem IntsAt.but {W W' : World} {v : Value} {l : List Int} {B : Nat} (h : IntsAt W v l) (hb : But B W W') (ho : RowOff B v) : IntsAt W' v l := by
  obtain ⟨a, c, rfl, hc⟩ := h
  refine ⟨a, c, rfl, fun h0 => ?_⟩
  obtain ⟨b, off, rfl, hj⟩ := hc h0
  exact ⟨b, off, rfl, fun j hlt => (hb.cell (ho b off _ c rfl h0)).trans (hj j hlt)⟩
theorem FlAt.but {W W' : World} {v : Value} {f : Fl} {B : Nat} (h : FlAt W v f) (hb : But B W W') (ho : FlOff B v) : FlAt W' v f := by
  obtain ⟨p, q, rfl, h1, h2⟩ := h
  exact ⟨p, q, rfl, h1.but hb ho.fst, h2.but hb ho.snd⟩

/-- A whole flash stored. -/
def put5 (W : World) (B : Nat) (p q x y z : Value) : World := ((((W.setCell ⟨B, 0, none⟩ p).setCell ⟨B, 1, none⟩ q).setCell ⟨B, 2, none⟩ x).setCell ⟨B, 3, none⟩ y).setCell ⟨B, 4, none⟩ z
theorem put5_but (W : World) (B : Nat) (p q x y z : Value) : But B W (put5 W B p q x y z) := (((((But.refl B W).set 0 p).set 1 q).set 2 x).set 3 y).set 4 z
theorem setCell_block {W : World} {B j : Nat} {v : Value} {cs : Array Value} {t : TypeId} {fr : Nat × Nat} (h : W.heap[B]? = some (.cells cs t fr)) : (W.setCell ⟨B, j, none⟩ v).heap[B]? = some (.cells (cs.setIfInBounds j v) t fr) := by
  simp [World.setCell, Array.getElem?_modify, h]
theorem put5_block {W : World} {B : Nat} {p q x y z c0 c1 c2 c3 c4 : Value} {t : TypeId} {fr : Nat × Nat} (h : W.heap[B]? = some (.cells #[c0, c1, c2, c3, c4] t fr)) : (put5 W B p q x y z).heap[B]? = some (.cells #[p, q, x, y, z] t fr) :=
  setCell_block (setCell_block (setCell_block (setCell_block (setCell_block h))))

/-- What a function on a flash hands back: it reads so, and its rows are the old ones, or new ones. -/
structure FlNew (w : World) (v : Value) (W' : World) (v' : Value) (f' : Fl) : Prop where
  reads : FlAt W' v' f'
  ups : Ups w W'
  off : ∀ B, B < w.heap.size → FlOff B v → FlOff B v'
theorem FlNew.same {w W' : World} {v : Value} {f : Fl} (h : FlAt w v f) (hu : Ups w W') : FlNew w v W' v f := ⟨h.ups hu, hu, fun _ _ h => h⟩

/-- Cells of a block, one by one. -/
theorem block_cells {W : World} {B : Nat} {c0 c1 c2 c3 c4 : Value} {t : TypeId} (h : W.heap[B]? = some (.cells #[c0, c1, c2, c3, c4] t (0, 0))) :
    W.cell? ⟨B, 0, none⟩ = some c0 ∧ W.cell? ⟨B, 1, none⟩ = some c1 ∧ W.cell? ⟨B, 2, none⟩ = some c2 ∧ W.cell? ⟨B, 3, none⟩ = some c3 ∧ W.cell? ⟨B, 4, none⟩ = some c4 := by
  refine ⟨?_, ?_, ?_, ?_, ?_⟩ <;> (unfold World.cell?; rw [h]; rfl)
theorem block_frozen {W : World} {B : Nat} {cs : Array Value} {t : TypeId} (h : W.heap[B]? = some (.cells cs t (0, 0))) (j : Nat) : W.frozen? ⟨B, j, none⟩ = false := by
  unfold World.frozen?
  rw [h]
  simp
theorem block_ups {W W' : World} {B : Nat} {o : Obj} (h : W.heap[B]? = some o) (hu : Ups W W') : W'.heap[B]? = some o := by
  rw [Below.block hu B (Array.getElem?_eq_some_iff.1 h).1]
  exact h

end Go.Proofs.Ytjpapjijlbfemaa
