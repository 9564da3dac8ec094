/- Texts of this proof, one behind the other: Words. -/
import Derived.WalkKit
import Derived.Laws.IdiomStrings
import Derived.Lib.Hide
import Derived.RangeFuncRecord
import Derived.Test.YtmabpnkdagipfaaGreatJ1

/- Words on memory that the walks share: a block of bytes that a call itself laid. -/
namespace Go.Proofs.YtmabpnkdagipfaaGreat
open Go.RowKit

/-- Block g is the bytes l, with room for cap; the mark of a conversion lies at z. -/
def Buf (w : World) (e : TypeId) (g cap z : Nat) (l : List UInt8) : Prop := w.heap[g]? = some (.cells (bytesRow (bs l) cap) e (z, z + 1)) ∧ l.length ≤ z

theorem addr0 (g j : Nat) : (⟨g, 0, none⟩ : Addr).add j = ⟨g, j, none⟩ := by
  unfold Addr.add
  by_cases h : j = 0 <;> simp [h]

section
variable {w : World} {e : TypeId} {g cap z : Nat} {l : List UInt8}
theorem Buf.cell (h : Buf w e g cap z l) (j : Nat) (hj : j < l.length) : w.cell? ⟨g, j, none⟩ = some (.int .u8 (l[j].toNat : Int)) := by
  unfold World.cell?
  rw [h.1]
  exact bytesRow_at (bs l) cap j (by simpa [bs] using hj)
theorem Buf.frozen (h : Buf w e g cap z l) (j : Nat) (hj : j < l.length) : w.frozen? ⟨g, j, none⟩ = false := by
  have := h.2
  unfold World.frozen?
  rw [h.1]
  simp; omega
theorem Buf.drew (h : Buf w e g cap z l) : Buf w.drew e g cap z l := h
theorem Buf.lt (h : Buf w e g cap z l) : g < w.heap.size := (Array.getElem?_eq_some_iff.1 h.1).1
theorem bytesRow_set (l : List UInt8) (cap j : Nat) (hj : j < l.length) (c : UInt8) : (bytesRow (bs l) cap).setIfInBounds j (.int .u8 c.toNat) = bytesRow (bs (l.set j c)) cap := by
  unfold bytesRow
  rw [bs_size, bs_size, List.length_set]
  rw [Array.setIfInBounds_append_left (by simpa [bs] using hj)]
  congr 1
  simp [bs, List.map_set]
theorem Buf.set (h : Buf w e g cap z l) (j : Nat) (hj : j < l.length) (c : UInt8) : Buf (w.setCell ⟨g, j, none⟩ (.int .u8 c.toNat)) e g cap z (l.set j c) := by
  refine ⟨?_, by simpa using h.2⟩
  have h1 := h.1
  simp only [World.setCell, Array.getElem?_modify, h1, if_true, Option.map_some]
  rw [bytesRow_set l cap j hj c]
  simp
theorem Buf.new (w : World) (e : TypeId) (s : ByteArray) (cap : Nat) : Buf (w.alloc (.cells (bytesRow s cap) e ((bytesRow s cap).size, (bytesRow s cap).size + 1))) e w.heap.size cap (bytesRow s cap).size s.data.toList := by
  refine ⟨?_, ?_⟩
  · show (w.heap.push _)[w.heap.size]? = _
    simp [bs]
  · simp [bytesRow]
end

/-- A world that is w, and behind it blocks of a call's own. -/
structure Own (w : World) (os : List Obj) (W : World) : Prop where
  bel : Below w.heap.size w W
  size : W.heap.size = w.heap.size + os.length
  obj : ∀ i o, os[i]? = some o → W.heap[w.heap.size + i]? = some o

section
variable {w W : World} {os : List Obj}
theorem Own.start (w : World) : Own w [] w := ⟨Below.refl _ _, by simp, fun i o h => by simp at h⟩
theorem Own.alloc (h : Own w os W) (o : Obj) : Own w (os ++ [o]) (W.alloc o) := by
  refine ⟨h.bel.alloc (by rw [h.size]; omega) o, by simp [h.size]; omega, fun i o' hi => ?_⟩
  rcases Nat.lt_or_ge i os.length with hlt | hge
  · rw [List.getElem?_append_left hlt] at hi
    exact (Below.heap_alloc W o _ (by rw [h.size]; omega)).trans (h.obj i o' hi)
  · rw [List.getElem?_append_right hge] at hi
    have h0 : i = os.length := by
      rcases Nat.eq_or_lt_of_le hge with e | e
      · exact e.symm
      · rw [List.getElem?_eq_none (by simp; omega)] at hi; cases hi
    subst h0
    simp at hi
    subst hi
    rw [← h.size]
    show (W.heap.push o)[W.heap.size]? = some o
    simp
theorem Own.drew (h : Own w os W) : Own w os W.drew := ⟨h.bel.drew, h.size, h.obj⟩
theorem Own.put {B : Nat} (h : Own w os W) (i : Nat) (hB : B = w.heap.size + i) (o : Obj) (hi : i < os.length) : Own w (os.set i o) (W.putObj B o) := by
  subst hB
  refine ⟨?_, by rw [World.putObj_size, h.size]; simp, fun j o' hj => ?_⟩
  · exact h.bel.grown (row := some (w.heap.size + i)) (by
      refine ⟨rfl, rfl, rfl, by simp, fun k _ hk => ?_⟩
      exact World.putObj_heap_other (fun e => hk (by rw [e]))) (by rw [h.size]; omega) (fun k e => by cases e; omega)
  · rcases Nat.lt_trichotomy i j with hlt | rfl | hlt
    · rw [List.getElem?_set_ne (by omega)] at hj
      exact (World.putObj_heap_other (by omega)).trans (h.obj j o' hj)
    · rw [List.getElem?_set_self hi] at hj
      cases hj
      exact World.putObj_heap_same (by rw [h.size]; omega)
    · rw [List.getElem?_set_ne (by omega)] at hj
      exact (World.putObj_heap_other (by omega)).trans (h.obj j o' hj)
theorem Own.at (h : Own w os W) (B i : Nat) (hB : B = w.heap.size + i) {o : Obj} (hi : os[i]? = some o) : W.heap[B]? = some o := by subst hB; exact h.obj i o hi
theorem Own.cell (h : Own w os W) (B i j : Nat) (hB : B = w.heap.size + i) {cs : Array Value} {t : TypeId} {fr : Nat × Nat} {v : Value} (hi : os[i]? = some (.cells cs t fr)) (hv : cs[j]? = some v) : W.cell? ⟨B, j, none⟩ = some v := by
  unfold World.cell?
  rw [h.at B i hB hi]
  simpa using hv
theorem Own.frozen (h : Own w os W) (B i j : Nat) (hB : B = w.heap.size + i) {cs : Array Value} {t : TypeId} (hi : os[i]? = some (.cells cs t (0, 0))) : W.frozen? ⟨B, j, none⟩ = false := by
  unfold World.frozen?
  rw [h.at B i hB hi]
  simp
theorem Own.set {B : Nat} (h : Own w os W) (i j : Nat) (hB : B = w.heap.size + i) (v : Value) {cs : Array Value} {t : TypeId} {fr : Nat × Nat} (hi : os[i]? = some (.cells cs t fr)) :
    Own w (os.set i (.cells (cs.setIfInBounds j v) t fr)) (W.setCell ⟨B, j, none⟩ v) := by
  have hlen : i < os.length := (List.getElem?_eq_some_iff.1 hi).1
  have hat := h.at B i hB hi
  subst hB
  refine ⟨h.bel.setCell (by simp) v, by simp [World.setCell, h.size], fun k o' hk => ?_⟩
  rcases Nat.lt_trichotomy i k with hlt | rfl | hlt
  · rw [List.getElem?_set_ne (by omega)] at hk
    exact (Below.heap_setCell W _ v _ (by simp; omega)).trans (h.obj k o' hk)
  · rw [List.getElem?_set_self hlen] at hk
    cases hk
    simp [World.setCell, Array.getElem?_modify, hat]
  · rw [List.getElem?_set_ne (by omega)] at hk
    exact (Below.heap_setCell W _ v _ (by simp; omega)).trans (h.obj k o' hk)
end

end Go.Proofs.YtmabpnkdagipfaaGreat
