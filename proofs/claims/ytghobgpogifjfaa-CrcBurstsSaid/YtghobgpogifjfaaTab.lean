/- The table of package crc: filled once; a step by it. -/
import Derived.Test.YtghobgpogifjfaaOnce
import Derived.Test.YtghobgpogifjfaaCrcPlain
import Derived.Laws.BitsAllLaws
import Derived.WalkSpells
import Derived.Outline
namespace Go.Proofs.Ytghobgpogifjfaa
open Go.RowKit

/-- The table's cells: done, the lock's two words, the rows. -/
def tabCells (d s : Int) (rows : List Int) : Array Value := (.int .u32 d :: .int .i32 s :: .int .u32 0 :: rows.map (Value.int .u32)).toArray
def tabObj (d s : Int) (rows : List Int) : Obj := .cells (tabCells d s rows) 69 (0, 0)

theorem tab_set0 (d d' s : Int) (rows : List Int) : (tabCells d s rows).setIfInBounds 0 (.int .u32 d') = tabCells d' s rows := by simp [tabCells]
theorem tab_set1 (d s s' : Int) (rows : List Int) : (tabCells d s rows).setIfInBounds 1 (.int .i32 s') = tabCells d s' rows := by simp [tabCells]
theorem tab_setRow (d s : Int) (rows : List Int) (i : Nat) (v : Int) : (tabCells d s rows).setIfInBounds (3 + i) (.int .u32 v) = tabCells d s (rows.set i v) := by
  unfold tabCells
  rw [List.setIfInBounds_toArray]
  have : 3 + i = i + 1 + 1 + 1 := by omega
  rw [this]
  simp [List.map_set]
theorem tab_get0 (d s : Int) (rows : List Int) : (tabCells d s rows)[0]? = some (.int .u32 d) := by simp [tabCells]
theorem tab_get1 (d s : Int) (rows : List Int) : (tabCells d s rows)[1]? = some (.int .i32 s) := by simp [tabCells]
theorem tab_getRow (d s : Int) (rows : List Int) (i : Nat) (h : i < rows.length) : (tabCells d s rows)[3 + i]? = some (.int .u32 rows[i]) := by
  unfold tabCells
  have : 3 + i = i + 1 + 1 + 1 := by omega
  rw [List.getElem?_toArray, this]
  simp [h]

/-- The table, as a call that laid it knows it: block B of the world W, in a world that is w but for it. -/
structure Tab (w W : World) (d s : Int) (rows : List Int) : Prop where
  own : Own w [tabObj d s rows] W
  len : rows.length = 16

section
variable {w W : World} {d s : Int} {rows : List Int}
theorem Tab.at0 (h : Tab w W d s rows) : W.cell? ⟨w.heap.size, 0, none⟩ = some (.int .u32 d) := h.own.cell _ 0 0 rfl rfl (tab_get0 _ _ _)
theorem Tab.at1 (h : Tab w W d s rows) : W.cell? ⟨w.heap.size, 1, none⟩ = some (.int .i32 s) := h.own.cell _ 0 1 rfl rfl (tab_get1 _ _ _)
theorem Tab.atRow (h : Tab w W d s rows) (i : Nat) (hi : i < rows.length) : W.cell? ⟨w.heap.size, 3 + i, none⟩ = some (.int .u32 rows[i]) := h.own.cell _ 0 _ rfl rfl (tab_getRow _ _ _ _ hi)
theorem Tab.frozen (h : Tab w W d s rows) (j : Nat) : W.frozen? ⟨w.heap.size, j, none⟩ = false := h.own.frozen _ 0 j rfl rfl
theorem Tab.drew (h : Tab w W d s rows) : Tab w W.drew d s rows := ⟨h.own.drew, h.len⟩
theorem Tab.set0 (h : Tab w W d s rows) (d' : Int) : Tab w (W.setCell ⟨w.heap.size, 0, none⟩ (.int .u32 d')) d' s rows := by
  refine ⟨?_, h.len⟩
  have := h.own.set 0 0 rfl (.int .u32 d') (B := w.heap.size) rfl
  rw [tab_set0] at this
  exact this
theorem Tab.set1 (h : Tab w W d s rows) (s' : Int) : Tab w (W.setCell ⟨w.heap.size, 1, none⟩ (.int .i32 s')) d s' rows := by
  refine ⟨?_, h.len⟩
  have := h.own.set 0 1 rfl (.int .i32 s') (B := w.heap.size) rfl
  rw [tab_set1] at this
  exact this
theorem Tab.setRow (h : Tab w W d s rows) (i : Nat) (v : Int) : Tab w (W.setCell ⟨w.heap.size, 3 + i, none⟩ (.int .u32 v)) d s (rows.set i v) := by
  refine ⟨?_, by rw [List.length_set]; exact h.len⟩
  have := h.own.set 0 (3 + i) rfl (.int .u32 v) (B := w.heap.size) rfl
  rw [tab_setRow] at this
  exact this
end

/-- The first k rows are told, the rest are as they were. -/
def rowsTo (k : Nat) : List Int := (List.range 16).map fun i => if i < k then ((Oc.Sk 4 i : Nat) : Int) else 0
theorem rowsTo_length (k : Nat) : (rowsTo k).length = 16 := by simp [rowsTo]
theorem rowsTo_set (k : Nat) : (rowsTo k).set k ((Oc.Sk 4 k : Nat) : Int) = rowsTo (k + 1) := by
  apply List.ext_getElem (by simp [rowsTo])
  intro i h1 h2
  rw [List.getElem_set]
  simp only [rowsTo, List.getElem_map, List.getElem_range]
  split
  · rename_i e
    subst e
    rw [if_pos (by omega)]
  · rename_i e
    by_cases hi : i < k
    · rw [if_pos hi, if_pos (by omega)]
    · rw [if_neg hi, if_neg (by omega)]

end Go.Proofs.Ytghobgpogifjfaa
