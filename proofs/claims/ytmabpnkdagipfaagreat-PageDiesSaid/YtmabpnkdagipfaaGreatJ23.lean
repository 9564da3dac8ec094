/- Texts of this proof, one behind the other: Bytes. -/
import Derived.Deep.OwnRows
import Derived.Test.YtmabpnkdagipfaaGreatProg
import Derived.WalkSpells
import Derived.KernelRfl
import Derived.Test.YtmabpnkdagipfaaGreatJ1
import Derived.Test.YtmabpnkdagipfaaGreatJ2
import Derived.Test.YtmabpnkdagipfaaGreatJ22

/- A byte slice that a region builds, and reads as a text. -/
namespace Go.Proofs.YtmabpnkdagipfaaGreat
open Go.RowKit

theorem info_b8 : (Tryz.prog.info? 5).map (fun i => (i.zero, i.size, i.bytes)) = some (some (.int .u8 0), 1, 1) := by kernel_rfl

/-- The cells of a row of bytes. -/
def cellsB (l : List UInt8) : Array Value := (l.map fun c => Value.int .u8 c.toNat).toArray
theorem cellsB_made (k : Nat) : madeCells #[.int .u8 0] k = cellsB (List.replicate k 0) := by
  apply Array.ext'
  rw [toList_madeCells_one]
  simp [cellsB]
theorem cellsB_get (l : List UInt8) (k : Nat) (h : k < l.length) : (cellsB l)[k]? = some (.int .u8 l[k].toNat) := by
  simp [cellsB, h]

/-- A byte slice just built, and read as a text. -/
theorem parts_conv {a : Act} {t : Nat} {v : Value} {W : World} {l : List UInt8} {o : Oper} (h : a.tmps[t]? = some v) (hv : slV l v W) (ho : o.op = .convert 80 9 (.tmp t)) :
    growUpon Tryz.prog Ups (isV (.string (bs l))) W ((execOp a.eval o).run Tryz.prog W) := by
  obtain ⟨b, rfl, _, hc⟩ := hv
  have := run_convert_bytes_back (P := Tryz.prog) W 80 9 5 ⟨b, 0, none⟩ l.length l Tryz.underlying80 Tryz.underlying5 Tryz.underlying9 (fun j hj => by
    rw [addr0]
    exact hc j hj)
  refine parts_value ?_
  simp [execOp, ho, eval_tmp h, this]
  rfl

theorem parts_lit {ev : Operand → Value} {W : World} {l : List UInt8} {o : Oper} (h : (execOp ev o).run Tryz.prog W = .ok (.value (.slice (some ⟨W.heap.size, 0, none⟩) l.length l.length)) (W.alloc (.cells (cellsB l) 5))) :
    growUpon Tryz.prog Ups (slV l) W ((execOp ev o).run Tryz.prog W) := by
  rw [h]
  refine ⟨⟨_, rfl, by simp, fun j hj => ?_⟩, (Below.refl _ _).alloc (Nat.le_refl _) _⟩
  rw [World.cell?_alloc_mark]
  exact cellsB_get l j hj

theorem parts_make (k : Nat) (hk : k ≤ 10000) {ev : Operand → Value} {W : World} {o : Oper} {x y : Operand} (ho : o.op = .makeSlice 80 x y) (hx : ev x = .int .i64 k) (hy : ev y = .int .i64 k) :
    growUpon Tryz.prog Ups (slV (List.replicate k 0)) W ((execOp ev o).run Tryz.prog W) := by
  have hmk := run_make_row' (P := Tryz.prog) 80 5 (.int .u8 0) 1 Tryz.underlying80 info_b8 rfl .i64 .i64 k (by omega) (by omega)
  refine parts_lit ?_
  simp [execOp, ho, hx, hy, hmk, cellsB_made]
  try rfl

/-- 'string(make([]byte, k))', read behind the making. -/
theorem zeros_text (k : Nat) (W : World) (B : Nat) (hB : B = W.heap.size) :
    (convert 80 9 (.slice (some ⟨B, 0, none⟩) k k)).run Tryz.prog (W.alloc (.cells (madeCells #[.int .u8 0] k) 5)) = .ok (.string (zerosT k)) (W.alloc (.cells (madeCells #[.int .u8 0] k) 5)) := by
  subst hB
  have := run_convert_bytes_back (P := Tryz.prog) (W.alloc (.cells (madeCells #[.int .u8 0] k) 5)) 80 9 5 ⟨W.heap.size, 0, none⟩ k (List.replicate k 0) Tryz.underlying80 Tryz.underlying5 Tryz.underlying9 (fun j hj => by
    rw [addr0, World.cell?_alloc_mark, cellsB_made]
    exact cellsB_get _ j hj)
  rw [List.length_replicate] at this
  exact this

end Go.Proofs.YtmabpnkdagipfaaGreat
