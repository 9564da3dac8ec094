/- A text of zeros with four bytes behind it, built in a drawn region: its parts. -/
import Derived.Test.YtghobgpogifjfaaMixed
import Derived.Test.YtghobgpogifjfaaLaw2b
import Derived.ChangeKeysEq
namespace Go.Proofs.Ytghobgpogifjfaa
open Go.RowKit
set_option linter.unusedSimpArgs false

/-- A byte slice just built, and read as a text. -/
theorem arr_conv {a : Act} {t b : Nat} {v : Value} {W : World} {l : List UInt8} {o : Oper} (h : a.tmps[t]? = some v) (he : v = .slice (some ⟨b, 0, none⟩) l.length l.length)
    (hc : ∀ j (h : j < l.length), W.cell? ⟨b, j, none⟩ = some (.int .u8 ((l[j]).toNat : Int))) (ho : o.op = .convert 35 9 (.tmp t)) :
    (execOp a.eval o).run Try.prog W = .ok (.value (.string (bs l))) W := by
  subst he
  have := run_convert_bytes_back (P := Try.prog) W 35 9 5 ⟨b, 0, none⟩ l.length l Try.underlying35 Try.underlying5 Try.underlying9 (fun j hj => by
    rw [addr0]
    exact hc j hj)
  simp [execOp, ho, eval_tmp h, this]
  rfl

theorem arr_lit {ev : Operand → Value} {W : World} {l : List UInt8} {o : Oper} (h : (execOp ev o).run Try.prog W = .ok (.value (.slice (some ⟨W.heap.size, 0, none⟩) l.length l.length)) (W.alloc (.cells (encA l) 5))) :
    growUpon Try.prog Ups (Kind.sl l).holds W ((execOp ev o).run Try.prog W) := by
  rw [h]
  refine ⟨⟨_, rfl, by simp, fun j hj => ?_⟩, (Below.refl _ _).alloc (Nat.le_refl _) _⟩
  rw [World.cell?_alloc_mark]
  exact encA_get l j hj

theorem arr_make (k : Nat) (hk : k ≤ 1000) {ev : Operand → Value} {W : World} {o : Oper} {x y : Operand} (ho : o.op = .makeSlice 35 x y) (hx : ev x = .int .i64 k) (hy : ev y = .int .i64 k) :
    growUpon Try.prog Ups (Kind.sl (List.replicate k 0)).holds W ((execOp ev o).run Try.prog W) := by
  have hmk := run_make_row' (P := Try.prog) 35 5 (.int .u8 0) 1 Try.underlying35 info_byte rfl .i64 .i64 k (by omega) (by omega)
  refine arr_lit ?_
  simp [execOp, ho, hx, hy, hmk, encA_made]
  try rfl

theorem Ups.undrew {A B : World} (h : Ups A.drew B) : Ups A B := ⟨h.os, h.tape, h.output, h.size, h.block⟩

/-- The text that a turn is made by. -/
def turnT (k : Nat) (t0 t1 t2 t3 : UInt8) : ByteArray := bs (List.replicate k 0) ++ bs [t0, t1, t2, t3]
theorem turnT_size (k : Nat) (t0 t1 t2 t3 : UInt8) : (turnT k t0 t1 t2 t3).size = k + 4 := by rw [turnT, app_size, bs_size, bs_size]; simp

/-- The array, as the call laid it. -/
def arrCells (t0 t1 t2 t3 : UInt8) : Array Value := #[.int .u8 t0.toNat, .int .u8 t1.toNat, .int .u8 t2.toNat, .int .u8 t3.toNat]
structure ArrAt (w W : World) (t0 t1 t2 t3 : UInt8) : Prop where
  lt : w.heap.size < W.heap.size
  at' : W.heap[w.heap.size]? = some (.cells (arrCells t0 t1 t2 t3) 33 (0, 0))
theorem ArrAt.ups {w W W' : World} {t0 t1 t2 t3 : UInt8} (h : ArrAt w W t0 t1 t2 t3) (hu : Ups W W') : ArrAt w W' t0 t1 t2 t3 :=
  ⟨Nat.lt_of_lt_of_le h.lt hu.size, by rw [hu.block _ h.lt]; exact h.at'⟩
theorem ArrAt.drew {w W : World} {t0 t1 t2 t3 : UInt8} (h : ArrAt w W t0 t1 t2 t3) : ArrAt w W.drew t0 t1 t2 t3 := ⟨h.lt, h.at'⟩
theorem ArrAt.new (w : World) (t0 t1 t2 t3 : UInt8) : ArrAt w (w.alloc (.cells (arrCells t0 t1 t2 t3) 33 (0, 0))) t0 t1 t2 t3 := ⟨by simp, by show (w.heap.push _)[w.heap.size]? = _; simp⟩
theorem ArrAt.cell {w W : World} {t0 t1 t2 t3 : UInt8} (h : ArrAt w W t0 t1 t2 t3) : W.cell? ⟨w.heap.size, 0, none⟩ = some (.int .u8 t0.toNat) ∧ W.cell? ⟨w.heap.size, 1, none⟩ = some (.int .u8 t1.toNat) ∧ W.cell? ⟨w.heap.size, 2, none⟩ = some (.int .u8 t2.toNat) ∧ W.cell? ⟨w.heap.size, 3, none⟩ = some (.int .u8 t3.toNat) := by
  refine ⟨?_, ?_, ?_, ?_⟩ <;> (unfold World.cell?; rw [h.at']; rfl)

theorem asKinds_is {x : Value} {ks : List Kind} {xs : List Value} (h : asKinds (.is x :: ks) xs) : ∃ vs, xs = x :: vs ∧ asKinds ks vs := by
  cases xs with
  | nil => exact h.elim
  | cons v vs => exact ⟨vs, by rw [h.1], h.2⟩
theorem asKinds_sl {l : List UInt8} {ks : List Kind} {xs : List Value} (h : asKinds (.sl l :: ks) xs) : ∃ v vs, xs = v :: vs ∧ asKinds ks vs := by
  cases xs with
  | nil => exact h.elim
  | cons v vs => exact ⟨v, vs, rfl, h⟩
theorem asKinds_nil {xs : List Value} (h : asKinds [] xs) : xs = [] := by
  cases xs with
  | nil => rfl
  | cons v vs => exact h.elim

/-! ### Plain: what a turn does to a text's register -/
theorem mixL_turn : ∀ (a m : List UInt8), m.length ≤ a.length → mixL xorB a m = Oc.xorL a (m ++ List.replicate (a.length - m.length) 0)
  | [], [], _ => rfl
  | [], _ :: _, h => by simp at h
  | x :: a, [], _ => by
    rw [mixL_nil, List.nil_append]
    exact (Oc.xorL_zeros (x :: a)).symm
  | x :: a, y :: m, h => by
    rw [mixL_cons, mixL_turn a m (by simpa using h)]
    simp [Oc.xorL, xorB]

/-- The turn, as long as the text. -/
theorem turn_long (s : ByteArray) (k : Nat) (t0 t1 t2 t3 : UInt8) (hk : k + 4 ≤ s.size) :
    (tXor s (turnT k t0 t1 t2 t3)).data.toList = Oc.xorL s.data.toList (List.replicate k 0 ++ [t0, t1, t2, t3] ++ List.replicate (s.size - (k + 4)) 0) := by
  have e : (turnT k t0 t1 t2 t3).data.toList = List.replicate k 0 ++ [t0, t1, t2, t3] := by rw [turnT, app_toList, bs_toList, bs_toList]
  have hl : (List.replicate k (0 : UInt8) ++ [t0, t1, t2, t3]).length = k + 4 := by simp
  rw [tXor, bs_toList, e, mixL_turn _ _ (by rw [hl, toList_length]; exact hk), hl, toList_length]

def zeros4 (t0 t1 t2 t3 : UInt8) : Prop := t0 = 0 ∧ t1 = 0 ∧ t2 = 0 ∧ t3 = 0
theorem on_turn (n : Nat) (s : ByteArray) (k : Nat) (t0 t1 t2 t3 : UInt8) (hk : k + 4 ≤ s.size) : Oc.on n (tXor s (turnT k t0 t1 t2 t3)).data.toList = Oc.on n s.data.toList ↔ zeros4 t0 t1 t2 t3 := by
  rw [turn_long s k t0 t1 t2 t3 hk, Oc.on_turned n _ _ (by rw [toList_length]; simp; omega)]
  constructor
  · intro h
    have h0 : Oc.on 0 (List.replicate k 0 ++ [t0, t1, t2, t3] ++ List.replicate (s.size - (k + 4)) 0) = 0 := by
      have : Oc.on n s.data.toList ^^^ Oc.on 0 (List.replicate k 0 ++ [t0, t1, t2, t3] ++ List.replicate (s.size - (k + 4)) 0) = Oc.on n s.data.toList ^^^ 0 := by rw [h, Nat.xor_zero]
      exact Oc.xor_cancel _ _ _ this
    exact Oc.on_burst k _ t0 t1 t2 t3 h0
  · rintro ⟨rfl, rfl, rfl, rfl⟩
    have e : (List.replicate k (0 : UInt8) ++ [0, 0, 0, 0] ++ List.replicate (s.size - (k + 4)) 0) = List.replicate (k + 4 + (s.size - (k + 4))) 0 := by
      rw [show [(0 : UInt8), 0, 0, 0] = List.replicate 4 0 from rfl, List.replicate_append_replicate, List.replicate_append_replicate]
    rw [e, Oc.on_zeros, Nat.xor_zero]
theorem sum_turn (s : ByteArray) (k : Nat) (t0 t1 t2 t3 : UInt8) (hk : k + 4 ≤ s.size) : sumT (tXor s (turnT k t0 t1 t2 t3)) = sumT s ↔ zeros4 t0 t1 t2 t3 := by
  rw [← on_turn Oc.ones32 s k t0 t1 t2 t3 hk]
  unfold sumT Oc.sum
  constructor
  · intro h
    have := congrArg (· ^^^ Oc.ones32) h
    simp only [Nat.xor_assoc, Nat.xor_self, Nat.xor_zero] at this
    exact this
  · intro h
    rw [h]
theorem turn_same (s : ByteArray) (k : Nat) (t0 t1 t2 t3 : UInt8) (hk : k + 4 ≤ s.size) : tXor s (turnT k t0 t1 t2 t3) = s ↔ zeros4 t0 t1 t2 t3 := by
  constructor
  · intro h
    refine (on_turn 0 s k t0 t1 t2 t3 hk).1 ?_
    rw [h]
  · rintro ⟨rfl, rfl, rfl, rfl⟩
    apply text_ext
    rw [turn_long s k 0 0 0 0 hk]
    have e : (List.replicate k (0 : UInt8) ++ [0, 0, 0, 0] ++ List.replicate (s.size - (k + 4)) 0) = List.replicate s.data.toList.length 0 := by
      rw [show [(0 : UInt8), 0, 0, 0] = List.replicate 4 0 from rfl, List.replicate_append_replicate, List.replicate_append_replicate, toList_length]
      congr 1
      omega
    rw [e]
    exact Oc.xorL_zeros _

section
open Go.ChangeShapes Go.ChangeMaps
theorem cells5 : Try.prog.cellsOf 5 = 1 := by kernel_rfl
theorem eql_u8 (d : Nat) (a b : Int) (W : World) : (Op.equalIn (d + 1) 5 (.int .u8 a) (.int .u8 b)).run Try.prog W = .ok (a == b) W := by
  simp [Op.equalIn, run_underlying Try.underlying5]
theorem u8_beq (c : UInt8) : ((c.toNat : Int) == 0) = (c == 0) := by
  rw [Bool.eq_iff_iff, beq_iff_eq, beq_iff_eq]
  constructor
  · intro h
    apply UInt8.toNat_inj.1
    rw [UInt8.toNat_zero]
    omega
  · rintro rfl; rfl
theorem eql_items (d : Nat) (t0 t1 t2 t3 : UInt8) (W : World) : (Op.eqItems (d + 1) 5 1 (arrCells t0 t1 t2 t3) (arrCells 0 0 0 0) [0, 1, 2, 3]).run Try.prog W = .ok (t0 == 0 && t1 == 0 && t2 == 0 && t3 == 0) W := by
  have e : ((0 : UInt8).toNat : Int) = 0 := rfl
  have p : ∀ (t0 t1 t2 t3 : UInt8) (W : World), (part 5 (arrCells t0 t1 t2 t3) 0).run Try.prog W = .ok (.int .u8 t0.toNat) W ∧ (part 5 (arrCells t0 t1 t2 t3) 1).run Try.prog W = .ok (.int .u8 t1.toNat) W ∧ (part 5 (arrCells t0 t1 t2 t3) 2).run Try.prog W = .ok (.int .u8 t2.toNat) W ∧ (part 5 (arrCells t0 t1 t2 t3) 3).run Try.prog W = .ok (.int .u8 t3.toNat) W := by
    intro t0 t1 t2 t3 W
    refine ⟨?_, ?_, ?_, ?_⟩ <;> simp [part, arrCells, go_sem] <;> rfl
  simp only [Op.eqItems, Nat.mul_one, Sem.run_bind, (p _ _ _ _ _).1, (p _ _ _ _ _).2.1, (p _ _ _ _ _).2.2.1, (p _ _ _ _ _).2.2.2, Result.andThen_ok, eql_u8, e, u8_beq, Bool.not_true, Bool.not_false, if_true, if_false, Bool.false_eq_true, Bool.true_and, Bool.false_and, Bool.and_false, Bool.and_true, Sem.run_pure]
  cases t0 == 0
  · simp only [Op.eqItems, Nat.mul_one, Sem.run_bind, (p _ _ _ _ _).1, (p _ _ _ _ _).2.1, (p _ _ _ _ _).2.2.1, (p _ _ _ _ _).2.2.2, Result.andThen_ok, eql_u8, e, u8_beq, Bool.not_true, Bool.not_false, if_true, if_false, Bool.false_eq_true, Bool.true_and, Bool.false_and, Bool.and_false, Bool.and_true, Sem.run_pure]
  simp only [Op.eqItems, Nat.mul_one, Sem.run_bind, (p _ _ _ _ _).1, (p _ _ _ _ _).2.1, (p _ _ _ _ _).2.2.1, (p _ _ _ _ _).2.2.2, Result.andThen_ok, eql_u8, e, u8_beq, Bool.not_true, Bool.not_false, if_true, if_false, Bool.false_eq_true, Bool.true_and, Bool.false_and, Bool.and_false, Bool.and_true, Sem.run_pure]
  cases t1 == 0
  · simp only [Op.eqItems, Nat.mul_one, Sem.run_bind, (p _ _ _ _ _).1, (p _ _ _ _ _).2.1, (p _ _ _ _ _).2.2.1, (p _ _ _ _ _).2.2.2, Result.andThen_ok, eql_u8, e, u8_beq, Bool.not_true, Bool.not_false, if_true, if_false, Bool.false_eq_true, Bool.true_and, Bool.false_and, Bool.and_false, Bool.and_true, Sem.run_pure]
  simp only [Op.eqItems, Nat.mul_one, Sem.run_bind, (p _ _ _ _ _).1, (p _ _ _ _ _).2.1, (p _ _ _ _ _).2.2.1, (p _ _ _ _ _).2.2.2, Result.andThen_ok, eql_u8, e, u8_beq, Bool.not_true, Bool.not_false, if_true, if_false, Bool.false_eq_true, Bool.true_and, Bool.false_and, Bool.and_false, Bool.and_true, Sem.run_pure]
  cases t2 == 0
  · simp only [Op.eqItems, Nat.mul_one, Sem.run_bind, (p _ _ _ _ _).1, (p _ _ _ _ _).2.1, (p _ _ _ _ _).2.2.1, (p _ _ _ _ _).2.2.2, Result.andThen_ok, eql_u8, e, u8_beq, Bool.not_true, Bool.not_false, if_true, if_false, Bool.false_eq_true, Bool.true_and, Bool.false_and, Bool.and_false, Bool.and_true, Sem.run_pure]
  simp only [Op.eqItems, Nat.mul_one, Sem.run_bind, (p _ _ _ _ _).1, (p _ _ _ _ _).2.1, (p _ _ _ _ _).2.2.1, (p _ _ _ _ _).2.2.2, Result.andThen_ok, eql_u8, e, u8_beq, Bool.not_true, Bool.not_false, if_true, if_false, Bool.false_eq_true, Bool.true_and, Bool.false_and, Bool.and_false, Bool.and_true, Sem.run_pure]
  cases t3 == 0
  · simp only [Op.eqItems, Nat.mul_one, Sem.run_bind, (p _ _ _ _ _).1, (p _ _ _ _ _).2.1, (p _ _ _ _ _).2.2.1, (p _ _ _ _ _).2.2.2, Result.andThen_ok, eql_u8, e, u8_beq, Bool.not_true, Bool.not_false, if_true, if_false, Bool.false_eq_true, Bool.true_and, Bool.false_and, Bool.and_false, Bool.and_true, Sem.run_pure]
  simp only [Op.eqItems, Nat.mul_one, Sem.run_bind, (p _ _ _ _ _).1, (p _ _ _ _ _).2.1, (p _ _ _ _ _).2.2.1, (p _ _ _ _ _).2.2.2, Result.andThen_ok, eql_u8, e, u8_beq, Bool.not_true, Bool.not_false, if_true, if_false, Bool.false_eq_true, Bool.true_and, Bool.false_and, Bool.and_false, Bool.and_true, Sem.run_pure]
theorem arr_eql (t0 t1 t2 t3 : UInt8) (W : World) (ev : Operand → Value) (o : Oper) (x y : Operand) (ho : o.op = .binOp .eql 33 x y 33) (hx : ev x = .agg (arrCells t0 t1 t2 t3)) (hy : ev y = .agg (arrCells 0 0 0 0)) :
    (execOp ev o).run Try.prog W = .ok (.value (.bool (t0 == 0 && t1 == 0 && t2 == 0 && t3 == 0))) W := by
  obtain ⟨i, hi⟩ : ∃ i, Try.prog.info? 5 = some i := by
    have := info_byte
    cases h : Try.prog.info? 5 with
    | none => rw [h] at this; simp at this
    | some i => exact ⟨i, rfl⟩
  have h1 := run_equalIn_array (P := Try.prog) W 9999 (arrCells t0 t1 t2 t3) (arrCells 0 0 0 0) Try.underlying33 hi
  rw [cells5, show List.range 4 = [0, 1, 2, 3] from rfl, eql_items 9998] at h1
  simp [execOp, ho, hx, hy, go_sem, h1]

theorem arr_zero (W : World) (ev : Operand → Value) (o : Oper) (ho : o.op = .build 33 #[]) : (execOp ev o).run Try.prog W = .ok (.value (.agg (arrCells 0 0 0 0))) W := by
  simp [execOp, ho, go_sem]
  rfl
theorem arr_load {w W : World} {t0 t1 t2 t3 : UInt8} (h : ArrAt w W t0 t1 t2 t3) (ev : Operand → Value) (o : Oper) (x : Operand) (ho : o.op = .load 33 x) (hx : ev x = .pointer (some ⟨w.heap.size, 0, none⟩)) :
    (execOp ev o).run Try.prog W = .ok (.value (.agg (arrCells t0 t1 t2 t3))) W := by
  obtain ⟨c0, c1, c2, c3⟩ := h.cell
  simp [execOp, ho, hx, go_sem, c0, c1, c2, c3]
  rfl

theorem zeros4_beq (t0 t1 t2 t3 : UInt8) : (t0 == 0 && t1 == 0 && t2 == 0 && t3 == 0) = true ↔ zeros4 t0 t1 t2 t3 := by
  simp [zeros4, and_assoc]
end

end Go.Proofs.Ytghobgpogifjfaa
