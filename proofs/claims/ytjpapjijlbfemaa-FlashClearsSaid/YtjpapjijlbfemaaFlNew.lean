/- What slices.Repeat of one text, and flash.New, come to. -/
import Derived.Test.YtjpapjijlbfemaaFlProg
import Derived.Laws.CopyOwn
import Derived.LoopTactic
namespace Go.Proofs.Ytjpapjijlbfemaa
open Go.RowKit

theorem info_str : (Try.prog.info? 9).map (fun i => (i.zero, i.size, i.bytes)) = some (some (.string ⟨#[]⟩), 1, 16) := by kernel_rfl

theorem size_str : (Try.prog.info? 9).map (·.size) = some 1 := by
  have := info_str
  cases h : Try.prog.info? 9 with
  | none => rw [h] at this; cases this
  | some i => rw [h] at this; simp at this ⊢; exact this.2.1

/-- The row in a round: so many texts, the others empty. -/
def repRow (s : ByteArray) (k c : Nat) : List Value := List.replicate k (.string s) ++ List.replicate (c - k) (Value.string ⟨#[]⟩)
def repObj (s : ByteArray) (k c : Nat) : Obj := .cells (repRow s k c).toArray 9 (0, 0)
theorem repRow_length (s : ByteArray) (k c : Nat) (h : k ≤ c) : (repRow s k c).length = c := by simp [repRow]; omega
theorem repRow_splice (s : ByteArray) (k m c : Nat) : splice (repRow s k c) k (List.replicate m (.string s)) = repRow s (k + m) c := by
  unfold splice repRow
  have e1 : (List.replicate k (Value.string s) ++ List.replicate (c - k) (Value.string ⟨#[]⟩)).take k = List.replicate k (.string s) := by
    rw [List.take_left' (by simp)]
  have e2 : (List.replicate k (Value.string s) ++ List.replicate (c - k) (Value.string ⟨#[]⟩)).drop (k + m) = List.replicate (c - (k + m)) (Value.string ⟨#[]⟩) := by
    rw [List.drop_append, List.drop_eq_nil_of_le (by simp)]
    simp
    omega
  rw [e1, List.length_replicate, e2, ← List.append_assoc, List.replicate_append_replicate]
theorem repRow_again (s : ByteArray) (k m c : Nat) : splice (repRow s (k + m) c) k (List.replicate m (.string s)) = repRow s (k + m) c := by
  unfold splice repRow
  have e1 : (List.replicate (k + m) (Value.string s) ++ List.replicate (c - (k + m)) (Value.string ⟨#[]⟩)).take k = List.replicate k (.string s) := by
    rw [List.take_append_of_le_length (by simp), List.take_replicate, Nat.min_eq_left (by omega)]
  have e2 : (List.replicate (k + m) (Value.string s) ++ List.replicate (c - (k + m)) (Value.string ⟨#[]⟩)).drop (k + m) = List.replicate (c - (k + m)) (Value.string ⟨#[]⟩) := by
    rw [List.drop_left' (by simp)]
  rw [e1, List.length_replicate, e2, ← List.append_assoc, List.replicate_append_replicate]
theorem repRow_at (s : ByteArray) (k c j : Nat) (h : j < k) : (repRow s k c)[j]? = some (.string s) := by
  unfold repRow
  rw [List.getElem?_append_left (by simpa using h)]
  simp [h]

/-- Worlds that are one but for block g, which is as it was before or after a copy. -/
structure RepG (g : Nat) (lo ln : List Value) (A B : World) : Prop where
  os : B.os = A.os
  tape : B.tape = A.tape
  output : B.output = A.output
  size : A.heap.size ≤ B.heap.size
  block : ∀ k, k ≠ g → k < A.heap.size → B.heap[k]? = A.heap[k]?
  new : A.heap[g]? = some (.cells ln.toArray 9 (0, 0)) → B.heap[g]? = some (.cells ln.toArray 9 (0, 0))
  old : A.heap[g]? = some (.cells lo.toArray 9 (0, 0)) → B.heap[g]? = some (.cells lo.toArray 9 (0, 0)) ∨ B.heap[g]? = some (.cells ln.toArray 9 (0, 0))
theorem RepG.refl (g : Nat) (o n : List Value) (A : World) : RepG g o n A A := ⟨rfl, rfl, rfl, Nat.le_refl _, fun _ _ _ => rfl, id, .inl⟩
theorem RepG.trans {g : Nat} {o n : List Value} {A B C : World} (h : RepG g o n A B) (k : RepG g o n B C) : RepG g o n A C :=
  ⟨k.os.trans h.os, k.tape.trans h.tape, k.output.trans h.output, Nat.le_trans h.size k.size, fun i hi hl => (k.block i hi (Nat.lt_of_lt_of_le hl h.size)).trans (h.block i hi hl), fun e => k.new (h.new e), fun e => (h.old e).elim k.old (fun e' => .inr (k.new e'))⟩

theorem rep_copy {ev : Operand → Value} {W : World} {s : ByteArray} {g k m c : Nat} {o : Oper} {x y : Operand} (ho : o.op = .call { callee := .builtin .copy, args := #[x, y], argTypes := #[22, 22] })
    (hx : ev x = .slice (some ⟨g, k, none⟩) (c - k : Nat) (c - k : Nat)) (hy : ev y = .slice (some ⟨g, 0, none⟩) k c) (hk : 1 ≤ k) (hlt : k < c) (hm : m = min k (c - k)) (_hg : o.guard = none)
    (hrow : W.heap[g]? = some (repObj s k c) ∨ W.heap[g]? = some (repObj s (k + m) c)) :
    growUpon Try.prog (RepG g (repRow s k c) (repRow s (k + m) c)) (fun v W => v = .int .i64 m ∧ W.heap[g]? = some (repObj s (k + m) c)) W ((execOp ev o).run Try.prog W) := by
  have hsz := size_str
  have key : ∀ j, (j = k ∨ j = k + m) → W.heap[g]? = some (repObj s j c) → growUpon Try.prog (RepG g (repRow s k c) (repRow s (k + m) c)) (fun v W => v = .int .i64 m ∧ W.heap[g]? = some (repObj s (k + m) c)) W ((execOp ev o).run Try.prog W) := by
    intro j hj hg
    have hjc : j ≤ c := by omega
    have hrun := run_copy_row (P := Try.prog) W 22 22 o.type 9 g k (c - k) (c - k) ⟨g, 0, none⟩ k c (repRow s j c).toArray 9 (List.replicate m (.string s)) Try.underlying22 hsz hg (by simp; omega) (fun i v hi => by
        rw [addr0, cell_of hg]
        have hlt' : i < m := by
          rcases Nat.lt_or_ge i m with h | h
          · exact h
          · rw [List.getElem?_eq_none (by simpa using h)] at hi; cases hi
        rw [List.getElem?_toArray, repRow_at s j c i (by omega), ← hi]
        simp [hlt']) (by simp [repRow_length s j c hjc]; omega) (fun v hv => by rw [List.eq_of_mem_replicate hv]; rfl)
    have hrow2 : (repRow s j c).toArray.toList.take k ++ List.replicate m (Value.string s) ++ ((repRow s j c).toArray.toList.drop (k + (List.replicate m (Value.string s)).length)) = repRow s (k + m) c := by
      have : splice (repRow s j c) k (List.replicate m (.string s)) = repRow s (k + m) c := by
        rcases hj with rfl | rfl
        · exact repRow_splice s j m c
        · exact repRow_again s k m c
      rw [List.append_assoc]
      exact this
    rw [hrow2] at hrun
    have hset := setRow_heap W g _ (repRow s (k + m) c).toArray 9 _ hg
    have hr : (execOp ev o).run Try.prog W = .ok (.value (.int .i64 m)) (W.setRow g (repRow s (k + m) c).toArray) := by
      simp [execOp, ho, resolve, invoke, builtin, hx, hy, hrun, Result.andThen, goInt]
    rw [hr]
    exact ⟨⟨rfl, hset⟩, ⟨rfl, rfl, rfl, by simp [World.setRow], fun i hi _ => setRow_other W g i _ hi, fun _ => hset, fun _ => .inr hset⟩⟩
  rcases hrow with h | h
  · exact key k (.inl rfl) h
  · exact key (k + m) (.inr rfl) h

set_option maxRecDepth 100000 in
set_option maxHeartbeats 2000000 in
theorem repeat_calls (s : ByteArray) (b c : Nat) (w : World) (hc1 : 1 ≤ c) (hc6 : c ≤ 6) (hb : w.cell? ⟨b, 0, none⟩ = some (.string s)) :
    Calls Try.prog 48 #[.slice (some ⟨b, 0, none⟩) 1 1, .int .i64 c] w fun e W' => ∃ g, e = .returned (.slice (some ⟨g, 0, none⟩) c c) ∧ w.heap.size ≤ g ∧ W'.heap[g]? = some (repObj s c c) ∧ Ups w W' := by
  have hbl := lt_of_cell hb
  simp only at hbl
  have h1 : ¬ (c : Int) < 0 := by omega
  have hsz := size_str
  have hmul := Try.bits_Mul 1 c (by omega) (by omega)
  have hmk := run_make_row' (P := Try.prog) 22 9 (.string ⟨#[]⟩) 16 Try.underlying22 info_str rfl .i64 .i64 c (by omega) (by omega)
  have hmul' : ∀ W, Calls Try.prog 65 #[.int .u64 1, .int .u64 c] W fun e w' => e = .returned (.tuple #[.int .u64 0, .int .u64 c]) ∧ W = w' := by
    intro W
    refine (hmul W).mono ?_
    rintro e w' ⟨rfl, rfl⟩
    refine ⟨?_, rfl⟩
    rw [show 1 * c / 18446744073709551616 = 0 by omega, show 1 * c % 18446744073709551616 = c by omega]
    rfl
  have hg0 : (w.alloc (.cells (madeCells #[.string ⟨#[]⟩] c) 9)).heap[w.heap.size]? = some (.cells (repRow s 0 c).toArray 9 (0, 0)) := by
    have : madeCells #[.string ⟨#[]⟩] c = (repRow s 0 c).toArray := by
      apply Array.ext'
      rw [toList_madeCells_one]
      simp [repRow]
    rw [this]
    show (w.heap.push _)[w.heap.size]? = _
    simp
  have hb0 : Below w.heap.size w (w.alloc (.cells (madeCells #[.string ⟨#[]⟩] c) 9)) := (Below.refl _ w).alloc (Nat.le_refl _) _
  have hb1 : (w.alloc (.cells (madeCells #[.string ⟨#[]⟩] c) 9)).cell? ⟨b, 0, none⟩ = some (.string s) := cell_ups hb0 hb
  have hcp : (Builtin.copy_ #[22, 22] 3 #[.slice (some ⟨w.heap.size, 0, none⟩) c c, .slice (some ⟨b, 0, none⟩) 1 1]).run Try.prog (w.alloc (.cells (madeCells #[.string ⟨#[]⟩] c) 9)) = .ok (.int .i64 1) ((w.alloc (.cells (madeCells #[.string ⟨#[]⟩] c) 9)).setRow w.heap.size (repRow s (0 + 1) c).toArray) := by
    have hrun := run_copy_row (P := Try.prog) (w.alloc (.cells (madeCells #[.string ⟨#[]⟩] c) 9)) 22 22 3 9 w.heap.size 0 c c ⟨b, 0, none⟩ 1 1 (repRow s 0 c).toArray 9 (List.replicate 1 (.string s)) Try.underlying22 hsz hg0 (by rw [List.length_replicate]; show 1 = min 1 c; omega) (fun i v hi => by
      have h0 : i = 0 := by
        rcases Nat.eq_zero_or_pos i with h | h
        · exact h
        · rw [List.getElem?_eq_none (by simp; omega)] at hi; cases hi
      subst h0
      rw [addr0, hb1, ← hi]
      rfl) (by simp [repRow_length s 0 c (Nat.zero_le _)]; omega) (fun v hv => by rw [List.eq_of_mem_replicate hv]; rfl)
    have hrow2 : (repRow s 0 c).toArray.toList.take 0 ++ List.replicate 1 (Value.string s) ++ ((repRow s 0 c).toArray.toList.drop (0 + (List.replicate 1 (Value.string s)).length)) = repRow s (0 + 1) c := by
      rw [List.append_assoc]
      exact repRow_splice s 0 1 c
    rw [hrow2] at hrun
    exact hrun
  go_enter Try.func48, Try.ntmps48
  go_wp2_with fail
  refine (hmul' _).mono ?_
  rintro e w' ⟨rfl, rfl⟩
  clear hmul hmul'
  go_wp2_with fail
  generalize hW2 : (w.alloc (.cells (madeCells #[.string ⟨#[]⟩] c) 9)).setRow w.heap.size (repRow s (0 + 1) c).toArray = w2 at *
  have hbel2 : Below w.heap.size w w2 := by
    rw [← hW2]
    exact below_setRow hb0 (Nat.le_refl _) _
  have hrow2 : w2.heap[w.heap.size]? = some (repObj s 1 c) := by
    rw [← hW2]
    exact setRow_heap _ _ _ _ _ _ hg0
  clear hW2 hg0 hb0 hcp hmk
  go_loopw [8] (fun n wr => ∃ k : Nat, 1 ≤ k ∧ k ≤ c ∧ n = .int .i64 k ∧ wr.heap[w.heap.size]? = some (repObj s k c) ∧ Below w.heap.size w wr) (fun n _ => c - (intOf n).toNat)
  case atStart => exact ⟨1, Nat.le_refl _, hc1, rfl, hrow2, hbel2⟩
  case round =>
    obtain ⟨k, hk1, hkc, rfl, hrow, hbel⟩ := hrel
    by_cases hlt : k < c
    · obtain ⟨m, hm⟩ : ∃ m, m = min k (c - k) := ⟨_, rfl⟩
      have hle : k ≤ c := by omega
      have hne : ¬ c = k := by omega
      have hnc : ¬ c < k := by omega
      have hrefl := RepG.refl w.heap.size (repRow s k c) (repRow s (k + m) c)
      have htrans : ∀ {A B C : World}, RepG w.heap.size (repRow s k c) (repRow s (k + m) c) A B → RepG w.heap.size (repRow s k c) (repRow s (k + m) c) B C → RepG w.heap.size (repRow s k c) (repRow s (k + m) c) A C := fun h h' => h.trans h'
      go_wp2_with fail
      refine wp_region_partsG (RepG w.heap.size (repRow s k c) (repRow s (k + m) c)) hrefl htrans (N := 8) (n := 48) (ks := [isV (.int .i64 k), isV (.slice (some ⟨w.heap.size, 0, none⟩) c c), isV (.int .i64 k), isV (.slice (some ⟨w.heap.size, k, none⟩) (c - k : Nat) (c - k : Nat)), isV (.slice (some ⟨w.heap.size, 0, none⟩) c c), isV (.int .i64 k), isV (.slice (some ⟨w.heap.size, 0, none⟩) k c), fun v W => v = .int .i64 m ∧ W.heap[w.heap.size]? = some (repObj s (k + m) c)]) (by decide +kernel) (by decide +kernel) (by decide +kernel) (by simp) rfl (by decide +kernel) ⟨steady_is _, steady_is _, steady_is _, steady_is _, steady_is _, steady_is _, steady_is _, fun v A B h hg => ⟨h.1, hg.new h.2⟩, trivial⟩ ?_ ?_
      · refine And.intro (fun ac W hO hU H => ?_) ?_
        · have h8 : ac.tmps[8]? = some (.int .i64 k) := (hO 8 rfl).trans rfl
          exact growOp_plain rfl (told_value hrefl (by simp [go_sem, h8]) rfl)
        refine And.intro (fun ac W hO hU H => ?_) ?_
        · have h7 : ac.tmps[7]? = some (.slice (some ⟨w.heap.size, 0, none⟩) c c) := (hO 7 rfl).trans rfl
          exact growOp_plain rfl (told_value hrefl (by simp [go_sem, h7]) rfl)
        refine And.intro (fun ac W hO hU H => ?_) ?_
        · have h8 : ac.tmps[8]? = some (.int .i64 k) := (hO 8 rfl).trans rfl
          exact growOp_plain rfl (told_value hrefl (by simp [go_sem, h8]) rfl)
        refine And.intro (fun ac W hO hU H => ?_) ?_
        · have h39 : ac.tmps[39]? = some (.slice (some ⟨w.heap.size, 0, none⟩) c c) := isV_get (W := W) (H 1 39 rfl)
          have h40 : ac.tmps[40]? = some (.int .i64 k) := isV_get (W := W) (H 2 40 rfl)
          exact growOp_plain rfl (told_value hrefl (by simp [go_sem, h39, h40, hle, hne]) rfl)
        refine And.intro (fun ac W hO hU H => ?_) ?_
        · have h7 : ac.tmps[7]? = some (.slice (some ⟨w.heap.size, 0, none⟩) c c) := (hO 7 rfl).trans rfl
          exact growOp_plain rfl (told_value hrefl (by simp [go_sem, h7]) rfl)
        refine And.intro (fun ac W hO hU H => ?_) ?_
        · have h8 : ac.tmps[8]? = some (.int .i64 k) := (hO 8 rfl).trans rfl
          exact growOp_plain rfl (told_value hrefl (by simp [go_sem, h8]) rfl)
        refine And.intro (fun ac W hO hU H => ?_) ?_
        · have h42 : ac.tmps[42]? = some (.slice (some ⟨w.heap.size, 0, none⟩) c c) := isV_get (W := W) (H 4 42 rfl)
          have h43 : ac.tmps[43]? = some (.int .i64 k) := isV_get (W := W) (H 5 43 rfl)
          exact growOp_plain rfl (told_value hrefl (by simp [go_sem, h42, h43, hnc]) rfl)
        refine And.intro (fun ac W hO hU H => ?_) ?_
        · have h41 : ac.tmps[41]? = some (.slice (some ⟨w.heap.size, k, none⟩) (c - k : Nat) (c - k : Nat)) := isV_get (W := W) (H 3 41 rfl)
          have h44 : ac.tmps[44]? = some (.slice (some ⟨w.heap.size, 0, none⟩) k c) := isV_get (W := W) (H 6 44 rfl)
          exact growOp_plain rfl (rep_copy rfl (eval_tmp h41) (eval_tmp h44) hk1 hlt hm rfl (hU.old hrow))
        exact trivial
      · intro W xs hU hks
        obtain ⟨y0, rfl, g0⟩ := holdAll_is hks
        obtain ⟨y1, rfl, g1⟩ := holdAll_is g0
        obtain ⟨y2, rfl, g2⟩ := holdAll_is g1
        obtain ⟨y3, rfl, g3⟩ := holdAll_is g2
        obtain ⟨y4, rfl, g4⟩ := holdAll_is g3
        obtain ⟨y5, rfl, g5⟩ := holdAll_is g4
        obtain ⟨y6, rfl, g6⟩ := holdAll_is g5
        obtain ⟨v7, y7, rfl, q7, g7⟩ := holdAll_cons g6
        obtain rfl := holdAll_nil g7
        clear hks g0 g1 g2 g3 g4 g5 g6 g7
        simp only [List.take_succ_cons, List.take_zero, List.drop_succ_cons, List.drop_zero, endTmps, List.setIfInBounds_toArray, List.set]
        have hw1 : IntKind.i64.wrap ((k : Int) + m) = ((k + m : Nat) : Int) := (IntWalk.i64_left _).trans ((IntWalk.wrap64_in _ ⟨by omega, by omega⟩).trans (by omega))
        have hbW : Below w.heap.size w W := ⟨hU.os.trans hbel.os, hU.tape.trans hbel.tape, hU.output.trans hbel.output, Nat.le_trans hbel.size hU.size, fun i hi => (hU.block i (by omega) (Nat.lt_of_lt_of_le hi hbel.size)).trans (hbel.block i hi)⟩
        obtain ⟨rfl, hrow'⟩ := q7
        go_wp2_with fail
        go_roundw
        case rel => exact ⟨k + m, by omega, by omega, by go_num, hrow', hbW⟩
        case measure => simp [intOf]; omega
    · obtain rfl : k = c := by omega
      go_wp2_with fail
      go_ret
      exact ⟨_, rfl, Nat.le_refl _, hrow, hbel⟩

theorem grow_alloc {P : Program} {V : Kd} {W : World} {r : Result Next} {v : Value} {o : Obj} (h : r = .ok (.value v) (W.alloc o)) (hv : V v (W.alloc o)) : growUpon P Ups V W r := by
  subst h
  exact ⟨hv, (Below.refl _ _).alloc (Nat.le_refl _) _⟩
theorem alloc_at (W : World) (o : Obj) : (W.alloc o).heap[W.heap.size]? = some o := by
  show (W.heap.push _)[W.heap.size]? = _
  simp

/-- What flash.New makes. -/
def newF (pages size : Int) : Fl × Int :=
  if pages < 1 ∨ 6 < pages ∨ size < 1 ∨ 8192 < size then (⟨[], [], 0, ⟨#[]⟩, false⟩, 1)
  else (⟨List.replicate pages.toNat (onesT size.toNat), List.replicate pages.toNat 0, -1, ⟨#[]⟩, false⟩, 0)

theorem texts_rep {W : World} {g c : Nat} {s : ByteArray} (h : W.heap[g]? = some (repObj s c c)) : TextsAt W (.slice (some ⟨g, 0, none⟩) c c) (List.replicate c s) := by
  refine ⟨_, c, by rw [List.length_replicate], fun _ => ⟨g, 0, rfl, fun j hj => ?_⟩⟩
  rw [List.length_replicate] at hj
  rw [Nat.zero_add, cell_of h, List.getElem?_toArray, repRow_at s c c j hj]
  simp [hj]
def zeroObj (c : Nat) : Obj := .cells (madeCells #[.int .i64 0] c) 3 (0, 0)
theorem ints_zero {W : World} {g c : Nat} (h : W.heap[g]? = some (zeroObj c)) : IntsAt W (.slice (some ⟨g, 0, none⟩) c c) (List.replicate c 0) := by
  refine ⟨_, c, by rw [List.length_replicate], fun _ => ⟨g, 0, rfl, fun j hj => ?_⟩⟩
  rw [List.length_replicate] at hj
  have e : madeCells #[Value.int .i64 0] c = (List.replicate c (Value.int .i64 0)).toArray := by
    apply Array.ext'
    rw [toList_madeCells_one]
  rw [Nat.zero_add, cell_of h, e]
  simp [hj]
theorem info_i64 : (Try.prog.info? 3).map (fun i => (i.zero, i.size, i.bytes)) = some (some (.int .i64 0), 1, 8) := by kernel_rfl

set_option maxRecDepth 100000 in
set_option maxHeartbeats 2000000 in
theorem new_calls (pages size : Int) (w : World) :
    Calls Try.prog 16 #[.int .i64 pages, .int .i64 size] w fun e W' => ∃ v', e = .returned (.tuple #[v', .int .i64 (newF pages size).2]) ∧ FlAt W' v' (newF pages size).1 ∧ Ups w W' ∧ ∀ B, B < w.heap.size → FlOff B v' := by
  by_cases hr : pages < 1 ∨ 6 < pages ∨ size < 1 ∨ 8192 < size
  · have he : newF pages size = (⟨[], [], 0, ⟨#[]⟩, false⟩, 1) := by rw [newF, if_pos hr]
    rw [he]
    clear he
    have fin : ∀ W, Ups w W → FlAt W (.agg #[.slice none 0 0, .slice none 0 0, .int .i64 0, .string { data := #[] }, .bool false]) ⟨[], [], 0, ⟨#[]⟩, false⟩ := fun W _ => ⟨_, _, rfl, ⟨none, 0, rfl, fun h => absurd h (Nat.lt_irrefl 0)⟩, ⟨none, 0, rfl, fun h => absurd h (Nat.lt_irrefl 0)⟩⟩
    have hu : Ups w (w.alloc (.cells #[.slice none 0 0, .slice none 0 0, .int .i64 0, .string { data := #[] }, .bool false] 25)) := (Below.refl _ w).alloc (Nat.le_refl _) _
    have FIN := Lib.hid fin
    clear fin
    by_cases h1 : pages < 1
    · go_enter Try.func16, Try.ntmps16
      go_wp2_with fail
      refine bodyPost_ret (v := .tuple #[.agg #[.slice none 0 0, .slice none 0 0, .int .i64 0, .string { data := #[] }, .bool false], .int .i64 1]) ?_ rfl ⟨_, rfl, ?_⟩
      · simp [results, Try.results16, go_sem]
      · exact ⟨FIN.out _ hu, hu, fun B hB => FlOff.mk RowOff.none RowOff.none⟩
    by_cases h2 : 6 < pages
    · go_enter Try.func16, Try.ntmps16
      go_wp2_with fail
      refine bodyPost_ret (v := .tuple #[.agg #[.slice none 0 0, .slice none 0 0, .int .i64 0, .string { data := #[] }, .bool false], .int .i64 1]) ?_ rfl ⟨_, rfl, ?_⟩
      · simp [results, Try.results16, go_sem]
      · exact ⟨FIN.out _ hu, hu, fun B hB => FlOff.mk RowOff.none RowOff.none⟩
    by_cases h3 : size < 1
    · go_enter Try.func16, Try.ntmps16
      go_wp2_with fail
      refine bodyPost_ret (v := .tuple #[.agg #[.slice none 0 0, .slice none 0 0, .int .i64 0, .string { data := #[] }, .bool false], .int .i64 1]) ?_ rfl ⟨_, rfl, ?_⟩
      · simp [results, Try.results16, go_sem]
      · exact ⟨FIN.out _ hu, hu, fun B hB => FlOff.mk RowOff.none RowOff.none⟩
    have h4 : 8192 < size := by omega
    go_enter Try.func16, Try.ntmps16
    go_wp2_with fail
    refine bodyPost_ret (v := .tuple #[.agg #[.slice none 0 0, .slice none 0 0, .int .i64 0, .string { data := #[] }, .bool false], .int .i64 1]) ?_ rfl ⟨_, rfl, ?_⟩
    · simp [results, Try.results16, go_sem]
    · exact ⟨FIN.out _ hu, hu, fun B hB => FlOff.mk RowOff.none RowOff.none⟩
  · obtain ⟨c, rfl⟩ : ∃ c : Nat, pages = c := ⟨pages.toNat, by omega⟩
    obtain ⟨m, rfl⟩ : ∃ m : Nat, size = m := ⟨size.toNat, by omega⟩
    have he : newF c m = (⟨List.replicate c (onesT m), List.replicate c 0, -1, ⟨#[]⟩, false⟩, 0) := by rw [newF, if_neg hr]; rfl
    rw [he]
    clear he
    have h1 : ¬ (c : Int) < 1 := by omega
    have h2 : ¬ (6 : Int) < c := by omega
    have h3 : ¬ (m : Int) < 1 := by omega
    have h4 : ¬ (8192 : Int) < m := by omega
    have hmk := run_make_row' (P := Try.prog) 23 3 (.int .i64 0) 8 Try.underlying23 info_i64 rfl .i64 .i64 c (by omega) (by omega)
    have hu : Ups w (w.alloc (.cells #[.slice none 0 0, .slice none 0 0, .int .i64 0, .string { data := #[] }, .bool false] 25)) := (Below.refl _ w).alloc (Nat.le_refl _) _
    have hz0 : (w.alloc (.cells #[.slice none 0 0, .slice none 0 0, .int .i64 0, .string { data := #[] }, .bool false] 25)).heap[w.heap.size]? = some (.cells #[.slice none 0 0, .slice none 0 0, .int .i64 0, .string { data := #[] }, .bool false] 25) := alloc_at w _
    have hlt : w.heap.size < (w.alloc (.cells #[.slice none 0 0, .slice none 0 0, .int .i64 0, .string { data := #[] }, .bool false] 25)).heap.size := (Array.getElem?_eq_some_iff.1 hz0).1
    go_enter Try.func16, Try.ntmps16
    go_wp2_with fail
    refine wp_region_parts (N := 8) (n := 29) (ks := [isV (.int .i64 m), isV (.string (onesT m)), fun v W => ∃ b, v = .slice (some ⟨b, 0, none⟩) 1 1 ∧ W.cell? ⟨b, 0, none⟩ = some (.string (onesT m)), isV (.int .i64 c), fun v W => ∃ g, v = .slice (some ⟨g, 0, none⟩) c c ∧ W.heap[g]? = some (repObj (onesT m) c c) ∧ w.heap.size < g, isV (.int .i64 c), fun v W => ∃ g, v = .slice (some ⟨g, 0, none⟩) c c ∧ W.heap[g]? = some (zeroObj c) ∧ w.heap.size < g, fun v W => ∃ g g', v = .agg #[.slice (some ⟨g, 0, none⟩) c c, .slice (some ⟨g', 0, none⟩) c c, .int .i64 (-1), .string ⟨#[]⟩, .bool false] ∧ W.heap[g]? = some (repObj (onesT m) c c) ∧ W.heap[g']? = some (zeroObj c) ∧ w.heap.size < g ∧ w.heap.size < g']) (by decide +kernel) (by decide +kernel) (by decide +kernel) (by simp) rfl (by decide +kernel) ⟨steady_is _, steady_is _, fun _ _ _ ⟨b, e, h⟩ hu => ⟨b, e, cell_ups hu h⟩, steady_is _, fun _ _ _ ⟨g, e, h, hl⟩ hu => ⟨g, e, block_ups h hu, hl⟩, steady_is _, fun _ _ _ ⟨g, e, h, hl⟩ hu => ⟨g, e, block_ups h hu, hl⟩, fun _ _ _ ⟨g, g', e, h, h', hl⟩ hu => ⟨g, g', e, block_ups h hu, block_ups h' hu, hl⟩, trivial⟩ ?_ ?_
    · refine And.intro (fun ac W hO hU H => ?_) ?_
      · have h1 : ac.tmps[1]? = some (.int .i64 m) := (hO 1 rfl).trans rfl
        exact growOp_plain rfl (parts_value (by simp [go_sem, h1]))
      refine And.intro (fun ac W hO hU H => ?_) ?_
      · have h21 : ac.tmps[21]? = some (.int .i64 m) := isV_get (W := W) (H 0 21 rfl)
        exact growOp_plain rfl (parts_call_is (args := #[.int .i64 m]) (by simp [go_sem, h21]) (oones_t m W (by omega)))
      refine And.intro (fun ac W hO hU H => ?_) ?_
      · have h22 : ac.tmps[22]? = some (.string (onesT m)) := isV_get (W := W) (H 1 22 rfl)
        exact growOp_plain rfl (grow_alloc (by simp [go_sem, h22]; rfl) ⟨W.heap.size, rfl, by rw [cell_of (alloc_at W _)]; rfl⟩)
      refine And.intro (fun ac W hO hU H => ?_) ?_
      · have h0 : ac.tmps[0]? = some (.int .i64 c) := (hO 0 rfl).trans rfl
        exact growOp_plain rfl (parts_value (by simp [go_sem, h0]))
      refine And.intro (fun ac W hO hU H => ?_) ?_
      · obtain ⟨v23, h23, q23⟩ := H 2 23 rfl
        have h24 : ac.tmps[24]? = some (.int .i64 c) := isV_get (W := W) (H 3 24 rfl)
        obtain ⟨b, rfl, hb⟩ := q23
        refine growOp_plain rfl (parts_call (f := 48) (args := #[.slice (some ⟨b, 0, none⟩) 1 1, .int .i64 c]) (by simp [go_sem, h23, h24]) ?_)
        refine (repeat_calls (onesT m) b c W (by omega) (by omega) hb).mono ?_
        rintro e W' ⟨g, rfl, hg1, hg2, hu'⟩
        exact ⟨_, rfl, ⟨g, rfl, hg2, Nat.lt_of_lt_of_le (Nat.lt_of_lt_of_le hlt (drew_ups hU).size) hg1⟩, hu'⟩
      refine And.intro (fun ac W hO hU H => ?_) ?_
      · have h0 : ac.tmps[0]? = some (.int .i64 c) := (hO 0 rfl).trans rfl
        exact growOp_plain rfl (parts_value (by simp [go_sem, h0]))
      refine And.intro (fun ac W hO hU H => ?_) ?_
      · have h26 : ac.tmps[26]? = some (.int .i64 c) := isV_get (W := W) (H 5 26 rfl)
        exact growOp_plain rfl (grow_alloc (by simp [go_sem, h26, hmk]; rfl) ⟨W.heap.size, rfl, alloc_at W _, Nat.lt_of_lt_of_le hlt (drew_ups hU).size⟩)
      refine And.intro (fun ac W hO hU H => ?_) ?_
      · obtain ⟨v25, h25, q25⟩ := H 4 25 rfl
        obtain ⟨v27, h27, q27⟩ := H 6 27 rfl
        obtain ⟨g, rfl, hg, hl⟩ := q25
        obtain ⟨g', rfl, hg', hl'⟩ := q27
        exact growOp_plain rfl (growUpon_value (by simp [go_sem, h25, h27]) ⟨g, g', rfl, hg, hg', hl, hl'⟩)
      exact trivial
    · intro W xs hU hks
      obtain ⟨y0, rfl, g0⟩ := holdAll_is hks
      obtain ⟨y1, rfl, g1⟩ := holdAll_is g0
      obtain ⟨v2, y2, rfl, q2, g2⟩ := holdAll_cons g1
      obtain ⟨y3, rfl, g3⟩ := holdAll_is g2
      obtain ⟨v4, y4, rfl, q4, g4⟩ := holdAll_cons g3
      obtain ⟨y5, rfl, g5⟩ := holdAll_is g4
      obtain ⟨v6, y6, rfl, q6, g6⟩ := holdAll_cons g5
      obtain ⟨v7, y7, rfl, q7, g7⟩ := holdAll_cons g6
      obtain rfl := holdAll_nil g7
      clear hks g0 g1 g2 g3 g4 g5 g6 g7
      simp only [List.take_succ_cons, List.take_zero, List.drop_succ_cons, List.drop_zero, endTmps, List.setIfInBounds_toArray, List.set]
      have hzz := block_ups hz0 (drew_ups hU)
      obtain ⟨d0, d1, d2, d3, d4⟩ := block_cells hzz
      have y0 := block_frozen hzz 0
      have y1 := block_frozen hzz 1
      have y2 := block_frozen hzz 2
      have y3 := block_frozen hzz 3
      have y4 := block_frozen hzz 4
      have huW := Ups.trans hu (drew_ups hU)
      obtain ⟨g, g', rfl, hg, hg', hgw, hgw'⟩ := q7
      have HT := Lib.hid (texts_rep hg)
      have HI := Lib.hid (ints_zero hg')
      clear hzz hg hg' hmk
      go_wp2_with fail
      refine bodyPost_ret (v := .tuple #[.agg #[.slice (some ⟨g, 0, none⟩) c c, .slice (some ⟨g', 0, none⟩) c c, .int .i64 (-1), .string { data := #[] }, .bool false], .int .i64 0]) ?_ rfl ⟨_, rfl, ?_⟩
      · simp [results, Try.results16, go_sem, d0, d1, d2, d3, d4]
      · have hoB : ∀ B, B ≤ w.heap.size → FlOff B (.agg #[.slice (some ⟨g, 0, none⟩) c c, .slice (some ⟨g', 0, none⟩) c c, .int .i64 (-1), .string { data := #[] }, .bool false]) := fun B hB => FlOff.mk (RowOff.fresh (by omega)) (RowOff.fresh (by omega))
        have hf : FlNew w (.agg #[.slice none 0 0, .slice none 0 0, .int .i64 0, .string { data := #[] }, .bool false]) _ _ _ := fl_stored (v' := .agg #[.slice (some ⟨g, 0, none⟩) c c, .slice (some ⟨g', 0, none⟩) c c, .int .i64 (-1), .string { data := #[] }, .bool false]) (f' := ⟨List.replicate c (onesT m), List.replicate c 0, -1, ⟨#[]⟩, false⟩) huW (Nat.le_refl _) ⟨_, _, rfl, HT.out, HI.out⟩ (hoB _ (Nat.le_refl _)) (fun B hB _ => hoB B (Nat.le_of_lt hB)) rfl
        exact ⟨hf.reads, hf.ups, fun B hB => hoB B (Nat.le_of_lt hB)⟩

end Go.Proofs.Ytjpapjijlbfemaa
