/- Texts of this proof, one behind the other: FlNew, Law3p, Few, Works3, Law3f, Law3q. -/
import Derived.Laws.CopyOwn
import Derived.LoopTactic
import Derived.Test.YtmabpnkdagipfaaGreatJ26

/- What slices.Repeat of one text, and flash.New, come to. -/
namespace Go.Proofs.YtmabpnkdagipfaaGreat
open Go.RowKit

theorem info_str : (Tryz.prog.info? 9).map (fun i => (i.zero, i.size, i.bytes)) = some (some (.string ⟨#[]⟩), 1, 16) := by kernel_rfl

theorem size_str : (Tryz.prog.info? 9).map (·.size) = some 1 := by
  have := info_str
  cases h : Tryz.prog.info? 9 with
  | none => rw [h] at this; cases this
  | some i => rw [h] at this; simp at this ⊢; exact this.2.1

/-- The row in a round: so many texts, the others empty. -/
def repRow (s : ByteArray) (k c : Nat) : List Value := List.replicate k (.string s) ++ List.replicate (c - k) (Value.string ⟨#[]⟩)
def repObj (s : ByteArray) (k c : Nat) : Obj := .cells (repRow s k c).toArray 9 (0, 0)
theorem repRow_length (s : ByteArray) (k c : Nat) (h : k ≤ c) : (repRow s k c).length = c := by simp [repRow]; omega
theorem repRow_splice (s : ByteArray) (k m c : Nat) : splice (repRow s k c) k (List.replicate m (.string s)) = repRow s (k + m) c := by
  unfold splice repRow
  have e1 : (List.replicate k (Value.string s) ++ List.replicate (c - k) (Value.string ⟨#[]⟩)).take k = List.replicate k (.string s) := by
    rw [List.take_left' (by simp)]
  have e2 : (List.replicate k (Value.string s) ++ List.replicate (c - k) (Value.string ⟨#[]⟩)).drop (k + m) = List.replicate (c - (k + m)) (Value.string ⟨#[]⟩) := by
    rw [List.drop_append, List.drop_eq_nil_of_le (by simp)]
    simp
    omega
  rw [e1, List.length_replicate, e2, ← List.append_assoc, List.replicate_append_replicate]
theorem repRow_again (s : ByteArray) (k m c : Nat) : splice (repRow s (k + m) c) k (List.replicate m (.string s)) = repRow s (k + m) c := by
  unfold splice repRow
  have e1 : (List.replicate (k + m) (Value.string s) ++ List.replicate (c - (k + m)) (Value.string ⟨#[]⟩)).take k = List.replicate k (.string s) := by
    rw [List.take_append_of_le_length (by simp), List.take_replicate, Nat.min_eq_left (by omega)]
  have e2 : (List.replicate (k + m) (Value.string s) ++ List.replicate (c - (k + m)) (Value.string ⟨#[]⟩)).drop (k + m) = List.replicate (c - (k + m)) (Value.string ⟨#[]⟩) := by
    rw [List.drop_left' (by simp)]
  rw [e1, List.length_replicate, e2, ← List.append_assoc, List.replicate_append_replicate]
theorem repRow_at (s : ByteArray) (k c j : Nat) (h : j < k) : (repRow s k c)[j]? = some (.string s) := by
  unfold repRow
  rw [List.getElem?_append_left (by simpa using h)]
  simp [h]

/-- Worlds that are one but for block g, which is as it was before or after a copy. -/
structure RepG (g : Nat) (lo ln : List Value) (A B : World) : Prop where
  os : B.os = A.os
  tape : B.tape = A.tape
  output : B.output = A.output
  size : A.heap.size ≤ B.heap.size
  block : ∀ k, k ≠ g → k < A.heap.size → B.heap[k]? = A.heap[k]?
  new : A.heap[g]? = some (.cells ln.toArray 9 (0, 0)) → B.heap[g]? = some (.cells ln.toArray 9 (0, 0))
  old : A.heap[g]? = some (.cells lo.toArray 9 (0, 0)) → B.heap[g]? = some (.cells lo.toArray 9 (0, 0)) ∨ B.heap[g]? = some (.cells ln.toArray 9 (0, 0))
theorem RepG.refl (g : Nat) (o n : List Value) (A : World) : RepG g o n A A := ⟨rfl, rfl, rfl, Nat.le_refl _, fun _ _ _ => rfl, id, .inl⟩
theorem RepG.trans {g : Nat} {o n : List Value} {A B C : World} (h : RepG g o n A B) (k : RepG g o n B C) : RepG g o n A C :=
  ⟨k.os.trans h.os, k.tape.trans h.tape, k.output.trans h.output, Nat.le_trans h.size k.size, fun i hi hl => (k.block i hi (Nat.lt_of_lt_of_le hl h.size)).trans (h.block i hi hl), fun e => k.new (h.new e), fun e => (h.old e).elim k.old (fun e' => .inr (k.new e'))⟩

theorem rep_copy {ev : Operand → Value} {W : World} {s : ByteArray} {g k m c : Nat} {o : Oper} {x y : Operand} (ho : o.op = .call { callee := .builtin .copy, args := #[x, y], argTypes := #[26, 26] })
    (hx : ev x = .slice (some ⟨g, k, none⟩) (c - k : Nat) (c - k : Nat)) (hy : ev y = .slice (some ⟨g, 0, none⟩) k c) (hk : 1 ≤ k) (hlt : k < c) (hm : m = min k (c - k)) (_hg : o.guard = none)
    (hrow : W.heap[g]? = some (repObj s k c) ∨ W.heap[g]? = some (repObj s (k + m) c)) :
    growUpon Tryz.prog (RepG g (repRow s k c) (repRow s (k + m) c)) (fun v W => v = .int .i64 m ∧ W.heap[g]? = some (repObj s (k + m) c)) W ((execOp ev o).run Tryz.prog W) := by
  have hsz := size_str
  have key : ∀ j, (j = k ∨ j = k + m) → W.heap[g]? = some (repObj s j c) → growUpon Tryz.prog (RepG g (repRow s k c) (repRow s (k + m) c)) (fun v W => v = .int .i64 m ∧ W.heap[g]? = some (repObj s (k + m) c)) W ((execOp ev o).run Tryz.prog W) := by
    intro j hj hg
    have hjc : j ≤ c := by omega
    have hrun := run_copy_row (P := Tryz.prog) W 26 26 o.type 9 g k (c - k) (c - k) ⟨g, 0, none⟩ k c (repRow s j c).toArray 9 (List.replicate m (.string s)) Tryz.underlying26 hsz hg (by simp; omega) (fun i v hi => by
        rw [addr0, cell_of hg]
        have hlt' : i < m := by
          rcases Nat.lt_or_ge i m with h | h
          · exact h
          · rw [List.getElem?_eq_none (by simpa using h)] at hi; cases hi
        rw [List.getElem?_toArray, repRow_at s j c i (by omega), ← hi]
        simp [hlt']) (by simp [repRow_length s j c hjc]; omega) (fun v hv => by rw [List.eq_of_mem_replicate hv]; rfl)
    have hrow2 : (repRow s j c).toArray.toList.take k ++ List.replicate m (Value.string s) ++ ((repRow s j c).toArray.toList.drop (k + (List.replicate m (Value.string s)).length)) = repRow s (k + m) c := by
      have : splice (repRow s j c) k (List.replicate m (.string s)) = repRow s (k + m) c := by
        rcases hj with rfl | rfl
        · exact repRow_splice s j m c
        · exact repRow_again s k m c
      rw [List.append_assoc]
      exact this
    rw [hrow2] at hrun
    have hset := setRow_heap W g _ (repRow s (k + m) c).toArray 9 _ hg
    have hr : (execOp ev o).run Tryz.prog W = .ok (.value (.int .i64 m)) (W.setRow g (repRow s (k + m) c).toArray) := by
      simp [execOp, ho, resolve, invoke, builtin, hx, hy, hrun, Result.andThen, goInt]
    rw [hr]
    exact ⟨⟨rfl, hset⟩, ⟨rfl, rfl, rfl, by simp [World.setRow], fun i hi _ => setRow_other W g i _ hi, fun _ => hset, fun _ => .inr hset⟩⟩
  rcases hrow with h | h
  · exact key k (.inl rfl) h
  · exact key (k + m) (.inr rfl) h

set_option maxRecDepth 100000 in
set_option maxHeartbeats 2000000 in
theorem repeat_calls (s : ByteArray) (b c : Nat) (w : World) (hc1 : 1 ≤ c) (hc6 : c ≤ 6) (hb : w.cell? ⟨b, 0, none⟩ = some (.string s)) :
    Calls Tryz.prog 54 #[.slice (some ⟨b, 0, none⟩) 1 1, .int .i64 c] w fun e W' => ∃ g, e = .returned (.slice (some ⟨g, 0, none⟩) c c) ∧ w.heap.size ≤ g ∧ W'.heap[g]? = some (repObj s c c) ∧ Ups w W' := by
  have hbl := lt_of_cell hb
  simp only at hbl
  have h1 : ¬ (c : Int) < 0 := by omega
  have hsz := size_str
  have hmul := Tryz.bits_Mul 1 c (by omega) (by omega)
  have hmk := run_make_row' (P := Tryz.prog) 26 9 (.string ⟨#[]⟩) 16 Tryz.underlying26 info_str rfl .i64 .i64 c (by omega) (by omega)
  have hmul' : ∀ W, Calls Tryz.prog 78 #[.int .u64 1, .int .u64 c] W fun e w' => e = .returned (.tuple #[.int .u64 0, .int .u64 c]) ∧ W = w' := by
    intro W
    refine (hmul W).mono ?_
    rintro e w' ⟨rfl, rfl⟩
    refine ⟨?_, rfl⟩
    rw [show 1 * c / 18446744073709551616 = 0 by omega, show 1 * c % 18446744073709551616 = c by omega]
    rfl
  have hg0 : (w.alloc (.cells (madeCells #[.string ⟨#[]⟩] c) 9)).heap[w.heap.size]? = some (.cells (repRow s 0 c).toArray 9 (0, 0)) := by
    have : madeCells #[.string ⟨#[]⟩] c = (repRow s 0 c).toArray := by
      apply Array.ext'
      rw [toList_madeCells_one]
      simp [repRow]
    rw [this]
    show (w.heap.push _)[w.heap.size]? = _
    simp
  have hb0 : Below w.heap.size w (w.alloc (.cells (madeCells #[.string ⟨#[]⟩] c) 9)) := (Below.refl _ w).alloc (Nat.le_refl _) _
  have hb1 : (w.alloc (.cells (madeCells #[.string ⟨#[]⟩] c) 9)).cell? ⟨b, 0, none⟩ = some (.string s) := cell_ups hb0 hb
  have hcp : (Builtin.copy_ #[26, 26] 3 #[.slice (some ⟨w.heap.size, 0, none⟩) c c, .slice (some ⟨b, 0, none⟩) 1 1]).run Tryz.prog (w.alloc (.cells (madeCells #[.string ⟨#[]⟩] c) 9)) = .ok (.int .i64 1) ((w.alloc (.cells (madeCells #[.string ⟨#[]⟩] c) 9)).setRow w.heap.size (repRow s (0 + 1) c).toArray) := by
    have hrun := run_copy_row (P := Tryz.prog) (w.alloc (.cells (madeCells #[.string ⟨#[]⟩] c) 9)) 26 26 3 9 w.heap.size 0 c c ⟨b, 0, none⟩ 1 1 (repRow s 0 c).toArray 9 (List.replicate 1 (.string s)) Tryz.underlying26 hsz hg0 (by rw [List.length_replicate]; show 1 = min 1 c; omega) (fun i v hi => by
      have h0 : i = 0 := by
        rcases Nat.eq_zero_or_pos i with h | h
        · exact h
        · rw [List.getElem?_eq_none (by simp; omega)] at hi; cases hi
      subst h0
      rw [addr0, hb1, ← hi]
      rfl) (by simp [repRow_length s 0 c (Nat.zero_le _)]; omega) (fun v hv => by rw [List.eq_of_mem_replicate hv]; rfl)
    have hrow2 : (repRow s 0 c).toArray.toList.take 0 ++ List.replicate 1 (Value.string s) ++ ((repRow s 0 c).toArray.toList.drop (0 + (List.replicate 1 (Value.string s)).length)) = repRow s (0 + 1) c := by
      rw [List.append_assoc]
      exact repRow_splice s 0 1 c
    rw [hrow2] at hrun
    exact hrun
  go_enter Tryz.func54, Tryz.ntmps54
  go_wp2_with fail
  refine (hmul' _).mono ?_
  rintro e w' ⟨rfl, rfl⟩
  clear hmul hmul'
  go_wp2_with fail
  generalize hW2 : (w.alloc (.cells (madeCells #[.string ⟨#[]⟩] c) 9)).setRow w.heap.size (repRow s (0 + 1) c).toArray = w2 at *
  have hbel2 : Below w.heap.size w w2 := by
    rw [← hW2]
    exact below_setRow hb0 (Nat.le_refl _) _
  have hrow2 : w2.heap[w.heap.size]? = some (repObj s 1 c) := by
    rw [← hW2]
    exact setRow_heap _ _ _ _ _ _ hg0
  clear hW2 hg0 hb0 hcp hmk
  go_loopw [8] (fun n wr => ∃ k : Nat, 1 ≤ k ∧ k ≤ c ∧ n = .int .i64 k ∧ wr.heap[w.heap.size]? = some (repObj s k c) ∧ Below w.heap.size w wr) (fun n _ => c - (intOf n).toNat)
  case atStart => exact ⟨1, Nat.le_refl _, hc1, rfl, hrow2, hbel2⟩
  case round =>
    obtain ⟨k, hk1, hkc, rfl, hrow, hbel⟩ := hrel
    by_cases hlt : k < c
    · obtain ⟨m, hm⟩ : ∃ m, m = min k (c - k) := ⟨_, rfl⟩
      have hle : k ≤ c := by omega
      have hne : ¬ c = k := by omega
      have hnc : ¬ c < k := by omega
      have hrefl := RepG.refl w.heap.size (repRow s k c) (repRow s (k + m) c)
      have htrans : ∀ {A B C : World}, RepG w.heap.size (repRow s k c) (repRow s (k + m) c) A B → RepG w.heap.size (repRow s k c) (repRow s (k + m) c) B C → RepG w.heap.size (repRow s k c) (repRow s (k + m) c) A C := fun h h' => h.trans h'
      go_wp2_with fail
      refine wp_region_partsG (RepG w.heap.size (repRow s k c) (repRow s (k + m) c)) hrefl htrans (N := 8) (n := 48) (ks := [isV (.int .i64 k), isV (.slice (some ⟨w.heap.size, 0, none⟩) c c), isV (.int .i64 k), isV (.slice (some ⟨w.heap.size, k, none⟩) (c - k : Nat) (c - k : Nat)), isV (.slice (some ⟨w.heap.size, 0, none⟩) c c), isV (.int .i64 k), isV (.slice (some ⟨w.heap.size, 0, none⟩) k c), fun v W => v = .int .i64 m ∧ W.heap[w.heap.size]? = some (repObj s (k + m) c)]) (by decide +kernel) (by decide +kernel) (by decide +kernel) (by simp) rfl (by decide +kernel) ⟨steady_is _, steady_is _, steady_is _, steady_is _, steady_is _, steady_is _, steady_is _, fun v A B h hg => ⟨h.1, hg.new h.2⟩, trivial⟩ ?_ ?_
      · refine And.intro (fun ac W hO hU H => ?_) ?_
        · have h8 : ac.tmps[8]? = some (.int .i64 k) := (hO 8 rfl).trans rfl
          exact growOp_plain rfl (told_value hrefl (by simp [go_sem, h8]) rfl)
        refine And.intro (fun ac W hO hU H => ?_) ?_
        · have h7 : ac.tmps[7]? = some (.slice (some ⟨w.heap.size, 0, none⟩) c c) := (hO 7 rfl).trans rfl
          exact growOp_plain rfl (told_value hrefl (by simp [go_sem, h7]) rfl)
        refine And.intro (fun ac W hO hU H => ?_) ?_
        · have h8 : ac.tmps[8]? = some (.int .i64 k) := (hO 8 rfl).trans rfl
          exact growOp_plain rfl (told_value hrefl (by simp [go_sem, h8]) rfl)
        refine And.intro (fun ac W hO hU H => ?_) ?_
        · have h39 : ac.tmps[39]? = some (.slice (some ⟨w.heap.size, 0, none⟩) c c) := isV_get (W := W) (H 1 39 rfl)
          have h40 : ac.tmps[40]? = some (.int .i64 k) := isV_get (W := W) (H 2 40 rfl)
          exact growOp_plain rfl (told_value hrefl (by simp [go_sem, h39, h40, hle, hne]) rfl)
        refine And.intro (fun ac W hO hU H => ?_) ?_
        · have h7 : ac.tmps[7]? = some (.slice (some ⟨w.heap.size, 0, none⟩) c c) := (hO 7 rfl).trans rfl
          exact growOp_plain rfl (told_value hrefl (by simp [go_sem, h7]) rfl)
        refine And.intro (fun ac W hO hU H => ?_) ?_
        · have h8 : ac.tmps[8]? = some (.int .i64 k) := (hO 8 rfl).trans rfl
          exact growOp_plain rfl (told_value hrefl (by simp [go_sem, h8]) rfl)
        refine And.intro (fun ac W hO hU H => ?_) ?_
        · have h42 : ac.tmps[42]? = some (.slice (some ⟨w.heap.size, 0, none⟩) c c) := isV_get (W := W) (H 4 42 rfl)
          have h43 : ac.tmps[43]? = some (.int .i64 k) := isV_get (W := W) (H 5 43 rfl)
          exact growOp_plain rfl (told_value hrefl (by simp [go_sem, h42, h43, hnc]) rfl)
        refine And.intro (fun ac W hO hU H => ?_) ?_
        · have h41 : ac.tmps[41]? = some (.slice (some ⟨w.heap.size, k, none⟩) (c - k : Nat) (c - k : Nat)) := isV_get (W := W) (H 3 41 rfl)
          have h44 : ac.tmps[44]? = some (.slice (some ⟨w.heap.size, 0, none⟩) k c) := isV_get (W := W) (H 6 44 rfl)
          exact growOp_plain rfl (rep_copy rfl (eval_tmp h41) (eval_tmp h44) hk1 hlt hm rfl (hU.old hrow))
        exact trivial
      · intro W xs hU hks
        obtain ⟨y0, rfl, g0⟩ := holdAll_is hks
        obtain ⟨y1, rfl, g1⟩ := holdAll_is g0
        obtain ⟨y2, rfl, g2⟩ := holdAll_is g1
        obtain ⟨y3, rfl, g3⟩ := holdAll_is g2
        obtain ⟨y4, rfl, g4⟩ := holdAll_is g3
        obtain ⟨y5, rfl, g5⟩ := holdAll_is g4
        obtain ⟨y6, rfl, g6⟩ := holdAll_is g5
        obtain ⟨v7, y7, rfl, q7, g7⟩ := holdAll_cons g6
        obtain rfl := holdAll_nil g7
        clear hks g0 g1 g2 g3 g4 g5 g6 g7
        simp only [List.take_succ_cons, List.take_zero, List.drop_succ_cons, List.drop_zero, endTmps, List.setIfInBounds_toArray, List.set]
        have hw1 : IntKind.i64.wrap ((k : Int) + m) = ((k + m : Nat) : Int) := (IntWalk.i64_left _).trans ((IntWalk.wrap64_in _ ⟨by omega, by omega⟩).trans (by omega))
        have hbW : Below w.heap.size w W := ⟨hU.os.trans hbel.os, hU.tape.trans hbel.tape, hU.output.trans hbel.output, Nat.le_trans hbel.size hU.size, fun i hi => (hU.block i (by omega) (Nat.lt_of_lt_of_le hi hbel.size)).trans (hbel.block i hi)⟩
        obtain ⟨rfl, hrow'⟩ := q7
        go_wp2_with fail
        go_roundw
        case rel => exact ⟨k + m, by omega, by omega, by go_num, hrow', hbW⟩
        case measure => simp [intOf]; omega
    · obtain rfl : k = c := by omega
      go_wp2_with fail
      go_ret
      exact ⟨_, rfl, Nat.le_refl _, hrow, hbel⟩

theorem grow_alloc {P : Program} {V : Kd} {W : World} {r : Result Next} {v : Value} {o : Obj} (h : r = .ok (.value v) (W.alloc o)) (hv : V v (W.alloc o)) : growUpon P Ups V W r := by
  subst h
  exact ⟨hv, (Below.refl _ _).alloc (Nat.le_refl _) _⟩
theorem alloc_at (W : World) (o : Obj) : (W.alloc o).heap[W.heap.size]? = some o := by
  show (W.heap.push _)[W.heap.size]? = _
  simp

/-- What flash.New makes. -/
def newF (pages size : Int) : Fl × Int :=
  if pages < 1 ∨ 6 < pages ∨ size < 1 ∨ 8192 < size then (⟨[], [], 0, ⟨#[]⟩, false⟩, 1)
  else (⟨List.replicate pages.toNat (onesT size.toNat), List.replicate pages.toNat 0, -1, ⟨#[]⟩, false⟩, 0)

theorem texts_rep {W : World} {g c : Nat} {s : ByteArray} (h : W.heap[g]? = some (repObj s c c)) : TextsAt W (.slice (some ⟨g, 0, none⟩) c c) (List.replicate c s) := by
  refine ⟨_, c, by rw [List.length_replicate], fun _ => ⟨g, 0, rfl, fun j hj => ?_⟩⟩
  rw [List.length_replicate] at hj
  rw [Nat.zero_add, cell_of h, List.getElem?_toArray, repRow_at s c c j hj]
  simp [hj]
def zeroObj (c : Nat) : Obj := .cells (madeCells #[.int .i64 0] c) 3 (0, 0)
theorem ints_zero {W : World} {g c : Nat} (h : W.heap[g]? = some (zeroObj c)) : IntsAt W (.slice (some ⟨g, 0, none⟩) c c) (List.replicate c 0) := by
  refine ⟨_, c, by rw [List.length_replicate], fun _ => ⟨g, 0, rfl, fun j hj => ?_⟩⟩
  rw [List.length_replicate] at hj
  have e : madeCells #[Value.int .i64 0] c = (List.replicate c (Value.int .i64 0)).toArray := by
    apply Array.ext'
    rw [toList_madeCells_one]
  rw [Nat.zero_add, cell_of h, e]
  simp [hj]
theorem info_i64 : (Tryz.prog.info? 3).map (fun i => (i.zero, i.size, i.bytes)) = some (some (.int .i64 0), 1, 8) := by kernel_rfl

set_option maxRecDepth 100000 in
set_option maxHeartbeats 2000000 in
theorem new_calls (pages size : Int) (w : World) :
    Calls Tryz.prog 28 #[.int .i64 pages, .int .i64 size] w fun e W' => ∃ v', e = .returned (.tuple #[v', .int .i64 (newF pages size).2]) ∧ FlAt W' v' (newF pages size).1 ∧ Ups w W' ∧ ∀ B, B < w.heap.size → FlOff B v' := by
  by_cases hr : pages < 1 ∨ 6 < pages ∨ size < 1 ∨ 8192 < size
  · have he : newF pages size = (⟨[], [], 0, ⟨#[]⟩, false⟩, 1) := by rw [newF, if_pos hr]
    rw [he]
    clear he
    have fin : ∀ W, Ups w W → FlAt W (.agg #[.slice none 0 0, .slice none 0 0, .int .i64 0, .string { data := #[] }, .bool false]) ⟨[], [], 0, ⟨#[]⟩, false⟩ := fun W _ => ⟨_, _, rfl, ⟨none, 0, rfl, fun h => absurd h (Nat.lt_irrefl 0)⟩, ⟨none, 0, rfl, fun h => absurd h (Nat.lt_irrefl 0)⟩⟩
    have hu : Ups w (w.alloc (.cells #[.slice none 0 0, .slice none 0 0, .int .i64 0, .string { data := #[] }, .bool false] 31)) := (Below.refl _ w).alloc (Nat.le_refl _) _
    have FIN := Lib.hid fin
    clear fin
    by_cases h1 : pages < 1
    · go_enter Tryz.func28, Tryz.ntmps28
      go_wp2_with fail
      refine bodyPost_ret (v := .tuple #[.agg #[.slice none 0 0, .slice none 0 0, .int .i64 0, .string { data := #[] }, .bool false], .int .i64 1]) ?_ rfl ⟨_, rfl, ?_⟩
      · simp [results, Tryz.results28, go_sem]
      · exact ⟨FIN.out _ hu, hu, fun B hB => FlOff.mk RowOff.none RowOff.none⟩
    by_cases h2 : 6 < pages
    · go_enter Tryz.func28, Tryz.ntmps28
      go_wp2_with fail
      refine bodyPost_ret (v := .tuple #[.agg #[.slice none 0 0, .slice none 0 0, .int .i64 0, .string { data := #[] }, .bool false], .int .i64 1]) ?_ rfl ⟨_, rfl, ?_⟩
      · simp [results, Tryz.results28, go_sem]
      · exact ⟨FIN.out _ hu, hu, fun B hB => FlOff.mk RowOff.none RowOff.none⟩
    by_cases h3 : size < 1
    · go_enter Tryz.func28, Tryz.ntmps28
      go_wp2_with fail
      refine bodyPost_ret (v := .tuple #[.agg #[.slice none 0 0, .slice none 0 0, .int .i64 0, .string { data := #[] }, .bool false], .int .i64 1]) ?_ rfl ⟨_, rfl, ?_⟩
      · simp [results, Tryz.results28, go_sem]
      · exact ⟨FIN.out _ hu, hu, fun B hB => FlOff.mk RowOff.none RowOff.none⟩
    have h4 : 8192 < size := by omega
    go_enter Tryz.func28, Tryz.ntmps28
    go_wp2_with fail
    refine bodyPost_ret (v := .tuple #[.agg #[.slice none 0 0, .slice none 0 0, .int .i64 0, .string { data := #[] }, .bool false], .int .i64 1]) ?_ rfl ⟨_, rfl, ?_⟩
    · simp [results, Tryz.results28, go_sem]
    · exact ⟨FIN.out _ hu, hu, fun B hB => FlOff.mk RowOff.none RowOff.none⟩
  · obtain ⟨c, rfl⟩ : ∃ c : Nat, pages = c := ⟨pages.toNat, by omega⟩
    obtain ⟨m, rfl⟩ : ∃ m : Nat, size = m := ⟨size.toNat, by omega⟩
    have he : newF c m = (⟨List.replicate c (onesT m), List.replicate c 0, -1, ⟨#[]⟩, false⟩, 0) := by rw [newF, if_neg hr]; rfl
    rw [he]
    clear he
    have h1 : ¬ (c : Int) < 1 := by omega
    have h2 : ¬ (6 : Int) < c := by omega
    have h3 : ¬ (m : Int) < 1 := by omega
    have h4 : ¬ (8192 : Int) < m := by omega
    have hmk := run_make_row' (P := Tryz.prog) 29 3 (.int .i64 0) 8 Tryz.underlying29 info_i64 rfl .i64 .i64 c (by omega) (by omega)
    have hu : Ups w (w.alloc (.cells #[.slice none 0 0, .slice none 0 0, .int .i64 0, .string { data := #[] }, .bool false] 31)) := (Below.refl _ w).alloc (Nat.le_refl _) _
    have hz0 : (w.alloc (.cells #[.slice none 0 0, .slice none 0 0, .int .i64 0, .string { data := #[] }, .bool false] 31)).heap[w.heap.size]? = some (.cells #[.slice none 0 0, .slice none 0 0, .int .i64 0, .string { data := #[] }, .bool false] 31) := alloc_at w _
    have hlt : w.heap.size < (w.alloc (.cells #[.slice none 0 0, .slice none 0 0, .int .i64 0, .string { data := #[] }, .bool false] 31)).heap.size := (Array.getElem?_eq_some_iff.1 hz0).1
    go_enter Tryz.func28, Tryz.ntmps28
    go_wp2_with fail
    refine wp_region_parts (N := 8) (n := 29) (ks := [isV (.int .i64 m), isV (.string (onesT m)), fun v W => ∃ b, v = .slice (some ⟨b, 0, none⟩) 1 1 ∧ W.cell? ⟨b, 0, none⟩ = some (.string (onesT m)), isV (.int .i64 c), fun v W => ∃ g, v = .slice (some ⟨g, 0, none⟩) c c ∧ W.heap[g]? = some (repObj (onesT m) c c) ∧ w.heap.size < g, isV (.int .i64 c), fun v W => ∃ g, v = .slice (some ⟨g, 0, none⟩) c c ∧ W.heap[g]? = some (zeroObj c) ∧ w.heap.size < g, fun v W => ∃ g g', v = .agg #[.slice (some ⟨g, 0, none⟩) c c, .slice (some ⟨g', 0, none⟩) c c, .int .i64 (-1), .string ⟨#[]⟩, .bool false] ∧ W.heap[g]? = some (repObj (onesT m) c c) ∧ W.heap[g']? = some (zeroObj c) ∧ w.heap.size < g ∧ w.heap.size < g']) (by decide +kernel) (by decide +kernel) (by decide +kernel) (by simp) rfl (by decide +kernel) ⟨steady_is _, steady_is _, fun _ _ _ ⟨b, e, h⟩ hu => ⟨b, e, cell_ups hu h⟩, steady_is _, fun _ _ _ ⟨g, e, h, hl⟩ hu => ⟨g, e, block_ups h hu, hl⟩, steady_is _, fun _ _ _ ⟨g, e, h, hl⟩ hu => ⟨g, e, block_ups h hu, hl⟩, fun _ _ _ ⟨g, g', e, h, h', hl⟩ hu => ⟨g, g', e, block_ups h hu, block_ups h' hu, hl⟩, trivial⟩ ?_ ?_
    · refine And.intro (fun ac W hO hU H => ?_) ?_
      · have h1 : ac.tmps[1]? = some (.int .i64 m) := (hO 1 rfl).trans rfl
        exact growOp_plain rfl (parts_value (by simp [go_sem, h1]))
      refine And.intro (fun ac W hO hU H => ?_) ?_
      · have h21 : ac.tmps[21]? = some (.int .i64 m) := isV_get (W := W) (H 0 21 rfl)
        exact growOp_plain rfl (parts_call_is (args := #[.int .i64 m]) (by simp [go_sem, h21]) (oones_t m W (by omega)))
      refine And.intro (fun ac W hO hU H => ?_) ?_
      · have h22 : ac.tmps[22]? = some (.string (onesT m)) := isV_get (W := W) (H 1 22 rfl)
        exact growOp_plain rfl (grow_alloc (by simp [go_sem, h22]; rfl) ⟨W.heap.size, rfl, by rw [cell_of (alloc_at W _)]; rfl⟩)
      refine And.intro (fun ac W hO hU H => ?_) ?_
      · have h0 : ac.tmps[0]? = some (.int .i64 c) := (hO 0 rfl).trans rfl
        exact growOp_plain rfl (parts_value (by simp [go_sem, h0]))
      refine And.intro (fun ac W hO hU H => ?_) ?_
      · obtain ⟨v23, h23, q23⟩ := H 2 23 rfl
        have h24 : ac.tmps[24]? = some (.int .i64 c) := isV_get (W := W) (H 3 24 rfl)
        obtain ⟨b, rfl, hb⟩ := q23
        refine growOp_plain rfl (parts_call (f := 54) (args := #[.slice (some ⟨b, 0, none⟩) 1 1, .int .i64 c]) (by simp [go_sem, h23, h24]) ?_)
        refine (repeat_calls (onesT m) b c W (by omega) (by omega) hb).mono ?_
        rintro e W' ⟨g, rfl, hg1, hg2, hu'⟩
        exact ⟨_, rfl, ⟨g, rfl, hg2, Nat.lt_of_lt_of_le (Nat.lt_of_lt_of_le hlt (drew_ups hU).size) hg1⟩, hu'⟩
      refine And.intro (fun ac W hO hU H => ?_) ?_
      · have h0 : ac.tmps[0]? = some (.int .i64 c) := (hO 0 rfl).trans rfl
        exact growOp_plain rfl (parts_value (by simp [go_sem, h0]))
      refine And.intro (fun ac W hO hU H => ?_) ?_
      · have h26 : ac.tmps[26]? = some (.int .i64 c) := isV_get (W := W) (H 5 26 rfl)
        exact growOp_plain rfl (grow_alloc (by simp [go_sem, h26, hmk]; rfl) ⟨W.heap.size, rfl, alloc_at W _, Nat.lt_of_lt_of_le hlt (drew_ups hU).size⟩)
      refine And.intro (fun ac W hO hU H => ?_) ?_
      · obtain ⟨v25, h25, q25⟩ := H 4 25 rfl
        obtain ⟨v27, h27, q27⟩ := H 6 27 rfl
        obtain ⟨g, rfl, hg, hl⟩ := q25
        obtain ⟨g', rfl, hg', hl'⟩ := q27
        exact growOp_plain rfl (growUpon_value (by simp [go_sem, h25, h27]) ⟨g, g', rfl, hg, hg', hl, hl'⟩)
      exact trivial
    · intro W xs hU hks
      obtain ⟨y0, rfl, g0⟩ := holdAll_is hks
      obtain ⟨y1, rfl, g1⟩ := holdAll_is g0
      obtain ⟨v2, y2, rfl, q2, g2⟩ := holdAll_cons g1
      obtain ⟨y3, rfl, g3⟩ := holdAll_is g2
      obtain ⟨v4, y4, rfl, q4, g4⟩ := holdAll_cons g3
      obtain ⟨y5, rfl, g5⟩ := holdAll_is g4
      obtain ⟨v6, y6, rfl, q6, g6⟩ := holdAll_cons g5
      obtain ⟨v7, y7, rfl, q7, g7⟩ := holdAll_cons g6
      obtain rfl := holdAll_nil g7
      clear hks g0 g1 g2 g3 g4 g5 g6 g7
      simp only [List.take_succ_cons, List.take_zero, List.drop_succ_cons, List.drop_zero, endTmps, List.setIfInBounds_toArray, List.set]
      have hzz := block_ups hz0 (drew_ups hU)
      obtain ⟨d0, d1, d2, d3, d4⟩ := block_cells hzz
      have y0 := block_frozen hzz 0
      have y1 := block_frozen hzz 1
      have y2 := block_frozen hzz 2
      have y3 := block_frozen hzz 3
      have y4 := block_frozen hzz 4
      have huW := Ups.trans hu (drew_ups hU)
      obtain ⟨g, g', rfl, hg, hg', hgw, hgw'⟩ := q7
      have HT := Lib.hid (texts_rep hg)
      have HI := Lib.hid (ints_zero hg')
      clear hzz hg hg' hmk
      go_wp2_with fail
      refine bodyPost_ret (v := .tuple #[.agg #[.slice (some ⟨g, 0, none⟩) c c, .slice (some ⟨g', 0, none⟩) c c, .int .i64 (-1), .string { data := #[] }, .bool false], .int .i64 0]) ?_ rfl ⟨_, rfl, ?_⟩
      · simp [results, Tryz.results28, go_sem, d0, d1, d2, d3, d4]
      · have hoB : ∀ B, B ≤ w.heap.size → FlOff B (.agg #[.slice (some ⟨g, 0, none⟩) c c, .slice (some ⟨g', 0, none⟩) c c, .int .i64 (-1), .string { data := #[] }, .bool false]) := fun B hB => FlOff.mk (RowOff.fresh (by omega)) (RowOff.fresh (by omega))
        have hf : FlNew w (.agg #[.slice none 0 0, .slice none 0 0, .int .i64 0, .string { data := #[] }, .bool false]) _ _ _ := fl_stored (v' := .agg #[.slice (some ⟨g, 0, none⟩) c c, .slice (some ⟨g', 0, none⟩) c c, .int .i64 (-1), .string { data := #[] }, .bool false]) (f' := ⟨List.replicate c (onesT m), List.replicate c 0, -1, ⟨#[]⟩, false⟩) huW (Nat.le_refl _) ⟨_, _, rfl, HT.out, HI.out⟩ (hoB _ (Nat.le_refl _)) (fun B hB _ => hoB B (Nat.le_of_lt hB)) rfl
        exact ⟨hf.reads, hf.ups, fun B hB => hoB B (Nat.le_of_lt hB)⟩

end Go.Proofs.YtmabpnkdagipfaaGreat

/- The laws of layer 3, plain: no program. -/
namespace Go.Proofs.YtmabpnkdagipfaaGreat

/-! ### Bytes and texts -/
theorem bxor_xor (x y : UInt8) : xorB (xorB x y) y = x := u8x fun i hi => by simp [xorB]
theorem bxor_old (x y : UInt8) : xorB (xorB x y) x = y := u8x fun i hi => by
  simp [xorB]
  cases x.toBitVec[i] <;> cases y.toBitVec[i] <;> rfl
theorem bxor_self (x : UInt8) : xorB x x = 0 := u8x fun i hi => by simp [xorB]
theorem band_turn (x y z : UInt8) : andB (andB x y) z = andB (andB x z) y := u8x fun i hi => by
  simp [andB]
  cases x.toBitVec[i] <;> cases y.toBitVec[i] <;> cases z.toBitVec[i] <;> rfl
theorem band_join (x y z : UInt8) : andB (andB x y) z = andB x (andB y z) := u8x fun i hi => by
  simp [andB]
  cases x.toBitVec[i] <;> cases y.toBitVec[i] <;> cases z.toBitVec[i] <;> rfl
theorem band_twice (x y : UInt8) : andB (andB x y) y = andB x y := u8x fun i hi => by
  simp [andB]
theorem band_old (x y : UInt8) : andB (andB x y) x = andB x y := u8x fun i hi => by
  simp [andB]
  cases x.toBitVec[i] <;> cases y.toBitVec[i] <;> simp
theorem band_old' (x y : UInt8) : andB x (andB x y) = andB x y := u8x fun i hi => by
  simp [andB]
theorem bor_old' (x y : UInt8) : orB x (orB x y) = orB x y := u8x fun i hi => by
  simp [orB]
theorem bor_self (x : UInt8) : orB x x = x := u8x fun i hi => by simp [orB]
theorem bor_between (x y z : UInt8) : orB (andB x (orB y z)) (andB x y) = andB x (orB y z) := u8x fun i hi => by
  simp [orB, andB]
  cases x.toBitVec[i] <;> cases y.toBitVec[i] <;> cases z.toBitVec[i] <;> simp

theorem lxor_xor : ∀ a b : List UInt8, mixL xorB (mixL xorB a b) b = a
  | [], b => by rw [mixL_nil_left, mixL_nil_left]
  | x :: a, [] => by rw [mixL_nil, mixL_nil]
  | x :: a, y :: b => by rw [mixL_cons, mixL_cons, bxor_xor, lxor_xor a b]
theorem lxor_self : ∀ a : List UInt8, count (mixL xorB a a) = 0
  | [] => rfl
  | x :: a => by
    rw [mixL_cons, bxor_self]
    have := lxor_self a
    unfold count at this ⊢
    rw [List.map_cons, List.sum_cons, this]
    rfl
theorem lxor_old : ∀ a b : List UInt8, b.length ≤ a.length → count (mixL xorB (mixL xorB a b) a) = count b
  | [], b, h => by
    have : b = [] := List.eq_nil_of_length_eq_zero (by simpa using h)
    subst this
    rfl
  | x :: a, [], h => by rw [mixL_nil, lxor_self]; rfl
  | x :: a, y :: b, h => by
    rw [mixL_cons, mixL_cons, bxor_old]
    have := lxor_old a b (by simpa using h)
    unfold count at this ⊢
    rw [List.map_cons, List.sum_cons, this, List.map_cons, List.sum_cons]
theorem land_turn : ∀ a b c : List UInt8, mixL andB (mixL andB a b) c = mixL andB (mixL andB a c) b
  | [], b, c => by simp only [mixL_nil_left]
  | x :: a, [], c => by simp only [mixL_nil]
  | x :: a, y :: b, [] => by simp only [mixL_nil]
  | x :: a, y :: b, z :: c => by simp only [mixL_cons]; rw [band_turn, land_turn a b c]
theorem land_join : ∀ a b c : List UInt8, b.length = c.length → mixL andB (mixL andB a b) c = mixL andB a (mixL andB b c)
  | [], b, c, _ => by simp only [mixL_nil_left]
  | x :: a, [], c, h => by
    have : c = [] := List.eq_nil_of_length_eq_zero (by simpa using h.symm)
    subst this
    simp only [mixL_nil]
  | x :: a, y :: b, [], h => by simp at h
  | x :: a, y :: b, z :: c, h => by simp only [mixL_cons]; rw [band_join, land_join a b c (by simpa using h)]
theorem land_twice : ∀ a b : List UInt8, mixL andB (mixL andB a b) b = mixL andB a b
  | [], b => by simp only [mixL_nil_left]
  | x :: a, [] => by simp only [mixL_nil]
  | x :: a, y :: b => by simp only [mixL_cons]; rw [band_twice, land_twice a b]
theorem land_self : ∀ a : List UInt8, mixL andB a a = a
  | [] => rfl
  | x :: a => by rw [mixL_cons, land_self a]; congr 1; exact u8x fun i hi => by simp [andB]
theorem lor_self : ∀ a : List UInt8, mixL orB a a = a
  | [] => rfl
  | x :: a => by rw [mixL_cons, lor_self a, bor_self]
theorem land_old : ∀ a b : List UInt8, mixL andB (mixL andB a b) a = mixL andB a b
  | [], b => by simp only [mixL_nil_left]
  | x :: a, [] => by simp only [mixL_nil]; exact land_self _
  | x :: a, y :: b => by simp only [mixL_cons]; rw [band_old, land_old a b]
theorem land_old' : ∀ a b : List UInt8, mixL andB a (mixL andB a b) = mixL andB a b
  | [], b => by simp only [mixL_nil_left]
  | x :: a, [] => by simp only [mixL_nil]; exact land_self _
  | x :: a, y :: b => by simp only [mixL_cons]; rw [band_old', land_old' a b]
theorem lor_old' : ∀ a b : List UInt8, mixL orB a (mixL orB a b) = mixL orB a b
  | [], b => by simp only [mixL_nil_left]
  | x :: a, [] => by simp only [mixL_nil]; exact lor_self _
  | x :: a, y :: b => by simp only [mixL_cons]; rw [bor_old', lor_old' a b]
theorem lor_between : ∀ a b c : List UInt8, b.length ≤ c.length → mixL orB (mixL andB a (mixL orB b c)) (mixL andB a b) = mixL andB a (mixL orB b c)
  | [], b, c, _ => by simp only [mixL_nil_left]
  | x :: a, [], c, _ => by simp only [mixL_nil_left, mixL_nil]; exact lor_self _
  | x :: a, y :: b, [], h => by simp at h
  | x :: a, y :: b, z :: c, h => by simp only [mixL_cons]; rw [bor_between, lor_between a b c (by simpa using h)]
theorem mixL_app {f : UInt8 → UInt8 → UInt8} : ∀ a a' b b' : List UInt8, a.length = a'.length → mixL f (a ++ b) (a' ++ b') = mixL f a a' ++ mixL f b b'
  | [], a', b, b', h => by
    have : a' = [] := List.eq_nil_of_length_eq_zero (by simpa using h.symm)
    subst this
    simp only [List.nil_append, mixL_nil]
  | x :: a, [], b, b', h => by simp at h
  | x :: a, y :: a', b, b', h => by simp only [List.cons_append, mixL_cons]; rw [mixL_app a a' b b' (by simpa using h)]

theorem text_app (a b : ByteArray) : (a ++ b).data.toList = a.data.toList ++ b.data.toList := by simp [ByteArray.data_append]
theorem onesT_list (n : Nat) : (onesT n).data.toList = List.replicate n 255 := bs_toList _
theorem zerosT_list (n : Nat) : (zerosT n).data.toList = List.replicate n 0 := bs_toList _
theorem count_zeros (n : Nat) : count (List.replicate n 0) = 0 := by
  induction n with
  | zero => rfl
  | succ n ih =>
    rw [List.replicate_succ]
    unfold count at ih ⊢
    rw [List.map_cons, List.sum_cons, ih]
    rfl
theorem pop_255 : pop 255 = 8 := by decide
theorem count_ones (n : Nat) : count (List.replicate n 255) = 8 * n := by
  induction n with
  | zero => rfl
  | succ n ih =>
    rw [List.replicate_succ]
    unfold count at ih ⊢
    rw [List.map_cons, List.sum_cons, ih, pop_255]
    omega

theorem xor_xor (a b : ByteArray) : xorT (xorT a b) b = a := text_ext (by unfold xorT; rw [bs_toList, bs_toList, lxor_xor])
theorem xor_self_count (a : ByteArray) : count (xorT a a).data.toList = 0 := by unfold xorT; rw [bs_toList, lxor_self]
theorem xor_old_count (a b : ByteArray) (h : b.size ≤ a.size) : count (xorT (xorT a b) a).data.toList = count b.data.toList := by
  unfold xorT
  rw [bs_toList, bs_toList, lxor_old]
  rw [toList_length, toList_length]
  exact h
theorem and_turn (a b c : ByteArray) : andT (andT a b) c = andT (andT a c) b := text_ext (by unfold andT; rw [bs_toList, bs_toList, bs_toList, bs_toList, land_turn])
theorem and_join (a b c : ByteArray) (h : b.size = c.size) : andT (andT a b) c = andT a (andT b c) := text_ext (by
  unfold andT
  rw [bs_toList, bs_toList, bs_toList, bs_toList, land_join _ _ _ (by rw [toList_length, toList_length]; exact h)])
theorem and_twice (a b : ByteArray) : andT (andT a b) b = andT a b := text_ext (by unfold andT; rw [bs_toList, bs_toList, land_twice])
theorem and_old (a b : ByteArray) : andT (andT a b) a = andT a b := text_ext (by unfold andT; rw [bs_toList, bs_toList, land_old])
theorem and_old' (a b : ByteArray) : andT a (andT a b) = andT a b := text_ext (by unfold andT; rw [bs_toList, bs_toList, land_old'])
theorem or_old' (a b : ByteArray) : orT a (orT a b) = orT a b := text_ext (by unfold orT; rw [bs_toList, bs_toList, lor_old'])
theorem or_between (a b c : ByteArray) (h : b.size ≤ c.size) : orT (andT a (orT b c)) (andT a b) = andT a (orT b c) := text_ext (by
  unfold orT andT
  rw [bs_toList, bs_toList, bs_toList, bs_toList, lor_between _ _ _ (by rw [toList_length, toList_length]; exact h)])
theorem and_behind (k : Nat) (s t : ByteArray) : andT (onesT k ++ s) (onesT k ++ t) = onesT k ++ andT s t := text_ext (by
  unfold andT
  rw [bs_toList, text_app, text_app, text_app, bs_toList, mixL_app _ _ _ _ rfl, land_self])

/-! ### Devices -/
theorem checkB_of {f : Fl} (h1 : 1 ≤ f.pages.length) (h2 : f.pages.length ≤ 6) (h3 : f.wear.length = f.pages.length) (h4 : f.torn.size ≤ 64) (h5 : ∀ z ∈ f.wear, 0 ≤ z ∧ z ≤ 2147483647)
    (h6 : ∀ s ∈ f.pages, 1 ≤ s.size ∧ s.size ≤ 8192 ∧ s.size = (oldT f 0).size) : checkB f = true := by
  unfold checkB
  simp only [Bool.and_eq_true, decide_eq_true_eq, Bool.not_eq_true', List.all_eq_true]
  refine ⟨⟨⟨⟨⟨h1, h2⟩, h3⟩, h4⟩, h5⟩, List.any_eq_false.2 fun s hs => ?_⟩
  have := h6 s hs
  unfold oldT at this
  unfold oddB
  simp only [Bool.or_eq_true, decide_eq_true_eq, not_or]
  omega
theorem oldT_set (f : Fl) (n i : Nat) (s : ByteArray) (hn : n < f.pages.length) : oldT { f with pages := f.pages.set n s } i = if i = n then s else oldT f i := by
  unfold oldT
  simp only [List.getD_eq_getElem?_getD, List.getElem?_set]
  by_cases h : n = i
  · subst h
    simp [hn]
  · have h' : ¬ i = n := fun e => h e.symm
    simp [h, h']
/-- A page of a device that stands is turned into one as long; whatever else is turned stands too. -/
theorem checkB_set {f g : Fl} (hc : checkB f = true) {n : Nat} {s : ByteArray} (hn : n < f.pages.length) (hs : s.size = (oldT f 0).size) (hp : g.pages = f.pages.set n s) (hw : g.wear.length = f.wear.length)
    (hz : ∀ z ∈ g.wear, 0 ≤ z ∧ z ≤ 2147483647) (ht : g.torn.size ≤ 64) : checkB g = true := by
  obtain ⟨h1, h2, h3, h4, h5, h6⟩ := check_facts hc
  have h0 := old_size hc (n := 0) h1
  have e0 : (oldT g 0).size = (oldT f 0).size := by
    have : oldT g 0 = oldT { f with pages := f.pages.set n s } 0 := by unfold oldT; rw [hp]
    rw [this, oldT_set f n 0 s hn]
    split
    · exact hs
    · rfl
  refine checkB_of (by rw [hp, List.length_set]; exact h1) (by rw [hp, List.length_set]; exact h2) (by rw [hw, hp, List.length_set]; exact h3) ht hz fun t ht' => ?_
  rw [hp] at ht'
  rw [e0]
  rcases List.mem_or_eq_of_mem_set ht' with hm | rfl
  · exact h6 t hm
  · omega
theorem checkB_same {f g : Fl} (hc : checkB f = true) (hp : g.pages = f.pages) (hw : g.wear = f.wear) (ht : g.torn.size ≤ 64) : checkB g = true := by
  obtain ⟨h1, h2, h3, h4, h5, h6⟩ := check_facts hc
  refine checkB_of (by rw [hp]; exact h1) (by rw [hp]; exact h2) (by rw [hw, hp]; exact h3) ht (by rw [hw]; exact h5) fun t ht' => ?_
  rw [hp] at ht'
  unfold oldT
  rw [hp]
  exact h6 t ht'
theorem hasB_of {f : Fl} (hc : checkB f = true) {n : Nat} (hn : n < f.pages.length) : hasB f n = true := by
  unfold hasB
  simp only [hc, Bool.true_and, Bool.and_eq_true, decide_eq_true_eq]
  omega
theorem standsB_of {f : Fl} (hc : checkB f = true) {n m k : Nat} (hn : n < f.pages.length) (hm : m + k ≤ (oldT f n).size) : standsB f n m k = true := by
  unfold standsB
  simp only [hasB_of hc hn, Bool.true_and, Bool.and_eq_true, decide_eq_true_eq, Int.toNat_natCast]
  omega
theorem set_back {α : Type} (l : List α) (n : Nat) (s : α) (d : α) (hn : n < l.length) : (l.set n s).set n (l.getD n d) = l := by
  rw [List.set_set]
  apply List.ext_getElem?
  intro i
  rw [List.getElem?_set]
  by_cases h : n = i
  · subst h
    simp [hn]
  · simp [h]

/-! ### Rots -/
theorem rots_plain {f X Y : Fl} {page at_ e g : Int} {turn : ByteArray} (hX : rotF f page at_ turn = (X, e)) (hY : rotF X page at_ turn = (Y, g)) :
    (e = 1 ∧ X = f) ∨ (e = 0 ∧ g = 0 ∧ Y = f ∧ turn.size ≤ 4 ∧ checkB f = true ∧ X.pages.length = f.pages.length ∧
      (∀ i, i < f.pages.length → (oldT X i).size ≤ 8192 ∧ (oldT f i).size ≤ 8192 ∧ count (xorT (oldT X i) (oldT f i)).data.toList = if (i : Int) = page then count turn.data.toList else 0)) := by
  unfold rotF at hX
  split at hX
  · rename_i hs
    simp only [Bool.and_eq_true, decide_eq_true_eq] at hs
    obtain ⟨hs, h4⟩ := hs
    obtain ⟨hc, n, rfl, hn, m, rfl, hm⟩ := stands_facts hs
    simp only [Int.toNat_natCast, Prod.mk.injEq] at hX
    obtain ⟨rfl, rfl⟩ := hX
    have hsz := old_size hc hn
    have hx : (xorT (oldT f n) (zerosT m ++ turn)).size = (oldT f 0).size := by rw [xorT_size]; exact hsz.2.2
    have hcX : checkB { f with pages := f.pages.set n (xorT (oldT f n) (zerosT m ++ turn)) } = true :=
      checkB_set hc hn hx rfl rfl (check_facts hc).2.2.2.2.1 (check_facts hc).2.2.2.1
    have hold := fun i => oldT_set f n i (xorT (oldT f n) (zerosT m ++ turn)) hn
    have hst : standsB { f with pages := f.pages.set n (xorT (oldT f n) (zerosT m ++ turn)) } n m turn.size = true :=
      standsB_of hcX (by simpa using hn) (by rw [hold, if_pos rfl, xorT_size]; exact hm)
    unfold rotF at hY
    rw [if_pos (by simp [hst, h4])] at hY
    simp only [Int.toNat_natCast, Prod.mk.injEq] at hY
    obtain ⟨rfl, rfl⟩ := hY
    refine .inr ⟨rfl, rfl, ?_, h4, hc, by simp, fun i hi => ?_⟩
    · rw [hold, if_pos rfl, xor_xor]
      simp only [oldT, set_back _ _ _ _ hn]
    · have hsi := old_size hc hi
      rw [hold]
      by_cases hin : i = n
      · subst hin
        rw [if_pos rfl, if_pos rfl]
        refine ⟨by rw [xorT_size]; omega, by omega, ?_⟩
        rw [xor_old_count _ _ (by rw [ByteArray.size_append, zerosT_size]; exact hm), text_app, count_append, zerosT_list, count_zeros, Nat.zero_add]
      · rw [if_neg hin, if_neg (by omega)]
        exact ⟨by omega, by omega, xor_self_count _⟩
  · simp only [Prod.mk.injEq] at hX
    exact .inl ⟨hX.2.symm, hX.1.symm⟩

/-! ### Programs and erases of a device that is awake and whose fuse has no end -/
theorem wake_facts {f W : Fl} {fuse e : Int} {torn : ByteArray} (h : wakeF f fuse torn = (W, e)) : (e = 1 ∧ W = f) ∨ (e = 0 ∧ checkB f = true ∧ torn.size ≤ 64 ∧ W = { f with dead := false, fuse := fuse, torn := torn } ∧ checkB W = true) := by
  unfold wakeF at h
  split at h
  · rename_i hs
    simp only [Bool.and_eq_true, decide_eq_true_eq] at hs
    simp only [Prod.mk.injEq] at h
    obtain ⟨rfl, rfl⟩ := h
    exact .inr ⟨rfl, hs.1, hs.2, rfl, checkB_same hs.1 rfl rfl hs.2⟩
  · simp only [Prod.mk.injEq] at h
    exact .inl ⟨h.2.symm, h.1.symm⟩
theorem program_on {f : Fl} (hd : f.dead = false) (hf : f.fuse = -1) (page at_ : Int) (s : ByteArray) :
    programF f page at_ s = if standsB f page at_ s.size then ({ f with pages := f.pages.set page.toNat (andT (oldT f page.toNat) (onesT at_.toNat ++ s)) }, 0) else (f, 1) := by
  unfold programF
  split
  · unfold stepF
    rw [hd, hf]
    simp
  · rfl

end Go.Proofs.YtmabpnkdagipfaaGreat

/- What ouroboroslaw03.Few comes to. -/
namespace Go.Proofs.YtmabpnkdagipfaaGreat
open Go.RowKit

set_option maxRecDepth 100000 in
set_option maxHeartbeats 2000000 in
theorem few_calls (f : Fl) (v : Value) (w : World) (h : FlAt w v f) (hf : FlFit f) :
    Calls Tryz.prog 20 #[v] w fun e W' => ∃ r : Bool, e = .returned (.bool r) ∧ (r = true → f.pages.length ≤ 8 ∧ f.wear.length ≤ 20) ∧ Ups w W' := by
  obtain ⟨p, q, rfl, ⟨a, c, rfl, hp⟩, ⟨a', c', rfl, _⟩⟩ := h
  have hu1 : Ups w (w.alloc (.cells #[.slice a f.pages.length c, .slice a' f.wear.length c', .int .i64 f.fuse, .string f.torn, .bool f.dead] 31)) := (Below.refl _ w).alloc (Nat.le_refl _) _
  have HP := Lib.hid hp
  have hf1 := hf.1
  have hf2 := hf.2.1
  clear hp hf
  go_enter Tryz.func20, Tryz.ntmps20
  go_wp2_with fail
  go_loop [3] (fun i => ∃ k : Nat, k ≤ f.pages.length ∧ i = .int .i64 k) (fun i => f.pages.length - (intOf i).toNat)
  case atStart => exact ⟨0, Nat.zero_le _, rfl⟩
  case round =>
    obtain ⟨k, hk, rfl⟩ := hrel
    have last : ∀ r : Bool, r = (decide ((f.pages.length : Int) ≤ 8) && decide ((f.wear.length : Int) ≤ 20)) → r = true → f.pages.length ≤ 8 ∧ f.wear.length ≤ 20 := by
      rintro r rfl h
      simp only [Bool.and_eq_true, decide_eq_true_eq] at h
      omega
    have LAST := Lib.hid last
    clear last
    by_cases ha : (k : Int) < f.pages.length
    · by_cases hb : (k : Int) ≤ 8
      · obtain ⟨b, off, rfl, hj⟩ := HP.out (by omega)
        have hc := hj k (by omega)
        have hbl := lt_of_cell hc
        simp only at hbl
        clear hj
        generalize f.pages.getD k ByteArray.empty = s at *
        by_cases h1 : (4000 : Int) < s.size
        · by_cases h2 : (s.size : Int) ≤ 8192
          · go_wp2_with fail
            exact bodyPost_ret (v := .bool false) (results_one rfl rfl) rfl (.inl ⟨rfl, hu1⟩)
          · go_wp2_with fail
            go_round
            case rel => exact ⟨k + 1, by omega, by go_num⟩
            case measure => simp [intOf]; omega
        · go_wp2_with fail
          go_round
          case rel => exact ⟨k + 1, by omega, by go_num⟩
          case measure => simp [intOf]; omega
      · by_cases h3 : (f.pages.length : Int) ≤ 8
        · omega
        · go_wp2_with fail
          exact bodyPost_ret (v := .bool false) (results_one rfl rfl) rfl (.inl ⟨rfl, hu1⟩)
    · by_cases h3 : (f.pages.length : Int) ≤ 8
      · by_cases h4 : (f.wear.length : Int) ≤ 20
        · go_wp2_with fail
          exact bodyPost_ret (v := .bool true) (results_one rfl rfl) rfl (.inr ⟨rfl, by omega, hu1⟩)
        · go_wp2_with fail
          exact bodyPost_ret (v := .bool false) (results_one rfl rfl) rfl (.inl ⟨rfl, hu1⟩)
      · go_wp2_with fail
        exact bodyPost_ret (v := .bool false) (results_one rfl rfl) rfl (.inl ⟨rfl, hu1⟩)

end Go.Proofs.YtmabpnkdagipfaaGreat

/- What ouroboroslaw03.works comes to: true. -/
namespace Go.Proofs.YtmabpnkdagipfaaGreat
open Go.RowKit

theorem up1 (W : World) (o : Obj) : Ups W (W.alloc o) := (Below.refl _ _).alloc (Nat.le_refl _) _
theorem up2 (W : World) (o o' : Obj) : Ups W ((W.alloc o).alloc o') := Ups.trans (up1 W o) (up1 _ o')
theorem lit_text (l : List UInt8) (W : World) (B : Nat) (hB : B = W.heap.size) :
    (convert 80 9 (.slice (some ⟨B, 0, none⟩) l.length l.length)).run Tryz.prog (W.alloc (.cells (cellsB l) 5)) = .ok (.string (bs l)) (W.alloc (.cells (cellsB l) 5)) := by
  subst hB
  exact run_convert_bytes_back (P := Tryz.prog) (W.alloc (.cells (cellsB l) 5)) 80 9 5 ⟨W.heap.size, 0, none⟩ l.length l Tryz.underlying80 Tryz.underlying5 Tryz.underlying9 (fun j hj => by
    rw [addr0, World.cell?_alloc_mark]
    exact cellsB_get _ j hj)
theorem w3_1 : newF 2 4 = ((⟨[(bs [255, 255, 255, 255]), (bs [255, 255, 255, 255])], [0, 0], -1, ⟨#[]⟩, false⟩ : Fl), 0) := by decide +kernel
theorem w3_2 : programF (⟨[(bs [255, 255, 255, 255]), (bs [255, 255, 255, 255])], [0, 0], -1, ⟨#[]⟩, false⟩ : Fl) 1 1 (bs [240]) = ((⟨[(bs [255, 255, 255, 255]), (bs [255, 240, 255, 255])], [0, 0], -1, ⟨#[]⟩, false⟩ : Fl), 0) := by decide +kernel
theorem w3_3 : programF (⟨[(bs [255, 255, 255, 255]), (bs [255, 240, 255, 255])], [0, 0], -1, ⟨#[]⟩, false⟩ : Fl) 1 1 (bs [15, 15]) = ((⟨[(bs [255, 255, 255, 255]), (bs [255, 0, 15, 255])], [0, 0], -1, ⟨#[]⟩, false⟩ : Fl), 0) := by decide +kernel
theorem w3_4 : eraseF (⟨[(bs [255, 255, 255, 255]), (bs [255, 0, 15, 255])], [0, 0], -1, ⟨#[]⟩, false⟩ : Fl) 1 = ((⟨[(bs [255, 255, 255, 255]), (bs [255, 255, 255, 255])], [0, 1], -1, ⟨#[]⟩, false⟩ : Fl), 0) := by decide +kernel
theorem w3_5 : wakeF (⟨[(bs [255, 255, 255, 255]), (bs [255, 255, 255, 255])], [0, 1], -1, ⟨#[]⟩, false⟩ : Fl) 0 (bs [3]) = ((⟨[(bs [255, 255, 255, 255]), (bs [255, 255, 255, 255])], [0, 1], 0, (bs [3]), false⟩ : Fl), 0) := by decide +kernel
theorem w3_6 : programF (⟨[(bs [255, 255, 255, 255]), (bs [255, 255, 255, 255])], [0, 1], 0, (bs [3]), false⟩ : Fl) 0 0 (bs [0, 0]) = ((⟨[(bs [252, 252, 255, 255]), (bs [255, 255, 255, 255])], [0, 1], 0, (bs [3]), true⟩ : Fl), 8) := by decide +kernel
theorem w3_7 : eraseF (⟨[(bs [252, 252, 255, 255]), (bs [255, 255, 255, 255])], [0, 1], 0, (bs [3]), true⟩ : Fl) 0 = ((⟨[(bs [252, 252, 255, 255]), (bs [255, 255, 255, 255])], [0, 1], 0, (bs [3]), true⟩ : Fl), 8) := by decide +kernel
theorem w3_8 : rotF (⟨[(bs [252, 252, 255, 255]), (bs [255, 255, 255, 255])], [0, 1], 0, (bs [3]), true⟩ : Fl) 0 2 (bs [1]) = ((⟨[(bs [252, 252, 254, 255]), (bs [255, 255, 255, 255])], [0, 1], 0, (bs [3]), true⟩ : Fl), 0) := by decide +kernel

theorem w3_check {v : Value} (W : World) (h : FlAt W v (⟨[(bs [255, 255, 255, 255]), (bs [255, 255, 255, 255])], [0, 0], -1, ⟨#[]⟩, false⟩ : Fl)) : Calls Tryz.prog 40 #[v] W fun e W' => e = .returned (.int .i64 0) ∧ Ups W W' := by
  have := check_calls _ v W h (by decide) (by decide)
  rwa [show checkB (⟨[(bs [255, 255, 255, 255]), (bs [255, 255, 255, 255])], [0, 0], -1, ⟨#[]⟩, false⟩ : Fl) = true by decide +kernel] at this
theorem w3_zero (W : World) : Calls Tryz.prog 40 #[.agg #[.slice none 0 0, .slice none 0 0, .int .i64 0, .string ⟨#[]⟩, .bool false]] W fun e W' => e = .returned (.int .i64 1) ∧ Ups W W' := by
  have := check_calls ⟨[], [], 0, ⟨#[]⟩, false⟩ _ W ⟨_, _, rfl, ⟨none, 0, rfl, fun h => absurd h (Nat.lt_irrefl 0)⟩, ⟨none, 0, rfl, fun h => absurd h (Nat.lt_irrefl 0)⟩⟩ (by decide) (by decide)
  rwa [show checkB ⟨[], [], 0, ⟨#[]⟩, false⟩ = false by decide +kernel] at this
theorem w3_same {v : Value} (W : World) (h : FlAt W v (⟨[(bs [255, 255, 255, 255]), (bs [255, 255, 255, 255])], [0, 0], -1, ⟨#[]⟩, false⟩ : Fl)) : Calls Tryz.prog 27 #[v, v] W fun e W' => e = .returned (.bool true) ∧ Ups W W' := by
  have := same_calls _ _ v v W h h (by decide) (by decide) (by decide) (by decide)
  rwa [show sameB (⟨[(bs [255, 255, 255, 255]), (bs [255, 255, 255, 255])], [0, 0], -1, ⟨#[]⟩, false⟩ : Fl) (⟨[(bs [255, 255, 255, 255]), (bs [255, 255, 255, 255])], [0, 0], -1, ⟨#[]⟩, false⟩ : Fl) = true by decide +kernel] at this
theorem w3_diff {v v' : Value} (W : World) (h : FlAt W v (⟨[(bs [255, 255, 255, 255]), (bs [255, 255, 255, 255])], [0, 0], -1, ⟨#[]⟩, false⟩ : Fl)) (h' : FlAt W v' (⟨[(bs [255, 255, 255, 255]), (bs [255, 240, 255, 255])], [0, 0], -1, ⟨#[]⟩, false⟩ : Fl)) : Calls Tryz.prog 27 #[v, v'] W fun e W' => e = .returned (.bool false) ∧ Ups W W' := by
  have := same_calls _ _ v v' W h h' (by decide) (by decide) (by decide) (by decide)
  rwa [show sameB (⟨[(bs [255, 255, 255, 255]), (bs [255, 255, 255, 255])], [0, 0], -1, ⟨#[]⟩, false⟩ : Fl) (⟨[(bs [255, 255, 255, 255]), (bs [255, 240, 255, 255])], [0, 0], -1, ⟨#[]⟩, false⟩ : Fl) = false by decide +kernel] at this

end Go.Proofs.YtmabpnkdagipfaaGreat

/- FlashFuse, plain: what the loop keeps. -/
namespace Go.Proofs.YtmabpnkdagipfaaGreat

/-- A device behind i erases of one page, of which the fuse lets n be. -/
structure Fused (f : Fl) (page n i : Nat) (S : Fl) : Prop where
  check : checkB S = true
  pages : S.pages.length = f.pages.length
  wear : S.wear.length = f.wear.length
  fit : FlFit S
  lives : i ≤ n → S.dead = false ∧ S.fuse = (n : Int) - i
  dies : n < i → S.dead = true
  worn : S.wear.getD page 0 = min (f.wear.getD page 0 + min n i) 2147483647

theorem wear_in {f : Fl} (hc : checkB f = true) {n : Nat} (h : n < f.pages.length) : 0 ≤ f.wear.getD n 0 ∧ f.wear.getD n 0 ≤ 2147483647 := by
  have hw : n < f.wear.length := by rw [(check_facts hc).2.2.1]; exact h
  refine (check_facts hc).2.2.2.2.1 _ ?_
  rw [List.getD_eq_getElem?_getD, List.getElem?_eq_getElem hw]
  exact List.getElem_mem _
theorem getD_set_same {α : Type} (l : List α) (n : Nat) (x d : α) (h : n < l.length) : (l.set n x).getD n d = x := by
  simp [List.getD_eq_getElem?_getD, h]
theorem mem_set_in {l : List Int} {n : Nat} {x : Int} (hl : ∀ z ∈ l, 0 ≤ z ∧ z ≤ 2147483647) (hx : 0 ≤ x ∧ x ≤ 2147483647) : ∀ z ∈ l.set n x, 0 ≤ z ∧ z ≤ 2147483647 := by
  intro z hz
  rcases List.mem_or_eq_of_mem_set hz with h | rfl
  · exact hl z h
  · exact hx

theorem fused_start {f W : Fl} {n page : Nat} (hf : FlFit f) (h : wakeF f n ⟨#[]⟩ = (W, 0)) (hn : n ≤ 1000) (hp : page < f.pages.length) : Fused f page n 0 W := by
  rcases wake_facts h with ⟨h0, _⟩ | ⟨_, hc, _, rfl, hW⟩
  · simp at h0
  · have hw := wear_in hc hp
    refine ⟨hW, rfl, rfl, ⟨hf.1, hf.2.1, by simp only; omega, by simp only; omega⟩, fun _ => ⟨rfl, by simp⟩, fun h => by omega, ?_⟩
    simp only
    omega

theorem fused_step {f S X : Fl} {page n i : Nat} {g : Int} (hp : page < f.pages.length) (h : Fused f page n i S) (hX : eraseF S page = (X, g)) :
    (g = if i < n then 0 else 8) ∧ X.dead = decide (n ≤ i) ∧ (n < i → X = S) ∧ Fused f page n (i + 1) X := by
  have hpS : page < S.pages.length := by rw [h.pages]; exact hp
  have hb := hasB_of h.check hpS
  have ho := old_size h.check hpS
  have hz := wear_in h.check hpS
  obtain ⟨c1, c2, c3, c4, c5, c6⟩ := check_facts h.check
  have hwl : page < S.wear.length := by rw [c3]; exact hpS
  have hw := h.worn
  unfold eraseF at hX
  rw [if_pos hb] at hX
  simp only [Int.toNat_natCast] at hX
  rcases Nat.lt_trichotomy i n with hi | hi | hi
  · obtain ⟨hd, hfu⟩ := h.lives (by omega)
    have e : stepF S page (onesT (oldT S page).size) (orT (oldT S page) (maskOf S)) = ({ S with pages := S.pages.set page (onesT (oldT S page).size), fuse := S.fuse - 1 }, 0) := by
      unfold stepF
      rw [hd, if_neg (by simp), if_neg (by omega), if_pos (by omega)]
    rw [e] at hX
    simp only [if_true, Prod.mk.injEq] at hX
    obtain ⟨rfl, rfl⟩ := hX
    refine ⟨by rw [if_pos hi], by simp only [hd]; symm; exact decide_eq_false (by omega), fun hh => by omega, ?_⟩
    refine ⟨checkB_set h.check hpS (by rw [onesT_size]; exact ho.2.2) rfl (by simp) (mem_set_in c5 (by omega)) c4, by simp [h.pages], by simp [h.wear], ?_, fun _ => ⟨hd, ?_⟩, fun hh => by omega, ?_⟩
    · exact ⟨by simpa using h.fit.1, by simpa using h.fit.2.1, by have := h.fit.2.2.1; simp only; omega, by have := h.fit.2.2.2; simp only; omega⟩
    · simp only
      omega
    · simp only
      rw [getD_set_same _ _ _ _ hwl]
      omega
  · subst hi
    obtain ⟨hd, hfu⟩ := h.lives (Nat.le_refl _)
    have e : stepF S page (onesT (oldT S page).size) (orT (oldT S page) (maskOf S)) = ({ S with pages := S.pages.set page (orT (oldT S page) (maskOf S)), dead := true }, 8) := by
      unfold stepF
      rw [hd, if_neg (by simp), if_pos (by omega)]
    rw [e] at hX
    simp only [show ¬ (8 : Int) = 0 by decide, if_false, Prod.mk.injEq] at hX
    obtain ⟨rfl, rfl⟩ := hX
    refine ⟨by rw [if_neg (by omega)], by simp, fun hh => by omega, ?_⟩
    refine ⟨checkB_set h.check hpS (by rw [orT_size]; exact ho.2.2) rfl rfl c5 c4, by simp [h.pages], h.wear, ?_, fun hh => by omega, fun _ => rfl, ?_⟩
    · exact ⟨by simpa using h.fit.1, h.fit.2.1, h.fit.2.2.1, h.fit.2.2.2⟩
    · simp only
      omega
  · have hd := h.dies hi
    have e : stepF S page (onesT (oldT S page).size) (orT (oldT S page) (maskOf S)) = (S, 8) := by
      unfold stepF
      rw [hd, if_pos rfl]
    rw [e] at hX
    simp only [show ¬ (8 : Int) = 0 by decide, if_false, Prod.mk.injEq] at hX
    obtain ⟨rfl, rfl⟩ := hX
    refine ⟨by rw [if_neg (by omega)], by rw [hd]; symm; exact decide_eq_true (by omega), fun _ => rfl, ?_⟩
    exact ⟨h.check, h.pages, h.wear, h.fit, fun hh => by omega, fun _ => hd, by omega⟩

end Go.Proofs.YtmabpnkdagipfaaGreat

/- FlashBetween, plain. -/
namespace Go.Proofs.YtmabpnkdagipfaaGreat

structure Torn (f A B C D : Fl) (n : Nat) (h i j k : Int) : Prop where
  dies : j = 8
  lives : k = 0
  cdead : C.dead = true
  ddead : D.dead = false
  cpages : C.pages.length = f.pages.length
  dpages : D.pages.length = f.pages.length
  dwear : D.wear.length = f.wear.length
  worn : D.wear.getD n 0 = min (f.wear.getD n 0 + 1) 2147483647
  over : orT (oldT f n) (oldT C n) = oldT C n
  cwear : C.wear = f.wear
  free : freeB D n = true
  more : (i = 1 ∧ h = 1) ∨ (i = 0 ∧ h = 8 ∧ A.dead = true ∧ A.wear = f.wear ∧ A.pages.length = f.pages.length ∧ B.pages.length = f.pages.length ∧
    (∀ m, m ≠ n → oldT A m = oldT f m ∧ oldT B m = oldT f m ∧ oldT C m = oldT f m ∧ oldT D m = oldT f m) ∧
    andT (oldT f n) (oldT A n) = oldT A n ∧ orT (oldT A n) (oldT B n) = oldT A n ∧ (oldT A n).size = (oldT f n).size ∧ (oldT B n).size = (oldT f n).size)
  csize : (oldT C n).size = (oldT f n).size

theorem oldT_pages {f g : Fl} (h : g.pages = f.pages) (i : Nat) : oldT g i = oldT f i := by unfold oldT; rw [h]
theorem oldT_put {f g : Fl} {n : Nat} {s : ByteArray} (h : g.pages = f.pages.set n s) (hn : n < f.pages.length) (i : Nat) : oldT g i = if i = n then s else oldT f i :=
  (oldT_pages (f := { f with pages := f.pages.set n s }) h i).trans (oldT_set f n i s hn)
theorem maskOf_size (f : Fl) : (maskOf f).size = (oldT f 0).size := by rw [maskOf, maskT_size]

theorem torn_plain {f W V A B C D : Fl} {at_ e g h i j k : Int} {n : Nat} {s torn : ByteArray} (hW : wakeF f 0 torn = (W, e)) (hV : wakeF f (-1) torn = (V, g)) (hA : programF W n at_ s = (A, h)) (hB : programF V n at_ s = (B, i))
    (hC : eraseF W n = (C, j)) (hD : eraseF V n = (D, k)) (he : e = 0) (hn : n < f.pages.length) : Torn f A B C D n h i j k := by
  rcases wake_facts hW with ⟨h1, _⟩ | ⟨_, hc, ht, rfl, hcW⟩
  · omega
  rcases wake_facts hV with ⟨h1, rfl⟩ | ⟨_, _, _, rfl, hcV⟩
  · unfold wakeF at hV
    rw [if_pos (by simp [hc, ht])] at hV
    simp only [Prod.mk.injEq] at hV
    omega
  have ho := old_size hc hn
  obtain ⟨c1, c2, c3, c4, c5, c6⟩ := check_facts hc
  have hwl : n < f.wear.length := by rw [c3]; exact hn
  have hz := wear_in hc hn
  have bW := hasB_of hcW (n := n) hn
  have bV := hasB_of hcV (n := n) hn
  have oW : ∀ x, oldT { f with dead := false, fuse := 0, torn := torn } x = oldT f x := fun x => rfl
  have oV : ∀ x, oldT { f with dead := false, fuse := -1, torn := torn } x = oldT f x := fun x => rfl
  unfold eraseF at hC hD
  rw [if_pos bW] at hC
  rw [if_pos bV] at hD
  simp only [stepF, Int.toNat_natCast, oW, Bool.false_eq_true, if_false, if_true, show ¬ (8 : Int) = 0 by decide, Prod.mk.injEq] at hC
  simp only [stepF, Int.toNat_natCast, oV, Bool.false_eq_true, if_false, if_true, show ¬ (-1 : Int) = 0 by decide, Prod.mk.injEq] at hD
  obtain ⟨hC, rfl⟩ := hC
  obtain ⟨hD, rfl⟩ := hD
  have pC : C.pages = f.pages.set n (orT (oldT f n) (maskOf { f with dead := false, fuse := 0, torn := torn })) := by rw [← hC]
  have pD : D.pages = f.pages.set n (onesT (oldT f n).size) := by rw [← hD]
  have wC : C.wear = f.wear := by rw [← hC]
  have wD : D.wear = f.wear.set n (min (f.wear.getD n 0 + 1) 2147483647) := by rw [← hD]
  have dC : C.dead = true := by rw [← hC]
  have dD : D.dead = false := by rw [← hD]
  have tD : D.torn = torn := by rw [← hD]
  clear hC hD
  have oC := oldT_put pC hn
  have oD := oldT_put pD hn
  have oCn := (oC n).trans (if_pos rfl)
  have oDn := (oD n).trans (if_pos rfl)
  refine ⟨rfl, rfl, dC, dD, by rw [pC, List.length_set], by rw [pD, List.length_set], by rw [wD, List.length_set], by rw [wD, getD_set_same _ _ _ _ hwl], ?_, wC, ?_, ?_, ?_⟩
  · rw [oCn, or_old']
  · have hcD : checkB D = true := checkB_set hc hn (by rw [onesT_size]; exact ho.2.2) pD (by rw [wD, List.length_set]) (by rw [wD]; exact mem_set_in c5 (by omega)) (by rw [tD]; exact ht)
    have hh := hasB_of hcD (n := n) (by rw [pD, List.length_set]; exact hn)
    unfold freeB
    rw [hh, Int.toNat_natCast, oDn, onesT_list, count_ones, onesT_size]
    simp
  · cases hs : standsB { f with dead := false, fuse := -1, torn := torn } n at_ s.size with
    | false =>
      have hs' : standsB { f with dead := false, fuse := 0, torn := torn } n at_ s.size = false := hs
      unfold programF at hA hB
      rw [if_neg (by rw [hs]; simp)] at hB
      rw [if_neg (by rw [hs']; simp)] at hA
      simp only [Prod.mk.injEq] at hA hB
      exact .inl ⟨hB.2.symm, hA.2.symm⟩
    | true =>
      have hs' : standsB { f with dead := false, fuse := 0, torn := torn } n at_ s.size = true := hs
      obtain ⟨_, n', e1, _, m, rfl, hm⟩ := stands_facts hs
      obtain rfl : n = n' := by omega
      unfold programF at hA hB
      rw [if_pos hs] at hB
      rw [if_pos hs'] at hA
      simp only [stepF, Int.toNat_natCast, oW, Bool.false_eq_true, if_false, if_true, Prod.mk.injEq] at hA
      simp only [stepF, Int.toNat_natCast, oV, Bool.false_eq_true, if_false, show ¬ (-1 : Int) = 0 by decide, Prod.mk.injEq] at hB
      obtain ⟨hA, rfl⟩ := hA
      obtain ⟨hB, rfl⟩ := hB
      have pA : A.pages = f.pages.set n (andT (oldT f n) (orT (onesT m ++ s) (notT (maskOf { f with dead := false, fuse := 0, torn := torn })))) := by rw [← hA]
      have pB : B.pages = f.pages.set n (andT (oldT f n) (onesT m ++ s)) := by rw [← hB]
      have wA : A.wear = f.wear := by rw [← hA]
      have dA : A.dead = true := by rw [← hA]
      clear hA hB
      have oA := oldT_put pA hn
      have oB := oldT_put pB hn
      have oAn := (oA n).trans (if_pos rfl)
      have oBn := (oB n).trans (if_pos rfl)
      refine .inr ⟨rfl, rfl, dA, wA, by rw [pA, List.length_set], by rw [pB, List.length_set], fun x hx => ⟨(oA x).trans (if_neg hx), (oB x).trans (if_neg hx), (oC x).trans (if_neg hx), (oD x).trans (if_neg hx)⟩, ?_, ?_, ?_, ?_⟩
      · rw [oAn]
        exact and_old' _ _
      · rw [oAn, oBn]
        refine or_between _ _ _ ?_
        rw [ByteArray.size_append, onesT_size, notT_size, maskOf_size, oW]
        have := ho.2.2
        have hm' : m + s.size ≤ (oldT f n).size := hm
        omega
      · rw [oAn, andT_size]
      · rw [oBn, andT_size]
  · rw [oCn, orT_size]

end Go.Proofs.YtmabpnkdagipfaaGreat
