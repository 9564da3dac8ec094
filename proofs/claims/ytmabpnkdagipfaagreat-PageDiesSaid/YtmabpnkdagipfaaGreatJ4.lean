/- Texts of this proof, one behind the other: Tab, Fill. -/
import Derived.Laws.BitsAllLaws
import Derived.WalkSpells
import Derived.Outline
import Derived.Test.YtmabpnkdagipfaaGreatJ1
import Derived.Test.YtmabpnkdagipfaaGreatJ3

/- The table of package crc: filled once; a step by it. -/
namespace Go.Proofs.YtmabpnkdagipfaaGreat
open Go.RowKit

/-- The table's cells: done, the lock's two words, the rows. -/
def tabCells (d s : Int) (rows : List Int) : Array Value := (.int .u32 d :: .int .i32 s :: .int .u32 0 :: rows.map (Value.int .u32)).toArray
def tabObj (d s : Int) (rows : List Int) : Obj := .cells (tabCells d s rows) 126 (0, 0)

theorem tab_set0 (d d' s : Int) (rows : List Int) : (tabCells d s rows).setIfInBounds 0 (.int .u32 d') = tabCells d' s rows := by simp [tabCells]
theorem tab_set1 (d s s' : Int) (rows : List Int) : (tabCells d s rows).setIfInBounds 1 (.int .i32 s') = tabCells d s' rows := by simp [tabCells]
theorem tab_setRow (d s : Int) (rows : List Int) (i : Nat) (v : Int) : (tabCells d s rows).setIfInBounds (3 + i) (.int .u32 v) = tabCells d s (rows.set i v) := by
  unfold tabCells
  rw [List.setIfInBounds_toArray]
  have : 3 + i = i + 1 + 1 + 1 := by omega
  rw [this]
  simp [List.map_set]
theorem tab_get0 (d s : Int) (rows : List Int) : (tabCells d s rows)[0]? = some (.int .u32 d) := by simp [tabCells]
theorem tab_get1 (d s : Int) (rows : List Int) : (tabCells d s rows)[1]? = some (.int .i32 s) := by simp [tabCells]
theorem tab_getRow (d s : Int) (rows : List Int) (i : Nat) (h : i < rows.length) : (tabCells d s rows)[3 + i]? = some (.int .u32 rows[i]) := by
  unfold tabCells
  have : 3 + i = i + 1 + 1 + 1 := by omega
  rw [List.getElem?_toArray, this]
  simp [h]

/-- The table, as a call that laid it knows it: block B of the world W, in a world that is w but for it. -/
structure Tab (w W : World) (d s : Int) (rows : List Int) : Prop where
  own : Own w [tabObj d s rows] W
  len : rows.length = 16

section
variable {w W : World} {d s : Int} {rows : List Int}
theorem Tab.at0 (h : Tab w W d s rows) : W.cell? ⟨w.heap.size, 0, none⟩ = some (.int .u32 d) := h.own.cell _ 0 0 rfl rfl (tab_get0 _ _ _)
theorem Tab.at1 (h : Tab w W d s rows) : W.cell? ⟨w.heap.size, 1, none⟩ = some (.int .i32 s) := h.own.cell _ 0 1 rfl rfl (tab_get1 _ _ _)
theorem Tab.atRow (h : Tab w W d s rows) (i : Nat) (hi : i < rows.length) : W.cell? ⟨w.heap.size, 3 + i, none⟩ = some (.int .u32 rows[i]) := h.own.cell _ 0 _ rfl rfl (tab_getRow _ _ _ _ hi)
theorem Tab.frozen (h : Tab w W d s rows) (j : Nat) : W.frozen? ⟨w.heap.size, j, none⟩ = false := h.own.frozen _ 0 j rfl rfl
theorem Tab.drew (h : Tab w W d s rows) : Tab w W.drew d s rows := ⟨h.own.drew, h.len⟩
theorem Tab.set0 (h : Tab w W d s rows) (d' : Int) : Tab w (W.setCell ⟨w.heap.size, 0, none⟩ (.int .u32 d')) d' s rows := by
  refine ⟨?_, h.len⟩
  have := h.own.set 0 0 rfl (.int .u32 d') (B := w.heap.size) rfl
  rw [tab_set0] at this
  exact this
theorem Tab.set1 (h : Tab w W d s rows) (s' : Int) : Tab w (W.setCell ⟨w.heap.size, 1, none⟩ (.int .i32 s')) d s' rows := by
  refine ⟨?_, h.len⟩
  have := h.own.set 0 1 rfl (.int .i32 s') (B := w.heap.size) rfl
  rw [tab_set1] at this
  exact this
theorem Tab.setRow (h : Tab w W d s rows) (i : Nat) (v : Int) : Tab w (W.setCell ⟨w.heap.size, 3 + i, none⟩ (.int .u32 v)) d s (rows.set i v) := by
  refine ⟨?_, by rw [List.length_set]; exact h.len⟩
  have := h.own.set 0 (3 + i) rfl (.int .u32 v) (B := w.heap.size) rfl
  rw [tab_setRow] at this
  exact this
end

/-- The first k rows are told, the rest are as they were. -/
def rowsTo (k : Nat) : List Int := (List.range 16).map fun i => if i < k then ((Oc.Sk 4 i : Nat) : Int) else 0
theorem rowsTo_length (k : Nat) : (rowsTo k).length = 16 := by simp [rowsTo]
theorem rowsTo_set (k : Nat) : (rowsTo k).set k ((Oc.Sk 4 k : Nat) : Int) = rowsTo (k + 1) := by
  apply List.ext_getElem (by simp [rowsTo])
  intro i h1 h2
  rw [List.getElem_set]
  simp only [rowsTo, List.getElem_map, List.getElem_range]
  split
  · rename_i e
    subst e
    rw [if_pos (by omega)]
  · rename_i e
    by_cases hi : i < k
    · rw [if_pos hi, if_pos (by omega)]
    · rw [if_neg hi, if_neg (by omega)]

end Go.Proofs.YtmabpnkdagipfaaGreat

/- The table of package crc: its filling, walked. -/
namespace Go.Proofs.YtmabpnkdagipfaaGreat
open Go.RowKit

theorem low_bit (n : Nat) (h : n < 4294967296) : bits .and .u32 (n : Int) 1 = ((n % 2 : Nat) : Int) := by
  have := u32_and_nat n 1 h (by decide)
  rw [Nat.and_one_is_mod] at this
  exact this
theorem poly_bits (n : Nat) (h : n < 4294967296) : bits .xor .u32 (n : Int) 3988292384 = ((n ^^^ 3988292384 : Nat) : Int) := u32_xor_nat n 3988292384 h (by decide)

theorem Oc.Sk_succ (k n : Nat) : Oc.Sk (k + 1) n = Oc.S (Oc.Sk k n) := by
  have := Oc.Sk_add k 1 n
  exact this

set_option maxRecDepth 100000 in
theorem fill_calls {w W : World} (h : Tab w W 0 1 (rowsTo 0)) :
    Calls Tryz.prog 107 #[.pointer (some ⟨w.heap.size, 0, none⟩)] W fun e W' => e = .returned (.tuple #[]) ∧ Tab w W' 0 1 (rowsTo 16) := by
  go_enter Tryz.func107, Tryz.ntmps107
  go_wp2
  go_loopw [5] (fun i wr => ∃ k : Nat, k ≤ 16 ∧ i = .int .i64 k ∧ Tab w wr 0 1 (rowsTo k)) (fun i _ => 16 - (intOf i).toNat)
  case atStart => exact ⟨0, by decide, rfl, h⟩
  case round =>
    obtain ⟨k, hk, rfl, ht⟩ := hrel
    by_cases hlt : k < 16
    · go_wp2
      go_loop [3, 10] (fun n j => ∃ m : Nat, m ≤ 4 ∧ j = .int .i64 m ∧ n = .int .u32 (Oc.Sk m k)) (fun _ j => 4 - (intOf j).toNat)
      case atStart => exact ⟨0, by decide, rfl, by go_num⟩
      case round =>
        obtain ⟨m, hm, rfl, rfl⟩ := hrel
        by_cases hlm : m < 4
        · have hN := Oc.Sk_lt m k (by omega)
          have hS : Oc.Sk (m + 1) k = Oc.S (Oc.Sk m k) := Oc.Sk_succ m k
          generalize Oc.Sk m k = N at *
          have HS := Lib.hid hS
          clear hS
          have hl := low_bit N hN
          have hp := poly_bits (N / 2) (by omega)
          by_cases hodd : N % 2 = 1
          · rw [hodd] at hl
            have e2 : ((N : Int) / 2) = ((N / 2 : Nat) : Int) := by omega
            have HE := Lib.hid e2
            have HP := Lib.hid hp
            clear e2 hp
            go_wp2
            go_round
            case rel => exact ⟨m + 1, by omega, by go_num, by rw [HS.out, HE.out, HP.out, Oc.S, if_pos hodd]⟩
            case measure => simp [intOf]; omega
          · have he : N % 2 = 0 := by omega
            rw [he] at hl
            go_wp2
            go_round
            case rel => exact ⟨m + 1, by omega, by go_num, by rw [HS.out, Oc.S, if_neg hodd]; go_num⟩
            case measure => simp [intOf]; omega
        · obtain rfl : m = 4 := by omega
          have hc := ht.atRow k (by rw [rowsTo_length]; exact hlt)
          have hz := ht.frozen (3 + k)
          go_wp2
          go_roundw
          case rel =>
            have h2 := ht.setRow k ((Oc.Sk 4 k : Nat) : Int)
            rw [rowsTo_set] at h2
            exact ⟨k + 1, by omega, by go_num, h2⟩
          case measure => simp [intOf]; omega
    · obtain rfl : k = 16 := by omega
      go_wp2
      go_end0
      exact ⟨rfl, ht⟩

set_option maxRecDepth 100000 in
set_option maxHeartbeats 1600000 in
/-- '(*sync.Once).doSlow' at the table, not yet filled. -/
theorem slow_calls {w W : World} (h : Tab w W 0 0 (rowsTo 0)) :
    Calls Tryz.prog 109 #[.pointer (some ⟨w.heap.size, 0, none⟩), .func (.func 107) #[.pointer (some ⟨w.heap.size, 0, none⟩)] #[]] W fun e W' => e = .returned (.tuple #[]) ∧ Tab w W' 1 0 (rowsTo 16) := by
  have h1 := h.set1 1
  go_enter_defers Tryz.func109, Tryz.ntmps109
  go_wp2_with (first | (go_at_call 111; refine (once_lock ⟨w.heap.size, 1, none⟩ _ h.at1 (h.frozen 1)).mono ?_; rintro e w' ⟨rfl, rfl⟩) | (go_at_call 108; refine (once_load ⟨w.heap.size, 0, none⟩ 0 false _ h1.at0 rfl).mono ?_; rintro e w' ⟨rfl, rfl⟩) | (go_at_call 107; refine (fill_calls h1).mono ?_; rintro e w2 ⟨rfl, h2⟩))
  -- the door: two deferred calls, the last laid first
  have h3 := h2.drew.set0 1
  have h4 := h3.set1 0
  refine leaves_cons (f := 113) (args := #[.pointer (some ⟨w.heap.size, 0, none⟩), .bool true]) (by simp) (by simp [go_sem]) ?_
  refine (once_store ⟨w.heap.size, 0, none⟩ (.int .u32 0) .returning _ h2.at0 (h2.frozen 0)).mono ?_
  rintro e u' w'' ⟨rfl, rfl, rfl⟩
  refine leaves_cons (f := 112) (args := #[.pointer (some ⟨w.heap.size, 1, none⟩)]) (by simp [settle]) (by simp [go_sem]) ?_
  refine (once_unlock ⟨w.heap.size, 1, none⟩ _ _ h3.at1 (h3.frozen 1)).mono ?_
  rintro e u' w'' ⟨rfl, rfl, rfl⟩
  simp [Leaves, settle, results, Tryz.results109]
  exact h4

theorem do_first {w W : World} (h : Tab w W 0 0 (rowsTo 0)) :
    Calls Tryz.prog 106 #[.pointer (some ⟨w.heap.size, 0, none⟩), .func (.func 107) #[.pointer (some ⟨w.heap.size, 0, none⟩)] #[]] W fun e W' => e = .returned (.tuple #[]) ∧ Tab w W' 1 0 (rowsTo 16) := by
  go_enter Tryz.func106, Tryz.ntmps106
  go_wp2_with (first | (go_at_call 108; refine (once_load ⟨w.heap.size, 0, none⟩ 0 false _ h.at0 rfl).mono ?_; rintro e w' ⟨rfl, rfl⟩) | (go_at_call 109; refine (slow_calls h).mono ?_; rintro e w' ⟨rfl, h2⟩))
  go_end0
  exact ⟨rfl, h2⟩

theorem do_again {w W : World} (fv : Value) (h : Tab w W 1 0 (rowsTo 16)) :
    Calls Tryz.prog 106 #[.pointer (some ⟨w.heap.size, 0, none⟩), fv] W fun e W' => e = .returned (.tuple #[]) ∧ Tab w W' 1 0 (rowsTo 16) := by
  go_enter Tryz.func106, Tryz.ntmps106
  go_wp2_with (go_at_call 108; refine (once_load ⟨w.heap.size, 0, none⟩ 1 true _ h.at0 rfl).mono ?_; rintro e w' ⟨rfl, rfl⟩)
  go_end0
  exact ⟨rfl, h⟩

end Go.Proofs.YtmabpnkdagipfaaGreat
