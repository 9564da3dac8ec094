/- Texts of this proof, one behind the other: Fl. -/
import Derived.Test.YtmabpnkdagipfaaGreatJ2
import Derived.Test.YtmabpnkdagipfaaGreatJ5
import Derived.Test.YtmabpnkdagipfaaGreatJ17

/- The flash as a value: rows of texts and of numbers behind slices; slices' library functions on them. -/
namespace Go.Proofs.YtmabpnkdagipfaaGreat
open Go.RowKit

/-- A slice of texts reads as l. -/
def TextsAt (W : World) (v : Value) (l : List ByteArray) : Prop :=
  ∃ a c, v = .slice a l.length c ∧ (0 < l.length → ∃ b off, a = some ⟨b, off, none⟩ ∧ ∀ j, j < l.length → W.cell? ⟨b, off + j, none⟩ = some (.string (l.getD j ByteArray.empty)))
/-- A slice of numbers reads as l. -/
def IntsAt (W : World) (v : Value) (l : List Int) : Prop :=
  ∃ a c, v = .slice a l.length c ∧ (0 < l.length → ∃ b off, a = some ⟨b, off, none⟩ ∧ ∀ j, j < l.length → W.cell? ⟨b, off + j, none⟩ = some (.int .i64 (l.getD j 0)))

theorem cell_ups {W W' : World} (hu : Ups W W') {p : Addr} {v : Value} (h : W.cell? p = some v) : W'.cell? p = some v := by
  have hlt : p.block < W.heap.size := by
    rcases Nat.lt_or_ge p.block W.heap.size with hl | hg
    · exact hl
    · exfalso
      unfold World.cell? at h
      rw [Array.getElem?_eq_none hg] at h
      simp at h
  rw [Below.cell hu hlt, h]

theorem TextsAt.ups {W W' : World} {v : Value} {l : List ByteArray} (h : TextsAt W v l) (hu : Ups W W') : TextsAt W' v l := by
  obtain ⟨a, c, rfl, hc⟩ := h
  refine ⟨a, c, rfl, fun h0 => ?_⟩
  obtain ⟨b, off, rfl, hj⟩ := hc h0
  exact ⟨b, off, rfl, fun j hlt => cell_ups hu (hj j hlt)⟩
theorem IntsAt.ups {W W' : World} {v : Value} {l : List Int} (h : IntsAt W v l) (hu : Ups W W') : IntsAt W' v l := by
  obtain ⟨a, c, rfl, hc⟩ := h
  refine ⟨a, c, rfl, fun h0 => ?_⟩
  obtain ⟨b, off, rfl, hj⟩ := hc h0
  exact ⟨b, off, rfl, fun j hlt => cell_ups hu (hj j hlt)⟩

theorem ups_drewN (W : World) (q : Nat) : Ups W (W.drewN q) := ⟨rfl, rfl, rfl, Nat.le_refl _, fun _ _ => rfl⟩

theorem equal_texts {W : World} {v v' : Value} {l l' : List ByteArray} (h : TextsAt W v l) (h' : TextsAt W v' l') (hl : l.length ≤ 1000000) (hl' : l'.length ≤ 1000000) :
    Calls Tryz.prog 52 #[v, v'] W fun e W' => e = .returned (.bool (decide (l = l'))) ∧ Ups W W' := by
  obtain ⟨a, c, rfl, hc⟩ := h
  obtain ⟨a', c', rfl, hc'⟩ := h'
  by_cases hn : l.length = l'.length
  · rcases Nat.eq_zero_or_pos l.length with h0 | h0
    · have e1 : l = [] := List.eq_nil_of_length_eq_zero h0
      have e2 : l' = [] := List.eq_nil_of_length_eq_zero (by omega)
      subst e1
      subst e2
      refine (Tryz.slices_Equal_string_empty a a' c 0 c' W (by decide)).mono ?_
      rintro e W' ⟨rfl, rfl⟩
      exact ⟨by simp, Ups.refl _⟩
    · obtain ⟨b, off, rfl, hj⟩ := hc h0
      obtain ⟨b', off', rfl, hj'⟩ := hc' (by omega)
      refine (Tryz.slices_Equal_string b off l.length c b' off' l'.length c' l l' W (Nat.le_refl _) (Nat.le_refl _) (by omega) (by omega) hj hj').mono ?_
      rintro e W' ⟨rfl, q, rfl⟩
      exact ⟨by simp, ups_drewN _ _⟩
  · refine (Tryz.slices_Equal_string_lens a a' l.length c l'.length c' W hn).mono ?_
    rintro e W' ⟨rfl, rfl⟩
    have : ¬ l = l' := fun e => hn (by rw [e])
    exact ⟨by simp [this], Ups.refl _⟩

theorem equal_ints {W : World} {v v' : Value} {l l' : List Int} (h : IntsAt W v l) (h' : IntsAt W v' l') (hl : l.length ≤ 1000000) (hl' : l'.length ≤ 1000000) :
    Calls Tryz.prog 53 #[v, v'] W fun e W' => e = .returned (.bool (decide (l = l'))) ∧ Ups W W' := by
  obtain ⟨a, c, rfl, hc⟩ := h
  obtain ⟨a', c', rfl, hc'⟩ := h'
  by_cases hn : l.length = l'.length
  · rcases Nat.eq_zero_or_pos l.length with h0 | h0
    · have e1 : l = [] := List.eq_nil_of_length_eq_zero h0
      have e2 : l' = [] := List.eq_nil_of_length_eq_zero (by omega)
      subst e1
      subst e2
      refine (Tryz.slices_Equal_int_empty a a' c 0 c' W (by decide)).mono ?_
      rintro e W' ⟨rfl, rfl⟩
      exact ⟨by simp, Ups.refl _⟩
    · obtain ⟨b, off, rfl, hj⟩ := hc h0
      obtain ⟨b', off', rfl, hj'⟩ := hc' (by omega)
      refine (Tryz.slices_Equal_int b off l.length c b' off' l'.length c' l l' W (Nat.le_refl _) (Nat.le_refl _) (by omega) (by omega) hj hj').mono ?_
      rintro e W' ⟨rfl, q, rfl⟩
      refine ⟨?_, ups_drewN _ _⟩
      rw [List.take_length, List.take_length]
      by_cases e : l = l' <;> simp [e]
  · refine (Tryz.slices_Equal_int_lens a a' l.length c l'.length c' W hn).mono ?_
    rintro e W' ⟨rfl, rfl⟩
    have : ¬ l = l' := fun e => hn (by rw [e])
    exact ⟨by simp [this], Ups.refl _⟩

theorem own_cells {W : World} {B e n : Nat} {v : Value} {xs : List Value} (h : W.ownsRow B e 1 v n xs) (h0 : 0 < n) :
    ∃ g cap cur, v = .slice (some ⟨g, 0, none⟩) n cap ∧ B ≤ g ∧ W.heap[g]? = some (.cells cur e (0, 0)) ∧ ∀ j, j < n → cur[j]? = xs[j]? := by
  obtain ⟨hl, ⟨_, h1⟩ | ⟨g, cap, cur, rfl, hB, hg, hn, _, _, ht⟩⟩ := h
  · omega
  · refine ⟨g, cap, cur, rfl, hB, hg, fun j hj => ?_⟩
    rw [← ht, List.getElem?_take_of_lt (by omega), Array.getElem?_toList]
theorem cell_of {W : World} {g e j : Nat} {cur : Array Value} (hg : W.heap[g]? = some (.cells cur e (0, 0))) : W.cell? ⟨g, j, none⟩ = cur[j]? := by
  unfold World.cell?
  rw [hg]
  simp

/-- A row of the call's own, read as texts. -/
theorem texts_of_own {W : World} {B e n : Nat} {v : Value} {l : List ByteArray} (hn : n = l.length) (h : W.ownsRow B e 1 v n (l.map Value.string)) : TextsAt W v l := by
  subst hn
  rcases Nat.eq_zero_or_pos l.length with h0 | h0
  · obtain ⟨_, ⟨rfl, _⟩ | ⟨g, cap, cur, rfl, _⟩⟩ := h
    · exact ⟨none, 0, by rw [h0], fun h => by omega⟩
    · exact ⟨_, cap, rfl, fun h => by omega⟩
  · obtain ⟨g, cap, cur, rfl, hB, hg, hc⟩ := own_cells h h0
    refine ⟨_, cap, rfl, fun _ => ⟨g, 0, rfl, fun j hj => ?_⟩⟩
    rw [Nat.zero_add, cell_of hg, hc j hj]
    simp [hj]
theorem ints_of_own {W : World} {B e n : Nat} {v : Value} {l : List Int} (hn : n = l.length) (h : W.ownsRow B e 1 v n (l.map (Value.int .i64))) : IntsAt W v l := by
  subst hn
  rcases Nat.eq_zero_or_pos l.length with h0 | h0
  · obtain ⟨_, ⟨rfl, _⟩ | ⟨g, cap, cur, rfl, _⟩⟩ := h
    · exact ⟨none, 0, by rw [h0], fun h => by omega⟩
    · exact ⟨_, cap, rfl, fun h => by omega⟩
  · obtain ⟨g, cap, cur, rfl, hB, hg, hc⟩ := own_cells h h0
    refine ⟨_, cap, rfl, fun _ => ⟨g, 0, rfl, fun j hj => ?_⟩⟩
    rw [Nat.zero_add, cell_of hg, hc j hj]
    simp [hj]

/-- A store into a row of the call's own. -/
theorem own_store {W : World} {B e n : Nat} {v : Value} {xs : List Value} (h : W.ownsRow B e 1 v n xs) (k : Nat) (hk : k < n) (u : Value) :
    ∃ g cap, v = .slice (some ⟨g, 0, none⟩) n cap ∧ B ≤ g ∧ (∃ x, W.cell? ⟨g, k, none⟩ = some x) ∧ W.frozen? ⟨g, k, none⟩ = false ∧ (W.setCell ⟨g, k, none⟩ u).ownsRow B e 1 v n (xs.set k u) := by
  have hh := h
  obtain ⟨hl, ⟨_, h1⟩ | ⟨g, cap, cur, rfl, hB, hg, hn, hm, hs, ht⟩⟩ := h
  · omega
  · refine ⟨g, cap, rfl, hB, ⟨cur[k]'(by omega), ?_⟩, ?_, ?_⟩
    · rw [cell_of hg]; exact Array.getElem?_eq_getElem (by omega)
    · unfold World.frozen?; rw [hg]; simp
    · refine ⟨by rw [List.length_set]; exact hl, .inr ⟨g, cap, cur.setIfInBounds k u, rfl, hB, ?_, hn, hm, by simpa using hs, ?_⟩⟩
      · simp [World.setCell, Array.getElem?_modify, hg]
      · rw [Array.toList_setIfInBounds, List.take_set, ht]

/-! ### The flash -/
structure Fl where
  pages : List ByteArray
  wear : List Int
  fuse : Int
  torn : ByteArray
  dead : Bool
deriving DecidableEq

/-- The value reads as that flash. -/
def FlAt (W : World) (v : Value) (f : Fl) : Prop := ∃ p q, v = .agg #[p, q, .int .i64 f.fuse, .string f.torn, .bool f.dead] ∧ TextsAt W p f.pages ∧ IntsAt W q f.wear
theorem FlAt.ups {W W' : World} {v : Value} {f : Fl} (h : FlAt W v f) (hu : Ups W W') : FlAt W' v f := by
  obtain ⟨p, q, rfl, h1, h2⟩ := h
  exact ⟨p, q, rfl, h1.ups hu, h2.ups hu⟩

end Go.Proofs.YtmabpnkdagipfaaGreat
