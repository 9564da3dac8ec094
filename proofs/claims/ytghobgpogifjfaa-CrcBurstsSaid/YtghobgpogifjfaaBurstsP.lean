/- Plain facts on turned seals and turned records. -/
import Derived.Test.YtghobgpogifjfaaArr
import Derived.Test.YtghobgpogifjfaaLaw4
namespace Go.Proofs.Ytghobgpogifjfaa
open Go.RowKit

section
open Go.ChangeShapes Go.ChangeMaps
/-- '==' of the array and the array of zeros, in the walk's spelling. -/
theorem arr_eqlW (t0 t1 t2 t3 : UInt8) (W : World) :
    (Op.equalIn 10000 33 (.agg #[.int .u8 t0.toNat, .int .u8 t1.toNat, .int .u8 t2.toNat, .int .u8 t3.toNat]) (.agg #[.int .u8 0, .int .u8 0, .int .u8 0, .int .u8 0])).run Try.prog W = .ok (t0 == 0 && t1 == 0 && t2 == 0 && t3 == 0) W := by
  obtain ⟨i, hi⟩ : ∃ i, Try.prog.info? 5 = some i := by
    have := info_byte
    cases h : Try.prog.info? 5 with
    | none => rw [h] at this; simp at this
    | some i => exact ⟨i, rfl⟩
  have h1 := run_equalIn_array (P := Try.prog) W 9999 (arrCells t0 t1 t2 t3) (arrCells 0 0 0 0) Try.underlying33 hi
  rw [cells5, show List.range 4 = [0, 1, 2, 3] from rfl, eql_items 9998] at h1
  exact h1
end

theorem putL_le4 (n : Nat) : putL n 4 = Oc.le4 n := by
  have e1 : putL n 1 = [UInt8.ofNat n] := by simp [putL]
  have e2 := putL_succ n 1
  have e3 := putL_succ n 2
  have e4 := putL_succ n 3
  rw [e4, e3, e2, e1]
  rfl
theorem seal_list (s : ByteArray) : (sealT s).data.toList = Oc.seal4 s.data.toList := by
  rw [sealT, app_toList, bs_toList, putL_le4]
  rfl
theorem seal_residue (s : ByteArray) : Oc.on Oc.ones32 (sealT s).data.toList = Oc.residue := by rw [seal_list, Oc.on_seal4]

/-- A turned seal opens just where nothing was turned. -/
theorem open_turn (s : ByteArray) (k : Nat) (t0 t1 t2 t3 : UInt8) (hk : k ≤ s.size) : (openT (tXor (sealT s) (turnT k t0 t1 t2 t3))).2 = 0 ↔ zeros4 t0 t1 t2 t3 := by
  have hz := sealT_size s
  constructor
  · intro h
    rcases open_back (tXor (sealT s) (turnT k t0 t1 t2 t3)) with ⟨_, hb⟩ | ⟨h2, _⟩
    · have h1 := seal_residue (openT (tXor (sealT s) (turnT k t0 t1 t2 t3))).1
      rw [hb, ← seal_residue s] at h1
      exact (on_turn _ _ k t0 t1 t2 t3 (by omega)).1 h1
    · rw [h] at h2
      cases h2
  · intro h
    rw [(turn_same (sealT s) k t0 t1 t2 t3 (by omega)).2 h, open_seal]

/-! ### Records -/
theorem xorL_get (a b : List UInt8) (i : Nat) (h : b.length = a.length) : (Oc.xorL a b).getD i 0 = a.getD i 0 ^^^ b.getD i 0 := by
  unfold Oc.xorL
  rw [List.getD_eq_getElem?_getD, List.getD_eq_getElem?_getD, List.getD_eq_getElem?_getD, List.getElem?_zipWith]
  rcases Nat.lt_or_ge i a.length with hi | hi
  · rw [List.getElem?_eq_getElem hi, List.getElem?_eq_getElem (by omega)]
    rfl
  · rw [List.getElem?_eq_none hi, List.getElem?_eq_none (by omega)]
    rfl
theorem not_get (a : List UInt8) (i : Nat) (h : i < a.length) : (notL a).getD i 0 = ~~~ (a.getD i 0) := by
  rw [notL_map, List.getD_eq_getElem?_getD, List.getD_eq_getElem?_getD, List.getElem?_map, List.getElem?_eq_getElem h]
  rfl
theorem app_get_l (a b : List UInt8) (i : Nat) (h : i < a.length) : (a ++ b).getD i 0 = a.getD i 0 := by
  rw [List.getD_eq_getElem?_getD, List.getD_eq_getElem?_getD, List.getElem?_append_left h]
theorem app_get_r (a b : List UInt8) (i : Nat) : (a ++ b).getD (a.length + i) 0 = b.getD i 0 := by
  rw [List.getD_eq_getElem?_getD, List.getD_eq_getElem?_getD, List.getElem?_append_right (by omega), Nat.add_sub_cancel_left]
theorem xor_not (x y : UInt8) : ~~~ x ^^^ y = ~~~ (x ^^^ y) := u8x fun i hi => by simp
theorem not_inj8 {x y : UInt8} (h : ~~~ x = ~~~ y) : x = y := by
  refine u8x fun i hi => ?_
  have := bit_at h i hi
  simpa using this
theorem xor_can {x y z : UInt8} (h : x ^^^ y = x ^^^ z) : y = z := by
  refine u8x fun i hi => ?_
  have := bit_at h i hi
  simp at this
  revert this
  cases x.toBitVec[i] <;> cases y.toBitVec[i] <;> cases z.toBitVec[i] <;> simp

/-- The long turn's byte at a place. -/
def turnAt (k : Nat) (t0 t1 t2 t3 : UInt8) (i : Nat) : UInt8 := if i = k then t0 else if i = k + 1 then t1 else if i = k + 2 then t2 else if i = k + 3 then t3 else 0
theorem turn_get (k m : Nat) (t0 t1 t2 t3 : UInt8) (i : Nat) : (List.replicate k (0 : UInt8) ++ [t0, t1, t2, t3] ++ List.replicate m 0).getD i 0 = turnAt k t0 t1 t2 t3 i := by
  unfold turnAt
  rcases Nat.lt_or_ge i k with h | h
  · rw [if_neg (by omega), if_neg (by omega), if_neg (by omega), if_neg (by omega), List.append_assoc, app_get_l _ _ _ (by simpa using h)]
    rw [List.getD_eq_getElem?_getD, List.getElem?_replicate, if_pos h]
    rfl
  · obtain ⟨j, rfl⟩ : ∃ j, i = k + j := ⟨i - k, by omega⟩
    have e := app_get_r (List.replicate k (0 : UInt8)) ([t0, t1, t2, t3] ++ List.replicate m 0) j
    rw [List.length_replicate] at e
    rw [List.append_assoc, e]
    match j with
    | 0 => simp
    | 1 => simp
    | 2 => simp
    | 3 => simp
    | j + 4 =>
      rw [if_neg (by omega), if_neg (by omega), if_neg (by omega), if_neg (by omega)]
      show (List.replicate m (0 : UInt8)).getD j 0 = 0
      rw [List.getD_eq_getElem?_getD, List.getElem?_replicate]
      split <;> rfl

/-- A turned record reads just where nothing was turned. -/
theorem read_turn (s : ByteArray) (k : Nat) (t0 t1 t2 t3 : UInt8) (hk : k + 4 ≤ (makeT s).size) : (readT (tXor (makeT s) (turnT k t0 t1 t2 t3))).2 = 0 ↔ zeros4 t0 t1 t2 t3 := by
  have hz := makeT_size s
  constructor
  · intro h
    rcases readT_back (tXor (makeT s) (turnT k t0 t1 t2 t3)) with ⟨_, hb⟩ | ⟨h2, _⟩
    · generalize (readT (tXor (makeT s) (turnT k t0 t1 t2 t3))).1 = v at hb
      have hv : v.size = s.size := by
        have := congrArg ByteArray.size hb
        rw [makeT_size, tXor_size, makeT_size] at this
        omega
      have hl : (makeT v).data.toList = (tXor (makeT s) (turnT k t0 t1 t2 t3)).data.toList := by rw [hb]
      rw [turn_long (makeT s) k t0 t1 t2 t3 hk, make_toList v] at hl
      have hsl := make_toList s
      have la : (sealT s).data.toList.length = s.size + 4 := by rw [toList_length, sealT_size]
      have lv : (sealT v).data.toList.length = s.size + 4 := by rw [toList_length, sealT_size, hv]
      have lt : (List.replicate k (0 : UInt8) ++ [t0, t1, t2, t3] ++ List.replicate ((makeT s).size - (k + 4)) 0).length = (makeT s).data.toList.length := by rw [toList_length]; simp; omega
      -- at each place i of the first half, and i + h of the second
      have key : ∀ i, i < s.size + 4 → turnAt k t0 t1 t2 t3 i = turnAt k t0 t1 t2 t3 (s.size + 4 + i) := by
        intro i hi
        have g1 : (sealT v).data.toList.getD i 0 = (sealT s).data.toList.getD i 0 ^^^ turnAt k t0 t1 t2 t3 i := by
          have := congrArg (fun l : List UInt8 => l.getD i 0) hl
          rw [app_get_l _ _ _ (by omega), xorL_get _ _ _ lt, turn_get, hsl, app_get_l _ _ _ (by omega)] at this
          exact this
        have g2 : (notL (sealT v).data.toList).getD i 0 = (notL (sealT s).data.toList).getD i 0 ^^^ turnAt k t0 t1 t2 t3 (s.size + 4 + i) := by
          have e1 := app_get_r (sealT v).data.toList (notL (sealT v).data.toList) i
          have e2 := app_get_r (sealT s).data.toList (notL (sealT s).data.toList) i
          rw [lv] at e1
          rw [la] at e2
          have := congrArg (fun l : List UInt8 => l.getD (s.size + 4 + i) 0) hl
          rw [e1, xorL_get _ _ _ lt, turn_get, hsl, e2] at this
          exact this
        rw [not_get _ _ (by omega), not_get _ _ (by omega), xor_not, g1] at g2
        exact xor_can (not_inj8 g2)
      have none : ∀ i, i < 4 → turnAt k t0 t1 t2 t3 (k + i) = 0 := by
        intro i hi
        rcases Nat.lt_or_ge (k + i) (s.size + 4) with hlt | hge
        · rw [key _ hlt]
          unfold turnAt
          rw [if_neg (by omega), if_neg (by omega), if_neg (by omega), if_neg (by omega)]
        · have := key (k + i - (s.size + 4)) (by omega)
          rw [show s.size + 4 + (k + i - (s.size + 4)) = k + i by omega] at this
          rw [← this]
          unfold turnAt
          rw [if_neg (by omega), if_neg (by omega), if_neg (by omega), if_neg (by omega)]
      refine ⟨?_, ?_, ?_, ?_⟩
      · have := none 0 (by decide); simpa [turnAt] using this
      · have := none 1 (by decide); simpa [turnAt] using this
      · have := none 2 (by decide); simpa [turnAt] using this
      · have := none 3 (by decide); simpa [turnAt] using this
    · rw [h] at h2
      cases h2
  · intro h
    rw [(turn_same (makeT s) k t0 t1 t2 t3 hk).2 h, readT_make]

end Go.Proofs.Ytghobgpogifjfaa
