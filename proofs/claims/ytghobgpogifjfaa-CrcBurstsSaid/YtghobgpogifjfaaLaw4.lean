/- Plain facts on records, for the laws of layer 4. -/
import Derived.Test.YtghobgpogifjfaaWorks4
namespace Go.Proofs.Ytghobgpogifjfaa
open Go.RowKit

theorem clear_eq (s : ByteArray) : clearB s = clearT s := by
  unfold clearB clearT
  rw [Bool.eq_iff_iff, List.all_eq_true, decide_eq_true_eq]
  constructor
  · intro h
    apply text_ext
    rw [bs_toList]
    refine List.eq_replicate_iff.2 ⟨toList_length s, fun c hc => by simpa using h c hc⟩
  · intro h c hc
    rw [h, bs_toList] at hc
    simpa using (List.eq_of_mem_replicate hc)

theorem readT_make (s : ByteArray) : readT (makeT s) = (s, 0) := by
  have hz := makeT_size s
  have ha : halfA (makeT s) = sealT s := by
    apply text_ext
    unfold halfA
    rw [bs_toList, hz, makeT, show (sealT s ++ notT (sealT s)).data.toList = (sealT s).data.toList ++ (notT (sealT s)).data.toList by simp]
    exact List.take_left' (by rw [toList_length, sealT_size]; omega)
  have hb : halfB (makeT s) = notT (sealT s) := by
    apply text_ext
    unfold halfB
    rw [bs_toList, hz, makeT, show (sealT s ++ notT (sealT s)).data.toList = (sealT s).data.toList ++ (notT (sealT s)).data.toList by simp]
    exact List.drop_left' (by rw [toList_length, sealT_size]; omega)
  unfold readT
  rw [if_neg (by omega), ha, hb, if_pos rfl]
  have h1 : (sealT s).size = s.size + 4 := sealT_size s
  have h2 : (sealT s).extract 0 ((sealT s).size - 4) = s := by
    rw [h1, Nat.add_sub_cancel]
    apply text_ext
    simp [sealT, ByteArray.data_extract]
    exact List.take_of_length_le (by rw [toList_length]; exact Nat.le_refl _)
  unfold openT
  rw [if_neg (by omega), h2, if_pos rfl]

theorem readT_back (t : ByteArray) : ((readT t).2 = 0 ∧ makeT (readT t).1 = t) ∨ (readT t).2 = 2 ∧ (readT t).1 = bs [] := by
  rw [read_eq]
  unfold rreadT
  split
  · exact .inr ⟨rfl, rfl⟩
  · split
    · rename_i h
      exact .inl ⟨rfl, h⟩
    · exact .inr ⟨rfl, rfl⟩
theorem readT_size (t : ByteArray) : (readT t).1.size ≤ t.size := by
  rw [read_eq]
  unfold rreadT
  split
  · simp [bs_size]
  · split
    · simp
      exact Nat.min_le_right _ _
    · simp [bs_size]

/-! ### Bits -/
def orT (a b : ByteArray) : ByteArray := bs (mixL orB a.data.toList b.data.toList)
def andT (a b : ByteArray) : ByteArray := bs (mixL andB a.data.toList b.data.toList)
theorem orT_size (a b : ByteArray) : (orT a b).size = a.size := by rw [orT, bs_size, mixL_length, toList_length]
theorem andT_size (a b : ByteArray) : (andT a b).size = a.size := by rw [andT, bs_size, mixL_length, toList_length]
theorem or_t (a b : ByteArray) (w : World) (ha : a.size ≤ 140737488355328) (hb : b.size ≤ 140737488355328) :
    Calls Try.prog 34 #[.string a, .string b] w fun e w' => e = .returned (.string (orT a b)) ∧ Ups w w' := or_calls a b w ha hb
theorem and_t (a b : ByteArray) (w : World) (ha : a.size ≤ 140737488355328) (hb : b.size ≤ 140737488355328) :
    Calls Try.prog 35 #[.string a, .string b] w fun e w' => e = .returned (.string (andT a b)) ∧ Ups w w' := and_calls a b w ha hb

theorem mixL_split {f : UInt8 → UInt8 → UInt8} : ∀ (a b m : List UInt8), mixL f (a ++ b) m = mixL f a (m.take a.length) ++ mixL f b (m.drop a.length)
  | [], b, m => by simp [mixL_nil_left]
  | x :: a, b, [] => by simp [mixL_nil]
  | x :: a, b, y :: m => by
    show mixL f (x :: (a ++ b)) (y :: m) = _
    rw [mixL_cons, mixL_split a b m]
    simp [mixL_cons]

theorem u8x {x y : UInt8} (h : ∀ i (hi : i < 8), x.toBitVec[i] = y.toBitVec[i]) : x = y := UInt8.eq_of_toBitVec_eq (BitVec.eq_of_getElem_eq fun i hi => h i hi)
theorem bit_at {x y : UInt8} (h : x = y) (i : Nat) (hi : i < 8) : x.toBitVec[i] = y.toBitVec[i] := by rw [h]
/-- A byte and its turned one, bits added to both: nothing was added. -/
theorem orb_one (x m n : UInt8) (h : ~~~ (x ||| m) = ~~~ x ||| n) : x ||| m = x := by
  refine u8x fun i hi => ?_
  have := bit_at h i hi
  simp at this ⊢
  revert this
  cases x.toBitVec[i] <;> cases m.toBitVec[i] <;> simp
/-- A byte's and another's common bits, and those of the turned ones: they are one. -/
theorem and_one' (x y : UInt8) (h : ~~~ (x &&& y) = ~~~ x &&& ~~~ y) : x = y := by
  refine u8x fun i hi => ?_
  have := bit_at h i hi
  simp at this
  revert this
  cases x.toBitVec[i] <;> cases y.toBitVec[i] <;> simp

theorem notL_cons (x : UInt8) (a : List UInt8) : notL (x :: a) = ~~~ x :: notL a := by rw [notL_map, notL_map, List.map_cons]
theorem or_list : ∀ (a m n : List UInt8), notL (mixL orB a m) = mixL orB (notL a) n → mixL orB a m = a
  | [], m, _, _ => mixL_nil_left orB m
  | x :: a, [], n, h => mixL_nil orB _
  | x :: a, y :: m, [], h => by
    rw [mixL_cons, notL_cons, notL_cons, mixL_nil] at h
    simp only [List.cons.injEq] at h
    have h1 := orb_one x y 0 (by rw [UInt8.or_zero]; exact h.1)
    have h2 := or_list a m [] (by rw [mixL_nil]; exact h.2)
    rw [mixL_cons, h2]
    exact congrArg (· :: a) h1
  | x :: a, y :: m, z :: n, h => by
    rw [mixL_cons, notL_cons, notL_cons, mixL_cons] at h
    simp only [List.cons.injEq] at h
    have h1 := orb_one x y z h.1
    have h2 := or_list a m n h.2
    rw [mixL_cons, h2]
    exact congrArg (· :: a) h1
theorem and_list : ∀ (a b : List UInt8), b.length = a.length → notL (mixL andB a b) = mixL andB (notL a) (notL b) → a = b
  | [], [], _, _ => rfl
  | [], _ :: _, h, _ => by simp at h
  | _ :: _, [], h, _ => by simp at h
  | x :: a, y :: b, hl, h => by
    rw [mixL_cons, notL_cons, notL_cons, notL_cons, mixL_cons] at h
    simp only [List.cons.injEq] at h
    rw [and_one' x y h.1, and_list a b (by simpa using hl) h.2]

theorem make_toList (s : ByteArray) : (makeT s).data.toList = (sealT s).data.toList ++ notL (sealT s).data.toList := by
  rw [makeT, show (sealT s ++ notT (sealT s)).data.toList = (sealT s).data.toList ++ (notT (sealT s)).data.toList by simp, notT, bs_toList]
theorem notL_length (a : List UInt8) : (notL a).length = a.length := by rw [notL_map, List.length_map]

/-- What has more bits than a record, and reads, is the record. -/
theorem part_read (s m : ByteArray) : (readT (orT (makeT s) m)).2 = 0 ↔ orT (makeT s) m = makeT s := by
  constructor
  · intro h
    rcases readT_back (orT (makeT s) m) with ⟨_, hb⟩ | ⟨h2, _⟩
    · generalize (readT (orT (makeT s) m)).1 = v at hb
      have hs : v.size = s.size := by
        have := congrArg ByteArray.size hb
        rw [makeT_size, orT_size, makeT_size] at this
        omega
      have hl : (makeT v).data.toList = (orT (makeT s) m).data.toList := by rw [hb]
      rw [make_toList, orT, bs_toList, make_toList, mixL_split] at hl
      have hlen : (sealT v).data.toList.length = (sealT s).data.toList.length := by rw [toList_length, toList_length, sealT_size, sealT_size, hs]
      obtain ⟨e1, e2⟩ := List.append_inj hl (by rw [mixL_length]; exact hlen)
      rw [e1] at e2
      have := or_list _ _ _ e2
      rw [this] at e1
      have hse : sealT v = sealT s := text_ext e1
      have hm : makeT v = makeT s := by unfold makeT; rw [hse]
      exact hb.symm.trans hm
    · rw [h] at h2
      cases h2
  · intro h
    rw [h, readT_make]

theorem seal_inj (s t : ByteArray) (h : sealT s = sealT t) (hs : t.size = s.size) : s = t := by
  unfold sealT at h
  exact (append_inj h hs.symm).1

/-- What two records of one length have in common reads just where they are one. -/
theorem both_read (s t : ByteArray) (hs : t.size = s.size) : (readT (andT (makeT s) (makeT t))).2 = 0 ↔ s = t := by
  constructor
  · intro h
    rcases readT_back (andT (makeT s) (makeT t)) with ⟨_, hb⟩ | ⟨h2, _⟩
    · generalize (readT (andT (makeT s) (makeT t))).1 = v at hb
      have hv : v.size = s.size := by
        have := congrArg ByteArray.size hb
        rw [makeT_size, andT_size, makeT_size] at this
        omega
      have hl : (makeT v).data.toList = (andT (makeT s) (makeT t)).data.toList := by rw [hb]
      rw [make_toList, andT, bs_toList, make_toList, make_toList, mixL_split] at hl
      have hlen : (sealT v).data.toList.length = (sealT s).data.toList.length := by rw [toList_length, toList_length, sealT_size, sealT_size, hv]
      have hlt : (sealT t).data.toList.length = (sealT s).data.toList.length := by rw [toList_length, toList_length, sealT_size, sealT_size, hs]
      rw [← hlt, List.take_left, List.drop_left] at hl
      obtain ⟨e1, e2⟩ := List.append_inj hl (by rw [mixL_length]; exact hlen)
      rw [e1] at e2
      have := and_list _ _ hlt e2
      exact seal_inj s t (text_ext this) hs
    · rw [h] at h2
      cases h2
  · rintro rfl
    have : andT (makeT s) (makeT s) = makeT s := by
      unfold andT
      have : ∀ a : List UInt8, mixL andB a a = a := by
        intro a
        induction a with
        | nil => rfl
        | cons x a ih => rw [mixL_cons, ih]; simp [andB]
      rw [this, bs_of]
    rw [this, readT_make]

/-! ### Half of a record's bits are on -/
theorem u8_bits_pop (x : UInt8) : pop x + pop (~~~ x) = 8 := by
  have h : ∀ c : Fin 256, pop (UInt8.ofNat c.val) + pop (~~~ (UInt8.ofNat c.val)) = 8 := by decide +kernel
  have := h ⟨x.toNat, x.toNat_lt⟩
  simpa using this
theorem count_cons (x : UInt8) (a : List UInt8) : count (x :: a) = pop x + count a := by simp [count]
theorem count_not : ∀ a : List UInt8, count a + count (notL a) = 8 * a.length
  | [] => rfl
  | x :: a => by
    have := count_not a
    have hp := u8_bits_pop x
    rw [notL_cons, count_cons, count_cons, List.length_cons]
    omega
theorem make_count (s : ByteArray) : count (makeT s).data.toList = 4 * (makeT s).size := by
  rw [make_toList, count_append, count_not, makeT_size, toList_length, sealT_size]
  omega
theorem make_clear (s : ByteArray) : clearB (makeT s) = false := by
  unfold clearB
  rw [make_toList, List.all_append]
  have hl : (sealT s).data.toList.length = s.size + 4 := by rw [toList_length, sealT_size]
  cases hc : (sealT s).data.toList with
  | nil => rw [hc] at hl; simp at hl
  | cons x l =>
    rw [notL_cons, List.all_cons, List.all_cons]
    by_cases hx : x = 255
    · subst hx; simp
    · have : (x == 255) = false := by simpa using hx
      rw [this]
      simp
def onesT (n : Nat) : ByteArray := bs (List.replicate n 255)
theorem onesT_size (n : Nat) : (onesT n).size = n := by rw [onesT, bs_size, List.length_replicate]
theorem ones_clear (n : Nat) : clearB (onesT n) = true := by
  unfold clearB onesT
  rw [bs_toList, List.all_eq_true]
  intro c hc
  simpa using List.eq_of_mem_replicate hc
theorem ones_not (n : Nat) : (readT (onesT n)).2 = 2 := by
  rcases readT_back (onesT n) with ⟨_, h⟩ | ⟨h, _⟩
  · exfalso
    have h1 := make_clear (readT (onesT n)).1
    rw [h, ones_clear] at h1
    cases h1
  · exact h

end Go.Proofs.Ytghobgpogifjfaa
