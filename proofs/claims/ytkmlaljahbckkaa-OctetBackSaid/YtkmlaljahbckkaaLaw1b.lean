/- The laws of layer 1 (octet) on bits: walked. -/
import Derived.Test.YtkmlaljahbckkaaLaw1
namespace Go.Proofs.Ytkmlaljahbckkaa
open Go.RowKit

/-! ### The functions on texts -/
def tAnd (a b : ByteArray) : ByteArray := bs (mixL andB a.data.toList b.data.toList)
def tOr (a b : ByteArray) : ByteArray := bs (mixL orB a.data.toList b.data.toList)
def tXor (a b : ByteArray) : ByteArray := bs (mixL xorB a.data.toList b.data.toList)
def tNot (a : ByteArray) : ByteArray := bs (notL a.data.toList)
def tOnes (n : Int) : ByteArray := if n < 0 ∨ 100000 < n then bs [] else bs (List.replicate n.toNat 255)
def tCount (a : ByteArray) : Int := (count a.data.toList : Nat)

theorem and_t (a b : ByteArray) (w : World) (ha : a.size ≤ 140737488355328) (hb : b.size ≤ 140737488355328) :
    Calls Try.prog 21 #[.string a, .string b] w fun e w' => e = .returned (.string (tAnd a b)) ∧ Ups w w' := and_calls a b w ha hb
theorem or_t (a b : ByteArray) (w : World) (ha : a.size ≤ 140737488355328) (hb : b.size ≤ 140737488355328) :
    Calls Try.prog 22 #[.string a, .string b] w fun e w' => e = .returned (.string (tOr a b)) ∧ Ups w w' := or_calls a b w ha hb
theorem xor_t (a b : ByteArray) (w : World) (ha : a.size ≤ 140737488355328) (hb : b.size ≤ 140737488355328) :
    Calls Try.prog 23 #[.string a, .string b] w fun e w' => e = .returned (.string (tXor a b)) ∧ Ups w w' := xor_calls a b w ha hb
theorem not_t (a : ByteArray) (w : World) (ha : a.size ≤ 140737488355328) :
    Calls Try.prog 24 #[.string a] w fun e w' => e = .returned (.string (tNot a)) ∧ Ups w w' := not_calls a w ha
theorem count_t (a : ByteArray) (w : World) (ha : a.size ≤ 140737488355328) :
    Calls Try.prog 26 #[.string a] w fun e w' => e = .returned (.int .i64 (tCount a)) ∧ w = w' := count_calls a w ha
theorem ones_t (n : Int) (w : World) :
    Calls Try.prog 25 #[.int .i64 n] w fun e w' => e = .returned (.string (tOnes n)) ∧ Ups w w' := by
  by_cases h : n < 0 ∨ 100000 < n
  · refine (ones_none n w h).mono ?_
    rintro e w' ⟨rfl, rfl⟩
    exact ⟨by unfold tOnes; rw [if_pos h], Ups.refl _⟩
  · obtain ⟨m, rfl⟩ := Int.eq_ofNat_of_zero_le (by omega : 0 ≤ n)
    have := ones_calls m w (by omega)
    unfold tOnes
    rw [if_neg h]
    exact this
theorem rand_t (a b : ByteArray) (w : World) (ha : a.size ≤ 140737488355328) :
    Calls Try.prog 15 #[.string a, .string b] w fun e w' => e = .returned (.string (tAnd a b)) ∧ Ups w w' := ref_and a b w ha
theorem ror_t (a b : ByteArray) (w : World) (ha : a.size ≤ 140737488355328) :
    Calls Try.prog 16 #[.string a, .string b] w fun e w' => e = .returned (.string (tOr a b)) ∧ Ups w w' := ref_or a b w ha
theorem rxor_t (a b : ByteArray) (w : World) (ha : a.size ≤ 140737488355328) :
    Calls Try.prog 17 #[.string a, .string b] w fun e w' => e = .returned (.string (tXor a b)) ∧ Ups w w' := ref_xor a b w ha
theorem rnot_t (a : ByteArray) (w : World) (ha : a.size ≤ 100000) :
    Calls Try.prog 18 #[.string a] w fun e w' => e = .returned (.string (tNot a)) ∧ Ups w w' := ref_not a w ha
theorem rcount_t (a : ByteArray) (w : World) (ha : a.size ≤ 140737488355328) :
    Calls Try.prog 20 #[.string a] w fun e w' => e = .returned (.int .i64 (tCount a)) ∧ w = w' := ref_count a w ha
theorem rones_t (n : Int) (w : World) :
    Calls Try.prog 19 #[.int .i64 n] w fun e w' => e = .returned (.string (tOnes n)) ∧ Ups w w' := by
  by_cases h : n < 0 ∨ 100000 < n
  · refine (ref_ones_none n w h).mono ?_
    rintro e w' ⟨rfl, rfl⟩
    exact ⟨by unfold tOnes; rw [if_pos h], Ups.refl _⟩
  · obtain ⟨m, rfl⟩ := Int.eq_ofNat_of_zero_le (by omega : 0 ≤ n)
    have := ref_ones m w (by omega)
    unfold tOnes
    rw [if_neg h]
    exact this

/-! ### Plain -/
theorem tAnd_size (a b : ByteArray) : (tAnd a b).size = a.size := by rw [tAnd, bs_size, mixL_length, toList_length]
theorem tOr_size (a b : ByteArray) : (tOr a b).size = a.size := by rw [tOr, bs_size, mixL_length, toList_length]
theorem tXor_size (a b : ByteArray) : (tXor a b).size = a.size := by rw [tXor, bs_size, mixL_length, toList_length]
theorem tNot_size (a : ByteArray) : (tNot a).size = a.size := by rw [tNot, bs_size, notL_map, List.length_map, toList_length]

theorem mixL_app {f : UInt8 → UInt8 → UInt8} : ∀ (a b c d : List UInt8), b.length = a.length → mixL f (a ++ c) (b ++ d) = mixL f a b ++ mixL f c d
  | [], [], _, _, _ => by cases ‹List UInt8› <;> rfl
  | [], _ :: _, _, _, h => by simp at h
  | _ :: _, [], _, _, h => by simp at h
  | x :: a, y :: b, c, d, h => by
    show mixL f (x :: (a ++ c)) (y :: (b ++ d)) = _
    rw [mixL_cons, mixL_cons, mixL_app a b c d (by simpa using h)]
    rfl
theorem mixL_comm {f : UInt8 → UInt8 → UInt8} (hf : ∀ x y, f x y = f y x) : ∀ (a b : List UInt8), b.length = a.length → mixL f b a = mixL f a b
  | [], [], _ => rfl
  | [], _ :: _, h => by simp at h
  | _ :: _, [], h => by simp at h
  | x :: a, y :: b, h => by rw [mixL_cons, mixL_cons, mixL_comm hf a b (by simpa using h), hf]
theorem mixL_self {f : UInt8 → UInt8 → UInt8} (hf : ∀ x, f x x = x) : ∀ (a : List UInt8), mixL f a a = a
  | [] => rfl
  | x :: a => by rw [mixL_cons, mixL_self hf a, hf]
theorem not_not8 (x : UInt8) : ~~~ (~~~ x) = x := by simp
theorem notL_notL (a : List UInt8) : notL (notL a) = a := by
  rw [notL_map, notL_map, List.map_map]
  conv => rhs; rw [← List.map_id a]
  exact List.map_congr_left fun x _ => not_not8 x
theorem xor8_back (x y : UInt8) : xorB (xorB x y) y = x := by
  unfold xorB
  rw [UInt8.xor_assoc, UInt8.xor_self, UInt8.xor_zero]
theorem mixL_xor_back : ∀ (a b : List UInt8), mixL xorB (mixL xorB a b) b = a
  | [], _ => by rw [mixL_nil_left, mixL_nil_left]
  | _ :: _, [] => by rw [mixL_nil, mixL_nil]
  | x :: a, y :: b => by rw [mixL_cons, mixL_cons, mixL_xor_back a b, xor8_back]
theorem u8x {x y : UInt8} (h : ∀ i (hi : i < 8), x.toBitVec[i] = y.toBitVec[i]) : x = y := UInt8.eq_of_toBitVec_eq (BitVec.eq_of_getElem_eq fun i hi => h i hi)
theorem l1 (x y : UInt8) : x &&& (x ||| y) = x := u8x fun i hi => by simp; exact fun h => .inl h
theorem l2 (x y : UInt8) : x ||| (x &&& y) = x := u8x fun i hi => by simp; exact fun h _ => h
def bt (c : UInt8) (i : Nat) : Nat := (c.toBitVec.getLsbD i).toNat
theorem pop_bits (c : UInt8) : pop c = bt c 0 + bt c 1 + bt c 2 + bt c 3 + bt c 4 + bt c 5 + bt c 6 + bt c 7 := by
  have h : ∀ i, bt c i = c.toNat / 2 ^ i % 2 := by
    intro i
    exact Nat.toNat_testBit _ _
  simp [h, pop]
theorem bt_and (x y : UInt8) (i : Nat) : bt (x &&& y) i + bt (x ||| y) i = bt x i + bt y i := by
  unfold bt
  simp only [UInt8.toBitVec_and, UInt8.toBitVec_or, BitVec.getLsbD_and, BitVec.getLsbD_or]
  cases x.toBitVec.getLsbD i <;> cases y.toBitVec.getLsbD i <;> rfl
theorem bt_xor (x y : UInt8) (i : Nat) : bt (x ^^^ y) i + bt (x &&& y) i = bt (x ||| y) i := by
  unfold bt
  simp only [UInt8.toBitVec_and, UInt8.toBitVec_or, UInt8.toBitVec_xor, BitVec.getLsbD_and, BitVec.getLsbD_or, BitVec.getLsbD_xor]
  cases x.toBitVec.getLsbD i <;> cases y.toBitVec.getLsbD i <;> rfl
theorem bt_not (x : UInt8) (i : Nat) (h : i < 8) : bt x i + bt (~~~ x) i = 1 := by
  unfold bt
  simp only [UInt8.toBitVec_not, BitVec.getLsbD_not, h, decide_true, Bool.true_and]
  cases x.toBitVec.getLsbD i <;> rfl
theorem pop_and_or (x y : UInt8) : pop (x &&& y) + pop (x ||| y) = pop x + pop y := by
  have := bt_and x y
  simp only [pop_bits]
  have h0 := this 0; have h1 := this 1; have h2 := this 2; have h3 := this 3; have h4 := this 4; have h5 := this 5; have h6 := this 6; have h7 := this 7
  omega
theorem pop_xor (x y : UInt8) : pop (x ^^^ y) + pop (x &&& y) = pop (x ||| y) := by
  have := bt_xor x y
  simp only [pop_bits]
  have h0 := this 0; have h1 := this 1; have h2 := this 2; have h3 := this 3; have h4 := this 4; have h5 := this 5; have h6 := this 6; have h7 := this 7
  omega
theorem pop_not (x : UInt8) : pop x + pop (~~~ x) = 8 := by
  have := bt_not x
  simp only [pop_bits]
  have h0 := this 0 (by decide); have h1 := this 1 (by decide); have h2 := this 2 (by decide); have h3 := this 3 (by decide); have h4 := this 4 (by decide); have h5 := this 5 (by decide); have h6 := this 6 (by decide); have h7 := this 7 (by decide)
  omega
theorem d1 (x y : UInt8) : ~~~ (x &&& y) = ~~~ x ||| ~~~ y := u8x fun i hi => by simp
theorem d2 (x y : UInt8) : ~~~ (x ||| y) = ~~~ x &&& ~~~ y := u8x fun i hi => by simp
theorem l3 (x y z : UInt8) : x &&& (y ||| z) = (x &&& y) ||| (x &&& z) := u8x fun i hi => by simp [Bool.and_or_distrib_left]
theorem l4 (x y z : UInt8) : x ||| (y &&& z) = (x ||| y) &&& (x ||| z) := u8x fun i hi => by simp [Bool.or_and_distrib_left]

theorem notL_cons (x : UInt8) (a : List UInt8) : notL (x :: a) = ~~~ x :: notL a := by rw [notL_map, notL_map, List.map_cons]
theorem list_d1 : ∀ (a b : List UInt8), b.length = a.length → notL (mixL andB a b) = mixL orB (notL a) (notL b)
  | [], [], _ => rfl
  | [], _ :: _, h => by simp at h
  | _ :: _, [], h => by simp at h
  | x :: a, y :: b, h => by rw [mixL_cons, notL_cons, notL_cons, notL_cons, mixL_cons, list_d1 a b (by simpa using h), andB, orB, d1]
theorem list_d2 : ∀ (a b : List UInt8), b.length = a.length → notL (mixL orB a b) = mixL andB (notL a) (notL b)
  | [], [], _ => rfl
  | [], _ :: _, h => by simp at h
  | _ :: _, [], h => by simp at h
  | x :: a, y :: b, h => by rw [mixL_cons, notL_cons, notL_cons, notL_cons, mixL_cons, list_d2 a b (by simpa using h), andB, orB, d2]
theorem list_l1 : ∀ (a b : List UInt8), b.length = a.length → mixL andB a (mixL orB a b) = a
  | [], [], _ => rfl
  | [], _ :: _, h => by simp at h
  | _ :: _, [], h => by simp at h
  | x :: a, y :: b, h => by rw [mixL_cons, mixL_cons, list_l1 a b (by simpa using h), andB, orB, l1]
theorem list_l2 : ∀ (a b : List UInt8), b.length = a.length → mixL orB a (mixL andB a b) = a
  | [], [], _ => rfl
  | [], _ :: _, h => by simp at h
  | _ :: _, [], h => by simp at h
  | x :: a, y :: b, h => by rw [mixL_cons, mixL_cons, list_l2 a b (by simpa using h), andB, orB, l2]
theorem list_l3 : ∀ (a b c : List UInt8), b.length = a.length → c.length = a.length → mixL andB a (mixL orB b c) = mixL orB (mixL andB a b) (mixL andB a c)
  | [], [], [], _, _ => rfl
  | [], _ :: _, _, h, _ => by simp at h
  | _ :: _, [], _, h, _ => by simp at h
  | [], _, _ :: _, _, h => by simp at h
  | _ :: _, _, [], _, h => by simp at h
  | x :: a, y :: b, z :: c, h, k => by rw [mixL_cons, mixL_cons, mixL_cons, mixL_cons, mixL_cons, list_l3 a b c (by simpa using h) (by simpa using k), andB, orB, orB, andB, andB, l3]
theorem list_l4 : ∀ (a b c : List UInt8), b.length = a.length → c.length = a.length → mixL orB a (mixL andB b c) = mixL andB (mixL orB a b) (mixL orB a c)
  | [], [], [], _, _ => rfl
  | [], _ :: _, _, h, _ => by simp at h
  | _ :: _, [], _, h, _ => by simp at h
  | [], _, _ :: _, _, h => by simp at h
  | _ :: _, _, [], _, h => by simp at h
  | x :: a, y :: b, z :: c, h, k => by rw [mixL_cons, mixL_cons, mixL_cons, mixL_cons, mixL_cons, list_l4 a b c (by simpa using h) (by simpa using k), andB, orB, orB, andB, orB, l4]
theorem count_cons (x : UInt8) (a : List UInt8) : count (x :: a) = pop x + count a := by simp [count]
theorem list_c1 : ∀ (a b : List UInt8), b.length = a.length → count (mixL andB a b) + count (mixL orB a b) = count a + count b
  | [], [], _ => rfl
  | [], _ :: _, h => by simp at h
  | _ :: _, [], h => by simp at h
  | x :: a, y :: b, h => by
    have := list_c1 a b (by simpa using h)
    have hp := pop_and_or x y
    rw [mixL_cons, mixL_cons, count_cons, count_cons, count_cons, count_cons, andB, orB]
    omega
theorem list_c2 : ∀ (a b : List UInt8), b.length = a.length → count (mixL xorB a b) + count (mixL andB a b) = count (mixL orB a b)
  | [], [], _ => rfl
  | [], _ :: _, h => by simp at h
  | _ :: _, [], h => by simp at h
  | x :: a, y :: b, h => by
    have := list_c2 a b (by simpa using h)
    have hp := pop_xor x y
    rw [mixL_cons, mixL_cons, mixL_cons, count_cons, count_cons, count_cons, andB, orB, xorB]
    omega
theorem list_c3 : ∀ (a : List UInt8), count a + count (notL a) = 8 * a.length
  | [] => rfl
  | x :: a => by
    have := list_c3 a
    have hp := pop_not x
    rw [notL_cons, count_cons, count_cons, List.length_cons]
    omega
theorem list_c4 : ∀ n : Nat, count (List.replicate n 255) = 8 * n
  | 0 => rfl
  | n + 1 => by
    have := list_c4 n
    rw [List.replicate_succ, count_cons, this]
    have : pop 255 = 8 := by decide
    omega

/-! ### The same of texts -/
theorem len_eq {a b : ByteArray} (h : b.size = a.size) : b.data.toList.length = a.data.toList.length := by rw [toList_length, toList_length, h]
theorem t_not2 (a : ByteArray) : tNot (tNot a) = a := by unfold tNot; rw [bs_toList, notL_notL, bs_of]
theorem t_xor2 (a b : ByteArray) : tXor (tXor a b) b = a := by unfold tXor; rw [bs_toList, mixL_xor_back, bs_of]
theorem t_and1 (a : ByteArray) : tAnd a a = a := by unfold tAnd; rw [mixL_self (fun x => by simp [andB]), bs_of]
theorem t_or1 (a : ByteArray) : tOr a a = a := by unfold tOr; rw [mixL_self (fun x => by simp [orB]), bs_of]
theorem t_d1 (a b : ByteArray) (h : b.size = a.size) : tNot (tAnd a b) = tOr (tNot a) (tNot b) := by unfold tNot tAnd tOr; rw [bs_toList, bs_toList, bs_toList, list_d1 _ _ (len_eq h)]
theorem t_d2 (a b : ByteArray) (h : b.size = a.size) : tNot (tOr a b) = tAnd (tNot a) (tNot b) := by unfold tNot tAnd tOr; rw [bs_toList, bs_toList, bs_toList, list_d2 _ _ (len_eq h)]
theorem t_and (a b : ByteArray) (h : b.size = a.size) : tAnd b a = tAnd a b := by unfold tAnd; rw [mixL_comm (f := andB) (fun x y => UInt8.and_comm x y) _ _ (len_eq h)]
theorem t_or (a b : ByteArray) (h : b.size = a.size) : tOr b a = tOr a b := by unfold tOr; rw [mixL_comm (f := orB) (fun x y => UInt8.or_comm x y) _ _ (len_eq h)]
theorem t_xor (a b : ByteArray) (h : b.size = a.size) : tXor b a = tXor a b := by unfold tXor; rw [mixL_comm (f := xorB) (fun x y => UInt8.xor_comm x y) _ _ (len_eq h)]
theorem t_l1 (a b : ByteArray) (h : b.size = a.size) : tAnd a (tOr a b) = a := by unfold tAnd tOr; rw [bs_toList, list_l1 _ _ (len_eq h), bs_of]
theorem t_l2 (a b : ByteArray) (h : b.size = a.size) : tOr a (tAnd a b) = a := by unfold tAnd tOr; rw [bs_toList, list_l2 _ _ (len_eq h), bs_of]
theorem t_l3 (a b c : ByteArray) (h : b.size = a.size) (k : c.size = a.size) : tAnd a (tOr b c) = tOr (tAnd a b) (tAnd a c) := by unfold tAnd tOr; rw [bs_toList, bs_toList, bs_toList, list_l3 _ _ _ (len_eq h) (len_eq k)]
theorem t_l4 (a b c : ByteArray) (h : b.size = a.size) (k : c.size = a.size) : tOr a (tAnd b c) = tAnd (tOr a b) (tOr a c) := by unfold tAnd tOr; rw [bs_toList, bs_toList, bs_toList, list_l4 _ _ _ (len_eq h) (len_eq k)]
theorem t_c1 (a b : ByteArray) (h : b.size = a.size) : tCount (tAnd a b) + tCount (tOr a b) = tCount a + tCount b := by
  have := list_c1 _ _ (len_eq h)
  unfold tCount tAnd tOr
  rw [bs_toList, bs_toList]
  omega
theorem t_c2 (a b : ByteArray) (h : b.size = a.size) : tCount (tXor a b) = tCount (tOr a b) - tCount (tAnd a b) := by
  have := list_c2 _ _ (len_eq h)
  unfold tCount tAnd tOr tXor
  rw [bs_toList, bs_toList, bs_toList]
  omega
theorem t_c3 (a : ByteArray) : tCount a + tCount (tNot a) = 8 * a.size := by
  have := list_c3 a.data.toList
  rw [toList_length] at this
  unfold tCount tNot
  rw [bs_toList]
  omega
theorem t_c4 (n : Nat) (h : n ≤ 100000) : tCount (tOnes n) = 8 * n := by
  have := list_c4 n
  unfold tCount tOnes
  rw [if_neg (by omega), bs_toList]
  simpa using congrArg (Nat.cast (R := Int)) this
theorem t_count_le (a : ByteArray) : 0 ≤ tCount a ∧ tCount a ≤ 8 * a.size := by
  have := count_le a.data.toList
  rw [toList_length] at this
  unfold tCount
  omega
theorem app_toList (a b : ByteArray) : (a ++ b).data.toList = a.data.toList ++ b.data.toList := by simp
theorem bs_app (a b : List UInt8) : bs (a ++ b) = bs a ++ bs b := text_ext (by rw [app_toList, bs_toList, bs_toList, bs_toList])
theorem t_pand (a b c d : ByteArray) (h : b.size = a.size) : tAnd (a ++ c) (b ++ d) = tAnd a b ++ tAnd c d := by unfold tAnd; rw [app_toList, app_toList, mixL_app _ _ _ _ (len_eq h), bs_app]
theorem t_por (a b c d : ByteArray) (h : b.size = a.size) : tOr (a ++ c) (b ++ d) = tOr a b ++ tOr c d := by unfold tOr; rw [app_toList, app_toList, mixL_app _ _ _ _ (len_eq h), bs_app]
theorem t_pxor (a b c d : ByteArray) (h : b.size = a.size) : tXor (a ++ c) (b ++ d) = tXor a b ++ tXor c d := by unfold tXor; rw [app_toList, app_toList, mixL_app _ _ _ _ (len_eq h), bs_app]
theorem t_pnot (a c : ByteArray) : tNot (a ++ c) = tNot a ++ tNot c := by unfold tNot; rw [app_toList, notL_map, notL_map, notL_map, List.map_append, bs_app]
theorem t_pcount (a c : ByteArray) : tCount (a ++ c) = tCount a + tCount c := by
  unfold tCount
  rw [app_toList, count_append]
  omega

end Go.Proofs.Ytkmlaljahbckkaa
