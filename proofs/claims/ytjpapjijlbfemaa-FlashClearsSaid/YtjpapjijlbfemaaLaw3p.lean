/- The laws of layer 3, plain: no program. -/
import Derived.Test.YtjpapjijlbfemaaFlNew
namespace Go.Proofs.Ytjpapjijlbfemaa

/-! ### Bytes and texts -/
theorem bxor_xor (x y : UInt8) : xorB (xorB x y) y = x := u8x fun i hi => by simp [xorB]
theorem bxor_old (x y : UInt8) : xorB (xorB x y) x = y := u8x fun i hi => by
  simp [xorB]
  cases x.toBitVec[i] <;> cases y.toBitVec[i] <;> rfl
theorem bxor_self (x : UInt8) : xorB x x = 0 := u8x fun i hi => by simp [xorB]
theorem band_turn (x y z : UInt8) : andB (andB x y) z = andB (andB x z) y := u8x fun i hi => by
  simp [andB]
  cases x.toBitVec[i] <;> cases y.toBitVec[i] <;> cases z.toBitVec[i] <;> rfl
theorem band_join (x y z : UInt8) : andB (andB x y) z = andB x (andB y z) := u8x fun i hi => by
  simp [andB]
  cases x.toBitVec[i] <;> cases y.toBitVec[i] <;> cases z.toBitVec[i] <;> rfl
theorem band_twice (x y : UInt8) : andB (andB x y) y = andB x y := u8x fun i hi => by
  simp [andB]
theorem band_old (x y : UInt8) : andB (andB x y) x = andB x y := u8x fun i hi => by
  simp [andB]
  cases x.toBitVec[i] <;> cases y.toBitVec[i] <;> simp
theorem band_old' (x y : UInt8) : andB x (andB x y) = andB x y := u8x fun i hi => by
  simp [andB]
theorem bor_old' (x y : UInt8) : orB x (orB x y) = orB x y := u8x fun i hi => by
  simp [orB]
theorem bor_self (x : UInt8) : orB x x = x := u8x fun i hi => by simp [orB]
theorem bor_between (x y z : UInt8) : orB (andB x (orB y z)) (andB x y) = andB x (orB y z) := u8x fun i hi => by
  simp [orB, andB]
  cases x.toBitVec[i] <;> cases y.toBitVec[i] <;> cases z.toBitVec[i] <;> simp

theorem lxor_xor : ∀ a b : List UInt8, mixL xorB (mixL xorB a b) b = a
  | [], b => by rw [mixL_nil_left, mixL_nil_left]
  | x :: a, [] => by rw [mixL_nil, mixL_nil]
  | x :: a, y :: b => by rw [mixL_cons, mixL_cons, bxor_xor, lxor_xor a b]
theorem lxor_self : ∀ a : List UInt8, count (mixL xorB a a) = 0
  | [] => rfl
  | x :: a => by
    rw [mixL_cons, bxor_self]
    have := lxor_self a
    unfold count at this ⊢
    rw [List.map_cons, List.sum_cons, this]
    rfl
theorem lxor_old : ∀ a b : List UInt8, b.length ≤ a.length → count (mixL xorB (mixL xorB a b) a) = count b
  | [], b, h => by
    have : b = [] := List.eq_nil_of_length_eq_zero (by simpa using h)
    subst this
    rfl
  | x :: a, [], h => by rw [mixL_nil, lxor_self]; rfl
  | x :: a, y :: b, h => by
    rw [mixL_cons, mixL_cons, bxor_old]
    have := lxor_old a b (by simpa using h)
    unfold count at this ⊢
    rw [List.map_cons, List.sum_cons, this, List.map_cons, List.sum_cons]
theorem land_turn : ∀ a b c : List UInt8, mixL andB (mixL andB a b) c = mixL andB (mixL andB a c) b
  | [], b, c => by simp only [mixL_nil_left]
  | x :: a, [], c => by simp only [mixL_nil]
  | x :: a, y :: b, [] => by simp only [mixL_nil]
  | x :: a, y :: b, z :: c => by simp only [mixL_cons]; rw [band_turn, land_turn a b c]
theorem land_join : ∀ a b c : List UInt8, b.length = c.length → mixL andB (mixL andB a b) c = mixL andB a (mixL andB b c)
  | [], b, c, _ => by simp only [mixL_nil_left]
  | x :: a, [], c, h => by
    have : c = [] := List.eq_nil_of_length_eq_zero (by simpa using h.symm)
    subst this
    simp only [mixL_nil]
  | x :: a, y :: b, [], h => by simp at h
  | x :: a, y :: b, z :: c, h => by simp only [mixL_cons]; rw [band_join, land_join a b c (by simpa using h)]
theorem land_twice : ∀ a b : List UInt8, mixL andB (mixL andB a b) b = mixL andB a b
  | [], b => by simp only [mixL_nil_left]
  | x :: a, [] => by simp only [mixL_nil]
  | x :: a, y :: b => by simp only [mixL_cons]; rw [band_twice, land_twice a b]
theorem land_self : ∀ a : List UInt8, mixL andB a a = a
  | [] => rfl
  | x :: a => by rw [mixL_cons, land_self a]; congr 1; exact u8x fun i hi => by simp [andB]
theorem lor_self : ∀ a : List UInt8, mixL orB a a = a
  | [] => rfl
  | x :: a => by rw [mixL_cons, lor_self a, bor_self]
theorem land_old : ∀ a b : List UInt8, mixL andB (mixL andB a b) a = mixL andB a b
  | [], b => by simp only [mixL_nil_left]
  | x :: a, [] => by simp only [mixL_nil]; exact land_self _
  | x :: a, y :: b => by simp only [mixL_cons]; rw [band_old, land_old a b]
theorem land_old' : ∀ a b : List UInt8, mixL andB a (mixL andB a b) = mixL andB a b
  | [], b => by simp only [mixL_nil_left]
  | x :: a, [] => by simp only [mixL_nil]; exact land_self _
  | x :: a, y :: b => by simp only [mixL_cons]; rw [band_old', land_old' a b]
theorem lor_old' : ∀ a b : List UInt8, mixL orB a (mixL orB a b) = mixL orB a b
  | [], b => by simp only [mixL_nil_left]
  | x :: a, [] => by simp only [mixL_nil]; exact lor_self _
  | x :: a, y :: b => by simp only [mixL_cons]; rw [bor_old', lor_old' a b]
theorem lor_between : ∀ a b c : List UInt8, b.length ≤ c.length → mixL orB (mixL andB a (mixL orB b c)) (mixL andB a b) = mixL andB a (mixL orB b c)
  | [], b, c, _ => by simp only [mixL_nil_left]
  | x :: a, [], c, _ => by simp only [mixL_nil_left, mixL_nil]; exact lor_self _
  | x :: a, y :: b, [], h => by simp at h
  | x :: a, y :: b, z :: c, h => by simp only [mixL_cons]; rw [bor_between, lor_between a b c (by simpa using h)]
theorem mixL_app {f : UInt8 → UInt8 → UInt8} : ∀ a a' b b' : List UInt8, a.length = a'.length → mixL f (a ++ b) (a' ++ b') = mixL f a a' ++ mixL f b b'
  | [], a', b, b', h => by
    have : a' = [] := List.eq_nil_of_length_eq_zero (by simpa using h.symm)
    subst this
    simp only [List.nil_append, mixL_nil]
  | x :: a, [], b, b', h => by simp at h
  | x :: a, y :: a', b, b', h => by simp only [List.cons_append, mixL_cons]; rw [mixL_app a a' b b' (by simpa using h)]

theorem text_app (a b : ByteArray) : (a ++ b).data.toList = a.data.toList ++ b.data.toList := by simp [ByteArray.data_append]
theorem onesT_list (n : Nat) : (onesT n).data.toList = List.replicate n 255 := bs_toList _
theorem zerosT_list (n : Nat) : (zerosT n).data.toList = List.replicate n 0 := bs_toList _
theorem count_zeros (n : Nat) : count (List.replicate n 0) = 0 := by
  induction n with
  | zero => rfl
  | succ n ih =>
    rw [List.replicate_succ]
    unfold count at ih ⊢
    rw [List.map_cons, List.sum_cons, ih]
    rfl
theorem pop_255 : pop 255 = 8 := by decide
theorem count_ones (n : Nat) : count (List.replicate n 255) = 8 * n := by
  induction n with
  | zero => rfl
  | succ n ih =>
    rw [List.replicate_succ]
    unfold count at ih ⊢
    rw [List.map_cons, List.sum_cons, ih, pop_255]
    omega

theorem xor_xor (a b : ByteArray) : xorT (xorT a b) b = a := text_ext (by unfold xorT; rw [bs_toList, bs_toList, lxor_xor])
theorem xor_self_count (a : ByteArray) : count (xorT a a).data.toList = 0 := by unfold xorT; rw [bs_toList, lxor_self]
theorem xor_old_count (a b : ByteArray) (h : b.size ≤ a.size) : count (xorT (xorT a b) a).data.toList = count b.data.toList := by
  unfold xorT
  rw [bs_toList, bs_toList, lxor_old]
  rw [toList_length, toList_length]
  exact h
theorem and_turn (a b c : ByteArray) : andT (andT a b) c = andT (andT a c) b := text_ext (by unfold andT; rw [bs_toList, bs_toList, bs_toList, bs_toList, land_turn])
theorem and_join (a b c : ByteArray) (h : b.size = c.size) : andT (andT a b) c = andT a (andT b c) := text_ext (by
  unfold andT
  rw [bs_toList, bs_toList, bs_toList, bs_toList, land_join _ _ _ (by rw [toList_length, toList_length]; exact h)])
theorem and_twice (a b : ByteArray) : andT (andT a b) b = andT a b := text_ext (by unfold andT; rw [bs_toList, bs_toList, land_twice])
theorem and_old (a b : ByteArray) : andT (andT a b) a = andT a b := text_ext (by unfold andT; rw [bs_toList, bs_toList, land_old])
theorem and_old' (a b : ByteArray) : andT a (andT a b) = andT a b := text_ext (by unfold andT; rw [bs_toList, bs_toList, land_old'])
theorem or_old' (a b : ByteArray) : orT a (orT a b) = orT a b := text_ext (by unfold orT; rw [bs_toList, bs_toList, lor_old'])
theorem or_between (a b c : ByteArray) (h : b.size ≤ c.size) : orT (andT a (orT b c)) (andT a b) = andT a (orT b c) := text_ext (by
  unfold orT andT
  rw [bs_toList, bs_toList, bs_toList, bs_toList, lor_between _ _ _ (by rw [toList_length, toList_length]; exact h)])
theorem and_behind (k : Nat) (s t : ByteArray) : andT (onesT k ++ s) (onesT k ++ t) = onesT k ++ andT s t := text_ext (by
  unfold andT
  rw [bs_toList, text_app, text_app, text_app, bs_toList, mixL_app _ _ _ _ rfl, land_self])

/-! ### Devices -/
theorem checkB_of {f : Fl} (h1 : 1 ≤ f.pages.length) (h2 : f.pages.length ≤ 6) (h3 : f.wear.length = f.pages.length) (h4 : f.torn.size ≤ 64) (h5 : ∀ z ∈ f.wear, 0 ≤ z ∧ z ≤ 2147483647)
    (h6 : ∀ s ∈ f.pages, 1 ≤ s.size ∧ s.size ≤ 8192 ∧ s.size = (oldT f 0).size) : checkB f = true := by
  unfold checkB
  simp only [Bool.and_eq_true, decide_eq_true_eq, Bool.not_eq_true', List.all_eq_true]
  refine ⟨⟨⟨⟨⟨h1, h2⟩, h3⟩, h4⟩, h5⟩, List.any_eq_false.2 fun s hs => ?_⟩
  have := h6 s hs
  unfold oldT at this
  unfold oddB
  simp only [Bool.or_eq_true, decide_eq_true_eq, not_or]
  omega
theorem oldT_set (f : Fl) (n i : Nat) (s : ByteArray) (hn : n < f.pages.length) : oldT { f with pages := f.pages.set n s } i = if i = n then s else oldT f i := by
  unfold oldT
  simp only [List.getD_eq_getElem?_getD, List.getElem?_set]
  by_cases h : n = i
  · subst h
    simp [hn]
  · have h' : ¬ i = n := fun e => h e.symm
    simp [h, h']
/-- A page of a device that stands is turned into one as long; whatever else is turned stands too. -/
theorem checkB_set {f g : Fl} (hc : checkB f = true) {n : Nat} {s : ByteArray} (hn : n < f.pages.length) (hs : s.size = (oldT f 0).size) (hp : g.pages = f.pages.set n s) (hw : g.wear.length = f.wear.length)
    (hz : ∀ z ∈ g.wear, 0 ≤ z ∧ z ≤ 2147483647) (ht : g.torn.size ≤ 64) : checkB g = true := by
  obtain ⟨h1, h2, h3, h4, h5, h6⟩ := check_facts hc
  have h0 := old_size hc (n := 0) h1
  have e0 : (oldT g 0).size = (oldT f 0).size := by
    have : oldT g 0 = oldT { f with pages := f.pages.set n s } 0 := by unfold oldT; rw [hp]
    rw [this, oldT_set f n 0 s hn]
    split
    · exact hs
    · rfl
  refine checkB_of (by rw [hp, List.length_set]; exact h1) (by rw [hp, List.length_set]; exact h2) (by rw [hw, hp, List.length_set]; exact h3) ht hz fun t ht' => ?_
  rw [hp] at ht'
  rw [e0]
  rcases List.mem_or_eq_of_mem_set ht' with hm | rfl
  · exact h6 t hm
  · omega
theorem checkB_same {f g : Fl} (hc : checkB f = true) (hp : g.pages = f.pages) (hw : g.wear = f.wear) (ht : g.torn.size ≤ 64) : checkB g = true := by
  obtain ⟨h1, h2, h3, h4, h5, h6⟩ := check_facts hc
  refine checkB_of (by rw [hp]; exact h1) (by rw [hp]; exact h2) (by rw [hw, hp]; exact h3) ht (by rw [hw]; exact h5) fun t ht' => ?_
  rw [hp] at ht'
  unfold oldT
  rw [hp]
  exact h6 t ht'
theorem hasB_of {f : Fl} (hc : checkB f = true) {n : Nat} (hn : n < f.pages.length) : hasB f n = true := by
  unfold hasB
  simp only [hc, Bool.true_and, Bool.and_eq_true, decide_eq_true_eq]
  omega
theorem standsB_of {f : Fl} (hc : checkB f = true) {n m k : Nat} (hn : n < f.pages.length) (hm : m + k ≤ (oldT f n).size) : standsB f n m k = true := by
  unfold standsB
  simp only [hasB_of hc hn, Bool.true_and, Bool.and_eq_true, decide_eq_true_eq, Int.toNat_natCast]
  omega
theorem set_back {α : Type} (l : List α) (n : Nat) (s : α) (d : α) (hn : n < l.length) : (l.set n s).set n (l.getD n d) = l := by
  rw [List.set_set]
  apply List.ext_getElem?
  intro i
  rw [List.getElem?_set]
  by_cases h : n = i
  · subst h
    simp [hn]
  · simp [h]

/-! ### Rots -/
theorem rots_plain {f X Y : Fl} {page at_ e g : Int} {turn : ByteArray} (hX : rotF f page at_ turn = (X, e)) (hY : rotF X page at_ turn = (Y, g)) :
    (e = 1 ∧ X = f) ∨ (e = 0 ∧ g = 0 ∧ Y = f ∧ turn.size ≤ 4 ∧ checkB f = true ∧ X.pages.length = f.pages.length ∧
      (∀ i, i < f.pages.length → (oldT X i).size ≤ 8192 ∧ (oldT f i).size ≤ 8192 ∧ count (xorT (oldT X i) (oldT f i)).data.toList = if (i : Int) = page then count turn.data.toList else 0)) := by
  unfold rotF at hX
  split at hX
  · rename_i hs
    simp only [Bool.and_eq_true, decide_eq_true_eq] at hs
    obtain ⟨hs, h4⟩ := hs
    obtain ⟨hc, n, rfl, hn, m, rfl, hm⟩ := stands_facts hs
    simp only [Int.toNat_natCast, Prod.mk.injEq] at hX
    obtain ⟨rfl, rfl⟩ := hX
    have hsz := old_size hc hn
    have hx : (xorT (oldT f n) (zerosT m ++ turn)).size = (oldT f 0).size := by rw [xorT_size]; exact hsz.2.2
    have hcX : checkB { f with pages := f.pages.set n (xorT (oldT f n) (zerosT m ++ turn)) } = true :=
      checkB_set hc hn hx rfl rfl (check_facts hc).2.2.2.2.1 (check_facts hc).2.2.2.1
    have hold := fun i => oldT_set f n i (xorT (oldT f n) (zerosT m ++ turn)) hn
    have hst : standsB { f with pages := f.pages.set n (xorT (oldT f n) (zerosT m ++ turn)) } n m turn.size = true :=
      standsB_of hcX (by simpa using hn) (by rw [hold, if_pos rfl, xorT_size]; exact hm)
    unfold rotF at hY
    rw [if_pos (by simp [hst, h4])] at hY
    simp only [Int.toNat_natCast, Prod.mk.injEq] at hY
    obtain ⟨rfl, rfl⟩ := hY
    refine .inr ⟨rfl, rfl, ?_, h4, hc, by simp, fun i hi => ?_⟩
    · rw [hold, if_pos rfl, xor_xor]
      simp only [oldT, set_back _ _ _ _ hn]
    · have hsi := old_size hc hi
      rw [hold]
      by_cases hin : i = n
      · subst hin
        rw [if_pos rfl, if_pos rfl]
        refine ⟨by rw [xorT_size]; omega, by omega, ?_⟩
        rw [xor_old_count _ _ (by rw [ByteArray.size_append, zerosT_size]; exact hm), text_app, count_append, zerosT_list, count_zeros, Nat.zero_add]
      · rw [if_neg hin, if_neg (by omega)]
        exact ⟨by omega, by omega, xor_self_count _⟩
  · simp only [Prod.mk.injEq] at hX
    exact .inl ⟨hX.2.symm, hX.1.symm⟩

/-! ### Programs and erases of a device that is awake and whose fuse has no end -/
theorem wake_facts {f W : Fl} {fuse e : Int} {torn : ByteArray} (h : wakeF f fuse torn = (W, e)) : (e = 1 ∧ W = f) ∨ (e = 0 ∧ checkB f = true ∧ torn.size ≤ 64 ∧ W = { f with dead := false, fuse := fuse, torn := torn } ∧ checkB W = true) := by
  unfold wakeF at h
  split at h
  · rename_i hs
    simp only [Bool.and_eq_true, decide_eq_true_eq] at hs
    simp only [Prod.mk.injEq] at h
    obtain ⟨rfl, rfl⟩ := h
    exact .inr ⟨rfl, hs.1, hs.2, rfl, checkB_same hs.1 rfl rfl hs.2⟩
  · simp only [Prod.mk.injEq] at h
    exact .inl ⟨h.2.symm, h.1.symm⟩
theorem program_on {f : Fl} (hd : f.dead = false) (hf : f.fuse = -1) (page at_ : Int) (s : ByteArray) :
    programF f page at_ s = if standsB f page at_ s.size then ({ f with pages := f.pages.set page.toNat (andT (oldT f page.toNat) (onesT at_.toNat ++ s)) }, 0) else (f, 1) := by
  unfold programF
  split
  · unfold stepF
    rw [hd, hf]
    simp
  · rfl

end Go.Proofs.Ytjpapjijlbfemaa
