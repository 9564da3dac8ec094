/- Texts of this proof, one behind the other: Plain5. -/
import Derived.Test.YtmabpnkdagipfaaGreatJ19
import Derived.Test.YtmabpnkdagipfaaGreatJ27
import Derived.Test.YtmabpnkdagipfaaGreatJ28
import Derived.Test.YtmabpnkdagipfaaGreatJ29

/- The laws of layer 5, plain: places of a page behind a program and an erase. -/
namespace Go.Proofs.YtmabpnkdagipfaaGreat

theorem owns_texts {W : Go.World} {base e : Nat} {v : Go.Value} {l : List ByteArray} (h : W.ownsRow base e 1 v l.length (l.map Go.Value.string)) : TextsAt W v l := texts_of_own rfl h
theorem recsN_le (s : ByteArray) (z : Nat) : (recsN s z).length ≤ s.size := Nat.le_trans (recsTo_le _ _) (Nat.div_le_self _ _)

/-! ### What is told of places, one by one -/
theorem clearT_iff (t : ByteArray) : clearT t = true ↔ t = onesT t.size := by
  unfold clearT onesT
  rw [decide_eq_true_eq]
theorem rread_codes (t : ByteArray) : (rreadT t).2 = 0 ∨ (rreadT t).2 = 2 := by
  rw [← read_eq]
  rcases readT_back t with ⟨h, _⟩ | ⟨h, _⟩
  · exact .inl h
  · exact .inr h
theorem rread_make (s : ByteArray) : rreadT (makeT s) = (s, 0) := by rw [← read_eq, readT_make]
theorem rread_ok {t : ByteArray} (h : (rreadT t).2 = 0) : t = makeT (rreadT t).1 := by
  rw [← read_eq] at *
  rcases readT_back t with ⟨_, h1⟩ | ⟨h1, _⟩
  · exact h1.symm
  · rw [h1] at h; cases h
theorem make_not_clear (s : ByteArray) : clearT (makeT s) = false := by rw [← clear_eq, make_clear]
theorem clear_none {t : ByteArray} (h : clearT t = true) : (rreadT t).2 = 2 := by
  rcases rread_codes t with h0 | h0
  · have := rread_ok h0
    rw [this, make_not_clear] at h
    cases h
  · exact h0
theorem clear_not_bad {t : ByteArray} (h : clearT t = true) : badT t = false := by simp [badT, h]
theorem ok_not_bad {t : ByteArray} (h : (rreadT t).2 = 0) : badT t = false := by simp [badT, h]
theorem ok_not_clear {t : ByteArray} (h : (rreadT t).2 = 0) : clearT t = false := by
  cases hc : clearT t with
  | false => rfl
  | true => rw [clear_none hc] at h; cases h

/-! ### Reckoned over the first k -/
theorem nextTo_clear (f : Nat → Bool) : ∀ k j, nextTo f k ≤ j → j < k → f j = true
  | 0, j, _, h => by omega
  | k + 1, j, h1, h2 => by
    unfold nextTo at h1
    split at h1
    · rename_i hk
      rcases Nat.lt_or_ge j k with h | h
      · exact nextTo_clear f k j h1 h
      · have : j = k := by omega
        rw [this]; exact hk
    · omega
theorem nextTo_pred (f : Nat → Bool) : ∀ k j, nextTo f k = j + 1 → f j = false
  | 0, j, h => by simp [nextTo] at h
  | k + 1, j, h => by
    unfold nextTo at h
    split at h
    · exact nextTo_pred f k j h
    · rename_i hk
      have : j = k := by omega
      rw [this]; simpa using hk
theorem nextTo_congr {f g : Nat → Bool} : ∀ k, (∀ j, j < k → f j = g j) → nextTo f k = nextTo g k
  | 0, _ => rfl
  | k + 1, h => by
    unfold nextTo
    rw [nextTo_congr k fun j hj => h j (by omega), h k (by omega)]
theorem countTo_congr {f g : Nat → Bool} : ∀ k, (∀ j, j < k → f j = g j) → countTo f k = countTo g k
  | 0, _ => rfl
  | k + 1, h => by
    unfold countTo
    rw [countTo_congr k fun j hj => h j (by omega), h k (by omega)]
theorem recsTo_congr {f g : Nat → ByteArray × Int} : ∀ k, (∀ j, j < k → f j = g j) → recsTo f k = recsTo g k
  | 0, _ => rfl
  | k + 1, h => by
    unfold recsTo
    rw [recsTo_congr k fun j hj => h j (by omega), h k (by omega)]
/-- Behind m nothing comes to it. -/
theorem nextTo_end (f : Nat → Bool) (m : Nat) : ∀ k, m ≤ k → (∀ j, m ≤ j → j < k → f j = true) → nextTo f k = nextTo f m
  | 0, hm, _ => by have : m = 0 := by omega
                   rw [this]
  | k + 1, hm, h => by
    rcases Nat.lt_or_ge k m with h1 | h1
    · have : m = k + 1 := by omega
      rw [this]
    · rw [← nextTo_end f m k h1 fun j a b => h j a (by omega)]
      conv => lhs; unfold nextTo
      rw [if_pos (h k h1 (by omega))]
theorem countTo_end (f : Nat → Bool) (m : Nat) : ∀ k, m ≤ k → (∀ j, m ≤ j → j < k → f j = false) → countTo f k = countTo f m
  | 0, hm, _ => by have : m = 0 := by omega
                   rw [this]
  | k + 1, hm, h => by
    rcases Nat.lt_or_ge k m with h1 | h1
    · have : m = k + 1 := by omega
      rw [this]
    · rw [← countTo_end f m k h1 fun j a b => h j a (by omega)]
      conv => lhs; unfold countTo
      rw [if_neg (by rw [h k h1 (by omega)]; simp)]
theorem recsTo_end (f : Nat → ByteArray × Int) (m : Nat) : ∀ k, m ≤ k → (∀ j, m ≤ j → j < k → (f j).2 ≠ 0) → recsTo f k = recsTo f m
  | 0, hm, _ => by have : m = 0 := by omega
                   rw [this]
  | k + 1, hm, h => by
    rcases Nat.lt_or_ge k m with h1 | h1
    · have : m = k + 1 := by omega
      rw [this]
    · rw [← recsTo_end f m k h1 fun j a b => h j a (by omega)]
      conv => lhs; unfold recsTo
      rw [if_neg (h k h1 (by omega))]
/-- All, one way or another. -/
theorem parts_all (f : Nat → ByteArray) : ∀ k, countTo (fun j => clearT (f j)) k + countTo (fun j => badT (f j)) k + (recsTo (fun j => rreadT (f j)) k).length = k
  | 0 => rfl
  | k + 1 => by
    have ih := parts_all f k
    unfold countTo recsTo
    rcases rread_codes (f k) with h0 | h0
    · rw [if_pos h0, if_neg (by rw [ok_not_clear h0]; simp), if_neg (by rw [ok_not_bad h0]; simp), List.length_append, List.length_singleton]
      omega
    · cases hc : clearT (f k) with
      | true =>
        have hb := clear_not_bad hc
        simp [hb, h0]
        omega
      | false =>
        have hb : badT (f k) = true := by simp [badT, hc, h0]
        simp [hb, h0]
        omega

/-! ### A page that is programmed at place k0, which was clear -/
theorem place_toList (s : ByteArray) (z k : Nat) : (place s z k).data.toList = (s.data.toList.drop (k * z)).take z := by
  unfold place
  rw [Nat.add_mul, Nat.one_mul]
  simp [ByteArray.data_extract, List.take_drop]
theorem mixL_take {f : UInt8 → UInt8 → UInt8} : ∀ (k : Nat) (a b : List UInt8), (mixL f a b).take k = mixL f (a.take k) (b.take k)
  | 0, a, b => by simp [mixL_nil_left]
  | k + 1, [], b => by simp [mixL_nil_left]
  | k + 1, x :: a, [] => by simp [mixL_nil]
  | k + 1, x :: a, y :: b => by simp [mixL_cons, mixL_take k a b]
theorem mixL_drop {f : UInt8 → UInt8 → UInt8} : ∀ (k : Nat) (a b : List UInt8), (mixL f a b).drop k = mixL f (a.drop k) (b.drop k)
  | 0, a, b => by simp
  | k + 1, [], b => by simp [mixL_nil_left]
  | k + 1, x :: a, [] => by simp [mixL_nil]
  | k + 1, x :: a, y :: b => by simp [mixL_cons, mixL_drop k a b]
theorem mixL_and_ones : ∀ (a : List UInt8) (n : Nat), mixL andB a (List.replicate n 255) = a
  | [], n => by simp [mixL_nil_left]
  | x :: a, 0 => by simp [mixL_nil]
  | x :: a, n + 1 => by rw [List.replicate_succ, mixL_cons, andB_ones, mixL_and_ones a n]
theorem ones_andB (x : UInt8) : andB 255 x = x := by
  have h : ∀ c : Fin 256, andB 255 (UInt8.ofNat c.val) = UInt8.ofNat c.val := by decide +kernel
  have := h ⟨x.toNat, x.toNat_lt⟩
  simpa using this
theorem mixL_ones_and : ∀ (a : List UInt8), mixL andB (List.replicate a.length 255) a = a
  | [] => by simp [mixL_nil_left]
  | x :: a => by
    rw [List.length_cons, List.replicate_succ, mixL_cons, mixL_ones_and a]
    rw [ones_andB]
theorem mixL_or_ones : ∀ (n : Nat) (b : List UInt8), mixL orB (List.replicate n 255) b = List.replicate n 255
  | 0, b => by simp [mixL_nil_left]
  | n + 1, [] => by simp [mixL_nil]
  | n + 1, y :: b => by rw [List.replicate_succ, mixL_cons, orB_ones, mixL_or_ones n b]

/-- Ahead of the text that is programmed, and behind it, places stay. -/
theorem place_program (s x : ByteArray) (z k0 k : Nat) (hx : x.size = z) (hk0 : k0 < s.size / z) (hk : k < s.size / z) :
    place (andT s (onesT (k0 * z) ++ x)) z k = if k = k0 then andT (place s z k) x else place s z k := by
  have hz : 0 < z := by
    rcases Nat.eq_zero_or_pos z with h | h
    · subst h; simp at hk
    · exact h
  have hxl : x.data.toList.length = z := by rw [toList_length, hx]
  apply text_ext
  rw [place_toList]
  unfold andT
  rw [bs_toList, mixL_drop, mixL_take, text_app, onesT_list]
  rcases Nat.lt_trichotomy k k0 with h | h | h
  · rw [if_neg (by omega)]
    have h1 : (k + 1) * z ≤ k0 * z := Nat.mul_le_mul_right z (by omega)
    rw [Nat.add_mul, Nat.one_mul] at h1
    rw [List.drop_append_of_le_length (by simp; omega), List.take_append_of_le_length (by simp; omega), List.drop_replicate, List.take_replicate, mixL_and_ones, place_toList]
  · subst h
    rw [if_pos rfl, bs_toList, place_toList]
    have : ((List.replicate (k * z) (255 : UInt8) ++ x.data.toList).drop (k * z)) = x.data.toList := by
      rw [List.drop_append_of_le_length (by simp), List.drop_replicate]
      simp
    rw [this, List.take_of_length_le (l := x.data.toList) (by omega)]
  · rw [if_neg (by omega)]
    have h1 : (k0 + 1) * z ≤ k * z := Nat.mul_le_mul_right z (by omega)
    rw [Nat.add_mul, Nat.one_mul] at h1
    have : ((List.replicate (k0 * z) (255 : UInt8) ++ x.data.toList).drop (k * z)) = [] := by
      rw [List.drop_eq_nil_iff, List.length_append, List.length_replicate, hxl]
      omega
    rw [this, List.take_nil, mixL_nil, place_toList]
/-- A clear place takes what is programmed. -/
theorem clear_takes {t x : ByteArray} (hc : clearT t = true) (hs : x.size = t.size) : andT t x = x := by
  rw [(clearT_iff t).1 hc, ← hs]
  apply text_ext
  unfold andT
  rw [bs_toList, onesT_list, ← toList_length x, mixL_ones_and]
/-- What a torn program does is a program too. -/
theorem torn_program (s x y : ByteArray) (m : Nat) : ∃ y', andT s (orT (onesT m ++ x) y) = andT s (onesT m ++ orT x y') := by
  refine ⟨bs (y.data.toList.drop m), ?_⟩
  congr 1
  apply text_ext
  unfold orT
  rw [bs_toList, text_app, text_app, bs_toList, onesT_list, mixL_split, List.length_replicate, mixL_or_ones, bs_toList]

structure Appended (s s' : ByteArray) (z k0 : Nat) (x : ByteArray) : Prop where
  size : s'.size = s.size
  recs : recsN s' z = if (rreadT x).2 = 0 then recsN s z ++ [(rreadT x).1] else recsN s z
  next : nextN s' z = if clearT x then nextN s z else nextN s z + 1
  bad : badN s' z = if badT x then badN s z + 1 else badN s z

theorem appended (s x : ByteArray) (z : Nat) (hx : x.size = z) (hk0 : nextN s z < s.size / z) : Appended s (andT s (onesT (nextN s z * z) ++ x)) z (nextN s z) x := by
  have hpl := fun k hk => place_program s x z (nextN s z) k hx hk0 hk
  have hcl : ∀ k, nextN s z ≤ k → k < s.size / z → clearT (place s z k) = true := fun k h1 h2 => nextTo_clear (fun k => clearT (place s z k)) _ k h1 h2
  have hsz : (andT s (onesT (nextN s z * z) ++ x)).size = s.size := andT_size _ _
  have hnew : place (andT s (onesT (nextN s z * z) ++ x)) z (nextN s z) = x := by
    rw [hpl _ hk0, if_pos rfl]
    exact clear_takes (hcl _ (Nat.le_refl _) hk0) (by rw [place_size hk0, hx])
  have hold : ∀ k, k < s.size / z → k ≠ nextN s z → place (andT s (onesT (nextN s z * z) ++ x)) z k = place s z k := fun k h1 h2 => by rw [hpl k h1, if_neg h2]
  have hn0 : nextN s z = nextTo (fun k => clearT (place s z k)) (nextN s z) := (nextTo_end _ (nextN s z) _ (Nat.le_of_lt hk0) fun j h1 h2 => hcl j h1 h2).symm ▸ rfl
  generalize hs' : andT s (onesT (nextN s z * z) ++ x) = s' at *
  have hn1 : nextTo (fun k => clearT (place s z k)) (nextN s z) = nextN s z := hn0.symm
  have hb1 : badN s z = countTo (fun k => badT (place s z k)) (nextN s z) := countTo_end _ _ _ (Nat.le_of_lt hk0) fun j h1 h2 => clear_not_bad (hcl j h1 h2)
  have hr1 : recsN s z = recsTo (fun k => rreadT (place s z k)) (nextN s z) := recsTo_end _ _ _ (Nat.le_of_lt hk0) fun j h1 h2 => by rw [clear_none (hcl j h1 h2)]; decide
  clear hn0 hpl
  have e1 : nextN s' z = nextTo (fun k => clearT (place s' z k)) (s.size / z) := by unfold nextN; rw [hsz]
  have e2 : badN s' z = countTo (fun k => badT (place s' z k)) (s.size / z) := by unfold badN; rw [hsz]
  have e3 : recsN s' z = recsTo (fun k => rreadT (place s' z k)) (s.size / z) := by unfold recsN; rw [hsz]
  generalize hke : nextN s z = k0 at *
  generalize s.size / z = r at *
  refine ⟨hsz, ?_, ?_, ?_⟩
  · rw [e3, recsTo_end _ (k0 + 1) r (by omega) (fun j h1 h2 => by rw [hold j h2 (by omega), clear_none (hcl j (by omega) h2)]; decide)]
    unfold recsTo
    rw [hnew, hr1, recsTo_congr (g := fun k => rreadT (place s z k)) k0 fun j hj => by rw [hold j (by omega) (by omega)]]
  · rw [e1, nextTo_end _ (k0 + 1) r (by omega) (fun j h1 h2 => by rw [hold j h2 (by omega)]; exact hcl j (by omega) h2)]
    unfold nextTo
    rw [hnew, nextTo_congr (g := fun k => clearT (place s z k)) k0 fun j hj => by rw [hold j (by omega) (by omega)], hn1, hke]
  · rw [e2, countTo_end _ (k0 + 1) r (by omega) (fun j h1 h2 => by rw [hold j h2 (by omega)]; exact clear_not_bad (hcl j (by omega) h2))]
    unfold countTo
    rw [hnew, hb1, countTo_congr (g := fun k => badT (place s z k)) k0 fun j hj => by rw [hold j (by omega) (by omega)]]

/-- A record that was programmed whole. -/
theorem appended_whole {s s' p : ByteArray} {z k0 : Nat} (h : Appended s s' z k0 (makeT p)) : recsN s' z = recsN s z ++ [p] ∧ nextN s' z = nextN s z + 1 ∧ badN s' z = badN s z := by
  refine ⟨?_, ?_, ?_⟩
  · rw [h.recs, rread_make, if_pos rfl]
  · rw [h.next, make_not_clear]; rfl
  · rw [h.bad, ok_not_bad (by rw [rread_make])]; rfl
/-- A record that was programmed in part. -/
theorem appended_part {s s' p y : ByteArray} {z k0 : Nat} (h : Appended s s' z k0 (orT (makeT p) y)) :
    (recsN s' z = recsN s z ∨ recsN s' z = recsN s z ++ [p]) ∧ (nextN s' z = nextN s z ∨ nextN s' z = nextN s z + 1) ∧ badN s' z ≤ badN s z + 1 := by
  refine ⟨?_, ?_, ?_⟩
  · rw [h.recs]
    by_cases h0 : (rreadT (orT (makeT p) y)).2 = 0
    · have h1 := (part_read p y).1 (by rw [read_eq]; exact h0)
      rw [if_pos h0, h1, rread_make]
      exact .inr rfl
    · rw [if_neg h0]
      exact .inl rfl
  · rw [h.next]
    split
    · exact .inl rfl
    · exact .inr rfl
  · rw [h.bad]
    split <;> omega

/-! ### A page that is erased -/
theorem place_ones {n z k : Nat} (hk : k < n / z) : clearT (place (onesT n) z k) = true := by
  have h := place_in (s := onesT n) (z := z) (k := k) (by rw [onesT_size]; exact hk)
  rw [onesT_size] at h
  rw [clearT_iff, place_size (by rw [onesT_size]; exact hk)]
  apply text_ext
  rw [place_toList, onesT_list, onesT_list, List.drop_replicate, List.take_replicate]
  congr 1
  rw [Nat.add_mul, Nat.one_mul] at h
  omega
theorem ones_empty (n z : Nat) : recsN (onesT n) z = [] ∧ badN (onesT n) z = 0 ∧ nextN (onesT n) z = 0 := by
  have hc : ∀ k, k < n / z → clearT (place (onesT n) z k) = true := fun k hk => place_ones hk
  unfold recsN badN nextN
  rw [onesT_size]
  refine ⟨?_, ?_, ?_⟩
  · exact recsTo_end _ 0 _ (Nat.zero_le _) fun j _ h => by rw [clear_none (hc j h)]; decide
  · exact countTo_end _ 0 _ (Nat.zero_le _) fun j _ h => clear_not_bad (hc j h)
  · exact nextTo_end _ 0 _ (Nat.zero_le _) fun j _ h => hc j h
theorem place_torn (s y : ByteArray) (z k : Nat) : ∃ y', place (orT s y) z k = orT (place s z k) y' := by
  refine ⟨bs ((y.data.toList.drop (k * z)).take z), ?_⟩
  apply text_ext
  rw [place_toList]
  unfold orT
  rw [bs_toList, bs_toList, bs_toList, mixL_drop, mixL_take, place_toList]
/-- A place that was erased in part, and reads, and read, reads the same. -/
theorem erased_part (s y : ByteArray) (z k : Nat) (h1 : (rreadT (place (orT s y) z k)).2 = 0) (h2 : (rreadT (place s z k)).2 = 0) : (rreadT (place (orT s y) z k)).1 = (rreadT (place s z k)).1 := by
  obtain ⟨y', e⟩ := place_torn s y z k
  rw [e] at h1 ⊢
  have e2 := rread_ok h2
  generalize (rreadT (place s z k)).1 = p at *
  rw [e2] at h1 ⊢
  have h3 := (part_read p y').1 (by rw [read_eq]; exact h1)
  rw [h3, rread_make]

end Go.Proofs.YtmabpnkdagipfaaGreat
