/- Texts of this proof, one behind the other: Works4, Law4, Page, PageNext, PageSlot. -/
import Derived.Outline
import Derived.Test.YtmabpnkdagipfaaGreatJ15
import Derived.Test.YtmabpnkdagipfaaGreatJ16
import Derived.Test.YtmabpnkdagipfaaGreatJ18

/- The fixed facts of layer 4's statements: walked. -/
namespace Go.Proofs.YtmabpnkdagipfaaGreat
open Go.RowKit

theorem k_make : makeT ⟨#[107]⟩ = ⟨#[107, 93, 87, 98, 8, 148, 162, 168, 157, 247]⟩ := by decide +kernel
theorem k_read : readT ⟨#[107, 93, 87, 98, 8, 148, 162, 168, 157, 247]⟩ = (⟨#[107]⟩, 0) := by decide +kernel
theorem k_not : readT ⟨#[107, 93, 87, 98, 8, 148, 162, 168, 157, 247, 120]⟩ = (⟨#[]⟩, 2) := by decide +kernel
theorem ones_read : readT (bs (List.replicate 10 255)) = (⟨#[]⟩, 2) := by decide +kernel

theorem make_val (s r : ByteArray) (w : World) (hs : s.size ≤ 300) (hr : makeT s = r) :
    Calls Tryz.prog 29 #[.string s] w fun e w' => e = .returned (.string r) ∧ Ups w w' := by
  subst hr
  exact make_calls s w (by omega)
theorem read_val (s r : ByteArray) (k : Int) (w : World) (hs : s.size ≤ 300) (hr : readT s = (r, k)) :
    Calls Tryz.prog 26 #[.string s] w fun e w' => e = .returned (.tuple #[.string r, .int .i64 k]) ∧ Ups w w' := by
  have := read_calls s w (by omega)
  rw [hr] at this
  exact this
theorem clear_val (s : ByteArray) (b : Bool) (w : World) (hs : s.size ≤ 300) (hr : clearB s = b) :
    Calls Tryz.prog 38 #[.string s] w fun e w' => e = .returned (.bool b) ∧ Ups w w' := by
  have := clear_calls s w (by omega)
  rw [hr] at this
  exact this

end Go.Proofs.YtmabpnkdagipfaaGreat

/- Plain facts on records, for the laws of layer 4. -/
namespace Go.Proofs.YtmabpnkdagipfaaGreat
open Go.RowKit

theorem clear_eq (s : ByteArray) : clearB s = clearT s := by
  unfold clearB clearT
  rw [Bool.eq_iff_iff, List.all_eq_true, decide_eq_true_eq]
  constructor
  · intro h
    apply text_ext
    rw [bs_toList]
    refine List.eq_replicate_iff.2 ⟨toList_length s, fun c hc => by simpa using h c hc⟩
  · intro h c hc
    rw [h, bs_toList] at hc
    simpa using (List.eq_of_mem_replicate hc)

theorem readT_make (s : ByteArray) : readT (makeT s) = (s, 0) := by
  have hz := makeT_size s
  have ha : halfA (makeT s) = sealT s := by
    apply text_ext
    unfold halfA
    rw [bs_toList, hz, makeT, show (sealT s ++ notT (sealT s)).data.toList = (sealT s).data.toList ++ (notT (sealT s)).data.toList by simp]
    exact List.take_left' (by rw [toList_length, sealT_size]; omega)
  have hb : halfB (makeT s) = notT (sealT s) := by
    apply text_ext
    unfold halfB
    rw [bs_toList, hz, makeT, show (sealT s ++ notT (sealT s)).data.toList = (sealT s).data.toList ++ (notT (sealT s)).data.toList by simp]
    exact List.drop_left' (by rw [toList_length, sealT_size]; omega)
  unfold readT
  rw [if_neg (by omega), ha, hb, if_pos rfl]
  have h1 : (sealT s).size = s.size + 4 := sealT_size s
  have h2 : (sealT s).extract 0 ((sealT s).size - 4) = s := by
    rw [h1, Nat.add_sub_cancel]
    apply text_ext
    simp [sealT, ByteArray.data_extract]
    exact List.take_of_length_le (by rw [toList_length]; exact Nat.le_refl _)
  unfold openT
  rw [if_neg (by omega), h2, if_pos rfl]

theorem readT_back (t : ByteArray) : ((readT t).2 = 0 ∧ makeT (readT t).1 = t) ∨ (readT t).2 = 2 ∧ (readT t).1 = bs [] := by
  rw [read_eq]
  unfold rreadT
  split
  · exact .inr ⟨rfl, rfl⟩
  · split
    · rename_i h
      exact .inl ⟨rfl, h⟩
    · exact .inr ⟨rfl, rfl⟩
theorem readT_size (t : ByteArray) : (readT t).1.size ≤ t.size := by
  rw [read_eq]
  unfold rreadT
  split
  · simp [bs_size]
  · split
    · simp
      exact Nat.min_le_right _ _
    · simp [bs_size]

/-! ### Bits -/
theorem or_t (a b : ByteArray) (w : World) (ha : a.size ≤ 140737488355328) (hb : b.size ≤ 140737488355328) :
    Calls Tryz.prog 151 #[.string a, .string b] w fun e w' => e = .returned (.string (orT a b)) ∧ Ups w w' := or_calls a b w ha hb
theorem and_t (a b : ByteArray) (w : World) (ha : a.size ≤ 140737488355328) (hb : b.size ≤ 140737488355328) :
    Calls Tryz.prog 155 #[.string a, .string b] w fun e w' => e = .returned (.string (andT a b)) ∧ Ups w w' := and_calls a b w ha hb

theorem mixL_split {f : UInt8 → UInt8 → UInt8} : ∀ (a b m : List UInt8), mixL f (a ++ b) m = mixL f a (m.take a.length) ++ mixL f b (m.drop a.length)
  | [], b, m => by simp [mixL_nil_left]
  | x :: a, b, [] => by simp [mixL_nil]
  | x :: a, b, y :: m => by
    show mixL f (x :: (a ++ b)) (y :: m) = _
    rw [mixL_cons, mixL_split a b m]
    simp [mixL_cons]

theorem bit_at {x y : UInt8} (h : x = y) (i : Nat) (hi : i < 8) : x.toBitVec[i] = y.toBitVec[i] := by rw [h]
/-- A byte and its turned one, bits added to both: nothing was added. -/
theorem orb_one (x m n : UInt8) (h : ~~~ (x ||| m) = ~~~ x ||| n) : x ||| m = x := by
  refine u8x fun i hi => ?_
  have := bit_at h i hi
  simp at this ⊢
  revert this
  cases x.toBitVec[i] <;> cases m.toBitVec[i] <;> simp
/-- A byte's and another's common bits, and those of the turned ones: they are one. -/
theorem and_one' (x y : UInt8) (h : ~~~ (x &&& y) = ~~~ x &&& ~~~ y) : x = y := by
  refine u8x fun i hi => ?_
  have := bit_at h i hi
  simp at this
  revert this
  cases x.toBitVec[i] <;> cases y.toBitVec[i] <;> simp

theorem notL_cons (x : UInt8) (a : List UInt8) : notL (x :: a) = ~~~ x :: notL a := by rw [notL_map, notL_map, List.map_cons]
theorem or_list : ∀ (a m n : List UInt8), notL (mixL orB a m) = mixL orB (notL a) n → mixL orB a m = a
  | [], m, _, _ => mixL_nil_left orB m
  | x :: a, [], n, h => mixL_nil orB _
  | x :: a, y :: m, [], h => by
    rw [mixL_cons, notL_cons, notL_cons, mixL_nil] at h
    simp only [List.cons.injEq] at h
    have h1 := orb_one x y 0 (by rw [UInt8.or_zero]; exact h.1)
    have h2 := or_list a m [] (by rw [mixL_nil]; exact h.2)
    rw [mixL_cons, h2]
    exact congrArg (· :: a) h1
  | x :: a, y :: m, z :: n, h => by
    rw [mixL_cons, notL_cons, notL_cons, mixL_cons] at h
    simp only [List.cons.injEq] at h
    have h1 := orb_one x y z h.1
    have h2 := or_list a m n h.2
    rw [mixL_cons, h2]
    exact congrArg (· :: a) h1
theorem and_list : ∀ (a b : List UInt8), b.length = a.length → notL (mixL andB a b) = mixL andB (notL a) (notL b) → a = b
  | [], [], _, _ => rfl
  | [], _ :: _, h, _ => by simp at h
  | _ :: _, [], h, _ => by simp at h
  | x :: a, y :: b, hl, h => by
    rw [mixL_cons, notL_cons, notL_cons, notL_cons, mixL_cons] at h
    simp only [List.cons.injEq] at h
    rw [and_one' x y h.1, and_list a b (by simpa using hl) h.2]

theorem make_toList (s : ByteArray) : (makeT s).data.toList = (sealT s).data.toList ++ notL (sealT s).data.toList := by
  rw [makeT, show (sealT s ++ notT (sealT s)).data.toList = (sealT s).data.toList ++ (notT (sealT s)).data.toList by simp, notT, bs_toList]

/-- What has more bits than a record, and reads, is the record. -/
theorem part_read (s m : ByteArray) : (readT (orT (makeT s) m)).2 = 0 ↔ orT (makeT s) m = makeT s := by
  constructor
  · intro h
    rcases readT_back (orT (makeT s) m) with ⟨_, hb⟩ | ⟨h2, _⟩
    · generalize (readT (orT (makeT s) m)).1 = v at hb
      have hs : v.size = s.size := by
        have := congrArg ByteArray.size hb
        rw [makeT_size, orT_size, makeT_size] at this
        omega
      have hl : (makeT v).data.toList = (orT (makeT s) m).data.toList := by rw [hb]
      rw [make_toList, orT, bs_toList, make_toList, mixL_split] at hl
      have hlen : (sealT v).data.toList.length = (sealT s).data.toList.length := by rw [toList_length, toList_length, sealT_size, sealT_size, hs]
      obtain ⟨e1, e2⟩ := List.append_inj hl (by rw [mixL_length]; exact hlen)
      rw [e1] at e2
      have := or_list _ _ _ e2
      rw [this] at e1
      have hse : sealT v = sealT s := text_ext e1
      have hm : makeT v = makeT s := by unfold makeT; rw [hse]
      exact hb.symm.trans hm
    · rw [h] at h2
      cases h2
  · intro h
    rw [h, readT_make]

theorem seal_inj (s t : ByteArray) (h : sealT s = sealT t) (hs : t.size = s.size) : s = t := by
  unfold sealT at h
  exact (append_inj h hs.symm).1

/-- What two records of one length have in common reads just where they are one. -/
theorem both_read (s t : ByteArray) (hs : t.size = s.size) : (readT (andT (makeT s) (makeT t))).2 = 0 ↔ s = t := by
  constructor
  · intro h
    rcases readT_back (andT (makeT s) (makeT t)) with ⟨_, hb⟩ | ⟨h2, _⟩
    · generalize (readT (andT (makeT s) (makeT t))).1 = v at hb
      have hv : v.size = s.size := by
        have := congrArg ByteArray.size hb
        rw [makeT_size, andT_size, makeT_size] at this
        omega
      have hl : (makeT v).data.toList = (andT (makeT s) (makeT t)).data.toList := by rw [hb]
      rw [make_toList, andT, bs_toList, make_toList, make_toList, mixL_split] at hl
      have hlen : (sealT v).data.toList.length = (sealT s).data.toList.length := by rw [toList_length, toList_length, sealT_size, sealT_size, hv]
      have hlt : (sealT t).data.toList.length = (sealT s).data.toList.length := by rw [toList_length, toList_length, sealT_size, sealT_size, hs]
      rw [← hlt, List.take_left, List.drop_left] at hl
      obtain ⟨e1, e2⟩ := List.append_inj hl (by rw [mixL_length]; exact hlen)
      rw [e1] at e2
      have := and_list _ _ hlt e2
      exact seal_inj s t (text_ext this) hs
    · rw [h] at h2
      cases h2
  · rintro rfl
    have : andT (makeT s) (makeT s) = makeT s := by
      unfold andT
      have : ∀ a : List UInt8, mixL andB a a = a := by
        intro a
        induction a with
        | nil => rfl
        | cons x a ih => rw [mixL_cons, ih]; simp [andB]
      rw [this, bs_of]
    rw [this, readT_make]

/-! ### Half of a record's bits are on -/
theorem u8_bits_pop (x : UInt8) : pop x + pop (~~~ x) = 8 := by
  have h : ∀ c : Fin 256, pop (UInt8.ofNat c.val) + pop (~~~ (UInt8.ofNat c.val)) = 8 := by decide +kernel
  have := h ⟨x.toNat, x.toNat_lt⟩
  simpa using this
theorem count_cons (x : UInt8) (a : List UInt8) : count (x :: a) = pop x + count a := by simp [count]
theorem count_not : ∀ a : List UInt8, count a + count (notL a) = 8 * a.length
  | [] => rfl
  | x :: a => by
    have := count_not a
    have hp := u8_bits_pop x
    rw [notL_cons, count_cons, count_cons, List.length_cons]
    omega
theorem make_count (s : ByteArray) : count (makeT s).data.toList = 4 * (makeT s).size := by
  rw [make_toList, count_append, count_not, makeT_size, toList_length, sealT_size]
  omega
theorem make_clear (s : ByteArray) : clearB (makeT s) = false := by
  unfold clearB
  rw [make_toList, List.all_append]
  have hl : (sealT s).data.toList.length = s.size + 4 := by rw [toList_length, sealT_size]
  cases hc : (sealT s).data.toList with
  | nil => rw [hc] at hl; simp at hl
  | cons x l =>
    rw [notL_cons, List.all_cons, List.all_cons]
    by_cases hx : x = 255
    · subst hx; simp
    · have : (x == 255) = false := by simpa using hx
      rw [this]
      simp
theorem ones_clear (n : Nat) : clearB (onesT n) = true := by
  unfold clearB onesT
  rw [bs_toList, List.all_eq_true]
  intro c hc
  simpa using List.eq_of_mem_replicate hc
theorem ones_not (n : Nat) : (readT (onesT n)).2 = 2 := by
  rcases readT_back (onesT n) with ⟨_, h⟩ | ⟨h, _⟩
  · exfalso
    have h1 := make_clear (readT (onesT n)).1
    rw [h, ones_clear] at h1
    cases h1
  · exact h

end Go.Proofs.YtmabpnkdagipfaaGreat

/- page: sheets, and the iterator over their places. -/
namespace Go.Proofs.YtmabpnkdagipfaaGreat
open Go.RowKit
attribute [local go_sem] Oper.semAt_some

/-- A world that is w, and in which blocks of a call's own lie, each where it lies; whatever lies beside these. -/
structure Blks (w : World) (os : List (Nat × Obj)) (W : World) : Prop where
  bel : Below w.heap.size w W
  obj : ∀ (i B : Nat) (o : Obj), os[i]? = some (B, o) → W.heap[B]? = some o
  nd : (os.map (·.1)).Nodup
  ge : ∀ p ∈ os, w.heap.size ≤ p.1

theorem putObj_size (W : World) (B : Nat) (o : Obj) : (W.putObj B o).heap.size = W.heap.size := World.putObj_size
theorem alloc_size (W : World) (o : Obj) : (W.alloc o).heap.size = W.heap.size + 1 := by simp
section
variable {w W W' : World} {os : List (Nat × Obj)} {B : Nat} {o o0 : Obj}
theorem Blks.start (w : World) : Blks w [] w := ⟨Below.refl _ _, fun i B o h => by simp at h, by simp, fun p h => by simp at h⟩
theorem Blks.at (h : Blks w os W) (i : Nat) (hi : os[i]? = some (B, o)) : W.heap[B]? = some o := h.obj i B o hi
theorem Blks.lt (h : Blks w os W) (i : Nat) (hi : os[i]? = some (B, o)) : B < W.heap.size := (Array.getElem?_eq_some_iff.1 (h.obj i B o hi)).1
theorem Blks.le (h : Blks w os W) (i : Nat) (hi : os[i]? = some (B, o)) : w.heap.size ≤ B := h.ge _ (List.mem_of_getElem? hi)
theorem Blks.ups (h : Blks w os W) (hu : Ups W W') : Blks w os W' :=
  ⟨⟨hu.os.trans h.bel.os, hu.tape.trans h.bel.tape, hu.output.trans h.bel.output, Nat.le_trans h.bel.size hu.size, fun k hk => (hu.block k (Nat.lt_of_lt_of_le hk h.bel.size)).trans (h.bel.block k hk)⟩,
   fun i B o hi => (hu.block _ (h.lt i hi)).trans (h.obj i B o hi), h.nd, h.ge⟩
theorem Blks.other (h : Blks w os W) {i j B' : Nat} (hi : os[i]? = some (B, o)) (hj : os[j]? = some (B', o0)) (hij : i ≠ j) : B' ≠ B := by
  rintro rfl
  have h1 : (os.map (·.1))[i]? = some B' := by rw [List.getElem?_map, hi]; rfl
  have h2 : (os.map (·.1))[j]? = some B' := by rw [List.getElem?_map, hj]; rfl
  exact hij ((List.getElem?_inj (List.getElem?_eq_some_iff.1 h1).1 h.nd).1 (h1.trans h2.symm))
theorem Blks.alloc (h : Blks w os W) (o : Obj) (hB : B = W.heap.size) : Blks w (os ++ [(B, o)]) (W.alloc o) := by
  subst hB
  have hlt : ∀ p ∈ os, p.1 < W.heap.size := fun p hp => by
    obtain ⟨i, hi⟩ := List.getElem?_of_mem hp
    exact h.lt i (B := p.1) (o := p.2) hi
  refine ⟨h.bel.alloc h.bel.size o, fun i B' o' hi => ?_, ?_, fun p hp => ?_⟩
  · rcases Nat.lt_or_ge i os.length with hl | hg
    · rw [List.getElem?_append_left hl] at hi
      exact (Below.heap_alloc W o _ (hlt _ (List.mem_of_getElem? hi))).trans (h.obj i B' o' hi)
    · rw [List.getElem?_append_right hg] at hi
      cases hd : i - os.length with
      | zero =>
        rw [hd] at hi
        simp only [List.getElem?_cons_zero, Option.some.injEq, Prod.mk.injEq] at hi
        obtain ⟨rfl, rfl⟩ := hi
        exact World.alloc_heap_new W _
      | succ q => rw [hd] at hi; simp at hi
  · rw [List.map_append, List.nodup_append]
    refine ⟨h.nd, by simp, ?_⟩
    intro a ha b hb
    obtain ⟨p, hp, rfl⟩ := List.mem_map.1 ha
    have := hlt p hp
    simp at hb
    omega
  · rw [List.mem_append] at hp
    rcases hp with hp | hp
    · exact h.ge p hp
    · simp at hp
      subst hp
      exact h.bel.size
theorem Blks.put (h : Blks w os W) (i : Nat) (hi : os[i]? = some (B, o0)) (o : Obj) : Blks w (os.set i (B, o)) (W.putObj B o) := by
  have hlt := h.lt i hi
  have hle := h.le i hi
  have hil := (List.getElem?_eq_some_iff.1 hi).1
  have e := (List.getElem?_eq_some_iff.1 hi).2
  refine ⟨⟨h.bel.os, h.bel.tape, h.bel.output, by rw [World.putObj_size]; exact h.bel.size, fun k hk => (World.putObj_heap_other (by omega)).trans (h.bel.block k hk)⟩, fun j B' o' hj => ?_, ?_, fun p hp => ?_⟩
  · by_cases hij : i = j
    · subst hij
      rw [List.getElem?_set_self hil] at hj
      cases hj
      exact World.putObj_heap_same hlt
    · rw [List.getElem?_set_ne hij] at hj
      exact (World.putObj_heap_other (h.other hi hj hij)).trans (h.obj j B' o' hj)
  · rw [List.map_set, show B = (os.map (·.1))[i]'(by simpa using hil) by simp [e], List.set_getElem_self]
    exact h.nd
  · rcases List.mem_or_eq_of_mem_set hp with hp | rfl
    · exact h.ge p hp
    · exact hle
theorem Blks.set (h : Blks w os W) (i j : Nat) {cs : Array Value} {t : TypeId} {fr : Nat × Nat} (hi : os[i]? = some (B, .cells cs t fr)) (v : Value) :
    Blks w (os.set i (B, .cells (cs.setIfInBounds j v) t fr)) (W.setCell ⟨B, j, none⟩ v) := by
  have hlt := h.lt i hi
  have hle := h.le i hi
  have hil := (List.getElem?_eq_some_iff.1 hi).1
  have e := (List.getElem?_eq_some_iff.1 hi).2
  have hat := h.at i hi
  have hoth : ∀ k, k ≠ B → (W.setCell ⟨B, j, none⟩ v).heap[k]? = W.heap[k]? := fun k hk => by
    simp only [World.setCell, Array.getElem?_modify]
    rw [if_neg (fun e => hk e.symm)]
  refine ⟨⟨h.bel.os, h.bel.tape, h.bel.output, by simpa [World.setCell] using h.bel.size, fun k hk => (hoth k (by omega)).trans (h.bel.block k hk)⟩, fun q B' o' hq => ?_, ?_, fun p hp => ?_⟩
  · by_cases hiq : i = q
    · subst hiq
      rw [List.getElem?_set_self hil] at hq
      cases hq
      simp [World.setCell, Array.getElem?_modify, hat]
    · rw [List.getElem?_set_ne hiq] at hq
      exact (hoth _ (h.other hi hq hiq)).trans (h.obj q B' o' hq)
  · rw [List.map_set, show B = (os.map (·.1))[i]'(by simpa using hil) by simp [e], List.set_getElem_self]
    exact h.nd
  · rcases List.mem_or_eq_of_mem_set hp with hp | rfl
    · exact h.ge p hp
    · exact hle
theorem Blks.cell (h : Blks w os W) (i j : Nat) {cs : Array Value} {t : TypeId} {fr : Nat × Nat} {v : Value} (hi : os[i]? = some (B, .cells cs t fr)) (hv : cs[j]? = some v) : W.cell? ⟨B, j, none⟩ = some v := by
  unfold World.cell?
  rw [h.at i hi]
  simpa using hv
theorem Blks.frozen (h : Blks w os W) (i j : Nat) {cs : Array Value} {t : TypeId} (hi : os[i]? = some (B, .cells cs t (0, 0))) : W.frozen? ⟨B, j, none⟩ = false := by
  unfold World.frozen?
  rw [h.at i hi]
  simp
end

/-- How large a record of n bytes is, and the bytes of place k. -/
def sizeN (n : Int) : Nat := (sizeF n).toNat
theorem sizeN_le (n : Int) : sizeN n ≤ 8008 ∧ (sizeF n = (sizeN n : Int)) := by
  unfold sizeN sizeF
  split
  · omega
  · omega
def place (s : ByteArray) (z k : Nat) : ByteArray := s.extract (k * z) ((k + 1) * z)
theorem place_in {s : ByteArray} {z k : Nat} (hk : k < s.size / z) : k * z ≤ (k + 1) * z ∧ (k + 1) * z ≤ s.size := by
  refine ⟨Nat.mul_le_mul_right _ (Nat.le_succ k), ?_⟩
  exact Nat.le_trans (Nat.mul_le_mul_right z hk) (Nat.div_mul_le_self _ _)
theorem place_size {s : ByteArray} {z k : Nat} (hk : k < s.size / z) : (place s z k).size = z := by
  have h := place_in hk
  unfold place
  rw [ByteArray.size_extract, Nat.min_eq_left h.2, Nat.add_mul, Nat.one_mul]
  omega

set_option maxRecDepth 100000 in
theorem of_calls (s : ByteArray) (n : Int) (w : World) :
    Calls Tryz.prog 31 #[.string s, .int .i64 n] w fun e W' => e = .returned (.agg #[.string s, .int .i64 (sizeN n)]) ∧ Ups w W' := by
  have hz := (sizeN_le n).2
  have hsz := size_calls n
  rw [hz] at hsz
  generalize sizeN n = z at *
  clear hz
  have hk := World.alloc_heap_new w (.cells #[.string s, .int .i64 z] 48)
  have c0 : (w.alloc (.cells #[.string s, .int .i64 z] 48)).cell? ⟨w.heap.size, 0, none⟩ = some (.string s) := by unfold World.cell?; rw [hk]; rfl
  have c1 : (w.alloc (.cells #[.string s, .int .i64 z] 48)).cell? ⟨w.heap.size, 1, none⟩ = some (.int .i64 z) := by unfold World.cell?; rw [hk]; rfl
  clear hk
  go_enter Tryz.func31, Tryz.ntmps31
  go_wp2_with fail
  refine (hsz _).mono ?_
  rintro e w1 ⟨rfl, rfl⟩
  go_wp2_with fail
  exact bodyPost_ret (v := .agg #[.string s, .int .i64 z]) (by simp [results, Tryz.results31, go_sem, c0, c1]) rfl ⟨rfl, (Below.refl _ w).alloc (Nat.le_refl _) _⟩

set_option maxRecDepth 100000 in
theorem room_calls (s : ByteArray) (z : Nat) (w : World) (hs : s.size ≤ 140737488355328) :
    Calls Tryz.prog 35 #[.agg #[.string s, .int .i64 z]] w fun e W' => e = .returned (.int .i64 (s.size / z : Nat)) ∧ Ups w W' := by
  by_cases h0 : z = 0
  · subst h0
    go_enter Tryz.func35, Tryz.ntmps35
    go_wp2_with fail
    exact bodyPost_ret (v := .int .i64 0) (results_one rfl rfl) rfl ⟨by simp, (Below.refl _ w).alloc (Nat.le_refl _) _⟩
  · have hz0 : ((z : Int) == 0) = false := by simpa using h0
    have hq : wrap64 ((s.size : Int) / z) = (s.size / z : Nat) := by
      rw [Int.natCast_ediv]
      have h1 : s.size / z ≤ s.size := Nat.div_le_self _ _
      have h2 : ((s.size / z : Nat) : Int) = (s.size : Int) / z := Int.natCast_ediv _ _
      have h3 : (0 : Int) ≤ ((s.size / z : Nat) : Int) := Int.natCast_nonneg _
      have h4 : ((s.size / z : Nat) : Int) ≤ 140737488355328 := Int.ofNat_le.2 (Nat.le_trans h1 hs)
      rw [h2] at h3 h4
      generalize (s.size : Int) / z = x at *
      exact IntWalk.wrap64_in _ ⟨by omega, by omega⟩
    generalize ((s.size / z : Nat) : Int) = r at *
    go_enter Tryz.func35, Tryz.ntmps35
    go_wp2_with fail
    rw [hq]
    exact bodyPost_ret (v := .int .i64 r) (results_one rfl rfl) rfl ⟨rfl, (Below.refl _ w).alloc (Nat.le_refl _) _⟩

theorem peach_calls (s : ByteArray) (z : Nat) (w : World) :
    Calls Tryz.prog 32 #[.agg #[.string s, .int .i64 z]] w fun e w' => e = .returned (.func (.func 57) #[] #[.pointer (some ⟨w.heap.size, 0, none⟩)]) ∧ (w.alloc (.cells #[.string s, .int .i64 z] 48)) = w' := by
  have hmf : ∀ (fn : Fn) (first cap : Array Value) (w : World), (Instr.makeFunc fn first cap).run Tryz.prog w = .ok (.func fn first cap) w := fun _ _ _ _ => rfl
  go_enter Tryz.func32, Tryz.ntmps32
  go_wp2
  go_ret
  exact ⟨rfl, rfl⟩

set_option maxRecDepth 100000 in
set_option maxHeartbeats 1000000 in
theorem peach_in (l b : Nat) (s : ByteArray) (z : Nat) (hs : s.size ≤ 140737488355328) (J : Nat → World → Prop) (Jend : World → Prop)
    (hcell : ∀ k W, J k W → W.heap[b]? = some (.cells #[.string s, .int .i64 z] 48 (0, 0)))
    (hups : ∀ k W W', J k W → Ups W W' → J k W')
    (hround : ∀ k W, k < s.size / z → J k W → YieldAt Fence.wide 7 Tryz.prog l #[.int .i64 k, .string (place s z k)] W fun e W' => (e = .returned (.bool true) ∧ J (k + 1) W') ∨ (e = .returned (.bool false) ∧ Jend W'))
    (hlast : ∀ W, J (s.size / z) W → Jend W)
    (W : World) (h0 : J 0 W) :
    CallsIn Fence.wide 8 Tryz.prog 57 #[.func (.yield l) #[] #[], .pointer (some ⟨b, 0, none⟩)] W fun e W' => (∃ v, e = .returned v) ∧ Jend W' := by
  refine callsIn_of_wp Tryz.func57 rfl trivial ?_ rfl
  simp only [Tryz.ntmps57, List.size_toArray, List.length_cons, List.length_nil, Nat.reduceAdd, Nat.reduceSub, Array.replicate_succ, Array.replicate_zero, List.push_toArray, List.append_toArray, List.nil_append, List.cons_append]
  have cells : ∀ k W, J k W → W.cell? ⟨b, 0, none⟩ = some (.string s) ∧ W.cell? ⟨b, 1, none⟩ = some (.int .i64 z) := by
    intro k W h
    have := hcell k W h
    constructor <;> (unfold World.cell?; rw [this]; rfl)
  obtain ⟨hw0, hw1⟩ := cells 0 W h0
  have HC := Lib.hid cells
  have HR := Lib.hid hround
  have HL := Lib.hid hlast
  have HU := Lib.hid hups
  have hrm := fun w => room_calls s z w hs
  have hroom : s.size / z ≤ s.size := Nat.div_le_self _ _
  have hpl : ∀ k, k < s.size / z → k * z ≤ (k + 1) * z ∧ (k + 1) * z ≤ s.size := fun k hk => place_in hk
  generalize s.size / z = r at *
  have HP := Lib.hid hpl
  clear hcell cells hround hlast hups hpl
  gi_wp2_with (refine ⟨trivial, ?_⟩; gi_at_call 35; refine (callsIn_wide.2 (hrm _)).mono ?_; rintro e W2 ⟨rfl, hW2⟩)
  have h2 := HU.out 0 W W2 h0 hW2
  clear h0 hw0 hw1 hW2
  gi_loopw [6] (fun i wr => ∃ k : Nat, k ≤ r ∧ i = .int .i64 k ∧ J k wr) (fun i _ => r - (intOf i).toNat)
  case atStart => exact ⟨0, Nat.zero_le _, rfl, h2⟩
  case round =>
    obtain ⟨k, hk, rfl, hJ⟩ := hrel
    by_cases hlt : k < r
    · obtain ⟨hcw0, hcw1⟩ := HC.out k wr hJ
      obtain ⟨hp1, hp2⟩ := HP.out k hlt
      obtain ⟨fn, tmps, assign, body, hy, hR⟩ := HR.out k wr hlt hJ
      rw [show place s z k = s.extract (k * z) ((k + 1) * z) from rfl] at hy
      have e1 : ((k : Int) * (z : Int)) = ((k * z : Nat) : Int) := (Int.natCast_mul _ _).symm
      have e2 : (((k : Int) + 1) * (z : Int)) = (((k + 1) * z : Nat) : Int) := by rw [Int.natCast_mul]; rfl
      generalize k * z = x at *
      generalize (k + 1) * z = y at *
      gi_wp2
      refine hR.mono ?_
      rintro e W3 (⟨rfl, hm⟩ | ⟨rfl, hm⟩)
      · clear hy hR
        gi_wp2
        go_roundw
        case rel => exact ⟨k + 1, by omega, by go_num, hm⟩
        case measure => simp [intOf]; omega
      · clear hy hR
        gi_wp2
        exact bodyPost_ret (results_none rfl _ _ _) rfl ⟨⟨_, rfl⟩, hm⟩
    · obtain rfl : k = r := by omega
      gi_wp2
      go_end0
      exact ⟨⟨_, rfl⟩, HL.out wr hJ⟩

end Go.Proofs.YtmabpnkdagipfaaGreat

/- page.Next and page.Room. -/
namespace Go.Proofs.YtmabpnkdagipfaaGreat
open Go.RowKit
attribute [local go_sem] Oper.semAt_some

theorem clear_c (s : ByteArray) (w : World) (hs : s.size ≤ 140737488355328) :
    Calls Tryz.prog 38 #[.string s] w fun e w' => e = .returned (.bool (clearT s)) ∧ Ups w w' := by
  have := clear_calls s w hs
  rw [clear_eq] at this
  exact this
theorem read_c (s : ByteArray) (w : World) (hs : s.size ≤ 90000) :
    Calls Tryz.prog 26 #[.string s] w fun e w' => e = .returned (.tuple #[.string (rreadT s).1, .int .i64 (rreadT s).2]) ∧ Ups w w' := by
  have := read_calls s w hs
  rw [read_eq] at this
  exact this

/-- The place that is next, of the first k ones. -/
def nextTo (f : Nat → Bool) : Nat → Nat
  | 0 => 0
  | k + 1 => if f k then nextTo f k else k + 1
def nextN (s : ByteArray) (z : Nat) : Nat := nextTo (fun k => clearT (place s z k)) (s.size / z)

set_option maxRecDepth 100000 in
set_option maxHeartbeats 1000000 in
theorem next_calls (s : ByteArray) (n : Int) (w : World) (hs : s.size ≤ 90000) :
    Calls Tryz.prog 19 #[.string s, .int .i64 n] w fun e W' => e = .returned (.int .i64 (nextN s (sizeN n))) ∧ Ups w W' := by
  have hof := fun w => of_calls s n w
  have hpsz := fun k (hk : k < s.size / sizeN n) => place_size hk
  have hroom : s.size / sizeN n ≤ s.size := Nat.div_le_self _ _
  have hz8 := (sizeN_le n).1
  unfold nextN
  generalize sizeN n = z at *
  have HZ := Lib.hid hpsz
  clear hpsz
  refine (callsIn_wide (n := 9)).1 ?_
  refine callsIn_of_wp_marks Tryz.func19 rfl trivial ?_ rfl
  simp only [Tryz.ntmps19, List.size_toArray, List.length_cons, List.length_nil, Nat.reduceAdd, Nat.reduceSub, Array.replicate_succ, Array.replicate_zero, List.push_toArray, List.append_toArray, List.nil_append, List.cons_append]
  gi_wp2_with (refine ⟨trivial, ?_⟩; gi_at_call 31; refine (callsIn_wide.2 (hof _)).mono ?_; rintro e W1 ⟨rfl, hW1⟩)
  gi_wp2_with (refine ⟨trivial, ?_⟩; gi_at_call 32; refine (callsIn_wide.2 (peach_calls s z _)).mono ?_; rintro e W2 ⟨rfl, hW2⟩; have HW := Lib.hid hW2; clear hW2)
  have hb1 : w.heap.size < W1.heap.size := Nat.lt_of_lt_of_le (by simp) hW1.size
  refine range_law rfl (by decide) (gf := 57) (lb := _) rfl trivial (enters_of Tryz.func57 (by kernel_rfl) rfl) ?_
  intro fn rec hfn hrec
  have h2 := (((Blks.start w).alloc (.cells #[.int .i64 0] 3) rfl).ups hW1).alloc (.cells #[.string s, .int .i64 z] 48) rfl
  have hsz := alloc_size W1 (.cells #[.string s, .int .i64 z] 48)
  rw [HW.out] at h2 hsz
  have h4 := (h2.alloc (.deferred (some [])) rfl).alloc (.loop (rec .ready none)) (B := W2.heap.size + 1) (by simp)
  simp only [List.nil_append, List.cons_append] at h4
  have HREC := Lib.hid hrec
  clear hrec HW h2 hW1
  rw [hsz] at h4 HREC ⊢
  generalize W1.heap.size = b at *
  refine (peach_in (b + 1 + 1) b s z (by omega)
    (fun k W => Blks w [(w.heap.size, .cells #[.int .i64 (nextTo (fun k => clearT (place s z k)) k)] 3), (b, .cells #[.string s, .int .i64 z] 48), (b + 1, .deferred (some [])), (b + 1 + 1, .loop (rec .ready none))] W)
    (fun W => Blks w [(w.heap.size, .cells #[.int .i64 (nextTo (fun k => clearT (place s z k)) (s.size / z))] 3), (b, .cells #[.string s, .int .i64 z] 48), (b + 1, .deferred (some [])), (b + 1 + 1, .loop (rec .ready none))] W)
    ?cell ?ups ?round ?last _ h4).mono ?done
  case cell => exact fun k W h => h.at 1 rfl
  case ups => exact fun k W W' h hu => h.ups hu
  case last => exact fun W h => h
  case round =>
    rintro k W hk hJ
    have hps := HZ.out k hk
    have hcl := fun w => clear_c (place s z k) w (by omega)
    have hnx : nextTo (fun k => clearT (place s z k)) (k + 1) = if clearT (place s z k) then nextTo (fun k => clearT (place s z k)) k else k + 1 := rfl
    generalize nextTo (fun k => clearT (place s z k)) (k + 1) = v' at *
    generalize nextTo (fun k => clearT (place s z k)) k = v at *
    generalize place s z k = t at *
    cases hc : clearT t with
    | true =>
      rw [hc] at hcl hnx
      obtain rfl : v' = v := by simpa using hnx
      clear hc hnx
      refine round_law hfn HREC.out (hJ.at 3 rfl) rfl ?_
      gi_wp2
      refine ⟨hJ.at 3 rfl, ?_⟩
      have hB := hJ.put 3 rfl (.loop (rec .busy none))
      simp only [List.set] at hB
      generalize World.putObj W (b + 1 + 1) (.loop (rec .busy none)) = W3 at *
      clear hJ
      gi_wp2_with (refine ⟨trivial, ?_⟩; gi_at_call 38; refine (callsIn_wide.2 (hcl _)).mono ?_; rintro e W4 ⟨rfl, hW4⟩)
      have hB4 := hB.ups hW4
      have h4 := hB4.put 3 rfl (.loop (rec .ready none))
      exact ⟨hB4.at 3 rfl, .inl ⟨rfl, h4⟩⟩
    | false =>
      rw [hc] at hcl hnx
      obtain rfl : v' = k + 1 := by simpa using hnx
      clear hc hnx
      refine round_law hfn HREC.out (hJ.at 3 rfl) rfl ?_
      gi_wp2
      refine ⟨hJ.at 3 rfl, ?_⟩
      have hB := hJ.put 3 rfl (.loop (rec .busy none))
      simp only [List.set] at hB
      generalize World.putObj W (b + 1 + 1) (.loop (rec .busy none)) = W3 at *
      clear hJ
      gi_wp2_with (refine ⟨trivial, ?_⟩; gi_at_call 38; refine (callsIn_wide.2 (hcl _)).mono ?_; rintro e W4 ⟨rfl, hW4⟩; have hB4 := hB.ups hW4; have c0 := hB4.cell 0 0 rfl rfl; have f0 := hB4.frozen 0 0 rfl; have HB := Lib.hid hB4; clear hB4 hB)
      have h3 := HB.out.set 0 0 rfl (.int .i64 (k + 1))
      have h4 := h3.put 3 rfl (.loop (rec .ready none))
      exact ⟨h3.at 3 rfl, .inl ⟨rfl, h4⟩⟩
  case done =>
    rintro e W ⟨hv, hJ⟩
    refine ⟨hv, .inl ⟨hJ.at 3 rfl, ?_⟩⟩
    have hB := hJ.put 3 rfl (.loop (rec .exhausted none))
    simp only [List.set] at hB
    generalize World.putObj W (b + 1 + 1) (.loop (rec .exhausted none)) = W3 at *
    clear hJ
    have c0 : W3.cell? ⟨w.heap.size, 0, none⟩ = some (.int .i64 (nextTo (fun k => clearT (place s z k)) (s.size / z))) := hB.cell 0 0 rfl rfl
    have HB := Lib.hid hB
    clear hB
    gi_wp2
    have h4 := HB.out.put 2 rfl (.deferred none)
    refine ⟨by simp, .inl ⟨_, _, rfl, run_takeDeferred (HB.out.at 2 rfl), ?_⟩⟩
    generalize World.putObj W3 _ _ = W4 at *
    exact ⟨.int .i64 (nextTo (fun k => clearT (place s z k)) (s.size / z)), by simp [results, Tryz.results19, go_sem], rfl, h4.bel⟩

set_option maxRecDepth 100000 in
theorem proom_calls (s : ByteArray) (n : Int) (w : World) (hs : s.size ≤ 90000) :
    Calls Tryz.prog 16 #[.string s, .int .i64 n] w fun e W' => e = .returned (.int .i64 (s.size / sizeN n : Nat)) ∧ Ups w W' := by
  have hof := fun w => of_calls s n w
  generalize sizeN n = z at *
  have hrm := fun w => room_calls s z w (by omega)
  generalize ((s.size / z : Nat) : Int) = r at *
  go_enter Tryz.func16, Tryz.ntmps16
  go_wp2_with fail
  refine (hof _).mono ?_
  rintro e w1 ⟨rfl, h1⟩
  go_wp2_with fail
  refine (hrm _).mono ?_
  rintro e w2 ⟨rfl, h2⟩
  go_wp2_with fail
  exact bodyPost_ret (v := .int .i64 r) (results_one rfl rfl) rfl ⟨rfl, Ups.trans h1 h2⟩

end Go.Proofs.YtmabpnkdagipfaaGreat

/- page.Slot, page.Bad. -/
namespace Go.Proofs.YtmabpnkdagipfaaGreat
open Go.RowKit
attribute [local go_sem] Oper.semAt_some

/-- The bytes of a place. -/
def slotT (s : ByteArray) (z : Nat) (i : Int) : ByteArray := if 0 ≤ i ∧ i < (s.size / z : Nat) then place s z i.toNat else { data := #[] }

set_option maxRecDepth 100000 in
set_option maxHeartbeats 1000000 in
theorem slot_calls (s : ByteArray) (n i : Int) (w : World) (hs : s.size ≤ 90000) :
    Calls Tryz.prog 17 #[.string s, .int .i64 n, .int .i64 i] w fun e W' => e = .returned (.string (slotT s (sizeN n) i)) ∧ Ups w W' := by
  have hof := fun w => of_calls s n w
  have hroom : s.size / sizeN n ≤ s.size := Nat.div_le_self _ _
  unfold slotT
  generalize sizeN n = z at *
  refine (callsIn_wide (n := 9)).1 ?_
  refine callsIn_of_wp_marks Tryz.func17 rfl trivial ?_ rfl
  simp only [Tryz.ntmps17, List.size_toArray, List.length_cons, List.length_nil, Nat.reduceAdd, Nat.reduceSub, Array.replicate_succ, Array.replicate_zero, List.push_toArray, List.append_toArray, List.nil_append, List.cons_append]
  gi_wp2_with (refine ⟨trivial, ?_⟩; gi_at_call 31; refine (callsIn_wide.2 (hof _)).mono ?_; rintro e W1 ⟨rfl, hW1⟩)
  gi_wp2_with (refine ⟨trivial, ?_⟩; gi_at_call 32; refine (callsIn_wide.2 (peach_calls s z _)).mono ?_; rintro e W2 ⟨rfl, hW2⟩; have HW := Lib.hid hW2; clear hW2)
  have hb1 : w.heap.size + 1 < W1.heap.size := Nat.lt_of_lt_of_le (by simp) hW1.size
  refine range_law rfl (by decide) (gf := 57) (lb := _) rfl trivial (enters_of Tryz.func57 (by kernel_rfl) rfl) ?_
  intro fn rec hfn hrec
  have h2 := ((((Blks.start w).alloc (.cells #[.int .i64 i] 3) rfl).alloc (.cells #[.string { data := #[] }] 9) (B := w.heap.size + 1) (by simp)).ups hW1).alloc (.cells #[.string s, .int .i64 z] 48) rfl
  have hsz := alloc_size W1 (.cells #[.string s, .int .i64 z] 48)
  rw [HW.out] at h2 hsz
  have h4 := (h2.alloc (.deferred (some [])) rfl).alloc (.loop (rec .ready none)) (B := W2.heap.size + 1) (by simp)
  simp only [List.nil_append, List.cons_append] at h4
  have HREC := Lib.hid hrec
  clear hrec HW h2 hW1
  rw [hsz] at h4 HREC ⊢
  generalize W1.heap.size = b at *
  refine (peach_in (b + 1 + 1) b s z (by omega)
    (fun k W => (∀ j : Nat, j < k → (j : Int) ≠ i) ∧ Blks w [(w.heap.size, .cells #[.int .i64 i] 3), (w.heap.size + 1, .cells #[.string { data := #[] }] 9), (b, .cells #[.string s, .int .i64 z] 48), (b + 1, .deferred (some [])), (b + 1 + 1, .loop (rec .ready none))] W)
    (fun W => ((∀ j : Nat, j < s.size / z → (j : Int) ≠ i) ∧ Blks w [(w.heap.size, .cells #[.int .i64 i] 3), (w.heap.size + 1, .cells #[.string { data := #[] }] 9), (b, .cells #[.string s, .int .i64 z] 48), (b + 1, .deferred (some [])), (b + 1 + 1, .loop (rec .ready none))] W) ∨ (∃ k : Nat, k < s.size / z ∧ (k : Int) = i ∧ Blks w [(w.heap.size, .cells #[.int .i64 i] 3), (w.heap.size + 1, .cells #[.string (place s z k)] 9), (b, .cells #[.string s, .int .i64 z] 48), (b + 1, .deferred (some [])), (b + 1 + 1, .loop (rec .done (some .ret)))] W))
    ?cell ?ups ?round ?last _ ⟨fun j h => by omega, h4⟩).mono ?done
  case cell => exact fun k W h => h.2.at 2 rfl
  case ups => exact fun k W W' h hu => ⟨h.1, h.2.ups hu⟩
  case last => exact fun W h => .inl h
  case round =>
    rintro k W hk ⟨hall, hJ⟩
    have hALL := Lib.hid hall
    clear hall
    generalize hpl : place s z k = t at *
    have HPL := Lib.hid hpl
    clear hpl
    by_cases hik : (k : Int) = i
    · have he : ((k : Int) == i) = true := by simpa using hik
      have HIK := Lib.hid hik
      clear hik
      refine round_law hfn HREC.out (hJ.at 4 rfl) rfl ?_
      gi_wp2
      refine ⟨hJ.at 4 rfl, ?_⟩
      have hB := hJ.put 4 rfl (.loop (rec .busy none))
      simp only [List.set] at hB
      generalize World.putObj W (b + 1 + 1) (.loop (rec .busy none)) = W3 at *
      clear hJ
      have i0 : W3.cell? ⟨w.heap.size, 0, none⟩ = some (.int .i64 i) := hB.cell 0 0 rfl rfl
      have c0 := hB.cell 1 0 rfl rfl
      have f0 := hB.frozen 1 0 rfl
      have HB := Lib.hid hB
      clear hB
      gi_wp2
      have h3 := HB.out.set 1 0 rfl (.string t)
      have h4 := h3.put 4 rfl (.loop (rec .done (some .ret)))
      refine ⟨h3.at 4 rfl, .inr ⟨rfl, .inr ⟨k, hk, HIK.out, ?_⟩⟩⟩
      rw [HPL.out]
      exact h4
    · have he : ((k : Int) == i) = false := by simpa using hik
      have HIK := Lib.hid hik
      clear hik
      refine round_law hfn HREC.out (hJ.at 4 rfl) rfl ?_
      gi_wp2
      refine ⟨hJ.at 4 rfl, ?_⟩
      have hB := hJ.put 4 rfl (.loop (rec .busy none))
      simp only [List.set] at hB
      generalize World.putObj W (b + 1 + 1) (.loop (rec .busy none)) = W3 at *
      clear hJ
      have i0 : W3.cell? ⟨w.heap.size, 0, none⟩ = some (.int .i64 i) := hB.cell 0 0 rfl rfl
      have HB := Lib.hid hB
      clear hB
      gi_wp2
      have h4 := HB.out.put 4 rfl (.loop (rec .ready none))
      refine ⟨HB.out.at 4 rfl, .inl ⟨rfl, fun j hj => ?_, h4⟩⟩
      rcases Nat.lt_or_ge j k with h | h
      · exact hALL.out j h
      · have : j = k := by omega
        rw [this]
        exact HIK.out
  case done =>
    rintro e W ⟨hv, ⟨hno, hJ⟩ | ⟨k, hk, rfl, hJ⟩⟩
    · have hif : ¬ (0 ≤ i ∧ i < ((s.size / z : Nat) : Int)) := fun h => hno i.toNat (by omega) (by omega)
      have HIF := Lib.hid hif
      clear hif hno
      refine ⟨hv, .inl ⟨hJ.at 4 rfl, ?_⟩⟩
      have hB := hJ.put 4 rfl (.loop (rec .exhausted none))
      simp only [List.set] at hB
      generalize World.putObj W (b + 1 + 1) (.loop (rec .exhausted none)) = W3 at *
      clear hJ
      have c0 := hB.cell 1 0 rfl rfl
      have f0 := hB.frozen 1 0 rfl
      have HB := Lib.hid hB
      clear hB
      gi_wp2
      have h3 := HB.out.set 1 0 rfl (.string { data := #[] })
      have h4 := h3.put 3 rfl (.deferred none)
      refine ⟨by simp, .inl ⟨_, _, rfl, run_takeDeferred (h3.at 3 rfl), ?_⟩⟩
      generalize World.putObj _ _ _ = W4 at *
      have k1 : W4.cell? ⟨w.heap.size + 1, 0, none⟩ = some (.string { data := #[] }) := h4.cell 1 0 rfl rfl
      exact ⟨.string { data := #[] }, by simp [results, Tryz.results17, go_sem, k1], by first | rfl | rw [if_neg HIF.out], h4.bel⟩
    · have hif : (0 : Int) ≤ (k : Int) ∧ (k : Int) < ((s.size / z : Nat) : Int) := by omega
      have HIF := Lib.hid hif
      clear hif
      refine ⟨hv, .inr ⟨hJ.at 4 rfl, ?_⟩⟩
      have hB := hJ.put 4 rfl (.loop (rec .exhausted (some .ret)))
      simp only [List.set] at hB
      generalize World.putObj W (b + 1 + 1) (.loop (rec .exhausted (some .ret))) = W3 at *
      clear hJ
      have HB := Lib.hid hB
      clear hB
      gi_wp2
      have h4 := HB.out.put 3 rfl (.deferred none)
      refine ⟨by simp, .inl ⟨_, _, rfl, run_takeDeferred (HB.out.at 3 rfl), ?_⟩⟩
      generalize World.putObj W3 _ _ = W4 at *
      have k1 : W4.cell? ⟨w.heap.size + 1, 0, none⟩ = some (.string (place s z k)) := h4.cell 1 0 rfl rfl
      exact ⟨.string (place s z k), by simp [results, Tryz.results17, go_sem, k1], by first | rfl | rw [if_pos HIF.out, Int.toNat_natCast], h4.bel⟩

/-- Is a place bad? -/
def badT (t : ByteArray) : Bool := !((rreadT t).2 == 0) && !clearT t
set_option maxRecDepth 100000 in
theorem bad1_calls (t : ByteArray) (w : World) (hs : t.size ≤ 90000) :
    Calls Tryz.prog 37 #[.string t] w fun e W' => e = .returned (.bool (badT t)) ∧ Ups w W' := by
  have hr := fun w => read_c t w hs
  have hc := fun w => clear_c t w (by omega)
  have hd : badT t = (!((rreadT t).2 == 0) && !clearT t) := rfl
  generalize badT t = r at *
  generalize clearT t = c at *
  generalize (rreadT t).1 = p at *
  generalize (rreadT t).2 = k at *
  by_cases hk : k = 0
  · subst hk
    obtain rfl : r = false := by simpa using hd
    clear hd hc
    go_enter Tryz.func37, Tryz.ntmps37
    go_wp2_with fail
    refine (hr _).mono ?_
    rintro e w1 ⟨rfl, h1⟩
    go_wp2_with fail
    exact bodyPost_ret (v := .bool false) (results_one rfl rfl) rfl ⟨rfl, h1⟩
  · have hne : (k != 0) = true := by simpa using hk
    have hk' : (k == 0) = false := by simpa using hk
    obtain rfl : r = !c := by rw [hd, hk']; rfl
    clear hd hk hk'
    go_enter Tryz.func37, Tryz.ntmps37
    go_wp2_with fail
    refine (hr _).mono ?_
    rintro e w1 ⟨rfl, h1⟩
    go_wp2_with fail
    refine (hc _).mono ?_
    rintro e w2 ⟨rfl, h2⟩
    go_wp2_with fail
    exact bodyPost_ret (v := .bool (!c)) (results_one rfl rfl) rfl ⟨rfl, Ups.trans h1 h2⟩

/-- How many of the first k are so. -/
def countTo (f : Nat → Bool) : Nat → Nat
  | 0 => 0
  | k + 1 => if f k then countTo f k + 1 else countTo f k
theorem countTo_le (f : Nat → Bool) : ∀ k, countTo f k ≤ k
  | 0 => Nat.le_refl _
  | k + 1 => by
    have := countTo_le f k
    unfold countTo
    split <;> omega
def badN (s : ByteArray) (z : Nat) : Nat := countTo (fun k => badT (place s z k)) (s.size / z)

set_option maxRecDepth 100000 in
set_option maxHeartbeats 1000000 in
theorem count_bad (s : ByteArray) (z : Nat) (w : World) (hs : s.size ≤ 90000) (hz8 : z ≤ 8008) :
    Calls Tryz.prog 36 #[.agg #[.string s, .int .i64 z], .func (.func 37) #[] #[]] w fun e W' => e = .returned (.int .i64 (badN s z)) ∧ Ups w W' := by
  have hpsz := fun k (hk : k < s.size / z) => place_size hk
  have hroom : s.size / z ≤ s.size := Nat.div_le_self _ _
  unfold badN
  have HZ := Lib.hid hpsz
  clear hpsz
  refine (callsIn_wide (n := 9)).1 ?_
  refine callsIn_of_wp_marks Tryz.func36 rfl trivial ?_ rfl
  simp only [Tryz.ntmps36, List.size_toArray, List.length_cons, List.length_nil, Nat.reduceAdd, Nat.reduceSub, Array.replicate_succ, Array.replicate_zero, List.push_toArray, List.append_toArray, List.nil_append, List.cons_append]
  gi_wp2_with (refine ⟨trivial, ?_⟩; gi_at_call 32; refine (callsIn_wide.2 (peach_calls s z _)).mono ?_; rintro e W2 ⟨rfl, hW2⟩; have HW := Lib.hid hW2; clear hW2)
  have hb1 : w.heap.size + 1 + 1 + 1 = (((w.alloc (.cells #[.string s, .int .i64 z] 48)).alloc (.cells #[.func (.func 37) #[] #[]] 51)).alloc (.cells #[.int .i64 0] 3)).heap.size := by simp
  refine range_law rfl (by decide) (gf := 57) (lb := _) rfl trivial (enters_of Tryz.func57 (by kernel_rfl) rfl) ?_
  intro fn rec hfn hrec
  have h2 := ((((Blks.start w).alloc (.cells #[.string s, .int .i64 z] 48) rfl).alloc (.cells #[.func (.func 37) #[] #[]] 51) (B := w.heap.size + 1) (by simp)).alloc (.cells #[.int .i64 0] 3) (B := w.heap.size + 1 + 1) (by simp)).alloc (.cells #[.string s, .int .i64 z] 48) rfl
  have hsz := alloc_size (((w.alloc (.cells #[.string s, .int .i64 z] 48)).alloc (.cells #[.func (.func 37) #[] #[]] 51)).alloc (.cells #[.int .i64 0] 3)) (.cells #[.string s, .int .i64 z] 48)
  rw [HW.out] at h2 hsz
  have h4 := (h2.alloc (.deferred (some [])) rfl).alloc (.loop (rec .ready none)) (B := W2.heap.size + 1) (by simp)
  simp only [List.nil_append, List.cons_append] at h4
  have HREC := Lib.hid hrec
  clear hrec HW h2
  rw [hsz] at h4 HREC ⊢
  generalize hb : (((w.alloc (.cells #[.string s, .int .i64 z] 48)).alloc (.cells #[.func (.func 37) #[] #[]] 51)).alloc (.cells #[.int .i64 0] 3)).heap.size = b at *
  rw [show (w.heap.size + 3 : Nat) = b from hb1] at *
  refine (peach_in (b + 1 + 1) b s z (by omega)
    (fun k W => Blks w [(w.heap.size, .cells #[.string s, .int .i64 z] 48), (w.heap.size + 1, .cells #[.func (.func 37) #[] #[]] 51), (w.heap.size + 1 + 1, .cells #[.int .i64 (countTo (fun k => badT (place s z k)) k)] 3), (b, .cells #[.string s, .int .i64 z] 48), (b + 1, .deferred (some [])), (b + 1 + 1, .loop (rec .ready none))] W)
    (fun W => Blks w [(w.heap.size, .cells #[.string s, .int .i64 z] 48), (w.heap.size + 1, .cells #[.func (.func 37) #[] #[]] 51), (w.heap.size + 1 + 1, .cells #[.int .i64 (countTo (fun k => badT (place s z k)) (s.size / z))] 3), (b, .cells #[.string s, .int .i64 z] 48), (b + 1, .deferred (some [])), (b + 1 + 1, .loop (rec .ready none))] W)
    ?cell ?ups ?round ?last _ h4).mono ?done
  case cell => exact fun k W h => h.at 3 rfl
  case ups => exact fun k W W' h hu => h.ups hu
  case last => exact fun W h => h
  case round =>
    rintro k W hk hJ
    have hps := HZ.out k hk
    have hcl := fun w => bad1_calls (place s z k) w (by omega)
    have hvk := countTo_le (fun k => badT (place s z k)) k
    have hnx : countTo (fun k => badT (place s z k)) (k + 1) = if badT (place s z k) then countTo (fun k => badT (place s z k)) k + 1 else countTo (fun k => badT (place s z k)) k := rfl
    generalize countTo (fun k => badT (place s z k)) (k + 1) = v' at *
    generalize countTo (fun k => badT (place s z k)) k = v at *
    generalize place s z k = t at *
    cases hc : badT t with
    | true =>
      rw [hc] at hcl hnx
      obtain rfl : v' = v + 1 := by simpa using hnx
      clear hc hnx
      refine round_law hfn HREC.out (hJ.at 5 rfl) rfl ?_
      gi_wp2
      refine ⟨hJ.at 5 rfl, ?_⟩
      have hB := hJ.put 5 rfl (.loop (rec .busy none))
      simp only [List.set] at hB
      generalize World.putObj W (b + 1 + 1) (.loop (rec .busy none)) = W3 at *
      clear hJ
      have q0 : W3.cell? ⟨w.heap.size + 1, 0, none⟩ = some (.func (.func 37) #[] #[]) := hB.cell 1 0 rfl rfl
      gi_wp2_with (refine ⟨trivial, ?_⟩; gi_at_call 37; refine (callsIn_wide.2 (hcl _)).mono ?_; rintro e W4 ⟨rfl, hW4⟩; have hB4 := hB.ups hW4; have c0 : W4.cell? ⟨w.heap.size + 1 + 1, 0, none⟩ = some (.int .i64 v) := hB4.cell 2 0 rfl rfl; have f0 := hB4.frozen 2 0 rfl; have HB := Lib.hid hB4; clear hB4 hB)
      have h3 := HB.out.set 2 0 rfl (.int .i64 (v + 1))
      have h4 := h3.put 5 rfl (.loop (rec .ready none))
      exact ⟨h3.at 5 rfl, .inl ⟨rfl, h4⟩⟩
    | false =>
      rw [hc] at hcl hnx
      obtain rfl : v' = v := by simpa using hnx
      clear hc hnx
      refine round_law hfn HREC.out (hJ.at 5 rfl) rfl ?_
      gi_wp2
      refine ⟨hJ.at 5 rfl, ?_⟩
      have hB := hJ.put 5 rfl (.loop (rec .busy none))
      simp only [List.set] at hB
      generalize World.putObj W (b + 1 + 1) (.loop (rec .busy none)) = W3 at *
      clear hJ
      have q0 : W3.cell? ⟨w.heap.size + 1, 0, none⟩ = some (.func (.func 37) #[] #[]) := hB.cell 1 0 rfl rfl
      gi_wp2_with (refine ⟨trivial, ?_⟩; gi_at_call 37; refine (callsIn_wide.2 (hcl _)).mono ?_; rintro e W4 ⟨rfl, hW4⟩)
      have hB4 := hB.ups hW4
      have h4 := hB4.put 5 rfl (.loop (rec .ready none))
      exact ⟨hB4.at 5 rfl, .inl ⟨rfl, h4⟩⟩
  case done =>
    rintro e W ⟨hv, hJ⟩
    refine ⟨hv, .inl ⟨hJ.at 5 rfl, ?_⟩⟩
    have hB := hJ.put 5 rfl (.loop (rec .exhausted none))
    simp only [List.set] at hB
    generalize World.putObj W (b + 1 + 1) (.loop (rec .exhausted none)) = W3 at *
    clear hJ
    have c0 : W3.cell? ⟨w.heap.size + 1 + 1, 0, none⟩ = some (.int .i64 (countTo (fun k => badT (place s z k)) (s.size / z))) := hB.cell 2 0 rfl rfl
    have HB := Lib.hid hB
    clear hB
    gi_wp2
    have h4 := HB.out.put 4 rfl (.deferred none)
    refine ⟨by simp, .inl ⟨_, _, rfl, run_takeDeferred (HB.out.at 4 rfl), ?_⟩⟩
    generalize World.putObj W3 _ _ = W4 at *
    exact ⟨.int .i64 (countTo (fun k => badT (place s z k)) (s.size / z)), by simp [results, Tryz.results36, go_sem], rfl, h4.bel⟩

set_option maxRecDepth 100000 in
theorem bad_calls (s : ByteArray) (n : Int) (w : World) (hs : s.size ≤ 90000) :
    Calls Tryz.prog 18 #[.string s, .int .i64 n] w fun e W' => e = .returned (.int .i64 (badN s (sizeN n))) ∧ Ups w W' := by
  have hof := fun w => of_calls s n w
  have hcb := fun w => count_bad s (sizeN n) w hs (sizeN_le n).1
  generalize badN s (sizeN n) = r at *
  generalize sizeN n = z at *
  have hmf : ∀ (fn : Fn) (first cap : Array Value) (w : World), (Instr.makeFunc fn first cap).run Tryz.prog w = .ok (.func fn first cap) w := fun _ _ _ _ => rfl
  go_enter Tryz.func18, Tryz.ntmps18
  go_wp2_with fail
  refine (hof _).mono ?_
  rintro e w1 ⟨rfl, h1⟩
  go_wp2_with fail
  refine (hcb _).mono ?_
  rintro e w2 ⟨rfl, h2⟩
  go_wp2_with fail
  exact bodyPost_ret (v := .int .i64 r) (results_one rfl rfl) rfl ⟨rfl, Ups.trans h1 h2⟩

end Go.Proofs.YtmabpnkdagipfaaGreat
