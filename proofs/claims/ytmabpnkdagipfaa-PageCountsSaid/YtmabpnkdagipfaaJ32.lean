/- Texts of this proof, one behind the other: RefFl, RefMask, RefOps, RefRest, RefNew, Law3a, Law3r. -/
import Derived.Deep.AppendLies
import Derived.Test.YtmabpnkdagipfaaJ12
import Derived.Test.YtmabpnkdagipfaaJ27
import Derived.Test.YtmabpnkdagipfaaJ31

/- What ouroborosref03.page, dead, burnt, with, worn, mask come to. -/
namespace Go.Proofs.Ytmabpnkdagipfaa
open Go.RowKit

/-- One step less. -/
def burntF (f : Fl) : Fl := { f with fuse := if 0 < f.fuse then f.fuse - 1 else f.fuse }

theorem ups_of_grown {A B : World} {row : Option Nat} (h : A.grownBy B row) (hr : row = none) : Ups A B := by
  subst hr
  exact ⟨h.os, h.tape, h.output, h.size, fun i hi => h.block i hi (by simp)⟩
theorem app_facts {w2 w3 : World} {B e n : Nat} {v' : Value} {xs : List Value} {row : Option Nat} (hown : w3.ownsRow B e 1 v' (0 + n) ([] ++ xs)) (hgrow : w2.grownBy w3 row) (hr : row = none) (h0 : 0 < n) :
    ∃ g cg, v' = .slice (some ⟨g, 0, none⟩) n cg ∧ B ≤ g ∧ Ups w2 w3 ∧ (∀ j, w3.frozen? ⟨g, j, none⟩ = false) ∧ ∀ j, j < n → w3.cell? ⟨g, j, none⟩ = xs[j]? := by
  rw [Nat.zero_add, List.nil_append] at hown
  obtain ⟨g, cg, cur, rfl, hgw, hgc, hcur⟩ := own_cells hown h0
  exact ⟨g, cg, rfl, hgw, ups_of_grown hgrow hr, block_frozen hgc, fun j hj => by rw [cell_of hgc, hcur j hj]⟩
theorem texts_set {W : World} {g n c : Nat} {l : List ByteArray} (hn : n < l.length) (h : ∀ j, j < l.length → W.cell? ⟨g, j, none⟩ = some (.string (l.getD j ByteArray.empty))) (u : ByteArray) :
    TextsAt (W.setCell ⟨g, n, none⟩ (.string u)) (.slice (some ⟨g, 0, none⟩) l.length c) (l.set n u) := by
  refine ⟨_, c, by rw [List.length_set], fun _ => ⟨g, 0, rfl, fun j hj => ?_⟩⟩
  rw [List.length_set] at hj
  rw [Nat.zero_add]
  by_cases hjn : j = n
  · subst hjn
    rw [World.cell?_setCell_same _ _ _ (h j hj)]
    simp [hj]
  · rw [World.cell?_setCell_other _ _ _ _ (fun e => hjn (by have := congrArg Addr.off e; exact this.symm)), h j hj]
    have : ¬ n = j := fun e => hjn e.symm
    simp [List.getD_eq_getElem?_getD, this]

end Go.Proofs.Ytmabpnkdagipfaa

/- What ouroborosref03.mask comes to. -/
namespace Go.Proofs.Ytmabpnkdagipfaa
open Go.RowKit

theorem own_ups {A B : World} {base e size n : Nat} {v : Value} {xs : List Value} (h : A.ownsRow base e size v n xs) (hu : Ups A B) : B.ownsRow base e size v n xs := by
  obtain ⟨hl, h | ⟨g, cap, cur, rfl, hB, hg, h1, h2, h3, h4⟩⟩ := h
  · exact ⟨hl, .inl h⟩
  · exact ⟨hl, .inr ⟨g, cap, cur, rfl, hB, block_ups hg hu, h1, h2, h3, h4⟩⟩

end Go.Proofs.Ytmabpnkdagipfaa

/- What ouroborosref03's other functions come to. -/
namespace Go.Proofs.Ytmabpnkdagipfaa
open Go.RowKit

theorem kd_first {P : Program} {w W : World} {A : Value} {g g' : Fl} {f : FuncId} {args : Array Value} (_h : FlAt W A g) (hz : w.heap.size + 1 < W.heap.size) (hc : Calls P f args W fun e W' => ∃ v', e = .returned v' ∧ FlNew W A W' v' g') :
    Calls P f args W fun e W' => ∃ x, e = .returned x ∧ (FlAt W' x g' ∧ ∀ B, B ≤ w.heap.size + 1 → FlOff B A → FlOff B x) ∧ Ups W W' := by
  refine hc.mono ?_
  rintro e W' ⟨v', rfl, hn⟩
  exact ⟨v', rfl, ⟨hn.reads, fun B hB ho => hn.off B (by omega) ho⟩, hn.ups⟩
theorem kd_step {P : Program} {w W : World} {A v : Value} {g g' : Fl} {f : FuncId} {args : Array Value} (hq : FlAt W v g ∧ ∀ B, B ≤ w.heap.size + 1 → FlOff B A → FlOff B v) (hz : w.heap.size + 1 < W.heap.size) (hc : Calls P f args W fun e W' => ∃ v', e = .returned v' ∧ FlNew W v W' v' g') :
    Calls P f args W fun e W' => ∃ x, e = .returned x ∧ (FlAt W' x g' ∧ ∀ B, B ≤ w.heap.size + 1 → FlOff B A → FlOff B x) ∧ Ups W W' := by
  refine hc.mono ?_
  rintro e W' ⟨v', rfl, hn⟩
  exact ⟨v', rfl, ⟨hn.reads, fun B hB ho => hn.off B (by omega) (hq.2 B hB ho)⟩, hn.ups⟩

theorem and_pad (old d : ByteArray) (m : Nat) : andT old (d ++ onesT m) = andT old d := by
  unfold andT
  rw [show (d ++ onesT m).data.toList = d.data.toList ++ List.replicate m 255 by simp [onesT, bs], mixL_pad 255 andB_ones]
theorem or_pad (d x : ByteArray) (m : Nat) : orT (d ++ onesT m) x = orT d x ++ onesT m := by
  apply text_ext
  rw [show (orT d x ++ onesT m).data.toList = (orT d x).data.toList ++ (onesT m).data.toList by simp]
  rw [orT, orT, onesT, bs_toList, bs_toList, bs_toList, show (d ++ bs (List.replicate m 255)).data.toList = d.data.toList ++ List.replicate m 255 by simp [bs], mixL_swallow 255 orB_ones]

end Go.Proofs.Ytmabpnkdagipfaa

/- What ouroborosref03.Wake, Rot, Free, Same come to. -/
namespace Go.Proofs.Ytmabpnkdagipfaa
open Go.RowKit

theorem free_eq (s : ByteArray) : (s.toList == (onesT s.size).toList) = decide (count s.data.toList = 8 * s.size) := by
  have hc : ∀ l : List UInt8, count l = 8 * l.length ↔ l = List.replicate l.length 255 := by
    intro l
    induction l with
    | nil => simp [count]
    | cons c l ih =>
      have h1 := count_le l
      have h2 : pop c ≤ 8 ∧ (pop c = 8 ↔ c = 255) := by
        have h : ∀ c : Fin 256, pop (UInt8.ofNat c.val) ≤ 8 ∧ (pop (UInt8.ofNat c.val) = 8 ↔ UInt8.ofNat c.val = 255) := by decide +kernel
        have := h ⟨c.toNat, c.toNat_lt⟩
        simpa using this
      have h3 : count (c :: l) = pop c + count l := by simp [count]
      rw [h3, List.length_cons, List.replicate_succ, List.cons.injEq, ← ih, ← h2.2]
      omega
  have := hc s.data.toList
  rw [toList_length] at this
  rw [Bool.eq_iff_iff, beq_iff_eq, decide_eq_true_eq, this, ByteArray.toList_eq, ByteArray.toList_eq, onesT, bs_toList]

end Go.Proofs.Ytmabpnkdagipfaa

/- What ouroborosref03.New comes to. -/
namespace Go.Proofs.Ytmabpnkdagipfaa
open Go.RowKit

/-- The flash that New fills: so many pages. -/
def newCells (vP : Value) (g c : Nat) : Obj := .cells #[vP, .slice (some ⟨g, 0, none⟩) c c, .int .i64 (-1), .string { data := #[] }, .bool false] 32 (0, 0)

theorem own_but {B : Nat} {A A' : World} {base e size n : Nat} {v : Value} {xs : List Value} (h : A.ownsRow base e size v n xs) (hb : But B A A') (hB : B < base) : A'.ownsRow base e size v n xs := by
  obtain ⟨hl, h | ⟨g, cap, cur, rfl, hg0, hg, h1, h2, h3, h4⟩⟩ := h
  · exact ⟨hl, .inl h⟩
  · exact ⟨hl, .inr ⟨g, cap, cur, rfl, hg0, (hb.block g (by omega)).trans hg, h1, h2, h3, h4⟩⟩
theorem grown_low {A B : World} {base e size n : Nat} {v : Value} {xs : List Value} (h : A.grownBy B v.ownBlock) (ho : A.ownsRow base e size v n xs) {i : Nat} {o : Obj} (hi : i < base) (hat : A.heap[i]? = some o) : B.heap[i]? = some o :=
  (h.block i (Array.getElem?_eq_some_iff.1 hat).1 (fun e => by have := own_base ho e.symm; omega)).trans hat
theorem grown_below {w A B : World} {base e size n : Nat} {v : Value} {xs : List Value} (h : A.grownBy B v.ownBlock) (ho : A.ownsRow base e size v n xs) (hw : Below w.heap.size w A) (hb : w.heap.size ≤ base) : Below w.heap.size w B :=
  ⟨h.os.trans hw.os, h.tape.trans hw.tape, h.output.trans hw.output, Nat.le_trans hw.size h.size, fun i hi => (h.block i (Nat.lt_of_lt_of_le hi hw.size) (fun e => by have := own_base ho e.symm; omega)).trans (hw.block i hi)⟩

end Go.Proofs.Ytmabpnkdagipfaa

/- FlashSteps, walked. -/
namespace Go.Proofs.Ytmabpnkdagipfaa
open Go.RowKit

theorem sameB_refl (f : Fl) : sameB f f = true := by simp [sameB]
theorem step_len (f : Fl) (n : Nat) (a b : ByteArray) : (stepF f n a b).1.pages.length = f.pages.length ∧ (stepF f n a b).1.wear.length = f.wear.length := by
  unfold stepF
  split
  · exact ⟨rfl, rfl⟩
  · split <;> simp
theorem erase_len (f : Fl) (page : Int) : (eraseF f page).1.pages.length = f.pages.length ∧ (eraseF f page).1.wear.length = f.wear.length := by
  unfold eraseF
  split
  · have := step_len f page.toNat (onesT (oldT f page.toNat).size) (orT (oldT f page.toNat) (maskOf f))
    simp only
    split
    · simp [this.1, this.2]
    · exact this
  · exact ⟨rfl, rfl⟩
theorem program_len (f : Fl) (page at_ : Int) (s : ByteArray) : (programF f page at_ s).1.pages.length = f.pages.length ∧ (programF f page at_ s).1.wear.length = f.wear.length := by
  unfold programF
  split
  · exact step_len _ _ _ _
  · exact ⟨rfl, rfl⟩
theorem wake_len (f : Fl) (fuse : Int) (torn : ByteArray) : (wakeF f fuse torn).1.pages.length = f.pages.length ∧ (wakeF f fuse torn).1.wear.length = f.wear.length := by
  unfold wakeF
  split <;> exact ⟨rfl, rfl⟩
theorem rot_len (f : Fl) (page at_ : Int) (s : ByteArray) : (rotF f page at_ s).1.pages.length = f.pages.length ∧ (rotF f page at_ s).1.wear.length = f.wear.length := by
  unfold rotF
  split <;> simp
theorem new_len (pages size : Int) : (newF pages size).1.pages.length ≤ 6 ∧ (newF pages size).1.wear.length ≤ 6 := by
  unfold newF
  split
  · simp
  · simp only [List.length_replicate]
    omega

end Go.Proofs.Ytmabpnkdagipfaa

/- FlashRots, walked. -/
namespace Go.Proofs.Ytmabpnkdagipfaa
open Go.RowKit

theorem FlAt.page {W : World} {a : Option Addr} {n c : Nat} {q : Value} {fu : Int} {tn : ByteArray} {de : Bool} {f : Fl} (h : FlAt W (.agg #[.slice a n c, q, .int .i64 fu, .string tn, .bool de]) f) {k : Nat} (hk : k < f.pages.length) :
    ∃ b off, a = some ⟨b, off, none⟩ ∧ W.cell? ⟨b, off + k, none⟩ = some (.string (oldT f k)) := by
  obtain ⟨p, q, hv, ⟨a', c', hp, hj⟩, _⟩ := h
  simp only [Value.agg.injEq, Array.mk.injEq, List.cons.injEq] at hv
  obtain ⟨rfl, _⟩ := hv
  simp only [Value.slice.injEq] at hp
  obtain ⟨rfl, _, _⟩ := hp
  obtain ⟨b, off, rfl, hc⟩ := hj (by omega)
  exact ⟨b, off, rfl, hc k hk⟩
theorem FlAt.worn {W : World} {a : Option Addr} {n c : Nat} {p : Value} {fu : Int} {tn : ByteArray} {de : Bool} {f : Fl} (h : FlAt W (.agg #[p, .slice a n c, .int .i64 fu, .string tn, .bool de]) f) {k : Nat} (hk : k < f.wear.length) :
    ∃ b off, a = some ⟨b, off, none⟩ ∧ W.cell? ⟨b, off + k, none⟩ = some (.int .i64 (f.wear.getD k 0)) := by
  obtain ⟨p, q, hv, _, ⟨a', c', hp, hj⟩⟩ := h
  simp only [Value.agg.injEq, Array.mk.injEq, List.cons.injEq] at hv
  obtain ⟨_, rfl, _⟩ := hv
  simp only [Value.slice.injEq] at hp
  obtain ⟨rfl, _, _⟩ := hp
  obtain ⟨b, off, rfl, hc⟩ := hj (by omega)
  exact ⟨b, off, rfl, hc k hk⟩
theorem step_fit (f : Fl) (n : Nat) (a b : ByteArray) (h : FlFit f) : FlFit (stepF f n a b).1 := by
  obtain ⟨h1, h2, h3, h4⟩ := h
  unfold stepF
  split
  · exact ⟨h1, h2, h3, h4⟩
  · split
    · exact ⟨by simpa using h1, h2, h3, h4⟩
    · refine ⟨by simpa using h1, h2, ?_, ?_⟩ <;> simp only <;> split <;> omega
theorem erase_fit (f : Fl) (page : Int) (h : FlFit f) : FlFit (eraseF f page).1 := by
  unfold eraseF
  split
  · have := step_fit f page.toNat (onesT (oldT f page.toNat).size) (orT (oldT f page.toNat) (maskOf f)) h
    simp only
    split
    · exact ⟨this.1, by simpa using this.2.1, this.2.2.1, this.2.2.2⟩
    · exact this
  · exact h
theorem program_fit (f : Fl) (page at_ : Int) (s : ByteArray) (h : FlFit f) : FlFit (programF f page at_ s).1 := by
  unfold programF
  split
  · exact step_fit _ _ _ _ h
  · exact h
theorem wake_fit (f : Fl) (fuse : Int) (torn : ByteArray) (h : FlFit f) (h1 : -9223372036854775808 ≤ fuse) (h2 : fuse ≤ 9223372036854775807) : FlFit (wakeF f fuse torn).1 := by
  unfold wakeF
  split
  · exact ⟨h.1, h.2.1, h1, h2⟩
  · exact h
theorem rot_fit (f : Fl) (page at_ : Int) (s : ByteArray) (h : FlFit f) : FlFit (rotF f page at_ s).1 := by
  unfold rotF
  split
  · exact ⟨by simpa using h.1, h.2.1, h.2.2.1, h.2.2.2⟩
  · exact h

end Go.Proofs.Ytmabpnkdagipfaa
