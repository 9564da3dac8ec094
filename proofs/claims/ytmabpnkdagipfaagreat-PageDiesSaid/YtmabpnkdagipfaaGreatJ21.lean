/- Texts of this proof, one behind the other: FlCheck, FlHas, FlMem, FlWith, FlSame. -/
import Derived.WalkSpells
import Derived.WalkLawsBesides
import Derived.Outline
import Derived.Test.YtmabpnkdagipfaaGreatJ20

/- What flash.Check comes to. -/
namespace Go.Proofs.YtmabpnkdagipfaaGreat
open Go.RowKit

def oddB (first s : ByteArray) : Bool := decide (s.size = 0) || decide (8192 < s.size) || decide (s.size ≠ first.size)

set_option maxRecDepth 100000 in
theorem odd_calls (s : ByteArray) (B b off n c : Nat) (first : ByteArray) (W : World) (hn : 0 < n) (hp : W.cell? ⟨B, 0, none⟩ = some (.slice (some ⟨b, off, none⟩) n c)) (hc : W.cell? ⟨b, off, none⟩ = some (.string first)) :
    Calls Tryz.prog 62 #[.string s, .pointer (some ⟨B, 0, none⟩)] W fun e W' => e = .returned (.bool (oddB first s)) ∧ W = W' := by
  by_cases h0 : s.size = 0
  · have hs : s = bs [] := text_ext (by
      have := toList_length s
      rw [h0] at this
      rw [List.eq_nil_of_length_eq_zero this, bs_toList])
    subst hs
    have ho : oddB first (bs []) = true := by simp [oddB, bs_size]
    rw [ho]
    have hnil : (bs []).toList = [] := by decide +kernel
    clear ho h0
    go_enter Tryz.func62, Tryz.ntmps62
    go_wp2
    go_ret
    exact ⟨rfl, rfl⟩
  · have hne : (s.toList == []) = false := by
      rw [beq_eq_false_iff_ne, ByteArray.toList_eq]
      intro e
      apply h0
      rw [← toList_length, e]
      rfl
    by_cases h1 : 8192 < s.size
    · have ho : oddB first s = true := by simp [oddB, h1]
      rw [ho]
      have h1' : (8192 : Int) < s.size := by omega
      clear ho
      go_enter Tryz.func62, Tryz.ntmps62
      go_wp2
      go_ret
      exact ⟨rfl, rfl⟩
    · have h1' : ¬ (8192 : Int) < s.size := by omega
      have ho : oddB first s = ((s.size : Int) != first.size) := by
        unfold oddB
        rw [decide_eq_false h0, decide_eq_false h1, Bool.false_or, Bool.false_or, Bool.eq_iff_iff, decide_eq_true_eq, bne_iff_ne]
        omega
      rw [ho]
      clear ho
      have hn' : (0 : Int) < n := by omega
      go_enter Tryz.func62, Tryz.ntmps62
      go_wp2
      go_ret
      exact ⟨rfl, rfl⟩

set_option maxRecDepth 100000 in
theorem index_calls (B b off c : Nat) (l : List ByteArray) (first : ByteArray) (W : World) (h0 : 0 < l.length) (hbig : l.length ≤ 1000000) (hp : W.cell? ⟨B, 0, none⟩ = some (.slice (some ⟨b, off, none⟩) l.length c))
    (hf : l.getD 0 ByteArray.empty = first) (hc : ∀ j, j < l.length → W.cell? ⟨b, off + j, none⟩ = some (.string (l.getD j ByteArray.empty))) :
    Calls Tryz.prog 83 #[.slice (some ⟨b, off, none⟩) l.length c, .func (.func 62) #[] #[.pointer (some ⟨B, 0, none⟩)]] W fun e W' => (∃ r : Int, e = .returned (.int .i64 r) ∧ (decide (0 ≤ r)) = l.any (oddB first)) ∧ W = W' := by
  have hc0 : W.cell? ⟨b, off, none⟩ = some (.string first) := by have := hc 0 h0; rw [hf] at this; exact this
  have hodd := fun s => odd_calls s B b off l.length c first W h0 hp hc0
  have HO := Lib.hid hodd
  have HC := Lib.hid hc
  clear hodd hc hc0 hf
  go_enter Tryz.func83, Tryz.ntmps83
  go_wp2
  go_loop [8] (fun i => ∃ k : Nat, k ≤ l.length ∧ i = .int .i64 k ∧ (l.take k).any (oddB first) = false) (fun i => l.length - (intOf i).toNat)
  case atStart => exact ⟨0, Nat.zero_le _, rfl, rfl⟩
  case round =>
    obtain ⟨k, hk, rfl, hany⟩ := hrel
    by_cases hlt : k < l.length
    · have hck := HC.out k hlt
      have HA := Lib.hid hany
      clear hany
      have hnext : (l.take (k + 1)).any (oddB first) = ((l.take k).any (oddB first) || oddB first (l.getD k ByteArray.empty)) := by
        rw [List.take_succ_eq_append_getElem hlt, List.any_append]
        simp [hlt]
      have hin : oddB first (l.getD k ByteArray.empty) = true → l.any (oddB first) = true := by
        intro h
        rw [List.any_eq_true]
        refine ⟨l[k], List.getElem_mem hlt, ?_⟩
        simpa [hlt] using h
      have ho := HO.out (l.getD k ByteArray.empty)
      generalize l.getD k ByteArray.empty = s at *
      cases hb : oddB first s with
      | true =>
        rw [hb] at ho
        have hi := Lib.hid (hin hb)
        clear hin hnext hb
        go_wp2_with (go_at_call 62; refine ho.mono ?_; rintro e w' ⟨rfl, rfl⟩)
        go_ret
        exact ⟨⟨(k : Int), rfl, by rw [hi.out]; simp⟩, rfl⟩
      | false =>
        rw [hb] at ho hnext
        rw [HA.out] at hnext
        have hi := Lib.hid hnext
        clear hin hnext hb
        go_wp2_with (go_at_call 62; refine ho.mono ?_; rintro e w' ⟨rfl, rfl⟩)
        go_round
        case rel => exact ⟨k + 1, by omega, by go_num, by simpa using hi.out⟩
        case measure => simp [intOf]; omega
    · obtain rfl : k = l.length := by omega
      rw [List.take_length] at hany
      have HA := Lib.hid hany
      clear hany
      go_wp2
      go_ret
      exact ⟨⟨-1, rfl, by rw [HA.out]; rfl⟩, rfl⟩

theorem contains_calls (B b off c : Nat) (l : List ByteArray) (first : ByteArray) (W : World) (h0 : 0 < l.length) (hbig : l.length ≤ 1000000) (hp : W.cell? ⟨B, 0, none⟩ = some (.slice (some ⟨b, off, none⟩) l.length c))
    (hf : l.getD 0 ByteArray.empty = first) (hc : ∀ j, j < l.length → W.cell? ⟨b, off + j, none⟩ = some (.string (l.getD j ByteArray.empty))) :
    Calls Tryz.prog 63 #[.slice (some ⟨b, off, none⟩) l.length c, .func (.func 62) #[] #[.pointer (some ⟨B, 0, none⟩)]] W fun e W' => e = .returned (.bool (l.any (oddB first))) ∧ W = W' := by
  have hi := fun W' (e : W = W') => index_calls B b off c l first W h0 hbig hp hf hc
  go_enter Tryz.func63, Tryz.ntmps63
  go_wp2_with fail
  refine (hi _ rfl).mono ?_
  rintro e w' ⟨⟨r, rfl, hr⟩, rfl⟩
  have HR := Lib.hid hr
  clear hr hi
  go_wp2_with fail
  go_ret
  exact ⟨by rw [← HR.out]; rfl, rfl⟩

theorem foldl_min : ∀ (l : List Int) (m b : Int), b ≤ l.foldl min m ↔ b ≤ m ∧ ∀ z ∈ l, b ≤ z
  | [], m, b => by simp
  | z :: l, m, b => by
    rw [List.foldl_cons, foldl_min l (min m z) b]
    constructor
    · rintro ⟨h, hl⟩
      exact ⟨by omega, fun y hy => (List.mem_cons.1 hy).elim (fun e => by omega) (hl y)⟩
    · rintro ⟨h, hl⟩
      have := hl z List.mem_cons_self
      exact ⟨by omega, fun y hy => hl y (List.mem_cons_of_mem _ hy)⟩
theorem foldl_max : ∀ (l : List Int) (m b : Int), l.foldl max m ≤ b ↔ m ≤ b ∧ ∀ z ∈ l, z ≤ b
  | [], m, b => by simp
  | z :: l, m, b => by
    rw [List.foldl_cons, foldl_max l (max m z) b]
    constructor
    · rintro ⟨h, hl⟩
      exact ⟨by omega, fun y hy => (List.mem_cons.1 hy).elim (fun e => by omega) (hl y)⟩
    · rintro ⟨h, hl⟩
      have := hl z List.mem_cons_self
      exact ⟨by omega, fun y hy => hl y (List.mem_cons_of_mem _ hy)⟩
theorem minOf_ge (l : List Int) (h : 0 < l.length) (b : Int) : b ≤ Lib.minOf l ↔ ∀ z ∈ l, b ≤ z := by
  unfold Lib.minOf
  rw [foldl_min]
  constructor
  · exact fun h => h.2
  · intro hl
    refine ⟨hl _ ?_, hl⟩
    cases l with
    | nil => simp at h
    | cons z l => exact List.mem_cons_self
theorem maxOf_le (l : List Int) (h : 0 < l.length) (b : Int) : Lib.maxOf l ≤ b ↔ ∀ z ∈ l, z ≤ b := by
  unfold Lib.maxOf
  rw [foldl_max]
  constructor
  · exact fun h => h.2
  · intro hl
    refine ⟨hl _ ?_, hl⟩
    cases l with
    | nil => simp at h
    | cons z l => exact List.mem_cons_self

/-- What flash.Check says. -/
def checkB (f : Fl) : Bool :=
  decide (1 ≤ f.pages.length) && decide (f.pages.length ≤ 6) && decide (f.wear.length = f.pages.length) && decide (f.torn.size ≤ 64) && f.wear.all (fun z => decide (0 ≤ z) && decide (z ≤ 2147483647)) && !f.pages.any (oddB (f.pages.getD 0 ByteArray.empty))

set_option maxRecDepth 100000 in
set_option maxHeartbeats 1000000 in
theorem check_calls (f : Fl) (v : Value) (w : World) (h : FlAt w v f) (hb1 : f.pages.length ≤ 9223372036854775807) (hb2 : f.wear.length ≤ 9223372036854775807) :
    Calls Tryz.prog 40 #[v] w fun e W' => e = .returned (.int .i64 (if checkB f then 0 else 1)) ∧ Ups w W' := by
  obtain ⟨p, q, rfl, ⟨a, c, rfl, hp⟩, ⟨a', c', rfl, hq⟩⟩ := h
  obtain ⟨pages, wear, fuse, torn, dead⟩ := f
  simp only at hp hq hb1 hb2 ⊢
  have hbel : Below w.heap.size w (w.alloc (.cells #[.slice a pages.length c, .slice a' wear.length c', .int .i64 fuse, .string torn, .bool dead] 31)) := (Below.refl _ w).alloc (Nat.le_refl _) _
  by_cases h1 : pages.length < 1
  · have hc : checkB ⟨pages, wear, fuse, torn, dead⟩ = false := by simp [checkB]; omega
    rw [hc]
    have h1' : (pages.length : Int) < 1 := by omega
    clear hc h1 hp hq
    go_enter Tryz.func40, Tryz.ntmps40
    go_wp2_with fail
    go_ret
    exact ⟨rfl, hbel⟩
  have g1 : ¬ (pages.length : Int) < 1 := by omega
  by_cases h2 : 6 < pages.length
  · have hc : checkB ⟨pages, wear, fuse, torn, dead⟩ = false := by simp [checkB]; omega
    rw [hc]
    have h2' : (6 : Int) < pages.length := by omega
    clear hc h1 h2 hp hq
    go_enter Tryz.func40, Tryz.ntmps40
    go_wp2_with fail
    go_ret
    exact ⟨rfl, hbel⟩
  have g2 : ¬ (6 : Int) < pages.length := by omega
  by_cases h3 : wear.length = pages.length
  · have g3 : ((wear.length : Int) != pages.length) = false := by
      have : (wear.length : Int) = pages.length := by omega
      simpa using this
    by_cases h4 : 64 < torn.size
    · have hc : checkB ⟨pages, wear, fuse, torn, dead⟩ = false := by simp [checkB]; omega
      rw [hc]
      have g4 : (64 : Int) < torn.size := by omega
      clear hc h1 h2 h3 hp hq
      go_enter Tryz.func40, Tryz.ntmps40
      go_wp2_with fail
      go_ret
      exact ⟨rfl, hbel⟩
    have g4 : ¬ (64 : Int) < torn.size := by omega
    have hw0 : 0 < wear.length := by omega
    obtain ⟨bq, oq, rfl, hq'⟩ := hq hw0
    obtain ⟨bp, op, rfl, hp'⟩ := hp (by omega)
    have hmin := minOf_ge wear hw0 0
    have hmax := maxOf_le wear hw0 2147483647
    have hW := fun W (hu : Ups w W) => Tryz.slices_Min_int bq oq wear.length c' wear W hw0 (Nat.le_refl _) (by omega) (fun j hj => cell_ups hu (hq' j hj))
    have hX := fun W (hu : Ups w W) => Tryz.slices_Max_int bq oq wear.length c' wear W hw0 (Nat.le_refl _) (by omega) (fun j hj => cell_ups hu (hq' j hj))
    rw [List.take_length] at hW hX
    generalize hmn : Lib.minOf wear = mn at *
    generalize hmx : Lib.maxOf wear = mx at *
    clear hmn hmx
    have hone := h3
    have H3 := Lib.hid h3
    clear h3 hone
    by_cases h5 : mn < 0
    · have hc : checkB ⟨pages, wear, fuse, torn, dead⟩ = false := by
        have : wear.all (fun z => decide (0 ≤ z) && decide (z ≤ 2147483647)) = false := by
          rw [Bool.eq_false_iff]
          intro h
          rw [List.all_eq_true] at h
          have := hmin.2 fun z hz => by have := h z hz; simp at this; exact this.1
          omega
        simp [checkB, this]
      rw [hc]
      clear hc h1 h2 hmin hmax hp' hq' hp hq
      go_enter Tryz.func40, Tryz.ntmps40
      go_wp2_with fail
      refine (hW _ hbel).mono ?_
      rintro e w' ⟨rfl, rfl⟩
      go_wp2_with fail
      go_ret
      exact ⟨rfl, hbel⟩
    by_cases h6 : 2147483647 < mx
    · have hc : checkB ⟨pages, wear, fuse, torn, dead⟩ = false := by
        have : wear.all (fun z => decide (0 ≤ z) && decide (z ≤ 2147483647)) = false := by
          rw [Bool.eq_false_iff]
          intro h
          rw [List.all_eq_true] at h
          have := hmax.2 fun z hz => by have := h z hz; simp at this; exact this.2
          omega
        simp [checkB, this]
      rw [hc]
      clear hc h1 h2 hmin hmax hp' hq' hp hq
      go_enter Tryz.func40, Tryz.ntmps40
      go_wp2_with fail
      refine (hW _ hbel).mono ?_
      rintro e w' ⟨rfl, rfl⟩
      go_wp2_with fail
      refine (hX _ hbel).mono ?_
      rintro e w' ⟨rfl, rfl⟩
      go_wp2_with fail
      go_ret
      exact ⟨rfl, hbel⟩
    have hck : checkB ⟨pages, wear, fuse, torn, dead⟩ = !pages.any (oddB (pages.getD 0 ByteArray.empty)) := by
      have : wear.all (fun z => decide (0 ≤ z) && decide (z ≤ 2147483647)) = true := by
        rw [List.all_eq_true]
        intro z hz
        have a1 := hmin.1 (by omega) z hz
        have a2 := hmax.1 (by omega) z hz
        simp [a1, a2]
      have b1 : 1 ≤ pages.length := by omega
      have b2 : pages.length ≤ 6 := by omega
      have b3 : torn.size ≤ 64 := by omega
      simp only [checkB, this, decide_eq_true b1, decide_eq_true b2, decide_eq_true b3, decide_eq_true H3.out, Bool.true_and]
    rw [hck]
    have hcell : (w.alloc (.cells #[.slice (some ⟨bp, op, none⟩) pages.length c, .slice (some ⟨bq, oq, none⟩) wear.length c', .int .i64 fuse, .string torn, .bool dead] 31)).cell? ⟨w.heap.size, 0, none⟩ = some (.slice (some ⟨bp, op, none⟩) pages.length c) := by
      rw [World.cell?_alloc_mark]
      rfl
    have hcon := contains_calls w.heap.size bp op c pages (pages.getD 0 ByteArray.empty) _ (by omega) (by omega) hcell rfl (fun j hj => cell_ups hbel (hp' j hj))
    generalize pages.any (oddB (pages.getD 0 ByteArray.empty)) = o at *
    clear hck hmin hmax hp' hq' hp hq hcell
    have hmf : ∀ (fn : Fn) (first cap : Array Value) (w : World), (Instr.makeFunc fn first cap).run Tryz.prog w = .ok (.func fn first cap) w := fun _ _ _ _ => rfl
    cases o
    · go_enter Tryz.func40, Tryz.ntmps40
      go_wp2_with fail
      refine (hW _ hbel).mono ?_
      rintro e w' ⟨rfl, rfl⟩
      go_wp2_with fail
      refine (hX _ hbel).mono ?_
      rintro e w' ⟨rfl, rfl⟩
      go_wp2_with fail
      refine hcon.mono ?_
      rintro e w' ⟨rfl, rfl⟩
      go_wp2_with fail
      go_ret
      exact ⟨rfl, hbel⟩
    · go_enter Tryz.func40, Tryz.ntmps40
      go_wp2_with fail
      refine (hW _ hbel).mono ?_
      rintro e w' ⟨rfl, rfl⟩
      go_wp2_with fail
      refine (hX _ hbel).mono ?_
      rintro e w' ⟨rfl, rfl⟩
      go_wp2_with fail
      refine hcon.mono ?_
      rintro e w' ⟨rfl, rfl⟩
      go_wp2_with fail
      go_ret
      exact ⟨rfl, hbel⟩
  · have hc : checkB ⟨pages, wear, fuse, torn, dead⟩ = false := by simp [checkB, h3]
    rw [hc]
    have g3 : ((wear.length : Int) != pages.length) = true := by
      have : ¬ (wear.length : Int) = pages.length := by omega
      simpa using this
    clear hc h1 h2 h3 hp hq
    go_enter Tryz.func40, Tryz.ntmps40
    go_wp2_with fail
    go_ret
    exact ⟨rfl, hbel⟩

end Go.Proofs.YtmabpnkdagipfaaGreat

/- What flash.has comes to. -/
namespace Go.Proofs.YtmabpnkdagipfaaGreat
open Go.RowKit

def hasB (f : Fl) (page : Int) : Bool := checkB f && decide (0 ≤ page) && decide (page < f.pages.length)

set_option maxRecDepth 100000 in
set_option maxHeartbeats 1000000 in
theorem has_calls (f : Fl) (v : Value) (page : Int) (w : World) (h : FlAt w v f) (hb1 : f.pages.length ≤ 9223372036854775807) (hb2 : f.wear.length ≤ 9223372036854775807) :
    Calls Tryz.prog 46 #[v, .int .i64 page] w fun e W' => e = .returned (.bool (hasB f page)) ∧ Ups w W' := by
  have h0 := h
  obtain ⟨p, q, rfl, ⟨a, c, rfl, hp⟩, ⟨a', c', rfl, hq⟩⟩ := h
  have hbel : Ups w (w.alloc (.cells #[.slice a f.pages.length c, .slice a' f.wear.length c', .int .i64 f.fuse, .string f.torn, .bool f.dead] 31)) := (Below.refl _ w).alloc (Nat.le_refl _) _
  have hc := check_calls f _ _ (h0.ups hbel) hb1 hb2
  have hcell : (w.alloc (.cells #[.slice a f.pages.length c, .slice a' f.wear.length c', .int .i64 f.fuse, .string f.torn, .bool f.dead] 31)).cell? ⟨w.heap.size, 0, none⟩ = some (.slice a f.pages.length c) := by
    rw [World.cell?_alloc_mark]
    rfl
  have hh : hasB f page = (checkB f && decide (0 ≤ page) && decide (page < f.pages.length)) := rfl
  generalize hasB f page = r at *
  have HH := Lib.hid hh
  clear hh h0 hp hq
  cases hk : checkB f with
  | false =>
    rw [hk] at hc
    have hr : r = false := by rw [HH.out, hk]; rfl
    subst hr
    clear HH hk
    go_enter Tryz.func46, Tryz.ntmps46
    go_wp2_with fail
    refine hc.mono ?_
    rintro e w1 ⟨rfl, hb⟩
    go_wp2_with fail
    go_ret
    exact ⟨rfl, Ups.trans hbel hb⟩
  | true =>
    rw [hk] at hc
    have hr : r = (decide (0 ≤ page) && decide (page < f.pages.length)) := by rw [HH.out, hk, Bool.true_and]
    clear HH hk
    by_cases h1 : 0 ≤ page
    · rw [decide_eq_true h1, Bool.true_and] at hr
      subst hr
      go_enter Tryz.func46, Tryz.ntmps46
      go_wp2_with fail
      refine hc.mono ?_
      rintro e w1 ⟨rfl, hb⟩
      have hcell1 := cell_ups hb hcell
      go_wp2_with fail
      go_ret
      exact ⟨rfl, Ups.trans hbel hb⟩
    · rw [decide_eq_false h1, Bool.false_and] at hr
      subst hr
      go_enter Tryz.func46, Tryz.ntmps46
      go_wp2_with fail
      refine hc.mono ?_
      rintro e w1 ⟨rfl, hb⟩
      go_wp2_with fail
      go_ret
      exact ⟨rfl, Ups.trans hbel hb⟩

end Go.Proofs.YtmabpnkdagipfaaGreat

/- The flash's memory: where its rows do not lie, and a store of a whole flash into a block. -/
namespace Go.Proofs.YtmabpnkdagipfaaGreat
open Go.RowKit

theorem lt_of_cell {W : World} {p : Addr} {v : Value} (h : W.cell? p = some v) : p.block < W.heap.size := by
  rcases Nat.lt_or_ge p.block W.heap.size with hl | hg
  · exact hl
  · exfalso
    unfold World.cell? at h
    rw [Array.getElem?_eq_none hg] at h
    simp at h

/-- The slice's row does not lie in block B. -/
def RowOff (B : Nat) (v : Value) : Prop := ∀ b off n c, v = .slice (some ⟨b, off, none⟩) n c → 0 < n → b ≠ B
/-- No row of the flash lies in block B. -/
def FlOff (B : Nat) (v : Value) : Prop := ∀ p q x y z, v = .agg #[p, q, x, y, z] → RowOff B p ∧ RowOff B q

theorem FlOff.mk {B : Nat} {p q x y z : Value} (hp : RowOff B p) (hq : RowOff B q) : FlOff B (.agg #[p, q, x, y, z]) := by
  intro p' q' x' y' z' e
  simp only [Value.agg.injEq, Array.mk.injEq, List.cons.injEq, and_true] at e
  obtain ⟨rfl, rfl, _⟩ := e
  exact ⟨hp, hq⟩
theorem FlOff.fst {B : Nat} {p q x y z : Value} (h : FlOff B (.agg #[p, q, x, y, z])) : RowOff B p := (h p q x y z rfl).1
theorem FlOff.snd {B : Nat} {p q x y z : Value} (h : FlOff B (.agg #[p, q, x, y, z])) : RowOff B q := (h p q x y z rfl).2
theorem RowOff.fresh {B g off n c : Nat} (h : g ≠ B) : RowOff B (.slice (some ⟨g, off, none⟩) n c) := by
  intro b off n c e _
  simp only [Value.slice.injEq, Option.some.injEq, Addr.mk.injEq] at e
  obtain ⟨⟨rfl, _⟩, _⟩ := e
  exact h
theorem RowOff.none {B n c : Nat} : RowOff B (.slice none n c) := by
  intro b off n c e _
  simp at e

/-- What lies in the memory that was there does not lie in what is new. -/
theorem TextsAt.off {W : World} {v : Value} {l : List ByteArray} (h : TextsAt W v l) {B : Nat} (hB : W.heap.size ≤ B) : RowOff B v := by
  obtain ⟨a, c, rfl, hc⟩ := h
  intro b off n c' e h0
  simp only [Value.slice.injEq] at e
  obtain ⟨rfl, rfl, _⟩ := e
  obtain ⟨b', off', e, hj⟩ := hc h0
  simp only [Option.some.injEq, Addr.mk.injEq] at e
  obtain ⟨rfl, rfl, _⟩ := e
  have := lt_of_cell (hj 0 h0)
  simp only at this
  omega
theorem IntsAt.off {W : World} {v : Value} {l : List Int} (h : IntsAt W v l) {B : Nat} (hB : W.heap.size ≤ B) : RowOff B v := by
  obtain ⟨a, c, rfl, hc⟩ := h
  intro b off n c' e h0
  simp only [Value.slice.injEq] at e
  obtain ⟨rfl, rfl, _⟩ := e
  obtain ⟨b', off', e, hj⟩ := hc h0
  simp only [Option.some.injEq, Addr.mk.injEq] at e
  obtain ⟨rfl, rfl, _⟩ := e
  have := lt_of_cell (hj 0 h0)
  simp only at this
  omega
theorem FlAt.off {W : World} {v : Value} {f : Fl} (h : FlAt W v f) {B : Nat} (hB : W.heap.size ≤ B) : FlOff B v := by
  obtain ⟨p, q, rfl, h1, h2⟩ := h
  exact FlOff.mk (h1.off hB) (h2.off hB)

/-- Worlds that are one but for block B. -/
structure But (B : Nat) (A A' : World) : Prop where
  os : A'.os = A.os
  tape : A'.tape = A.tape
  output : A'.output = A.output
  size : A'.heap.size = A.heap.size
  block : ∀ k, k ≠ B → A'.heap[k]? = A.heap[k]?
theorem But.refl (B : Nat) (A : World) : But B A A := ⟨rfl, rfl, rfl, rfl, fun _ _ => rfl⟩
theorem But.set {B : Nat} {A A' : World} (h : But B A A') (j : Nat) (v : Value) : But B A (A'.setCell ⟨B, j, none⟩ v) := by
  refine ⟨h.os, h.tape, h.output, by simp [World.setCell, h.size], fun k hk => ?_⟩
  rw [← h.block k hk]
  simp only [World.setCell, Array.getElem?_modify]
  rw [if_neg (fun e => hk e.symm)]
theorem But.cell {B : Nat} {A A' : World} (h : But B A A') {b off : Nat} (hb : b ≠ B) : A'.cell? ⟨b, off, none⟩ = A.cell? ⟨b, off, none⟩ := by
  unfold World.cell?
  rw [h.block b hb]
theorem But.below {B n : Nat} {w A A' : World} (h : But B A A') (hw : Below n w A) (hn : n ≤ B) : Below n w A' :=
  ⟨h.os.trans hw.os, h.tape.trans hw.tape, h.output.trans hw.output, by rw [h.size]; exact hw.size, fun k hk => (h.block k (by omega)).trans (hw.block k hk)⟩

theorem TextsAt.but {W W' : World} {v : Value} {l : List ByteArray} {B : Nat} (h : TextsAt W v l) (hb : But B W W') (ho : RowOff B v) : TextsAt W' v l := by
  obtain ⟨a, c, rfl, hc⟩ := h
  refine ⟨a, c, rfl, fun h0 => ?_⟩
  obtain ⟨b, off, rfl, hj⟩ := hc h0
  exact ⟨b, off, rfl, fun j hlt => (hb.cell (ho b off _ c rfl h0)).trans (hj j hlt)⟩
theorem IntsAt.but {W W' : World} {v : Value} {l : List Int} {B : Nat} (h : IntsAt W v l) (hb : But B W W') (ho : RowOff B v) : IntsAt W' v l := by
  obtain ⟨a, c, rfl, hc⟩ := h
  refine ⟨a, c, rfl, fun h0 => ?_⟩
  obtain ⟨b, off, rfl, hj⟩ := hc h0
  exact ⟨b, off, rfl, fun j hlt => (hb.cell (ho b off _ c rfl h0)).trans (hj j hlt)⟩
theorem FlAt.but {W W' : World} {v : Value} {f : Fl} {B : Nat} (h : FlAt W v f) (hb : But B W W') (ho : FlOff B v) : FlAt W' v f := by
  obtain ⟨p, q, rfl, h1, h2⟩ := h
  exact ⟨p, q, rfl, h1.but hb ho.fst, h2.but hb ho.snd⟩

/-- A whole flash stored. -/
def put5 (W : World) (B : Nat) (p q x y z : Value) : World := ((((W.setCell ⟨B, 0, none⟩ p).setCell ⟨B, 1, none⟩ q).setCell ⟨B, 2, none⟩ x).setCell ⟨B, 3, none⟩ y).setCell ⟨B, 4, none⟩ z
theorem put5_but (W : World) (B : Nat) (p q x y z : Value) : But B W (put5 W B p q x y z) := (((((But.refl B W).set 0 p).set 1 q).set 2 x).set 3 y).set 4 z
theorem setCell_block {W : World} {B j : Nat} {v : Value} {cs : Array Value} {t : TypeId} {fr : Nat × Nat} (h : W.heap[B]? = some (.cells cs t fr)) : (W.setCell ⟨B, j, none⟩ v).heap[B]? = some (.cells (cs.setIfInBounds j v) t fr) := by
  simp [World.setCell, Array.getElem?_modify, h]
theorem put5_block {W : World} {B : Nat} {p q x y z c0 c1 c2 c3 c4 : Value} {t : TypeId} {fr : Nat × Nat} (h : W.heap[B]? = some (.cells #[c0, c1, c2, c3, c4] t fr)) : (put5 W B p q x y z).heap[B]? = some (.cells #[p, q, x, y, z] t fr) :=
  setCell_block (setCell_block (setCell_block (setCell_block (setCell_block h))))

/-- What a function on a flash hands back: it reads so, and its rows are the old ones, or new ones. -/
structure FlNew (w : World) (v : Value) (W' : World) (v' : Value) (f' : Fl) : Prop where
  reads : FlAt W' v' f'
  ups : Ups w W'
  off : ∀ B, B < w.heap.size → FlOff B v → FlOff B v'
theorem FlNew.same {w W' : World} {v : Value} {f : Fl} (h : FlAt w v f) (hu : Ups w W') : FlNew w v W' v f := ⟨h.ups hu, hu, fun _ _ h => h⟩

/-- Cells of a block, one by one. -/
theorem block_cells {W : World} {B : Nat} {c0 c1 c2 c3 c4 : Value} {t : TypeId} (h : W.heap[B]? = some (.cells #[c0, c1, c2, c3, c4] t (0, 0))) :
    W.cell? ⟨B, 0, none⟩ = some c0 ∧ W.cell? ⟨B, 1, none⟩ = some c1 ∧ W.cell? ⟨B, 2, none⟩ = some c2 ∧ W.cell? ⟨B, 3, none⟩ = some c3 ∧ W.cell? ⟨B, 4, none⟩ = some c4 := by
  refine ⟨?_, ?_, ?_, ?_, ?_⟩ <;> (unfold World.cell?; rw [h]; rfl)
theorem block_frozen {W : World} {B : Nat} {cs : Array Value} {t : TypeId} (h : W.heap[B]? = some (.cells cs t (0, 0))) (j : Nat) : W.frozen? ⟨B, j, none⟩ = false := by
  unfold World.frozen?
  rw [h]
  simp
theorem block_ups {W W' : World} {B : Nat} {o : Obj} (h : W.heap[B]? = some o) (hu : Ups W W') : W'.heap[B]? = some o := by
  rw [Below.block hu B (Array.getElem?_eq_some_iff.1 h).1]
  exact h

end Go.Proofs.YtmabpnkdagipfaaGreat

/- What flash.with comes to. -/
namespace Go.Proofs.YtmabpnkdagipfaaGreat
open Go.RowKit

set_option maxRecDepth 100000 in
set_option maxHeartbeats 1000000 in
theorem with_calls (f : Fl) (v : Value) (page : Nat) (s : ByteArray) (w : World) (h : FlAt w v f) (hp0 : page < f.pages.length) (hb1 : f.pages.length ≤ 1000) :
    Calls Tryz.prog 74 #[v, .int .i64 page, .string s] w fun e W' => ∃ v', e = .returned v' ∧ FlNew w v W' v' { f with pages := f.pages.set page s } := by
  obtain ⟨p, q, rfl, ⟨a, c, rfl, hp⟩, hq⟩ := h
  obtain ⟨b, off, rfl, hp'⟩ := hp (by omega)
  have HQ := Lib.hid hq
  obtain ⟨a', c', rfl, _⟩ := hq
  go_enter Tryz.func74, Tryz.ntmps74
  go_wp2_with fail
  have o2 := ((Own.start w).alloc (.cells #[.slice (some ⟨b, off, none⟩) f.pages.length c, .slice a' f.wear.length c', .int .i64 f.fuse, .string f.torn, .bool f.dead] 31)).alloc (.cells #[.slice none 0 0, .slice none 0 0, .int .i64 0, .string { data := #[] }, .bool false] 31)
  have hu2 : Ups w ((w.alloc (.cells #[.slice (some ⟨b, off, none⟩) f.pages.length c, .slice a' f.wear.length c', .int .i64 f.fuse, .string f.torn, .bool f.dead] 31)).alloc (.cells #[.slice none 0 0, .slice none 0 0, .int .i64 0, .string { data := #[] }, .bool false] 31)) := o2.bel
  have hz2 := o2.size
  have hk0 := o2.at w.heap.size 0 rfl rfl
  have hk1 := o2.at (w.heap.size + 1) 1 rfl rfl
  simp only [List.nil_append, List.cons_append, List.length_cons, List.length_nil, Nat.zero_add, Nat.reduceAdd] at hz2
  clear o2
  generalize (w.alloc (.cells #[.slice (some ⟨b, off, none⟩) f.pages.length c, .slice a' f.wear.length c', .int .i64 f.fuse, .string f.torn, .bool f.dead] 31)).alloc (.cells #[.slice none 0 0, .slice none 0 0, .int .i64 0, .string { data := #[] }, .bool false] 31) = W2 at *
  refine (Tryz.slices_Clone_string b off f.pages.length c f.pages W2 (Nat.le_refl _) (by omega) (fun j hj => cell_ups hu2 (hp' j hj))).mono ?_
  rintro e W3 ⟨v', rfl, hown, _, hbel⟩
  rw [List.take_length] at hown
  obtain ⟨g, cap, rfl, hg, ⟨x, hx⟩, hfz, hset⟩ := own_store hown page hp0 (.string s)
  have hj0 := hbel.block w.heap.size (by omega)
  have hj1 := hbel.block (w.heap.size + 1) (by omega)
  rw [hk0] at hj0
  rw [hk1] at hj1
  have hu3 : Ups w W3 := Ups.trans hu2 hbel
  have c0 : W3.cell? ⟨w.heap.size, 0, none⟩ = some (.slice (some ⟨b, off, none⟩) f.pages.length c) := by rw [cell_of hj0]; rfl
  have c1 : W3.cell? ⟨w.heap.size, 1, none⟩ = some (.slice a' f.wear.length c') := by rw [cell_of hj0]; rfl
  have c2 : W3.cell? ⟨w.heap.size, 2, none⟩ = some (.int .i64 f.fuse) := by rw [cell_of hj0]; rfl
  have c3 : W3.cell? ⟨w.heap.size, 3, none⟩ = some (.string f.torn) := by rw [cell_of hj0]; rfl
  have c4 : W3.cell? ⟨w.heap.size, 4, none⟩ = some (.bool f.dead) := by rw [cell_of hj0]; rfl
  have z0 : W3.frozen? ⟨w.heap.size, 0, none⟩ = false := by unfold World.frozen?; rw [hj0]; simp
  have d0 : W3.cell? ⟨w.heap.size + 1, 0, none⟩ = some (.slice none 0 0) := by rw [cell_of hj1]; rfl
  have y0 : W3.frozen? ⟨w.heap.size + 1, 0, none⟩ = false := by unfold World.frozen?; rw [hj1]; simp
  have d1 : W3.cell? ⟨w.heap.size + 1, 1, none⟩ = some (.slice none 0 0) := by rw [cell_of hj1]; rfl
  have y1 : W3.frozen? ⟨w.heap.size + 1, 1, none⟩ = false := by unfold World.frozen?; rw [hj1]; simp
  have d2 : W3.cell? ⟨w.heap.size + 1, 2, none⟩ = some (.int .i64 0) := by rw [cell_of hj1]; rfl
  have y2 : W3.frozen? ⟨w.heap.size + 1, 2, none⟩ = false := by unfold World.frozen?; rw [hj1]; simp
  have d3 : W3.cell? ⟨w.heap.size + 1, 3, none⟩ = some (.string { data := #[] }) := by rw [cell_of hj1]; rfl
  have y3 : W3.frozen? ⟨w.heap.size + 1, 3, none⟩ = false := by unfold World.frozen?; rw [hj1]; simp
  have d4 : W3.cell? ⟨w.heap.size + 1, 4, none⟩ = some (.bool false) := by rw [cell_of hj1]; rfl
  have y4 : W3.frozen? ⟨w.heap.size + 1, 4, none⟩ = false := by unfold World.frozen?; rw [hj1]; simp
  have n3 : ¬ g = w.heap.size + 1 := by omega
  have n4 : ¬ w.heap.size + 1 = g := by omega
  have hgw : w.heap.size ≤ g := by omega
  have n1 : ¬ g = w.heap.size := by omega
  have n2 : ¬ w.heap.size = g := by omega
  have ip : (page : Int) < f.pages.length := by omega
  have HS := Lib.hid hset
  have HO := Lib.hid hown
  clear hset hown hj0 hj1 hk0 hk1 hp hp' hbel hz2 hg
  go_wp2_with fail
  have hown := HO.out
  have hta := texts_of_own rfl hown
  obtain ⟨_, _, e0, hcs⟩ := hta
  cases e0
  obtain ⟨_, _, e1, hcs⟩ := hcs (by omega)
  cases e1
  have hu : Ups w (((((((W3.setCell ⟨w.heap.size, 0, none⟩ (.slice (some ⟨g, 0, none⟩) f.pages.length cap)).setCell ⟨g, page, none⟩ (.string s)).setCell ⟨w.heap.size + 1, 0, none⟩ (.slice (some ⟨g, 0, none⟩) f.pages.length cap)).setCell ⟨w.heap.size + 1, 1, none⟩ (.slice a' f.wear.length c')).setCell ⟨w.heap.size + 1, 2, none⟩ (.int .i64 f.fuse)).setCell ⟨w.heap.size + 1, 3, none⟩ (.string f.torn)).setCell ⟨w.heap.size + 1, 4, none⟩ (.bool f.dead)) :=
    ((((((Below.setCell hu3 (Nat.le_refl _) _).setCell hgw _).setCell (Nat.le_succ _) _).setCell (Nat.le_succ _) _).setCell (Nat.le_succ _) _).setCell (Nat.le_succ _) _).setCell (Nat.le_succ _) _
  refine bodyPost_ret (v := .agg #[.slice (some ⟨g, 0, none⟩) f.pages.length cap, .slice a' f.wear.length c', .int .i64 f.fuse, .string f.torn, .bool f.dead]) ?_ rfl ⟨_, rfl, ⟨⟨_, _, rfl, ?_, HQ.out.ups hu⟩, hu, fun B hB ho => FlOff.mk (RowOff.fresh (by omega)) ho.snd⟩⟩
  · simp [results, Tryz.results74, go_sem, d0, d1, d2, d3, d4]
  · refine ⟨_, cap, by rw [List.length_set], fun _ => ⟨g, 0, rfl, fun j hj => ?_⟩⟩
    rw [List.length_set] at hj
    have hcj := hcs j hj
    rw [Nat.zero_add] at hcj ⊢
    have ne : ∀ (i : Nat) (B : Nat), ¬ g = B → (⟨B, i, none⟩ : Addr) ≠ ⟨g, j, none⟩ := fun i B hB e => hB (by have := congrArg Addr.block e; exact this.symm)
    rw [World.cell?_setCell_other _ _ _ _ (ne _ _ n3), World.cell?_setCell_other _ _ _ _ (ne _ _ n3), World.cell?_setCell_other _ _ _ _ (ne _ _ n3), World.cell?_setCell_other _ _ _ _ (ne _ _ n3), World.cell?_setCell_other _ _ _ _ (ne _ _ n3)]
    by_cases hjp : j = page
    · subst hjp
      have hx' : (W3.setCell ⟨w.heap.size, 0, none⟩ (.slice (some ⟨g, 0, none⟩) f.pages.length cap)).cell? ⟨g, j, none⟩ = some x := by
        rw [World.cell?_setCell_other _ _ _ _ (ne _ _ n1)]
        exact hx
      rw [World.cell?_setCell_same _ _ _ hx']
      simp [hj]
    · rw [World.cell?_setCell_other _ _ _ _ (fun e => hjp (by have := congrArg Addr.off e; exact this.symm)), World.cell?_setCell_other _ _ _ _ (ne _ _ n1), hcj]
      have : ¬ page = j := fun e => hjp e.symm
      simp [List.getD_eq_getElem?_getD, this]

end Go.Proofs.YtmabpnkdagipfaaGreat

/- What flash.Same comes to. -/
namespace Go.Proofs.YtmabpnkdagipfaaGreat
open Go.RowKit

def sameB (f g : Fl) : Bool := decide (f.pages = g.pages) && decide (f.wear = g.wear) && (f.fuse == g.fuse) && (f.torn.toList == g.torn.toList) && (f.dead == g.dead)

set_option maxRecDepth 100000 in
set_option maxHeartbeats 1000000 in
theorem same_calls (f g : Fl) (v v' : Value) (w : World) (h : FlAt w v f) (h' : FlAt w v' g) (b1 : f.pages.length ≤ 1000000) (b2 : g.pages.length ≤ 1000000) (b3 : f.wear.length ≤ 1000000) (b4 : g.wear.length ≤ 1000000) :
    Calls Tryz.prog 27 #[v, v'] w fun e W' => e = .returned (.bool (sameB f g)) ∧ Ups w W' := by
  obtain ⟨p, q, rfl, hp, hq⟩ := h
  obtain ⟨p', q', rfl, hp', hq'⟩ := h'
  have heT := fun W (hu : Ups w W) => equal_texts (hp.ups hu) (hp'.ups hu) b1 b2
  have heI := fun W (hu : Ups w W) => equal_ints (hq.ups hu) (hq'.ups hu) b3 b4
  obtain ⟨a1, c1, rfl, _⟩ := hp
  obtain ⟨a2, c2, rfl, _⟩ := hq
  obtain ⟨a3, c3, rfl, _⟩ := hp'
  obtain ⟨a4, c4, rfl, _⟩ := hq'
  have hs : sameB f g = (decide (f.pages = g.pages) && decide (f.wear = g.wear) && (f.fuse == g.fuse) && (f.torn.toList == g.torn.toList) && (f.dead == g.dead)) := rfl
  rw [hs]
  clear hs
  generalize decide (f.pages = g.pages) = P at *
  generalize decide (f.wear = g.wear) = Q at *
  go_enter Tryz.func27, Tryz.ntmps27
  go_wp2_with fail
  have o2 := ((Own.start w).alloc (.cells #[.slice a1 f.pages.length c1, .slice a2 f.wear.length c2, .int .i64 f.fuse, .string f.torn, .bool f.dead] 31)).alloc (.cells #[.slice a3 g.pages.length c3, .slice a4 g.wear.length c4, .int .i64 g.fuse, .string g.torn, .bool g.dead] 31)
  have hu2 : Ups w ((w.alloc (.cells #[.slice a1 f.pages.length c1, .slice a2 f.wear.length c2, .int .i64 f.fuse, .string f.torn, .bool f.dead] 31)).alloc (.cells #[.slice a3 g.pages.length c3, .slice a4 g.wear.length c4, .int .i64 g.fuse, .string g.torn, .bool g.dead] 31)) := o2.bel
  have hk0 := o2.at w.heap.size 0 rfl rfl
  have hk1 := o2.at (w.heap.size + 1) 1 rfl rfl
  clear o2
  generalize (w.alloc (.cells #[.slice a1 f.pages.length c1, .slice a2 f.wear.length c2, .int .i64 f.fuse, .string f.torn, .bool f.dead] 31)).alloc (.cells #[.slice a3 g.pages.length c3, .slice a4 g.wear.length c4, .int .i64 g.fuse, .string g.torn, .bool g.dead] 31) = W2 at *
  refine (heT _ hu2).mono ?_
  rintro e W3 ⟨rfl, hb3⟩
  have cA : ∀ j v, (#[.slice a1 f.pages.length c1, .slice a2 f.wear.length c2, .int .i64 f.fuse, .string f.torn, .bool f.dead] : Array Value)[j]? = some v → W3.cell? ⟨w.heap.size, j, none⟩ = some v := fun j v h => cell_ups hb3 (by rw [cell_of hk0]; exact h)
  have cB : ∀ j v, (#[.slice a3 g.pages.length c3, .slice a4 g.wear.length c4, .int .i64 g.fuse, .string g.torn, .bool g.dead] : Array Value)[j]? = some v → W3.cell? ⟨w.heap.size + 1, j, none⟩ = some v := fun j v h => cell_ups hb3 (by rw [cell_of hk1]; exact h)
  have k1 := cA 1 _ rfl
  have m1 := cB 1 _ rfl
  clear hk0 hk1
  have HA := Lib.hid cA
  have HB := Lib.hid cB
  clear cA cB
  cases P
  · go_wp2_with fail
    go_ret
    exact ⟨by simp, Ups.trans hu2 hb3⟩
  · go_wp2_with fail
    refine (heI _ (Ups.trans hu2 hb3)).mono ?_
    rintro e W4 ⟨rfl, hb4⟩
    have k2 := cell_ups hb4 (HA.out 2 _ rfl)
    have k3 := cell_ups hb4 (HA.out 3 _ rfl)
    have k4 := cell_ups hb4 (HA.out 4 _ rfl)
    have m2 := cell_ups hb4 (HB.out 2 _ rfl)
    have m3 := cell_ups hb4 (HB.out 3 _ rfl)
    have m4 := cell_ups hb4 (HB.out 4 _ rfl)
    have hu := Ups.trans hu2 (Ups.trans hb3 hb4)
    cases Q
    · go_wp2_with fail
      go_ret
      exact ⟨by simp, hu⟩
    · cases e1 : (f.fuse == g.fuse)
      · go_wp2_with fail
        go_ret
        exact ⟨by simp; intro h; exact absurd h (by simpa using e1), hu⟩
      · cases e2 : (f.torn.toList == g.torn.toList)
        · go_wp2_with fail
          go_ret
          exact ⟨by simp; simp at e1; try simp at e2; simp_all, hu⟩
        · go_wp2_with fail
          go_ret
          exact ⟨by simp; simp at e1; try simp at e2; simp_all, hu⟩

end Go.Proofs.YtmabpnkdagipfaaGreat
