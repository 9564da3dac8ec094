/- What flash.Check comes to. -/
import Derived.Test.YtjpapjijlbfemaaFl
import Derived.WalkSpells
import Derived.WalkLawsBesides
import Derived.Outline
namespace Go.Proofs.Ytjpapjijlbfemaa
open Go.RowKit

def oddB (first s : ByteArray) : Bool := decide (s.size = 0) || decide (8192 < s.size) || decide (s.size ≠ first.size)

set_option maxRecDepth 100000 in
theorem odd_calls (s : ByteArray) (B b off n c : Nat) (first : ByteArray) (W : World) (hn : 0 < n) (hp : W.cell? ⟨B, 0, none⟩ = some (.slice (some ⟨b, off, none⟩) n c)) (hc : W.cell? ⟨b, off, none⟩ = some (.string first)) :
    Calls Try.prog 53 #[.string s, .pointer (some ⟨B, 0, none⟩)] W fun e W' => e = .returned (.bool (oddB first s)) ∧ W = W' := by
  by_cases h0 : s.size = 0
  · have hs : s = bs [] := text_ext (by
      have := toList_length s
      rw [h0] at this
      rw [List.eq_nil_of_length_eq_zero this, bs_toList])
    subst hs
    have ho : oddB first (bs []) = true := by simp [oddB, bs_size]
    rw [ho]
    have hnil : (bs []).toList = [] := by decide +kernel
    clear ho h0
    go_enter Try.func53, Try.ntmps53
    go_wp2
    go_ret
    exact ⟨rfl, rfl⟩
  · have hne : (s.toList == []) = false := by
      rw [beq_eq_false_iff_ne, ByteArray.toList_eq]
      intro e
      apply h0
      rw [← toList_length, e]
      rfl
    by_cases h1 : 8192 < s.size
    · have ho : oddB first s = true := by simp [oddB, h1]
      rw [ho]
      have h1' : (8192 : Int) < s.size := by omega
      clear ho
      go_enter Try.func53, Try.ntmps53
      go_wp2
      go_ret
      exact ⟨rfl, rfl⟩
    · have h1' : ¬ (8192 : Int) < s.size := by omega
      have ho : oddB first s = ((s.size : Int) != first.size) := by
        unfold oddB
        rw [decide_eq_false h0, decide_eq_false h1, Bool.false_or, Bool.false_or, Bool.eq_iff_iff, decide_eq_true_eq, bne_iff_ne]
        omega
      rw [ho]
      clear ho
      have hn' : (0 : Int) < n := by omega
      go_enter Try.func53, Try.ntmps53
      go_wp2
      go_ret
      exact ⟨rfl, rfl⟩

set_option maxRecDepth 100000 in
theorem index_calls (B b off c : Nat) (l : List ByteArray) (first : ByteArray) (W : World) (h0 : 0 < l.length) (hbig : l.length ≤ 1000000) (hp : W.cell? ⟨B, 0, none⟩ = some (.slice (some ⟨b, off, none⟩) l.length c))
    (hf : l.getD 0 ByteArray.empty = first) (hc : ∀ j, j < l.length → W.cell? ⟨b, off + j, none⟩ = some (.string (l.getD j ByteArray.empty))) :
    Calls Try.prog 67 #[.slice (some ⟨b, off, none⟩) l.length c, .func (.func 53) #[] #[.pointer (some ⟨B, 0, none⟩)]] W fun e W' => (∃ r : Int, e = .returned (.int .i64 r) ∧ (decide (0 ≤ r)) = l.any (oddB first)) ∧ W = W' := by
  have hc0 : W.cell? ⟨b, off, none⟩ = some (.string first) := by have := hc 0 h0; rw [hf] at this; exact this
  have hodd := fun s => odd_calls s B b off l.length c first W h0 hp hc0
  have HO := Lib.hid hodd
  have HC := Lib.hid hc
  clear hodd hc hc0 hf
  go_enter Try.func67, Try.ntmps67
  go_wp2
  go_loop [8] (fun i => ∃ k : Nat, k ≤ l.length ∧ i = .int .i64 k ∧ (l.take k).any (oddB first) = false) (fun i => l.length - (intOf i).toNat)
  case atStart => exact ⟨0, Nat.zero_le _, rfl, rfl⟩
  case round =>
    obtain ⟨k, hk, rfl, hany⟩ := hrel
    by_cases hlt : k < l.length
    · have hck := HC.out k hlt
      have HA := Lib.hid hany
      clear hany
      have hnext : (l.take (k + 1)).any (oddB first) = ((l.take k).any (oddB first) || oddB first (l.getD k ByteArray.empty)) := by
        rw [List.take_succ_eq_append_getElem hlt, List.any_append]
        simp [hlt]
      have hin : oddB first (l.getD k ByteArray.empty) = true → l.any (oddB first) = true := by
        intro h
        rw [List.any_eq_true]
        refine ⟨l[k], List.getElem_mem hlt, ?_⟩
        simpa [hlt] using h
      have ho := HO.out (l.getD k ByteArray.empty)
      generalize l.getD k ByteArray.empty = s at *
      cases hb : oddB first s with
      | true =>
        rw [hb] at ho
        have hi := Lib.hid (hin hb)
        clear hin hnext hb
        go_wp2_with (go_at_call 53; refine ho.mono ?_; rintro e w' ⟨rfl, rfl⟩)
        go_ret
        exact ⟨⟨(k : Int), rfl, by rw [hi.out]; simp⟩, rfl⟩
      | false =>
        rw [hb] at ho hnext
        rw [HA.out] at hnext
        have hi := Lib.hid hnext
        clear hin hnext hb
        go_wp2_with (go_at_call 53; refine ho.mono ?_; rintro e w' ⟨rfl, rfl⟩)
        go_round
        case rel => exact ⟨k + 1, by omega, by go_num, by simpa using hi.out⟩
        case measure => simp [intOf]; omega
    · obtain rfl : k = l.length := by omega
      rw [List.take_length] at hany
      have HA := Lib.hid hany
      clear hany
      go_wp2
      go_ret
      exact ⟨⟨-1, rfl, by rw [HA.out]; rfl⟩, rfl⟩

theorem contains_calls (B b off c : Nat) (l : List ByteArray) (first : ByteArray) (W : World) (h0 : 0 < l.length) (hbig : l.length ≤ 1000000) (hp : W.cell? ⟨B, 0, none⟩ = some (.slice (some ⟨b, off, none⟩) l.length c))
    (hf : l.getD 0 ByteArray.empty = first) (hc : ∀ j, j < l.length → W.cell? ⟨b, off + j, none⟩ = some (.string (l.getD j ByteArray.empty))) :
    Calls Try.prog 54 #[.slice (some ⟨b, off, none⟩) l.length c, .func (.func 53) #[] #[.pointer (some ⟨B, 0, none⟩)]] W fun e W' => e = .returned (.bool (l.any (oddB first))) ∧ W = W' := by
  have hi := fun W' (e : W = W') => index_calls B b off c l first W h0 hbig hp hf hc
  go_enter Try.func54, Try.ntmps54
  go_wp2_with fail
  refine (hi _ rfl).mono ?_
  rintro e w' ⟨⟨r, rfl, hr⟩, rfl⟩
  have HR := Lib.hid hr
  clear hr hi
  go_wp2_with fail
  go_ret
  exact ⟨by rw [← HR.out]; rfl, rfl⟩

theorem foldl_min : ∀ (l : List Int) (m b : Int), b ≤ l.foldl min m ↔ b ≤ m ∧ ∀ z ∈ l, b ≤ z
  | [], m, b => by simp
  | z :: l, m, b => by
    rw [List.foldl_cons, foldl_min l (min m z) b]
    constructor
    · rintro ⟨h, hl⟩
      exact ⟨by omega, fun y hy => (List.mem_cons.1 hy).elim (fun e => by omega) (hl y)⟩
    · rintro ⟨h, hl⟩
      have := hl z List.mem_cons_self
      exact ⟨by omega, fun y hy => hl y (List.mem_cons_of_mem _ hy)⟩
theorem foldl_max : ∀ (l : List Int) (m b : Int), l.foldl max m ≤ b ↔ m ≤ b ∧ ∀ z ∈ l, z ≤ b
  | [], m, b => by simp
  | z :: l, m, b => by
    rw [List.foldl_cons, foldl_max l (max m z) b]
    constructor
    · rintro ⟨h, hl⟩
      exact ⟨by omega, fun y hy => (List.mem_cons.1 hy).elim (fun e => by omega) (hl y)⟩
    · rintro ⟨h, hl⟩
      have := hl z List.mem_cons_self
      exact ⟨by omega, fun y hy => hl y (List.mem_cons_of_mem _ hy)⟩
theorem minOf_ge (l : List Int) (h : 0 < l.length) (b : Int) : b ≤ Lib.minOf l ↔ ∀ z ∈ l, b ≤ z := by
  unfold Lib.minOf
  rw [foldl_min]
  constructor
  · exact fun h => h.2
  · intro hl
    refine ⟨hl _ ?_, hl⟩
    cases l with
    | nil => simp at h
    | cons z l => exact List.mem_cons_self
theorem maxOf_le (l : List Int) (h : 0 < l.length) (b : Int) : Lib.maxOf l ≤ b ↔ ∀ z ∈ l, z ≤ b := by
  unfold Lib.maxOf
  rw [foldl_max]
  constructor
  · exact fun h => h.2
  · intro hl
    refine ⟨hl _ ?_, hl⟩
    cases l with
    | nil => simp at h
    | cons z l => exact List.mem_cons_self

/-- What flash.Check says. -/
def checkB (f : Fl) : Bool :=
  decide (1 ≤ f.pages.length) && decide (f.pages.length ≤ 6) && decide (f.wear.length = f.pages.length) && decide (f.torn.size ≤ 64) && f.wear.all (fun z => decide (0 ≤ z) && decide (z ≤ 2147483647)) && !f.pages.any (oddB (f.pages.getD 0 ByteArray.empty))

set_option maxRecDepth 100000 in
set_option maxHeartbeats 1000000 in
theorem check_calls (f : Fl) (v : Value) (w : World) (h : FlAt w v f) (hb1 : f.pages.length ≤ 9223372036854775807) (hb2 : f.wear.length ≤ 9223372036854775807) :
    Calls Try.prog 24 #[v] w fun e W' => e = .returned (.int .i64 (if checkB f then 0 else 1)) ∧ Ups w W' := by
  obtain ⟨p, q, rfl, ⟨a, c, rfl, hp⟩, ⟨a', c', rfl, hq⟩⟩ := h
  obtain ⟨pages, wear, fuse, torn, dead⟩ := f
  simp only at hp hq hb1 hb2 ⊢
  have hbel : Below w.heap.size w (w.alloc (.cells #[.slice a pages.length c, .slice a' wear.length c', .int .i64 fuse, .string torn, .bool dead] 25)) := (Below.refl _ w).alloc (Nat.le_refl _) _
  by_cases h1 : pages.length < 1
  · have hc : checkB ⟨pages, wear, fuse, torn, dead⟩ = false := by simp [checkB]; omega
    rw [hc]
    have h1' : (pages.length : Int) < 1 := by omega
    clear hc h1 hp hq
    go_enter Try.func24, Try.ntmps24
    go_wp2_with fail
    go_ret
    exact ⟨rfl, hbel⟩
  have g1 : ¬ (pages.length : Int) < 1 := by omega
  by_cases h2 : 6 < pages.length
  · have hc : checkB ⟨pages, wear, fuse, torn, dead⟩ = false := by simp [checkB]; omega
    rw [hc]
    have h2' : (6 : Int) < pages.length := by omega
    clear hc h1 h2 hp hq
    go_enter Try.func24, Try.ntmps24
    go_wp2_with fail
    go_ret
    exact ⟨rfl, hbel⟩
  have g2 : ¬ (6 : Int) < pages.length := by omega
  by_cases h3 : wear.length = pages.length
  · have g3 : ((wear.length : Int) != pages.length) = false := by
      have : (wear.length : Int) = pages.length := by omega
      simpa using this
    by_cases h4 : 64 < torn.size
    · have hc : checkB ⟨pages, wear, fuse, torn, dead⟩ = false := by simp [checkB]; omega
      rw [hc]
      have g4 : (64 : Int) < torn.size := by omega
      clear hc h1 h2 h3 hp hq
      go_enter Try.func24, Try.ntmps24
      go_wp2_with fail
      go_ret
      exact ⟨rfl, hbel⟩
    have g4 : ¬ (64 : Int) < torn.size := by omega
    have hw0 : 0 < wear.length := by omega
    obtain ⟨bq, oq, rfl, hq'⟩ := hq hw0
    obtain ⟨bp, op, rfl, hp'⟩ := hp (by omega)
    have hmin := minOf_ge wear hw0 0
    have hmax := maxOf_le wear hw0 2147483647
    have hW := fun W (hu : Ups w W) => Try.slices_Min_int bq oq wear.length c' wear W hw0 (Nat.le_refl _) (by omega) (fun j hj => cell_ups hu (hq' j hj))
    have hX := fun W (hu : Ups w W) => Try.slices_Max_int bq oq wear.length c' wear W hw0 (Nat.le_refl _) (by omega) (fun j hj => cell_ups hu (hq' j hj))
    rw [List.take_length] at hW hX
    generalize hmn : Lib.minOf wear = mn at *
    generalize hmx : Lib.maxOf wear = mx at *
    clear hmn hmx
    have hone := h3
    have H3 := Lib.hid h3
    clear h3 hone
    by_cases h5 : mn < 0
    · have hc : checkB ⟨pages, wear, fuse, torn, dead⟩ = false := by
        have : wear.all (fun z => decide (0 ≤ z) && decide (z ≤ 2147483647)) = false := by
          rw [Bool.eq_false_iff]
          intro h
          rw [List.all_eq_true] at h
          have := hmin.2 fun z hz => by have := h z hz; simp at this; exact this.1
          omega
        simp [checkB, this]
      rw [hc]
      clear hc h1 h2 hmin hmax hp' hq' hp hq
      go_enter Try.func24, Try.ntmps24
      go_wp2_with fail
      refine (hW _ hbel).mono ?_
      rintro e w' ⟨rfl, rfl⟩
      go_wp2_with fail
      go_ret
      exact ⟨rfl, hbel⟩
    by_cases h6 : 2147483647 < mx
    · have hc : checkB ⟨pages, wear, fuse, torn, dead⟩ = false := by
        have : wear.all (fun z => decide (0 ≤ z) && decide (z ≤ 2147483647)) = false := by
          rw [Bool.eq_false_iff]
          intro h
          rw [List.all_eq_true] at h
          have := hmax.2 fun z hz => by have := h z hz; simp at this; exact this.2
          omega
        simp [checkB, this]
      rw [hc]
      clear hc h1 h2 hmin hmax hp' hq' hp hq
      go_enter Try.func24, Try.ntmps24
      go_wp2_with fail
      refine (hW _ hbel).mono ?_
      rintro e w' ⟨rfl, rfl⟩
      go_wp2_with fail
      refine (hX _ hbel).mono ?_
      rintro e w' ⟨rfl, rfl⟩
      go_wp2_with fail
      go_ret
      exact ⟨rfl, hbel⟩
    have hck : checkB ⟨pages, wear, fuse, torn, dead⟩ = !pages.any (oddB (pages.getD 0 ByteArray.empty)) := by
      have : wear.all (fun z => decide (0 ≤ z) && decide (z ≤ 2147483647)) = true := by
        rw [List.all_eq_true]
        intro z hz
        have a1 := hmin.1 (by omega) z hz
        have a2 := hmax.1 (by omega) z hz
        simp [a1, a2]
      have b1 : 1 ≤ pages.length := by omega
      have b2 : pages.length ≤ 6 := by omega
      have b3 : torn.size ≤ 64 := by omega
      simp only [checkB, this, decide_eq_true b1, decide_eq_true b2, decide_eq_true b3, decide_eq_true H3.out, Bool.true_and]
    rw [hck]
    have hcell : (w.alloc (.cells #[.slice (some ⟨bp, op, none⟩) pages.length c, .slice (some ⟨bq, oq, none⟩) wear.length c', .int .i64 fuse, .string torn, .bool dead] 25)).cell? ⟨w.heap.size, 0, none⟩ = some (.slice (some ⟨bp, op, none⟩) pages.length c) := by
      rw [World.cell?_alloc_mark]
      rfl
    have hcon := contains_calls w.heap.size bp op c pages (pages.getD 0 ByteArray.empty) _ (by omega) (by omega) hcell rfl (fun j hj => cell_ups hbel (hp' j hj))
    generalize pages.any (oddB (pages.getD 0 ByteArray.empty)) = o at *
    clear hck hmin hmax hp' hq' hp hq hcell
    have hmf : ∀ (fn : Fn) (first cap : Array Value) (w : World), (Instr.makeFunc fn first cap).run Try.prog w = .ok (.func fn first cap) w := fun _ _ _ _ => rfl
    cases o
    · go_enter Try.func24, Try.ntmps24
      go_wp2_with fail
      refine (hW _ hbel).mono ?_
      rintro e w' ⟨rfl, rfl⟩
      go_wp2_with fail
      refine (hX _ hbel).mono ?_
      rintro e w' ⟨rfl, rfl⟩
      go_wp2_with fail
      refine hcon.mono ?_
      rintro e w' ⟨rfl, rfl⟩
      go_wp2_with fail
      go_ret
      exact ⟨rfl, hbel⟩
    · go_enter Try.func24, Try.ntmps24
      go_wp2_with fail
      refine (hW _ hbel).mono ?_
      rintro e w' ⟨rfl, rfl⟩
      go_wp2_with fail
      refine (hX _ hbel).mono ?_
      rintro e w' ⟨rfl, rfl⟩
      go_wp2_with fail
      refine hcon.mono ?_
      rintro e w' ⟨rfl, rfl⟩
      go_wp2_with fail
      go_ret
      exact ⟨rfl, hbel⟩
  · have hc : checkB ⟨pages, wear, fuse, torn, dead⟩ = false := by simp [checkB, h3]
    rw [hc]
    have g3 : ((wear.length : Int) != pages.length) = true := by
      have : ¬ (wear.length : Int) = pages.length := by omega
      simpa using this
    clear hc h1 h2 h3 hp hq
    go_enter Try.func24, Try.ntmps24
    go_wp2_with fail
    go_ret
    exact ⟨rfl, hbel⟩

end Go.Proofs.Ytjpapjijlbfemaa
