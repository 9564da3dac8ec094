/- Texts of this proof, one behind the other: PageRec, Ref5. -/
import Derived.OwnWalkIn
import Derived.OneCell
import Derived.Test.YtmabpnkdagipfaaGreatJ19
import Derived.Test.YtmabpnkdagipfaaGreatJ20

/- page.Records. -/
namespace Go.Proofs.YtmabpnkdagipfaaGreat
open Go.RowKit
attribute [local go_sem] Oper.semAt_some

/-- What is read of the first k. -/
def recsTo (f : Nat → ByteArray × Int) : Nat → List ByteArray
  | 0 => []
  | k + 1 => if (f k).2 = 0 then recsTo f k ++ [(f k).1] else recsTo f k
theorem recsTo_le (f : Nat → ByteArray × Int) : ∀ k, (recsTo f k).length ≤ k
  | 0 => Nat.le_refl _
  | k + 1 => by
    have := recsTo_le f k
    unfold recsTo
    split
    · simp; omega
    · omega
def recsN (s : ByteArray) (z : Nat) : List ByteArray := recsTo (fun k => rreadT (place s z k)) (s.size / z)

theorem infoS : (Tryz.prog.info? 9).map (fun i => (i.zero, i.size, i.bytes)) = some (some (.string ByteArray.empty), 1, 16) := by kernel_rfl
theorem Blks.grown {w W W' : World} {os : List (Nat × Obj)} {row : Option Nat} (h : Blks w os W) (hg : W.grownBy W' row) (hne : ∀ g, row = some g → w.heap.size ≤ g ∧ ∀ (i B : Nat) (o : Obj), os[i]? = some (B, o) → B ≠ g) : Blks w os W' :=
  ⟨h.bel.grown hg h.bel.size fun g e => (hne g e).1, fun i B o hi => (hg.block B (h.lt i hi) (fun e => by obtain ⟨_, h2⟩ := hne B e.symm; exact h2 i B o hi rfl)).trans (h.obj i B o hi), h.nd, h.ge⟩
/-- An owned row lies in none of the blocks: its block is of another type. -/
theorem owns_other {W : World} {base e n : Nat} {v : Value} {xs : List Value} {g : Nat} (h : W.ownsRow base e 1 v n xs) (hg : v.ownBlock = some g) : base ≤ g ∧ ∃ cur, W.heap[g]? = some (.cells cur e (0, 0)) := by
  obtain ⟨_, ⟨rfl, _⟩ | ⟨g', cap, cur, rfl, hb, hh, _⟩⟩ := h
  · simp [Value.ownBlock] at hg
  · simp only [Value.ownBlock, Option.some.injEq] at hg
    subst hg
    exact ⟨hb, cur, hh⟩

theorem owns_slice {W : World} {base e n : Nat} {v : Value} {xs : List Value} (h : W.ownsRow base e 1 v n xs) : ∃ a c, v = .slice a n c := by
  obtain ⟨_, ⟨rfl, rfl⟩ | ⟨g, cap, cur, rfl, _⟩⟩ := h
  · exact ⟨_, _, rfl⟩
  · exact ⟨_, _, rfl⟩
theorem owns_ups {W W' : World} {base e n : Nat} {v : Value} {xs : List Value} (h : W.ownsRow base e 1 v n xs) (hu : Ups W W') : W'.ownsRow base e 1 v n xs := by
  obtain ⟨h1, h2⟩ := h
  refine ⟨h1, ?_⟩
  rcases h2 with h2 | ⟨g, cap, cur, rfl, hb, hh, r⟩
  · exact .inl h2
  · exact .inr ⟨g, cap, cur, rfl, hb, (hu.block g (Array.getElem?_eq_some_iff.1 hh).1).trans hh, r⟩
theorem owns_put {W : World} {base e n B : Nat} {v : Value} {xs : List Value} (h : W.ownsRow base e 1 v n xs) (hne : ∀ cur, W.heap[B]? ≠ some (.cells cur e (0, 0))) (o : Obj) : (W.putObj B o).ownsRow base e 1 v n xs := by
  obtain ⟨h1, h2⟩ := h
  refine ⟨h1, ?_⟩
  rcases h2 with h2 | ⟨g, cap, cur, rfl, hb, hh, r⟩
  · exact .inl h2
  · refine .inr ⟨g, cap, cur, rfl, hb, (World.putObj_heap_other ?_).trans hh, r⟩
    rintro rfl
    exact hne cur hh
theorem owns_set {W : World} {base e n B : Nat} {v : Value} {xs : List Value} (h : W.ownsRow base e 1 v n xs) (hne : ∀ cur, W.heap[B]? ≠ some (.cells cur e (0, 0))) (u : Value) : (W.setCell ⟨B, 0, none⟩ u).ownsRow base e 1 v n xs := by
  refine ownsRow_setCell_other h ?_ u
  intro hg
  obtain ⟨_, cur, hh⟩ := owns_other h hg
  exact hne cur hh

set_option maxRecDepth 100000 in
set_option maxHeartbeats 2000000 in
theorem records_calls (s : ByteArray) (n : Int) (w : World) (hs : s.size ≤ 90000) :
    Calls Tryz.prog 12 #[.string s, .int .i64 n] w fun e W' => ∃ v, e = .returned v ∧ W'.ownsRow w.heap.size 9 1 v (recsN s (sizeN n)).length ((recsN s (sizeN n)).map Value.string) ∧ Ups w W' := by
  obtain ⟨i0, hi, hz0, hz1, hz2⟩ := info_parts infoS
  have hof := fun w => of_calls s n w
  have hpsz := fun k (hk : k < s.size / sizeN n) => place_size hk
  have hroom : s.size / sizeN n ≤ s.size := Nat.div_le_self _ _
  have hz8 := (sizeN_le n).1
  unfold recsN
  generalize sizeN n = z at *
  have HZ := Lib.hid hpsz
  clear hpsz
  refine (callsIn_wide (n := 9)).1 ?_
  refine callsIn_of_wp_marks Tryz.func12 rfl trivial ?_ rfl
  simp only [Tryz.ntmps12, List.size_toArray, List.length_cons, List.length_nil, Nat.reduceAdd, Nat.reduceSub, Array.replicate_succ, Array.replicate_zero, List.push_toArray, List.append_toArray, List.nil_append, List.cons_append]
  gi_wp2_with (refine ⟨trivial, ?_⟩; gi_at_call 31; refine (callsIn_wide.2 (hof _)).mono ?_; rintro e W1 ⟨rfl, hW1⟩)
  gi_wp2_with (refine ⟨trivial, ?_⟩; gi_at_call 32; refine (callsIn_wide.2 (peach_calls s z _)).mono ?_; rintro e W2 ⟨rfl, hW2⟩; have HW := Lib.hid hW2; clear hW2)
  have hb1 : w.heap.size < W1.heap.size := Nat.lt_of_lt_of_le (by simp) hW1.size
  refine range_law rfl (by decide) (gf := 57) (lb := _) rfl trivial (enters_of Tryz.func57 (by kernel_rfl) rfl) ?_
  intro fn rec hfn hrec
  have h2 := (((Blks.start w).alloc (.cells #[.slice none 0 0] 26) rfl).ups hW1).alloc (.cells #[.string s, .int .i64 z] 48) rfl
  have hsz := alloc_size W1 (.cells #[.string s, .int .i64 z] 48)
  rw [HW.out] at h2 hsz
  have h4 := (h2.alloc (.deferred (some [])) rfl).alloc (.loop (rec .ready none)) (B := W2.heap.size + 1) (by simp)
  simp only [List.nil_append, List.cons_append] at h4
  have HREC := Lib.hid hrec
  clear hrec HW h2 hW1
  rw [hsz] at h4 HREC ⊢
  generalize W1.heap.size = b at *
  refine (peach_in (b + 1 + 1) b s z (by omega)
    (fun k W => ∃ v, W.ownsRow w.heap.size 9 1 v (recsTo (fun k => rreadT (place s z k)) k).length ((recsTo (fun k => rreadT (place s z k)) k).map Value.string) ∧ Blks w [(w.heap.size, .cells #[v] 26), (b, .cells #[.string s, .int .i64 z] 48), (b + 1, .deferred (some [])), (b + 1 + 1, .loop (rec .ready none))] W)
    (fun W => ∃ v, W.ownsRow w.heap.size 9 1 v (recsTo (fun k => rreadT (place s z k)) (s.size / z)).length ((recsTo (fun k => rreadT (place s z k)) (s.size / z)).map Value.string) ∧ Blks w [(w.heap.size, .cells #[v] 26), (b, .cells #[.string s, .int .i64 z] 48), (b + 1, .deferred (some [])), (b + 1 + 1, .loop (rec .ready none))] W)
    ?cell ?ups ?round ?last _ ⟨_, World.ownsRow_nil _ _ _ _, h4⟩).mono ?done
  case cell =>
    rintro k W ⟨v, _, h⟩
    exact h.at 1 rfl
  case ups =>
    rintro k W W' ⟨v, ho, h⟩ hu
    exact ⟨v, owns_ups ho hu, h.ups hu⟩
  case last => exact fun W h => h
  case round =>
    rintro k W hk ⟨v, ho, hJ⟩
    have hps := HZ.out k hk
    have hcl := fun w => read_c (place s z k) w (by omega)
    have hvk := recsTo_le (fun k => rreadT (place s z k)) k
    have hnx : recsTo (fun k => rreadT (place s z k)) (k + 1) = if (rreadT (place s z k)).2 = 0 then recsTo (fun k => rreadT (place s z k)) k ++ [(rreadT (place s z k)).1] else recsTo (fun k => rreadT (place s z k)) k := rfl
    generalize recsTo (fun k => rreadT (place s z k)) (k + 1) = l' at *
    generalize recsTo (fun k => rreadT (place s z k)) k = l at *
    generalize place s z k = t at *
    generalize (rreadT t).1 = p at *
    generalize (rreadT t).2 = c at *
    by_cases hc : c = 0
    · subst hc
      obtain rfl : l' = l ++ [p] := by simpa using hnx
      clear hnx
      refine round_law hfn HREC.out (hJ.at 3 rfl) rfl ?_
      gi_wp2
      refine ⟨hJ.at 3 rfl, ?_⟩
      have ho3 := owns_put ho (B := b + 1 + 1) (fun cur hh => by rw [hJ.at 3 rfl] at hh; cases hh) (.loop (rec .busy none))
      have hB := hJ.put 3 rfl (.loop (rec .busy none))
      simp only [List.set] at hB
      generalize World.putObj W (b + 1 + 1) (.loop (rec .busy none)) = W3 at *
      clear hJ ho
      gi_wp2_with (first
        | (refine ⟨trivial, ?_⟩; gi_at_call 26; refine (callsIn_wide.2 (hcl _)).mono ?_; rintro e W4 ⟨rfl, hW4⟩; have hB4 := hB.ups hW4; have ho4 := owns_ups ho3 hW4; have c0 : W4.cell? ⟨w.heap.size, 0, none⟩ = some v := hB4.cell 0 0 rfl rfl; have f0 := hB4.frozen 0 0 rfl; have HB := Lib.hid hB4; clear hB4 hB ho3)
        | (gi_at_builtin; refine wpListIn_append_own _ rfl _ _ 26 rfl w.heap.size 9 i0 (.string ByteArray.empty) 1 16 Tryz.underlying26 hi hz0 hz1 hz2 rfl (by decide) _ _ _ rfl (ho4.alloc _) ⟨W4.heap.size, 0, none⟩ 1 1 [.string p] rfl rfl ?c1 ?c2 ?c3 ?c4 ?c5 ?_))
      case c1 =>
        intro j u hj
        match j, hj with
        | 0, hj =>
          simp at hj
          subst hj
          rw [addr0]
          unfold World.cell?
          rw [World.alloc_heap_new]
          rfl
        | j + 1, hj => simp at hj
      case c2 =>
        intro u hu
        simp at hu
        subst hu
        rfl
      case c3 => unfold maxLen; omega
      case c4 => omega
      case c5 =>
        have := HB.out.bel.size
        simp
        omega
      intro v' W5 hown' hgrow _
      have hBa := HB.out.ups ((Below.refl _ W4).alloc (Nat.le_refl _) (.cells #[.string p] 9))
      have hoa := ho4.alloc (.cells #[.string p] 9)
      generalize W4.alloc (.cells #[.string p] 9) = Wa at *
      have h5 := hBa.grown hgrow (fun g e => by
        obtain ⟨hb, cur, hh⟩ := owns_other hoa e
        refine ⟨hb, fun i B o hi => ?_⟩
        rintro rfl
        have := hBa.obj i B o hi
        rw [hh] at this
        rcases i with _ | _ | _ | _ | i
        · simp at hi
          obtain ⟨_, rfl⟩ := hi
          simp at this
        · simp at hi
          obtain ⟨_, rfl⟩ := hi
          simp at this
        · simp at hi
          obtain ⟨_, rfl⟩ := hi
          simp at this
        · simp at hi
          obtain ⟨_, rfl⟩ := hi
          simp at this
        · simp at hi)
      clear hoa ho4 HB c0 f0 hgrow hBa
      have c0 : W5.cell? ⟨w.heap.size, 0, none⟩ = some v := h5.cell 0 0 rfl rfl
      have f0 := h5.frozen 0 0 rfl
      have HB := Lib.hid h5
      obtain ⟨a', c', rfl⟩ := owns_slice hown'
      have HO := Lib.hid hown'
      clear h5 hown'
      gi_wp2
      have h3 := HB.out.set 0 0 rfl (.slice a' (l.length + 1) c')
      have o3 := owns_set HO.out (B := w.heap.size) (fun cur hh => by rw [HB.out.at 0 rfl] at hh; simp at hh) (.slice a' (l.length + 1) c')
      have o4 := owns_put o3 (B := b + 1 + 1) (fun cur hh => by rw [h3.at 3 rfl] at hh; cases hh) (.loop (rec .ready none))
      have h4 := h3.put 3 rfl (.loop (rec .ready none))
      refine ⟨h3.at 3 rfl, .inl ⟨rfl, _, ?_, h4⟩⟩
      exact o4
    · have he : (c == 0) = false := by simpa using hc
      rw [if_neg hc] at hnx
      obtain rfl : l' = l := hnx
      clear hc
      refine round_law hfn HREC.out (hJ.at 3 rfl) rfl ?_
      gi_wp2
      refine ⟨hJ.at 3 rfl, ?_⟩
      have ho3 := owns_put ho (B := b + 1 + 1) (fun cur hh => by rw [hJ.at 3 rfl] at hh; cases hh) (.loop (rec .busy none))
      have hB := hJ.put 3 rfl (.loop (rec .busy none))
      simp only [List.set] at hB
      generalize World.putObj W (b + 1 + 1) (.loop (rec .busy none)) = W3 at *
      clear hJ ho
      gi_wp2_with (refine ⟨trivial, ?_⟩; gi_at_call 26; refine (callsIn_wide.2 (hcl _)).mono ?_; rintro e W4 ⟨rfl, hW4⟩)
      have hB4 := hB.ups hW4
      have ho4 := owns_ups ho3 hW4
      have o5 := owns_put ho4 (B := b + 1 + 1) (fun cur hh => by rw [hB4.at 3 rfl] at hh; cases hh) (.loop (rec .ready none))
      have h4 := hB4.put 3 rfl (.loop (rec .ready none))
      exact ⟨hB4.at 3 rfl, .inl ⟨rfl, v, o5, h4⟩⟩
  case done =>
    rintro e W ⟨hv, v, ho, hJ⟩
    refine ⟨hv, .inl ⟨hJ.at 3 rfl, ?_⟩⟩
    have ho3 := owns_put ho (B := b + 1 + 1) (fun cur hh => by rw [hJ.at 3 rfl] at hh; cases hh) (.loop (rec .exhausted none))
    have hB := hJ.put 3 rfl (.loop (rec .exhausted none))
    simp only [List.set] at hB
    generalize World.putObj W (b + 1 + 1) (.loop (rec .exhausted none)) = W3 at *
    clear hJ ho
    have c0 : W3.cell? ⟨w.heap.size, 0, none⟩ = some v := hB.cell 0 0 rfl rfl
    have HB := Lib.hid hB
    have HO := Lib.hid ho3
    clear hB ho3
    gi_wp2
    have h4 := HB.out.put 2 rfl (.deferred none)
    have o4 := owns_put HO.out (B := b + 1) (fun cur hh => by rw [HB.out.at 2 rfl] at hh; cases hh) (.deferred none)
    refine ⟨by simp, .inl ⟨_, _, rfl, run_takeDeferred (HB.out.at 2 rfl), ?_⟩⟩
    generalize World.putObj W3 _ _ = W4 at *
    exact ⟨v, by simp [results, Tryz.results12, go_sem], v, rfl, o4, h4.bel⟩

end Go.Proofs.YtmabpnkdagipfaaGreat

/- ouroborosref05's functions on pages' texts come to page's. -/
namespace Go.Proofs.YtmabpnkdagipfaaGreat
open Go.RowKit

theorem slot_at {s : ByteArray} {z k : Nat} (hk : k < s.size / z) : slotT s z (k : Int) = place s z k := by
  unfold slotT
  rw [if_pos ⟨by omega, by omega⟩, Int.toNat_natCast]
theorem place_add (s : ByteArray) (z k : Nat) : place s z k = s.extract (k * z) (k * z + z) := by
  unfold place
  rw [Nat.add_mul, Nat.one_mul]

set_option maxRecDepth 100000 in
theorem rroom_calls (s : ByteArray) (n : Int) (w : World) (hs : s.size ≤ 140737488355328) :
    Calls Tryz.prog 9 #[.string s, .int .i64 n] w fun e W' => e = .returned (.int .i64 (s.size / sizeN n : Nat)) ∧ Ups w W' := by
  have hz := (sizeN_le n).2
  have hsz := rsize_calls n
  rw [hz] at hsz
  generalize sizeN n = z at *
  clear hz
  by_cases h0 : z = 0
  · subst h0
    go_enter Tryz.func9, Tryz.ntmps9
    go_wp2_with fail
    refine (hsz _).mono ?_
    rintro e w1 ⟨rfl, rfl⟩
    go_wp2_with fail
    exact bodyPost_ret (v := .int .i64 0) (results_one rfl rfl) rfl ⟨by simp, Ups.refl _⟩
  · have hz0 : ((z : Int) == 0) = false := by simpa using h0
    have hq : wrap64 ((s.size : Int) / z) = (s.size / z : Nat) := by
      rw [Int.natCast_ediv]
      have h1 : s.size / z ≤ s.size := Nat.div_le_self _ _
      have h2 : ((s.size / z : Nat) : Int) = (s.size : Int) / z := Int.natCast_ediv _ _
      have h3 : (0 : Int) ≤ ((s.size / z : Nat) : Int) := Int.natCast_nonneg _
      have h4 : ((s.size / z : Nat) : Int) ≤ 140737488355328 := Int.ofNat_le.2 (Nat.le_trans h1 hs)
      rw [h2] at h3 h4
      generalize (s.size : Int) / z = x at *
      exact IntWalk.wrap64_in _ ⟨by omega, by omega⟩
    generalize ((s.size / z : Nat) : Int) = r at *
    go_enter Tryz.func9, Tryz.ntmps9
    go_wp2_with fail
    refine (hsz _).mono ?_
    rintro e w1 ⟨rfl, rfl⟩
    go_wp2_with fail
    rw [hq]
    exact bodyPost_ret (v := .int .i64 r) (results_one rfl rfl) rfl ⟨rfl, Ups.refl _⟩

set_option maxRecDepth 100000 in
set_option maxHeartbeats 1000000 in
theorem rslot_calls (s : ByteArray) (n i : Int) (w : World) (hs : s.size ≤ 140737488355328) :
    Calls Tryz.prog 10 #[.string s, .int .i64 n, .int .i64 i] w fun e W' => e = .returned (.string (slotT s (sizeN n) i)) ∧ Ups w W' := by
  have hrm := fun w => rroom_calls s n w hs
  have hz := (sizeN_le n).2
  have hsz := rsize_calls n
  rw [hz] at hsz
  generalize sizeN n = z at *
  clear hz
  by_cases h0 : i < 0
  · have he : slotT s z i = { data := #[] } := by unfold slotT; rw [if_neg (by omega)]
    rw [he]
    clear he
    go_enter Tryz.func10, Tryz.ntmps10
    go_wp2_with fail
    exact bodyPost_ret (v := .string { data := #[] }) (results_one rfl rfl) rfl ⟨rfl, Ups.refl _⟩
  obtain ⟨k, rfl⟩ : ∃ k : Nat, i = k := ⟨i.toNat, by omega⟩
  by_cases h1 : k < s.size / z
  · rw [slot_at h1, place_add]
    have hp := place_in h1
    rw [Nat.add_mul, Nat.one_mul] at hp
    have e1 : ((k : Int) * (z : Int)) = ((k * z : Nat) : Int) := (Int.natCast_mul _ _).symm
    generalize k * z = x at *
    generalize s.size / z = r at *
    have ht : ((x : Int) + (z : Int)).toNat = x + z := by omega
    have hlt : ¬ (r : Int) ≤ k := by omega
    have hp2 := hp.2
    clear hp
    go_enter Tryz.func10, Tryz.ntmps10
    go_wp2_with fail
    refine (hrm _).mono ?_
    rintro e w1 ⟨rfl, h1⟩
    go_wp2_with fail
    refine (hsz _).mono ?_
    rintro e w2 ⟨rfl, rfl⟩
    go_wp2_with fail
    exact bodyPost_ret (v := .string (s.extract x (x + z))) (results_one rfl rfl) rfl ⟨rfl, h1⟩
  · have he : slotT s z k = { data := #[] } := by unfold slotT; rw [if_neg (by omega)]
    rw [he]
    generalize s.size / z = r at *
    have hge : (r : Int) ≤ k := by omega
    clear he h1
    go_enter Tryz.func10, Tryz.ntmps10
    go_wp2_with fail
    refine (hrm _).mono ?_
    rintro e w1 ⟨rfl, h1⟩
    go_wp2_with fail
    exact bodyPost_ret (v := .string { data := #[] }) (results_one rfl rfl) rfl ⟨rfl, h1⟩

set_option maxRecDepth 100000 in
set_option maxHeartbeats 1000000 in
theorem rnext_calls (s : ByteArray) (n : Int) (w : World) (hs : s.size ≤ 90000) :
    Calls Tryz.prog 15 #[.string s, .int .i64 n] w fun e W' => e = .returned (.int .i64 (nextN s (sizeN n))) ∧ Ups w W' := by
  have hrm := fun w => rroom_calls s n w (by omega)
  have hsl := fun i w => rslot_calls s n i w (by omega)
  have hpsz := fun k (hk : k < s.size / sizeN n) => place_size hk
  have hroom : s.size / sizeN n ≤ s.size := Nat.div_le_self _ _
  have hz8 := (sizeN_le n).1
  unfold nextN
  generalize sizeN n = z at *
  have HZ := Lib.hid hpsz
  have HS := Lib.hid hsl
  clear hpsz hsl
  go_enter Tryz.func15, Tryz.ntmps15
  go_wp2_with fail
  go_loopw [5, 6] (fun x i wr => ∃ k : Nat, k ≤ s.size / z ∧ i = .int .i64 k ∧ x = .int .i64 (nextTo (fun k => clearT (place s z k)) k) ∧ Ups w wr) (fun _ i _ => s.size / z - (intOf i).toNat)
  case atStart => exact ⟨0, Nat.zero_le _, rfl, rfl, Ups.refl _⟩
  case round =>
    obtain ⟨k, hk, rfl, rfl, hu⟩ := hrel
    by_cases hlt : k < s.size / z
    · have hps := HZ.out k hlt
      have hsl := HS.out k
      rw [slot_at hlt] at hsl
      have hcl := fun w => rclear_calls (place s z k) w (by omega)
      have hnx : nextTo (fun k => clearT (place s z k)) (k + 1) = if clearT (place s z k) then nextTo (fun k => clearT (place s z k)) k else k + 1 := rfl
      generalize hv' : nextTo (fun k => clearT (place s z k)) (k + 1) = v' at *
      generalize nextTo (fun k => clearT (place s z k)) k = v at *
      generalize place s z k = t at *
      have HV := Lib.hid hv'
      generalize s.size / z = r at *
      clear hv'
      cases hc : clearT t with
      | true =>
        rw [hc] at hcl hnx
        obtain rfl : v' = v := by simpa using hnx
        clear hc hnx
        go_wp2_with fail
        refine (hrm _).mono ?_
        rintro e w1 ⟨rfl, h1⟩
        go_wp2_with fail
        refine (hsl _).mono ?_
        rintro e w2 ⟨rfl, h2⟩
        go_wp2_with fail
        refine (hcl _).mono ?_
        rintro e w3 ⟨rfl, h3⟩
        go_wp2_with fail
        refine ⟨⟨k + 1, by omega, by go_num, by rw [HV.out], Ups.trans hu (Ups.trans h1 (Ups.trans h2 h3))⟩, ?_⟩
        simp [intOf]; omega
      | false =>
        rw [hc] at hcl hnx
        obtain rfl : v' = k + 1 := by simpa using hnx
        clear hc hnx
        go_wp2_with fail
        refine (hrm _).mono ?_
        rintro e w1 ⟨rfl, h1⟩
        go_wp2_with fail
        refine (hsl _).mono ?_
        rintro e w2 ⟨rfl, h2⟩
        go_wp2_with fail
        refine (hcl _).mono ?_
        rintro e w3 ⟨rfl, h3⟩
        go_wp2_with fail
        refine ⟨⟨k + 1, by omega, by go_num, by rw [HV.out]; go_num, Ups.trans hu (Ups.trans h1 (Ups.trans h2 h3))⟩, ?_⟩
        simp [intOf]; omega
    · obtain rfl : k = s.size / z := by omega
      go_wp2_with fail
      refine (hrm _).mono ?_
      rintro e w1 ⟨rfl, h1⟩
      go_wp2_with fail
      exact bodyPost_ret (v := .int .i64 (nextTo (fun k => clearT (place s z k)) (s.size / z))) (results_one rfl rfl) rfl ⟨rfl, Ups.trans hu h1⟩

set_option maxRecDepth 100000 in
set_option maxHeartbeats 1000000 in
theorem rbad_calls (s : ByteArray) (n : Int) (w : World) (hs : s.size ≤ 90000) :
    Calls Tryz.prog 14 #[.string s, .int .i64 n] w fun e W' => e = .returned (.int .i64 (badN s (sizeN n))) ∧ Ups w W' := by
  have hrm := fun w => rroom_calls s n w (by omega)
  have hsl := fun i w => rslot_calls s n i w (by omega)
  have hpsz := fun k (hk : k < s.size / sizeN n) => place_size hk
  have hroom : s.size / sizeN n ≤ s.size := Nat.div_le_self _ _
  have hz8 := (sizeN_le n).1
  unfold badN
  generalize sizeN n = z at *
  have HZ := Lib.hid hpsz
  have HS := Lib.hid hsl
  clear hpsz hsl
  go_enter Tryz.func14, Tryz.ntmps14
  go_wp2_with fail
  go_loopw [5, 6] (fun x i wr => ∃ k : Nat, k ≤ s.size / z ∧ i = .int .i64 k ∧ x = .int .i64 (countTo (fun k => badT (place s z k)) k) ∧ Ups w wr) (fun _ i _ => s.size / z - (intOf i).toNat)
  case atStart => exact ⟨0, Nat.zero_le _, rfl, rfl, Ups.refl _⟩
  case round =>
    obtain ⟨k, hk, rfl, rfl, hu⟩ := hrel
    by_cases hlt : k < s.size / z
    · have hps := HZ.out k hlt
      have hsl := HS.out k
      rw [slot_at hlt] at hsl
      have hcl := fun w => rclear_calls (place s z k) w (by omega)
      have hrd := fun w => rread_calls (place s z k) w (by omega)
      have hvk := countTo_le (fun k => badT (place s z k)) k
      have hnx : countTo (fun k => badT (place s z k)) (k + 1) = if badT (place s z k) then countTo (fun k => badT (place s z k)) k + 1 else countTo (fun k => badT (place s z k)) k := rfl
      have hbt : badT (place s z k) = (!((rreadT (place s z k)).2 == 0) && !clearT (place s z k)) := rfl
      generalize hv' : countTo (fun k => badT (place s z k)) (k + 1) = v' at *
      generalize countTo (fun k => badT (place s z k)) k = v at *
      generalize place s z k = t at *
      have HV := Lib.hid hv'
      generalize s.size / z = r at *
      generalize badT t = bt at *
      generalize clearT t = ct at *
      generalize (rreadT t).1 = p at *
      generalize (rreadT t).2 = c at *
      clear hv'
      by_cases hc : c = 0
      · subst hc
        obtain rfl : bt = false := by simpa using hbt
        obtain rfl : v' = v := by simpa using hnx
        clear hbt hnx hcl
        go_wp2_with fail
        refine (hrm _).mono ?_
        rintro e w1 ⟨rfl, h1⟩
        go_wp2_with fail
        refine (hsl _).mono ?_
        rintro e w2 ⟨rfl, h2⟩
        go_wp2_with fail
        refine (hrd _).mono ?_
        rintro e w3 ⟨rfl, h3⟩
        go_wp2_with fail
        refine ⟨⟨k + 1, by omega, by go_num, by rw [HV.out], Ups.trans hu (Ups.trans h1 (Ups.trans h2 h3))⟩, ?_⟩
        simp [intOf]; omega
      · have hne : (c != 0) = true := by simpa using hc
        have hk' : (c == 0) = false := by simpa using hc
        obtain rfl : bt = !ct := by rw [hbt, hk']; rfl
        clear hbt hc hk'
        cases ct with
        | true =>
          obtain rfl : v' = v := by simpa using hnx
          clear hnx
          go_wp2_with fail
          refine (hrm _).mono ?_
          rintro e w1 ⟨rfl, h1⟩
          go_wp2_with fail
          refine (hsl _).mono ?_
          rintro e w2 ⟨rfl, h2⟩
          go_wp2_with fail
          refine (hrd _).mono ?_
          rintro e w3 ⟨rfl, h3⟩
          go_wp2_with fail
          refine (hcl _).mono ?_
          rintro e w4 ⟨rfl, h4⟩
          go_wp2_with fail
          refine ⟨⟨k + 1, by omega, by go_num, by rw [HV.out], Ups.trans hu (Ups.trans h1 (Ups.trans h2 (Ups.trans h3 h4)))⟩, ?_⟩
          simp [intOf]; omega
        | false =>
          obtain rfl : v' = v + 1 := by simpa using hnx
          clear hnx
          go_wp2_with fail
          refine (hrm _).mono ?_
          rintro e w1 ⟨rfl, h1⟩
          go_wp2_with fail
          refine (hsl _).mono ?_
          rintro e w2 ⟨rfl, h2⟩
          go_wp2_with fail
          refine (hrd _).mono ?_
          rintro e w3 ⟨rfl, h3⟩
          go_wp2_with fail
          refine (hcl _).mono ?_
          rintro e w4 ⟨rfl, h4⟩
          go_wp2_with fail
          refine ⟨⟨k + 1, by omega, by go_num, by rw [HV.out]; go_num, Ups.trans hu (Ups.trans h1 (Ups.trans h2 (Ups.trans h3 h4)))⟩, ?_⟩
          simp [intOf]; omega
    · obtain rfl : k = s.size / z := by omega
      go_wp2_with fail
      refine (hrm _).mono ?_
      rintro e w1 ⟨rfl, h1⟩
      go_wp2_with fail
      exact bodyPost_ret (v := .int .i64 (countTo (fun k => badT (place s z k)) (s.size / z))) (results_one rfl rfl) rfl ⟨rfl, Ups.trans hu h1⟩

set_option maxRecDepth 100000 in
set_option maxHeartbeats 2000000 in
theorem rrecords_calls (s : ByteArray) (n : Int) (w : World) (hs : s.size ≤ 90000) :
    Calls Tryz.prog 13 #[.string s, .int .i64 n] w fun e W' => ∃ v, e = .returned v ∧ W'.ownsRow w.heap.size 9 1 v (recsN s (sizeN n)).length ((recsN s (sizeN n)).map Value.string) ∧ Ups w W' := by
  obtain ⟨i0, hi, hz0, hz1, hz2⟩ := info_parts infoS
  have hrm := fun w => rroom_calls s n w (by omega)
  have hsl := fun i w => rslot_calls s n i w (by omega)
  have hpsz := fun k (hk : k < s.size / sizeN n) => place_size hk
  have hroom : s.size / sizeN n ≤ s.size := Nat.div_le_self _ _
  have hz8 := (sizeN_le n).1
  unfold recsN
  generalize sizeN n = z at *
  have HZ := Lib.hid hpsz
  have HS := Lib.hid hsl
  clear hpsz hsl
  go_enter Tryz.func13, Tryz.ntmps13
  go_wp2_with fail
  go_loopw [5, 6] (fun x i wr => ∃ k : Nat, k ≤ s.size / z ∧ i = .int .i64 k ∧ wr.ownsRow w.heap.size 9 1 x (recsTo (fun k => rreadT (place s z k)) k).length ((recsTo (fun k => rreadT (place s z k)) k).map Value.string) ∧ Ups w wr) (fun _ i _ => s.size / z - (intOf i).toNat)
  case atStart => exact ⟨0, Nat.zero_le _, rfl, World.ownsRow_nil _ _ _ _, Ups.refl _⟩
  case round =>

    obtain ⟨k, hk, rfl, ho, hu⟩ := hrel
    by_cases hlt : k < s.size / z
    · have hps := HZ.out k hlt
      have hsl := HS.out k
      rw [slot_at hlt] at hsl
      have hrd := fun w => rread_calls (place s z k) w (by omega)
      have hvk := recsTo_le (fun k => rreadT (place s z k)) k
      have hnx : recsTo (fun k => rreadT (place s z k)) (k + 1) = if (rreadT (place s z k)).2 = 0 then recsTo (fun k => rreadT (place s z k)) k ++ [(rreadT (place s z k)).1] else recsTo (fun k => rreadT (place s z k)) k := rfl
      generalize hv' : recsTo (fun k => rreadT (place s z k)) (k + 1) = l' at *
      generalize recsTo (fun k => rreadT (place s z k)) k = l at *
      generalize place s z k = t at *
      have HV := Lib.hid hv'
      generalize s.size / z = r at *
      generalize (rreadT t).1 = p at *
      generalize (rreadT t).2 = c at *
      clear hv'
      by_cases hc : c = 0
      · subst hc
        obtain rfl : l' = l ++ [p] := by simpa using hnx
        clear hnx
        go_wp2_with fail
        refine (hrm _).mono ?_
        rintro e w1 ⟨rfl, h1⟩
        go_wp2_with fail
        refine (hsl _).mono ?_
        rintro e w2 ⟨rfl, h2⟩
        go_wp2_with fail
        refine (hrd _).mono ?_
        rintro e w3 ⟨rfl, h3⟩
        have ho3 := owns_ups ho (Ups.trans h1 (Ups.trans h2 h3))
        have hu3 := Ups.trans hu (Ups.trans h1 (Ups.trans h2 h3))
        clear ho
        go_wp2_with (at_builtin; refine wpList_append_own _ rfl _ _ 26 rfl w.heap.size 9 i0 (.string ByteArray.empty) 1 16 Tryz.underlying26 hi hz0 hz1 hz2 rfl (by decide) _ _ _ rfl (ho3.alloc _) ⟨w3.heap.size, 0, none⟩ 1 1 [.string p] rfl rfl ?c1 ?c2 ?c3 ?c4 ?c5 ?_)
        case c1 =>
          intro j u hj
          match j, hj with
          | 0, hj =>
            simp at hj
            subst hj
            rw [addr0]
            unfold World.cell?
            rw [World.alloc_heap_new]
            rfl
          | j + 1, hj => simp at hj
        case c2 =>
          intro u hu
          simp at hu
          subst hu
          rfl
        case c3 => unfold maxLen; omega
        case c4 => omega
        case c5 =>
          have := hu3.size
          simp
          omega
        intro v' w5 hown' hgrow _
        have ha := Below.alloc hu3 hu3.size (.cells #[.string p] 9)
        have hoa := ho3.alloc (.cells #[.string p] 9)
        have h5 : Ups w w5 := ha.grown hgrow ha.size (fun g e => (owns_other hoa e).1)
        clear hoa ho3 hgrow ha
        have HO := Lib.hid hown'
        clear hown'
        go_wp2_with fail
        refine ⟨⟨k + 1, by omega, by go_num, ?_, h5⟩, ?_⟩
        · rw [HV.out, List.length_append, List.map_append]
          exact HO.out
        · simp [intOf]; omega
      · have he : (c == 0) = false := by simpa using hc
        rw [if_neg hc] at hnx
        obtain rfl : l' = l := hnx
        clear hc
        go_wp2_with fail
        refine (hrm _).mono ?_
        rintro e w1 ⟨rfl, h1⟩
        go_wp2_with fail
        refine (hsl _).mono ?_
        rintro e w2 ⟨rfl, h2⟩
        go_wp2_with fail
        refine (hrd _).mono ?_
        rintro e w3 ⟨rfl, h3⟩
        go_wp2_with fail
        refine ⟨⟨k + 1, by omega, by go_num, ?_, Ups.trans hu (Ups.trans h1 (Ups.trans h2 h3))⟩, ?_⟩
        · rw [HV.out]
          exact owns_ups ho (Ups.trans h1 (Ups.trans h2 h3))
        · simp [intOf]; omega
    · obtain rfl : k = s.size / z := by omega
      have HO := Lib.hid ho
      clear ho
      go_wp2_with fail
      refine (hrm _).mono ?_
      rintro e w1 ⟨rfl, h1⟩
      go_wp2_with fail
      exact bodyPost_ret (results_one rfl rfl) rfl ⟨_, rfl, owns_ups HO.out h1, Ups.trans hu h1⟩

end Go.Proofs.YtmabpnkdagipfaaGreat
