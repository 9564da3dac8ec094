/- Texts of this proof, one behind the other: PageRec. -/
import Derived.OwnWalkIn
import Derived.OneCell
import Derived.Test.YtmabpnkdagipfaaJ19
import Derived.Test.YtmabpnkdagipfaaJ20

/- page.Records. -/
namespace Go.Proofs.Ytmabpnkdagipfaa
open Go.RowKit
attribute [local go_sem] Oper.semAt_some

/-- What is read of the first k. -/
def recsTo (f : Nat → ByteArray × Int) : Nat → List ByteArray
  | 0 => []
  | k + 1 => if (f k).2 = 0 then recsTo f k ++ [(f k).1] else recsTo f k
theorem recsTo_le (f : Nat → ByteArray × Int) : ∀ k, (recsTo f k).length ≤ k
  | 0 => Nat.le_refl _
  | k + 1 => by
    have := recsTo_le f k
    unfold recsTo
    split
    · simp; omega
    · omega
def recsN (s : ByteArray) (z : Nat) : List ByteArray := recsTo (fun k => rreadT (place s z k)) (s.size / z)

theorem infoS : (Try.prog.info? 9).map (fun i => (i.zero, i.size, i.bytes)) = some (some (.string ByteArray.empty), 1, 16) := by kernel_rfl
theorem Blks.grown {w W W' : World} {os : List (Nat × Obj)} {row : Option Nat} (h : Blks w os W) (hg : W.grownBy W' row) (hne : ∀ g, row = some g → w.heap.size ≤ g ∧ ∀ (i B : Nat) (o : Obj), os[i]? = some (B, o) → B ≠ g) : Blks w os W' :=
  ⟨h.bel.grown hg h.bel.size fun g e => (hne g e).1, fun i B o hi => (hg.block B (h.lt i hi) (fun e => by obtain ⟨_, h2⟩ := hne B e.symm; exact h2 i B o hi rfl)).trans (h.obj i B o hi), h.nd, h.ge⟩
/-- An owned row lies in none of the blocks: its block is of another type. -/
theorem owns_other {W : World} {base e n : Nat} {v : Value} {xs : List Value} {g : Nat} (h : W.ownsRow base e 1 v n xs) (hg : v.ownBlock = some g) : base ≤ g ∧ ∃ cur, W.heap[g]? = some (.cells cur e (0, 0)) := by
  obtain ⟨_, ⟨rfl, _⟩ | ⟨g', cap, cur, rfl, hb, hh, _⟩⟩ := h
  · simp [Value.ownBlock] at hg
  · simp only [Value.ownBlock, Option.some.injEq] at hg
    subst hg
    exact ⟨hb, cur, hh⟩

theorem owns_slice {W : World} {base e n : Nat} {v : Value} {xs : List Value} (h : W.ownsRow base e 1 v n xs) : ∃ a c, v = .slice a n c := by
  obtain ⟨_, ⟨rfl, rfl⟩ | ⟨g, cap, cur, rfl, _⟩⟩ := h
  · exact ⟨_, _, rfl⟩
  · exact ⟨_, _, rfl⟩
theorem owns_ups {W W' : World} {base e n : Nat} {v : Value} {xs : List Value} (h : W.ownsRow base e 1 v n xs) (hu : Ups W W') : W'.ownsRow base e 1 v n xs := by
  obtain ⟨h1, h2⟩ := h
  refine ⟨h1, ?_⟩
  rcases h2 with h2 | ⟨g, cap, cur, rfl, hb, hh, r⟩
  · exact .inl h2
  · exact .inr ⟨g, cap, cur, rfl, hb, (hu.block g (Array.getElem?_eq_some_iff.1 hh).1).trans hh, r⟩
theorem owns_put {W : World} {base e n B : Nat} {v : Value} {xs : List Value} (h : W.ownsRow base e 1 v n xs) (hne : ∀ cur, W.heap[B]? ≠ some (.cells cur e (0, 0))) (o : Obj) : (W.putObj B o).ownsRow base e 1 v n xs := by
  obtain ⟨h1, h2⟩ := h
  refine ⟨h1, ?_⟩
  rcases h2 with h2 | ⟨g, cap, cur, rfl, hb, hh, r⟩
  · exact .inl h2
  · refine .inr ⟨g, cap, cur, rfl, hb, (World.putObj_heap_other ?_).trans hh, r⟩
    rintro rfl
    exact hne cur hh
theorem owns_set {W : World} {base e n B : Nat} {v : Value} {xs : List Value} (h : W.ownsRow base e 1 v n xs) (hne : ∀ cur, W.heap[B]? ≠ some (.cells cur e (0, 0))) (u : Value) : (W.setCell ⟨B, 0, none⟩ u).ownsRow base e 1 v n xs := by
  refine ownsRow_setCell_other h ?_ u
  intro hg
  obtain ⟨_, cur, hh⟩ := owns_other h hg
  exact hne cur hh

set_option maxRecDepth 100000 in
set_option maxHeartbeats 2000000 in
theorem records_calls (s : ByteArray) (n : Int) (w : World) (hs : s.size ≤ 90000) :
    Calls Try.prog 11 #[.string s, .int .i64 n] w fun e W' => ∃ v, e = .returned v ∧ W'.ownsRow w.heap.size 9 1 v (recsN s (sizeN n)).length ((recsN s (sizeN n)).map Value.string) ∧ Ups w W' := by
  obtain ⟨i0, hi, hz0, hz1, hz2⟩ := info_parts infoS
  have hof := fun w => of_calls s n w
  have hpsz := fun k (hk : k < s.size / sizeN n) => place_size hk
  have hroom : s.size / sizeN n ≤ s.size := Nat.div_le_self _ _
  have hz8 := (sizeN_le n).1
  unfold recsN
  generalize sizeN n = z at *
  have HZ := Lib.hid hpsz
  clear hpsz
  refine (callsIn_wide (n := 9)).1 ?_
  refine callsIn_of_wp_marks Try.func11 rfl trivial ?_ rfl
  simp only [Try.ntmps11, List.size_toArray, List.length_cons, List.length_nil, Nat.reduceAdd, Nat.reduceSub, Array.replicate_succ, Array.replicate_zero, List.push_toArray, List.append_toArray, List.nil_append, List.cons_append]
  gi_wp2_with (refine ⟨trivial, ?_⟩; gi_at_call 16; refine (callsIn_wide.2 (hof _)).mono ?_; rintro e W1 ⟨rfl, hW1⟩)
  gi_wp2_with (refine ⟨trivial, ?_⟩; gi_at_call 18; refine (callsIn_wide.2 (peach_calls s z _)).mono ?_; rintro e W2 ⟨rfl, hW2⟩; have HW := Lib.hid hW2; clear hW2)
  have hb1 : w.heap.size < W1.heap.size := Nat.lt_of_lt_of_le (by simp) hW1.size
  refine range_law rfl (by decide) (gf := 29) (lb := _) rfl trivial (enters_of Try.func29 (by kernel_rfl) rfl) ?_
  intro fn rec hfn hrec
  have h2 := (((Blks.start w).alloc (.cells #[.slice none 0 0] 27) rfl).ups hW1).alloc (.cells #[.string s, .int .i64 z] 40) rfl
  have hsz := alloc_size W1 (.cells #[.string s, .int .i64 z] 40)
  rw [HW.out] at h2 hsz
  have h4 := (h2.alloc (.deferred (some [])) rfl).alloc (.loop (rec .ready none)) (B := W2.heap.size + 1) (by simp)
  simp only [List.nil_append, List.cons_append] at h4
  have HREC := Lib.hid hrec
  clear hrec HW h2 hW1
  rw [hsz] at h4 HREC ⊢
  generalize W1.heap.size = b at *
  refine (peach_in (b + 1 + 1) b s z (by omega)
    (fun k W => ∃ v, W.ownsRow w.heap.size 9 1 v (recsTo (fun k => rreadT (place s z k)) k).length ((recsTo (fun k => rreadT (place s z k)) k).map Value.string) ∧ Blks w [(w.heap.size, .cells #[v] 27), (b, .cells #[.string s, .int .i64 z] 40), (b + 1, .deferred (some [])), (b + 1 + 1, .loop (rec .ready none))] W)
    (fun W => ∃ v, W.ownsRow w.heap.size 9 1 v (recsTo (fun k => rreadT (place s z k)) (s.size / z)).length ((recsTo (fun k => rreadT (place s z k)) (s.size / z)).map Value.string) ∧ Blks w [(w.heap.size, .cells #[v] 27), (b, .cells #[.string s, .int .i64 z] 40), (b + 1, .deferred (some [])), (b + 1 + 1, .loop (rec .ready none))] W)
    ?cell ?ups ?round ?last _ ⟨_, World.ownsRow_nil _ _ _ _, h4⟩).mono ?done
  case cell =>
    rintro k W ⟨v, _, h⟩
    exact h.at 1 rfl
  case ups =>
    rintro k W W' ⟨v, ho, h⟩ hu
    exact ⟨v, owns_ups ho hu, h.ups hu⟩
  case last => exact fun W h => h
  case round =>
    rintro k W hk ⟨v, ho, hJ⟩
    have hps := HZ.out k hk
    have hcl := fun w => read_c (place s z k) w (by omega)
    have hvk := recsTo_le (fun k => rreadT (place s z k)) k
    have hnx : recsTo (fun k => rreadT (place s z k)) (k + 1) = if (rreadT (place s z k)).2 = 0 then recsTo (fun k => rreadT (place s z k)) k ++ [(rreadT (place s z k)).1] else recsTo (fun k => rreadT (place s z k)) k := rfl
    generalize recsTo (fun k => rreadT (place s z k)) (k + 1) = l' at *
    generalize recsTo (fun k => rreadT (place s z k)) k = l at *
    generalize place s z k = t at *
    generalize (rreadT t).1 = p at *
    generalize (rreadT t).2 = c at *
    by_cases hc : c = 0
    · subst hc
      obtain rfl : l' = l ++ [p] := by simpa using hnx
      clear hnx
      refine round_law hfn HREC.out (hJ.at 3 rfl) rfl ?_
      gi_wp2
      refine ⟨hJ.at 3 rfl, ?_⟩
      have ho3 := owns_put ho (B := b + 1 + 1) (fun cur hh => by rw [hJ.at 3 rfl] at hh; cases hh) (.loop (rec .busy none))
      have hB := hJ.put 3 rfl (.loop (rec .busy none))
      simp only [List.set] at hB
      generalize World.putObj W (b + 1 + 1) (.loop (rec .busy none)) = W3 at *
      clear hJ ho
      gi_wp2_with (first
        | (refine ⟨trivial, ?_⟩; gi_at_call 22; refine (callsIn_wide.2 (hcl _)).mono ?_; rintro e W4 ⟨rfl, hW4⟩; have hB4 := hB.ups hW4; have ho4 := owns_ups ho3 hW4; have c0 : W4.cell? ⟨w.heap.size, 0, none⟩ = some v := hB4.cell 0 0 rfl rfl; have f0 := hB4.frozen 0 0 rfl; have HB := Lib.hid hB4; clear hB4 hB ho3)
        | (gi_at_builtin; refine wpListIn_append_own _ rfl _ _ 27 rfl w.heap.size 9 i0 (.string ByteArray.empty) 1 16 Try.underlying27 hi hz0 hz1 hz2 rfl (by decide) _ _ _ rfl (ho4.alloc _) ⟨W4.heap.size, 0, none⟩ 1 1 [.string p] rfl rfl ?c1 ?c2 ?c3 ?c4 ?c5 ?_))
      case c1 =>
        intro j u hj
        match j, hj with
        | 0, hj =>
          simp at hj
          subst hj
          rw [addr0]
          unfold World.cell?
          rw [World.alloc_heap_new]
          rfl
        | j + 1, hj => simp at hj
      case c2 =>
        intro u hu
        simp at hu
        subst hu
        rfl
      case c3 => unfold maxLen; omega
      case c4 => omega
      case c5 =>
        have := HB.out.bel.size
        simp
        omega
      intro v' W5 hown' hgrow _
      have hBa := HB.out.ups ((Below.refl _ W4).alloc (Nat.le_refl _) (.cells #[.string p] 9))
      have hoa := ho4.alloc (.cells #[.string p] 9)
      generalize W4.alloc (.cells #[.string p] 9) = Wa at *
      have h5 := hBa.grown hgrow (fun g e => by
        obtain ⟨hb, cur, hh⟩ := owns_other hoa e
        refine ⟨hb, fun i B o hi => ?_⟩
        rintro rfl
        have := hBa.obj i B o hi
        rw [hh] at this
        rcases i with _ | _ | _ | _ | i
        · simp at hi
          obtain ⟨_, rfl⟩ := hi
          simp at this
        · simp at hi
          obtain ⟨_, rfl⟩ := hi
          simp at this
        · simp at hi
          obtain ⟨_, rfl⟩ := hi
          simp at this
        · simp at hi
          obtain ⟨_, rfl⟩ := hi
          simp at this
        · simp at hi)
      clear hoa ho4 HB c0 f0 hgrow hBa
      have c0 : W5.cell? ⟨w.heap.size, 0, none⟩ = some v := h5.cell 0 0 rfl rfl
      have f0 := h5.frozen 0 0 rfl
      have HB := Lib.hid h5
      obtain ⟨a', c', rfl⟩ := owns_slice hown'
      have HO := Lib.hid hown'
      clear h5 hown'
      gi_wp2
      have h3 := HB.out.set 0 0 rfl (.slice a' (l.length + 1) c')
      have o3 := owns_set HO.out (B := w.heap.size) (fun cur hh => by rw [HB.out.at 0 rfl] at hh; simp at hh) (.slice a' (l.length + 1) c')
      have o4 := owns_put o3 (B := b + 1 + 1) (fun cur hh => by rw [h3.at 3 rfl] at hh; cases hh) (.loop (rec .ready none))
      have h4 := h3.put 3 rfl (.loop (rec .ready none))
      refine ⟨h3.at 3 rfl, .inl ⟨rfl, _, ?_, h4⟩⟩
      exact o4
    · have he : (c == 0) = false := by simpa using hc
      rw [if_neg hc] at hnx
      obtain rfl : l' = l := hnx
      clear hc
      refine round_law hfn HREC.out (hJ.at 3 rfl) rfl ?_
      gi_wp2
      refine ⟨hJ.at 3 rfl, ?_⟩
      have ho3 := owns_put ho (B := b + 1 + 1) (fun cur hh => by rw [hJ.at 3 rfl] at hh; cases hh) (.loop (rec .busy none))
      have hB := hJ.put 3 rfl (.loop (rec .busy none))
      simp only [List.set] at hB
      generalize World.putObj W (b + 1 + 1) (.loop (rec .busy none)) = W3 at *
      clear hJ ho
      gi_wp2_with (refine ⟨trivial, ?_⟩; gi_at_call 22; refine (callsIn_wide.2 (hcl _)).mono ?_; rintro e W4 ⟨rfl, hW4⟩)
      have hB4 := hB.ups hW4
      have ho4 := owns_ups ho3 hW4
      have o5 := owns_put ho4 (B := b + 1 + 1) (fun cur hh => by rw [hB4.at 3 rfl] at hh; cases hh) (.loop (rec .ready none))
      have h4 := hB4.put 3 rfl (.loop (rec .ready none))
      exact ⟨hB4.at 3 rfl, .inl ⟨rfl, v, o5, h4⟩⟩
  case done =>
    rintro e W ⟨hv, v, ho, hJ⟩
    refine ⟨hv, .inl ⟨hJ.at 3 rfl, ?_⟩⟩
    have ho3 := owns_put ho (B := b + 1 + 1) (fun cur hh => by rw [hJ.at 3 rfl] at hh; cases hh) (.loop (rec .exhausted none))
    have hB := hJ.put 3 rfl (.loop (rec .exhausted none))
    simp only [List.set] at hB
    generalize World.putObj W (b + 1 + 1) (.loop (rec .exhausted none)) = W3 at *
    clear hJ ho
    have c0 : W3.cell? ⟨w.heap.size, 0, none⟩ = some v := hB.cell 0 0 rfl rfl
    have HB := Lib.hid hB
    have HO := Lib.hid ho3
    clear hB ho3
    gi_wp2
    have h4 := HB.out.put 2 rfl (.deferred none)
    have o4 := owns_put HO.out (B := b + 1) (fun cur hh => by rw [HB.out.at 2 rfl] at hh; cases hh) (.deferred none)
    refine ⟨by simp, .inl ⟨_, _, rfl, run_takeDeferred (HB.out.at 2 rfl), ?_⟩⟩
    generalize World.putObj W3 _ _ = W4 at *
    exact ⟨v, by simp [results, Try.results11, go_sem], v, rfl, o4, h4.bel⟩

end Go.Proofs.Ytmabpnkdagipfaa
