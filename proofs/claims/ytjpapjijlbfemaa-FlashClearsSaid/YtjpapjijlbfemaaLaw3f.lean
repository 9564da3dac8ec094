/- FlashFuse, plain: what the loop keeps. -/
import Derived.Test.YtjpapjijlbfemaaLaw3p
namespace Go.Proofs.Ytjpapjijlbfemaa

/-- A device behind i erases of one page, of which the fuse lets n be. -/
structure Fused (f : Fl) (page n i : Nat) (S : Fl) : Prop where
  check : checkB S = true
  pages : S.pages.length = f.pages.length
  wear : S.wear.length = f.wear.length
  fit : FlFit S
  lives : i ≤ n → S.dead = false ∧ S.fuse = (n : Int) - i
  dies : n < i → S.dead = true
  worn : S.wear.getD page 0 = min (f.wear.getD page 0 + min n i) 2147483647

theorem wear_in {f : Fl} (hc : checkB f = true) {n : Nat} (h : n < f.pages.length) : 0 ≤ f.wear.getD n 0 ∧ f.wear.getD n 0 ≤ 2147483647 := by
  have hw : n < f.wear.length := by rw [(check_facts hc).2.2.1]; exact h
  refine (check_facts hc).2.2.2.2.1 _ ?_
  rw [List.getD_eq_getElem?_getD, List.getElem?_eq_getElem hw]
  exact List.getElem_mem _
theorem getD_set_same {α : Type} (l : List α) (n : Nat) (x d : α) (h : n < l.length) : (l.set n x).getD n d = x := by
  simp [List.getD_eq_getElem?_getD, h]
theorem mem_set_in {l : List Int} {n : Nat} {x : Int} (hl : ∀ z ∈ l, 0 ≤ z ∧ z ≤ 2147483647) (hx : 0 ≤ x ∧ x ≤ 2147483647) : ∀ z ∈ l.set n x, 0 ≤ z ∧ z ≤ 2147483647 := by
  intro z hz
  rcases List.mem_or_eq_of_mem_set hz with h | rfl
  · exact hl z h
  · exact hx

theorem fused_start {f W : Fl} {n page : Nat} (hf : FlFit f) (h : wakeF f n ⟨#[]⟩ = (W, 0)) (hn : n ≤ 1000) (hp : page < f.pages.length) : Fused f page n 0 W := by
  rcases wake_facts h with ⟨h0, _⟩ | ⟨_, hc, _, rfl, hW⟩
  · simp at h0
  · have hw := wear_in hc hp
    refine ⟨hW, rfl, rfl, ⟨hf.1, hf.2.1, by simp only; omega, by simp only; omega⟩, fun _ => ⟨rfl, by simp⟩, fun h => by omega, ?_⟩
    simp only
    omega

theorem fused_step {f S X : Fl} {page n i : Nat} {g : Int} (hp : page < f.pages.length) (h : Fused f page n i S) (hX : eraseF S page = (X, g)) :
    (g = if i < n then 0 else 8) ∧ X.dead = decide (n ≤ i) ∧ (n < i → X = S) ∧ Fused f page n (i + 1) X := by
  have hpS : page < S.pages.length := by rw [h.pages]; exact hp
  have hb := hasB_of h.check hpS
  have ho := old_size h.check hpS
  have hz := wear_in h.check hpS
  obtain ⟨c1, c2, c3, c4, c5, c6⟩ := check_facts h.check
  have hwl : page < S.wear.length := by rw [c3]; exact hpS
  have hw := h.worn
  unfold eraseF at hX
  rw [if_pos hb] at hX
  simp only [Int.toNat_natCast] at hX
  rcases Nat.lt_trichotomy i n with hi | hi | hi
  · obtain ⟨hd, hfu⟩ := h.lives (by omega)
    have e : stepF S page (onesT (oldT S page).size) (orT (oldT S page) (maskOf S)) = ({ S with pages := S.pages.set page (onesT (oldT S page).size), fuse := S.fuse - 1 }, 0) := by
      unfold stepF
      rw [hd, if_neg (by simp), if_neg (by omega), if_pos (by omega)]
    rw [e] at hX
    simp only [if_true, Prod.mk.injEq] at hX
    obtain ⟨rfl, rfl⟩ := hX
    refine ⟨by rw [if_pos hi], by simp only [hd]; symm; exact decide_eq_false (by omega), fun hh => by omega, ?_⟩
    refine ⟨checkB_set h.check hpS (by rw [onesT_size]; exact ho.2.2) rfl (by simp) (mem_set_in c5 (by omega)) c4, by simp [h.pages], by simp [h.wear], ?_, fun _ => ⟨hd, ?_⟩, fun hh => by omega, ?_⟩
    · exact ⟨by simpa using h.fit.1, by simpa using h.fit.2.1, by have := h.fit.2.2.1; simp only; omega, by have := h.fit.2.2.2; simp only; omega⟩
    · simp only
      omega
    · simp only
      rw [getD_set_same _ _ _ _ hwl]
      omega
  · subst hi
    obtain ⟨hd, hfu⟩ := h.lives (Nat.le_refl _)
    have e : stepF S page (onesT (oldT S page).size) (orT (oldT S page) (maskOf S)) = ({ S with pages := S.pages.set page (orT (oldT S page) (maskOf S)), dead := true }, 8) := by
      unfold stepF
      rw [hd, if_neg (by simp), if_pos (by omega)]
    rw [e] at hX
    simp only [show ¬ (8 : Int) = 0 by decide, if_false, Prod.mk.injEq] at hX
    obtain ⟨rfl, rfl⟩ := hX
    refine ⟨by rw [if_neg (by omega)], by simp, fun hh => by omega, ?_⟩
    refine ⟨checkB_set h.check hpS (by rw [orT_size]; exact ho.2.2) rfl rfl c5 c4, by simp [h.pages], h.wear, ?_, fun hh => by omega, fun _ => rfl, ?_⟩
    · exact ⟨by simpa using h.fit.1, h.fit.2.1, h.fit.2.2.1, h.fit.2.2.2⟩
    · simp only
      omega
  · have hd := h.dies hi
    have e : stepF S page (onesT (oldT S page).size) (orT (oldT S page) (maskOf S)) = (S, 8) := by
      unfold stepF
      rw [hd, if_pos rfl]
    rw [e] at hX
    simp only [show ¬ (8 : Int) = 0 by decide, if_false, Prod.mk.injEq] at hX
    obtain ⟨rfl, rfl⟩ := hX
    refine ⟨by rw [if_neg (by omega)], by rw [hd]; symm; exact decide_eq_true (by omega), fun _ => rfl, ?_⟩
    exact ⟨h.check, h.pages, h.wear, h.fit, fun hh => by omega, fun _ => hd, by omega⟩

end Go.Proofs.Ytjpapjijlbfemaa
