/- FlashBetween, plain. -/
import Derived.Test.YtjpapjijlbfemaaLaw3f
namespace Go.Proofs.Ytjpapjijlbfemaa

structure Torn (f A B C D : Fl) (n : Nat) (h i j k : Int) : Prop where
  dies : j = 8
  lives : k = 0
  cdead : C.dead = true
  ddead : D.dead = false
  cpages : C.pages.length = f.pages.length
  dpages : D.pages.length = f.pages.length
  dwear : D.wear.length = f.wear.length
  worn : D.wear.getD n 0 = min (f.wear.getD n 0 + 1) 2147483647
  over : orT (oldT f n) (oldT C n) = oldT C n
  cwear : C.wear = f.wear
  free : freeB D n = true
  more : (i = 1 ∧ h = 1) ∨ (i = 0 ∧ h = 8 ∧ A.dead = true ∧ A.wear = f.wear ∧ A.pages.length = f.pages.length ∧ B.pages.length = f.pages.length ∧
    (∀ m, m ≠ n → oldT A m = oldT f m ∧ oldT B m = oldT f m ∧ oldT C m = oldT f m ∧ oldT D m = oldT f m) ∧
    andT (oldT f n) (oldT A n) = oldT A n ∧ orT (oldT A n) (oldT B n) = oldT A n ∧ (oldT A n).size = (oldT f n).size ∧ (oldT B n).size = (oldT f n).size)
  csize : (oldT C n).size = (oldT f n).size

theorem oldT_pages {f g : Fl} (h : g.pages = f.pages) (i : Nat) : oldT g i = oldT f i := by unfold oldT; rw [h]
theorem oldT_put {f g : Fl} {n : Nat} {s : ByteArray} (h : g.pages = f.pages.set n s) (hn : n < f.pages.length) (i : Nat) : oldT g i = if i = n then s else oldT f i :=
  (oldT_pages (f := { f with pages := f.pages.set n s }) h i).trans (oldT_set f n i s hn)
theorem maskOf_size (f : Fl) : (maskOf f).size = (oldT f 0).size := by rw [maskOf, maskT_size]

theorem torn_plain {f W V A B C D : Fl} {at_ e g h i j k : Int} {n : Nat} {s torn : ByteArray} (hW : wakeF f 0 torn = (W, e)) (hV : wakeF f (-1) torn = (V, g)) (hA : programF W n at_ s = (A, h)) (hB : programF V n at_ s = (B, i))
    (hC : eraseF W n = (C, j)) (hD : eraseF V n = (D, k)) (he : e = 0) (hn : n < f.pages.length) : Torn f A B C D n h i j k := by
  rcases wake_facts hW with ⟨h1, _⟩ | ⟨_, hc, ht, rfl, hcW⟩
  · omega
  rcases wake_facts hV with ⟨h1, rfl⟩ | ⟨_, _, _, rfl, hcV⟩
  · unfold wakeF at hV
    rw [if_pos (by simp [hc, ht])] at hV
    simp only [Prod.mk.injEq] at hV
    omega
  have ho := old_size hc hn
  obtain ⟨c1, c2, c3, c4, c5, c6⟩ := check_facts hc
  have hwl : n < f.wear.length := by rw [c3]; exact hn
  have hz := wear_in hc hn
  have bW := hasB_of hcW (n := n) hn
  have bV := hasB_of hcV (n := n) hn
  have oW : ∀ x, oldT { f with dead := false, fuse := 0, torn := torn } x = oldT f x := fun x => rfl
  have oV : ∀ x, oldT { f with dead := false, fuse := -1, torn := torn } x = oldT f x := fun x => rfl
  unfold eraseF at hC hD
  rw [if_pos bW] at hC
  rw [if_pos bV] at hD
  simp only [stepF, Int.toNat_natCast, oW, Bool.false_eq_true, if_false, if_true, show ¬ (8 : Int) = 0 by decide, Prod.mk.injEq] at hC
  simp only [stepF, Int.toNat_natCast, oV, Bool.false_eq_true, if_false, if_true, show ¬ (-1 : Int) = 0 by decide, Prod.mk.injEq] at hD
  obtain ⟨hC, rfl⟩ := hC
  obtain ⟨hD, rfl⟩ := hD
  have pC : C.pages = f.pages.set n (orT (oldT f n) (maskOf { f with dead := false, fuse := 0, torn := torn })) := by rw [← hC]
  have pD : D.pages = f.pages.set n (onesT (oldT f n).size) := by rw [← hD]
  have wC : C.wear = f.wear := by rw [← hC]
  have wD : D.wear = f.wear.set n (min (f.wear.getD n 0 + 1) 2147483647) := by rw [← hD]
  have dC : C.dead = true := by rw [← hC]
  have dD : D.dead = false := by rw [← hD]
  have tD : D.torn = torn := by rw [← hD]
  clear hC hD
  have oC := oldT_put pC hn
  have oD := oldT_put pD hn
  have oCn := (oC n).trans (if_pos rfl)
  have oDn := (oD n).trans (if_pos rfl)
  refine ⟨rfl, rfl, dC, dD, by rw [pC, List.length_set], by rw [pD, List.length_set], by rw [wD, List.length_set], by rw [wD, getD_set_same _ _ _ _ hwl], ?_, wC, ?_, ?_, ?_⟩
  · rw [oCn, or_old']
  · have hcD : checkB D = true := checkB_set hc hn (by rw [onesT_size]; exact ho.2.2) pD (by rw [wD, List.length_set]) (by rw [wD]; exact mem_set_in c5 (by omega)) (by rw [tD]; exact ht)
    have hh := hasB_of hcD (n := n) (by rw [pD, List.length_set]; exact hn)
    unfold freeB
    rw [hh, Int.toNat_natCast, oDn, onesT_list, count_ones, onesT_size]
    simp
  · cases hs : standsB { f with dead := false, fuse := -1, torn := torn } n at_ s.size with
    | false =>
      have hs' : standsB { f with dead := false, fuse := 0, torn := torn } n at_ s.size = false := hs
      unfold programF at hA hB
      rw [if_neg (by rw [hs]; simp)] at hB
      rw [if_neg (by rw [hs']; simp)] at hA
      simp only [Prod.mk.injEq] at hA hB
      exact .inl ⟨hB.2.symm, hA.2.symm⟩
    | true =>
      have hs' : standsB { f with dead := false, fuse := 0, torn := torn } n at_ s.size = true := hs
      obtain ⟨_, n', e1, _, m, rfl, hm⟩ := stands_facts hs
      obtain rfl : n = n' := by omega
      unfold programF at hA hB
      rw [if_pos hs] at hB
      rw [if_pos hs'] at hA
      simp only [stepF, Int.toNat_natCast, oW, Bool.false_eq_true, if_false, if_true, Prod.mk.injEq] at hA
      simp only [stepF, Int.toNat_natCast, oV, Bool.false_eq_true, if_false, show ¬ (-1 : Int) = 0 by decide, Prod.mk.injEq] at hB
      obtain ⟨hA, rfl⟩ := hA
      obtain ⟨hB, rfl⟩ := hB
      have pA : A.pages = f.pages.set n (andT (oldT f n) (orT (onesT m ++ s) (notT (maskOf { f with dead := false, fuse := 0, torn := torn })))) := by rw [← hA]
      have pB : B.pages = f.pages.set n (andT (oldT f n) (onesT m ++ s)) := by rw [← hB]
      have wA : A.wear = f.wear := by rw [← hA]
      have dA : A.dead = true := by rw [← hA]
      clear hA hB
      have oA := oldT_put pA hn
      have oB := oldT_put pB hn
      have oAn := (oA n).trans (if_pos rfl)
      have oBn := (oB n).trans (if_pos rfl)
      refine .inr ⟨rfl, rfl, dA, wA, by rw [pA, List.length_set], by rw [pB, List.length_set], fun x hx => ⟨(oA x).trans (if_neg hx), (oB x).trans (if_neg hx), (oC x).trans (if_neg hx), (oD x).trans (if_neg hx)⟩, ?_, ?_, ?_, ?_⟩
      · rw [oAn]
        exact and_old' _ _
      · rw [oAn, oBn]
        refine or_between _ _ _ ?_
        rw [ByteArray.size_append, onesT_size, notT_size, maskOf_size, oW]
        have := ho.2.2
        have hm' : m + s.size ≤ (oldT f n).size := hm
        omega
      · rw [oAn, andT_size]
      · rw [oBn, andT_size]
  · rw [oCn, orT_size]

end Go.Proofs.Ytjpapjijlbfemaa
