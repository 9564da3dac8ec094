/- FlashClears, plain. -/
import Derived.Test.YtjpapjijlbfemaaLaw3f
namespace Go.Proofs.Ytjpapjijlbfemaa

structure Cleared (W A B X : Fl) (n : Nat) (g h i j k l : Int) (C D Y : Fl) : Prop where
  codes : g = 0 ∧ h = 0 ∧ i = 0 ∧ j = 0 ∧ k = 0 ∧ l = 0
  bd : D = B
  bx : X = B
  ay : Y = A
  old : andT (oldT A n) (oldT W n) = oldT A n
  apages : A.pages.length = W.pages.length
  bpages : B.pages.length = W.pages.length
  sizes : (oldT A n).size ≤ 8192 ∧ (oldT W n).size ≤ 8192
  lens : W.pages.length ≤ 6 ∧ W.wear.length ≤ 6
  wears : A.wear = W.wear ∧ B.wear = W.wear

theorem clears_plain {f W A B C D X Y : Fl} {page at_ e g h i j k l : Int} {s t : ByteArray} (hW : wakeF f (-1) ⟨#[]⟩ = (W, e)) (hA : programF W page at_ s = (A, g)) (hB : programF A page at_ t = (B, h)) (hC : programF W page at_ t = (C, i))
    (hD : programF C page at_ s = (D, j)) (hX : programF W page at_ (andT s t) = (X, k)) (hY : programF A page at_ s = (Y, l)) (hst : t.size = s.size) :
    e = 1 ∨ e = 0 ∧ g = 1 ∨ e = 0 ∧ ∃ n : Nat, page = n ∧ n < W.pages.length ∧ Cleared W A B X n g h i j k l C D Y := by
  rcases wake_facts hW with ⟨h1, _⟩ | ⟨h1, hc, ht, hw, hcW⟩
  · exact .inl h1
  refine .inr ?_
  have hd : W.dead = false := by rw [hw]
  have hf : W.fuse = -1 := by rw [hw]
  rw [program_on hd hf] at hA hC hX
  by_cases hs : standsB W page at_ s.size = true
  · right
    refine ⟨h1, ?_⟩
    have hsz : (andT s t).size = s.size := andT_size s t
    rw [hst, if_pos hs] at hC
    rw [hsz, if_pos hs] at hX
    rw [if_pos hs] at hA
    obtain ⟨_, n, rfl, hn, m, rfl, hm⟩ := stands_facts hs
    simp only [Int.toNat_natCast, Prod.mk.injEq] at hA hC hX
    obtain ⟨rfl, rfl⟩ := hA
    obtain ⟨rfl, rfl⟩ := hC
    obtain ⟨rfl, rfl⟩ := hX
    have ho := old_size hcW hn
    have h0 := old_size hcW (n := 0) (by omega)
    have hset : ∀ u : ByteArray, u.size = (oldT W n).size → ∀ z : ByteArray, programF { W with pages := W.pages.set n u } n m z = if standsB { W with pages := W.pages.set n u } n m z.size then ({ W with pages := W.pages.set n (andT u (onesT m ++ z)) }, 0) else ({ W with pages := W.pages.set n u }, 1) := by
      intro u hu z
      rw [program_on (f := { W with pages := W.pages.set n u }) hd hf]
      simp only [Int.toNat_natCast, oldT_set W n _ u hn, if_pos, List.set_set]
    have hstand : ∀ u : ByteArray, u.size = (oldT W n).size → standsB { W with pages := W.pages.set n u } n m s.size = true := by
      intro u hu
      refine standsB_of (checkB_set (g := { W with pages := W.pages.set n u }) hcW hn (s := u) (by omega) rfl rfl (check_facts hcW).2.2.2.2.1 (check_facts hcW).2.2.2.1) (by simpa using hn) ?_
      rw [oldT_set W n _ u hn, if_pos rfl, hu]
      exact hm
    have z1 : ∀ z : ByteArray, (andT (oldT W n) (onesT m ++ z)).size = (oldT W n).size := fun z => andT_size _ _
    rw [hset _ (z1 _), hst, if_pos (hstand _ (z1 _))] at hB
    rw [hset _ (z1 _), if_pos (hstand _ (z1 _))] at hD hY
    simp only [Prod.mk.injEq] at hB hD hY
    obtain ⟨rfl, rfl⟩ := hB
    obtain ⟨rfl, rfl⟩ := hD
    obtain ⟨rfl, rfl⟩ := hY
    have hoA := oldT_set W n n (andT (oldT W n) (onesT m ++ s)) hn
    rw [if_pos rfl] at hoA
    have hcw := check_facts hcW
    refine ⟨n, rfl, hn, ⟨⟨rfl, rfl, rfl, rfl, rfl, rfl⟩, ?_, ?_, ?_, ?_, by simp, by simp, ?_, ⟨hcw.2.1, by have := hcw.2.2.1; have := hcw.2.1; omega⟩, rfl, rfl⟩⟩
    · rw [and_turn]
    · rw [and_join _ _ _ (by rw [ByteArray.size_append, ByteArray.size_append, hst]), and_behind]
    · rw [and_twice]
    · rw [hoA, and_old]
    · rw [hoA, z1]
      omega
  · left
    rw [if_neg hs] at hA
    simp only [Prod.mk.injEq] at hA
    exact ⟨h1, hA.2.symm⟩

end Go.Proofs.Ytjpapjijlbfemaa
