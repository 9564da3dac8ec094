/- Texts of this proof, one behind the other: RefChk. -/
import Derived.Test.YtmabpnkdagipfaaJ26
import Derived.Test.YtmabpnkdagipfaaJ30

/- What ouroborosref03.Check and page, and ouroboroslaw03.Few, come to. -/
namespace Go.Proofs.Ytmabpnkdagipfaa
open Go.RowKit

def okAt (f : Fl) (i : Nat) : Bool := decide (1 ≤ (oldT f i).size) && decide ((oldT f i).size ≤ 8192) && decide ((oldT f i).size = (oldT f 0).size) && decide (0 ≤ f.wear.getD i 0) && decide (f.wear.getD i 0 ≤ 2147483647)
theorem check_at {f : Fl} (h1 : 1 ≤ f.pages.length) (h2 : f.pages.length ≤ 6) (h3 : f.wear.length = f.pages.length) (h4 : f.torn.size ≤ 64) : checkB f = true ↔ ∀ i, i < f.pages.length → okAt f i = true := by
  constructor
  · intro h i hi
    have hs := old_size h hi
    have hz : f.wear.getD i 0 ∈ f.wear := by
      rw [List.getD_eq_getElem?_getD, List.getElem?_eq_getElem (by omega)]
      exact List.getElem_mem _
    have hw := (check_facts h).2.2.2.2.1 _ hz
    simp only [okAt, Bool.and_eq_true, decide_eq_true_eq]
    omega
  · intro h
    have hok : ∀ i, i < f.pages.length → 1 ≤ (oldT f i).size ∧ (oldT f i).size ≤ 8192 ∧ (oldT f i).size = (oldT f 0).size ∧ 0 ≤ f.wear.getD i 0 ∧ f.wear.getD i 0 ≤ 2147483647 := by
      intro i hi
      have := h i hi
      simp only [okAt, Bool.and_eq_true, decide_eq_true_eq] at this
      omega
    have hw : f.wear.all (fun z => decide (0 ≤ z) && decide (z ≤ 2147483647)) = true := by
      rw [List.all_eq_true]
      intro z hz
      obtain ⟨i, hi, rfl⟩ := List.getElem_of_mem hz
      have := hok i (by omega)
      rw [List.getD_eq_getElem?_getD, List.getElem?_eq_getElem hi] at this
      simp only [Option.getD_some] at this
      simp [this.2.2.2.1, this.2.2.2.2]
    have hp : f.pages.any (oddB (f.pages.getD 0 ByteArray.empty)) = false := by
      rw [List.any_eq_false]
      intro s hs
      obtain ⟨i, hi, rfl⟩ := List.getElem_of_mem hs
      have := hok i hi
      have e : oldT f i = f.pages[i] := by
        unfold oldT
        rw [List.getD_eq_getElem?_getD, List.getElem?_eq_getElem hi]
        rfl
      rw [e] at this
      have e0 : (f.pages.getD 0 ByteArray.empty).size = (oldT f 0).size := rfl
      unfold oddB
      simp only [Bool.or_eq_true, decide_eq_true_eq, not_or]
      omega
    unfold checkB
    rw [decide_eq_true h1, decide_eq_true h2, decide_eq_true h3, decide_eq_true h4, hw, hp]
    rfl

end Go.Proofs.Ytmabpnkdagipfaa
