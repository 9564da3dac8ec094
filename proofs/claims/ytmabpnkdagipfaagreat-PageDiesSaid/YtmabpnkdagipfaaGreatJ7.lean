/- Texts of this proof, one behind the other: Range. -/
import Derived.RangeFuncNested
import Derived.RangeFuncBound
import Derived.RangeFuncCalls
import Derived.RangeFuncLeaves
import Derived.Test.YtmabpnkdagipfaaGreatJ2

/- A range over a function, with an invariant of one's own: small laws over the library's. -/
namespace Go.Proofs.YtmabpnkdagipfaaGreat
open Go.RowKit
variable {F : Fence} {n : Nat} {P : Program}

/-- The record of a loop: all but its state and its pending jump. -/
abbrev recOf (fn : FuncId) (tmps : Array Value) (ps : Array Tmp) (assign body : Code) (D : Nat) (st : LoopState) (pe : Option Code) : Loop :=
  { state := st, pending := pe, fn, tmps, params := ps, assign, body, defers := D }

/-- Where a round ends: off its end, or by a return. -/
def endPost (l : Nat) (rec : LoopState → Option Code → Loop) (R : Ending → World → Prop) : Exit → Act → World → Prop
  | .normal, _, W => W.heap[l]? = some (.loop (rec .busy none)) ∧ R (.returned (.bool true)) (W.putObj l (.loop (rec .ready none)))
  | .ret, _, W => W.heap[l]? = some (.loop (rec .busy none)) ∧ R (.returned (.bool false)) (W.putObj l (.loop (rec .done (some .ret))))
  | .exit _, _, _ => False
  | .goto _, _, _ => False
  | .panic _, _, _ => False
  | .outgrown, _, _ => False

/-- One round. -/
theorem round_law {l : Nat} {W : World} {R : Ending → World → Prop} {fn : FuncId} {tmps : Array Value} {ps : Array Tmp} {assign body : Code} {D : Nat} {args : Array Value} (hF : F.fn fn)
    {rec : LoopState → Option Code → Loop} (hrec : rec = recOf fn tmps ps assign body D) (hl : W.heap[l]? = some (.loop (rec .ready none))) (hs : args.size = ps.size)
    (h : assign.wpIn (F.inRound l) n P (Exit.then (fun a₁ w₁ => w₁.heap[l]? = some (.loop (rec .ready none)) ∧ body.wpIn (F.inRound l) n P (endPost l rec R) a₁ (w₁.putObj l (.loop (rec .busy none)))) (fun _ _ _ => False))
      { tmps := (ps.zip args).foldl (fun t (p, v) => t.setIfInBounds p v) tmps, defers := [] } W) : YieldAt F n P l args W R := by
  subst hrec
  have hy := run_yield (P := P) (args := args) hl hs
  refine ⟨fn, _, assign, body, hy, roundIn_of_wpIn hF (wpIn_mono h ?_)⟩
  intro e a1 w1 hq
  cases e with
  | normal =>
    obtain ⟨h1, h2⟩ := hq
    refine ⟨_, run_beginRound h1 rfl, wpIn_mono h2 ?_⟩
    intro e a2 w2 hp
    cases e with
    | normal => exact ⟨_, _, run_endRound (P := P) none hp.1, hp.2⟩
    | ret => exact ⟨_, _, run_endRound (P := P) (some .ret) hp.1, hp.2⟩
    | exit id => exact hp.elim
    | goto t => exact hp.elim
    | panic ch => exact hp.elim
    | outgrown => exact hp.elim
  | ret => exact hq.elim
  | exit id => exact hq.elim
  | goto t => exact hq.elim
  | panic ch => exact hq.elim
  | outgrown => exact hq.elim

/-- The statement: the iterator is called; it comes back with the record ready, or done by a return. -/
theorem range_law {g : Operand} {ps : Array Tmp} {assign body : Code} {Q : Exit → Act → World → Prop} {a : Act} {w : World} (hro : F.round = none) (h1 : 1 ≤ n)
    {gf : Nat} {lb : Array Value} (hg : a.eval g = .func (.func gf) #[] lb) (hFg : F.fn gf) (eg : ∀ args w, (callFunc gf args).run P w = .ok (.enter gf args) w)
    (H : ∀ fn (rec : LoopState → Option Code → Loop), F.fn fn → rec = recOf fn a.tmps ps assign body w.heap.size →
      CallsIn F (n - 1) P gf (#[.func (.yield (w.heap.size + 1)) #[] #[]] ++ lb) ((w.alloc (.deferred (some []))).alloc (.loop (rec .ready none))) fun e W => (∃ v, e = .returned v) ∧
        ((W.heap[w.heap.size + 1]? = some (.loop (rec .ready none)) ∧ Q .normal { a with defers := { target := .collected w.heap.size, args := #[] } :: a.defers } (W.putObj (w.heap.size + 1) (.loop (rec .exhausted none)))) ∨
         (W.heap[w.heap.size + 1]? = some (.loop (rec .done (some .ret))) ∧ Code.ret.wpIn F n P Q { a with defers := { target := .collected w.heap.size, args := #[] } :: a.defers } (W.putObj (w.heap.size + 1) (.loop (rec .exhausted (some .ret))))))) :
    (Code.rangeFunc g ps assign body).wpIn F n P Q a w := by
  refine wpIn_rangeFunc ?_
  intro fn hfn
  rw [hro]
  have h := H fn _ hfn rfl
  obtain ⟨W1, hW1⟩ : ∃ W1, (w.alloc (.deferred (some []))).alloc (.loop (recOf fn a.tmps ps assign body w.heap.size .ready none)) = W1 := ⟨_, rfl⟩
  rw [hW1] at h
  refine ⟨w.heap.size + 1, [{ target := .collected w.heap.size, args := #[] }], W1, { target := .fn (.func gf) lb, args := #[.func (.yield (w.heap.size + 1)) #[] #[]] }, W1, gf,
    #[.func (.yield (w.heap.size + 1)) #[] #[]] ++ lb, W1, by rw [← hW1]; exact run_enterLoop_outer _ _ _ _ _, ?_, ?_, ?_, fun _ => h1, ?_⟩
  · simp only [resolve, hg]
    simp [go_sem]
  · intro f' hf'
    simp [Target.leads] at hf'
    subst hf'
    exact hFg
  · simp [invoke, go_sem, eg]
  · refine h.mono ?_
    rintro e W ⟨⟨v, rfl⟩, ⟨hl, hq⟩ | ⟨hl, hq⟩⟩
    · exact ⟨none, _, run_endLoop (P := P) hl (by simp), hq⟩
    · exact ⟨some .ret, _, run_endLoop (P := P) hl (by simp), hq⟩

end Go.Proofs.YtmabpnkdagipfaaGreat
