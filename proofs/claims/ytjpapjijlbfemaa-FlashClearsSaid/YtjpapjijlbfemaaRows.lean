/-
  No cell of these rows narrows 'for every input' (looked for: loops, veiled, ifaces, maps, wideKeys, modest, calm, conditions, laid).
  DERIVED. THE GIVEN ROWS OF THIS SEAT. 6 by the template 'for every input the law returns true; each argument reads behind the call as it read before'; 0 by the template 'total and deterministic' (their statements: YtjpapjijlbfemaaTotals.lean).
  GIVEN WITH THE SEED: the statements are not yours to turn. If you find one false, say at which input.
  Laid BY PROGRAM, IN A SANDBOX (cutbox-rows.mjs): the forced cells as the released guide's own fill.sh prints them over the translation 0797315c4aa9c1d6… (all of the seat's roots in one cut). By AI agents, Wed Nov 11 2026. No macro, syntax, notation, axiom, sorry.
-/
import Derived.Test.YtjpapjijlbfemaaChecked
import GoSem.Claim
import GoSem.ClaimJoined
import GoSem.ClaimMapViews
import Derived.JoinedTies
import Derived.KernelRfl
namespace Go.Proofs.Ytjpapjijlbfemaa
/- THE CELL 'sum', in the pinned program and in every row, IS THE sha256 OF THE DUMP (.gsa) THAT YtjpapjijlbfemaaProg.lean LOADS. Nothing in Lean hashes anything: it is a label: what it is worth is what the hold of that sum in a sandbox is worth. -/
noncomputable def Try.pinned : Pinned := { name := "ytjpapjijlbfemaa", sum := "0797315c4aa9c1d697e82b2b0a04dd21cccc9886ddc7694a11b9d0faa31d312f", checked := Try.checked }
namespace Rows
def none {H : Type} : Left H := { results := [], args := [] }

/-- 'ouroboroslaw03.FlashSteps': WHATEVER THE INPUT: true; the input reads as it did. -/
def flashStepsSpec : ChangeSpec := { name := "flashSteps", fn := fun _ => fun
  | [d1, d2, d3, d4] => { results := [.lit (.bool true)], args := [d1, d2, d3, d4] }
  | _ => none }
def flashStepsRow : OpenClaim := { program := "ytjpapjijlbfemaa", sum := "0797315c4aa9c1d697e82b2b0a04dd21cccc9886ddc7694a11b9d0faa31d312f", func := "ouroboros/ouroboroslaw03.FlashSteps", spec := "flashSteps", inPlace := ["internal/abi.NoEscape", "internal/bytealg.MakeNoZero"], unfollowed := true, recurses := true, apart := false }
def FlashStepsSaid : Prop := flashStepsRow.holds Try.pinned (OpenSpec.ofChange flashStepsSpec)

/-- ITS FALSE NEIGHBOUR: 'it returns false'. Refute it at one input. -/
def flashStepsWrong : ChangeSpec := { name := "flashSteps", fn := fun _ => fun
  | [d1, d2, d3, d4] => { results := [.lit (.bool false)], args := [d1, d2, d3, d4] }
  | _ => none }
def FlashStepsWrongFalsely : Prop := flashStepsRow.holds Try.pinned (OpenSpec.ofChange flashStepsWrong)

/-- 'ouroboroslaw03.FlashTells': WHATEVER THE INPUT: true; the input reads as it did. -/
def flashTellsSpec : ChangeSpec := { name := "flashTells", fn := fun _ => fun
  | [d1, d2, d3, d4, d5] => { results := [.lit (.bool true)], args := [d1, d2, d3, d4, d5] }
  | _ => none }
def flashTellsRow : OpenClaim := { program := "ytjpapjijlbfemaa", sum := "0797315c4aa9c1d697e82b2b0a04dd21cccc9886ddc7694a11b9d0faa31d312f", func := "ouroboros/ouroboroslaw03.FlashTells", spec := "flashTells", inPlace := ["internal/abi.NoEscape", "internal/bytealg.MakeNoZero"], unfollowed := true, recurses := true, apart := false }
def FlashTellsSaid : Prop := flashTellsRow.holds Try.pinned (OpenSpec.ofChange flashTellsSpec)

/-- ITS FALSE NEIGHBOUR: 'it returns false'. Refute it at one input. -/
def flashTellsWrong : ChangeSpec := { name := "flashTells", fn := fun _ => fun
  | [d1, d2, d3, d4, d5] => { results := [.lit (.bool false)], args := [d1, d2, d3, d4, d5] }
  | _ => none }
def FlashTellsWrongFalsely : Prop := flashTellsRow.holds Try.pinned (OpenSpec.ofChange flashTellsWrong)

/-- 'ouroboroslaw03.FlashBetween': WHATEVER THE INPUT: true; the input reads as it did. -/
def flashBetweenSpec : ChangeSpec := { name := "flashBetween", fn := fun _ => fun
  | [d1, d2, d3, d4, d5] => { results := [.lit (.bool true)], args := [d1, d2, d3, d4, d5] }
  | _ => none }
def flashBetweenRow : OpenClaim := { program := "ytjpapjijlbfemaa", sum := "0797315c4aa9c1d697e82b2b0a04dd21cccc9886ddc7694a11b9d0faa31d312f", func := "ouroboros/ouroboroslaw03.FlashBetween", spec := "flashBetween", inPlace := ["internal/abi.NoEscape", "internal/bytealg.MakeNoZero"], unfollowed := true, recurses := true, apart := false }
def FlashBetweenSaid : Prop := flashBetweenRow.holds Try.pinned (OpenSpec.ofChange flashBetweenSpec)

/-- ITS FALSE NEIGHBOUR: 'it returns false'. Refute it at one input. -/
def flashBetweenWrong : ChangeSpec := { name := "flashBetween", fn := fun _ => fun
  | [d1, d2, d3, d4, d5] => { results := [.lit (.bool false)], args := [d1, d2, d3, d4, d5] }
  | _ => none }
def FlashBetweenWrongFalsely : Prop := flashBetweenRow.holds Try.pinned (OpenSpec.ofChange flashBetweenWrong)

/-- 'ouroboroslaw03.FlashClears': WHATEVER THE INPUT: true; the input reads as it did. -/
def flashClearsSpec : ChangeSpec := { name := "flashClears", fn := fun _ => fun
  | [d1, d2, d3, d4, d5] => { results := [.lit (.bool true)], args := [d1, d2, d3, d4, d5] }
  | _ => none }
def flashClearsRow : OpenClaim := { program := "ytjpapjijlbfemaa", sum := "0797315c4aa9c1d697e82b2b0a04dd21cccc9886ddc7694a11b9d0faa31d312f", func := "ouroboros/ouroboroslaw03.FlashClears", spec := "flashClears", inPlace := ["internal/abi.NoEscape", "internal/bytealg.MakeNoZero"], unfollowed := true, recurses := true, apart := false }
def FlashClearsSaid : Prop := flashClearsRow.holds Try.pinned (OpenSpec.ofChange flashClearsSpec)

/-- ITS FALSE NEIGHBOUR: 'it returns false'. Refute it at one input. -/
def flashClearsWrong : ChangeSpec := { name := "flashClears", fn := fun _ => fun
  | [d1, d2, d3, d4, d5] => { results := [.lit (.bool false)], args := [d1, d2, d3, d4, d5] }
  | _ => none }
def FlashClearsWrongFalsely : Prop := flashClearsRow.holds Try.pinned (OpenSpec.ofChange flashClearsWrong)

/-- 'ouroboroslaw03.FlashFuse': WHATEVER THE INPUT: true; the input reads as it did. -/
def flashFuseSpec : ChangeSpec := { name := "flashFuse", fn := fun _ => fun
  | [d1, d2, d3, d4] => { results := [.lit (.bool true)], args := [d1, d2, d3, d4] }
  | _ => none }
def flashFuseRow : OpenClaim := { program := "ytjpapjijlbfemaa", sum := "0797315c4aa9c1d697e82b2b0a04dd21cccc9886ddc7694a11b9d0faa31d312f", func := "ouroboros/ouroboroslaw03.FlashFuse", spec := "flashFuse", inPlace := ["internal/abi.NoEscape", "internal/bytealg.MakeNoZero"], unfollowed := true, recurses := true, apart := false }
def FlashFuseSaid : Prop := flashFuseRow.holds Try.pinned (OpenSpec.ofChange flashFuseSpec)

/-- ITS FALSE NEIGHBOUR: 'it returns false'. Refute it at one input. -/
def flashFuseWrong : ChangeSpec := { name := "flashFuse", fn := fun _ => fun
  | [d1, d2, d3, d4] => { results := [.lit (.bool false)], args := [d1, d2, d3, d4] }
  | _ => none }
def FlashFuseWrongFalsely : Prop := flashFuseRow.holds Try.pinned (OpenSpec.ofChange flashFuseWrong)

/-- 'ouroboroslaw03.FlashRots': WHATEVER THE INPUT: true; the input reads as it did. -/
def flashRotsSpec : ChangeSpec := { name := "flashRots", fn := fun _ => fun
  | [d1, d2, d3, d4] => { results := [.lit (.bool true)], args := [d1, d2, d3, d4] }
  | _ => none }
def flashRotsRow : OpenClaim := { program := "ytjpapjijlbfemaa", sum := "0797315c4aa9c1d697e82b2b0a04dd21cccc9886ddc7694a11b9d0faa31d312f", func := "ouroboros/ouroboroslaw03.FlashRots", spec := "flashRots", inPlace := ["internal/abi.NoEscape", "internal/bytealg.MakeNoZero"], unfollowed := true, recurses := true, apart := false }
def FlashRotsSaid : Prop := flashRotsRow.holds Try.pinned (OpenSpec.ofChange flashRotsSpec)

/-- ITS FALSE NEIGHBOUR: 'it returns false'. Refute it at one input. -/
def flashRotsWrong : ChangeSpec := { name := "flashRots", fn := fun _ => fun
  | [d1, d2, d3, d4] => { results := [.lit (.bool false)], args := [d1, d2, d3, d4] }
  | _ => none }
def FlashRotsWrongFalsely : Prop := flashRotsRow.holds Try.pinned (OpenSpec.ofChange flashRotsWrong)

/- THE SECOND FORM. 'bulk': how many values and letters a reading holds, each counted each time it is reached (what is shared counts as often as it is met; a slice's spare places count too). A statement '..UptoSaid' is the law's where the arguments, and the package variables that the reading takes, are together of bulk at most 1048576: NARROWER than '..Said'. Prove '..Said' where nothing that the law and all that it calls make is longer than what came in: it says more and counts as full. Else prove '..UptoSaid'. A law counts once. -/
mutual
def uptoBulk {H : Type} : DataW H → Nat
  | .lit (.string bytes) => bytes.length + 1
  | .lit _ => 1
  | .nil => 1
  | .ptr d => uptoBulk d + 1
  | .slice elems spare => uptoBulkAll elems + uptoBulkAll spare + 1
  | .agg parts => uptoBulkAll parts + 1
  | .iface _ d => uptoBulk d + 1
  | .map entries => uptoBulkEntries entries + 1
  | .held _ => 1
def uptoBulkAll {H : Type} : List (DataW H) → Nat
  | [] => 0
  | d :: r => uptoBulk d + uptoBulkAll r
def uptoBulkEntries {H : Type} : List (Lit × DataW H) → Nat
  | [] => 0
  | x :: r => uptoBulkEntry x + uptoBulkEntries r
def uptoBulkEntry {H : Type} : Lit × DataW H → Nat
  | (.string bytes, d) => bytes.length + uptoBulk d + 1
  | (_, d) => uptoBulk d + 1
 end
def uptoSmall : (H : Type) → List (DataW H) → Bool := fun _ ds => decide (uptoBulkAll ds ≤ 1048576)
def OpenSpec.upto (s : _root_.Go.ChangeSpec) : _root_.Go.OpenSpec := { _root_.Go.OpenSpec.ofChange s with cond := some uptoSmall }

/-- 'ouroboroslaw03.FlashSteps', WHERE WHAT IT READS IS OF BULK AT MOST 1048576: true; the input reads as it did. -/
def flashStepsUptoRow : OpenClaim := { program := "ytjpapjijlbfemaa", sum := "0797315c4aa9c1d697e82b2b0a04dd21cccc9886ddc7694a11b9d0faa31d312f", func := "ouroboros/ouroboroslaw03.FlashSteps", spec := "flashSteps", inPlace := ["internal/abi.NoEscape", "internal/bytealg.MakeNoZero"], unfollowed := true, recurses := true, apart := false, narrowed := true }
def FlashStepsUptoSaid : Prop := flashStepsUptoRow.holds Try.pinned (OpenSpec.upto flashStepsSpec)

/-- 'ouroboroslaw03.FlashTells', WHERE WHAT IT READS IS OF BULK AT MOST 1048576: true; the input reads as it did. -/
def flashTellsUptoRow : OpenClaim := { program := "ytjpapjijlbfemaa", sum := "0797315c4aa9c1d697e82b2b0a04dd21cccc9886ddc7694a11b9d0faa31d312f", func := "ouroboros/ouroboroslaw03.FlashTells", spec := "flashTells", inPlace := ["internal/abi.NoEscape", "internal/bytealg.MakeNoZero"], unfollowed := true, recurses := true, apart := false, narrowed := true }
def FlashTellsUptoSaid : Prop := flashTellsUptoRow.holds Try.pinned (OpenSpec.upto flashTellsSpec)

/-- 'ouroboroslaw03.FlashBetween', WHERE WHAT IT READS IS OF BULK AT MOST 1048576: true; the input reads as it did. -/
def flashBetweenUptoRow : OpenClaim := { program := "ytjpapjijlbfemaa", sum := "0797315c4aa9c1d697e82b2b0a04dd21cccc9886ddc7694a11b9d0faa31d312f", func := "ouroboros/ouroboroslaw03.FlashBetween", spec := "flashBetween", inPlace := ["internal/abi.NoEscape", "internal/bytealg.MakeNoZero"], unfollowed := true, recurses := true, apart := false, narrowed := true }
def FlashBetweenUptoSaid : Prop := flashBetweenUptoRow.holds Try.pinned (OpenSpec.upto flashBetweenSpec)

/-- 'ouroboroslaw03.FlashClears', WHERE WHAT IT READS IS OF BULK AT MOST 1048576: true; the input reads as it did. -/
def flashClearsUptoRow : OpenClaim := { program := "ytjpapjijlbfemaa", sum := "0797315c4aa9c1d697e82b2b0a04dd21cccc9886ddc7694a11b9d0faa31d312f", func := "ouroboros/ouroboroslaw03.FlashClears", spec := "flashClears", inPlace := ["internal/abi.NoEscape", "internal/bytealg.MakeNoZero"], unfollowed := true, recurses := true, apart := false, narrowed := true }
def FlashClearsUptoSaid : Prop := flashClearsUptoRow.holds Try.pinned (OpenSpec.upto flashClearsSpec)

/-- 'ouroboroslaw03.FlashFuse', WHERE WHAT IT READS IS OF BULK AT MOST 1048576: true; the input reads as it did. -/
def flashFuseUptoRow : OpenClaim := { program := "ytjpapjijlbfemaa", sum := "0797315c4aa9c1d697e82b2b0a04dd21cccc9886ddc7694a11b9d0faa31d312f", func := "ouroboros/ouroboroslaw03.FlashFuse", spec := "flashFuse", inPlace := ["internal/abi.NoEscape", "internal/bytealg.MakeNoZero"], unfollowed := true, recurses := true, apart := false, narrowed := true }
def FlashFuseUptoSaid : Prop := flashFuseUptoRow.holds Try.pinned (OpenSpec.upto flashFuseSpec)

/-- 'ouroboroslaw03.FlashRots', WHERE WHAT IT READS IS OF BULK AT MOST 1048576: true; the input reads as it did. -/
def flashRotsUptoRow : OpenClaim := { program := "ytjpapjijlbfemaa", sum := "0797315c4aa9c1d697e82b2b0a04dd21cccc9886ddc7694a11b9d0faa31d312f", func := "ouroboros/ouroboroslaw03.FlashRots", spec := "flashRots", inPlace := ["internal/abi.NoEscape", "internal/bytealg.MakeNoZero"], unfollowed := true, recurses := true, apart := false, narrowed := true }
def FlashRotsUptoSaid : Prop := flashRotsUptoRow.holds Try.pinned (OpenSpec.upto flashRotsSpec)

end Rows
end Go.Proofs.Ytjpapjijlbfemaa
