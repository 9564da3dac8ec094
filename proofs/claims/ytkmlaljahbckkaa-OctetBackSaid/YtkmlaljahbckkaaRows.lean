/-
  No cell of these rows narrows 'for every input' (looked for: loops, veiled, ifaces, maps, wideKeys, modest, calm, conditions, laid).
  DERIVED. THE GIVEN ROWS OF THIS SEAT. 7 by the template 'for every input the law returns true; each argument reads behind the call as it read before'; 0 by the template 'total and deterministic' (their statements: YtkmlaljahbckkaaTotals.lean).
  GIVEN WITH THE SEED: the statements are not yours to turn. If you find one false, say at which input.
  Laid BY PROGRAM, IN A SANDBOX (cutbox-rows.mjs): the forced cells as the released guide's own fill.sh prints them over the translation db7192e4184129cf… (all of the seat's roots in one cut). By AI agents, Wed Nov 11 2026. No macro, syntax, notation, axiom, sorry.
-/
import Derived.Test.YtkmlaljahbckkaaChecked
import GoSem.Claim
import GoSem.ClaimJoined
import GoSem.ClaimMapViews
import Derived.JoinedTies
import Derived.KernelRfl
namespace Go.Proofs.Ytkmlaljahbckkaa
/- THE CELL 'sum', in the pinned program and in every row, IS THE sha256 OF THE DUMP (.gsa) THAT YtkmlaljahbckkaaProg.lean LOADS. Nothing in Lean hashes anything: it is a label: what it is worth is what the hold of that sum in a sandbox is worth. -/
noncomputable def Try.pinned : Pinned := { name := "ytkmlaljahbckkaa", sum := "db7192e4184129cf9d90e29bbdd0d79f199df61542073da7bc72440ee024eb15", checked := Try.checked }
namespace Rows
def none {H : Type} : Left H := { results := [], args := [] }

/-- 'ouroboroslaw01.OctetNumbers': WHATEVER THE INPUT: true; the input reads as it did. -/
def octetNumbersSpec : ChangeSpec := { name := "octetNumbers", fn := fun _ => fun
  | [d1, d2, d3, d4] => { results := [.lit (.bool true)], args := [d1, d2, d3, d4] }
  | _ => none }
def octetNumbersRow : OpenClaim := { program := "ytkmlaljahbckkaa", sum := "db7192e4184129cf9d90e29bbdd0d79f199df61542073da7bc72440ee024eb15", func := "ouroboros/ouroboroslaw01.OctetNumbers", spec := "octetNumbers", inPlace := ["internal/abi.NoEscape", "internal/bytealg.MakeNoZero"], unfollowed := true, recurses := true, apart := false }
def OctetNumbersSaid : Prop := octetNumbersRow.holds Try.pinned (OpenSpec.ofChange octetNumbersSpec)

/-- ITS FALSE NEIGHBOUR: 'it returns false'. Refute it at one input. -/
def octetNumbersWrong : ChangeSpec := { name := "octetNumbers", fn := fun _ => fun
  | [d1, d2, d3, d4] => { results := [.lit (.bool false)], args := [d1, d2, d3, d4] }
  | _ => none }
def OctetNumbersWrongFalsely : Prop := octetNumbersRow.holds Try.pinned (OpenSpec.ofChange octetNumbersWrong)

/-- 'ouroboroslaw01.OctetBits': WHATEVER THE INPUT: true; the input reads as it did. -/
def octetBitsSpec : ChangeSpec := { name := "octetBits", fn := fun _ => fun
  | [d1, d2, d3] => { results := [.lit (.bool true)], args := [d1, d2, d3] }
  | _ => none }
def octetBitsRow : OpenClaim := { program := "ytkmlaljahbckkaa", sum := "db7192e4184129cf9d90e29bbdd0d79f199df61542073da7bc72440ee024eb15", func := "ouroboros/ouroboroslaw01.OctetBits", spec := "octetBits", inPlace := ["internal/abi.NoEscape", "internal/bytealg.MakeNoZero"], unfollowed := true, recurses := true, apart := false }
def OctetBitsSaid : Prop := octetBitsRow.holds Try.pinned (OpenSpec.ofChange octetBitsSpec)

/-- ITS FALSE NEIGHBOUR: 'it returns false'. Refute it at one input. -/
def octetBitsWrong : ChangeSpec := { name := "octetBits", fn := fun _ => fun
  | [d1, d2, d3] => { results := [.lit (.bool false)], args := [d1, d2, d3] }
  | _ => none }
def OctetBitsWrongFalsely : Prop := octetBitsRow.holds Try.pinned (OpenSpec.ofChange octetBitsWrong)

/-- 'ouroboroslaw01.OctetBack': WHATEVER THE INPUT: true; the input reads as it did. -/
def octetBackSpec : ChangeSpec := { name := "octetBack", fn := fun _ => fun
  | [d1, d2, d3, d4] => { results := [.lit (.bool true)], args := [d1, d2, d3, d4] }
  | _ => none }
def octetBackRow : OpenClaim := { program := "ytkmlaljahbckkaa", sum := "db7192e4184129cf9d90e29bbdd0d79f199df61542073da7bc72440ee024eb15", func := "ouroboros/ouroboroslaw01.OctetBack", spec := "octetBack", inPlace := ["internal/abi.NoEscape", "internal/bytealg.MakeNoZero"], unfollowed := true, recurses := true, apart := false }
def OctetBackSaid : Prop := octetBackRow.holds Try.pinned (OpenSpec.ofChange octetBackSpec)

/-- ITS FALSE NEIGHBOUR: 'it returns false'. Refute it at one input. -/
def octetBackWrong : ChangeSpec := { name := "octetBack", fn := fun _ => fun
  | [d1, d2, d3, d4] => { results := [.lit (.bool false)], args := [d1, d2, d3, d4] }
  | _ => none }
def OctetBackWrongFalsely : Prop := octetBackRow.holds Try.pinned (OpenSpec.ofChange octetBackWrong)

/-- 'ouroboroslaw01.OctetTurns': WHATEVER THE INPUT: true; the input reads as it did. -/
def octetTurnsSpec : ChangeSpec := { name := "octetTurns", fn := fun _ => fun
  | [d1, d2] => { results := [.lit (.bool true)], args := [d1, d2] }
  | _ => none }
def octetTurnsRow : OpenClaim := { program := "ytkmlaljahbckkaa", sum := "db7192e4184129cf9d90e29bbdd0d79f199df61542073da7bc72440ee024eb15", func := "ouroboros/ouroboroslaw01.OctetTurns", spec := "octetTurns", inPlace := ["internal/abi.NoEscape", "internal/bytealg.MakeNoZero"], unfollowed := true, recurses := true, apart := false }
def OctetTurnsSaid : Prop := octetTurnsRow.holds Try.pinned (OpenSpec.ofChange octetTurnsSpec)

/-- ITS FALSE NEIGHBOUR: 'it returns false'. Refute it at one input. -/
def octetTurnsWrong : ChangeSpec := { name := "octetTurns", fn := fun _ => fun
  | [d1, d2] => { results := [.lit (.bool false)], args := [d1, d2] }
  | _ => none }
def OctetTurnsWrongFalsely : Prop := octetTurnsRow.holds Try.pinned (OpenSpec.ofChange octetTurnsWrong)

/-- 'ouroboroslaw01.OctetCounts': WHATEVER THE INPUT: true; the input reads as it did. -/
def octetCountsSpec : ChangeSpec := { name := "octetCounts", fn := fun _ => fun
  | [d1, d2] => { results := [.lit (.bool true)], args := [d1, d2] }
  | _ => none }
def octetCountsRow : OpenClaim := { program := "ytkmlaljahbckkaa", sum := "db7192e4184129cf9d90e29bbdd0d79f199df61542073da7bc72440ee024eb15", func := "ouroboros/ouroboroslaw01.OctetCounts", spec := "octetCounts", inPlace := ["internal/abi.NoEscape", "internal/bytealg.MakeNoZero"], unfollowed := true, recurses := true, apart := false }
def OctetCountsSaid : Prop := octetCountsRow.holds Try.pinned (OpenSpec.ofChange octetCountsSpec)

/-- ITS FALSE NEIGHBOUR: 'it returns false'. Refute it at one input. -/
def octetCountsWrong : ChangeSpec := { name := "octetCounts", fn := fun _ => fun
  | [d1, d2] => { results := [.lit (.bool false)], args := [d1, d2] }
  | _ => none }
def OctetCountsWrongFalsely : Prop := octetCountsRow.holds Try.pinned (OpenSpec.ofChange octetCountsWrong)

/-- 'ouroboroslaw01.OctetLattice': WHATEVER THE INPUT: true; the input reads as it did. -/
def octetLatticeSpec : ChangeSpec := { name := "octetLattice", fn := fun _ => fun
  | [d1, d2, d3] => { results := [.lit (.bool true)], args := [d1, d2, d3] }
  | _ => none }
def octetLatticeRow : OpenClaim := { program := "ytkmlaljahbckkaa", sum := "db7192e4184129cf9d90e29bbdd0d79f199df61542073da7bc72440ee024eb15", func := "ouroboros/ouroboroslaw01.OctetLattice", spec := "octetLattice", inPlace := ["internal/abi.NoEscape", "internal/bytealg.MakeNoZero"], unfollowed := true, recurses := true, apart := false }
def OctetLatticeSaid : Prop := octetLatticeRow.holds Try.pinned (OpenSpec.ofChange octetLatticeSpec)

/-- ITS FALSE NEIGHBOUR: 'it returns false'. Refute it at one input. -/
def octetLatticeWrong : ChangeSpec := { name := "octetLattice", fn := fun _ => fun
  | [d1, d2, d3] => { results := [.lit (.bool false)], args := [d1, d2, d3] }
  | _ => none }
def OctetLatticeWrongFalsely : Prop := octetLatticeRow.holds Try.pinned (OpenSpec.ofChange octetLatticeWrong)

/-- 'ouroboroslaw01.OctetParts': WHATEVER THE INPUT: true; the input reads as it did. -/
def octetPartsSpec : ChangeSpec := { name := "octetParts", fn := fun _ => fun
  | [d1, d2, d3, d4] => { results := [.lit (.bool true)], args := [d1, d2, d3, d4] }
  | _ => none }
def octetPartsRow : OpenClaim := { program := "ytkmlaljahbckkaa", sum := "db7192e4184129cf9d90e29bbdd0d79f199df61542073da7bc72440ee024eb15", func := "ouroboros/ouroboroslaw01.OctetParts", spec := "octetParts", inPlace := ["internal/abi.NoEscape", "internal/bytealg.MakeNoZero"], unfollowed := true, recurses := true, apart := false }
def OctetPartsSaid : Prop := octetPartsRow.holds Try.pinned (OpenSpec.ofChange octetPartsSpec)

/-- ITS FALSE NEIGHBOUR: 'it returns false'. Refute it at one input. -/
def octetPartsWrong : ChangeSpec := { name := "octetParts", fn := fun _ => fun
  | [d1, d2, d3, d4] => { results := [.lit (.bool false)], args := [d1, d2, d3, d4] }
  | _ => none }
def OctetPartsWrongFalsely : Prop := octetPartsRow.holds Try.pinned (OpenSpec.ofChange octetPartsWrong)

/- THE SECOND FORM. 'bulk': how many values and letters a reading holds, each counted each time it is reached (what is shared counts as often as it is met; a slice's spare places count too). A statement '..UptoSaid' is the law's where the arguments, and the package variables that the reading takes, are together of bulk at most 1048576: NARROWER than '..Said'. Prove '..Said' where nothing that the law and all that it calls make is longer than what came in: it says more and counts as full. Else prove '..UptoSaid'. A law counts once. -/
mutual
def uptoBulk {H : Type} : DataW H → Nat
  | .lit (.string bytes) => bytes.length + 1
  | .lit _ => 1
  | .nil => 1
  | .ptr d => uptoBulk d + 1
  | .slice elems spare => uptoBulkAll elems + uptoBulkAll spare + 1
  | .agg parts => uptoBulkAll parts + 1
  | .iface _ d => uptoBulk d + 1
  | .map entries => uptoBulkEntries entries + 1
  | .held _ => 1
def uptoBulkAll {H : Type} : List (DataW H) → Nat
  | [] => 0
  | d :: r => uptoBulk d + uptoBulkAll r
def uptoBulkEntries {H : Type} : List (Lit × DataW H) → Nat
  | [] => 0
  | x :: r => uptoBulkEntry x + uptoBulkEntries r
def uptoBulkEntry {H : Type} : Lit × DataW H → Nat
  | (.string bytes, d) => bytes.length + uptoBulk d + 1
  | (_, d) => uptoBulk d + 1
 end
def uptoSmall : (H : Type) → List (DataW H) → Bool := fun _ ds => decide (uptoBulkAll ds ≤ 1048576)
def OpenSpec.upto (s : _root_.Go.ChangeSpec) : _root_.Go.OpenSpec := { _root_.Go.OpenSpec.ofChange s with cond := some uptoSmall }

/-- 'ouroboroslaw01.OctetNumbers', WHERE WHAT IT READS IS OF BULK AT MOST 1048576: true; the input reads as it did. -/
def octetNumbersUptoRow : OpenClaim := { program := "ytkmlaljahbckkaa", sum := "db7192e4184129cf9d90e29bbdd0d79f199df61542073da7bc72440ee024eb15", func := "ouroboros/ouroboroslaw01.OctetNumbers", spec := "octetNumbers", inPlace := ["internal/abi.NoEscape", "internal/bytealg.MakeNoZero"], unfollowed := true, recurses := true, apart := false, narrowed := true }
def OctetNumbersUptoSaid : Prop := octetNumbersUptoRow.holds Try.pinned (OpenSpec.upto octetNumbersSpec)

/-- 'ouroboroslaw01.OctetBits', WHERE WHAT IT READS IS OF BULK AT MOST 1048576: true; the input reads as it did. -/
def octetBitsUptoRow : OpenClaim := { program := "ytkmlaljahbckkaa", sum := "db7192e4184129cf9d90e29bbdd0d79f199df61542073da7bc72440ee024eb15", func := "ouroboros/ouroboroslaw01.OctetBits", spec := "octetBits", inPlace := ["internal/abi.NoEscape", "internal/bytealg.MakeNoZero"], unfollowed := true, recurses := true, apart := false, narrowed := true }
def OctetBitsUptoSaid : Prop := octetBitsUptoRow.holds Try.pinned (OpenSpec.upto octetBitsSpec)

/-- 'ouroboroslaw01.OctetBack', WHERE WHAT IT READS IS OF BULK AT MOST 1048576: true; the input reads as it did. -/
def octetBackUptoRow : OpenClaim := { program := "ytkmlaljahbckkaa", sum := "db7192e4184129cf9d90e29bbdd0d79f199df61542073da7bc72440ee024eb15", func := "ouroboros/ouroboroslaw01.OctetBack", spec := "octetBack", inPlace := ["internal/abi.NoEscape", "internal/bytealg.MakeNoZero"], unfollowed := true, recurses := true, apart := false, narrowed := true }
def OctetBackUptoSaid : Prop := octetBackUptoRow.holds Try.pinned (OpenSpec.upto octetBackSpec)

/-- 'ouroboroslaw01.OctetTurns', WHERE WHAT IT READS IS OF BULK AT MOST 1048576: true; the input reads as it did. -/
def octetTurnsUptoRow : OpenClaim := { program := "ytkmlaljahbckkaa", sum := "db7192e4184129cf9d90e29bbdd0d79f199df61542073da7bc72440ee024eb15", func := "ouroboros/ouroboroslaw01.OctetTurns", spec := "octetTurns", inPlace := ["internal/abi.NoEscape", "internal/bytealg.MakeNoZero"], unfollowed := true, recurses := true, apart := false, narrowed := true }
def OctetTurnsUptoSaid : Prop := octetTurnsUptoRow.holds Try.pinned (OpenSpec.upto octetTurnsSpec)

/-- 'ouroboroslaw01.OctetCounts', WHERE WHAT IT READS IS OF BULK AT MOST 1048576: true; the input reads as it did. -/
def octetCountsUptoRow : OpenClaim := { program := "ytkmlaljahbckkaa", sum := "db7192e4184129cf9d90e29bbdd0d79f199df61542073da7bc72440ee024eb15", func := "ouroboros/ouroboroslaw01.OctetCounts", spec := "octetCounts", inPlace := ["internal/abi.NoEscape", "internal/bytealg.MakeNoZero"], unfollowed := true, recurses := true, apart := false, narrowed := true }
def OctetCountsUptoSaid : Prop := octetCountsUptoRow.holds Try.pinned (OpenSpec.upto octetCountsSpec)

/-- 'ouroboroslaw01.OctetLattice', WHERE WHAT IT READS IS OF BULK AT MOST 1048576: true; the input reads as it did. -/
def octetLatticeUptoRow : OpenClaim := { program := "ytkmlaljahbckkaa", sum := "db7192e4184129cf9d90e29bbdd0d79f199df61542073da7bc72440ee024eb15", func := "ouroboros/ouroboroslaw01.OctetLattice", spec := "octetLattice", inPlace := ["internal/abi.NoEscape", "internal/bytealg.MakeNoZero"], unfollowed := true, recurses := true, apart := false, narrowed := true }
def OctetLatticeUptoSaid : Prop := octetLatticeUptoRow.holds Try.pinned (OpenSpec.upto octetLatticeSpec)

/-- 'ouroboroslaw01.OctetParts', WHERE WHAT IT READS IS OF BULK AT MOST 1048576: true; the input reads as it did. -/
def octetPartsUptoRow : OpenClaim := { program := "ytkmlaljahbckkaa", sum := "db7192e4184129cf9d90e29bbdd0d79f199df61542073da7bc72440ee024eb15", func := "ouroboros/ouroboroslaw01.OctetParts", spec := "octetParts", inPlace := ["internal/abi.NoEscape", "internal/bytealg.MakeNoZero"], unfollowed := true, recurses := true, apart := false, narrowed := true }
def OctetPartsUptoSaid : Prop := octetPartsUptoRow.holds Try.pinned (OpenSpec.upto octetPartsSpec)

end Rows
end Go.Proofs.Ytkmlaljahbckkaa
