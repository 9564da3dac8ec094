/- Texts of this proof, one behind the other: RefPut. -/
import Derived.Test.YtmabpnkdagipfaaJ8
import Derived.Test.YtmabpnkdagipfaaJ12

/- What ouroborosref01.Put, Get, Ones, Not and Count come to: walked once each. -/
namespace Go.Proofs.Ytmabpnkdagipfaa
open Go.RowKit

theorem vsN_rem (n k : Nat) : vsN n k % 256 = psN n k := by unfold vsN psN; omega
theorem vsN_le (n k : Nat) : 0 ≤ vsN n k ∧ vsN n k ≤ n := by
  have := Nat.div_le_self n (256 ^ k)
  unfold vsN
  generalize n / 256 ^ k = m at *
  omega

end Go.Proofs.Ytmabpnkdagipfaa
