/- Texts of this proof, one behind the other: OctT. -/
import Derived.Test.YtmabpnkdagipfaaGreatJ1
import Derived.Test.YtmabpnkdagipfaaGreatJ5
import Derived.Test.YtmabpnkdagipfaaGreatJ10
import Derived.Test.YtmabpnkdagipfaaGreatJ18

/- octet's contracts on texts. -/
namespace Go.Proofs.YtmabpnkdagipfaaGreat
open Go.RowKit

theorem oand_t (a b : ByteArray) (w : World) (ha : a.size ≤ 140737488355328) (hb : b.size ≤ 140737488355328) :
    Calls Tryz.prog 155 #[.string a, .string b] w fun e w' => e = .returned (.string (andT a b)) ∧ Ups w w' := and_calls a b w ha hb
theorem oor_t (a b : ByteArray) (w : World) (ha : a.size ≤ 140737488355328) (hb : b.size ≤ 140737488355328) :
    Calls Tryz.prog 151 #[.string a, .string b] w fun e w' => e = .returned (.string (orT a b)) ∧ Ups w w' := or_calls a b w ha hb
theorem onot_t (a : ByteArray) (w : World) (ha : a.size ≤ 140737488355328) :
    Calls Tryz.prog 50 #[.string a] w fun e w' => e = .returned (.string (notT a)) ∧ Ups w w' := not_calls a w ha
theorem oones_t (n : Nat) (w : World) (h : n ≤ 100000) :
    Calls Tryz.prog 55 #[.int .i64 n] w fun e w' => e = .returned (.string (onesT n)) ∧ Ups w w' := ones_calls n w h

end Go.Proofs.YtmabpnkdagipfaaGreat
