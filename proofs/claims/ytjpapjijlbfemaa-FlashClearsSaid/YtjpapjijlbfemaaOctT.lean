/- octet's contracts on texts. -/
import Derived.Test.YtjpapjijlbfemaaBits
import Derived.Test.YtjpapjijlbfemaaMix
import Derived.Test.YtjpapjijlbfemaaCount
import Derived.Test.YtjpapjijlbfemaaGrow
namespace Go.Proofs.Ytjpapjijlbfemaa
open Go.RowKit

theorem oand_t (a b : ByteArray) (w : World) (ha : a.size ≤ 140737488355328) (hb : b.size ≤ 140737488355328) :
    Calls Try.prog 29 #[.string a, .string b] w fun e w' => e = .returned (.string (andT a b)) ∧ Ups w w' := and_calls a b w ha hb
theorem oor_t (a b : ByteArray) (w : World) (ha : a.size ≤ 140737488355328) (hb : b.size ≤ 140737488355328) :
    Calls Try.prog 27 #[.string a, .string b] w fun e w' => e = .returned (.string (orT a b)) ∧ Ups w w' := or_calls a b w ha hb
theorem oxor_t (a b : ByteArray) (w : World) (ha : a.size ≤ 140737488355328) (hb : b.size ≤ 140737488355328) :
    Calls Try.prog 31 #[.string a, .string b] w fun e w' => e = .returned (.string (xorT a b)) ∧ Ups w w' := xor_calls a b w ha hb
theorem onot_t (a : ByteArray) (w : World) (ha : a.size ≤ 140737488355328) :
    Calls Try.prog 100 #[.string a] w fun e w' => e = .returned (.string (notT a)) ∧ Ups w w' := not_calls a w ha
theorem oones_t (n : Nat) (w : World) (h : n ≤ 100000) :
    Calls Try.prog 44 #[.int .i64 n] w fun e w' => e = .returned (.string (onesT n)) ∧ Ups w w' := ones_calls n w h

end Go.Proofs.Ytjpapjijlbfemaa
