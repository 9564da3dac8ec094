/- Texts of this proof, one behind the other: Count. -/
import Derived.Test.YtmabpnkdagipfaaGreatProg
import Derived.WalkSpells
import Derived.WalkLawsBesides
import Derived.KernelRfl
import Derived.Test.YtmabpnkdagipfaaGreatJ2
import Derived.Test.YtmabpnkdagipfaaGreatJ17

/- What octet.Count and octet.Ones come to: walked; the library's part by the shelf. -/
namespace Go.Proofs.YtmabpnkdagipfaaGreat
open Go.RowKit

theorem repeat_ff (n : Nat) : Lib.repeatL [255] n = List.replicate n 255 := by
  induction n with
  | zero => rfl
  | succ n ih => simp only [Lib.repeatL, ih, List.replicate_succ]; rfl

theorem ones_none (n : Int) (w : World) (h : n < 0 ∨ 100000 < n) :
    Calls Tryz.prog 55 #[.int .i64 n] w fun e w' => e = .returned (.string (bs [])) ∧ w = w' := by
  by_cases h1 : n < 0
  · go_enter Tryz.func55, Tryz.ntmps55
    go_wp2
    go_ret
    exact ⟨rfl, rfl⟩
  · have h2 : 100000 < n := by omega
    clear h
    go_enter Tryz.func55, Tryz.ntmps55
    go_wp2
    go_ret
    exact ⟨rfl, rfl⟩

theorem ones_calls (n : Nat) (w : World) (h : n ≤ 100000) :
    Calls Tryz.prog 55 #[.int .i64 n] w fun e w' => e = .returned (.string (bs (List.replicate n 255))) ∧ Below w.heap.size w w' := by
  have h1 : ¬ (n : Int) < 0 := by omega
  have h2 : ¬ (100000 : Int) < n := by omega
  have hff := repeat_ff n
  have HFF := Lib.hid hff
  clear hff
  go_enter Tryz.func55, Tryz.ntmps55
  go_wp2_with (go_at_call 79; refine (Tryz.strings_Repeat _ n _ (by omega) (by simp [ByteArray.size]; omega)).mono ?_; rintro e w' ⟨rfl, hb⟩)
  go_ret
  refine ⟨?_, hb⟩
  show Ending.returned (.string ⟨(Lib.repeatL [255] n).toArray⟩) = _
  rw [HFF.out]; rfl

end Go.Proofs.YtmabpnkdagipfaaGreat
