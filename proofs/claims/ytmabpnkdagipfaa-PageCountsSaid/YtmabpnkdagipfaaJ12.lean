/- Texts of this proof, one behind the other: RefMem, RefXor, RefNot, RefAnd, RefOr. -/
import Derived.Test.YtmabpnkdagipfaaProg
import Derived.WalkSpells
import Derived.WalkLawsBesides
import Derived.KernelRfl
import Derived.Laws.BitsAllLaws
import Derived.Deep.AppendLies
import Derived.Test.YtmabpnkdagipfaaJ2

/- What ouroborosref01's functions come to: walked once each. -/
namespace Go.Proofs.Ytmabpnkdagipfaa
open Go.RowKit

theorem info_u8 : (Try.prog.info? 5).map (fun i => (i.zero, i.size, i.bytes)) = some (some (.int .u8 0), 1, 1) := by kernel_rfl

/-- A byte as a value. -/
def enc8 (c : UInt8) : Value := .int .u8 c.toNat
theorem enc8_one (c : UInt8) : (enc8 c).oneCell' = true := rfl

/-- 'string(b)' of a row of the call's own. -/
theorem string_of_own {w : World} {B : Nat} {v : Value} {l : List UInt8} (h : w.ownsRow B 5 1 v l.length (l.map enc8)) :
    (convert 72 9 v).run Try.prog w = .ok (.string (bs l)) w := by
  rcases Nat.eq_zero_or_pos l.length with h0 | h0
  · have hl : l = [] := List.eq_nil_of_length_eq_zero h0
    subst hl
    rcases h.2 with ⟨rfl, _⟩ | ⟨g, cap, cur, rfl, _, _, _, _⟩
    · rw [run_convert_bytes_string w 72 9 5 none 0 0 Try.underlying72 Try.underlying5 Try.underlying9]
      rfl
    · exact run_convert_bytes_back (P := Try.prog) w 72 9 5 ⟨g, 0, none⟩ cap [] Try.underlying72 Try.underlying5 Try.underlying9 (fun j hj => by simp at hj)
  · obtain ⟨g, cap, rfl, _, _⟩ := h.form h0
    exact run_convert_bytes_back (P := Try.prog) w 72 9 5 ⟨g, 0, none⟩ cap l Try.underlying72 Try.underlying5 Try.underlying9 (fun j hj => by
      have := h.cells (g := g) rfl j (enc8 l[j]) (by simp [hj])
      simpa [enc8] using this)

theorem own_base {w : World} {B : Nat} {e : TypeId} {size n : Nat} {v : Value} {xs : List Value} (h : w.ownsRow B e size v n xs) {g : Nat} (hg : v.ownBlock = some g) : B ≤ g := by
  rcases h.2 with ⟨rfl, _⟩ | ⟨g', cap, cur, rfl, hb, _⟩
  · simp [Value.ownBlock] at hg
  · simp [Value.ownBlock] at hg
    omega

/-- Behind an append of one element. -/
theorem below_append {w wr w1 : World} {o : Obj} {e : TypeId} {size n : Nat} {v : Value} {xs : List Value} (hb : Below w.heap.size w wr) (h : wr.ownsRow w.heap.size e size v n xs) (hg : (wr.alloc o).grownBy w1 v.ownBlock) : Below w.heap.size w w1 :=
  (hb.alloc hb.size o).grown hg (by have := hb.size; simp; omega) (fun _ hk => own_base h hk)

/-- A row with one byte more. -/
theorem own_snoc {w : World} {B : Nat} {v : Value} {l : List UInt8} {c : UInt8} (h : w.ownsRow B 5 1 v (l.length + 1) (l.map enc8 ++ [enc8 c])) : w.ownsRow B 5 1 v (l ++ [c]).length ((l ++ [c]).map enc8) := by
  simpa using h

theorem mixL_get (f : UInt8 → UInt8 → UInt8) (a b : List UInt8) (k : Nat) (h : k < a.length) (h' : k < (mixL f a b).length) : (mixL f a b)[k] = if hb : k < b.length then f a[k] b[k] else a[k] := by
  induction k generalizing a b with
  | zero =>
    match a, b, h with
    | x :: a, [], _ => simp [mixL]
    | x :: a, y :: b, _ => simp [mixL]
  | succ k ih =>
    match a, b, h with
    | x :: a, [], _ => simp [mixL]
    | x :: a, y :: b, h => simp only [mixL, List.getElem_cons_succ, List.length_cons, Nat.add_lt_add_iff_right]; exact ih a b (by simpa using h) _

end Go.Proofs.Ytmabpnkdagipfaa

/- What ouroborosref01.Xor comes to: walked. -/
namespace Go.Proofs.Ytmabpnkdagipfaa
open Go.RowKit

theorem ref_xor_bits (x y : UInt8) : bits .xor .u8 x.toNat y.toNat = ((xorB x y).toNat : Int) := by rw [u8_xor_nat _ _ x.toNat_lt y.toNat_lt]; rfl

end Go.Proofs.Ytmabpnkdagipfaa

/- What ouroborosref01.Ones and Not come to: walked. -/
namespace Go.Proofs.Ytmabpnkdagipfaa
open Go.RowKit

theorem xor_ones (l : List UInt8) : mixL xorB (List.replicate l.length 255) l = notL l := by
  rw [notL_map]
  induction l with
  | nil => rfl
  | cons c l ih =>
    simp only [List.length_cons, List.replicate_succ, mixL, List.map_cons, ih]
    congr 1

end Go.Proofs.Ytmabpnkdagipfaa

/- What ouroborosref01.And comes to: walked. -/
namespace Go.Proofs.Ytmabpnkdagipfaa
open Go.RowKit

theorem ref_and_bits (x y : UInt8) : bits .and .u8 x.toNat y.toNat = ((andB x y).toNat : Int) := by rw [u8_and_nat _ _ x.toNat_lt y.toNat_lt]; rfl

end Go.Proofs.Ytmabpnkdagipfaa

/- What ouroborosref01.Or comes to: walked. -/
namespace Go.Proofs.Ytmabpnkdagipfaa
open Go.RowKit

theorem ref_or_bits (x y : UInt8) : bits .or .u8 x.toNat y.toNat = ((orB x y).toNat : Int) := by rw [u8_or_nat _ _ x.toNat_lt y.toNat_lt]; rfl

end Go.Proofs.Ytmabpnkdagipfaa
