/- Texts of this proof, one behind the other: Rec. -/
import Derived.Outline
import Derived.Test.YtmabpnkdagipfaaGreatJ5
import Derived.Test.YtmabpnkdagipfaaGreatJ9
import Derived.Test.YtmabpnkdagipfaaGreatJ10

/- What record's functions come to. -/
namespace Go.Proofs.YtmabpnkdagipfaaGreat
open Go.RowKit

theorem half_a (s : ByteArray) (n : Nat) : bs (s.data.toList.take n) = s.extract 0 n := text_ext (by rw [bs_toList]; simp [ByteArray.data_extract])

set_option maxRecDepth 100000 in
set_option maxHeartbeats 1000000 in
theorem halves_calls (s : ByteArray) (w : World) (hs : s.size ≤ 140737488355328) :
    Calls Tryz.prog 49 #[.string s] w fun e w' => e = .returned (.tuple #[.string (bs (s.data.toList.take (s.size / 2))), .string (bs (s.data.toList.drop (s.size / 2)))]) ∧ Below w.heap.size w w' := by
  have hcv := fun (w : World) (s : ByteArray) => run_bytes_of_string (P := Tryz.prog) w 9 80 5 s Tryz.underlying9 Tryz.underlying80 Tryz.underlying5
  have hcap := grownCap_ge w s.size 0 5
  have hge : (0 : Int) ≤ (s.size : Int) / 2 ∧ (s.size : Int) / 2 ≤ (grownCap w s.size 0 5 : Int) := by omega
  go_enter Tryz.func49, Tryz.ntmps49
  go_wp2_with fail
  all_goals
    generalize hcap' : grownCap w s.size 0 5 = cap at *
    have hB0 := (Buf.new w 5 s cap).drew
    generalize hz : (bytesRow s cap).size = z at *
    have hBel0 : Below w.heap.size w (w.alloc (.cells (bytesRow s cap) 5 (z, z + 1))).drew := ((Below.refl _ w).alloc (Nat.le_refl _) _).drew
    generalize (w.alloc (.cells (bytesRow s cap) 5 (z, z + 1))).drew = W0 at *
    clear hz hcap' hcv
    have hB1 := hB0.drew
    have hBel1 := hBel0.drew
    generalize hW1 : W0.drew = W1 at *
    have hl : s.data.toList.length = s.size := toList_length s
    have hla : (s.data.toList.take (s.size / 2)).length = s.size / 2 := by rw [List.length_take]; omega
    have hlb : (s.data.toList.drop (s.size / 2)).length = s.size - s.size / 2 := by rw [List.length_drop]; omega
    have cA := run_convert_bytes_back (P := Tryz.prog) W1 80 9 5 ⟨w.heap.size, 0, none⟩ (s.size / 2) (s.data.toList.take (s.size / 2)) Tryz.underlying80 Tryz.underlying5 Tryz.underlying9
      (fun j hj => by rw [addr0, hB1.cell j (by omega)]; simp)
    have cB := run_convert_bytes_back (P := Tryz.prog) W1 80 9 5 ⟨w.heap.size, s.size / 2, none⟩ (cap - s.size / 2) (s.data.toList.drop (s.size / 2)) Tryz.underlying80 Tryz.underlying5 Tryz.underlying9
      (fun j hj => by
        have e : (⟨w.heap.size, s.size / 2, none⟩ : Addr).add j = ⟨w.heap.size, s.size / 2 + j, none⟩ := by
          unfold Addr.add
          by_cases h : j = 0 <;> simp [h]
        rw [e, hB1.cell (s.size / 2 + j) (by omega)]
        simp)
    rw [hla] at cA
    rw [hlb] at cB
    rw [show ({ data := (s.data.toList.take (s.size / 2)).toArray } : ByteArray) = bs (s.data.toList.take (s.size / 2)) from rfl] at cA
    rw [show ({ data := (s.data.toList.drop (s.size / 2)).toArray } : ByteArray) = bs (s.data.toList.drop (s.size / 2)) from rfl] at cB
    have htn : ((s.size : Int) / 2).toNat = s.size / 2 := by omega
    have hif : (if cap = s.size / 2 then some (⟨w.heap.size, 0, none⟩ : Addr) else some ⟨w.heap.size, s.size / 2, none⟩) = some ⟨w.heap.size, s.size / 2, none⟩ := by
      split
      · have : s.size / 2 = 0 := by omega
        rw [this]
      · rfl
    clear hla hlb hB0 hB1 hBel0
    have hge2 : (0 : Int) ≤ (s.size : Int) / 2 ∧ (s.size : Int) / 2 ≤ (s.size : Int) := by omega
    refine wp_region_told (n := 22) (fun A B => A = B) (fun _ => rfl) (fun h1 h2 => h1.trans h2) (xs := [.slice (some ⟨w.heap.size, 0, none⟩) (s.size / 2) (s.size / 2), .string (bs (s.data.toList.take (s.size / 2))), .slice (some ⟨w.heap.size, 0, none⟩) s.size cap, .int .i64 (s.size / 2),
      .slice (some ⟨w.heap.size, s.size / 2, none⟩) (s.size - s.size / 2) (cap - s.size / 2), .string (bs (s.data.toList.drop (s.size / 2))), .string (bs (s.data.toList.take (s.size / 2))), .string (bs (s.data.toList.drop (s.size / 2)))]) (by decide +kernel) (by decide +kernel) (by simp) rfl ?_ rfl ?_
    · refine And.intro (fun a' W hO hU H => ?_) ?_
      · have h6 := (hO 6 rfl).trans rfl
        exact told_value (fun _ => rfl) (by simp [go_sem, toldAt, h6]) rfl
      refine And.intro (fun a' W hO hU H => ?_) ?_
      · have hW : W1 = W := hW1.symm.trans hU
        have h16 := H 0 16 rfl
        rw [← hW]
        exact told_value (fun _ => rfl) (by simp [go_sem, toldAt, h16, cA]) rfl
      refine And.intro (fun a' W hO hU H => ?_) ?_
      · have h4 := (hO 4 rfl).trans rfl
        exact told_value (fun _ => rfl) (by simp [go_sem, toldAt, h4]) rfl
      refine And.intro (fun a' W hO hU H => ?_) ?_
      · have h5 := (hO 5 rfl).trans rfl
        exact told_value (fun _ => rfl) (by simp [go_sem, toldAt, h5]) rfl
      refine And.intro (fun a' W hO hU H => ?_) ?_
      · have h18 := H 2 18 rfl
        have h19 := H 3 19 rfl
        exact told_value (fun _ => rfl) (by simp [go_sem, toldAt, h18, h19, hge2, htn, hif]) rfl
      refine And.intro (fun a' W hO hU H => ?_) ?_
      · have hW : W1 = W := hW1.symm.trans hU
        have h20 := H 4 20 rfl
        rw [← hW]
        exact told_value (fun _ => rfl) (by simp [go_sem, toldAt, h20, cB]) rfl
      refine And.intro (fun a' W hO hU H => ?_) ?_
      · have h17 := H 1 17 rfl
        exact told_value (fun _ => rfl) (by simp [go_sem, toldAt, h17]) rfl
      refine And.intro (fun a' W hO hU H => ?_) ?_
      · have h21 := H 5 21 rfl
        exact told_value (fun _ => rfl) (by simp [go_sem, toldAt, h21]) rfl
      exact trivial
    · intro W hU
      rw [hW1] at hU
      subst hU
      simp only [endTmps, List.setIfInBounds_toArray, List.set]
      go_wp2
      go_ret2
      exact ⟨rfl, hBel1⟩

end Go.Proofs.YtmabpnkdagipfaaGreat
