/- The law CrcUnlike of layer 2: walked. -/
import Derived.Test.YtghobgpogifjfaaArr
import Derived.Outline
namespace Go.Proofs.Ytghobgpogifjfaa
open Go.RowKit

set_option maxRecDepth 100000 in
set_option maxHeartbeats 1000000 in
theorem unlike_walk (s : ByteArray) (at_ t0 t1 t2 t3 : UInt8) (w : World) :
    Calls Try.prog 8 #[.string s, .int .u8 at_.toNat, .agg (arrCells t0 t1 t2 t3)] w fun e w' => e = .returned (.bool true) ∧ Below w.heap.size w w' := by
  have hb0 : Below w.heap.size w (w.alloc (.cells (arrCells t0 t1 t2 t3) 33 (0, 0))) := (Below.refl _ w).alloc (Nat.le_refl _) _
  by_cases h1 : (200 : Int) < s.size
  · go_enter Try.func8, Try.ntmps8
    go_wp2_with fail
    refine (works2 _).mono ?_
    rintro e w1 ⟨rfl, hb1⟩
    go_wp2_with fail
    exact bodyPost_ret (v := .bool true) (results_one rfl rfl) rfl ⟨rfl, Ups.trans hb0 hb1⟩
  by_cases h2 : (s.size : Int) < 4
  · go_enter Try.func8, Try.ntmps8
    go_wp2_with fail
    refine (works2 _).mono ?_
    rintro e w1 ⟨rfl, hb1⟩
    go_wp2_with fail
    exact bodyPost_ret (v := .bool true) (results_one rfl rfl) rfl ⟨rfl, Ups.trans hb0 hb1⟩
  · have hat := at_.toNat_lt
    have e3 : (s.size : Int) - 3 = ((s.size - 3 : Nat) : Int) := by omega
    have hk : (at_.toNat : Int) % ((s.size : Int) - 3) = ((at_.toNat % (s.size - 3) : Nat) : Int) := by rw [e3]; norm_cast
    have hk2 : at_.toNat % (s.size - 3) < s.size - 3 := Nat.mod_lt _ (by omega)
    have hne : ¬ (s.size : Int) - 3 = 0 := by omega
    clear e3
    generalize at_.toNat % (s.size - 3) = k at *
    have hk300 : k ≤ 1000 := by omega
    go_enter Try.func8, Try.ntmps8
    go_wp2_with fail
    refine (works2 _).mono ?_
    rintro e w1 ⟨rfl, hb1⟩
    have hArr := (ArrAt.new w t0 t1 t2 t3).ups hb1
    go_wp2_with fail
    refine wp_region_mixed (n := 56) (ks := [.is (.string s), .is (.int .i64 k), .sl (List.replicate k 0), .is (.string (bs (List.replicate k 0))), .is (.pointer (some ⟨w.heap.size, 0, none⟩)), .is (.int .u8 t0.toNat), .is (.pointer (some ⟨w.heap.size, 1, none⟩)), .is (.int .u8 t1.toNat), .is (.pointer (some ⟨w.heap.size, 2, none⟩)), .is (.int .u8 t2.toNat), .is (.pointer (some ⟨w.heap.size, 3, none⟩)), .is (.int .u8 t3.toNat), .sl [t0, t1, t2, t3], .is (.string (bs [t0, t1, t2, t3])), .is (.string (turnT k t0 t1 t2 t3)), .is (.string (tXor s (turnT k t0 t1 t2 t3))), .is (.string (tXor s (turnT k t0 t1 t2 t3)))]) (by decide +kernel) (by decide +kernel) (by simp) rfl rfl ?_ ?_
    · refine And.intro (fun a' W hO hU H HS => ?_) ?_
      · have h0 := (hO 0 rfl).trans rfl
        exact growUpon_value (by simp [go_sem, h0]) rfl
      refine And.intro (fun a' W hO hU H HS => ?_) ?_
      · have h8 := (hO 8 rfl).trans rfl
        exact growUpon_value (by simp [go_sem, h8, hk]) rfl
      refine And.intro (fun a' W hO hU H HS => ?_) ?_
      · have h29 := H 1 29 _ rfl rfl
        exact arr_make k hk300 rfl (eval_tmp h29) (eval_tmp h29)
      refine And.intro (fun a' W hO hU H HS => ?_) ?_
      · obtain ⟨v, hv, b, e, l, c⟩ := HS 2 30 _ rfl rfl
        exact growUpon_value (arr_conv hv e c rfl) rfl
      refine And.intro (fun a' W hO hU H HS => ?_) ?_
      · have h5 := (hO 5 rfl).trans rfl
        exact growUpon_value (by simp [go_sem, h5]) rfl
      refine And.intro (fun a' W hO hU H HS => ?_) ?_
      · have h32 := H 4 32 _ rfl rfl
        obtain ⟨c0, c1, c2, c3⟩ := (hArr.drew.ups hU).cell
        exact growUpon_value (by simp [go_sem, h32, c0]) rfl
      refine And.intro (fun a' W hO hU H HS => ?_) ?_
      · have h5 := (hO 5 rfl).trans rfl
        exact growUpon_value (by simp [go_sem, h5]) rfl
      refine And.intro (fun a' W hO hU H HS => ?_) ?_
      · have h34 := H 6 34 _ rfl rfl
        obtain ⟨c0, c1, c2, c3⟩ := (hArr.drew.ups hU).cell
        exact growUpon_value (by simp [go_sem, h34, c1]) rfl
      refine And.intro (fun a' W hO hU H HS => ?_) ?_
      · have h5 := (hO 5 rfl).trans rfl
        exact growUpon_value (by simp [go_sem, h5]) rfl
      refine And.intro (fun a' W hO hU H HS => ?_) ?_
      · have h36 := H 8 36 _ rfl rfl
        obtain ⟨c0, c1, c2, c3⟩ := (hArr.drew.ups hU).cell
        exact growUpon_value (by simp [go_sem, h36, c2]) rfl
      refine And.intro (fun a' W hO hU H HS => ?_) ?_
      · have h5 := (hO 5 rfl).trans rfl
        exact growUpon_value (by simp [go_sem, h5]) rfl
      refine And.intro (fun a' W hO hU H HS => ?_) ?_
      · have h38 := H 10 38 _ rfl rfl
        obtain ⟨c0, c1, c2, c3⟩ := (hArr.drew.ups hU).cell
        exact growUpon_value (by simp [go_sem, h38, c3]) rfl
      refine And.intro (fun a' W hO hU H HS => ?_) ?_
      · have h33 := H 5 33 _ rfl rfl
        have h35 := H 7 35 _ rfl rfl
        have h37 := H 9 37 _ rfl rfl
        have h39 := H 11 39 _ rfl rfl
        exact arr_lit (by simp [go_sem, h33, h35, h37, h39] <;> rfl)
      refine And.intro (fun a' W hO hU H HS => ?_) ?_
      · obtain ⟨v, hv, b, e, l, c⟩ := HS 12 40 _ rfl rfl
        exact growUpon_value (arr_conv hv e c rfl) rfl
      refine And.intro (fun a' W hO hU H HS => ?_) ?_
      · have h31 := H 3 31 _ rfl rfl
        have h41 := H 13 41 _ rfl rfl
        exact growUpon_value (by simp [go_sem, h31, h41, bs_size, turnT] <;> omega) rfl
      refine And.intro (fun a' W hO hU H HS => ?_) ?_
      · have h28 := H 0 28 _ rfl rfl
        have h42 := H 14 42 _ rfl rfl
        exact growUpon_call (x := .string (tXor s (turnT k t0 t1 t2 t3))) (args := #[.string s, .string (turnT k t0 t1 t2 t3)]) (by simp [go_sem, h28, h42]) (xor_t _ _ _ (by omega) (by rw [turnT_size]; omega)) (fun _ => rfl)
      refine And.intro (fun a' W hO hU H HS => ?_) ?_
      · have h43 := H 15 43 _ rfl rfl
        exact growUpon_value (by simp [go_sem, h43]) rfl
      exact trivial
    · intro W xs hU hks
      obtain ⟨y0, rfl, g0⟩ := asKinds_is hks
      obtain ⟨y1, rfl, g1⟩ := asKinds_is g0
      obtain ⟨v2, y2, rfl, g2⟩ := asKinds_sl g1
      obtain ⟨y3, rfl, g3⟩ := asKinds_is g2
      obtain ⟨y4, rfl, g4⟩ := asKinds_is g3
      obtain ⟨y5, rfl, g5⟩ := asKinds_is g4
      obtain ⟨y6, rfl, g6⟩ := asKinds_is g5
      obtain ⟨y7, rfl, g7⟩ := asKinds_is g6
      obtain ⟨y8, rfl, g8⟩ := asKinds_is g7
      obtain ⟨y9, rfl, g9⟩ := asKinds_is g8
      obtain ⟨y10, rfl, g10⟩ := asKinds_is g9
      obtain ⟨y11, rfl, g11⟩ := asKinds_is g10
      obtain ⟨v12, y12, rfl, g12⟩ := asKinds_sl g11
      obtain ⟨y13, rfl, g13⟩ := asKinds_is g12
      obtain ⟨y14, rfl, g14⟩ := asKinds_is g13
      obtain ⟨y15, rfl, g15⟩ := asKinds_is g14
      obtain ⟨y16, rfl, g16⟩ := asKinds_is g15
      obtain rfl := asKinds_nil g16
      clear hks g0 g1 g2 g3 g4 g5 g6 g7 g8 g9 g10 g11 g12 g13 g14 g15 g16
      have hArr2 := hArr.drew.ups hU
      simp only [endTmps, List.setIfInBounds_toArray, List.set]
      have hX := sum_turn s k t0 t1 t2 t3 (by omega)
      have hXz := tXor_size s (turnT k t0 t1 t2 t3)
      generalize tXor s (turnT k t0 t1 t2 t3) = X at *
      go_wp2_with fail
      have hsX : X.size ≤ 300 := by omega
      clear hXz hne hk hk2 hk300 hat
      by_cases hz : zeros4 t0 t1 t2 t3
      · have hsum := hX.2 hz
        have hZ := (zeros4_beq t0 t1 t2 t3).2 hz
        clear hX
        refine wp_region_mixed (n := 56) (ks := [.is (.bool true), .is (.bool true), .is (.string s), .is (.int .i64 (sumT s)), .is (.string X), .is (.int .i64 (sumT X)), .is (.bool true), .is (.agg (arrCells t0 t1 t2 t3)), .is (.agg (arrCells 0 0 0 0)), .is (.bool true), .is (.bool true), .is (.bool true), .is (.bool true)]) (by decide +kernel) (by decide +kernel) (by simp) rfl rfl ?_ ?_
        · refine And.intro (fun a' W hO hU2 H HS => ?_) ?_
          · have h7 := (hO 7 rfl).trans rfl
            exact growUpon_value (by simp [go_sem, h7]) rfl
          refine And.intro (fun a' W hO hU2 H HS => ?_) ?_
          · have h44 := H 0 44 _ rfl rfl
            exact growUpon_value (by simp [go_sem, h44]) rfl
          refine And.intro (fun a' W hO hU2 H HS => ?_) ?_
          · have h0 := (hO 0 rfl).trans rfl
            exact growUpon_value (by simp [go_sem, h0]) rfl
          refine And.intro (fun a' W hO hU2 H HS => ?_) ?_
          · have h46 := H 2 46 _ rfl rfl
            exact growUpon_call (x := .int .i64 (sumT s)) (args := #[.string s]) (by simp [go_sem, h46]) (sum_t s _ (by omega)) (fun _ => rfl)
          refine And.intro (fun a' W hO hU2 H HS => ?_) ?_
          · have h9 := (hO 9 rfl).trans rfl
            exact growUpon_value (by simp [go_sem, h9]) rfl
          refine And.intro (fun a' W hO hU2 H HS => ?_) ?_
          · have h48 := H 4 48 _ rfl rfl
            exact growUpon_call (x := .int .i64 (sumT X)) (args := #[.string X]) (by simp [go_sem, h48]) (sum_t X _ (by omega)) (fun _ => rfl)
          refine And.intro (fun a' W hO hU2 H HS => ?_) ?_
          · have h47 := H 3 47 _ rfl rfl
            have h49 := H 5 49 _ rfl rfl
            exact growUpon_value (by simp [go_sem, h47, h49, hsum]) rfl
          refine And.intro (fun a' W hO hU2 H HS => ?_) ?_
          · have h5 := (hO 5 rfl).trans rfl
            exact growUpon_value (arr_load (hArr2.drew.ups hU2) _ _ _ rfl (eval_tmp h5)) rfl
          refine And.intro (fun a' W hO hU2 H HS => ?_) ?_
          · exact growUpon_value (arr_zero _ _ _ rfl) rfl
          refine And.intro (fun a' W hO hU2 H HS => ?_) ?_
          · have h51 := H 7 51 _ rfl rfl
            have h52 := H 8 52 _ rfl rfl
            refine growUpon_value (arr_eql t0 t1 t2 t3 _ _ _ _ _ rfl (eval_tmp h51) (eval_tmp h52)) ?_
            rw [hZ]
            rfl
          refine And.intro (fun a' W hO hU2 H HS => ?_) ?_
          · have h50 := H 6 50 _ rfl rfl
            have h53 := H 9 53 _ rfl rfl
            exact growUpon_value (by simp [go_sem, h50, h53]) rfl
          refine And.intro (fun a' W hO hU2 H HS => ?_) ?_
          · have h45 := H 1 45 _ rfl rfl
            have h54 := H 10 54 _ rfl rfl
            exact growUpon_value (by simp [go_sem, h45, h54]) rfl
          refine And.intro (fun a' W hO hU2 H HS => ?_) ?_
          · have h55 := H 11 55 _ rfl rfl
            exact growUpon_value (by simp [go_sem, h55]) rfl
          exact trivial
        · intro W3 xs hU3 hks
          obtain ⟨z0, rfl, g0⟩ := asKinds_is hks
          obtain ⟨z1, rfl, g1⟩ := asKinds_is g0
          obtain ⟨z2, rfl, g2⟩ := asKinds_is g1
          obtain ⟨z3, rfl, g3⟩ := asKinds_is g2
          obtain ⟨z4, rfl, g4⟩ := asKinds_is g3
          obtain ⟨z5, rfl, g5⟩ := asKinds_is g4
          obtain ⟨z6, rfl, g6⟩ := asKinds_is g5
          obtain ⟨z7, rfl, g7⟩ := asKinds_is g6
          obtain ⟨z8, rfl, g8⟩ := asKinds_is g7
          obtain ⟨z9, rfl, g9⟩ := asKinds_is g8
          obtain ⟨z10, rfl, g10⟩ := asKinds_is g9
          obtain ⟨z11, rfl, g11⟩ := asKinds_is g10
          obtain ⟨z12, rfl, g12⟩ := asKinds_is g11
          obtain rfl := asKinds_nil g12
          simp only [endTmps, List.setIfInBounds_toArray, List.set]
          go_wp2_with fail
          exact bodyPost_ret (v := .bool true) (results_one rfl rfl) rfl ⟨rfl, Ups.trans (Ups.trans hb0 (Ups.trans hb1 hU.undrew)) hU3.undrew⟩
      · have hsum : ¬ sumT s = sumT X := fun e => hz (hX.1 e.symm)
        have hZ : (t0 == 0 && t1 == 0 && t2 == 0 && t3 == 0) = false := by
          cases h : (t0 == 0 && t1 == 0 && t2 == 0 && t3 == 0) with
          | false => rfl
          | true => exact absurd ((zeros4_beq t0 t1 t2 t3).1 h) hz
        have hne : ((sumT s : Int) == (sumT X : Int)) = false := by
          rw [beq_eq_false_iff_ne]
          intro e
          exact hsum (by omega)
        clear hX
        refine wp_region_mixed (n := 56) (ks := [.is (.bool true), .is (.bool true), .is (.string s), .is (.int .i64 (sumT s)), .is (.string X), .is (.int .i64 (sumT X)), .is (.bool false), .is (.agg (arrCells t0 t1 t2 t3)), .is (.agg (arrCells 0 0 0 0)), .is (.bool false), .is (.bool true), .is (.bool true), .is (.bool true)]) (by decide +kernel) (by decide +kernel) (by simp) rfl rfl ?_ ?_
        · refine And.intro (fun a' W hO hU2 H HS => ?_) ?_
          · have h7 := (hO 7 rfl).trans rfl
            exact growUpon_value (by simp [go_sem, h7]) rfl
          refine And.intro (fun a' W hO hU2 H HS => ?_) ?_
          · have h44 := H 0 44 _ rfl rfl
            exact growUpon_value (by simp [go_sem, h44]) rfl
          refine And.intro (fun a' W hO hU2 H HS => ?_) ?_
          · have h0 := (hO 0 rfl).trans rfl
            exact growUpon_value (by simp [go_sem, h0]) rfl
          refine And.intro (fun a' W hO hU2 H HS => ?_) ?_
          · have h46 := H 2 46 _ rfl rfl
            exact growUpon_call (x := .int .i64 (sumT s)) (args := #[.string s]) (by simp [go_sem, h46]) (sum_t s _ (by omega)) (fun _ => rfl)
          refine And.intro (fun a' W hO hU2 H HS => ?_) ?_
          · have h9 := (hO 9 rfl).trans rfl
            exact growUpon_value (by simp [go_sem, h9]) rfl
          refine And.intro (fun a' W hO hU2 H HS => ?_) ?_
          · have h48 := H 4 48 _ rfl rfl
            exact growUpon_call (x := .int .i64 (sumT X)) (args := #[.string X]) (by simp [go_sem, h48]) (sum_t X _ (by omega)) (fun _ => rfl)
          refine And.intro (fun a' W hO hU2 H HS => ?_) ?_
          · have h47 := H 3 47 _ rfl rfl
            have h49 := H 5 49 _ rfl rfl
            exact growUpon_value (by simp [go_sem, h47, h49, hne]) rfl
          refine And.intro (fun a' W hO hU2 H HS => ?_) ?_
          · have h5 := (hO 5 rfl).trans rfl
            exact growUpon_value (arr_load (hArr2.drew.ups hU2) _ _ _ rfl (eval_tmp h5)) rfl
          refine And.intro (fun a' W hO hU2 H HS => ?_) ?_
          · exact growUpon_value (arr_zero _ _ _ rfl) rfl
          refine And.intro (fun a' W hO hU2 H HS => ?_) ?_
          · have h51 := H 7 51 _ rfl rfl
            have h52 := H 8 52 _ rfl rfl
            refine growUpon_value (arr_eql t0 t1 t2 t3 _ _ _ _ _ rfl (eval_tmp h51) (eval_tmp h52)) ?_
            rw [hZ]
            rfl
          refine And.intro (fun a' W hO hU2 H HS => ?_) ?_
          · have h50 := H 6 50 _ rfl rfl
            have h53 := H 9 53 _ rfl rfl
            exact growUpon_value (by simp [go_sem, h50, h53]) rfl
          refine And.intro (fun a' W hO hU2 H HS => ?_) ?_
          · have h45 := H 1 45 _ rfl rfl
            have h54 := H 10 54 _ rfl rfl
            exact growUpon_value (by simp [go_sem, h45, h54]) rfl
          refine And.intro (fun a' W hO hU2 H HS => ?_) ?_
          · have h55 := H 11 55 _ rfl rfl
            exact growUpon_value (by simp [go_sem, h55]) rfl
          exact trivial
        · intro W3 xs hU3 hks
          obtain ⟨z0, rfl, g0⟩ := asKinds_is hks
          obtain ⟨z1, rfl, g1⟩ := asKinds_is g0
          obtain ⟨z2, rfl, g2⟩ := asKinds_is g1
          obtain ⟨z3, rfl, g3⟩ := asKinds_is g2
          obtain ⟨z4, rfl, g4⟩ := asKinds_is g3
          obtain ⟨z5, rfl, g5⟩ := asKinds_is g4
          obtain ⟨z6, rfl, g6⟩ := asKinds_is g5
          obtain ⟨z7, rfl, g7⟩ := asKinds_is g6
          obtain ⟨z8, rfl, g8⟩ := asKinds_is g7
          obtain ⟨z9, rfl, g9⟩ := asKinds_is g8
          obtain ⟨z10, rfl, g10⟩ := asKinds_is g9
          obtain ⟨z11, rfl, g11⟩ := asKinds_is g10
          obtain ⟨z12, rfl, g12⟩ := asKinds_is g11
          obtain rfl := asKinds_nil g12
          simp only [endTmps, List.setIfInBounds_toArray, List.set]
          go_wp2_with fail
          exact bodyPost_ret (v := .bool true) (results_one rfl rfl) rfl ⟨rfl, Ups.trans (Ups.trans hb0 (Ups.trans hb1 hU.undrew)) hU3.undrew⟩

end Go.Proofs.Ytghobgpogifjfaa
