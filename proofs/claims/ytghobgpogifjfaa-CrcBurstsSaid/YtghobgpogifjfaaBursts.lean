/- The law CrcBursts: walked. -/
import Derived.Test.YtghobgpogifjfaaBurstsP
import Derived.Outline
namespace Go.Proofs.Ytghobgpogifjfaa
open Go.RowKit

set_option maxRecDepth 100000 in
set_option maxHeartbeats 1000000 in
theorem bursts_walk (s : ByteArray) (at_ : Nat) (hat : at_ < 65536) (t0 t1 t2 t3 : UInt8) (w : World) :
    Calls Try.prog 6 #[.string s, .int .u8 at_, .agg (arrCells t0 t1 t2 t3)] w fun e w' => e = .returned (.bool true) ∧ Below w.heap.size w w' := by
  have hb0 : Below w.heap.size w (w.alloc (.cells (arrCells t0 t1 t2 t3) 33 (0, 0))) := (Below.refl _ w).alloc (Nat.le_refl _) _
  by_cases h1 : (200 : Int) < s.size
  · go_enter Try.func6, Try.ntmps6
    go_wp2_with fail
    refine (works2 _).mono ?_
    rintro e w1 ⟨rfl, hb1⟩
    go_wp2_with fail
    exact bodyPost_ret (v := .bool true) (results_one rfl rfl) rfl ⟨rfl, Ups.trans hb0 hb1⟩
  · have hsz := sealT_size s
    have e3 : (s.size : Int) + 1 = ((s.size + 1 : Nat) : Int) := by omega
    have hk : (at_ : Int) % ((s.size : Int) + 1) = ((at_ % (s.size + 1) : Nat) : Int) := by rw [e3]; norm_cast
    have hk2 : at_ % (s.size + 1) ≤ s.size := by have := Nat.mod_lt at_ (show 0 < s.size + 1 by omega); omega
    have hne0 : ¬ (s.size : Int) + 1 = 0 := by omega
    have htx := fun w => seal_calls s w (by omega)
    have hrd := open_turn s (at_ % (s.size + 1)) t0 t1 t2 t3 hk2
    have hsame := turn_same (sealT s) (at_ % (s.size + 1)) t0 t1 t2 t3 (by omega)
    clear e3
    generalize at_ % (s.size + 1) = k at *
    generalize sealT s = T at *
    have hk300 : k ≤ 1000 := by omega
    have hTz : T.size ≤ 500 := by omega
    go_enter Try.func6, Try.ntmps6
    go_wp2_with fail
    refine (works2 _).mono ?_
    rintro e w1 ⟨rfl, hb1⟩
    have hArr1 := (ArrAt.new w t0 t1 t2 t3).ups hb1
    go_wp2_with fail
    refine (htx _).mono ?_
    rintro e w2 ⟨rfl, hb2⟩
    have hArr := hArr1.ups hb2
    clear hArr1
    go_wp2_with fail
    refine wp_region_mixed (n := 74) (ks := [.is (.string T), .is (.int .i64 k), .sl (List.replicate k 0), .is (.string (bs (List.replicate k 0))), .is (.pointer (some ⟨w.heap.size, 0, none⟩)), .is (.int .u8 t0.toNat), .is (.pointer (some ⟨w.heap.size, 1, none⟩)), .is (.int .u8 t1.toNat), .is (.pointer (some ⟨w.heap.size, 2, none⟩)), .is (.int .u8 t2.toNat), .is (.pointer (some ⟨w.heap.size, 3, none⟩)), .is (.int .u8 t3.toNat), .sl [t0, t1, t2, t3], .is (.string (bs [t0, t1, t2, t3])), .is (.string (turnT k t0 t1 t2 t3)), .is (.string (tXor T (turnT k t0 t1 t2 t3))), .is (.string (tXor T (turnT k t0 t1 t2 t3)))]) (by decide +kernel) (by decide +kernel) (by simp) rfl rfl ?_ ?_
    · refine And.intro (fun a' W hO hU H HS => ?_) ?_
      · have h8 := (hO 8 rfl).trans rfl
        exact growUpon_value (by simp [go_sem, h8]) rfl
      refine And.intro (fun a' W hO hU H HS => ?_) ?_
      · have h9 := (hO 9 rfl).trans rfl
        exact growUpon_value (by simp [go_sem, h9, hk]) rfl
      refine And.intro (fun a' W hO hU H HS => ?_) ?_
      · have h30 := H 1 30 _ rfl rfl
        exact arr_make k hk300 rfl (eval_tmp h30) (eval_tmp h30)
      refine And.intro (fun a' W hO hU H HS => ?_) ?_
      · obtain ⟨v, hv, b, e, l, c⟩ := HS 2 31 _ rfl rfl
        exact growUpon_value (arr_conv hv e c rfl) rfl
      refine And.intro (fun a' W hO hU H HS => ?_) ?_
      · have h5 := (hO 5 rfl).trans rfl
        exact growUpon_value (by simp [go_sem, h5]) rfl
      refine And.intro (fun a' W hO hU H HS => ?_) ?_
      · have h33 := H 4 33 _ rfl rfl
        obtain ⟨c0, c1, c2, c3⟩ := (hArr.drew.ups hU).cell
        exact growUpon_value (by simp [go_sem, h33, c0]) rfl
      refine And.intro (fun a' W hO hU H HS => ?_) ?_
      · have h5 := (hO 5 rfl).trans rfl
        exact growUpon_value (by simp [go_sem, h5]) rfl
      refine And.intro (fun a' W hO hU H HS => ?_) ?_
      · have h35 := H 6 35 _ rfl rfl
        obtain ⟨c0, c1, c2, c3⟩ := (hArr.drew.ups hU).cell
        exact growUpon_value (by simp [go_sem, h35, c1]) rfl
      refine And.intro (fun a' W hO hU H HS => ?_) ?_
      · have h5 := (hO 5 rfl).trans rfl
        exact growUpon_value (by simp [go_sem, h5]) rfl
      refine And.intro (fun a' W hO hU H HS => ?_) ?_
      · have h37 := H 8 37 _ rfl rfl
        obtain ⟨c0, c1, c2, c3⟩ := (hArr.drew.ups hU).cell
        exact growUpon_value (by simp [go_sem, h37, c2]) rfl
      refine And.intro (fun a' W hO hU H HS => ?_) ?_
      · have h5 := (hO 5 rfl).trans rfl
        exact growUpon_value (by simp [go_sem, h5]) rfl
      refine And.intro (fun a' W hO hU H HS => ?_) ?_
      · have h39 := H 10 39 _ rfl rfl
        obtain ⟨c0, c1, c2, c3⟩ := (hArr.drew.ups hU).cell
        exact growUpon_value (by simp [go_sem, h39, c3]) rfl
      refine And.intro (fun a' W hO hU H HS => ?_) ?_
      · have h34 := H 5 34 _ rfl rfl
        have h36 := H 7 36 _ rfl rfl
        have h38 := H 9 38 _ rfl rfl
        have h40 := H 11 40 _ rfl rfl
        exact arr_lit (by simp [go_sem, h34, h36, h38, h40] <;> rfl)
      refine And.intro (fun a' W hO hU H HS => ?_) ?_
      · obtain ⟨v, hv, b, e, l, c⟩ := HS 12 41 _ rfl rfl
        exact growUpon_value (arr_conv hv e c rfl) rfl
      refine And.intro (fun a' W hO hU H HS => ?_) ?_
      · have h32 := H 3 32 _ rfl rfl
        have h42 := H 13 42 _ rfl rfl
        exact growUpon_value (by simp [go_sem, h32, h42, bs_size, turnT] <;> omega) rfl
      refine And.intro (fun a' W hO hU H HS => ?_) ?_
      · have h29 := H 0 29 _ rfl rfl
        have h43 := H 14 43 _ rfl rfl
        exact growUpon_call (x := .string (tXor T (turnT k t0 t1 t2 t3))) (args := #[.string T, .string (turnT k t0 t1 t2 t3)]) (by simp [go_sem, h29, h43]) (xor_t _ _ _ (by omega) (by rw [turnT_size]; omega)) (fun _ => rfl)
      refine And.intro (fun a' W hO hU H HS => ?_) ?_
      · have h44 := H 15 44 _ rfl rfl
        exact growUpon_value (by simp [go_sem, h44]) rfl
      exact trivial
    · intro W xs hU hks
      obtain ⟨y0, rfl, g0⟩ := asKinds_is hks
      obtain ⟨y1, rfl, g1⟩ := asKinds_is g0
      obtain ⟨v2, y2, rfl, g2⟩ := asKinds_sl g1
      obtain ⟨y3, rfl, g3⟩ := asKinds_is g2
      obtain ⟨y4, rfl, g4⟩ := asKinds_is g3
      obtain ⟨y5, rfl, g5⟩ := asKinds_is g4
      obtain ⟨y6, rfl, g6⟩ := asKinds_is g5
      obtain ⟨y7, rfl, g7⟩ := asKinds_is g6
      obtain ⟨y8, rfl, g8⟩ := asKinds_is g7
      obtain ⟨y9, rfl, g9⟩ := asKinds_is g8
      obtain ⟨y10, rfl, g10⟩ := asKinds_is g9
      obtain ⟨y11, rfl, g11⟩ := asKinds_is g10
      obtain ⟨v12, y12, rfl, g12⟩ := asKinds_sl g11
      obtain ⟨y13, rfl, g13⟩ := asKinds_is g12
      obtain ⟨y14, rfl, g14⟩ := asKinds_is g13
      obtain ⟨y15, rfl, g15⟩ := asKinds_is g14
      obtain ⟨y16, rfl, g16⟩ := asKinds_is g15
      obtain rfl := asKinds_nil g16
      clear hks g0 g1 g2 g3 g4 g5 g6 g7 g8 g9 g10 g11 g12 g13 g14 g15 g16
      have hArr2 := hArr.drew.ups hU
      simp only [endTmps, List.setIfInBounds_toArray, List.set]
      have hXz := tXor_size T (turnT k t0 t1 t2 t3)
      generalize tXor T (turnT k t0 t1 t2 t3) = X at *
      have hop := fun w => open_calls X w (by omega)
      have hback := open_back X
      generalize openT X = R at *
      obtain ⟨v, f⟩ := R
      simp only at hop hback hrd
      have hf : f = 0 ∨ f = 2 := hback.imp And.left And.left
      have heq := fun W => arr_eqlW t0 t1 t2 t3 W
      clear hback hk hk300
      by_cases hzero : zeros4 t0 t1 t2 t3
      · have hXT := hsame.2 hzero
        subst hXT
        have hf0 := hrd.2 hzero
        subst hf0
        have hZ := (zeros4_beq t0 t1 t2 t3).2 hzero
        rw [hZ] at heq
        clear hrd hsame hZ hf
        go_wp2_with fail
        refine (hop _).mono ?_
        rintro e w3 ⟨rfl, hb3⟩
        obtain ⟨c0, c1, c2, c3⟩ := (hArr2.ups hb3).cell
        go_wp2_with fail
        exact bodyPost_ret (v := .bool true) (results_one rfl rfl) rfl ⟨rfl, Ups.trans hb0 (Ups.trans hb1 (Ups.trans hb2 (Ups.trans hU.undrew hb3)))⟩
      · have hXT : ¬ X = T := fun e => hzero (hsame.1 e)
        have hne := text_ne hXT
        have hf2 : f = 2 := hf.resolve_left fun e => hzero (hrd.1 e)
        subst hf2
        have hZ : (t0 == 0 && t1 == 0 && t2 == 0 && t3 == 0) = false := by
          cases h : (t0 == 0 && t1 == 0 && t2 == 0 && t3 == 0) with
          | false => rfl
          | true => exact absurd ((zeros4_beq t0 t1 t2 t3).1 h) hzero
        rw [hZ] at heq
        clear hrd hsame hZ hf hXT
        go_wp2_with fail
        refine (hop _).mono ?_
        rintro e w3 ⟨rfl, hb3⟩
        obtain ⟨c0, c1, c2, c3⟩ := (hArr2.ups hb3).cell
        go_wp2_with fail
        exact bodyPost_ret (v := .bool true) (results_one rfl rfl) rfl ⟨rfl, Ups.trans hb0 (Ups.trans hb1 (Ups.trans hb2 (Ups.trans hU.undrew hb3)))⟩

end Go.Proofs.Ytghobgpogifjfaa
