/- PageTells, walked. -/
import Derived.Test.YtmabpnkdagipfaaGreatBase5
namespace Go.Proofs.YtmabpnkdagipfaaGreat
open Go.RowKit




set_option maxRecDepth 100000 in
set_option maxHeartbeats 4000000 in
theorem tells5_walk (s : ByteArray) (n i : Int) (w : World) :
    Calls Tryz.prog 3 #[.string s, .int .i64 n, .int .i64 i] w fun e w' => e = .returned (.bool true) ∧ Ups w w' := by
  by_cases h1 : (1000 : Int) < s.size
  · go_enter Tryz.func3, Tryz.ntmps3
    go_wp2_with fail
    refine (works5 _).mono ?_
    rintro e w1 ⟨rfl, u1⟩
    go_wp2_with fail
    exact bodyPost_ret (v := .bool true) (results_one rfl rfl) rfl ⟨rfl, u1⟩
  have hs : s.size ≤ 1000 := by omega
  have c1 := fun W => rroom_calls s n W (by omega)
  have c2 := fun W => rslot_calls s n i W (by omega)
  have c3 := fun W => records_calls s n W (by omega)
  have c4 := fun W => rrecords_calls s n W (by omega)
  have c5 := fun W => rbad_calls s n W (by omega)
  have c6 := fun W => rnext_calls s n W (by omega)
  have d1 := fun W => proom_calls s n W (by omega)
  have d2 := fun W => slot_calls s n i W (by omega)
  have d5 := fun W => bad_calls s n W (by omega)
  have d6 := fun W => next_calls s n W (by omega)
  have hl := recsN_le s (sizeN n)
  generalize s.size / sizeN n = rm at *
  generalize slotT s (sizeN n) i = sl at *
  generalize recsN s (sizeN n) = l at *
  generalize badN s (sizeN n) = bd at *
  generalize nextN s (sizeN n) = nx at *
  go_enter Tryz.func3, Tryz.ntmps3
  go_wp2_with fail
  refine (works5 _).mono ?_
  rintro e w1 ⟨rfl, u1⟩
  go_wp2_with fail
  refine (c1 _).mono ?_
  rintro e w2 ⟨rfl, u2⟩
  go_wp2_with fail
  refine (c2 _).mono ?_
  rintro e w3 ⟨rfl, u3⟩
  go_wp2_with fail
  refine (c3 _).mono ?_
  rintro e w4 ⟨v, rfl, ho, u4⟩
  have hx := owns_texts ho
  clear ho
  go_wp2_with fail
  refine (c4 _).mono ?_
  rintro e w5 ⟨v', rfl, ho, u5⟩
  have hx' := owns_texts ho
  clear ho
  have ht := rtexts_calls (hx.ups u5) hx' (by omega)
  rw [show decide (l = l) = true from decide_eq_true rfl] at ht
  clear hx hx'
  go_wp2_with fail
  refine ht.mono ?_
  clear ht
  rintro e w6 ⟨rfl, u6⟩
  go_wp2_with fail
  refine (c5 _).mono ?_
  rintro e w7 ⟨rfl, u7⟩
  go_wp2_with fail
  refine (c6 _).mono ?_
  rintro e w8 ⟨rfl, u8⟩
  go_wp2_with fail
  refine (d1 _).mono ?_
  rintro e w9 ⟨rfl, u9⟩
  go_wp2_with fail
  refine (d2 _).mono ?_
  rintro e w10 ⟨rfl, u10⟩
  go_wp2_with fail
  refine (d5 _).mono ?_
  rintro e w11 ⟨rfl, u11⟩
  go_wp2_with fail
  refine (d6 _).mono ?_
  rintro e w12 ⟨rfl, u12⟩
  go_wp2_with fail
  exact bodyPost_ret (v := .bool true) (results_one rfl rfl) rfl ⟨rfl, Ups.trans u1 (Ups.trans u2 (Ups.trans u3 (Ups.trans u4 (Ups.trans u5 (Ups.trans u6 (Ups.trans u7 (Ups.trans u8 (Ups.trans u9 (Ups.trans u10 (Ups.trans u11 u12))))))))))⟩

end Go.Proofs.YtmabpnkdagipfaaGreat
