/- PageCounts, walked. -/
import Derived.Test.YtmabpnkdagipfaaBase5
import Derived.LoopTactic
namespace Go.Proofs.Ytmabpnkdagipfaa
open Go.RowKit

theorem slot_k {s : ByteArray} {z k : Nat} (hk : k < s.size / z) : slotT s z (k : Int) = place s z k := by
  unfold slotT
  rw [if_pos ⟨by omega, by omega⟩, Int.toNat_natCast]

set_option maxRecDepth 100000 in
set_option maxHeartbeats 8000000 in
theorem counts_walk (s : ByteArray) (n : Int) (w : World) :
    Calls Try.prog 3 #[.string s, .int .i64 n] w fun e W' => e = .returned (.bool true) ∧ Ups w W' := by
  by_cases h1 : (1000 : Int) < s.size
  · go_enter Try.func3, Try.ntmps3
    go_wp2_with fail
    refine (works5 _).mono ?_
    rintro e w1 ⟨rfl, u1⟩
    go_wp2_with fail
    exact bodyPost_ret (v := .bool true) (results_one rfl rfl) rfl ⟨rfl, u1⟩
  have hs : s.size ≤ 1000 := by omega
  have hz := (sizeN_le n).2
  have hz8 := (sizeN_le n).1
  have csz := size_calls n
  have crm := fun W => proom_calls s n W (by omega)
  have cnx := fun W => next_calls s n W (by omega)
  have cbd := fun W => bad_calls s n W (by omega)
  have crc := fun W => records_calls s n W (by omega)
  have csl := fun (i : Int) W => slot_calls s n i W (by omega)
  rw [hz] at csz
  have hall := parts_all (fun k => place s (sizeN n) k) (s.size / sizeN n)
  have hle := nextN_le s (sizeN n)
  have hrl := recsN_le s (sizeN n)
  have hrm : s.size / sizeN n ≤ s.size := Nat.div_le_self _ _
  have hcl1 := fun j h1 h2 => nextTo_clear (fun k => clearT (place s (sizeN n) k)) (s.size / sizeN n) j h1 h2
  have hcl2 := fun j h => nextTo_pred (fun k => clearT (place s (sizeN n) k)) (s.size / sizeN n) j h
  have hpz := fun k (hk : k < s.size / sizeN n) => place_size hk
  have hat := fun k (hk : k < s.size / sizeN n) => slot_k hk
  rw [show countTo (fun j => badT (place s (sizeN n) j)) (s.size / sizeN n) = badN s (sizeN n) from rfl, show recsTo (fun j => rreadT (place s (sizeN n) j)) (s.size / sizeN n) = recsN s (sizeN n) from rfl] at hall
  rw [show nextTo (fun k => clearT (place s (sizeN n) k)) (s.size / sizeN n) = nextN s (sizeN n) from rfl] at hcl1 hcl2
  have hccl := fun k => countTo_le (fun j => clearT (place s (sizeN n) j)) k
  have hcs : ∀ k, countTo (fun j => clearT (place s (sizeN n) j)) (k + 1) = if clearT (place s (sizeN n) k) then countTo (fun j => clearT (place s (sizeN n) j)) k + 1 else countTo (fun j => clearT (place s (sizeN n) j)) k := fun k => rfl
  have hc0 : countTo (fun j => clearT (place s (sizeN n) j)) 0 = 0 := rfl
  clear hz
  generalize hgl : recsN s (sizeN n) = l at *
  generalize hgb : badN s (sizeN n) = bd at *
  generalize hgn : nextN s (sizeN n) = nx at *
  generalize hgz : sizeN n = z at *
  generalize hgc : countTo (fun j => clearT (place s z j)) = C at *
  generalize hgr : s.size / z = r at *
  have HC1 := Lib.hid hcl1
  have HC2 := Lib.hid hcl2
  have HPZ := Lib.hid hpz
  have HAT := Lib.hid hat
  have HCC := Lib.hid hccl
  have HCS := Lib.hid hcs
  have HALL := Lib.hid hall
  have HC0 := Lib.hid hc0
  have HSL := Lib.hid csl
  clear hcl1 hcl2 hpz hat hccl hcs hall csl hgl hgb hgn hgz hgc hgr hc0
  have hd1 : decide ((nx : Int) < 0) = false := decide_eq_false (by omega)
  have hd2 : decide ((r : Int) < nx) = false := decide_eq_false (by omega)
  have hd3 : decide (r < nx) = false := decide_eq_false (by omega)
  have hd4 : decide ((r : Int) < 0) = false := decide_eq_false (by omega)
  go_enter Try.func3, Try.ntmps3
  go_wp2_with fail
  refine (works5 _).mono ?_
  rintro e w1 ⟨rfl, u1⟩
  go_wp2_with fail
  refine (crm _).mono ?_
  rintro e w2 ⟨rfl, u2⟩
  go_wp2_with fail
  refine (cnx _).mono ?_
  rintro e w3 ⟨rfl, u3⟩
  go_wp2_with fail
  go_loopw [8, 9] (fun x i wr => ∃ k : Nat, k ≤ r ∧ i = .int .i64 k ∧ x = .int .i64 (C k) ∧ Ups w wr) (fun _ i _ => r - (intOf i).toNat)
  case atStart => exact ⟨0, Nat.zero_le _, rfl, by rw [HC0.out]; rfl, Ups.trans u1 (Ups.trans u2 u3)⟩
  case round =>
    obtain ⟨k, hk, rfl, rfl, hu⟩ := hrel
    have hck := HCC.out k
    by_cases hlt : (k : Int) < r
    · have hkr : k < r := by omega
      have csl := HSL.out k
      rw [HAT.out k hkr] at csl
      have hps := HPZ.out k hkr
      have hcs := HCS.out k
      have hc1 := fun h => HC1.out k h hkr
      have hc2 := fun h => HC2.out k h
      have ccl := fun W => clear_c (place s z k) W (by omega)
      generalize hgc : C (k + 1) = v' at *
      generalize C k = v at *
      generalize place s z k = t at *
      have HGC := Lib.hid hgc
      have hsn : ((t.size : Int) != z) = false := by rw [hps]; simp
      clear hgc hkr hps
      have hws : IntKind.i64.wrap ((nx : Int) - 1) = (nx : Int) - 1 := (IntWalk.i64_left _).trans (IntWalk.wrap64_in _ ⟨by omega, by omega⟩)
      by_cases hkn : nx ≤ k
      · have hct := hc1 hkn
        rw [hct] at ccl hcs
        obtain rfl : v' = v + 1 := by simpa using hcs
        have hge : (nx : Int) ≤ k := by omega
        have hne : ((k : Int) == (nx : Int) - 1) = false := by simp only [beq_eq_false_iff_ne, ne_eq]; omega
        clear hct hcs hc1 hc2
        go_wp2_with fail
        refine (csl _).mono ?_
        rintro e x1 ⟨rfl, g1⟩
        go_wp2_with fail
        refine (csz _).mono ?_
        rintro e x9 ⟨rfl, rfl⟩
        go_wp2_with fail
        refine (ccl _).mono ?_
        rintro e x2 ⟨rfl, g2⟩
        go_wp2_with fail
        refine (ccl _).mono ?_
        rintro e x3 ⟨rfl, g3⟩
        go_wp2_with fail
        go_roundw
        case rel => exact ⟨k + 1, by omega, by go_num, by rw [HGC.out]; go_num, Ups.trans hu (Ups.trans g1 (Ups.trans g2 g3))⟩
        case measure => simp [intOf]; omega
      · have hlt2 : ¬ (nx : Int) ≤ k := by omega
        by_cases hp : nx = k + 1
        · have hct := hc2 hp
          rw [hct] at ccl hcs
          obtain rfl : v' = v := by simpa using hcs
          have heq : ((k : Int) == (nx : Int) - 1) = true := by simp only [beq_iff_eq]; omega
          have HPP := Lib.hid hp
          clear hct hcs hc1 hc2 hp
          go_wp2_with fail
          refine (csl _).mono ?_
          rintro e x1 ⟨rfl, g1⟩
          go_wp2_with fail
          refine (csz _).mono ?_
          rintro e x9 ⟨rfl, rfl⟩
          go_wp2_with fail
          refine (ccl _).mono ?_
          rintro e x2 ⟨rfl, g2⟩
          go_wp2_with fail
          refine (ccl _).mono ?_
          rintro e x3 ⟨rfl, g3⟩
          go_wp2_with fail
          go_roundw
          case rel => exact ⟨k + 1, by omega, by go_num, by rw [HGC.out], Ups.trans hu (Ups.trans g1 (Ups.trans g2 g3))⟩
          case measure => simp [intOf]; omega
        · have hne : ((k : Int) == (nx : Int) - 1) = false := by simp only [beq_eq_false_iff_ne, ne_eq]; omega
          clear hc1 hc2
          cases hct : clearT t with
          | true =>
            rw [hct] at ccl hcs
            obtain rfl : v' = v + 1 := by simpa using hcs
            clear hct hcs
            go_wp2_with fail
            refine (csl _).mono ?_
            rintro e x1 ⟨rfl, g1⟩
            go_wp2_with fail
            refine (csz _).mono ?_
            rintro e x9 ⟨rfl, rfl⟩
            go_wp2_with fail
            refine (ccl _).mono ?_
            rintro e x2 ⟨rfl, g2⟩
            go_wp2_with fail
            go_roundw
            case rel => exact ⟨k + 1, by omega, by go_num, by rw [HGC.out]; go_num, Ups.trans hu (Ups.trans g1 g2)⟩
            case measure => simp [intOf]; omega
          | false =>
            rw [hct] at ccl hcs
            obtain rfl : v' = v := by simpa using hcs
            clear hct hcs
            go_wp2_with fail
            refine (csl _).mono ?_
            rintro e x1 ⟨rfl, g1⟩
            go_wp2_with fail
            refine (csz _).mono ?_
            rintro e x9 ⟨rfl, rfl⟩
            go_wp2_with fail
            refine (ccl _).mono ?_
            rintro e x2 ⟨rfl, g2⟩
            go_wp2_with fail
            go_roundw
            case rel => exact ⟨k + 1, by omega, by go_num, by rw [HGC.out], Ups.trans hu (Ups.trans g1 g2)⟩
            case measure => simp [intOf]; omega
    · obtain rfl : k = r := by omega
      have hsum := HALL.out
      have hbl : bd ≤ 1000 := by omega
      generalize C k = v at *
      have hw1 : IntKind.i64.wrap ((v : Int) + bd) = (v : Int) + bd := (IntWalk.i64_left _).trans (IntWalk.wrap64_in _ ⟨by omega, by omega⟩)
      have hw2 : IntKind.i64.wrap ((v : Int) + bd + l.length) = (v : Int) + bd + l.length := (IntWalk.i64_left _).trans (IntWalk.wrap64_in _ ⟨by omega, by omega⟩)
      have heq : (((v : Int) + bd + l.length) == (k : Int)) = true := by simp only [beq_iff_eq]; omega
      have HS := Lib.hid hsum
      clear hsum
      go_wp2_with fail
      refine (cbd _).mono ?_
      rintro e x1 ⟨rfl, g1⟩
      go_wp2_with fail
      refine (crc _).mono ?_
      rintro e x2 ⟨vr, rfl, ho, g2⟩
      obtain ⟨al, cl, rfl⟩ := owns_slice ho
      clear ho
      go_wp2_with fail
      exact bodyPost_ret (v := .bool true) (results_one rfl rfl) rfl ⟨rfl, Ups.trans hu (Ups.trans g1 g2)⟩

end Go.Proofs.Ytmabpnkdagipfaa
