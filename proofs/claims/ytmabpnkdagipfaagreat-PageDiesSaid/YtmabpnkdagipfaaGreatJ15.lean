/- Texts of this proof, one behind the other: Rec2. -/
import Derived.Test.YtmabpnkdagipfaaGreatJ11
import Derived.Test.YtmabpnkdagipfaaGreatJ14

/- What record.Make, Size and Read come to. -/
namespace Go.Proofs.YtmabpnkdagipfaaGreat
open Go.RowKit

def halfA (s : ByteArray) : ByteArray := bs (s.data.toList.take (s.size / 2))
def halfB (s : ByteArray) : ByteArray := bs (s.data.toList.drop (s.size / 2))
theorem halfA_size (s : ByteArray) : (halfA s).size = s.size / 2 := by rw [halfA, bs_size, List.length_take, toList_length]; omega
theorem halfB_size (s : ByteArray) : (halfB s).size = s.size - s.size / 2 := by rw [halfB, bs_size, List.length_drop, toList_length]
theorem half_join (s : ByteArray) : halfA s ++ halfB s = s := text_ext (by simp [halfA, halfB, bs])
def readT (s : ByteArray) : ByteArray × Int := if s.size % 2 = 1 then (bs [], 2) else if notT (halfA s) = halfB s then openT (halfA s) else (bs [], 2)

theorem not_t (a : ByteArray) (w : World) (h : a.size ≤ 140737488355328) :
    Calls Tryz.prog 50 #[.string a] w fun e w' => e = .returned (.string (notT a)) ∧ Ups w w' := not_calls a w h
theorem half_t (s : ByteArray) (w : World) (hs : s.size ≤ 140737488355328) :
    Calls Tryz.prog 49 #[.string s] w fun e w' => e = .returned (.tuple #[.string (halfA s), .string (halfB s)]) ∧ Ups w w' := halves_calls s w hs

set_option maxRecDepth 100000 in
theorem make_calls (s : ByteArray) (w : World) (hs : s.size ≤ 90000) :
    Calls Tryz.prog 29 #[.string s] w fun e w' => e = .returned (.string (makeT s)) ∧ Ups w w' := by
  have z := sealT_size s
  have z2 := notT_size (sealT s)
  have hd : makeT s = sealT s ++ notT (sealT s) := rfl
  have hsl := fun w => seal_calls s w (by omega)
  generalize makeT s = M at *
  generalize sealT s = T at *
  have HD := Lib.hid hd
  clear hd
  go_enter Tryz.func29, Tryz.ntmps29
  go_wp2_with fail
  refine (hsl _).mono ?_
  rintro e w1 ⟨rfl, hb1⟩
  go_wp2_with fail
  refine (not_t T _ (by omega)).mono ?_
  rintro e w2 ⟨rfl, hb2⟩
  go_wp2_with fail
  exact bodyPost_ret (v := .string M) (results_one rfl (by rw [HD.out]; rfl)) rfl ⟨rfl, Ups.trans hb1 hb2⟩

set_option maxRecDepth 100000 in
theorem size_calls (n : Int) (w : World) :
    Calls Tryz.prog 39 #[.int .i64 n] w fun e w' => e = .returned (.int .i64 (sizeF n)) ∧ w = w' := by
  by_cases h : n < 0
  · have hf : sizeF n = 0 := by unfold sizeF; rw [if_pos (.inl h)]
    rw [hf]
    clear hf
    go_enter Tryz.func39, Tryz.ntmps39
    go_wp2
    go_ret
    exact ⟨rfl, rfl⟩
  by_cases h2 : 4000 < n
  · have hf : sizeF n = 0 := by unfold sizeF; rw [if_pos (.inr h2)]
    rw [hf]
    clear hf
    go_enter Tryz.func39, Tryz.ntmps39
    go_wp2
    go_ret
    exact ⟨rfl, rfl⟩
  · have hf : sizeF n = 2 * (n + 4) := by unfold sizeF; rw [if_neg (by omega)]
    rw [hf]
    clear hf
    go_enter Tryz.func39, Tryz.ntmps39
    go_wp2
    go_ret
    exact ⟨by simp, rfl⟩

set_option maxRecDepth 100000 in
theorem read_calls (s : ByteArray) (w : World) (hs : s.size ≤ 90000) :
    Calls Tryz.prog 26 #[.string s] w fun e w' => e = .returned (.tuple #[.string (readT s).1, .int .i64 (readT s).2]) ∧ Ups w w' := by
  by_cases ho : s.size % 2 = 1
  · have hf : readT s = (bs [], 2) := by unfold readT; rw [if_pos ho]
    rw [hf]
    have ho' : (s.size : Int) % 2 = 1 := by omega
    clear hf ho
    go_enter Tryz.func26, Tryz.ntmps26
    go_wp2
    go_ret2
    exact ⟨rfl, Ups.refl _⟩
  have ho' : ¬ (s.size : Int) % 2 = 1 := by omega
  have za := halfA_size s
  have hh := fun w => half_t s w (by omega)
  by_cases he : notT (halfA s) = halfB s
  · have hf : readT s = openT (halfA s) := by unfold readT; rw [if_neg ho, if_pos he]
    rw [hf]
    have hop := fun w => open_calls (halfA s) w (by omega)
    have hn := fun w => not_t (halfA s) w (by omega)
    rw [he] at hn
    generalize openT (halfA s) = R at *
    generalize halfA s = a at *
    generalize halfB s = b at *
    clear hf he ho
    go_enter Tryz.func26, Tryz.ntmps26
    go_wp2_with fail
    refine (hh _).mono ?_
    rintro e w1 ⟨rfl, hb1⟩
    go_wp2_with fail
    refine (hn _).mono ?_
    rintro e w2 ⟨rfl, hb2⟩
    go_wp2_with fail
    refine (hop _).mono ?_
    rintro e w3 ⟨rfl, hb3⟩
    go_wp2_with fail
    go_ret2
    exact ⟨rfl, Ups.trans hb1 (Ups.trans hb2 hb3)⟩
  · have hf : readT s = (bs [], 2) := by unfold readT; rw [if_neg ho, if_neg he]
    rw [hf]
    have hn := fun w => not_t (halfA s) w (by omega)
    generalize notT (halfA s) = T at *
    generalize halfA s = a at *
    generalize halfB s = b at *
    have hne := text_ne he
    clear hf ho
    go_enter Tryz.func26, Tryz.ntmps26
    go_wp2_with fail
    refine (hh _).mono ?_
    rintro e w1 ⟨rfl, hb1⟩
    go_wp2_with fail
    refine (hn _).mono ?_
    rintro e w2 ⟨rfl, hb2⟩
    go_wp2_with fail
    go_ret2
    exact ⟨rfl, Ups.trans hb1 hb2⟩

/-! ### Plain: the two readings are one -/
theorem append_inj {a b c d : ByteArray} (h : a ++ b = c ++ d) (hs : a.size = c.size) : a = c ∧ b = d := by
  have e : (a ++ b).data.toList = (c ++ d).data.toList := by rw [h]
  rw [show (a ++ b).data.toList = a.data.toList ++ b.data.toList by simp, show (c ++ d).data.toList = c.data.toList ++ d.data.toList by simp] at e
  have := List.append_inj e (by rw [toList_length, toList_length, hs])
  exact ⟨text_ext this.1, text_ext this.2⟩
theorem half_extract (s : ByteArray) (k : Nat) (h : k ≤ s.size / 2) : (halfA s).extract 0 k = s.extract 0 k := by
  apply text_ext
  simp [halfA, bs, ByteArray.data_extract, List.take_take, Nat.min_eq_left h]
theorem readT_odd (s : ByteArray) (h : s.size % 2 = 1) : readT s = (bs [], 2) := by unfold readT; rw [if_pos h]
theorem readT_not (s : ByteArray) (h : ¬ s.size % 2 = 1) (h1 : ¬ notT (halfA s) = halfB s) : readT s = (bs [], 2) := by unfold readT; rw [if_neg h, if_neg h1]
theorem readT_open (s : ByteArray) (h : ¬ s.size % 2 = 1) (h1 : notT (halfA s) = halfB s) : readT s = openT (halfA s) := by unfold readT; rw [if_neg h, if_pos h1]
theorem rreadT_bad (s : ByteArray) (h : s.size < 8 ∨ s.size % 2 = 1) : rreadT s = (bs [], 2) := by unfold rreadT; rw [if_pos h]
theorem rreadT_ok (s : ByteArray) (h : ¬ (s.size < 8 ∨ s.size % 2 = 1)) (h1 : makeT (s.extract 0 (s.size / 2 - 4)) = s) : rreadT s = (s.extract 0 (s.size / 2 - 4), 0) := by unfold rreadT; rw [if_neg h, if_pos h1]
theorem rreadT_not (s : ByteArray) (h : ¬ (s.size < 8 ∨ s.size % 2 = 1)) (h1 : ¬ makeT (s.extract 0 (s.size / 2 - 4)) = s) : rreadT s = (bs [], 2) := by unfold rreadT; rw [if_neg h, if_neg h1]
theorem openT_short (a : ByteArray) (h : a.size < 4) : openT a = (bs [], 2) := by unfold openT; rw [if_pos h]
theorem openT_ok (a : ByteArray) (h : ¬ a.size < 4) (h1 : sealT (a.extract 0 (a.size - 4)) = a) : openT a = (a.extract 0 (a.size - 4), 0) := by unfold openT; rw [if_neg h, if_pos h1]
theorem openT_not (a : ByteArray) (h : ¬ a.size < 4) (h1 : ¬ sealT (a.extract 0 (a.size - 4)) = a) : openT a = (bs [], 2) := by unfold openT; rw [if_neg h, if_neg h1]

theorem read_eq (s : ByteArray) : readT s = rreadT s := by
  have hz := halfA_size s
  by_cases ho : s.size % 2 = 1
  · rw [readT_odd s ho, rreadT_bad s (.inr ho)]
  by_cases h8 : s.size < 8
  · rw [rreadT_bad s (.inl h8)]
    by_cases h1 : notT (halfA s) = halfB s
    · rw [readT_open s ho h1, openT_short _ (by omega)]
    · exact readT_not s ho h1
  have hx := half_extract s (s.size / 2 - 4) (by omega)
  have hps : (s.extract 0 (s.size / 2 - 4)).size = s.size / 2 - 4 := by simp; omega
  have hg : ¬ (s.size < 8 ∨ s.size % 2 = 1) := by omega
  by_cases hm : makeT (s.extract 0 (s.size / 2 - 4)) = s
  · rw [rreadT_ok s hg hm]
    generalize s.extract 0 (s.size / 2 - 4) = p at *
    have hj := half_join s
    have e : sealT p ++ notT (sealT p) = halfA s ++ halfB s := by rw [hj]; exact hm
    obtain ⟨e1, e2⟩ := append_inj e (by rw [sealT_size]; omega)
    rw [readT_open s ho (by rw [← e1]; exact e2), openT_ok _ (by omega) (by rw [hz, hx]; exact e1), hz, hx]
  · rw [rreadT_not s hg hm]
    by_cases h1 : notT (halfA s) = halfB s
    · rw [readT_open s ho h1]
      refine openT_not _ (by omega) ?_
      rw [hz, hx]
      intro h2
      apply hm
      unfold makeT
      rw [h2, h1, half_join]
    · exact readT_not s ho h1

end Go.Proofs.YtmabpnkdagipfaaGreat
