/- The laws of layer 4 (record) on texts and numbers: walked. -/
import Derived.Test.YtghobgpogifjfaaLaw4
import Derived.Outline
namespace Go.Proofs.Ytghobgpogifjfaa
open Go.RowKit

theorem ones_t (n : Nat) (w : World) (h : n ≤ 100000) : Calls Try.prog 36 #[.int .i64 n] w fun e w' => e = .returned (.string (onesT n)) ∧ Ups w w' := ones_calls n w h
theorem clear_t (s : ByteArray) (w : World) (hs : s.size ≤ 140737488355328) : Calls Try.prog 33 #[.string s] w fun e w' => e = .returned (.bool (clearT s)) ∧ Ups w w' := by
  have := clear_calls s w hs
  rw [clear_eq] at this
  exact this
theorem read_t (s : ByteArray) (w : World) (hs : s.size ≤ 90000) : Calls Try.prog 27 #[.string s] w fun e w' => e = .returned (.tuple #[.string (rreadT s).1, .int .i64 (rreadT s).2]) ∧ Ups w w' := by
  have := read_calls s w hs
  rw [read_eq] at this
  exact this

set_option maxRecDepth 100000 in
set_option maxHeartbeats 1000000 in
theorem tells4_walk (s : ByteArray) (n : Int) (w : World) :
    Calls Try.prog 9 #[.string s, .int .i64 n] w fun e w' => e = .returned (.bool true) ∧ Below w.heap.size w w' := by
  by_cases h1 : (200 : Int) < s.size
  · go_enter Try.func9, Try.ntmps9
    go_wp2_with fail
    refine (works4 _).mono ?_
    rintro e w1 ⟨rfl, hb1⟩
    go_wp2_with fail
    exact bodyPost_ret (v := .bool true) (results_one rfl rfl) rfl ⟨rfl, hb1⟩
  · go_enter Try.func9, Try.ntmps9
    go_wp2_with fail
    refine (works4 _).mono ?_
    rintro e w1 ⟨rfl, hb1⟩
    go_wp2_with fail
    refine (rmake_calls s _ (by omega)).mono ?_
    rintro e w2 ⟨rfl, hb2⟩
    go_wp2_with fail
    refine (read_t s _ (by omega)).mono ?_
    rintro e w3 ⟨rfl, hb3⟩
    go_wp2_with fail
    refine (rread_calls s _ (by omega)).mono ?_
    rintro e w4 ⟨rfl, hb4⟩
    go_wp2_with fail
    refine (rsize_calls n _).mono ?_
    rintro e w5 ⟨rfl, rfl⟩
    go_wp2_with fail
    refine (rclear_calls s _ (by omega)).mono ?_
    rintro e w6 ⟨rfl, hb6⟩
    go_wp2_with fail
    refine (make_calls s _ (by omega)).mono ?_
    rintro e w7 ⟨rfl, hb7⟩
    go_wp2_with fail
    refine (size_calls n _).mono ?_
    rintro e w8 ⟨rfl, rfl⟩
    go_wp2_with fail
    refine (clear_t s _ (by omega)).mono ?_
    rintro e w9 ⟨rfl, hb9⟩
    go_wp2_with fail
    exact bodyPost_ret (v := .bool true) (results_one rfl rfl) rfl ⟨rfl, Ups.trans hb1 (Ups.trans hb2 (Ups.trans hb3 (Ups.trans hb4 (Ups.trans hb6 (Ups.trans hb7 (hb9))))))⟩

set_option maxRecDepth 100000 in
set_option maxHeartbeats 1000000 in
theorem back4_walk (s t : ByteArray) (w : World) :
    Calls Try.prog 10 #[.string s, .string t] w fun e w' => e = .returned (.bool true) ∧ Below w.heap.size w w' := by
  by_cases h1 : (200 : Int) < s.size
  · go_enter Try.func10, Try.ntmps10
    go_wp2_with fail
    refine (works4 _).mono ?_
    rintro e w1 ⟨rfl, hb1⟩
    go_wp2_with fail
    exact bodyPost_ret (v := .bool true) (results_one rfl rfl) rfl ⟨rfl, hb1⟩
  by_cases h2 : (200 : Int) < t.size
  · go_enter Try.func10, Try.ntmps10
    go_wp2_with fail
    refine (works4 _).mono ?_
    rintro e w1 ⟨rfl, hb1⟩
    go_wp2_with fail
    exact bodyPost_ret (v := .bool true) (results_one rfl rfl) rfl ⟨rfl, hb1⟩
  have hz := makeT_size s
  have hr := readT_make s
  have hrc := fun w => read_calls (makeT s) w (by omega)
  rw [hr] at hrc
  have hsz : sizeF (s.size : Int) = ((makeT s).size : Int) := by unfold sizeF; rw [if_neg (by omega)]; omega
  have hmk := fun w => make_calls s w (by omega)
  generalize makeT s = M at *
  clear hr
  have hv := readT_size t
  have hot := fun w => read_calls t w (by omega)
  have hback := readT_back t
  generalize readT t = v at *
  obtain ⟨v, f⟩ := v
  simp only at hback hot hv
  rcases hback with ⟨rfl, hse⟩ | ⟨rfl, rfl⟩
  · have hsv := fun w => make_calls v w (by omega)
    rw [hse] at hsv
    clear hse
    go_enter Try.func10, Try.ntmps10
    go_wp2_with fail
    refine (works4 _).mono ?_
    rintro e w1 ⟨rfl, hb1⟩
    go_wp2_with fail
    refine (hmk _).mono ?_
    rintro e w2 ⟨rfl, hb2⟩
    go_wp2_with fail
    refine (hrc _).mono ?_
    rintro e w3 ⟨rfl, hb3⟩
    go_wp2_with fail
    refine (hot _).mono ?_
    rintro e w4 ⟨rfl, hb4⟩
    go_wp2_with fail
    refine (hmk _).mono ?_
    rintro e w5 ⟨rfl, hb5⟩
    go_wp2_with fail
    refine (size_calls s.size _).mono ?_
    rintro e w6 ⟨rfl, rfl⟩
    go_wp2_with fail
    refine (hsv _).mono ?_
    rintro e w7 ⟨rfl, hb7⟩
    go_wp2_with fail
    exact bodyPost_ret (v := .bool true) (results_one rfl rfl) rfl ⟨rfl, Ups.trans hb1 (Ups.trans hb2 (Ups.trans hb3 (Ups.trans hb4 (Ups.trans hb5 (hb7)))))⟩
  · have hnil : (bs []).toList = [] := by decide +kernel
    go_enter Try.func10, Try.ntmps10
    go_wp2_with fail
    refine (works4 _).mono ?_
    rintro e w1 ⟨rfl, hb1⟩
    go_wp2_with fail
    refine (hmk _).mono ?_
    rintro e w2 ⟨rfl, hb2⟩
    go_wp2_with fail
    refine (hrc _).mono ?_
    rintro e w3 ⟨rfl, hb3⟩
    go_wp2_with fail
    refine (hot _).mono ?_
    rintro e w4 ⟨rfl, hb4⟩
    go_wp2_with fail
    refine (hmk _).mono ?_
    rintro e w5 ⟨rfl, hb5⟩
    go_wp2_with fail
    refine (size_calls s.size _).mono ?_
    rintro e w6 ⟨rfl, rfl⟩
    go_wp2_with fail
    exact bodyPost_ret (v := .bool true) (results_one rfl rfl) rfl ⟨rfl, Ups.trans hb1 (Ups.trans hb2 (Ups.trans hb3 (Ups.trans hb4 (hb5))))⟩

set_option maxRecDepth 100000 in
set_option maxHeartbeats 1000000 in
theorem part4_walk (s m : ByteArray) (w : World) :
    Calls Try.prog 11 #[.string s, .string m] w fun e w' => e = .returned (.bool true) ∧ Below w.heap.size w w' := by
  by_cases h1 : (200 : Int) < s.size
  · go_enter Try.func11, Try.ntmps11
    go_wp2_with fail
    refine (works4 _).mono ?_
    rintro e w1 ⟨rfl, hb1⟩
    go_wp2_with fail
    exact bodyPost_ret (v := .bool true) (results_one rfl rfl) rfl ⟨rfl, hb1⟩
  by_cases h2 : (408 : Int) < m.size
  · go_enter Try.func11, Try.ntmps11
    go_wp2_with fail
    refine (works4 _).mono ?_
    rintro e w1 ⟨rfl, hb1⟩
    go_wp2_with fail
    exact bodyPost_ret (v := .bool true) (results_one rfl rfl) rfl ⟨rfl, hb1⟩
  have hz := makeT_size s
  have hz2 := orT_size (makeT s) m
  have hp := part_read s m
  have hmk := fun w => make_calls s w (by omega)
  have hor := fun w => or_t (makeT s) m w (by omega) (by omega)
  have hrd := fun w => read_calls (orT (makeT s) m) w (by omega)
  have hb2 := readT_back (orT (makeT s) m)
  generalize readT (orT (makeT s) m) = R at *
  obtain ⟨v, f⟩ := R
  simp only at hp hrd hb2
  by_cases he : orT (makeT s) m = makeT s
  · have hf := hp.2 he
    subst hf
    rw [he] at hor hrd
    clear hp hb2 hz2 he
    generalize makeT s = M at *
    go_enter Try.func11, Try.ntmps11
    go_wp2_with fail
    refine (works4 _).mono ?_
    rintro e w1 ⟨rfl, hb1⟩
    go_wp2_with fail
    refine (hmk _).mono ?_
    rintro e w2 ⟨rfl, hb2⟩
    go_wp2_with fail
    refine (hor _).mono ?_
    rintro e w3 ⟨rfl, hb3⟩
    go_wp2_with fail
    refine (hrd _).mono ?_
    rintro e w4 ⟨rfl, hb4⟩
    go_wp2_with fail
    exact bodyPost_ret (v := .bool true) (results_one rfl rfl) rfl ⟨rfl, Ups.trans hb1 (Ups.trans hb2 (Ups.trans hb3 (hb4)))⟩
  · have hf : f = 2 := by
      rcases hb2 with ⟨h, _⟩ | ⟨h, _⟩
      · exact absurd (hp.1 h) he
      · exact h
    subst hf
    have hne := text_ne he
    clear hp hb2 he
    generalize orT (makeT s) m = X at *
    generalize makeT s = M at *
    go_enter Try.func11, Try.ntmps11
    go_wp2_with fail
    refine (works4 _).mono ?_
    rintro e w1 ⟨rfl, hb1⟩
    go_wp2_with fail
    refine (hmk _).mono ?_
    rintro e w2 ⟨rfl, hb2⟩
    go_wp2_with fail
    refine (hor _).mono ?_
    rintro e w3 ⟨rfl, hb3⟩
    go_wp2_with fail
    refine (hrd _).mono ?_
    rintro e w4 ⟨rfl, hb4⟩
    go_wp2_with fail
    exact bodyPost_ret (v := .bool true) (results_one rfl rfl) rfl ⟨rfl, Ups.trans hb1 (Ups.trans hb2 (Ups.trans hb3 (hb4)))⟩

set_option maxRecDepth 100000 in
set_option maxHeartbeats 2000000 in
theorem rest_core (s t m M N X Y v a : ByteArray) (g f : Int) (w : World) (h1 : ¬ (200 : Int) < s.size) (h2 : ¬ (200 : Int) < t.size) (h3 : ¬ (408 : Int) < m.size)
    (hq : t.size = s.size → (f = 0 ↔ s = t)) (hR : (v, g) = (s, 0) ∨ g = 2) (hF : f = 0 ∨ f = 2)
    (hmk : ∀ w : World, Calls Try.prog 31 #[.string s] w fun e w' => e = .returned (.string M) ∧ Ups w w') (hmt : ∀ w : World, Calls Try.prog 31 #[.string t] w fun e w' => e = .returned (.string N) ∧ Ups w w')
    (hor : ∀ w : World, Calls Try.prog 34 #[.string M, .string m] w fun e w' => e = .returned (.string X) ∧ Ups w w') (han : ∀ w : World, Calls Try.prog 35 #[.string M, .string N] w fun e w' => e = .returned (.string Y) ∧ Ups w w')
    (hrd : ∀ w : World, Calls Try.prog 27 #[.string X] w fun e w' => e = .returned (.tuple #[.string v, .int .i64 g]) ∧ Ups w w') (hra : ∀ w : World, Calls Try.prog 27 #[.string Y] w fun e w' => e = .returned (.tuple #[.string a, .int .i64 f]) ∧ Ups w w') :
    Calls Try.prog 13 #[.string s, .string t, .string m] w fun e w' => e = .returned (.bool true) ∧ Below w.heap.size w w' := by
  rcases hR with hR | rfl
  · obtain ⟨e1, rfl⟩ := Prod.mk.inj hR
    have e2 := e1.symm
    clear hR e1
    subst e2
    by_cases hl : t.size = s.size
    · by_cases he : s = t
      · have hf : f = 0 := (hq hl).2 he
        subst hf
        subst he
        clear hq hF
        go_enter Try.func13, Try.ntmps13
        go_wp2_with fail
        refine (works4 _).mono ?_
        rintro e w1 ⟨rfl, hb1⟩
        go_wp2_with fail
        refine (hmk _).mono ?_
        rintro e w2 ⟨rfl, hb2⟩
        go_wp2_with fail
        refine (hor _).mono ?_
        rintro e w3 ⟨rfl, hb3⟩
        go_wp2_with fail
        refine (hrd _).mono ?_
        rintro e w4 ⟨rfl, hb4⟩
        go_wp2_with fail
        refine (hmt _).mono ?_
        rintro e w5 ⟨rfl, hb5⟩
        go_wp2_with fail
        refine (han _).mono ?_
        rintro e w6 ⟨rfl, hb6⟩
        go_wp2_with fail
        refine (hra _).mono ?_
        rintro e w7 ⟨rfl, hb7⟩
        go_wp2_with fail
        exact bodyPost_ret (v := .bool true) (results_one rfl rfl) rfl ⟨rfl, Ups.trans hb1 (Ups.trans hb2 (Ups.trans hb3 (Ups.trans hb4 (Ups.trans hb5 (Ups.trans hb6 (hb7))))))⟩
      · have hf : f = 2 := hF.resolve_left fun h => he ((hq hl).1 h)
        subst hf
        have hne := text_ne he
        have hl2 : (t.size : Int) = s.size := by omega
        clear hq hF he hl
        go_enter Try.func13, Try.ntmps13
        go_wp2_with fail
        refine (works4 _).mono ?_
        rintro e w1 ⟨rfl, hb1⟩
        go_wp2_with fail
        refine (hmk _).mono ?_
        rintro e w2 ⟨rfl, hb2⟩
        go_wp2_with fail
        refine (hor _).mono ?_
        rintro e w3 ⟨rfl, hb3⟩
        go_wp2_with fail
        refine (hrd _).mono ?_
        rintro e w4 ⟨rfl, hb4⟩
        go_wp2_with fail
        refine (hmt _).mono ?_
        rintro e w5 ⟨rfl, hb5⟩
        go_wp2_with fail
        refine (han _).mono ?_
        rintro e w6 ⟨rfl, hb6⟩
        go_wp2_with fail
        refine (hra _).mono ?_
        rintro e w7 ⟨rfl, hb7⟩
        go_wp2_with fail
        exact bodyPost_ret (v := .bool true) (results_one rfl rfl) rfl ⟨rfl, Ups.trans hb1 (Ups.trans hb2 (Ups.trans hb3 (Ups.trans hb4 (Ups.trans hb5 (Ups.trans hb6 (hb7))))))⟩
    · have hl2 : ((t.size : Int) != s.size) = true := by
        have : ¬ (t.size : Int) = s.size := by omega
        simpa using this
      clear hq hF hl
      go_enter Try.func13, Try.ntmps13
      go_wp2_with fail
      refine (works4 _).mono ?_
      rintro e w1 ⟨rfl, hb1⟩
      go_wp2_with fail
      refine (hmk _).mono ?_
      rintro e w2 ⟨rfl, hb2⟩
      go_wp2_with fail
      refine (hor _).mono ?_
      rintro e w3 ⟨rfl, hb3⟩
      go_wp2_with fail
      refine (hrd _).mono ?_
      rintro e w4 ⟨rfl, hb4⟩
      go_wp2_with fail
      refine (hmt _).mono ?_
      rintro e w5 ⟨rfl, hb5⟩
      go_wp2_with fail
      refine (han _).mono ?_
      rintro e w6 ⟨rfl, hb6⟩
      go_wp2_with fail
      refine (hra _).mono ?_
      rintro e w7 ⟨rfl, hb7⟩
      go_wp2_with fail
      exact bodyPost_ret (v := .bool true) (results_one rfl rfl) rfl ⟨rfl, Ups.trans hb1 (Ups.trans hb2 (Ups.trans hb3 (Ups.trans hb4 (Ups.trans hb5 (Ups.trans hb6 (hb7))))))⟩
  · skip
    by_cases hl : t.size = s.size
    · by_cases he : s = t
      · have hf : f = 0 := (hq hl).2 he
        subst hf
        subst he
        clear hq hF
        go_enter Try.func13, Try.ntmps13
        go_wp2_with fail
        refine (works4 _).mono ?_
        rintro e w1 ⟨rfl, hb1⟩
        go_wp2_with fail
        refine (hmk _).mono ?_
        rintro e w2 ⟨rfl, hb2⟩
        go_wp2_with fail
        refine (hor _).mono ?_
        rintro e w3 ⟨rfl, hb3⟩
        go_wp2_with fail
        refine (hrd _).mono ?_
        rintro e w4 ⟨rfl, hb4⟩
        go_wp2_with fail
        refine (hmt _).mono ?_
        rintro e w5 ⟨rfl, hb5⟩
        go_wp2_with fail
        refine (han _).mono ?_
        rintro e w6 ⟨rfl, hb6⟩
        go_wp2_with fail
        refine (hra _).mono ?_
        rintro e w7 ⟨rfl, hb7⟩
        go_wp2_with fail
        exact bodyPost_ret (v := .bool true) (results_one rfl rfl) rfl ⟨rfl, Ups.trans hb1 (Ups.trans hb2 (Ups.trans hb3 (Ups.trans hb4 (Ups.trans hb5 (Ups.trans hb6 (hb7))))))⟩
      · have hf : f = 2 := hF.resolve_left fun h => he ((hq hl).1 h)
        subst hf
        have hne := text_ne he
        have hl2 : (t.size : Int) = s.size := by omega
        clear hq hF he hl
        go_enter Try.func13, Try.ntmps13
        go_wp2_with fail
        refine (works4 _).mono ?_
        rintro e w1 ⟨rfl, hb1⟩
        go_wp2_with fail
        refine (hmk _).mono ?_
        rintro e w2 ⟨rfl, hb2⟩
        go_wp2_with fail
        refine (hor _).mono ?_
        rintro e w3 ⟨rfl, hb3⟩
        go_wp2_with fail
        refine (hrd _).mono ?_
        rintro e w4 ⟨rfl, hb4⟩
        go_wp2_with fail
        refine (hmt _).mono ?_
        rintro e w5 ⟨rfl, hb5⟩
        go_wp2_with fail
        refine (han _).mono ?_
        rintro e w6 ⟨rfl, hb6⟩
        go_wp2_with fail
        refine (hra _).mono ?_
        rintro e w7 ⟨rfl, hb7⟩
        go_wp2_with fail
        exact bodyPost_ret (v := .bool true) (results_one rfl rfl) rfl ⟨rfl, Ups.trans hb1 (Ups.trans hb2 (Ups.trans hb3 (Ups.trans hb4 (Ups.trans hb5 (Ups.trans hb6 (hb7))))))⟩
    · have hl2 : ((t.size : Int) != s.size) = true := by
        have : ¬ (t.size : Int) = s.size := by omega
        simpa using this
      clear hq hF hl
      go_enter Try.func13, Try.ntmps13
      go_wp2_with fail
      refine (works4 _).mono ?_
      rintro e w1 ⟨rfl, hb1⟩
      go_wp2_with fail
      refine (hmk _).mono ?_
      rintro e w2 ⟨rfl, hb2⟩
      go_wp2_with fail
      refine (hor _).mono ?_
      rintro e w3 ⟨rfl, hb3⟩
      go_wp2_with fail
      refine (hrd _).mono ?_
      rintro e w4 ⟨rfl, hb4⟩
      go_wp2_with fail
      refine (hmt _).mono ?_
      rintro e w5 ⟨rfl, hb5⟩
      go_wp2_with fail
      refine (han _).mono ?_
      rintro e w6 ⟨rfl, hb6⟩
      go_wp2_with fail
      refine (hra _).mono ?_
      rintro e w7 ⟨rfl, hb7⟩
      go_wp2_with fail
      exact bodyPost_ret (v := .bool true) (results_one rfl rfl) rfl ⟨rfl, Ups.trans hb1 (Ups.trans hb2 (Ups.trans hb3 (Ups.trans hb4 (Ups.trans hb5 (Ups.trans hb6 (hb7))))))⟩

set_option maxRecDepth 100000 in
set_option maxHeartbeats 1000000 in
theorem rest4_walk (s t m : ByteArray) (w : World) :
    Calls Try.prog 13 #[.string s, .string t, .string m] w fun e w' => e = .returned (.bool true) ∧ Below w.heap.size w w' := by
  by_cases h1 : (200 : Int) < s.size
  · go_enter Try.func13, Try.ntmps13
    go_wp2_with fail
    refine (works4 _).mono ?_
    rintro e w1 ⟨rfl, hb1⟩
    go_wp2_with fail
    exact bodyPost_ret (v := .bool true) (results_one rfl rfl) rfl ⟨rfl, hb1⟩
  by_cases h2 : (200 : Int) < t.size
  · go_enter Try.func13, Try.ntmps13
    go_wp2_with fail
    refine (works4 _).mono ?_
    rintro e w1 ⟨rfl, hb1⟩
    go_wp2_with fail
    exact bodyPost_ret (v := .bool true) (results_one rfl rfl) rfl ⟨rfl, hb1⟩
  by_cases h3 : (408 : Int) < m.size
  · go_enter Try.func13, Try.ntmps13
    go_wp2_with fail
    refine (works4 _).mono ?_
    rintro e w1 ⟨rfl, hb1⟩
    go_wp2_with fail
    exact bodyPost_ret (v := .bool true) (results_one rfl rfl) rfl ⟨rfl, hb1⟩
  have hz := makeT_size s
  have hzt := makeT_size t
  have hz2 := orT_size (makeT s) m
  have hz3 := andT_size (makeT s) (makeT t)
  have hp := part_read s m
  have hq := both_read s t
  have hmk := fun w => make_calls s w (by omega)
  have hmt := fun w => make_calls t w (by omega)
  have hor := fun w => or_t (makeT s) m w (by omega) (by omega)
  have han := fun w => and_t (makeT s) (makeT t) w (by omega) (by omega)
  have hrd := fun w => read_calls (orT (makeT s) m) w (by omega)
  have hra := fun w => read_calls (andT (makeT s) (makeT t)) w (by omega)
  have hb2 := readT_back (orT (makeT s) m)
  have hb3 := readT_back (andT (makeT s) (makeT t))
  have hrs := readT_make s
  -- what is read of the rest
  have hR : (readT (orT (makeT s) m) = (s, 0)) ∨ (readT (orT (makeT s) m)).2 = 2 := by
    rcases hb2 with ⟨h, _⟩ | ⟨h, _⟩
    · left
      rw [hp.1 h, hrs]
    · exact .inr h
  have hF : (readT (andT (makeT s) (makeT t))).2 = 0 ∨ (readT (andT (makeT s) (makeT t))).2 = 2 := hb3.imp And.left And.left
  clear hb2 hb3 hp hrs
  generalize readT (andT (makeT s) (makeT t)) = A at *
  generalize readT (orT (makeT s) m) = R at *
  generalize orT (makeT s) m = X at *
  generalize andT (makeT s) (makeT t) = Y at *
  generalize makeT s = M at *
  generalize makeT t = N at *
  obtain ⟨a, f⟩ := A
  obtain ⟨v, g⟩ := R
  simp only at hrd hra hq hF hR
  exact rest_core s t m M N X Y v a g f w h1 h2 h3 hq hR hF hmk hmt hor han hrd hra

set_option maxRecDepth 100000 in
set_option maxHeartbeats 1000000 in
theorem half4_walk (s : ByteArray) (n : UInt8) (w : World) :
    Calls Try.prog 14 #[.string s, .int .u8 n.toNat] w fun e w' => e = .returned (.bool true) ∧ Below w.heap.size w w' := by
  by_cases h1 : (200 : Int) < s.size
  · go_enter Try.func14, Try.ntmps14
    go_wp2_with fail
    refine (works4 _).mono ?_
    rintro e w1 ⟨rfl, hb1⟩
    go_wp2_with fail
    exact bodyPost_ret (v := .bool true) (results_one rfl rfl) rfl ⟨rfl, hb1⟩
  have hn := n.toNat_lt
  have hz := makeT_size s
  have hoz := onesT_size n.toNat
  have hmk := fun w => make_calls s w (by omega)
  have hon := fun w => ones_t n.toNat w (by omega)
  have hrd := fun w => read_calls (onesT n.toNat) w (by omega)
  have h2 := ones_not n.toNat
  have hcl := fun w => clear_calls (onesT n.toNat) w (by omega)
  rw [ones_clear] at hcl
  have hcm := fun w => clear_calls (makeT s) w (by omega)
  rw [make_clear] at hcm
  have hct := fun w => count_calls (makeT s) w (by omega)
  rw [make_count] at hct
  generalize readT (onesT n.toNat) = R at *
  obtain ⟨v, g⟩ := R
  simp only at h2 hrd
  subst h2
  generalize makeT s = M at *
  generalize onesT n.toNat = K at *
  go_enter Try.func14, Try.ntmps14
  go_wp2_with fail
  refine (works4 _).mono ?_
  rintro e w1 ⟨rfl, hb1⟩
  go_wp2_with fail
  refine (hmk _).mono ?_
  rintro e w2 ⟨rfl, hb2⟩
  go_wp2_with fail
  refine (hon _).mono ?_
  rintro e w3 ⟨rfl, hb3⟩
  go_wp2_with fail
  refine (hrd _).mono ?_
  rintro e w4 ⟨rfl, hb4⟩
  go_wp2_with fail
  refine (hon _).mono ?_
  rintro e w5 ⟨rfl, hb5⟩
  go_wp2_with fail
  refine (hcl _).mono ?_
  rintro e w6 ⟨rfl, hb6⟩
  go_wp2_with fail
  refine (hct _).mono ?_
  rintro e w7 ⟨rfl, rfl⟩
  go_wp2_with fail
  refine (hcm _).mono ?_
  rintro e w8 ⟨rfl, hb8⟩
  go_wp2_with fail
  exact bodyPost_ret (v := .bool true) (results_one rfl rfl) rfl ⟨rfl, Ups.trans hb1 (Ups.trans hb2 (Ups.trans hb3 (Ups.trans hb4 (Ups.trans hb5 (Ups.trans hb6 (hb8))))))⟩

end Go.Proofs.Ytghobgpogifjfaa
