/- Texts of this proof, one behind the other: RefEq. -/
import Derived.Deep.QuietTactic
import Derived.BigQuiet
import Derived.LoopTactic
import Derived.Outline
import Derived.WalkSpells
import Derived.WalkLawsBesides
import Derived.Test.YtmabpnkdagipfaaGreatJ20

/- What ouroborosref01.Texts and Ints come to. -/
namespace Go.Proofs.YtmabpnkdagipfaaGreat
open Go.RowKit

set_option maxRecDepth 100000 in
set_option maxHeartbeats 2000000 in
theorem rtexts_calls {w : World} {v v' : Value} {l l' : List ByteArray} (h : TextsAt w v l) (h' : TextsAt w v' l') (hl : l.length ≤ 1000000) :
    Calls Tryz.prog 11 #[v, v'] w fun e W' => e = .returned (.bool (decide (l = l'))) ∧ Ups w W' := by
  obtain ⟨a, c, rfl, hc⟩ := h
  obtain ⟨a', c', rfl, hc'⟩ := h'
  by_cases hn : l.length = l'.length
  · have hn1 : ((l.length : Int) != l'.length) = false := by
      have : (l.length : Int) = l'.length := by omega
      simpa using this
    have HC := Lib.hid hc
    have HC' := Lib.hid hc'
    have HN := Lib.hid hn
    clear hc hc' hn
    go_enter Tryz.func11, Tryz.ntmps11
    go_wp2_with fail
    go_loopw [5] (fun i wr => ∃ k : Nat, k ≤ l.length ∧ i = .int .i64 k ∧ Ups w wr ∧ l.take k = l'.take k) (fun i _ => l.length - (intOf i).toNat)
    case atStart => exact ⟨0, Nat.zero_le _, rfl, Ups.refl _, rfl⟩
    case round =>
      obtain ⟨k, hk, rfl, hu, hpre⟩ := hrel
      have HP := Lib.hid hpre
      clear hpre
      by_cases hlt : k < l.length
      · obtain ⟨b, off, rfl, hj⟩ := HC.out (by omega)
        obtain ⟨b', off', rfl, hj'⟩ := HC'.out (by have := HN.out; omega)
        have e1 := cell_ups hu (hj k hlt)
        have e2 := cell_ups hu (hj' k (by have := HN.out; omega))
        have i1 : (k : Int) < l.length := by omega
        have i2 : (k : Int) < l'.length := by have := HN.out; omega
        have g1 : l.getD k ByteArray.empty = l[k] := by simp [hlt]
        have hlt' : k < l'.length := by have := HN.out; omega
        have g2 : l'.getD k ByteArray.empty = l'[k] := by simp [hlt']
        have G1 := Lib.hid g1
        have G2 := Lib.hid g2
        clear hj hj' g1 g2
        generalize l.getD k ByteArray.empty = x at *
        generalize l'.getD k ByteArray.empty = y at *
        by_cases hxy : x = y
        · have hd : (x.toList == y.toList) = true := by rw [hxy]; simp
          have HXY := Lib.hid hxy
          clear hxy
          go_wp2_with fail
          go_quiet (fail)
          go_wp2_with fail
          refine ⟨⟨k + 1, by omega, by go_num, Ups.trans hu (ups_drewN _ _), ?_⟩, ?_⟩
          · rw [List.take_succ_eq_append_getElem hlt, List.take_succ_eq_append_getElem hlt', HP.out, ← G1.out, ← G2.out, HXY.out]
          · simp [intOf]; omega
        · have hd : (x.toList == y.toList) = false := by
            rw [beq_eq_false_iff_ne]
            intro e
            apply hxy
            rw [ByteArray.toList_eq, ByteArray.toList_eq] at e
            exact text_ext e
          have hne : ¬ l = l' := fun e => by
            subst e
            exact hxy (G1.out.trans G2.out.symm)
          go_wp2_with fail
          go_quiet (fail)
          go_wp2_with fail
          go_ret
          exact ⟨by simp [hne], Ups.trans hu (ups_drewN _ _)⟩
      · have : k = l.length := by omega
        subst this
        have he : l = l' := by
          have := HP.out
          rwa [List.take_length, HN.out, List.take_length] at this
        go_wp2_with fail
        go_ret
        exact ⟨by simp [he], hu⟩
  · have hn1 : ((l.length : Int) != l'.length) = true := by
      have : ¬ (l.length : Int) = l'.length := by omega
      simpa using this
    have hne : ¬ l = l' := fun e => hn (by rw [e])
    clear hc hc' hn
    go_enter Tryz.func11, Tryz.ntmps11
    go_wp2_with fail
    go_ret
    exact ⟨by simp [hne], Ups.refl _⟩

set_option maxRecDepth 100000 in
set_option maxHeartbeats 2000000 in
theorem rints_calls {w : World} {v v' : Value} {l l' : List Int} (h : IntsAt w v l) (h' : IntsAt w v' l') (hl : l.length ≤ 1000000) :
    Calls Tryz.prog 45 #[v, v'] w fun e W' => e = .returned (.bool (decide (l = l'))) ∧ Ups w W' := by
  obtain ⟨a, c, rfl, hc⟩ := h
  obtain ⟨a', c', rfl, hc'⟩ := h'
  by_cases hn : l.length = l'.length
  · have hn1 : ((l.length : Int) != l'.length) = false := by
      have : (l.length : Int) = l'.length := by omega
      simpa using this
    have HC := Lib.hid hc
    have HC' := Lib.hid hc'
    have HN := Lib.hid hn
    clear hc hc' hn
    go_enter Tryz.func45, Tryz.ntmps45
    go_wp2_with fail
    go_loopw [5] (fun i wr => ∃ k : Nat, k ≤ l.length ∧ i = .int .i64 k ∧ Ups w wr ∧ l.take k = l'.take k) (fun i _ => l.length - (intOf i).toNat)
    case atStart => exact ⟨0, Nat.zero_le _, rfl, Ups.refl _, rfl⟩
    case round =>
      obtain ⟨k, hk, rfl, hu, hpre⟩ := hrel
      have HP := Lib.hid hpre
      clear hpre
      by_cases hlt : k < l.length
      · obtain ⟨b, off, rfl, hj⟩ := HC.out (by omega)
        obtain ⟨b', off', rfl, hj'⟩ := HC'.out (by have := HN.out; omega)
        have e1 := cell_ups hu (hj k hlt)
        have e2 := cell_ups hu (hj' k (by have := HN.out; omega))
        have i1 : (k : Int) < l.length := by omega
        have i2 : (k : Int) < l'.length := by have := HN.out; omega
        have g1 : l.getD k 0 = l[k] := by simp [hlt]
        have hlt' : k < l'.length := by have := HN.out; omega
        have g2 : l'.getD k 0 = l'[k] := by simp [hlt']
        have G1 := Lib.hid g1
        have G2 := Lib.hid g2
        clear hj hj' g1 g2
        generalize l.getD k 0 = x at *
        generalize l'.getD k 0 = y at *
        by_cases hxy : x = y
        · have hd : (x != y) = false := by rw [hxy]; simp
          have HXY := Lib.hid hxy
          clear hxy
          go_wp2_with fail
          go_quiet (fail)
          go_wp2_with fail
          refine ⟨⟨k + 1, by omega, by go_num, Ups.trans hu (ups_drewN _ _), ?_⟩, ?_⟩
          · rw [List.take_succ_eq_append_getElem hlt, List.take_succ_eq_append_getElem hlt', HP.out, ← G1.out, ← G2.out, HXY.out]
          · simp [intOf]; omega
        · have hd : (x != y) = true := by simpa using hxy
          have hne : ¬ l = l' := fun e => by
            subst e
            exact hxy (G1.out.trans G2.out.symm)
          go_wp2_with fail
          go_quiet (fail)
          go_wp2_with fail
          go_ret
          exact ⟨by simp [hne], Ups.trans hu (ups_drewN _ _)⟩
      · have : k = l.length := by omega
        subst this
        have he : l = l' := by
          have := HP.out
          rwa [List.take_length, HN.out, List.take_length] at this
        go_wp2_with fail
        go_ret
        exact ⟨by simp [he], hu⟩
  · have hn1 : ((l.length : Int) != l'.length) = true := by
      have : ¬ (l.length : Int) = l'.length := by omega
      simpa using this
    have hne : ¬ l = l' := fun e => hn (by rw [e])
    clear hc hc' hn
    go_enter Tryz.func45, Tryz.ntmps45
    go_wp2_with fail
    go_ret
    exact ⟨by simp [hne], Ups.refl _⟩

end Go.Proofs.YtmabpnkdagipfaaGreat
