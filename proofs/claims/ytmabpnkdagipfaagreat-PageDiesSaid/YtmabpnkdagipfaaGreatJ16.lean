/- Texts of this proof, one behind the other: Clear. -/
import Derived.Test.YtmabpnkdagipfaaGreatProg
import Derived.WalkKit
import Derived.WalkSpells
import Derived.OwnWalkIn
import Derived.TacticsInMore
import Derived.LoopNIn
import Derived.LoopIn
import Derived.Shelf.Abstract
import Derived.KernelRfl
import Derived.Deep.OwnRows
import Derived.Test.YtmabpnkdagipfaaGreatJ5
import Derived.Test.YtmabpnkdagipfaaGreatJ7

/- What record.Clear comes to: a range over a function. -/
namespace Go.Proofs.YtmabpnkdagipfaaGreat
open Go.RowKit
attribute [local go_sem] Oper.semAt_some

theorem each_calls (s : ByteArray) (w : World) :
    Calls Tryz.prog 59 #[.string s] w fun e w' => e = .returned (.func (.func 82) #[] #[.pointer (some ⟨w.heap.size, 0, none⟩)]) ∧ (w.alloc (.cells #[.string s] 9)) = w' := by
  have hmf : ∀ (fn : Fn) (first cap : Array Value) (w : World), (Instr.makeFunc fn first cap).run Tryz.prog w = .ok (.func fn first cap) w := fun _ _ _ _ => rfl
  go_enter Tryz.func59, Tryz.ntmps59
  go_wp2
  go_ret
  exact ⟨rfl, rfl⟩

theorem each_in (l b : Nat) (s : ByteArray) (hs : s.size ≤ 140737488355328) (J : Nat → World → Prop) (Jend : World → Prop)
    (hcell : ∀ k W, J k W → W.cell? ⟨b, 0, none⟩ = some (.string s))
    (hround : ∀ k W (hk : k < s.size), J k W → YieldAt Fence.wide 7 Tryz.prog l #[.int .u8 (s[k]'hk).toNat] W fun e W' => (e = .returned (.bool true) ∧ J (k + 1) W') ∨ (e = .returned (.bool false) ∧ Jend W'))
    (hlast : ∀ W, J s.size W → Jend W)
    (W : World) (h0 : J 0 W) :
    CallsIn Fence.wide 8 Tryz.prog 82 #[.func (.yield l) #[] #[], .pointer (some ⟨b, 0, none⟩)] W fun e W' => (∃ v, e = .returned v) ∧ Jend W' := by
  refine callsIn_of_wp Tryz.func82 rfl trivial ?_ rfl
  simp only [Tryz.ntmps82, List.size_toArray, List.length_cons, List.length_nil, Nat.reduceAdd, Nat.reduceSub, Array.replicate_succ, Array.replicate_zero, List.push_toArray, List.append_toArray, List.nil_append, List.cons_append]
  have hw0 := hcell 0 W h0
  have HC := Lib.hid hcell
  have HR := Lib.hid hround
  have HL := Lib.hid hlast
  clear hcell hround hlast
  gi_wp2
  gi_loopw [6] (fun i wr => ∃ k : Nat, k ≤ s.size ∧ i = .int .i64 k ∧ J k wr) (fun i _ => s.size - (intOf i).toNat)
  case atStart => exact ⟨0, Nat.zero_le _, rfl, h0⟩
  case round =>
    obtain ⟨k, hk, rfl, hJ⟩ := hrel
    by_cases hlt : k < s.size
    · have hcw := HC.out k wr hJ
      obtain ⟨fn, tmps, assign, body, hy, hR⟩ := HR.out k wr hlt hJ
      gi_wp2
      refine hR.mono ?_
      rintro e W3 (⟨rfl, hm⟩ | ⟨rfl, hm⟩)
      · clear hy hR
        gi_wp2
        go_roundw
        case rel => exact ⟨k + 1, by omega, by go_num, hm⟩
        case measure => simp [intOf]; omega
      · clear hy hR
        gi_wp2
        exact bodyPost_ret (results_none rfl _ _ _) rfl ⟨⟨_, rfl⟩, hm⟩
    · obtain rfl : k = s.size := by omega
      gi_wp2
      go_end0
      exact ⟨⟨_, rfl⟩, HL.out wr hJ⟩

def clearB (s : ByteArray) : Bool := s.data.toList.all fun c => c == 255

/-- The blocks that Clear lays. -/
def clearObjs (s : ByteArray) (v : Bool) (d rec : Obj) : List Obj := [.cells #[.bool v] 4, .cells #[.string s] 9, d, rec]

set_option maxRecDepth 100000 in
set_option maxHeartbeats 800000 in
theorem clear_calls (s : ByteArray) (w : World) (hs : s.size ≤ 140737488355328) :
    Calls Tryz.prog 38 #[.string s] w fun e w' => e = .returned (.bool (clearB s)) ∧ Below w.heap.size w w' := by
  refine (callsIn_wide (n := 9)).1 ?_
  refine callsIn_of_wp_marks Tryz.func38 rfl trivial ?_ rfl
  simp only [Tryz.ntmps38, List.size_toArray, List.length_cons, List.length_nil, Nat.reduceAdd, Nat.reduceSub, Array.replicate_succ, Array.replicate_zero, List.push_toArray, List.append_toArray, List.nil_append, List.cons_append]
  gi_wp2_with (refine ⟨trivial, ?_⟩; gi_at_call 59; refine (callsIn_wide.2 (each_calls _ _)).mono ?_; rintro e W2 ⟨rfl, hW2⟩; have HW := Lib.hid hW2; clear hW2)
  refine range_law rfl (by decide) (gf := 82) (lb := _) rfl trivial (enters_of Tryz.func82 (by kernel_rfl) rfl) ?_
  intro fn rec hfn hrec
  have h2 := ((Own.start w).alloc (.cells #[.bool false] 4)).alloc (.cells #[.string s] 9)
  have e2 := HW.out
  rw [e2] at h2
  have hsz := h2.size
  have h4 := (h2.alloc (.deferred (some []))).alloc (.loop (rec .ready none))
  simp only [List.nil_append, List.cons_append, List.length_cons, List.length_nil, Nat.zero_add, Nat.reduceAdd] at hsz h4
  clear HW e2 h2
  rw [hsz] at hrec ⊢
  have HREC := Lib.hid hrec
  clear hrec hsz
  refine (each_in (w.heap.size + 2 + 1) (w.heap.size + 1) s hs
    (fun k W => (∀ j (h : j < s.size), j < k → s[j] = 255) ∧ Own w (clearObjs s false (.deferred (some [])) (.loop (rec .ready none))) W)
    (fun W => (clearB s = true ∧ Own w (clearObjs s false (.deferred (some [])) (.loop (rec .ready none))) W) ∨ (clearB s = false ∧ Own w (clearObjs s false (.deferred (some [])) (.loop (rec .done (some .ret)))) W))
    ?cell ?round ?last _ ⟨fun j _ h => by omega, h4⟩).mono ?done
  case cell => exact fun k W h => h.2.cell _ 1 0 rfl rfl rfl
  case last =>
    rintro W ⟨hall, hJ⟩
    refine .inl ⟨?_, hJ⟩
    unfold clearB
    rw [List.all_eq_true]
    intro c hc
    obtain ⟨j, hj, rfl⟩ := List.getElem_of_mem hc
    have := hall j (by rw [← toList_length]; exact hj) (by rw [← toList_length]; exact hj)
    simp only [beq_iff_eq]
    exact this
  case round =>
    rintro k W hk ⟨hall, hJ⟩
    refine round_law hfn HREC.out (hJ.at _ 3 (by omega) rfl) rfl ?_
    gi_wp2
    refine ⟨hJ.at _ 3 (by omega) rfl, ?_⟩
    have hB := hJ.put (B := w.heap.size + 2 + 1) 3 (by omega) (.loop (rec .busy none)) (by simp [clearObjs])
    generalize World.putObj W (w.heap.size + 2 + 1) (.loop (rec .busy none)) = W2 at *
    clear hJ
    have c0 := hB.cell (w.heap.size) 0 0 rfl rfl rfl
    have f0 := hB.frozen (w.heap.size) 0 0 rfl rfl
    have HB := Lib.hid hB
    clear hB
    by_cases hc : s[k]'hk = 255
    · have hn : (((s[k]'hk).toNat : Int) != 255) = false := by rw [hc]; rfl
      gi_wp2
      have h4 := HB.out.put (B := w.heap.size + 2 + 1) 3 (by omega) (.loop (rec .ready none)) (by simp [clearObjs])
      refine ⟨HB.out.at _ 3 (by omega) rfl, .inl ⟨rfl, fun j h hj => ?_, h4⟩⟩
      rcases Nat.lt_or_ge j k with hlt | hge
      · exact hall j h hlt
      · obtain rfl : j = k := by omega
        exact hc
    · have hn : (((s[k]'hk).toNat : Int) != 255) = true := by
        have : (s[k]'hk).toNat ≠ 255 := fun e => hc (UInt8.toNat_inj.1 e)
        simp
        omega
      gi_wp2
      have h3 := HB.out.set (B := w.heap.size) 0 0 rfl (.bool false) rfl
      have h4 := h3.put (B := w.heap.size + 2 + 1) 3 (by omega) (.loop (rec .done (some .ret))) (by simp [clearObjs])
      refine ⟨h3.at _ 3 (by omega) rfl, .inr ⟨rfl, .inr ⟨?_, h4⟩⟩⟩
      unfold clearB
      rw [List.all_eq_false]
      refine ⟨s[k]'hk, List.getElem_mem (by rw [toList_length]; exact hk), by simpa using hc⟩
  case done =>
    rintro e W ⟨hv, ⟨hc, hJ⟩ | ⟨hc, hJ⟩⟩
    · refine ⟨hv, .inl ⟨hJ.at _ 3 (by omega) rfl, ?_⟩⟩
      have hB := hJ.put (B := w.heap.size + 2 + 1) 3 (by omega) (.loop (rec .exhausted none)) (by simp [clearObjs])
      generalize World.putObj W (w.heap.size + 2 + 1) (.loop (rec .exhausted none)) = W2 at *
      clear hJ
      have c0 := hB.cell (w.heap.size) 0 0 rfl rfl rfl
      have f0 := hB.frozen (w.heap.size) 0 0 rfl rfl
      have HB := Lib.hid hB
      have HC := Lib.hid hc
      clear hB hc
      gi_wp2
      have h3 := HB.out.set (B := w.heap.size) 0 0 rfl (.bool true) rfl
      generalize World.setCell W2 _ _ = W3 at *
      have h4 := h3.put (B := w.heap.size + 2) 2 (by omega) (.deferred none) (by simp [clearObjs])
      refine ⟨by simp, .inl ⟨_, _, rfl, run_takeDeferred (h3.at (w.heap.size + 2) 2 (by omega) rfl), ?_⟩⟩
      generalize World.putObj W3 _ _ = W4 at *
      have k1 : W4.cell? ⟨w.heap.size, 0, none⟩ = some (.bool true) := h4.cell _ 0 0 rfl rfl rfl
      refine ⟨.bool true, ?_, by rw [HC.out], h4.bel⟩
      simp [results, Tryz.results38, go_sem, k1]
    · refine ⟨hv, .inr ⟨hJ.at _ 3 (by omega) rfl, ?_⟩⟩
      have hB := hJ.put (B := w.heap.size + 2 + 1) 3 (by omega) (.loop (rec .exhausted (some .ret))) (by simp [clearObjs])
      generalize World.putObj W (w.heap.size + 2 + 1) (.loop (rec .exhausted (some .ret))) = W2 at *
      clear hJ
      have HB := Lib.hid hB
      have HC := Lib.hid hc
      clear hB hc
      gi_wp2
      have h3 := HB.out
      have h4 := h3.put (B := w.heap.size + 2) 2 (by omega) (.deferred none) (by simp [clearObjs])
      refine ⟨by simp, .inl ⟨_, _, rfl, run_takeDeferred (h3.at (w.heap.size + 2) 2 (by omega) rfl), ?_⟩⟩
      generalize World.putObj W2 _ _ = W4 at *
      have k1 : W4.cell? ⟨w.heap.size, 0, none⟩ = some (.bool false) := h4.cell _ 0 0 rfl rfl rfl
      refine ⟨.bool false, ?_, by rw [HC.out], h4.bel⟩
      simp [results, Tryz.results38, go_sem, k1]

end Go.Proofs.YtmabpnkdagipfaaGreat
