/- Texts of this proof, one behind the other: Step, CrcOn. -/
import Derived.Test.YtmabpnkdagipfaaGreatJ4
import Derived.Test.YtmabpnkdagipfaaGreatJ5

/- A step of package crc by its table, and a text's run: walked. -/
namespace Go.Proofs.YtmabpnkdagipfaaGreat
open Go.RowKit

theorem Oc.split16 (a : Nat) : a % 16 ^^^ 16 * (a / 16) = a := by
  have h : a % 16 ^^^ 16 * (a / 16) = a % 16 + 16 * (a / 16) := by
    rw [Nat.xor_comm]
    have := Nat.two_pow_add_eq_or_of_lt (i := 4) (b := a % 16) (by omega) (a / 16)
    have hx : 2 ^ 4 * (a / 16) ^^^ a % 16 = 2 ^ 4 * (a / 16) ||| a % 16 := by
      apply Nat.eq_of_testBit_eq
      intro i
      rw [Nat.testBit_xor, Nat.testBit_or, Nat.testBit_two_pow_mul]
      by_cases hi : i < 4
      · have : ¬ 4 ≤ i := by omega
        simp [this]
      · have hz : (a % 16).testBit i = false := Nat.testBit_lt_two_pow (Nat.lt_of_lt_of_le (Nat.mod_lt _ (by decide)) (Nat.pow_le_pow_right (n := 2) (i := 4) (by decide) (by omega)))
        simp [hz]
    have e : 16 * (a / 16) = 2 ^ 4 * (a / 16) := by omega
    rw [e, hx, ← this]
    omega
  rw [h]
  omega

theorem Oc.div_xor (n p : Nat) (hp : p < 16) : (n ^^^ p) / 16 = n / 16 := by
  have h := Nat.shiftRight_xor_distrib (a := n) (b := p) (i := 4)
  simp only [Nat.shiftRight_eq_div_pow] at h
  have e : p / 2 ^ 4 = 0 := Nat.div_eq_of_lt hp
  rw [e, Nat.xor_zero] at h
  exact h

theorem Oc.step4 (n p : Nat) (hp : p < 16) : Oc.Sk 4 ((n ^^^ p) % 16) ^^^ n / 16 = Oc.Sk 4 (n ^^^ p) := by
  have h := Oc.split16 (n ^^^ p)
  have hs : Oc.Sk 4 (16 * ((n ^^^ p) / 16)) = (n ^^^ p) / 16 := Oc.Sk_shl 4 _
  rw [Oc.div_xor n p hp] at h hs
  have := Oc.Sk_xor 4 ((n ^^^ p) % 16) (16 * (n / 16))
  rw [h, hs] at this
  exact this.symm

theorem Oc.step8 (n c : Nat) : Oc.Sk 4 (Oc.Sk 4 (n ^^^ c % 16) ^^^ c / 16) = Oc.Sk 8 (n ^^^ c) := by
  have h := Oc.split16 c
  have hs : Oc.Sk 4 (16 * (c / 16)) = c / 16 := Oc.Sk_shl 4 _
  have := Oc.Sk_xor 4 (n ^^^ c % 16) (16 * (c / 16))
  rw [Nat.xor_assoc, h, hs] at this
  rw [← this]
  exact (Oc.Sk_add 4 4 _).symm

def TabOk (w W : World) : Prop := Tab w W 0 0 (rowsTo 0) ∨ Tab w W 1 0 (rowsTo 16)

theorem do_calls {w W : World} (h : TabOk w W) :
    Calls Tryz.prog 106 #[.pointer (some ⟨w.heap.size, 0, none⟩), .func (.func 107) #[.pointer (some ⟨w.heap.size, 0, none⟩)] #[]] W fun e W' => e = .returned (.tuple #[]) ∧ Tab w W' 1 0 (rowsTo 16) := by
  rcases h with h | h
  · exact do_first h
  · exact do_again _ h

theorem rowsTo_get (i : Nat) (h : i < 16) : (rowsTo 16)[i]'(by rw [rowsTo_length]; exact h) = ((Oc.Sk 4 i : Nat) : Int) := by
  simp [rowsTo, h]

set_option maxRecDepth 100000 in
theorem step_calls {w W : World} (h : TabOk w W) (n p : Nat) (hn : n < 4294967296) (hp : p < 16) :
    Calls Tryz.prog 102 #[.pointer (some ⟨w.heap.size, 0, none⟩), .int .u32 n, .int .u8 p] W fun e W' => e = .returned (.int .u32 (Oc.Sk 4 (n ^^^ p) : Nat)) ∧ Tab w W' 1 0 (rowsTo 16) := by
  have hmf : ∀ (fn : Fn) (first cap : Array Value) (w : World), (Instr.makeFunc fn first cap).run Tryz.prog w = .ok (.func fn first cap) w := fun _ _ _ _ => rfl
  have b1 : bits .xor .u32 (n : Int) (p : Int) = ((n ^^^ p : Nat) : Int) := u32_xor_nat n p hn (by omega)
  have hx : n ^^^ p < 4294967296 := Nat.xor_lt_two_pow (n := 32) hn (by omega)
  have b2 : bits .and .u32 ((n ^^^ p : Nat) : Int) 15 = (((n ^^^ p) % 16 : Nat) : Int) := by
    have := u32_and_nat (n ^^^ p) 15 hx (by decide)
    rw [show (15 : Nat) = 2 ^ 4 - 1 from rfl, Nat.and_two_pow_sub_one_eq_mod] at this
    exact this
  have hr : (n ^^^ p) % 16 < 16 := Nat.mod_lt _ (by decide)
  have hs := Oc.Sk_lt 4 ((n ^^^ p) % 16) (by omega)
  have b3 : bits .xor .u32 ((Oc.Sk 4 ((n ^^^ p) % 16) : Nat) : Int) ((n : Int) / 16) = ((Oc.Sk 4 (n ^^^ p) : Nat) : Int) := by
    have := u32_xor_nat (Oc.Sk 4 ((n ^^^ p) % 16)) (n / 16) hs (by omega)
    rw [Oc.step4 n p hp] at this
    exact this
  generalize n ^^^ p = x at *
  go_enter Tryz.func102, Tryz.ntmps102
  go_wp2_with (go_at_call 106; refine (do_calls h).mono ?_; rintro e W2 ⟨rfl, h2⟩; have hc := h2.atRow (x % 16) (by rw [rowsTo_length]; exact hr); rw [rowsTo_get _ hr] at hc)
  exact bodyPost_ret (v := .int .u32 (Oc.Sk 4 x : Nat)) (results_one rfl rfl) rfl ⟨rfl, h2⟩

end Go.Proofs.YtmabpnkdagipfaaGreat

/- A text's run through the sum's register (crc.on): walked. -/
namespace Go.Proofs.YtmabpnkdagipfaaGreat
open Go.RowKit

theorem TabOk.drew {w W : World} (h : TabOk w W) : TabOk w W.drew := h.imp Tab.drew Tab.drew

theorem low4 (c : Nat) (h : c < 256) : bits .and .u8 (c : Int) 15 = ((c % 16 : Nat) : Int) := by
  have := u8_and_nat c 15 h (by decide)
  rw [show (15 : Nat) = 2 ^ 4 - 1 from rfl, Nat.and_two_pow_sub_one_eq_mod] at this
  exact this

theorem on_take (n : Nat) (l : List UInt8) (k : Nat) (h : k < l.length) : Oc.on n (l.take (k + 1)) = Oc.Sk 8 (Oc.on n (l.take k) ^^^ l[k].toNat) := by
  rw [List.take_succ_eq_append_getElem h, Oc.on_append]
  rfl

/-- The table's worlds: what a step may turn. -/
def TabGo (w A B : World) : Prop := TabOk w A → TabOk w B

set_option maxRecDepth 100000 in
set_option maxHeartbeats 1000000 in
theorem on_calls (n : Nat) (s : ByteArray) (w : World) (hn : n < 4294967296) (hs : s.size ≤ 140737488355328) :
    Calls Tryz.prog 96 #[.int .u32 n, .string s] w fun e w' => e = .returned (.int .u32 (Oc.on n s.data.toList : Nat)) ∧ Below w.heap.size w w' := by
  go_enter Tryz.func96, Tryz.ntmps96
  go_wp2
  have ht0 : TabOk w (w.alloc (tabObj 0 0 (rowsTo 0))) := .inl ⟨(Own.start w).alloc _, rowsTo_length 0⟩
  have hob : tabObj 0 0 (rowsTo 0) = .cells #[.int .u32 0, .int .i32 0, .int .u32 0, .int .u32 0, .int .u32 0, .int .u32 0, .int .u32 0, .int .u32 0, .int .u32 0, .int .u32 0, .int .u32 0, .int .u32 0, .int .u32 0, .int .u32 0, .int .u32 0, .int .u32 0, .int .u32 0, .int .u32 0, .int .u32 0] 126 (0, 0) := rfl
  rw [hob] at ht0
  generalize w.alloc (.cells #[.int .u32 0, .int .i32 0, .int .u32 0, .int .u32 0, .int .u32 0, .int .u32 0, .int .u32 0, .int .u32 0, .int .u32 0, .int .u32 0, .int .u32 0, .int .u32 0, .int .u32 0, .int .u32 0, .int .u32 0, .int .u32 0, .int .u32 0, .int .u32 0, .int .u32 0] 126 (0, 0)) = W0 at *
  clear hob
  go_loopw [0, 11] (fun m i wr => ∃ k : Nat, k ≤ s.size ∧ i = .int .i64 k ∧ m = .int .u32 (Oc.on n (s.data.toList.take k) : Nat) ∧ TabOk w wr) (fun _ i _ => s.size - (intOf i).toNat)
  case atStart => exact ⟨0, Nat.zero_le _, rfl, rfl, ht0⟩
  case round =>
    obtain ⟨k, hk, rfl, rfl, ht⟩ := hrel
    by_cases hlt : k < s.size
    · have hl : k < s.data.toList.length := by rw [toList_length]; exact hlt
      have hnext := on_take n s.data.toList k hl
      have hget : s.data.toList[k] = s[k]'hlt := rfl
      rw [hget] at hnext
      have hN := Oc.on_lt n (s.data.toList.take k) hn
      generalize Oc.on n (s.data.toList.take k) = N at *
      have HS := Lib.hid hnext
      clear hnext hget hl
      go_wp2_with fail
      have hc8 := (s[k]'hlt).toNat_lt
      have hb1 := low4 (s[k]'hlt).toNat hc8
      have hst : ∀ (m p : Nat) (W : World), m < 4294967296 → p < 16 → TabGo w wr.drew W →
          Calls Tryz.prog 102 #[.pointer (some ⟨w.heap.size, 0, none⟩), .int .u32 m, .int .u8 p] W fun e w' => e = .returned (.int .u32 (Oc.Sk 4 (m ^^^ p) : Nat)) ∧ TabGo w W w' := by
        intro m p W hm hp hG
        refine (step_calls (hG ht.drew) m p hm hp).mono ?_
        rintro e w' ⟨rfl, h⟩
        exact ⟨rfl, fun _ => .inr h⟩
      have hv1 : Oc.Sk 4 (N ^^^ (s[k]'hlt).toNat % 16) < 4294967296 := Oc.Sk_lt _ _ (Nat.xor_lt_two_pow (n := 32) hN (by omega))
      have hv2 := Oc.step8 N (s[k]'hlt).toNat
      refine wp_region_told (n := 29) (TabGo w) (fun _ h => h) (fun h1 h2 h => h2 (h1 h)) (xs := [.pointer (some ⟨w.heap.size, 0, none⟩), .pointer (some ⟨w.heap.size, 0, none⟩), .int .u32 N, .string s, .int .i64 k, .int .u8 (s[k]'hlt).toNat, .int .u8 ((s[k]'hlt).toNat % 16 : Nat),
        .int .u32 (Oc.Sk 4 (N ^^^ (s[k]'hlt).toNat % 16) : Nat), .string s, .int .i64 k, .int .u8 (s[k]'hlt).toNat, .int .u8 ((s[k]'hlt).toNat / 16 : Nat), .int .u32 (Oc.Sk 8 (N ^^^ (s[k]'hlt).toNat) : Nat),
        .int .u32 (Oc.Sk 8 (N ^^^ (s[k]'hlt).toNat) : Nat)]) (by decide +kernel) (by decide +kernel) (by simp) rfl ?_ rfl ?_
      · refine And.intro (fun a' W hO hU H => ?_) ?_
        · have h5 := (hO 5 rfl).trans rfl
          exact told_value (fun _ h => h) (by simp [go_sem, toldAt, h5]) rfl
        refine And.intro (fun a' W hO hU H => ?_) ?_
        · have h5 := (hO 5 rfl).trans rfl
          exact told_value (fun _ h => h) (by simp [go_sem, toldAt, h5]) rfl
        refine And.intro (fun a' W hO hU H => ?_) ?_
        · have h0 := (hO 0 rfl).trans rfl
          exact told_value (fun _ h => h) (by simp [go_sem, toldAt, h0]) rfl
        refine And.intro (fun a' W hO hU H => ?_) ?_
        · have h1 := (hO 1 rfl).trans rfl
          exact told_value (fun _ h => h) (by simp [go_sem, toldAt, h1]) rfl
        refine And.intro (fun a' W hO hU H => ?_) ?_
        · have h6 := (hO 6 rfl).trans rfl
          exact told_value (fun _ h => h) (by simp [go_sem, toldAt, h6]) rfl
        refine And.intro (fun a' W hO hU H => ?_) ?_
        · have h17 := H 3 17 rfl
          have h18 := H 4 18 rfl
          exact told_value (fun _ h => h) (by simp [go_sem, toldAt, h17, h18, hlt]) rfl
        refine And.intro (fun a' W hO hU H => ?_) ?_
        · have h19 := H 5 19 rfl
          exact told_value (fun _ h => h) (by simp [go_sem, toldAt, h19, hb1]) rfl
        refine And.intro (fun a' W hO hU H => ?_) ?_
        · have h15 := H 1 15 rfl
          have h16 := H 2 16 rfl
          have h20 := H 6 20 rfl
          exact told_call (args := #[.pointer (some ⟨w.heap.size, 0, none⟩), .int .u32 N, .int .u8 ((s[k]'hlt).toNat % 16 : Nat)]) (by simp [go_sem, toldAt, h15, h16, h20]) (hst _ _ _ hN (by omega) hU)
        refine And.intro (fun a' W hO hU H => ?_) ?_
        · have h1 := (hO 1 rfl).trans rfl
          exact told_value (fun _ h => h) (by simp [go_sem, toldAt, h1]) rfl
        refine And.intro (fun a' W hO hU H => ?_) ?_
        · have h6 := (hO 6 rfl).trans rfl
          exact told_value (fun _ h => h) (by simp [go_sem, toldAt, h6]) rfl
        refine And.intro (fun a' W hO hU H => ?_) ?_
        · have h22 := H 8 22 rfl
          have h23 := H 9 23 rfl
          exact told_value (fun _ h => h) (by simp [go_sem, toldAt, h22, h23, hlt]) rfl
        refine And.intro (fun a' W hO hU H => ?_) ?_
        · have h24 := H 10 24 rfl
          exact told_value (fun _ h => h) (by simp [go_sem, toldAt, h24]) rfl
        refine And.intro (fun a' W hO hU H => ?_) ?_
        · have h14 := H 0 14 rfl
          have h21 := H 7 21 rfl
          have h25 := H 11 25 rfl
          have hcall := hst _ ((s[k]'hlt).toNat / 16) W hv1 (by omega) hU
          rw [hv2] at hcall
          exact told_call (args := #[.pointer (some ⟨w.heap.size, 0, none⟩), .int .u32 (Oc.Sk 4 (N ^^^ (s[k]'hlt).toNat % 16) : Nat), .int .u8 ((s[k]'hlt).toNat / 16 : Nat)]) (by simp [go_sem, toldAt, h14, h21, h25]) hcall
        refine And.intro (fun a' W hO hU H => ?_) ?_
        · have h26 := H 12 26 rfl
          exact told_value (fun _ h => h) (by simp [go_sem, toldAt, h26]) rfl
        exact trivial
      · intro W hU
        have ht2 := hU ht.drew
        clear hst hv2 hv1 hb1
        simp only [endTmps, List.setIfInBounds_toArray, List.set]
        go_wp2
        go_roundw
        case rel => exact ⟨k + 1, by omega, by go_num, by rw [HS.out], ht2⟩
        case measure => simp [intOf]; omega
    · have hall : s.data.toList.take k = s.data.toList := List.take_of_length_le (by rw [toList_length]; omega)
      rw [hall]
      go_wp2
      go_ret
      rcases ht with h | h
      · exact ⟨rfl, h.own.bel⟩
      · exact ⟨rfl, h.own.bel⟩

end Go.Proofs.YtmabpnkdagipfaaGreat
