/- Texts of this proof, one behind the other: Put. -/
import Derived.Test.YtmabpnkdagipfaaGreatProg
import Derived.WalkKit
import Derived.WalkSpells
import Derived.OwnWalkIn
import Derived.TacticsInMore
import Derived.LoopNIn
import Derived.LoopIn
import Derived.Shelf.Abstract
import Derived.KernelRfl
import Derived.Deep.OwnRows
import Derived.Laws.BitsLemmas
import Derived.Test.YtmabpnkdagipfaaGreatJ7

/- What octet.Put comes to: walked; its numbers' parts by a range over a function. -/
namespace Go.Proofs.YtmabpnkdagipfaaGreat
open Go.RowKit
attribute [local go_sem] Oper.semAt_some

theorem parts_calls (n wd : Int) (w : World) :
    Calls Tryz.prog 95 #[.int .i64 n, .int .i64 wd] w fun e w' => e = .returned (.func (.func 101) #[] #[.pointer (some ⟨w.heap.size + 1, 0, none⟩), .pointer (some ⟨w.heap.size, 0, none⟩)]) ∧ (w.alloc (.cells #[.int .i64 n] 3)).alloc (.cells #[.int .i64 wd] 3) = w' := by
  have hmf : ∀ (fn : Fn) (first cap : Array Value) (w : World), (Instr.makeFunc fn first cap).run Tryz.prog w = .ok (.func fn first cap) w := fun _ _ _ _ => rfl
  go_enter Tryz.func95, Tryz.ntmps95
  go_wp2
  go_ret
  exact ⟨rfl, rfl⟩

theorem parts_in (l wb nb wd : Nat) (hwd : wd ≤ 7) (vs ps : Nat → Int) (J Jm : Nat → World → Prop) (Jend : World → Prop)
    (hand : ∀ k, bits .and .i64 (vs k) 255 = ps k)
    (hshr : ∀ k, vs k / 256 = vs (k + 1))
    (hcell : ∀ k W, J k W → W.cell? ⟨wb, 0, none⟩ = some (.int .i64 wd) ∧ W.cell? ⟨nb, 0, none⟩ = some (.int .i64 (vs k)))
    (hmid : ∀ k W, Jm k W → W.cell? ⟨nb, 0, none⟩ = some (.int .i64 (vs k)) ∧ W.frozen? ⟨nb, 0, none⟩ = false)
    (hround : ∀ k W, k < wd → J k W → YieldAt Fence.wide 7 Tryz.prog l #[.int .i64 k, .int .i64 (ps k)] W fun e W' => e = .returned (.bool true) ∧ Jm k W')
    (hstep : ∀ k W, k < wd → Jm k W → J (k + 1) (W.setCell ⟨nb, 0, none⟩ (.int .i64 (vs (k + 1)))))
    (hlast : ∀ W, J wd W → YieldAt Fence.wide 7 Tryz.prog l #[.int .i64 wd, .int .i64 (vs wd)] W fun e W' => (∃ v, e = .returned v) ∧ Jend W')
    (W : World) (h0 : J 0 W) :
    CallsIn Fence.wide 8 Tryz.prog 101 #[.func (.yield l) #[] #[], .pointer (some ⟨wb, 0, none⟩), .pointer (some ⟨nb, 0, none⟩)] W fun e W' => (∃ v, e = .returned v) ∧ Jend W' := by
  refine callsIn_of_wp Tryz.func101 rfl trivial ?_ rfl
  simp only [Tryz.ntmps101, List.size_toArray, List.length_cons, List.length_nil, Nat.reduceAdd, Nat.reduceSub, Array.replicate_succ, Array.replicate_zero, List.push_toArray, List.append_toArray, List.nil_append, List.cons_append]
  have hw0 := (hcell 0 W h0).1
  have HS := Lib.hid hshr
  have HA := Lib.hid hand
  have HC := Lib.hid hcell
  have HM := Lib.hid hmid
  have HR := Lib.hid hround
  have HT := Lib.hid hstep
  have HL := Lib.hid hlast
  clear hshr hand hcell hmid hround hstep hlast
  gi_wp2
  gi_loopw [6] (fun i wr => ∃ k : Nat, k ≤ wd ∧ i = .int .i64 k ∧ J k wr) (fun i _ => wd - (intOf i).toNat)
  case atStart => exact ⟨0, Nat.zero_le _, rfl, h0⟩
  case round =>
    obtain ⟨k, hk, rfl, hJ⟩ := hrel
    by_cases hlt : k < wd
    · obtain ⟨hcw, hcn⟩ := HC.out k wr hJ
      obtain ⟨fn, tmps, assign, body, hy, hR⟩ := HR.out k wr hlt hJ
      have ha := HA.out k
      gi_wp2
      refine hR.mono ?_
      rintro e W3 ⟨rfl, hm⟩
      obtain ⟨hn3, hf3⟩ := HM.out k W3 hm
      clear ha hy hR
      have hs := HT.out k W3 hlt hm
      rw [← HS.out k] at hs
      gi_wp2
      go_roundw
      case rel => exact ⟨k + 1, by omega, by go_num, hs⟩
      case measure => simp [intOf]; omega
    · obtain rfl : k = wd := by omega
      obtain ⟨hcw, hcn⟩ := HC.out k wr hJ
      obtain ⟨fn, tmps, assign, body, hy, hR⟩ := HL.out wr hJ
      gi_wp2
      refine hR.mono ?_
      rintro e W3 ⟨⟨v, rfl⟩, hend⟩
      clear hy hR
      gi_wp2
      go_end0
      exact ⟨⟨_, rfl⟩, hend⟩

theorem info_byte : (Tryz.prog.info? 5).map (fun i => (i.zero, i.size, i.bytes)) = some (some (.int .u8 0), 1, 1) := by kernel_rfl

/-- The cells of a row of bytes. -/
def encA (l : List UInt8) : Array Value := (l.map fun c => Value.int .u8 c.toNat).toArray
theorem encA_made (k : Nat) : madeCells #[.int .u8 0] k = encA (List.replicate k 0) := by
  apply Array.ext'
  rw [toList_madeCells_one]
  simp [encA]
theorem encA_set (l : List UInt8) (k : Nat) (c : UInt8) : (encA l).setIfInBounds k (.int .u8 c.toNat) = encA (l.set k c) := by
  simp [encA, List.map_set]
theorem encA_get (l : List UInt8) (k : Nat) (h : k < l.length) : (encA l)[k]? = some (.int .u8 l[k].toNat) := by
  simp [encA, h]

/-- The row in the k-th round. -/
def rowL (n wd k : Nat) : List UInt8 := putL n k ++ List.replicate (wd - k) 0
theorem rowL_zero (n wd : Nat) : rowL n wd 0 = List.replicate wd 0 := by simp [rowL, putL]
theorem rowL_all (n wd : Nat) : rowL n wd wd = putL n wd := by simp [rowL]
theorem rowL_length (n wd k : Nat) (h : k ≤ wd) : (rowL n wd k).length = wd := by simp [rowL, putL_length]; omega
theorem rowL_set (n wd k : Nat) (h : k < wd) : (rowL n wd k).set k (UInt8.ofNat (n / 256 ^ k)) = rowL n wd (k + 1) := by
  unfold rowL
  rw [putL_succ, show wd - k = (wd - (k + 1)) + 1 by omega, List.replicate_succ]
  rw [List.set_append_right _ _ (by rw [putL_length]; omega), putL_length, Nat.sub_self]
  simp

/-- What is left of a number behind k bytes; its lowest byte. -/
def vsN (n k : Nat) : Int := ((n / 256 ^ k : Nat) : Int)
def psN (n k : Nat) : Int := ((n / 256 ^ k % 256 : Nat) : Int)
theorem psN_and (n : Nat) (hn : n < 9223372036854775808) (k : Nat) : bits .and .i64 (vsN n k) 255 = psN n k := by
  have hle : n / 256 ^ k ≤ n := Nat.div_le_self _ _
  have hb : 0 ≤ vsN n k ∧ vsN n k < 9223372036854775808 := by
    unfold vsN
    generalize n / 256 ^ k = m at *
    omega
  have h := bits_mask .i64 63 (by decide) (fun n h0 h1 => by rw [IntKind.wrap_i64]; omega) 8 (by decide) (vsN n k) hb.1 hb.2
  have e : (2 : Int) ^ 8 - 1 = 255 := by decide
  rw [e] at h
  rw [h]
  unfold vsN psN
  omega
theorem vsN_succ (n k : Nat) : vsN n k / 256 = vsN n (k + 1) := by
  unfold vsN
  rw [Nat.pow_succ, ← Nat.div_div_eq_div_mul]
  omega
theorem psN_byte (n k : Nat) : psN n k = ((UInt8.ofNat (n / 256 ^ k)).toNat : Int) := by
  unfold psN
  rw [UInt8.toNat_ofNat']
theorem psN_lt (n k : Nat) : 0 ≤ psN n k ∧ psN n k < 256 := by unfold psN; omega

/-- The blocks that Put lays. -/
def putObjs (w : World) (n wd k : Nat) (s : ByteArray) (e v : Int) (rec : Obj) : List Obj :=
  [.cells #[.int .i64 wd] 3, .cells #[.string s] 9, .cells #[.int .i64 e] 33, .cells (encA (rowL n wd k)) 5, .cells #[.slice (some ⟨w.heap.size + 1 + 1 + 1, 0, none⟩) wd wd] 80,
   .cells #[.int .i64 v] 3, .cells #[.int .i64 wd] 3, .deferred (some []), rec]

theorem put_first (n wd : Nat) (w W7 : World) (h : (((((((w.alloc (.cells #[.int .i64 wd] 3)).alloc (.cells #[.string { data := #[] }] 9)).alloc (.cells #[.int .i64 0] 33)).alloc (.cells (madeCells #[.int .u8 0] wd) 5)).alloc (.cells #[.slice (some ⟨w.heap.size + 1 + 1 + 1, 0, none⟩) wd wd] 80)).alloc (.cells #[.int .i64 n] 3)).alloc (.cells #[.int .i64 wd] 3)) = W7) (r : Obj) :
    W7.heap.size = w.heap.size + 7 ∧ Own w (putObjs w n wd 0 (bs []) 0 (vsN n 0) r) ((W7.alloc (.deferred (some []))).alloc r) := by
  subst h
  have h7 := (((((((Own.start w).alloc (.cells #[.int .i64 wd] 3)).alloc (.cells #[.string { data := #[] }] 9)).alloc (.cells #[.int .i64 0] 33)).alloc (.cells (madeCells #[.int .u8 0] wd) 5)).alloc (.cells #[.slice (some ⟨w.heap.size + 1 + 1 + 1, 0, none⟩) wd wd] 80)).alloc (.cells #[.int .i64 n] 3)).alloc (.cells #[.int .i64 wd] 3)
  refine ⟨h7.size, ?_⟩
  have h9 := (h7.alloc (.deferred (some []))).alloc r
  have e : putObjs w n wd 0 (bs []) 0 (vsN n 0) r = [.cells #[.int .i64 wd] 3, .cells #[.string { data := #[] }] 9, .cells #[.int .i64 0] 33, .cells (madeCells #[.int .u8 0] wd) 5, .cells #[.slice (some ⟨w.heap.size + 1 + 1 + 1, 0, none⟩) wd wd] 80, .cells #[.int .i64 n] 3, .cells #[.int .i64 wd] 3, .deferred (some []), r] := by
    unfold putObjs
    rw [encA_made, rowL_zero]
    simp [vsN, bs]
  rw [e]
  exact h9

theorem put_arg (n wd : Int) (w : World) (h : wd < 1 ∨ 7 < wd ∨ n < 0) :
    Calls Tryz.prog 80 #[.int .i64 n, .int .i64 wd] w fun e w' => e = .returned (.tuple #[.string (bs []), .int .i64 1]) ∧ Below w.heap.size w w' := by
  have fin : Below w.heap.size w (((w.alloc (.cells #[.int .i64 wd] 3)).alloc (.cells #[.string (bs [])] 9)).alloc (.cells #[.int .i64 1] 33)) := ((((Own.start w).alloc _).alloc _).alloc _).bel
  by_cases h1 : wd < 1
  · go_enter Tryz.func80, Tryz.ntmps80
    go_wp2
    exact bodyPost_ret (v := .tuple #[.string (bs []), .int .i64 1]) (by simp [results, Tryz.results80, go_sem, bs]) rfl ⟨rfl, fin⟩
  by_cases h2 : 7 < wd
  · go_enter Tryz.func80, Tryz.ntmps80
    go_wp2
    exact bodyPost_ret (v := .tuple #[.string (bs []), .int .i64 1]) (by simp [results, Tryz.results80, go_sem, bs]) rfl ⟨rfl, fin⟩
  · have h3 : n < 0 := by omega
    clear h
    go_enter Tryz.func80, Tryz.ntmps80
    go_wp2
    exact bodyPost_ret (v := .tuple #[.string (bs []), .int .i64 1]) (by simp [results, Tryz.results80, go_sem, bs]) rfl ⟨rfl, fin⟩

/-- How Put ends. -/
def PutEnds (n wd : Nat) (w : World) (e : Ending) (w' : World) : Prop :=
  Below w.heap.size w w' ∧ ((n < 256 ^ wd ∧ e = .returned (.tuple #[.string (bs (putL n wd)), .int .i64 0])) ∨ (256 ^ wd ≤ n ∧ e = .returned (.tuple #[.string (bs []), .int .i64 1])))

set_option maxRecDepth 100000 in
set_option maxHeartbeats 800000 in
theorem put_some (n wd : Nat) (w : World) (h1 : 1 ≤ wd) (h7 : wd ≤ 7) (hn : n < 9223372036854775808) :
    Calls Tryz.prog 80 #[.int .i64 n, .int .i64 wd] w (PutEnds n wd w) := by
  have g1 : ¬ (wd : Int) < 1 := by omega
  have g2 : ¬ (7 : Int) < wd := by omega
  have g3 : ¬ (n : Int) < 0 := by omega
  have hmk := run_make_row' (P := Tryz.prog) 80 5 (.int .u8 0) 1 Tryz.underlying80 info_byte rfl .i64 .i64 wd (by omega) (by omega)
  refine (callsIn_wide (n := 9)).1 ?_
  refine callsIn_of_wp_marks Tryz.func80 rfl trivial ?_ rfl
  simp only [Tryz.ntmps80, List.size_toArray, List.length_cons, List.length_nil, Nat.reduceAdd, Nat.reduceSub, Array.replicate_succ, Array.replicate_zero, List.push_toArray, List.append_toArray, List.nil_append, List.cons_append]
  gi_wp2_with (refine ⟨trivial, ?_⟩; gi_at_call 95; refine (callsIn_wide.2 (parts_calls _ _ _)).mono ?_; rintro e W7 ⟨rfl, hW7⟩; have HW := Lib.hid hW7; clear hW7)
  clear hmk
  refine range_law rfl (by decide) (gf := 101) (lb := _) rfl trivial (enters_of Tryz.func101 (by kernel_rfl) rfl) ?_
  intro fn rec hfn hrec
  obtain ⟨hsz, hown⟩ := put_first n wd w W7 HW.out (.loop (rec .ready none))
  clear HW
  rw [hsz] at hrec ⊢
  have HREC := Lib.hid hrec
  clear hrec hsz
  refine (parts_in (w.heap.size + 7 + 1) (w.heap.size + 1 + 1 + 1 + 1 + 1 + 1) (w.heap.size + 1 + 1 + 1 + 1 + 1) wd h7 (vsN n) (psN n)
    (fun k W => Own w (putObjs w n wd k (bs []) 0 (vsN n k) (.loop (rec .ready none))) W)
    (fun k W => Own w (putObjs w n wd (k + 1) (bs []) 0 (vsN n k) (.loop (rec .ready none))) W)
    (fun W => (n < 256 ^ wd ∧ Own w (putObjs w n wd wd (bs []) 0 (vsN n wd) (.loop (rec .ready none))) W) ∨ (256 ^ wd ≤ n ∧ Own w (putObjs w n wd wd (bs []) 1 (vsN n wd) (.loop (rec .done (some .ret)))) W))
    (psN_and n hn) (vsN_succ n) ?cell ?mid ?round ?step ?last _ hown).mono ?done
  case cell => exact fun k W h => ⟨h.cell _ 6 0 (by omega) rfl rfl, h.cell _ 5 0 (by omega) rfl rfl⟩
  case mid => exact fun k W h => ⟨h.cell _ 5 0 (by omega) rfl rfl, h.frozen _ 5 0 (by omega) rfl⟩
  case step => exact fun k W _ h => h.set 5 0 (by omega) (.int .i64 (vsN n (k + 1))) rfl
  case round =>
    intro k W hk hJ
    refine round_law hfn HREC.out (hJ.at _ 8 (by omega) rfl) rfl ?_
    gi_wp2
    refine ⟨hJ.at _ 8 (by omega) rfl, ?_⟩
    have hB := hJ.put (B := w.heap.size + 7 + 1) 8 (by omega) (.loop (rec .busy none)) (by simp [putObjs])
    generalize World.putObj W (w.heap.size + 7 + 1) (.loop (rec .busy none)) = W2 at *
    clear hJ
    have hlen := rowL_length n wd k (by omega)
    have c0 := hB.cell (w.heap.size) 0 0 rfl rfl rfl
    have c4 := hB.cell (w.heap.size + 1 + 1 + 1 + 1) 4 0 (by omega) rfl rfl
    obtain ⟨v0, c3⟩ : ∃ v, W2.cell? ⟨w.heap.size + 1 + 1 + 1, k, none⟩ = some v := ⟨_, hB.cell (w.heap.size + 1 + 1 + 1) 3 k (by omega) rfl (encA_get _ k (by omega))⟩
    have f3 := hB.frozen (w.heap.size + 1 + 1 + 1) 3 k (by omega) rfl
    have i0 : (k : Int) < (wd : Int) := by omega
    obtain ⟨p0, p1⟩ := psN_lt n k
    have HB := Lib.hid hB
    clear hB hlen
    gi_wp2
    have h3 := HB.out.set (B := w.heap.size + 1 + 1 + 1) 3 k (by omega) (.int .u8 (psN n k)) rfl
    have h4 := h3.put (B := w.heap.size + 7 + 1) 8 (by omega) (.loop (rec .ready none)) (by simp [putObjs])
    rw [psN_byte, encA_set, rowL_set n wd k hk] at h4
    rw [psN_byte]
    exact ⟨by rw [← psN_byte]; exact h3.at _ 8 (by omega) rfl, rfl, h4⟩
  case last =>
    intro W hJ
    refine round_law hfn HREC.out (hJ.at _ 8 (by omega) rfl) rfl ?_
    gi_wp2
    refine ⟨hJ.at _ 8 (by omega) rfl, ?_⟩
    have hB := hJ.put (B := w.heap.size + 7 + 1) 8 (by omega) (.loop (rec .busy none)) (by simp [putObjs])
    generalize World.putObj W (w.heap.size + 7 + 1) (.loop (rec .busy none)) = W2 at *
    clear hJ
    have c0 := hB.cell (w.heap.size) 0 0 rfl rfl rfl
    have c1 := hB.cell (w.heap.size + 1) 1 0 rfl rfl rfl
    have c2 := hB.cell (w.heap.size + 1 + 1) 2 0 (by omega) rfl rfl
    have f1 := hB.frozen (w.heap.size + 1) 1 0 rfl rfl
    have f2 := hB.frozen (w.heap.size + 1 + 1) 2 0 (by omega) rfl
    have HB := Lib.hid hB
    clear hB
    by_cases hlt : n < 256 ^ wd
    · have hv : ¬ 0 < vsN n wd := by unfold vsN; rw [Nat.div_eq_of_lt hlt]; decide
      have HLT := Lib.hid hlt
      clear hlt
      gi_wp2
      have h4 := HB.out.put (B := w.heap.size + 7 + 1) 8 (by omega) (.loop (rec .ready none)) (by simp [putObjs])
      exact ⟨HB.out.at _ 8 (by omega) rfl, ⟨_, rfl⟩, .inl ⟨HLT.out, h4⟩⟩
    · have hv : 0 < vsN n wd := by
        unfold vsN
        have := Nat.div_pos (Nat.le_of_not_lt hlt) (Nat.pow_pos (n := wd) (show 0 < 256 by decide))
        omega
      have HLT := Lib.hid hlt
      clear hlt
      gi_wp2
      have h3 := (HB.out.set (B := w.heap.size + 1) 1 0 rfl (.string { data := #[] }) rfl).set (B := w.heap.size + 1 + 1) 2 0 (by omega) (.int .i64 1) rfl
      have h4 := h3.put (B := w.heap.size + 7 + 1) 8 (by omega) (.loop (rec .done (some .ret))) (by simp [putObjs])
      exact ⟨h3.at _ 8 (by omega) rfl, ⟨_, rfl⟩, .inr ⟨Nat.le_of_not_lt HLT.out, h4⟩⟩
  case done =>
    rintro e W ⟨hv, ⟨hlt, hJ⟩ | ⟨hlt, hJ⟩⟩
    · refine ⟨hv, .inl ⟨hJ.at _ 8 (by omega) rfl, ?_⟩⟩
      have hB := hJ.put (B := w.heap.size + 7 + 1) 8 (by omega) (.loop (rec .exhausted none)) (by simp [putObjs])
      generalize World.putObj W (w.heap.size + 7 + 1) (.loop (rec .exhausted none)) = W2 at *
      clear hJ
      have c1 := hB.cell (w.heap.size + 1) 1 0 rfl rfl rfl
      have c2 := hB.cell (w.heap.size + 1 + 1) 2 0 (by omega) rfl rfl
      have c4 := hB.cell (w.heap.size + 1 + 1 + 1 + 1) 4 0 (by omega) rfl rfl
      have f1 := hB.frozen (w.heap.size + 1) 1 0 rfl rfl
      have f2 := hB.frozen (w.heap.size + 1 + 1) 2 0 (by omega) rfl
      have hl : (putL n wd).length = wd := putL_length n wd
      have hbk := run_convert_bytes_back (P := Tryz.prog) W2 80 9 5 ⟨w.heap.size + 1 + 1 + 1, 0, none⟩ wd (putL n wd) Tryz.underlying80 Tryz.underlying5 Tryz.underlying9
        (fun j hj => by
          rw [addr0]
          refine hB.cell _ 3 j (by omega) (cs := encA (rowL n wd wd)) rfl ?_
          rw [rowL_all]
          exact encA_get _ j hj)
      rw [hl] at hbk
      have HB := Lib.hid hB
      have HLT := Lib.hid hlt
      clear hB hlt hl
      gi_wp2
      rw [show ({ data := (putL n wd).toArray } : ByteArray) = bs (putL n wd) from rfl]
      have h3 := (HB.out.set (B := w.heap.size + 1) 1 0 rfl (.string (bs (putL n wd))) rfl).set (B := w.heap.size + 1 + 1) 2 0 (by omega) (.int .i64 0) rfl
      generalize World.setCell (World.setCell W2 _ _) _ _ = W3 at *
      have h4 := h3.put (B := w.heap.size + 7) 7 (by omega) (.deferred none) (by simp [putObjs])
      refine ⟨by simp, .inl ⟨_, _, rfl, run_takeDeferred (h3.at (w.heap.size + 7) 7 (by omega) rfl), ?_⟩⟩
      generalize World.putObj W3 _ _ = W4 at *
      have k1 : W4.cell? ⟨w.heap.size + 1, 0, none⟩ = some (.string (bs (putL n wd))) := h4.cell _ 1 0 rfl rfl rfl
      have k2 : W4.cell? ⟨w.heap.size + 1 + 1, 0, none⟩ = some (.int .i64 0) := h4.cell _ 2 0 (by omega) rfl rfl
      refine ⟨.tuple #[.string (bs (putL n wd)), .int .i64 0], ?_, h4.bel, .inl ⟨HLT.out, rfl⟩⟩
      simp [results, Tryz.results80, go_sem, k1, k2]
    · refine ⟨hv, .inr ⟨hJ.at _ 8 (by omega) rfl, ?_⟩⟩
      have hB := hJ.put (B := w.heap.size + 7 + 1) 8 (by omega) (.loop (rec .exhausted (some .ret))) (by simp [putObjs])
      generalize World.putObj W (w.heap.size + 7 + 1) (.loop (rec .exhausted (some .ret))) = W2 at *
      clear hJ
      have HB := Lib.hid hB
      have HLT := Lib.hid hlt
      clear hB hlt
      gi_wp2
      have h3 := HB.out
      have h4 := h3.put (B := w.heap.size + 7) 7 (by omega) (.deferred none) (by simp [putObjs])
      refine ⟨by simp, .inl ⟨_, _, rfl, run_takeDeferred (h3.at (w.heap.size + 7) 7 (by omega) rfl), ?_⟩⟩
      generalize World.putObj W2 _ _ = W4 at *
      have k1 : W4.cell? ⟨w.heap.size + 1, 0, none⟩ = some (.string (bs [])) := h4.cell _ 1 0 rfl rfl rfl
      have k2 : W4.cell? ⟨w.heap.size + 1 + 1, 0, none⟩ = some (.int .i64 1) := h4.cell _ 2 0 (by omega) rfl rfl
      refine ⟨.tuple #[.string (bs []), .int .i64 1], ?_, h4.bel, .inr ⟨HLT.out, rfl⟩⟩
      simp [results, Tryz.results80, go_sem, k1, k2]

end Go.Proofs.YtmabpnkdagipfaaGreat
