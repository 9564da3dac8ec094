/- The fixed facts of layer 1's statements: walked. -/
import Derived.Test.YtkmlaljahbckkaaPut
import Derived.Test.YtkmlaljahbckkaaGet
import Derived.Test.YtkmlaljahbckkaaMix
import Derived.Test.YtkmlaljahbckkaaCount
import Derived.Test.YtkmlaljahbckkaaGrow
import Derived.Outline
namespace Go.Proofs.Ytkmlaljahbckkaa
open Go.RowKit

/-- 'string([]byte{..})' of a row that was just laid. -/
theorem conv_lit (W : World) (l : List UInt8) :
    (convert 38 9 (.slice (some ⟨W.heap.size, 0, none⟩) l.length l.length)).run Try.prog (W.alloc (.cells (encA l) 5)) = .ok (.string (bs l)) (W.alloc (.cells (encA l) 5)) :=
  run_convert_bytes_back (P := Try.prog) _ 38 9 5 ⟨W.heap.size, 0, none⟩ l.length l Try.underlying38 Try.underlying5 Try.underlying9 (fun j hj => by
    rw [addr0, World.cell?_alloc_mark]
    exact encA_get l j hj)

theorem put_fits (n wd : Nat) (w : World) (h1 : 1 ≤ wd) (h7 : wd ≤ 7) (hn : n < 256 ^ wd) :
    Calls Try.prog 11 #[.int .i64 n, .int .i64 wd] w fun e w' => e = .returned (.tuple #[.string (bs (putL n wd)), .int .i64 0]) ∧ Below w.heap.size w w' := by
  have hp : 256 ^ wd ≤ 256 ^ 7 := Nat.pow_le_pow_right (by decide) h7
  refine (put_some n wd w h1 h7 (by omega)).mono ?_
  rintro e w' ⟨hb, ⟨_, rfl⟩ | ⟨h, _⟩⟩
  · exact ⟨rfl, hb⟩
  · omega
theorem put_over (n wd : Nat) (w : World) (h1 : 1 ≤ wd) (h7 : wd ≤ 7) (hn : 256 ^ wd ≤ n) (h63 : n < 9223372036854775808) :
    Calls Try.prog 11 #[.int .i64 n, .int .i64 wd] w fun e w' => e = .returned (.tuple #[.string (bs []), .int .i64 1]) ∧ Below w.heap.size w w' := by
  refine (put_some n wd w h1 h7 h63).mono ?_
  rintro e w' ⟨hb, ⟨h, _⟩ | ⟨_, rfl⟩⟩
  · omega
  · exact ⟨rfl, hb⟩

/-! ### The same at texts whose bytes are told -/
theorem get_val (s : ByteArray) (at_ wd : Nat) (N : Int) (w : World) (h1 : 1 ≤ wd) (h7 : wd ≤ 7) (ha : at_ + wd ≤ s.size) (hs : s.size ≤ 140737488355328) (hN : ((numL ((s.data.toList.drop at_).take wd) : Nat) : Int) = N) :
    Calls Try.prog 13 #[.string s, .int .i64 at_, .int .i64 wd] w fun e w' => e = .returned (.tuple #[.int .i64 N, .int .i64 0]) ∧ w = w' := by
  subst hN
  exact get_ok s at_ wd w h1 h7 ha hs
theorem and_val (a b r : List UInt8) (w : World) (ha : a.length ≤ 300) (hb : b.length ≤ 300) (hr : mixL andB a b = r) :
    Calls Try.prog 21 #[.string (bs a), .string (bs b)] w fun e w' => e = .returned (.string (bs r)) ∧ Below w.heap.size w w' := by
  subst hr
  have := and_calls (bs a) (bs b) w (by rw [bs_size]; omega) (by rw [bs_size]; omega)
  rwa [bs_toList, bs_toList] at this
theorem or_val (a b r : List UInt8) (w : World) (ha : a.length ≤ 300) (hb : b.length ≤ 300) (hr : mixL orB a b = r) :
    Calls Try.prog 22 #[.string (bs a), .string (bs b)] w fun e w' => e = .returned (.string (bs r)) ∧ Below w.heap.size w w' := by
  subst hr
  have := or_calls (bs a) (bs b) w (by rw [bs_size]; omega) (by rw [bs_size]; omega)
  rwa [bs_toList, bs_toList] at this
theorem xor_val (a b r : List UInt8) (w : World) (ha : a.length ≤ 300) (hb : b.length ≤ 300) (hr : mixL xorB a b = r) :
    Calls Try.prog 23 #[.string (bs a), .string (bs b)] w fun e w' => e = .returned (.string (bs r)) ∧ Below w.heap.size w w' := by
  subst hr
  have := xor_calls (bs a) (bs b) w (by rw [bs_size]; omega) (by rw [bs_size]; omega)
  rwa [bs_toList, bs_toList] at this
theorem not_val (a r : List UInt8) (w : World) (ha : a.length ≤ 300) (hr : notL a = r) :
    Calls Try.prog 24 #[.string (bs a)] w fun e w' => e = .returned (.string (bs r)) ∧ Below w.heap.size w w' := by
  subst hr
  have := not_calls (bs a) w (by rw [bs_size]; omega)
  rwa [bs_toList] at this
theorem count_val (a : List UInt8) (r : Int) (w : World) (ha : a.length ≤ 300) (hr : ((count a : Nat) : Int) = r) :
    Calls Try.prog 26 #[.string (bs a)] w fun e w' => e = .returned (.int .i64 r) ∧ w = w' := by
  subst hr
  have := count_calls (bs a) w (by rw [bs_size]; omega)
  rwa [bs_toList] at this

theorem put_val (n wd : Nat) (r : List UInt8) (w : World) (h1 : 1 ≤ wd) (h7 : wd ≤ 7) (hn : n < 256 ^ wd) (hr : putL n wd = r) :
    Calls Try.prog 11 #[.int .i64 n, .int .i64 wd] w fun e w' => e = .returned (.tuple #[.string (bs r), .int .i64 0]) ∧ Below w.heap.size w w' := by
  subst hr
  exact put_fits n wd w h1 h7 hn
theorem ones_val (n : Nat) (r : List UInt8) (w : World) (h : n ≤ 100000) (hr : List.replicate n 255 = r) :
    Calls Try.prog 25 #[.int .i64 n] w fun e w' => e = .returned (.string (bs r)) ∧ Below w.heap.size w w' := by
  subst hr
  exact ones_calls n w h
theorem ones_neg (w : World) : Calls Try.prog 25 #[.int .i64 (-1)] w fun e w' => e = .returned (.string (bs [])) ∧ Below w.heap.size w w' := by
  refine (ones_none (-1) w (.inl (by decide))).mono ?_
  rintro e w' ⟨rfl, rfl⟩
  exact ⟨rfl, Below.refl _ _⟩

theorem count_ok (a : List UInt8) (r : Int) (w : World) (ha : a.length ≤ 300) (hr : ((count a : Nat) : Int) = r) :
    Calls Try.prog 26 #[.string (bs a)] w fun e w' => e = .returned (.int .i64 r) ∧ Below w.heap.size w w' := by
  refine (count_val a r w ha hr).mono ?_
  rintro e w' ⟨rfl, rfl⟩
  exact ⟨rfl, Below.refl _ _⟩

/-- A byte slice just built, and read as a text. -/
theorem grow_conv {a : Act} {t b : Nat} {v : Value} {W : World} {l : List UInt8} {o : Oper} (h : a.tmps[t]? = some v) (he : v = .slice (some ⟨b, 0, none⟩) l.length l.length)
    (hc : ∀ j (h : j < l.length), W.cell? ⟨b, j, none⟩ = some (.int .u8 ((l[j]).toNat : Int))) (ho : o.op = .convert 38 9 (.tmp t)) :
    (execOp a.eval o).run Try.prog W = .ok (.value (.string (bs l))) W := by
  subst he
  have := run_convert_bytes_back (P := Try.prog) W 38 9 5 ⟨b, 0, none⟩ l.length l Try.underlying38 Try.underlying5 Try.underlying9 (fun j hj => by
    rw [addr0]
    exact hc j hj)
  simp [execOp, ho, eval_tmp h, this]
  rfl

theorem grow_lit {ev : Operand → Value} {W : World} {l : List UInt8} {o : Oper} (h : (execOp ev o).run Try.prog W = .ok (.value (.slice (some ⟨W.heap.size, 0, none⟩) l.length l.length)) (W.alloc (.cells (encA l) 5))) :
    growUpon Try.prog Ups (Kind.sl l).holds W ((execOp ev o).run Try.prog W) := by
  rw [h]
  refine ⟨⟨_, rfl, by simp, fun j hj => ?_⟩, (Below.refl _ _).alloc (Nat.le_refl _) _⟩
  rw [World.cell?_alloc_mark]
  exact encA_get l j hj

def works1Kinds : List Kind := [(.is (.string (bs [2, 1, 0]))), (.sl [2, 1, 0]), (.is (.string (bs [2, 1, 0]))), (.is (.bool true)), (.is (.bool true)), (.is (.int .i64 (0))), (.is (.bool true)), (.is (.bool true)), (.is (.bool true)), (.is (.int .i64 (258))), (.is (.bool true)), (.is (.bool true)), (.is (.bool true)), (.is (.int .i64 (0))), (.is (.bool true)), (.is (.bool true)), (.is (.bool true)), (.is (.int .i64 (1))), (.is (.bool true)), (.is (.bool true)), (.is (.bool true)), (.is (.int .i64 (2))), (.is (.bool true)), (.is (.bool true)), (.is (.bool true)), (.sl [12, 7]), (.is (.string (bs [12, 7]))), (.sl [10]), (.is (.string (bs [10]))), (.is (.string (bs [8, 7]))), (.sl [8, 7]), (.is (.string (bs [8, 7]))), (.is (.bool true)), (.is (.bool true)), (.is (.bool true)), (.sl [12]), (.is (.string (bs [12]))), (.sl [10, 1]), (.is (.string (bs [10, 1]))), (.is (.string (bs [14]))), (.sl [14]), (.is (.string (bs [14]))), (.is (.bool true)), (.is (.bool true)), (.is (.bool true)), (.sl [12]), (.is (.string (bs [12]))), (.sl [10]), (.is (.string (bs [10]))), (.is (.string (bs [6]))), (.sl [6]), (.is (.string (bs [6]))), (.is (.bool true)), (.is (.bool true)), (.is (.bool true)), (.sl [240]), (.is (.string (bs [240]))), (.is (.string (bs [15]))), (.sl [15]), (.is (.string (bs [15]))), (.is (.bool true)), (.is (.bool true)), (.is (.bool true)), (.is (.string (bs [255, 255]))), (.sl [255, 255]), (.is (.string (bs [255, 255]))), (.is (.bool true)), (.is (.bool true)), (.is (.bool true)), (.is (.string (bs []))), (.is (.bool true)), (.is (.bool true)), (.is (.bool true)), (.sl [7, 128]), (.is (.string (bs [7, 128]))), (.is (.int .i64 (4))), (.is (.bool true)), (.is (.bool true)), (.is (.bool true))]

set_option maxRecDepth 100000 in
set_option maxHeartbeats 4000000 in
theorem works1 (w : World) : Calls Try.prog 10 #[] w fun e w' => e = .returned (.bool true) ∧ Below w.heap.size w w' := by
  go_enter Try.func10, Try.ntmps10
  go_wp2_with fail
  refine (put_val 258 3 [2, 1, 0] _ (by decide) (by decide) (by decide) (by decide +kernel)).mono ?_
  rintro e w1 ⟨rfl, hb1⟩
  go_wp2_with fail
  refine (get_val _ 1 3 258 _ (by decide) (by decide) (by decide +kernel) (by decide +kernel) (by decide +kernel)).mono ?_
  rintro e w2 ⟨rfl, rfl⟩
  go_wp2_with fail
  refine (put_over 256 1 _ (by decide) (by decide) (by decide) (by decide)).mono ?_
  rintro e w2 ⟨rfl, hb2⟩
  go_wp2_with fail
  refine (get_form _ 2 2 _ (by decide +kernel) (by decide) (by decide) (by decide +kernel)).mono ?_
  rintro e w3 ⟨rfl, rfl⟩
  go_wp2_with fail
  refine wp_region_kinds (n := 106) (ks := works1Kinds) (by decide +kernel) (by decide +kernel) (by simp) (by decide +kernel) ?_ ?_
  · refine And.intro (fun a' W hO hU H HS => ?_) ?_
    · have h1 := (hO 1 rfl).trans rfl
      exact growUpon_value (by simp [go_sem, h1]) rfl
    refine And.intro (fun a' W hO hU H HS => ?_) ?_
    · exact grow_lit (by simp [go_sem] <;> rfl)
    refine And.intro (fun a' W hO hU H HS => ?_) ?_
    · obtain ⟨v29, h29, b29, e29, l29, c29⟩ := HS 1 29 _ rfl rfl
      exact growUpon_value (grow_conv h29 e29 c29 rfl) rfl
    refine And.intro (fun a' W hO hU H HS => ?_) ?_
    · have h28 := H 0 28 _ rfl rfl
      have h30 := H 2 30 _ rfl rfl
      exact growUpon_value (by simp [go_sem, h28, h30]) rfl
    refine And.intro (fun a' W hO hU H HS => ?_) ?_
    · have h31 := H 3 31 _ rfl rfl
      exact growUpon_value (by simp [go_sem, h31]) rfl
    refine And.intro (fun a' W hO hU H HS => ?_) ?_
    · have h2 := (hO 2 rfl).trans rfl
      exact growUpon_value (by simp [go_sem, h2]) rfl
    refine And.intro (fun a' W hO hU H HS => ?_) ?_
    · have h33 := H 5 33 _ rfl rfl
      exact growUpon_value (by simp [go_sem, h33]) rfl
    refine And.intro (fun a' W hO hU H HS => ?_) ?_
    · have h32 := H 4 32 _ rfl rfl
      have h34 := H 6 34 _ rfl rfl
      exact growUpon_value (by simp [go_sem, h32, h34]) rfl
    refine And.intro (fun a' W hO hU H HS => ?_) ?_
    · have h35 := H 7 35 _ rfl rfl
      exact growUpon_value (by simp [go_sem, h35]) rfl
    refine And.intro (fun a' W hO hU H HS => ?_) ?_
    · have h3 := (hO 3 rfl).trans rfl
      exact growUpon_value (by simp [go_sem, h3]) rfl
    refine And.intro (fun a' W hO hU H HS => ?_) ?_
    · have h37 := H 9 37 _ rfl rfl
      exact growUpon_value (by simp [go_sem, h37]) rfl
    refine And.intro (fun a' W hO hU H HS => ?_) ?_
    · have h36 := H 8 36 _ rfl rfl
      have h38 := H 10 38 _ rfl rfl
      exact growUpon_value (by simp [go_sem, h36, h38]) rfl
    refine And.intro (fun a' W hO hU H HS => ?_) ?_
    · have h39 := H 11 39 _ rfl rfl
      exact growUpon_value (by simp [go_sem, h39]) rfl
    refine And.intro (fun a' W hO hU H HS => ?_) ?_
    · have h4 := (hO 4 rfl).trans rfl
      exact growUpon_value (by simp [go_sem, h4]) rfl
    refine And.intro (fun a' W hO hU H HS => ?_) ?_
    · have h41 := H 13 41 _ rfl rfl
      exact growUpon_value (by simp [go_sem, h41]) rfl
    refine And.intro (fun a' W hO hU H HS => ?_) ?_
    · have h40 := H 12 40 _ rfl rfl
      have h42 := H 14 42 _ rfl rfl
      exact growUpon_value (by simp [go_sem, h40, h42]) rfl
    refine And.intro (fun a' W hO hU H HS => ?_) ?_
    · have h43 := H 15 43 _ rfl rfl
      exact growUpon_value (by simp [go_sem, h43]) rfl
    refine And.intro (fun a' W hO hU H HS => ?_) ?_
    · have h6 := (hO 6 rfl).trans rfl
      exact growUpon_value (by simp [go_sem, h6]) rfl
    refine And.intro (fun a' W hO hU H HS => ?_) ?_
    · have h45 := H 17 45 _ rfl rfl
      exact growUpon_value (by simp [go_sem, h45]) rfl
    refine And.intro (fun a' W hO hU H HS => ?_) ?_
    · have h44 := H 16 44 _ rfl rfl
      have h46 := H 18 46 _ rfl rfl
      exact growUpon_value (by simp [go_sem, h44, h46]) rfl
    refine And.intro (fun a' W hO hU H HS => ?_) ?_
    · have h47 := H 19 47 _ rfl rfl
      exact growUpon_value (by simp [go_sem, h47]) rfl
    refine And.intro (fun a' W hO hU H HS => ?_) ?_
    · have h8 := (hO 8 rfl).trans rfl
      exact growUpon_value (by simp [go_sem, h8]) rfl
    refine And.intro (fun a' W hO hU H HS => ?_) ?_
    · have h49 := H 21 49 _ rfl rfl
      exact growUpon_value (by simp [go_sem, h49]) rfl
    refine And.intro (fun a' W hO hU H HS => ?_) ?_
    · have h48 := H 20 48 _ rfl rfl
      have h50 := H 22 50 _ rfl rfl
      exact growUpon_value (by simp [go_sem, h48, h50]) rfl
    refine And.intro (fun a' W hO hU H HS => ?_) ?_
    · have h51 := H 23 51 _ rfl rfl
      exact growUpon_value (by simp [go_sem, h51]) rfl
    refine And.intro (fun a' W hO hU H HS => ?_) ?_
    · exact grow_lit (by simp [go_sem] <;> rfl)
    refine And.intro (fun a' W hO hU H HS => ?_) ?_
    · obtain ⟨v53, h53, b53, e53, l53, c53⟩ := HS 25 53 _ rfl rfl
      exact growUpon_value (grow_conv h53 e53 c53 rfl) rfl
    refine And.intro (fun a' W hO hU H HS => ?_) ?_
    · exact grow_lit (by simp [go_sem] <;> rfl)
    refine And.intro (fun a' W hO hU H HS => ?_) ?_
    · obtain ⟨v55, h55, b55, e55, l55, c55⟩ := HS 27 55 _ rfl rfl
      exact growUpon_value (grow_conv h55 e55 c55 rfl) rfl
    refine And.intro (fun a' W hO hU H HS => ?_) ?_
    · have h54 := H 26 54 _ rfl rfl
      have h56 := H 28 56 _ rfl rfl
      exact growUpon_call (x := .string (bs [8, 7])) (args := #[.string (bs [12, 7]), .string (bs [10])]) (by simp [go_sem, h54, h56]) (and_val _ _ _ _ (by decide) (by decide) (by decide +kernel)) (fun _ => rfl)
    refine And.intro (fun a' W hO hU H HS => ?_) ?_
    · exact grow_lit (by simp [go_sem] <;> rfl)
    refine And.intro (fun a' W hO hU H HS => ?_) ?_
    · obtain ⟨v58, h58, b58, e58, l58, c58⟩ := HS 30 58 _ rfl rfl
      exact growUpon_value (grow_conv h58 e58 c58 rfl) rfl
    refine And.intro (fun a' W hO hU H HS => ?_) ?_
    · have h57 := H 29 57 _ rfl rfl
      have h59 := H 31 59 _ rfl rfl
      exact growUpon_value (by simp [go_sem, h57, h59]) rfl
    refine And.intro (fun a' W hO hU H HS => ?_) ?_
    · have h52 := H 24 52 _ rfl rfl
      have h60 := H 32 60 _ rfl rfl
      exact growUpon_value (by simp [go_sem, h52, h60]) rfl
    refine And.intro (fun a' W hO hU H HS => ?_) ?_
    · have h61 := H 33 61 _ rfl rfl
      exact growUpon_value (by simp [go_sem, h61]) rfl
    refine And.intro (fun a' W hO hU H HS => ?_) ?_
    · exact grow_lit (by simp [go_sem] <;> rfl)
    refine And.intro (fun a' W hO hU H HS => ?_) ?_
    · obtain ⟨v63, h63, b63, e63, l63, c63⟩ := HS 35 63 _ rfl rfl
      exact growUpon_value (grow_conv h63 e63 c63 rfl) rfl
    refine And.intro (fun a' W hO hU H HS => ?_) ?_
    · exact grow_lit (by simp [go_sem] <;> rfl)
    refine And.intro (fun a' W hO hU H HS => ?_) ?_
    · obtain ⟨v65, h65, b65, e65, l65, c65⟩ := HS 37 65 _ rfl rfl
      exact growUpon_value (grow_conv h65 e65 c65 rfl) rfl
    refine And.intro (fun a' W hO hU H HS => ?_) ?_
    · have h64 := H 36 64 _ rfl rfl
      have h66 := H 38 66 _ rfl rfl
      exact growUpon_call (x := .string (bs [14])) (args := #[.string (bs [12]), .string (bs [10, 1])]) (by simp [go_sem, h64, h66]) (or_val _ _ _ _ (by decide) (by decide) (by decide +kernel)) (fun _ => rfl)
    refine And.intro (fun a' W hO hU H HS => ?_) ?_
    · exact grow_lit (by simp [go_sem] <;> rfl)
    refine And.intro (fun a' W hO hU H HS => ?_) ?_
    · obtain ⟨v68, h68, b68, e68, l68, c68⟩ := HS 40 68 _ rfl rfl
      exact growUpon_value (grow_conv h68 e68 c68 rfl) rfl
    refine And.intro (fun a' W hO hU H HS => ?_) ?_
    · have h67 := H 39 67 _ rfl rfl
      have h69 := H 41 69 _ rfl rfl
      exact growUpon_value (by simp [go_sem, h67, h69]) rfl
    refine And.intro (fun a' W hO hU H HS => ?_) ?_
    · have h62 := H 34 62 _ rfl rfl
      have h70 := H 42 70 _ rfl rfl
      exact growUpon_value (by simp [go_sem, h62, h70]) rfl
    refine And.intro (fun a' W hO hU H HS => ?_) ?_
    · have h71 := H 43 71 _ rfl rfl
      exact growUpon_value (by simp [go_sem, h71]) rfl
    refine And.intro (fun a' W hO hU H HS => ?_) ?_
    · exact grow_lit (by simp [go_sem] <;> rfl)
    refine And.intro (fun a' W hO hU H HS => ?_) ?_
    · obtain ⟨v73, h73, b73, e73, l73, c73⟩ := HS 45 73 _ rfl rfl
      exact growUpon_value (grow_conv h73 e73 c73 rfl) rfl
    refine And.intro (fun a' W hO hU H HS => ?_) ?_
    · exact grow_lit (by simp [go_sem] <;> rfl)
    refine And.intro (fun a' W hO hU H HS => ?_) ?_
    · obtain ⟨v75, h75, b75, e75, l75, c75⟩ := HS 47 75 _ rfl rfl
      exact growUpon_value (grow_conv h75 e75 c75 rfl) rfl
    refine And.intro (fun a' W hO hU H HS => ?_) ?_
    · have h74 := H 46 74 _ rfl rfl
      have h76 := H 48 76 _ rfl rfl
      exact growUpon_call (x := .string (bs [6])) (args := #[.string (bs [12]), .string (bs [10])]) (by simp [go_sem, h74, h76]) (xor_val _ _ _ _ (by decide) (by decide) (by decide +kernel)) (fun _ => rfl)
    refine And.intro (fun a' W hO hU H HS => ?_) ?_
    · exact grow_lit (by simp [go_sem] <;> rfl)
    refine And.intro (fun a' W hO hU H HS => ?_) ?_
    · obtain ⟨v78, h78, b78, e78, l78, c78⟩ := HS 50 78 _ rfl rfl
      exact growUpon_value (grow_conv h78 e78 c78 rfl) rfl
    refine And.intro (fun a' W hO hU H HS => ?_) ?_
    · have h77 := H 49 77 _ rfl rfl
      have h79 := H 51 79 _ rfl rfl
      exact growUpon_value (by simp [go_sem, h77, h79]) rfl
    refine And.intro (fun a' W hO hU H HS => ?_) ?_
    · have h72 := H 44 72 _ rfl rfl
      have h80 := H 52 80 _ rfl rfl
      exact growUpon_value (by simp [go_sem, h72, h80]) rfl
    refine And.intro (fun a' W hO hU H HS => ?_) ?_
    · have h81 := H 53 81 _ rfl rfl
      exact growUpon_value (by simp [go_sem, h81]) rfl
    refine And.intro (fun a' W hO hU H HS => ?_) ?_
    · exact grow_lit (by simp [go_sem] <;> rfl)
    refine And.intro (fun a' W hO hU H HS => ?_) ?_
    · obtain ⟨v83, h83, b83, e83, l83, c83⟩ := HS 55 83 _ rfl rfl
      exact growUpon_value (grow_conv h83 e83 c83 rfl) rfl
    refine And.intro (fun a' W hO hU H HS => ?_) ?_
    · have h84 := H 56 84 _ rfl rfl
      exact growUpon_call (x := .string (bs [15])) (args := #[.string (bs [240])]) (by simp [go_sem, h84]) (not_val _ _ _ (by decide) (by decide +kernel)) (fun _ => rfl)
    refine And.intro (fun a' W hO hU H HS => ?_) ?_
    · exact grow_lit (by simp [go_sem] <;> rfl)
    refine And.intro (fun a' W hO hU H HS => ?_) ?_
    · obtain ⟨v86, h86, b86, e86, l86, c86⟩ := HS 58 86 _ rfl rfl
      exact growUpon_value (grow_conv h86 e86 c86 rfl) rfl
    refine And.intro (fun a' W hO hU H HS => ?_) ?_
    · have h85 := H 57 85 _ rfl rfl
      have h87 := H 59 87 _ rfl rfl
      exact growUpon_value (by simp [go_sem, h85, h87]) rfl
    refine And.intro (fun a' W hO hU H HS => ?_) ?_
    · have h82 := H 54 82 _ rfl rfl
      have h88 := H 60 88 _ rfl rfl
      exact growUpon_value (by simp [go_sem, h82, h88]) rfl
    refine And.intro (fun a' W hO hU H HS => ?_) ?_
    · have h89 := H 61 89 _ rfl rfl
      exact growUpon_value (by simp [go_sem, h89]) rfl
    refine And.intro (fun a' W hO hU H HS => ?_) ?_
    · exact growUpon_call (x := .string (bs [255, 255])) (args := #[.int .i64 2]) (by simp [go_sem]) (ones_val 2 _ _ (by decide) (by decide +kernel)) (fun _ => rfl)
    refine And.intro (fun a' W hO hU H HS => ?_) ?_
    · exact grow_lit (by simp [go_sem] <;> rfl)
    refine And.intro (fun a' W hO hU H HS => ?_) ?_
    · obtain ⟨v92, h92, b92, e92, l92, c92⟩ := HS 64 92 _ rfl rfl
      exact growUpon_value (grow_conv h92 e92 c92 rfl) rfl
    refine And.intro (fun a' W hO hU H HS => ?_) ?_
    · have h91 := H 63 91 _ rfl rfl
      have h93 := H 65 93 _ rfl rfl
      exact growUpon_value (by simp [go_sem, h91, h93]) rfl
    refine And.intro (fun a' W hO hU H HS => ?_) ?_
    · have h90 := H 62 90 _ rfl rfl
      have h94 := H 66 94 _ rfl rfl
      exact growUpon_value (by simp [go_sem, h90, h94]) rfl
    refine And.intro (fun a' W hO hU H HS => ?_) ?_
    · have h95 := H 67 95 _ rfl rfl
      exact growUpon_value (by simp [go_sem, h95]) rfl
    refine And.intro (fun a' W hO hU H HS => ?_) ?_
    · exact growUpon_call (x := .string (bs [])) (args := #[.int .i64 (-1)]) (by simp [go_sem]) (ones_neg _) (fun _ => rfl)
    refine And.intro (fun a' W hO hU H HS => ?_) ?_
    · have h97 := H 69 97 _ rfl rfl
      exact growUpon_value (by simp [go_sem, h97] <;> decide +kernel) rfl
    refine And.intro (fun a' W hO hU H HS => ?_) ?_
    · have h96 := H 68 96 _ rfl rfl
      have h98 := H 70 98 _ rfl rfl
      exact growUpon_value (by simp [go_sem, h96, h98]) rfl
    refine And.intro (fun a' W hO hU H HS => ?_) ?_
    · have h99 := H 71 99 _ rfl rfl
      exact growUpon_value (by simp [go_sem, h99]) rfl
    refine And.intro (fun a' W hO hU H HS => ?_) ?_
    · exact grow_lit (by simp [go_sem] <;> rfl)
    refine And.intro (fun a' W hO hU H HS => ?_) ?_
    · obtain ⟨v101, h101, b101, e101, l101, c101⟩ := HS 73 101 _ rfl rfl
      exact growUpon_value (grow_conv h101 e101 c101 rfl) rfl
    refine And.intro (fun a' W hO hU H HS => ?_) ?_
    · have h102 := H 74 102 _ rfl rfl
      exact growUpon_call (x := .int .i64 4) (args := #[.string (bs [7, 128])]) (by simp [go_sem, h102]) (count_ok _ _ _ (by decide) (by decide +kernel)) (fun _ => rfl)
    refine And.intro (fun a' W hO hU H HS => ?_) ?_
    · have h103 := H 75 103 _ rfl rfl
      exact growUpon_value (by simp [go_sem, h103]) rfl
    refine And.intro (fun a' W hO hU H HS => ?_) ?_
    · have h100 := H 72 100 _ rfl rfl
      have h104 := H 76 104 _ rfl rfl
      exact growUpon_value (by simp [go_sem, h100, h104]) rfl
    refine And.intro (fun a' W hO hU H HS => ?_) ?_
    · have h105 := H 77 105 _ rfl rfl
      exact growUpon_value (by simp [go_sem, h105]) rfl
    exact trivial
  · intro a' W hO hsz hdf hU H
    have h0 := H 78 0 _ rfl rfl
    go_wp2_with fail
    refine ⟨by rw [hdf], .bool true, ?_, rfl, ?_⟩
    · exact results_one (t := 0) rfl h0
    · have h1 := hb1.trans (hb2.mono hb1.size)
      exact h1.drew.trans (Below.mono hU h1.size)

end Go.Proofs.Ytkmlaljahbckkaa
