/- Texts of this proof, one behind the other: Parts. -/
import Derived.StillTail
import Derived.Test.YtmabpnkdagipfaaGreatJ5

/- A drawn region in two parts: operations each told by what it yields (whatever stays true as the world grows), and behind them a tail that stands in one order. -/
namespace Go.Proofs.YtmabpnkdagipfaaGreat
open Go.RowKit

/-- What a yield is. -/
abbrev Kd := Value → World → Prop
def isV (x : Value) : Kd := fun v _ => v = x
def SteadyG (G : World → World → Prop) (k : Kd) : Prop := ∀ v A B, k v A → G A B → k v B
abbrev Steady (k : Kd) : Prop := SteadyG Ups k
theorem steady_is {G : World → World → Prop} (x : Value) : SteadyG G (isV x) := fun _ _ _ h _ => h
def slV (l : List UInt8) : Kd := (Kind.sl l).holds
theorem steady_sl (l : List UInt8) : Steady (slV l) := fun _ _ _ h hg => Kind.holds_grows h hg
def kdAt (ks : List Kd) (i : Nat) : Kd := ks.getD i (fun _ _ => False)
def SteadiesG (G : World → World → Prop) : List Kd → Prop
  | [] => True
  | k :: ks => SteadyG G k ∧ SteadiesG G ks
abbrev Steadies (ks : List Kd) : Prop := SteadiesG Ups ks
theorem SteadiesG.at {G : World → World → Prop} : ∀ {ks : List Kd}, SteadiesG G ks → ∀ i, SteadyG G (kdAt ks i)
  | [], _, i => by
    intro v A B h _
    simp [kdAt] at h
  | k :: ks, h, 0 => h.1
  | k :: ks, h, i + 1 => by
    have := SteadiesG.at h.2 i
    simpa [kdAt] using this
def holdAll : List Kd → List Value → World → Prop
  | [], [], _ => True
  | k :: ks, v :: vs, W => k v W ∧ holdAll ks vs W
  | _, _, _ => False
theorem holdAll_of : ∀ (ks : List Kd) (vs : List Value) (W : World), ks.length = vs.length → (∀ i, i < ks.length → kdAt ks i (vs.getD i undef) W) → holdAll ks vs W
  | [], [], _, _, _ => trivial
  | [], _ :: _, _, h, _ => by simp at h
  | _ :: _, [], _, h, _ => by simp at h
  | k :: ks, v :: vs, W, hl, h => ⟨h 0 (by simp), holdAll_of ks vs W (by simpa using hl) fun i hi => by have := h (i + 1) (by simpa using hi); simpa [kdAt] using this⟩

section
variable {P : Program} {ops : Array Oper} {md : Region.Mode}

theorem unlisted_succ (n : Nat) (listed : Array Bool) : unlisted (n + 1) listed = unlisted n listed + (if listed.getD n true then 0 else 1) := by
  unfold unlisted
  rw [List.range_succ, List.filter_append, List.length_append, List.filter_cons, List.filter_nil]
  cases listed.getD n true <;> rfl
theorem unlisted_same {n i : Nat} {listed : Array Bool} (h : n ≤ i) : unlisted n (listed.setIfInBounds i true) = unlisted n listed := by
  induction n with
  | zero => rfl
  | succ n ih => rw [unlisted_succ, unlisted_succ, ih (by omega), getD_set_ne true (by omega)]
theorem unlisted_one {n i : Nat} {listed : Array Bool} (hi : i < n) (hl : listed.getD i true = false) : unlisted n (listed.setIfInBounds i true) + 1 = unlisted n listed := by
  induction n with
  | zero => omega
  | succ n ih =>
    rw [unlisted_succ, unlisted_succ]
    by_cases hin : i = n
    · subst hin
      have hsz : i < listed.size := by
        rcases Nat.lt_or_ge i listed.size with h | h
        · exact h
        · simp [Array.getElem?_eq_none h] at hl
      rw [unlisted_same (Nat.le_refl _), hl]
      simp [hsz]
    · rw [getD_set_ne true hin]
      have := ih (by omega)
      omega
theorem unlisted_none {n : Nat} {listed : Array Bool} (h : unlisted n listed = 0) : ∀ i, i < n → listed.getD i true = true := by
  induction n with
  | zero => intro i hi; omega
  | succ n ih =>
    rw [unlisted_succ] at h
    intro i hi
    by_cases hin : i = n
    · subst hin
      cases hl : listed.getD i true with
      | true => rfl
      | false => rw [hl] at h; simp at h
    · exact ih (by omega) i (by omega)

/-- The first n of m are listed. -/
def upTo (n m : Nat) : Array Bool := ((List.range m).map fun i => decide (i < n)).toArray

theorem upTo_of {n m : Nat} {listed : Array Bool} (hs : listed.size = m) (h1 : ∀ i, i < n → listed.getD i true = true) (h2 : ∀ t, n ≤ t → t < m → listed.getD t true = false) : listed = upTo n m := by
  apply Array.ext_getElem?
  intro i
  by_cases hi : i < m
  · have hi' : i < listed.size := by omega
    have e : (upTo n m)[i]? = some (decide (i < n)) := by
      simp [upTo, hi]
    rw [e, Array.getElem?_eq_getElem hi']
    by_cases hin : i < n
    · have := h1 i hin
      simp [hi'] at this
      simp [hin, this]
    · have := h2 i (by omega) hi
      simp [hi'] at this
      simp [hin, this]
  · rw [Array.getElem?_eq_none (by omega), Array.getElem?_eq_none (by simp [upTo]; omega)]

theorem growOp_plain {G : World → World → Prop} {V : Kd} {o : Oper} {a : Act} {W : World} (hg : o.guard = none) (h : growUpon P G V W ((execOp a.eval o).run P W)) : growOp P ops G V o a W := by
  unfold growOp
  rw [if_pos (by unfold Region.wanted; rw [hg])]
  exact h
theorem growOp_done {G : World → World → Prop} {V : Kd} {o : Oper} {a : Act} {W : World} {j d : Nat} {b : Bool} (hg : o.guard = some (j, b)) (hd : (ops.toList[j]?).bind (·.dst) = some d) (hv : a.tmps[d]? = some (.bool b)) (h : growUpon P G V W ((execOp a.eval o).run P W)) : growOp P ops G V o a W := by
  unfold growOp
  rw [Array.getElem?_toList] at hd
  rw [if_pos ?_]
  · exact h
  · unfold Region.wanted
    rw [hg]
    simp [yielded, hd, hv]
theorem growOp_left {G : World → World → Prop} {V : Kd} {o : Oper} {a : Act} {W : World} {j d : Nat} {b : Bool} (hg : o.guard = some (j, b)) (hd : (ops.toList[j]?).bind (·.dst) = some d) (hv : a.tmps[d]? = some (.bool (!b))) (hrefl : ∀ A, G A A) (h : V undef W) : growOp P ops G V o a W := by
  unfold growOp
  rw [Array.getElem?_toList] at hd
  rw [if_neg ?_]
  · exact ⟨h, hrefl _⟩
  · unfold Region.wanted
    rw [hg]
    cases b <;> simp [yielded, hd, hv]

theorem isV_get {t : Option Value} {W : World} {x : Value} (h : ∃ v, t = some v ∧ isV x v W) : t = some x := by
  obtain ⟨v, h, rfl⟩ := h
  exact h
theorem holdAll_is {x : Value} {ks : List Kd} {xs : List Value} {W : World} (h : holdAll (isV x :: ks) xs W) : ∃ ys, xs = x :: ys ∧ holdAll ks ys W := by
  cases xs with
  | nil => exact h.elim
  | cons v ys =>
    obtain ⟨rfl, h⟩ := h
    exact ⟨ys, rfl, h⟩
theorem holdAll_cons {k : Kd} {ks : List Kd} {xs : List Value} {W : World} (h : holdAll (k :: ks) xs W) : ∃ v ys, xs = v :: ys ∧ k v W ∧ holdAll ks ys W := by
  cases xs with
  | nil => exact h.elim
  | cons v ys => exact ⟨v, ys, rfl, h.1, h.2⟩
theorem holdAll_nil {xs : List Value} {W : World} (h : holdAll [] xs W) : xs = [] := by
  cases xs with
  | nil => rfl
  | cons v ys => exact h.elim
theorem parts_value {x : Value} {W : World} {r : Result Next} (h : r = .ok (.value x) W) : growUpon P Ups (isV x) W r := growUpon_value h rfl
theorem parts_call {V : Kd} {W : World} {f : FuncId} {args : Array Value} {r : Result Next} (h : r = .ok (.enter f args) W)
    (hc : Calls P f args W fun e w' => ∃ x, e = .returned x ∧ V x w' ∧ Ups W w') : growUpon P Ups V W r := by
  subst h
  exact hc
theorem parts_call_is {W : World} {f : FuncId} {args : Array Value} {r : Result Next} {x : Value} (h : r = .ok (.enter f args) W)
    (hc : Calls P f args W fun e w' => e = .returned x ∧ Ups W w') : growUpon P Ups (isV x) W r := by
  subst h
  refine hc.mono ?_
  rintro e W' ⟨rfl, hb⟩
  exact ⟨x, rfl, rfl, hb⟩
theorem ups_drew {A B : World} (h : Ups A B) : Ups A B.drew := Below.drew h
theorem drew_ups {A B : World} (h : Ups A.drew B) : Ups A B := Ups.trans (ups_drew (Ups.refl A)) h

theorem wpAny_of_parts {G : World → World → Prop} (htrans : ∀ {A B C}, G A B → G B C → G A C) {Vs : Nat → Kd} {a : Act} {w : World} {Q : Exit → Act → World → Prop} (N : Nat) (hN : N ≤ ops.size)
    (hst : ∀ i, SteadyG G (Vs i))
    (hearly : ∀ (i : Nat) (o : Oper), i < N → ops[i]? = some o → ∀ e ∈ o.after, Region.binds md e = true → e.on < i)
    (hdst : ∀ (i j : Nat) (o o' : Oper) (d : Nat), i < N → j < N → ops[i]? = some o → ops[j]? = some o' → o.dst = some d → o'.dst = some d → i = j)
    (hin : ∀ (i : Nat) (o : Oper) (d : Nat), i < N → ops[i]? = some o → o.dst = some d → d < a.tmps.size)
    (hwait : ∀ (listed : Array Bool), HeadInv md ops N listed → ∀ i, i < N → listed.getD i true = false → ∀ t, N ≤ t → t ∉ Region.ready md ops listed)
    (hstep : ∀ (i : Nat) (o : Oper), i < N → ops[i]? = some o → ∀ (a' : Act) (W : World),
      (∀ t, (∀ (j : Nat) (oj : Oper), j < N → ops[j]? = some oj → oj.dst = some t → ∃ e ∈ oj.after, Region.binds md e = true ∧ e.on = i) → a'.tmps[t]? = a.tmps[t]?) → G w W →
      (∀ (j d : Nat) (oj : Oper), j < N → ops[j]? = some oj → oj.dst = some d → (∃ e ∈ o.after, Region.binds md e = true ∧ e.on = j) → ∃ v, a'.tmps[d]? = some v ∧ Vs j v W) → growOp P ops G (Vs i) o a' W)
    (hfin : ∀ (a' : Act) (W : World), a'.tmps.size = a.tmps.size → a'.defers = a.defers → (∀ t, (∀ (j : Nat) (oj : Oper), j < N → ops[j]? = some oj → oj.dst ≠ some t) → a'.tmps[t]? = a.tmps[t]?) → G w W →
      (∀ (j d : Nat) (oj : Oper), j < N → ops[j]? = some oj → oj.dst = some d → ∃ v, a'.tmps[d]? = some v ∧ Vs j v W) → wpAny P md ops Q (ops.size - N) (upTo N ops.size) a' W) :
    ∀ (fuel : Nat) (listed : Array Bool) (a' : Act) (W : World), HeadInv md ops N listed → unlisted N listed = fuel → AgreeL ops listed a a' → G w W →
      (∀ (j d : Nat) (oj : Oper), j < N → ops[j]? = some oj → oj.dst = some d → listed.getD j false = true → ∃ v, a'.tmps[d]? = some v ∧ Vs j v W) →
      wpAny P md ops Q (fuel + (ops.size - N)) listed a' W := by
  have both : ∀ {listed : Array Bool} {i : Nat}, i < listed.size → listed.getD i true = true → listed.getD i false = true := by
    intro listed i hi h
    simp [hi] at h ⊢
    exact h
  intro fuel
  induction fuel with
  | zero =>
    intro listed a' W inv hun hag hG hdn
    have hall := unlisted_none hun
    have he := upTo_of inv.size hall inv.tail
    rw [Nat.zero_add]
    subst he
    refine hfin a' W hag.size hag.defers (fun t ht => hag.same t fun j o hj hl hd => ?_) hG fun j d oj hjN hj hd => hdn j d oj hjN hj hd ?_
    · by_cases hjN : j < N
      · exact ht j o hjN hj hd
      · have h1 := inv.tail j (by omega) (Array.getElem?_eq_some_iff.1 hj).1
        rw [getD_both h1] at hl
        cases hl
    · exact both (by rw [inv.size]; omega) (hall j hjN)
  | succ fuel ih =>
    intro listed a' W inv hun hag hG hdn
    rw [show fuel + 1 + (ops.size - N) = (fuel + (ops.size - N)) + 1 by omega]
    obtain ⟨i0, hi0, hl0⟩ : ∃ i, i < N ∧ listed.getD i true = false := by
      refine Classical.byContradiction fun hno => ?_
      have h0 : unlisted N listed = 0 := by
        unfold unlisted
        rw [List.length_eq_zero_iff, List.filter_eq_nil_iff]
        intro i hi
        have := List.mem_range.1 hi
        cases h : listed.getD i true with
        | true => simp
        | false => exact absurd ⟨i, this, h⟩ hno
      omega
    refine ⟨fun h0 => ?_, fun i hi => ?_⟩
    · exfalso
      have key : ∀ i, i < N → listed.getD i false = true := by
        intro i
        induction i using Nat.strongRecOn with
        | _ i ihh =>
          intro hiN
          have hi : i < ops.size := by omega
          have ho : ops[i]? = some ops[i] := Array.getElem?_eq_getElem hi
          cases hl : listed.getD i true with
          | true => exact both (by rw [inv.size]; exact hi) hl
          | false =>
            exfalso
            have hm : i ∈ Region.ready md ops listed := mem_ready.2 ⟨hl, ops[i], ho, fun e he hb => ihh e.on (hearly i _ hiN ho e he hb) (Nat.lt_trans (hearly i _ hiN ho e he hb) hiN)⟩
            rw [h0] at hm
            cases hm
      have := key i0 hi0
      rw [getD_both hl0] at this
      cases this
    · have hiN : i < N := by
        rcases Nat.lt_or_ge i N with h | h
        · exact h
        · exact absurd hi (hwait listed inv i0 hi0 hl0 i h)
      obtain ⟨hl, o, ho, hall⟩ := mem_ready.1 hi
      have hls : i < listed.size := by rw [inv.size]; omega
      have hlf := getD_both hl
      have hg := hstep i o hiN ho a' W (fun t ht => hag.same t fun j oj hj hlj hd => by
        by_cases hjN : j < N
        · obtain ⟨e, he, hb, hei⟩ := ht j oj hjN hj hd
          have := inv.closed j oj hj hlj e he hb
          rw [hei, hlf] at this
          cases this
        · have h1 := inv.tail j (by omega) (Array.getElem?_eq_some_iff.1 hj).1
          rw [getD_both h1] at hlj
          cases hlj) hG (fun j d oj hjN hj hd ⟨e, he, hb, hej⟩ => hdn j d oj hjN hj hd (by have := hall e he hb; rw [hej] at this; exact this))
      have hun' := unlisted_one hiN hl
      have next : ∀ v W', Vs i v W' → G W W' → wpAny P md ops Q (fuel + (ops.size - N)) (listed.setIfInBounds i true) (a'.put o.dst v) W' := by
        intro v W' hv hGW
        refine ih _ _ _ (inv.set hi hiN) (by omega) (hag.put ho hls v) (htrans hG hGW) ?_
        intro j d oj hjN hj hd hlj
        by_cases hij : i = j
        · subst hij
          rw [ho] at hj
          cases hj
          have hsz : d < a'.tmps.size := by rw [hag.size]; exact hin i o d hiN ho hd
          refine ⟨v, ?_, hv⟩
          rw [hd]
          simp [Act.put, hsz]
        · rw [getD_set_ne false hij] at hlj
          obtain ⟨u, hu, hku⟩ := hdn j d oj hjN hj hd hlj
          refine ⟨u, ?_, hst _ _ _ _ hku hGW⟩
          cases hod : o.dst with
          | none => exact hu
          | some d' =>
            have hne : d' ≠ d := fun e => hij (hdst i j o oj d hiN hjN ho hj (by rw [hod, e]) hd)
            simp only [Act.put]
            rw [Array.getElem?_setIfInBounds_ne hne]
            exact hu
      unfold wpOp
      simp only [ho]
      unfold growOp at hg
      split
      · rename_i hw
        simp only [hw, if_true] at hg
        exact .inl (Oper.wp_of_growUpon hg next)
      · rename_i hw
        simp only [hw] at hg
        exact next undef W hg.1 hg.2

/-- The head's form: each has a place of its own within the frame and waits for earlier ones alone. -/
def headFit (ops : List Oper) (N n : Nat) : Bool :=
  ((List.range N).all fun i => match ops[i]? with | none => true | some o => o.after.toList.all fun e => !Region.binds .any e || decide (e.on < i))
  && ((ops.take N).filterMap (·.dst)).Nodup && (ops.take N).all (fun o => o.dst.isSome && decide (o.dst.getD 0 < n))
/-- The tail waits for all of the head, and stands in one order. -/
def tailFit (ops : List Oper) (N : Nat) : Bool :=
  (decide (N = ops.length) || decide (N < ops.length) && Region.sinkB .any ops.toArray N && Region.chainB .any ops.toArray N)
  && Region.seqB .any ops.toArray (ops.length - N) N (upTo N ops.length)

/-- Whoever of the head writes slot t waits for operation i. -/
def outerTo (ops : List Oper) (N i t : Nat) : Bool := (ops.take N).all fun o => match o.dst with | none => true | some d => !Nat.beq d t || o.after.toList.any (fun e => Region.binds .any e && Nat.beq e.on i)
/-- Where operation j's yield lies, where operation i waits for it. -/
def depTo (ops : List Oper) (N i j : Nat) : Option Nat :=
  match ops[i]? with
  | none => none
  | some o => if Nat.blt j N && o.after.toList.any (fun e => Region.binds .any e && Nat.beq e.on j) then (ops[j]?).bind (·.dst) else none

theorem wp_region_partsG {id n N : Nat} (G : World → World → Prop) (hrefl : ∀ A, G A A) (htrans : ∀ {A B C}, G A B → G B C → G A C) {l : List Oper} {ks : List Kd} {a : Act} {w : World} {Q : Exit → Act → World → Prop} (hm : P.follows .mixedOrders = true)
    (hfit : headFit l N n = true) (htail : tailFit l N = true) (hsz : a.tmps.size = n) (hks : ks.length = (l.take N).length) (hN : N ≤ l.length) (hst : SteadiesG G ks)
    (hstep : AllFrom (fun i o => ∀ (a' : Act) (W : World), (∀ t, outerTo l N i t = true → a'.tmps[t]? = a.tmps[t]?) → G w.drew W →
      (∀ j d, depTo l N i j = some d → ∃ v, a'.tmps[d]? = some v ∧ kdAt ks j v W) → growOp P l.toArray G (kdAt ks i) o a' W) 0 (l.take N))
    (hfin : ∀ (W : World) (xs : List Value), G w.drew W → holdAll ks xs W → wpList P l.toArray Q (l.drop N) { a with tmps := endTmps (l.take N) xs a.tmps } W) :
    (Code.region id l.toArray true).wp P Q a w := by
  unfold headFit at hfit
  simp only [Bool.and_eq_true, decide_eq_true_eq] at hfit
  obtain ⟨⟨he, hn⟩, hd⟩ := hfit
  rw [List.all_eq_true] at he hd
  unfold tailFit at htail
  simp only [Bool.and_eq_true, Bool.or_eq_true, decide_eq_true_eq] at htail
  obtain ⟨ht1, hseq⟩ := htail
  have htk : (l.take N).length = N := by rw [List.length_take]; omega
  have tk : ∀ i, i < N → (l.take N)[i]? = l[i]? := fun i hi => List.getElem?_take_of_lt hi
  have inr : ∀ (i : Nat) (o : Oper), i < N → l[i]? = some o → ∃ d, o.dst = some d ∧ d < n := by
    intro i o hi ho
    have := hd o (List.mem_of_getElem? ((tk i hi).trans ho))
    simp only [Bool.and_eq_true, decide_eq_true_eq] at this
    obtain ⟨d, hdo⟩ := Option.isSome_iff_exists.1 this.1
    exact ⟨d, hdo, by simpa [hdo] using this.2⟩
  have dep : ∀ i o, l[i]? = some o → ∀ j d, depTo l N i j = some d → j < N ∧ (∃ e ∈ o.after, Region.binds .any e = true ∧ e.on = j) ∧ ∃ oj, l[j]? = some oj ∧ oj.dst = some d := by
    intro i o hi j d h
    unfold depTo at h
    rw [hi] at h
    simp only at h
    split at h
    · rename_i hc
      rw [Bool.and_eq_true, Nat.blt_eq] at hc
      refine ⟨hc.1, ?_, Option.bind_eq_some_iff.1 h⟩
      obtain ⟨e, h1, h2⟩ := List.any_eq_true.1 hc.2
      simp only [Bool.and_eq_true, Nat.beq_eq] at h2
      exact ⟨e, by simpa using h1, h2⟩
    · cases h
  refine wp_region_any hm ?_
  have inv0 : HeadInv .any l.toArray N (Array.replicate l.toArray.size false) :=
    ⟨by simp, fun j oj _ hl => (by rw [getD_replicate_false] at hl; cases hl), fun t _ ht => getD_in (by simpa using ht) (getD_replicate_false _ _)⟩
  have hu : unlisted N (Array.replicate l.toArray.size false) = N := by
    unfold unlisted
    rw [List.filter_eq_self.2]
    · simp
    · intro i hi
      have := List.mem_range.1 hi
      have hil : i < l.length := by omega
      simp [hil]
  have hsz' : l.toArray.size = N + (l.toArray.size - N) := by simp; omega
  rw [show (wpAny P .any l.toArray Q l.toArray.size (Array.replicate l.toArray.size false) a { w with drawn := w.drawn + 1 }) = (wpAny P .any l.toArray Q (N + (l.toArray.size - N)) (Array.replicate l.toArray.size false) a { w with drawn := w.drawn + 1 }) by rw [← hsz']]
  refine wpAny_of_parts (G := G) htrans (md := .any) (Vs := kdAt ks) (a := a) (w := w.drew) N (by simpa using hN) (fun i => hst.at i) ?_ ?_ ?_ ?_ ?_ ?_ N _ a w.drew inv0 hu ⟨rfl, rfl, fun _ _ => rfl⟩ (hrefl _) ?_
  · intro i o hi ho e hme hb
    have := he i (List.mem_range.2 hi)
    rw [List.getElem?_toArray] at ho
    rw [ho] at this
    have := List.all_eq_true.1 this e (by simpa using hme)
    rw [hb] at this
    simpa using this
  · intro i j o o' d hi hj ho ho' h1 h2
    rw [List.getElem?_toArray] at ho ho'
    refine nodup_dst (l.take N) (fun o hmo => ?_) hn i j o o' d ((tk i hi).trans ho) ((tk j hj).trans ho') h1 h2
    have := hd o hmo
    simp only [Bool.and_eq_true] at this
    exact this.1
  · intro i o d hi ho hdo
    rw [List.getElem?_toArray] at ho
    obtain ⟨d', e, hlt⟩ := inr i o hi ho
    rw [hdo] at e
    cases e
    rw [hsz]
    exact hlt
  · intro listed inv i hi hl t ht
    rcases ht1 with h1 | ⟨⟨h1, h2⟩, h3⟩
    · intro hr
      obtain ⟨_, ot, hot, _⟩ := mem_ready.1 hr
      have := (Array.getElem?_eq_some_iff.1 hot).1
      simp at this
      omega
    · exact tail_waits h2 h3 (by simpa using h1) inv _ i rfl hi hl t ht
  · intro i o hi ho a' W hag hG hdn
    rw [List.getElem?_toArray] at ho
    have hs := AllFrom.get (l.take N) 0 i o hstep ((tk i hi).trans ho)
    rw [Nat.zero_add] at hs
    refine hs a' W (fun t ht => hag t ?_) hG ?_
    · intro j oj hj hoj hdj
      rw [List.getElem?_toArray] at hoj
      have := List.all_eq_true.1 ht oj (List.mem_of_getElem? ((tk j hj).trans hoj))
      simp only [hdj] at this
      rw [Bool.or_eq_true] at this
      rcases this with h | h
      · simp at h
      · obtain ⟨e, h1, h2⟩ := List.any_eq_true.1 h
        simp only [Bool.and_eq_true, Nat.beq_eq] at h2
        exact ⟨e, by simpa using h1, h2⟩
    · intro j d hjd
      obtain ⟨hjN, h0, oj, hoj, hdj⟩ := dep i o ho j d hjd
      exact hdn j d oj hjN (by rw [List.getElem?_toArray]; exact hoj) hdj h0
  · intro a' W h1 h2 h3 hG hdn
    have hxl : ((l.take N).map fun o => a'.tmps.getD (o.dst.getD 0) undef).length = (l.take N).length := by simp
    have hxat : ∀ (j d : Nat) (o : Oper), (l.take N)[j]? = some o → o.dst = some d → ((l.take N).map fun o => a'.tmps.getD (o.dst.getD 0) undef).getD j undef = a'.tmps.getD d undef := by
      intro j d o hj hdo
      rw [List.getD_eq_getElem?_getD, List.getElem?_map, hj]
      simp [hdo]
    generalize ((l.take N).map fun o => a'.tmps.getD (o.dst.getD 0) undef) = xs at *
    have lt_of : ∀ {j : Nat} {o : Oper}, (l.take N)[j]? = some o → j < N := by
      intro j o hj
      have := (List.getElem?_eq_some_iff.1 hj).1
      omega
    have ht : a'.tmps = endTmps (l.take N) xs a.tmps := by
      apply Array.ext_getElem?
      intro d
      by_cases hw : ∃ (j : Nat) (o : Oper), (l.take N)[j]? = some o ∧ o.dst = some d
      · obtain ⟨j, o, hj, ho⟩ := hw
        have hjN := lt_of hj
        have hj' : l.toArray[j]? = some o := by rw [List.getElem?_toArray, ← tk j hjN]; exact hj
        obtain ⟨v, hv, _⟩ := hdn j d o hjN hj' ho
        rw [endTmps_at (l.take N) xs a.tmps j d o hxl hn hj ho ?_]
        · rw [hxat j d o hj ho, hv]
          simp [hv]
        · obtain ⟨d', e, hlt⟩ := inr j o hjN (by rw [← tk j hjN]; exact hj)
          rw [ho] at e
          cases e
          rw [hsz]
          exact hlt
      · rw [endTmps_other (l.take N) xs a.tmps d ?_]
        · refine h3 d fun j o hjN hj ho => hw ⟨j, o, ?_, ho⟩
          rw [List.getElem?_toArray] at hj
          exact (tk j hjN).trans hj
        · intro o ho hde
          obtain ⟨j, hj⟩ := List.getElem?_of_mem ho
          exact hw ⟨j, o, hj, hde⟩
    have ha : a' = { a with tmps := endTmps (l.take N) xs a.tmps } := by
      cases a'
      cases a
      simp only at ht h2
      rw [ht, h2]
    have hkk : holdAll ks xs W := by
      refine holdAll_of ks xs W (by rw [hks, hxl]) fun i hi => ?_
      have hiN : i < N := by omega
      obtain ⟨o, hlo⟩ : ∃ o, (l.take N)[i]? = some o := ⟨_, List.getElem?_eq_getElem (by omega)⟩
      have hlo' : l.toArray[i]? = some o := by rw [List.getElem?_toArray, ← tk i hiN]; exact hlo
      obtain ⟨d, hdo, _⟩ := inr i o hiN (by rw [← tk i hiN]; exact hlo)
      obtain ⟨v, hv, hkv⟩ := hdn i d o hiN hlo' hdo
      rw [hxat i d o hlo hdo]
      simpa [hv] using hkv
    rw [ha]
    have hq := hfin W xs hG hkk
    have hdl : (l.drop N).length = l.toArray.size - N := by simp
    have := wpAny_of_seq (P := P) (md := .any) (Q' := Q) (ops := l.toArray) (l.drop N) N (upTo N l.toArray.size) { a with tmps := endTmps (l.take N) xs a.tmps } W (fun j => by simp [List.getElem?_drop]) (by rw [hdl]; simpa using hseq) hq
    rw [hdl] at this
    exact this
  · intro j d oj _ _ _ hl
    rw [getD_replicate_false] at hl
    cases hl

theorem wp_region_parts {id n N : Nat} {l : List Oper} {ks : List Kd} {a : Act} {w : World} {Q : Exit → Act → World → Prop} (hm : P.follows .mixedOrders = true)
    (hfit : headFit l N n = true) (htail : tailFit l N = true) (hsz : a.tmps.size = n) (hks : ks.length = (l.take N).length) (hN : N ≤ l.length) (hst : Steadies ks)
    (hstep : AllFrom (fun i o => ∀ (a' : Act) (W : World), (∀ t, outerTo l N i t = true → a'.tmps[t]? = a.tmps[t]?) → Ups w.drew W →
      (∀ j d, depTo l N i j = some d → ∃ v, a'.tmps[d]? = some v ∧ kdAt ks j v W) → growOp P l.toArray Ups (kdAt ks i) o a' W) 0 (l.take N))
    (hfin : ∀ (W : World) (xs : List Value), Ups w.drew W → holdAll ks xs W → wpList P l.toArray Q (l.drop N) { a with tmps := endTmps (l.take N) xs a.tmps } W) :
    (Code.region id l.toArray true).wp P Q a w := wp_region_partsG Ups Ups.refl Ups.trans hm hfit htail hsz hks hN hst hstep hfin

end
end Go.Proofs.YtmabpnkdagipfaaGreat
