/- A drawn region as in PartsR, in which one operation of the head may come behind the first one of the tail. -/
import Derived.Test.YtjpapjijlbfemaaPartsR
namespace Go.Proofs.Ytjpapjijlbfemaa
open Go.RowKit

section
variable {P : Program} {ops : Array Oper} {md : Region.Mode}

theorem holdAll_length : ∀ {ks : List Kd} {vs : List Value} {W : World}, holdAll ks vs W → vs.length = ks.length
  | [], [], _, _ => rfl
  | [], _ :: _, _, h => h.elim
  | _ :: _, [], _, h => h.elim
  | _ :: ks, _ :: vs, W, h => by rw [List.length_cons, List.length_cons, holdAll_length h.2]
theorem holdAll_at : ∀ {ks : List Kd} {vs : List Value} {W : World}, holdAll ks vs W → ∀ i, i < ks.length → kdAt ks i (vs.getD i undef) W
  | [], _, _, _, i, hi => by simp at hi
  | _ :: _, [], _, h, _, _ => h.elim
  | k :: ks, v :: vs, W, h, 0, _ => h.1
  | k :: ks, v :: vs, W, h, i + 1, hi => by
    have := holdAll_at h.2 i (by simpa using hi)
    simpa [kdAt] using this
/-- The first n of m are listed, but for q. -/
def upToBut (n m q : Nat) : Array Bool := ((List.range m).map fun i => decide (i < n) && !Nat.beq i q).toArray
theorem upToBut_of {n m q : Nat} {listed : Array Bool} (hs : listed.size = m) (h1 : ∀ i, i < n → i ≠ q → listed.getD i true = true) (hq : listed.getD q true = false) (h2 : ∀ t, n ≤ t → t < m → listed.getD t true = false) : listed = upToBut n m q := by
  apply Array.ext_getElem?
  intro i
  by_cases hi : i < m
  · have hi' : i < listed.size := by omega
    have e : (upToBut n m q)[i]? = some (decide (i < n) && !Nat.beq i q) := by
      simp [upToBut, hi]
    rw [e, Array.getElem?_eq_getElem hi']
    by_cases hiq : i = q
    · subst hiq
      simp [hi'] at hq
      simp [hq]
    · have hb : Nat.beq i q = false := by
        cases h : Nat.beq i q with
        | false => rfl
        | true => exact absurd (Nat.eq_of_beq_eq_true h) hiq
      rw [hb]
      by_cases hin : i < n
      · have := h1 i hin hiq
        simp [hi'] at this
        simp [hin, this]
      · have := h2 i (by omega) hi
        simp [hi'] at this
        simp [hin, this]
  · rw [Array.getElem?_eq_none (by omega), Array.getElem?_eq_none (by simp [upToBut]; omega)]
theorem unlisted_all {n : Nat} {listed : Array Bool} (h : ∀ i, i < n → listed.getD i true = true) : unlisted n listed = 0 := by
  unfold unlisted
  rw [List.length_eq_zero_iff, List.filter_eq_nil_iff]
  intro i hi
  rw [h i (List.mem_range.1 hi)]
  simp
theorem erase_at {α : Type} {l : List α} {j q : Nat} {x : α} (hjq : j ≠ q) (h : l[j]? = some x) : (l.eraseIdx q)[if j < q then j else j - 1]? = some x := by
  rw [List.getElem?_eraseIdx]
  by_cases hlt : j < q
  · rw [if_pos hlt, if_pos hlt, h]
  · rw [if_neg hlt, if_neg (by omega), show j - 1 + 1 = j by omega, h]
theorem erase_from {α : Type} {l : List α} {q : Nat} {x : α} (h : x ∈ l.eraseIdx q) : ∃ j, j ≠ q ∧ l[j]? = some x := by
  obtain ⟨j, hj⟩ := List.getElem?_of_mem h
  rw [List.getElem?_eraseIdx] at hj
  split at hj
  · exact ⟨j, by omega, hj⟩
  · exact ⟨j + 1, by omega, hj⟩
/-- The tail waits for all of the head but q; behind its first one q comes, and the rest in one order. -/
def lateFit (l : List Oper) (N q : Nat) : Bool :=
  decide (N < l.length) && (List.range l.length).all (fun t => decide (t < N) || (match l[t]? with | none => true | some o => (List.range N).all fun i => Nat.beq i q || o.after.toList.any fun e => Region.binds .any e && Nat.beq e.on i))
  && Region.seqB .any l.toArray (l.length - N) N (upTo N l.length)
  && decide (Region.ready .any l.toArray (upToBut N l.length q) = [q, N]) && decide (Region.ready .any l.toArray ((upToBut N l.length q).setIfInBounds N true) = [q])
  && decide (((upToBut N l.length q).setIfInBounds N true).setIfInBounds q true = upTo (N + 1) l.length) && Region.seqB .any l.toArray (l.length - (N + 1)) (N + 1) (upTo (N + 1) l.length)

theorem wpAny_of_partsL {R : Nat → Value → Value → Prop} {p dp : Nat} {op : Oper} (hop : ops[p]? = some op) (hdp : op.dst = some dp) {G : World → World → Prop} (htrans : ∀ {A B C}, G A B → G B C → G A C) {Vs : Nat → Kd} {a : Act} {w : World} {Q : Exit → Act → World → Prop} (N q : Nat) (hN : N ≤ ops.size) (hpN : p < N) (hqN : q < N) (hqp : q ≠ p)
    (hst : ∀ i, SteadyG G (Vs i))
    (hearly : ∀ (i : Nat) (o : Oper), i < N → ops[i]? = some o → ∀ e ∈ o.after, Region.binds md e = true → e.on < i)
    (hdst : ∀ (i j : Nat) (o o' : Oper) (d : Nat), i < N → j < N → ops[i]? = some o → ops[j]? = some o' → o.dst = some d → o'.dst = some d → i = j)
    (hin : ∀ (i : Nat) (o : Oper) (d : Nat), i < N → ops[i]? = some o → o.dst = some d → d < a.tmps.size)
    (hwait : ∀ (listed : Array Bool), HeadInv md ops N listed → ∀ i, i < N → i ≠ q → listed.getD i true = false → ∀ t, N ≤ t → t ∉ Region.ready md ops listed)
    (hlate : ∀ (i : Nat) (a' : Act) (W : World), N ≤ i → i ∈ Region.ready md ops (upToBut N ops.size q) → a'.tmps.size = a.tmps.size → a'.defers = a.defers → (∀ t, (∀ (j : Nat) (oj : Oper), j < N → j ≠ q → ops[j]? = some oj → oj.dst ≠ some t) → a'.tmps[t]? = a.tmps[t]?) → G w W →
      (∀ (j d : Nat) (oj : Oper), j < N → j ≠ q → ops[j]? = some oj → oj.dst = some d → ∃ v, a'.tmps[d]? = some v ∧ Vs j v W ∧ (j ≠ p → ∀ u, a'.tmps[dp]? = some u → R j u v)) →
      wpOp P ops Q i (wpAny P md ops Q (ops.size - N) ((upToBut N ops.size q).setIfInBounds i true)) a' W)
    (hstep : ∀ (i : Nat) (o : Oper), i < N → ops[i]? = some o → ∀ (a' : Act) (W : World) (other : Option Value), (∀ u, other = some u → Vs p u W) →
      (∀ t, (∀ (j : Nat) (oj : Oper), j < N → ops[j]? = some oj → oj.dst = some t → ∃ e ∈ oj.after, Region.binds md e = true ∧ e.on = i) → a'.tmps[t]? = a.tmps[t]?) → G w W →
      (∀ (j d : Nat) (oj : Oper), j < N → ops[j]? = some oj → oj.dst = some d → (∃ e ∈ o.after, Region.binds md e = true ∧ e.on = j) → ∃ v, a'.tmps[d]? = some v ∧ Vs j v W ∧ (j ≠ p → ∀ u, other = some u → R j u v)) → growOp P ops G (withR R p i Vs other W) o a' W)
    (hfin : ∀ (a' : Act) (W : World), a'.tmps.size = a.tmps.size → a'.defers = a.defers → (∀ t, (∀ (j : Nat) (oj : Oper), j < N → ops[j]? = some oj → oj.dst ≠ some t) → a'.tmps[t]? = a.tmps[t]?) → G w W →
      (∀ (j d : Nat) (oj : Oper), j < N → ops[j]? = some oj → oj.dst = some d → ∃ v, a'.tmps[d]? = some v ∧ Vs j v W ∧ (j ≠ p → ∀ u, a'.tmps[dp]? = some u → R j u v)) → wpAny P md ops Q (ops.size - N) (upTo N ops.size) a' W) :
    ∀ (fuel : Nat) (listed : Array Bool) (a' : Act) (W : World), HeadInv md ops N listed → unlisted N listed = fuel → AgreeL ops listed a a' → G w W →
      (∀ (j d : Nat) (oj : Oper), j < N → ops[j]? = some oj → oj.dst = some d → listed.getD j false = true → ∃ v, a'.tmps[d]? = some v ∧ Vs j v W ∧ (j ≠ p → listed.getD p false = true → ∀ u, a'.tmps[dp]? = some u → R j u v)) →
      wpAny P md ops Q (fuel + (ops.size - N)) listed a' W := by
  have both : ∀ {listed : Array Bool} {i : Nat}, i < listed.size → listed.getD i true = true → listed.getD i false = true := by
    intro listed i hi h
    simp [hi] at h ⊢
    exact h
  intro fuel
  induction fuel with
  | zero =>
    intro listed a' W inv hun hag hG hdn
    have hall := unlisted_none hun
    have he := upTo_of inv.size hall inv.tail
    rw [Nat.zero_add]
    subst he
    refine hfin a' W hag.size hag.defers (fun t ht => hag.same t fun j o hj hl hd => ?_) hG fun j d oj hjN hj hd => ?_
    rotate_left
    · obtain ⟨v, h1, h2, h3⟩ := hdn j d oj hjN hj hd (both (by rw [inv.size]; omega) (hall j hjN))
      exact ⟨v, h1, h2, fun hjp => h3 hjp (both (by rw [inv.size]; omega) (hall p hpN))⟩
    · by_cases hjN : j < N
      · exact ht j o hjN hj hd
      · have h1 := inv.tail j (by omega) (Array.getElem?_eq_some_iff.1 hj).1
        rw [getD_both h1] at hl
        cases hl
  | succ fuel ih =>
    intro listed a' W inv hun hag hG hdn
    rw [show fuel + 1 + (ops.size - N) = (fuel + (ops.size - N)) + 1 by omega]
    obtain ⟨i0, hi0, hl0⟩ : ∃ i, i < N ∧ listed.getD i true = false := by
      refine Classical.byContradiction fun hno => ?_
      have h0 : unlisted N listed = 0 := by
        unfold unlisted
        rw [List.length_eq_zero_iff, List.filter_eq_nil_iff]
        intro i hi
        have := List.mem_range.1 hi
        cases h : listed.getD i true with
        | true => simp
        | false => exact absurd ⟨i, this, h⟩ hno
      omega
    refine ⟨fun h0 => ?_, fun i hi => ?_⟩
    · exfalso
      have key : ∀ i, i < N → listed.getD i false = true := by
        intro i
        induction i using Nat.strongRecOn with
        | _ i ihh =>
          intro hiN
          have hi : i < ops.size := by omega
          have ho : ops[i]? = some ops[i] := Array.getElem?_eq_getElem hi
          cases hl : listed.getD i true with
          | true => exact both (by rw [inv.size]; exact hi) hl
          | false =>
            exfalso
            have hm : i ∈ Region.ready md ops listed := mem_ready.2 ⟨hl, ops[i], ho, fun e he hb => ihh e.on (hearly i _ hiN ho e he hb) (Nat.lt_trans (hearly i _ hiN ho e he hb) hiN)⟩
            rw [h0] at hm
            cases hm
      have := key i0 hi0
      rw [getD_both hl0] at this
      cases this
    · rcases Nat.lt_or_ge i N with hiN | hge
      rotate_left
      · have hmore : ∀ j, j < N → j ≠ q → listed.getD j true = true := fun j hj hjq => by
          cases h : listed.getD j true with
          | true => rfl
          | false => exact absurd hi (hwait listed inv j hj hjq h i hge)
        have hq : listed.getD q true = false := by
          cases h : listed.getD q true with
          | false => rfl
          | true =>
            have h0 := unlisted_all (n := N) (listed := listed) fun j hj => by
              by_cases hjq : j = q
              · rw [hjq]; exact h
              · exact hmore j hj hjq
            omega
        have h1 := unlisted_one hqN hq
        have h2 := unlisted_all (n := N) (listed := listed.setIfInBounds q true) fun j hj => by
          by_cases hjq : q = j
          · subst hjq
            have : q < listed.size := by rw [inv.size]; omega
            simp [this]
          · rw [getD_set_ne true hjq]
            exact hmore j hj fun e => hjq e.symm
        obtain rfl : fuel = 0 := by omega
        have he := upToBut_of inv.size hmore hq inv.tail
        rw [Nat.zero_add]
        rw [he] at hi ⊢
        refine hlate i a' W hge hi hag.size hag.defers (fun t ht => hag.same t fun j o hj hl hd => ?_) hG fun j d oj hjN hjq hj hd => ?_
        · by_cases hjN : j < N
          · by_cases hjq : j = q
            · have hf := getD_both hq
              rw [hjq, hf] at hl
              cases hl
            · exact ht j o hjN hjq hj hd
          · have h1 := inv.tail j (by omega) (Array.getElem?_eq_some_iff.1 hj).1
            rw [getD_both h1] at hl
            cases hl
        · obtain ⟨v, h1, h2, h3⟩ := hdn j d oj hjN hj hd (both (by rw [inv.size]; omega) (hmore j hjN hjq))
          exact ⟨v, h1, h2, fun hjp => h3 hjp (both (by rw [inv.size]; omega) (hmore p hpN (Ne.symm hqp)))⟩
      obtain ⟨hl, o, ho, hall⟩ := mem_ready.1 hi
      have hls : i < listed.size := by rw [inv.size]; omega
      have hlf := getD_both hl
      have hg := hstep i o hiN ho a' W (if listed.getD p false = true then a'.tmps[dp]? else none) (fun u hu => by
          by_cases hlp : listed.getD p false = true
          · rw [if_pos hlp] at hu
            obtain ⟨v, hv, hk, _⟩ := hdn p dp op hpN hop hdp hlp
            rw [hu] at hv
            cases hv
            exact hk
          · rw [if_neg hlp] at hu
            cases hu) (fun t ht => hag.same t fun j oj hj hlj hd => by
        by_cases hjN : j < N
        · obtain ⟨e, he, hb, hei⟩ := ht j oj hjN hj hd
          have := inv.closed j oj hj hlj e he hb
          rw [hei, hlf] at this
          cases this
        · have h1 := inv.tail j (by omega) (Array.getElem?_eq_some_iff.1 hj).1
          rw [getD_both h1] at hlj
          cases hlj) hG (fun j d oj hjN hj hd ⟨e, he, hb, hej⟩ => by
          obtain ⟨v, h1, h2, h3⟩ := hdn j d oj hjN hj hd (by have := hall e he hb; rw [hej] at this; exact this)
          refine ⟨v, h1, h2, fun hjp u hu => ?_⟩
          by_cases hlp : listed.getD p false = true
          · rw [if_pos hlp] at hu
            exact h3 hjp hlp u hu
          · rw [if_neg hlp] at hu
            cases hu)
      have hun' := unlisted_one hiN hl
      have next : ∀ v W', withR R p i Vs (if listed.getD p false = true then a'.tmps[dp]? else none) W v W' → G W W' → wpAny P md ops Q (fuel + (ops.size - N)) (listed.setIfInBounds i true) (a'.put o.dst v) W' := by
        intro v W' hv0 hGW
        obtain ⟨hv, hvo, hvp⟩ := hv0
        refine ih _ _ _ (inv.set hi hiN) (by omega) (hag.put ho hls v) (htrans hG hGW) ?_
        intro j d oj hjN hj hd hlj
        by_cases hij : i = j
        · subst hij
          rw [ho] at hj
          cases hj
          have hsz : d < a'.tmps.size := by rw [hag.size]; exact hin i o d hiN ho hd
          refine ⟨v, ?_, hv, fun hip hlp u hu => ?_⟩
          · rw [hd]
            simp [Act.put, hsz]
          · rw [getD_set_ne false hip] at hlp
            refine hvo hip u ?_
            rw [if_pos hlp]
            have hne : d ≠ dp := fun e => hip (hdst i p o op d hiN hpN ho hop hd (by rw [hdp, e]))
            rw [hd] at hu
            simp only [Act.put] at hu
            rw [Array.getElem?_setIfInBounds_ne hne] at hu
            exact hu
        · rw [getD_set_ne false hij] at hlj
          obtain ⟨u, hu, hku, hru⟩ := hdn j d oj hjN hj hd hlj
          refine ⟨u, ?_, hst _ _ _ _ hku hGW, fun hjp hlp z hz => ?_⟩
          · cases hod : o.dst with
            | none => exact hu
            | some d' =>
              have hne : d' ≠ d := fun e => hij (hdst i j o oj d hiN hjN ho hj (by rw [hod, e]) hd)
              simp only [Act.put]
              rw [Array.getElem?_setIfInBounds_ne hne]
              exact hu
          · by_cases hip : i = p
            · have ho' : o = op := by
                rw [hip, hop] at ho
                cases ho
                rfl
              have hsz : dp < a'.tmps.size := by rw [hag.size]; exact hin p op dp hpN hop hdp
              rw [ho', hdp] at hz
              simp only [Act.put] at hz
              have hz' : v = z := by simpa [hsz] using hz
              subst hz'
              exact hvp hip j u hjp hku
            · rw [getD_set_ne false hip] at hlp
              refine hru hjp hlp z ?_
              cases hod : o.dst with
              | none => rw [hod] at hz; exact hz
              | some d' =>
                have hne : d' ≠ dp := fun e => hip (hdst i p o op d' hiN hpN ho hop hod (by rw [hdp, e]))
                rw [hod] at hz
                simp only [Act.put] at hz
                rw [Array.getElem?_setIfInBounds_ne hne] at hz
                exact hz
      unfold wpOp
      simp only [ho]
      unfold growOp at hg
      split
      · rename_i hw
        simp only [hw, if_true] at hg
        exact .inl (Oper.wp_of_growUpon hg next)
      · rename_i hw
        simp only [hw] at hg
        exact next undef W hg.1 hg.2

theorem wp_region_partsL {id n N q : Nat} {oN oq : Oper} (R : Nat → Value → Value → Prop) (p : Nat) {dp : Nat} (G : World → World → Prop) (hrefl : ∀ A, G A A) (htrans : ∀ {A B C}, G A B → G B C → G A C) {l : List Oper} {ks : List Kd} {a : Act} {w : World} {Q : Exit → Act → World → Prop} (hm : P.follows .mixedOrders = true)
    (hfit : headFit l N n = true) (htail : lateFit l N q = true) (hsz : a.tmps.size = n) (hks : ks.length = (l.take N).length) (hN : N ≤ l.length) (hst : SteadiesG G ks) (hpN : p < N) (hqN : q < N) (hqp : q ≠ p) (hoN : l[N]? = some oN) (hoq : l[q]? = some oq) (hdp : (l[p]?).bind (·.dst) = some dp)
    (hstep : AllFrom (fun i o => ∀ (a' : Act) (W : World) (other : Option Value), (∀ u, other = some u → kdAt ks p u W) → (∀ t, outerTo l N i t = true → a'.tmps[t]? = a.tmps[t]?) → G w.drew W →
      (∀ j d, depTo l N i j = some d → ∃ v, a'.tmps[d]? = some v ∧ kdAt ks j v W ∧ (j ≠ p → ∀ u, other = some u → R j u v)) → growOp P l.toArray G (withR R p i (kdAt ks) other W) o a' W) 0 (l.take N))
    (hfin : ∀ (W : World) (xs : List Value), G w.drew W → holdAll ks xs W → (∀ j, j < N → j ≠ p → R j (xs.getD p undef) (xs.getD j undef)) → wpList P l.toArray Q (l.drop N) { a with tmps := endTmps (l.take N) xs a.tmps } W)
    (hlate : ∀ (W : World) (xs : List Value), G w.drew W → xs.length = N → (∀ j, j < N → j ≠ q → kdAt ks j (xs.getD j undef) W ∧ (j ≠ p → R j (xs.getD p undef) (xs.getD j undef))) →
      wpList P l.toArray Q (oN :: oq :: l.drop (N + 1)) { a with tmps := endTmps ((l.take N).eraseIdx q) (xs.eraseIdx q) a.tmps } W) :
    (Code.region id l.toArray true).wp P Q a w := by
  unfold headFit at hfit
  simp only [Bool.and_eq_true, decide_eq_true_eq] at hfit
  obtain ⟨⟨he, hn⟩, hd⟩ := hfit
  rw [List.all_eq_true] at he hd
  unfold lateFit at htail
  simp only [Bool.and_eq_true, decide_eq_true_eq] at htail
  obtain ⟨⟨⟨⟨⟨⟨hNl, hsink⟩, hseq⟩, hr0⟩, hr1⟩, hs2⟩, hseq2⟩ := htail
  have htk : (l.take N).length = N := by rw [List.length_take]; omega
  have tk : ∀ i, i < N → (l.take N)[i]? = l[i]? := fun i hi => List.getElem?_take_of_lt hi
  have inr : ∀ (i : Nat) (o : Oper), i < N → l[i]? = some o → ∃ d, o.dst = some d ∧ d < n := by
    intro i o hi ho
    have := hd o (List.mem_of_getElem? ((tk i hi).trans ho))
    simp only [Bool.and_eq_true, decide_eq_true_eq] at this
    obtain ⟨d, hdo⟩ := Option.isSome_iff_exists.1 this.1
    exact ⟨d, hdo, by simpa [hdo] using this.2⟩
  have dep : ∀ i o, l[i]? = some o → ∀ j d, depTo l N i j = some d → j < N ∧ (∃ e ∈ o.after, Region.binds .any e = true ∧ e.on = j) ∧ ∃ oj, l[j]? = some oj ∧ oj.dst = some d := by
    intro i o hi j d h
    unfold depTo at h
    rw [hi] at h
    simp only at h
    split at h
    · rename_i hc
      rw [Bool.and_eq_true, Nat.blt_eq] at hc
      refine ⟨hc.1, ?_, Option.bind_eq_some_iff.1 h⟩
      obtain ⟨e, h1, h2⟩ := List.any_eq_true.1 hc.2
      simp only [Bool.and_eq_true, Nat.beq_eq] at h2
      exact ⟨e, by simpa using h1, h2⟩
    · cases h
  refine wp_region_any hm ?_
  have inv0 : HeadInv .any l.toArray N (Array.replicate l.toArray.size false) :=
    ⟨by simp, fun j oj _ hl => (by rw [getD_replicate_false] at hl; cases hl), fun t _ ht => getD_in (by simpa using ht) (getD_replicate_false _ _)⟩
  have hu : unlisted N (Array.replicate l.toArray.size false) = N := by
    unfold unlisted
    rw [List.filter_eq_self.2]
    · simp
    · intro i hi
      have := List.mem_range.1 hi
      have hil : i < l.length := by omega
      simp [hil]
  have hsz' : l.toArray.size = N + (l.toArray.size - N) := by simp; omega
  rw [show (wpAny P .any l.toArray Q l.toArray.size (Array.replicate l.toArray.size false) a { w with drawn := w.drawn + 1 }) = (wpAny P .any l.toArray Q (N + (l.toArray.size - N)) (Array.replicate l.toArray.size false) a { w with drawn := w.drawn + 1 }) by rw [← hsz']]
  obtain ⟨op, hop, hdp'⟩ := Option.bind_eq_some_iff.1 hdp
  refine wpAny_of_partsL (R := R) (by rw [List.getElem?_toArray]; exact hop) hdp' (G := G) htrans (md := .any) (Vs := kdAt ks) (a := a) (w := w.drew) N q (by simpa using hN) hpN hqN hqp (fun i => hst.at i) ?_ ?_ ?_ ?_ ?_ ?_ ?_ N _ a w.drew inv0 hu ⟨rfl, rfl, fun _ _ => rfl⟩ (hrefl _) ?_
  · intro i o hi ho e hme hb
    have := he i (List.mem_range.2 hi)
    rw [List.getElem?_toArray] at ho
    rw [ho] at this
    have := List.all_eq_true.1 this e (by simpa using hme)
    rw [hb] at this
    simpa using this
  · intro i j o o' d hi hj ho ho' h1 h2
    rw [List.getElem?_toArray] at ho ho'
    refine nodup_dst (l.take N) (fun o hmo => ?_) hn i j o o' d ((tk i hi).trans ho) ((tk j hj).trans ho') h1 h2
    have := hd o hmo
    simp only [Bool.and_eq_true] at this
    exact this.1
  · intro i o d hi ho hdo
    rw [List.getElem?_toArray] at ho
    obtain ⟨d', e, hlt⟩ := inr i o hi ho
    rw [hdo] at e
    cases e
    rw [hsz]
    exact hlt
  · intro listed inv i hi hiq hl t ht hr
    obtain ⟨_, ot, hot, hall⟩ := mem_ready.1 hr
    have hlt := (Array.getElem?_eq_some_iff.1 hot).1
    have hb := List.all_eq_true.1 hsink t (List.mem_range.2 (by simpa using hlt))
    rw [Bool.or_eq_true] at hb
    rcases hb with hb | hb
    · simp at hb; omega
    rw [List.getElem?_toArray] at hot
    rw [hot] at hb
    have hb' := List.all_eq_true.1 hb i (List.mem_range.2 hi)
    rw [Bool.or_eq_true] at hb'
    rcases hb' with hb' | hb'
    · simp at hb'; exact hiq hb'
    obtain ⟨e, he1, he2⟩ := List.any_eq_true.1 hb'
    simp only [Bool.and_eq_true, Nat.beq_eq] at he2
    have := hall e (by simpa using he1) he2.1
    rw [he2.2, getD_both hl] at this
    cases this
  · intro i a' W hNi hi h1 h2 h3 hG hdn
    have hxl : ((l.take N).map fun o => a'.tmps.getD (o.dst.getD 0) undef).length = N := by simp; omega
    have hxat : ∀ (j d : Nat) (o : Oper), (l.take N)[j]? = some o → o.dst = some d → ((l.take N).map fun o => a'.tmps.getD (o.dst.getD 0) undef).getD j undef = a'.tmps.getD d undef := by
      intro j d o hj hdo
      rw [List.getD_eq_getElem?_getD, List.getElem?_map, hj]
      simp [hdo]
    have hkr : ∀ j, j < N → j ≠ q → kdAt ks j (((l.take N).map fun o => a'.tmps.getD (o.dst.getD 0) undef).getD j undef) W ∧ (j ≠ p → R j (((l.take N).map fun o => a'.tmps.getD (o.dst.getD 0) undef).getD p undef) (((l.take N).map fun o => a'.tmps.getD (o.dst.getD 0) undef).getD j undef)) := by
      intro j hj hjq
      obtain ⟨u, hu, _⟩ := hdn p dp op hpN (Ne.symm hqp) (by rw [List.getElem?_toArray]; exact hop) hdp'
      obtain ⟨oj, hoj⟩ : ∃ o, (l.take N)[j]? = some o := ⟨_, List.getElem?_eq_getElem (by omega)⟩
      obtain ⟨d, hdo, _⟩ := inr j oj hj (by rw [← tk j hj]; exact hoj)
      obtain ⟨v, hv, hk, hr⟩ := hdn j d oj hj hjq (by rw [List.getElem?_toArray, ← tk j hj]; exact hoj) hdo
      rw [hxat p dp op ((tk p hpN).trans hop) hdp', hxat j d oj hoj hdo]
      refine ⟨by simpa [hv] using hk, fun hjp => ?_⟩
      have := hr hjp u hu
      simpa [hu, hv] using this
    generalize ((l.take N).map fun o => a'.tmps.getD (o.dst.getD 0) undef) = xs at *
    have lt_of : ∀ {j : Nat} {o : Oper}, (l.take N)[j]? = some o → j < N := by
      intro j o hj
      have := (List.getElem?_eq_some_iff.1 hj).1
      omega
    have hbl : (xs.eraseIdx q).length = ((l.take N).eraseIdx q).length := by simp [List.length_eraseIdx, hxl, htk]
    have hbn : (((l.take N).eraseIdx q).filterMap (·.dst)).Nodup := List.Nodup.sublist ((List.eraseIdx_sublist _ _).filterMap _) hn
    have ht : a'.tmps = endTmps ((l.take N).eraseIdx q) (xs.eraseIdx q) a.tmps := by
      apply Array.ext_getElem?
      intro d
      by_cases hw : ∃ (j : Nat) (o : Oper), j ≠ q ∧ (l.take N)[j]? = some o ∧ o.dst = some d
      · obtain ⟨j, o, hjq, hj, ho⟩ := hw
        have hjN := lt_of hj
        have hj' : l.toArray[j]? = some o := by rw [List.getElem?_toArray, ← tk j hjN]; exact hj
        obtain ⟨v, hv, _, _⟩ := hdn j d o hjN hjq hj' ho
        have hdl : d < a.tmps.size := by
          obtain ⟨d', e, hlt⟩ := inr j o hjN (by rw [← tk j hjN]; exact hj)
          rw [ho] at e
          cases e
          rw [hsz]
          exact hlt
        have hat : xs.getD j undef = v := by rw [hxat j d o hj ho]; simp [hv]
        have hxj : xs[j]? = some v := by
          have hlt : j < xs.length := by omega
          rw [List.getD_eq_getElem?_getD, List.getElem?_eq_getElem hlt] at hat
          rw [List.getElem?_eq_getElem hlt]
          simpa using hat
        rw [endTmps_at ((l.take N).eraseIdx q) (xs.eraseIdx q) a.tmps (if j < q then j else j - 1) d o hbl hbn (erase_at hjq hj) ho hdl, hv, List.getD_eq_getElem?_getD, erase_at hjq hxj]
        rfl
      · rw [endTmps_other ((l.take N).eraseIdx q) (xs.eraseIdx q) a.tmps d ?_]
        · refine h3 d fun j o hjN hjq hj ho => hw ⟨j, o, hjq, ?_, ho⟩
          rw [List.getElem?_toArray] at hj
          exact (tk j hjN).trans hj
        · intro o ho hde
          obtain ⟨j', hjq, hj'⟩ := erase_from ho
          exact hw ⟨j', o, hjq, hj', hde⟩
    have ha : a' = { a with tmps := endTmps ((l.take N).eraseIdx q) (xs.eraseIdx q) a.tmps } := by
      cases a'
      cases a
      simp only at ht h2
      rw [ht, h2]
    have hL := hlate W xs hG hxl hkr
    rw [← ha] at hL
    have hdl1 : (l.drop (N + 1)).length = l.length - (N + 1) := by simp
    have sz : l.toArray.size = l.length := by simp
    rw [sz] at hi ⊢
    rw [hr0] at hi
    have hiN : i = N := by
      have : i = q ∨ i = N := by simpa using hi
      omega
    subst hiN
    rw [show l.length - i = (l.length - (i + 1)) + 1 by omega]
    have hw : wpOp P l.toArray Q i (wpList P l.toArray Q (oq :: l.drop (i + 1))) a' W := by
      unfold wpOp
      rw [List.getElem?_toArray, hoN]
      exact hL
    refine wpOp_mono (fun a2 W2 h2 => ?_) hw
    refine ⟨fun h0 => ?_, fun i' hi' => ?_⟩
    · rw [hr1] at h0
      cases h0
    · rw [hr1] at hi'
      have hi2 : i' = q := by simpa using hi'
      subst hi2
      have hw2 : wpOp P l.toArray Q i' (wpList P l.toArray Q (l.drop (i + 1))) a2 W2 := by
        unfold wpOp
        rw [List.getElem?_toArray, hoq]
        exact h2
      refine wpOp_mono (fun a3 W3 h3 => ?_) hw2
      rw [hs2]
      have := wpAny_of_seq (P := P) (md := .any) (Q' := Q) (ops := l.toArray) (l.drop (i + 1)) (i + 1) (upTo (i + 1) l.length) a3 W3 (fun j => by simp [List.getElem?_drop]) (by rw [hdl1]; exact hseq2) h3
      rw [hdl1] at this
      exact this
  · intro i o hi ho a' W other hother hag hG hdn
    rw [List.getElem?_toArray] at ho
    have hs := AllFrom.get (l.take N) 0 i o hstep ((tk i hi).trans ho)
    rw [Nat.zero_add] at hs
    refine hs a' W other hother (fun t ht => hag t ?_) hG ?_
    · intro j oj hj hoj hdj
      rw [List.getElem?_toArray] at hoj
      have := List.all_eq_true.1 ht oj (List.mem_of_getElem? ((tk j hj).trans hoj))
      simp only [hdj] at this
      rw [Bool.or_eq_true] at this
      rcases this with h | h
      · simp at h
      · obtain ⟨e, h1, h2⟩ := List.any_eq_true.1 h
        simp only [Bool.and_eq_true, Nat.beq_eq] at h2
        exact ⟨e, by simpa using h1, h2⟩
    · intro j d hjd
      obtain ⟨hjN, h0, oj, hoj, hdj⟩ := dep i o ho j d hjd
      exact hdn j d oj hjN (by rw [List.getElem?_toArray]; exact hoj) hdj h0
  · intro a' W h1 h2 h3 hG hdn
    have hxl : ((l.take N).map fun o => a'.tmps.getD (o.dst.getD 0) undef).length = (l.take N).length := by simp
    have hxat : ∀ (j d : Nat) (o : Oper), (l.take N)[j]? = some o → o.dst = some d → ((l.take N).map fun o => a'.tmps.getD (o.dst.getD 0) undef).getD j undef = a'.tmps.getD d undef := by
      intro j d o hj hdo
      rw [List.getD_eq_getElem?_getD, List.getElem?_map, hj]
      simp [hdo]
    have hRR : ∀ j, j < N → j ≠ p → R j (((l.take N).map fun o => a'.tmps.getD (o.dst.getD 0) undef).getD p undef) (((l.take N).map fun o => a'.tmps.getD (o.dst.getD 0) undef).getD j undef) := by
      intro j hj hjp
      obtain ⟨u, hu, _⟩ := hdn p dp op hpN (by rw [List.getElem?_toArray]; exact hop) hdp'
      obtain ⟨oj, hoj⟩ : ∃ o, (l.take N)[j]? = some o := ⟨_, List.getElem?_eq_getElem (by omega)⟩
      obtain ⟨d, hdo, _⟩ := inr j oj hj (by rw [← tk j hj]; exact hoj)
      obtain ⟨v, hv, _, hr⟩ := hdn j d oj hj (by rw [List.getElem?_toArray, ← tk j hj]; exact hoj) hdo
      rw [hxat p dp op ((tk p hpN).trans hop) hdp', hxat j d oj hoj hdo]
      have := hr hjp u hu
      simpa [hu, hv] using this
    generalize ((l.take N).map fun o => a'.tmps.getD (o.dst.getD 0) undef) = xs at *
    have lt_of : ∀ {j : Nat} {o : Oper}, (l.take N)[j]? = some o → j < N := by
      intro j o hj
      have := (List.getElem?_eq_some_iff.1 hj).1
      omega
    have ht : a'.tmps = endTmps (l.take N) xs a.tmps := by
      apply Array.ext_getElem?
      intro d
      by_cases hw : ∃ (j : Nat) (o : Oper), (l.take N)[j]? = some o ∧ o.dst = some d
      · obtain ⟨j, o, hj, ho⟩ := hw
        have hjN := lt_of hj
        have hj' : l.toArray[j]? = some o := by rw [List.getElem?_toArray, ← tk j hjN]; exact hj
        obtain ⟨v, hv, _, _⟩ := hdn j d o hjN hj' ho
        rw [endTmps_at (l.take N) xs a.tmps j d o hxl hn hj ho ?_]
        · rw [hxat j d o hj ho, hv]
          simp [hv]
        · obtain ⟨d', e, hlt⟩ := inr j o hjN (by rw [← tk j hjN]; exact hj)
          rw [ho] at e
          cases e
          rw [hsz]
          exact hlt
      · rw [endTmps_other (l.take N) xs a.tmps d ?_]
        · refine h3 d fun j o hjN hj ho => hw ⟨j, o, ?_, ho⟩
          rw [List.getElem?_toArray] at hj
          exact (tk j hjN).trans hj
        · intro o ho hde
          obtain ⟨j, hj⟩ := List.getElem?_of_mem ho
          exact hw ⟨j, o, hj, hde⟩
    have ha : a' = { a with tmps := endTmps (l.take N) xs a.tmps } := by
      cases a'
      cases a
      simp only at ht h2
      rw [ht, h2]
    have hkk : holdAll ks xs W := by
      refine holdAll_of ks xs W (by rw [hks, hxl]) fun i hi => ?_
      have hiN : i < N := by omega
      obtain ⟨o, hlo⟩ : ∃ o, (l.take N)[i]? = some o := ⟨_, List.getElem?_eq_getElem (by omega)⟩
      have hlo' : l.toArray[i]? = some o := by rw [List.getElem?_toArray, ← tk i hiN]; exact hlo
      obtain ⟨d, hdo, _⟩ := inr i o hiN (by rw [← tk i hiN]; exact hlo)
      obtain ⟨v, hv, hkv, _⟩ := hdn i d o hiN hlo' hdo
      rw [hxat i d o hlo hdo]
      simpa [hv] using hkv
    rw [ha]
    have hq := hfin W xs hG hkk hRR
    have hdl : (l.drop N).length = l.toArray.size - N := by simp
    have := wpAny_of_seq (P := P) (md := .any) (Q' := Q) (ops := l.toArray) (l.drop N) N (upTo N l.toArray.size) { a with tmps := endTmps (l.take N) xs a.tmps } W (fun j => by simp [List.getElem?_drop]) (by rw [hdl]; simpa using hseq) hq
    rw [hdl] at this
    exact this
  · intro j d oj _ _ _ hl
    rw [getD_replicate_false] at hl
    cases hl


theorem endTmps_sz : ∀ (l : List Oper) (xs : List Value) (t : Array Value), (endTmps l xs t).size = t.size
  | [], xs, t => by cases xs <;> rfl
  | _ :: _, [], t => rfl
  | o :: l, x :: xs, t => by
    simp only [endTmps]
    rw [endTmps_sz l xs]
    cases o.dst <;> simp

theorem endTmps_erase {l : List Oper} {xs : List Value} {t : Array Value} {q dq : Nat} {oq : Oper} {vq : Value} (hx : xs.length = l.length) (hn : (l.filterMap (·.dst)).Nodup) (hin : ∀ o ∈ l, ∀ d, o.dst = some d → d < t.size) (hoq : l[q]? = some oq) (hdq : oq.dst = some dq) :
    (∀ d, d ≠ dq → (endTmps (l.eraseIdx q) (xs.eraseIdx q) t)[d]? = (endTmps l (xs.set q vq) t)[d]?) ∧ (endTmps (l.eraseIdx q) (xs.eraseIdx q) t).setIfInBounds dq vq = endTmps l (xs.set q vq) t := by
  have hql : q < l.length := (List.getElem?_eq_some_iff.1 hoq).1
  have hbl : (xs.eraseIdx q).length = (l.eraseIdx q).length := by simp [List.length_eraseIdx, hx]
  have hbn : ((l.eraseIdx q).filterMap (·.dst)).Nodup := List.Nodup.sublist ((List.eraseIdx_sublist _ _).filterMap _) hn
  have hxs : (xs.set q vq).length = l.length := by simpa using hx
  have hdt : dq < t.size := hin oq (List.mem_of_getElem? hoq) dq hdq
  have key : ∀ d, d ≠ dq → (endTmps (l.eraseIdx q) (xs.eraseIdx q) t)[d]? = (endTmps l (xs.set q vq) t)[d]? := by
    intro d hd
    by_cases hw : ∃ (j : Nat) (o : Oper), l[j]? = some o ∧ o.dst = some d
    · obtain ⟨j, o, hj, ho⟩ := hw
      have hjq : j ≠ q := by
        rintro rfl
        rw [hoq] at hj
        cases hj
        rw [hdq] at ho
        cases ho
        exact hd rfl
      have hjl : j < xs.length := by rw [hx]; exact (List.getElem?_eq_some_iff.1 hj).1
      have hdl := hin o (List.mem_of_getElem? hj) d ho
      rw [endTmps_at (l.eraseIdx q) (xs.eraseIdx q) t (if j < q then j else j - 1) d o hbl hbn (erase_at hjq hj) ho hdl, endTmps_at l (xs.set q vq) t j d o hxs hn hj ho hdl,
        List.getD_eq_getElem?_getD, List.getD_eq_getElem?_getD, erase_at hjq (List.getElem?_eq_getElem hjl), List.getElem?_set_ne (Ne.symm hjq), List.getElem?_eq_getElem hjl]
    · rw [endTmps_other (l.eraseIdx q) (xs.eraseIdx q) t d, endTmps_other l (xs.set q vq) t d]
      · intro o ho hde
        obtain ⟨j, hj⟩ := List.getElem?_of_mem ho
        exact hw ⟨j, o, hj, hde⟩
      · intro o ho hde
        obtain ⟨j, _, hj⟩ := erase_from ho
        exact hw ⟨j, o, hj, hde⟩
  refine ⟨key, ?_⟩
  apply Array.ext_getElem?
  intro d
  by_cases hd : d = dq
  · subst hd
    rw [endTmps_at l (xs.set q vq) t q d oq hxs hn hoq hdq hdt]
    simp [endTmps_sz, hdt, hx, hql]
  · rw [Array.getElem?_setIfInBounds_ne (fun e => hd e.symm)]
    exact key d hd

/-- The tail's first operation is one that yields nothing (a store), q is pure, and neither heeds the other. -/
theorem wp_region_late {id n N q : Nat} {oN oq : Oper} {dq : Nat} {vq : Value} (R : Nat → Value → Value → Prop) (p : Nat) {dp : Nat} (G : World → World → Prop) (hrefl : ∀ A, G A A) (htrans : ∀ {A B C}, G A B → G B C → G A C) {l : List Oper} {ks : List Kd} {a : Act} {w : World} {Q : Exit → Act → World → Prop} (hm : P.follows .mixedOrders = true)
    (hfit : headFit l N n = true) (htail : lateFit l N q = true) (hsz : a.tmps.size = n) (hks : ks.length = (l.take N).length) (hN : N ≤ l.length) (hst : SteadiesG G ks)
    (hpN : p < N) (hqN : q < N) (hqp : q ≠ p) (hoN : l[N]? = some oN) (hoq : l[q]? = some oq) (hdp : (l[p]?).bind (·.dst) = some dp) (hgN : oN.guard = none) (hdN : oN.dst = none) (hgq : oq.guard = none) (hdq : oq.dst = some dq) (hkq : kdAt ks q = isV vq)
    (hstep : AllFrom (fun i o => ∀ (a' : Act) (W : World) (other : Option Value), (∀ u, other = some u → kdAt ks p u W) → (∀ t, outerTo l N i t = true → a'.tmps[t]? = a.tmps[t]?) → G w.drew W →
      (∀ j d, depTo l N i j = some d → ∃ v, a'.tmps[d]? = some v ∧ kdAt ks j v W ∧ (j ≠ p → ∀ u, other = some u → R j u v)) → growOp P l.toArray G (withR R p i (kdAt ks) other W) o a' W) 0 (l.take N))
    (hfin : ∀ (W : World) (xs : List Value), G w.drew W → xs.length = N → xs.getD q undef = vq → (∀ j, j < N → kdAt ks j (xs.getD j undef) W ∧ (j ≠ q → j ≠ p → R j (xs.getD p undef) (xs.getD j undef))) →
      ∃ W', (∀ a2 : Act, (∀ t, t ≠ dq → a2.tmps[t]? = (endTmps (l.take N) xs a.tmps)[t]?) → (execOp a2.eval oN).run P W = .ok .skip W' ∧ (execOp a2.eval oq).run P W' = .ok (.value vq) W') ∧ wpList P l.toArray Q (l.drop (N + 1)) { a with tmps := endTmps (l.take N) xs a.tmps } W') :
    (Code.region id l.toArray true).wp P Q a w := by
  have htk : (l.take N).length = N := by rw [List.length_take]; omega
  have hfit0 := hfit
  unfold headFit at hfit0
  simp only [Bool.and_eq_true, decide_eq_true_eq] at hfit0
  obtain ⟨⟨_, hn⟩, hd⟩ := hfit0
  rw [List.all_eq_true] at hd
  refine wp_region_partsL R p G hrefl htrans hm hfit htail hsz hks hN hst hpN hqN hqp hoN hoq hdp hstep ?_ ?_
  · intro W xs hG hkk hRR
    have hlen : xs.length = N := by rw [holdAll_length hkk, hks, htk]
    have hat := holdAll_at hkk
    have hq := hat q (by rw [hks, htk]; exact hqN)
    rw [hkq] at hq
    obtain ⟨W', hrun, hw⟩ := hfin W xs hG hlen hq (fun j hj => ⟨hat j (by rw [hks, htk]; exact hj), fun _ hjp => hRR j hj hjp⟩)
    have hdr : l.drop N = oN :: l.drop (N + 1) := by
      obtain ⟨hlt, he⟩ := List.getElem?_eq_some_iff.1 hoN
      rw [List.drop_eq_getElem_cons hlt, he]
    rw [hdr]
    unfold wpList
    rw [if_pos (by unfold Region.wanted; rw [hgN])]
    left
    unfold Oper.wp
    rw [(hrun _ (fun _ _ => rfl)).1]
    simp only [Oper.upon, hdN, Act.put]
    exact hw
  · intro W xs hG hlen hkr
    have her := endTmps_erase (l := l.take N) (xs := xs) (t := a.tmps) (q := q) (dq := dq) (oq := oq) (vq := vq) (by rw [hlen, htk]) hn (fun o ho d hde => by
      have := hd o ho
      simp only [Bool.and_eq_true, decide_eq_true_eq] at this
      rw [hsz]
      simpa [hde] using this.2) (by rw [List.getElem?_take_of_lt hqN]; exact hoq) hdq
    have hgs : ∀ j, j ≠ q → (xs.set q vq).getD j undef = xs.getD j undef := by
      intro j hj
      rw [List.getD_eq_getElem?_getD, List.getD_eq_getElem?_getD, List.getElem?_set_ne (Ne.symm hj)]
    have hgq' : (xs.set q vq).getD q undef = vq := by
      rw [List.getD_eq_getElem?_getD]
      simp [hlen, hqN]
    obtain ⟨W', hrun, hw⟩ := hfin W (xs.set q vq) hG (by simpa using hlen) hgq' (fun j hj => by
      by_cases hjq : j = q
      · subst hjq
        refine ⟨?_, fun h => absurd rfl h⟩
        rw [hgq', hkq]
        rfl
      · rw [hgs j hjq, hgs p (Ne.symm hqp)]
        exact ⟨(hkr j hj hjq).1, fun _ => (hkr j hj hjq).2⟩)
    obtain ⟨r1, r2⟩ := hrun { a with tmps := endTmps ((l.take N).eraseIdx q) (xs.eraseIdx q) a.tmps } her.1
    unfold wpList
    rw [if_pos (by unfold Region.wanted; rw [hgN])]
    left
    unfold Oper.wp
    rw [r1]
    simp only [Oper.upon, hdN, Act.put]
    unfold wpList
    rw [if_pos (by unfold Region.wanted; rw [hgq])]
    left
    unfold Oper.wp
    rw [r2]
    simp only [Oper.upon, hdq, Act.put]
    rw [her.2]
    exact hw

end
end Go.Proofs.Ytjpapjijlbfemaa
