/- A drawn region in which one operation's yield (a block that is laid) stands in a relation to the others', whichever comes last. -/
import Derived.Test.YtjpapjijlbfemaaParts
namespace Go.Proofs.Ytjpapjijlbfemaa
open Go.RowKit

section
variable {P : Program} {ops : Array Oper} {md : Region.Mode}

/-- A yield that is what it is to be; and p's stands to it as R says: if p's is there, or, of p's, to whatever is there. -/
def withR (R : Nat → Value → Value → Prop) (p i : Nat) (Vs : Nat → Kd) (other : Option Value) (W : World) : Kd := fun v W' => Vs i v W' ∧ (i ≠ p → ∀ u, other = some u → R i u v) ∧ (i = p → ∀ j z, j ≠ p → Vs j z W → R j v z)
theorem growOp_mono {G : World → World → Prop} {V V' : Kd} {o : Oper} {a : Act} {W : World} (hV : ∀ v W', V v W' → V' v W') (h : growOp P ops G V o a W) : growOp P ops G V' o a W := by
  unfold growOp at *
  split at h
  · rename_i hw
    rw [if_pos hw]
    unfold growUpon at *
    split at h <;> first
      | exact ⟨hV _ _ h.1, h.2⟩
      | (refine h.mono ?_
         rintro e W' ⟨x, he, hx, hg⟩
         exact ⟨x, he, hV _ _ hx, hg⟩)
      | exact h
  · rename_i hw
    rw [if_neg hw]
    exact ⟨hV _ _ h.1, h.2⟩
theorem growOp_alone {G : World → World → Prop} {R : Nat → Value → Value → Prop} {p i : Nat} {Vs : Nat → Kd} {other : Option Value} {o : Oper} {a : Act} {W W' : World} (hp : i ≠ p) (hR : ∀ u v, R i u v) (h : growOp P ops G (Vs i) o a W') : growOp P ops G (withR R p i Vs other W) o a W' :=
  growOp_mono (fun _ _ hv => ⟨hv, fun _ u _ => hR u _, fun e => absurd e hp⟩) h

theorem wpAny_of_partsR {R : Nat → Value → Value → Prop} {p dp : Nat} {op : Oper} (hop : ops[p]? = some op) (hdp : op.dst = some dp) {G : World → World → Prop} (htrans : ∀ {A B C}, G A B → G B C → G A C) {Vs : Nat → Kd} {a : Act} {w : World} {Q : Exit → Act → World → Prop} (N : Nat) (hN : N ≤ ops.size) (hpN : p < N)
    (hst : ∀ i, SteadyG G (Vs i))
    (hearly : ∀ (i : Nat) (o : Oper), i < N → ops[i]? = some o → ∀ e ∈ o.after, Region.binds md e = true → e.on < i)
    (hdst : ∀ (i j : Nat) (o o' : Oper) (d : Nat), i < N → j < N → ops[i]? = some o → ops[j]? = some o' → o.dst = some d → o'.dst = some d → i = j)
    (hin : ∀ (i : Nat) (o : Oper) (d : Nat), i < N → ops[i]? = some o → o.dst = some d → d < a.tmps.size)
    (hwait : ∀ (listed : Array Bool), HeadInv md ops N listed → ∀ i, i < N → listed.getD i true = false → ∀ t, N ≤ t → t ∉ Region.ready md ops listed)
    (hstep : ∀ (i : Nat) (o : Oper), i < N → ops[i]? = some o → ∀ (a' : Act) (W : World) (other : Option Value), (∀ u, other = some u → Vs p u W) →
      (∀ t, (∀ (j : Nat) (oj : Oper), j < N → ops[j]? = some oj → oj.dst = some t → ∃ e ∈ oj.after, Region.binds md e = true ∧ e.on = i) → a'.tmps[t]? = a.tmps[t]?) → G w W →
      (∀ (j d : Nat) (oj : Oper), j < N → ops[j]? = some oj → oj.dst = some d → (∃ e ∈ o.after, Region.binds md e = true ∧ e.on = j) → ∃ v, a'.tmps[d]? = some v ∧ Vs j v W ∧ (j ≠ p → ∀ u, other = some u → R j u v)) → growOp P ops G (withR R p i Vs other W) o a' W)
    (hfin : ∀ (a' : Act) (W : World), a'.tmps.size = a.tmps.size → a'.defers = a.defers → (∀ t, (∀ (j : Nat) (oj : Oper), j < N → ops[j]? = some oj → oj.dst ≠ some t) → a'.tmps[t]? = a.tmps[t]?) → G w W →
      (∀ (j d : Nat) (oj : Oper), j < N → ops[j]? = some oj → oj.dst = some d → ∃ v, a'.tmps[d]? = some v ∧ Vs j v W ∧ (j ≠ p → ∀ u, a'.tmps[dp]? = some u → R j u v)) → wpAny P md ops Q (ops.size - N) (upTo N ops.size) a' W) :
    ∀ (fuel : Nat) (listed : Array Bool) (a' : Act) (W : World), HeadInv md ops N listed → unlisted N listed = fuel → AgreeL ops listed a a' → G w W →
      (∀ (j d : Nat) (oj : Oper), j < N → ops[j]? = some oj → oj.dst = some d → listed.getD j false = true → ∃ v, a'.tmps[d]? = some v ∧ Vs j v W ∧ (j ≠ p → listed.getD p false = true → ∀ u, a'.tmps[dp]? = some u → R j u v)) →
      wpAny P md ops Q (fuel + (ops.size - N)) listed a' W := by
  have both : ∀ {listed : Array Bool} {i : Nat}, i < listed.size → listed.getD i true = true → listed.getD i false = true := by
    intro listed i hi h
    simp [hi] at h ⊢
    exact h
  intro fuel
  induction fuel with
  | zero =>
    intro listed a' W inv hun hag hG hdn
    have hall := unlisted_none hun
    have he := upTo_of inv.size hall inv.tail
    rw [Nat.zero_add]
    subst he
    refine hfin a' W hag.size hag.defers (fun t ht => hag.same t fun j o hj hl hd => ?_) hG fun j d oj hjN hj hd => ?_
    rotate_left
    · obtain ⟨v, h1, h2, h3⟩ := hdn j d oj hjN hj hd (both (by rw [inv.size]; omega) (hall j hjN))
      exact ⟨v, h1, h2, fun hjp => h3 hjp (both (by rw [inv.size]; omega) (hall p hpN))⟩
    · by_cases hjN : j < N
      · exact ht j o hjN hj hd
      · have h1 := inv.tail j (by omega) (Array.getElem?_eq_some_iff.1 hj).1
        rw [getD_both h1] at hl
        cases hl
  | succ fuel ih =>
    intro listed a' W inv hun hag hG hdn
    rw [show fuel + 1 + (ops.size - N) = (fuel + (ops.size - N)) + 1 by omega]
    obtain ⟨i0, hi0, hl0⟩ : ∃ i, i < N ∧ listed.getD i true = false := by
      refine Classical.byContradiction fun hno => ?_
      have h0 : unlisted N listed = 0 := by
        unfold unlisted
        rw [List.length_eq_zero_iff, List.filter_eq_nil_iff]
        intro i hi
        have := List.mem_range.1 hi
        cases h : listed.getD i true with
        | true => simp
        | false => exact absurd ⟨i, this, h⟩ hno
      omega
    refine ⟨fun h0 => ?_, fun i hi => ?_⟩
    · exfalso
      have key : ∀ i, i < N → listed.getD i false = true := by
        intro i
        induction i using Nat.strongRecOn with
        | _ i ihh =>
          intro hiN
          have hi : i < ops.size := by omega
          have ho : ops[i]? = some ops[i] := Array.getElem?_eq_getElem hi
          cases hl : listed.getD i true with
          | true => exact both (by rw [inv.size]; exact hi) hl
          | false =>
            exfalso
            have hm : i ∈ Region.ready md ops listed := mem_ready.2 ⟨hl, ops[i], ho, fun e he hb => ihh e.on (hearly i _ hiN ho e he hb) (Nat.lt_trans (hearly i _ hiN ho e he hb) hiN)⟩
            rw [h0] at hm
            cases hm
      have := key i0 hi0
      rw [getD_both hl0] at this
      cases this
    · have hiN : i < N := by
        rcases Nat.lt_or_ge i N with h | h
        · exact h
        · exact absurd hi (hwait listed inv i0 hi0 hl0 i h)
      obtain ⟨hl, o, ho, hall⟩ := mem_ready.1 hi
      have hls : i < listed.size := by rw [inv.size]; omega
      have hlf := getD_both hl
      have hg := hstep i o hiN ho a' W (if listed.getD p false = true then a'.tmps[dp]? else none) (fun u hu => by
          by_cases hlp : listed.getD p false = true
          · rw [if_pos hlp] at hu
            obtain ⟨v, hv, hk, _⟩ := hdn p dp op hpN hop hdp hlp
            rw [hu] at hv
            cases hv
            exact hk
          · rw [if_neg hlp] at hu
            cases hu) (fun t ht => hag.same t fun j oj hj hlj hd => by
        by_cases hjN : j < N
        · obtain ⟨e, he, hb, hei⟩ := ht j oj hjN hj hd
          have := inv.closed j oj hj hlj e he hb
          rw [hei, hlf] at this
          cases this
        · have h1 := inv.tail j (by omega) (Array.getElem?_eq_some_iff.1 hj).1
          rw [getD_both h1] at hlj
          cases hlj) hG (fun j d oj hjN hj hd ⟨e, he, hb, hej⟩ => by
          obtain ⟨v, h1, h2, h3⟩ := hdn j d oj hjN hj hd (by have := hall e he hb; rw [hej] at this; exact this)
          refine ⟨v, h1, h2, fun hjp u hu => ?_⟩
          by_cases hlp : listed.getD p false = true
          · rw [if_pos hlp] at hu
            exact h3 hjp hlp u hu
          · rw [if_neg hlp] at hu
            cases hu)
      have hun' := unlisted_one hiN hl
      have next : ∀ v W', withR R p i Vs (if listed.getD p false = true then a'.tmps[dp]? else none) W v W' → G W W' → wpAny P md ops Q (fuel + (ops.size - N)) (listed.setIfInBounds i true) (a'.put o.dst v) W' := by
        intro v W' hv0 hGW
        obtain ⟨hv, hvo, hvp⟩ := hv0
        refine ih _ _ _ (inv.set hi hiN) (by omega) (hag.put ho hls v) (htrans hG hGW) ?_
        intro j d oj hjN hj hd hlj
        by_cases hij : i = j
        · subst hij
          rw [ho] at hj
          cases hj
          have hsz : d < a'.tmps.size := by rw [hag.size]; exact hin i o d hiN ho hd
          refine ⟨v, ?_, hv, fun hip hlp u hu => ?_⟩
          · rw [hd]
            simp [Act.put, hsz]
          · rw [getD_set_ne false hip] at hlp
            refine hvo hip u ?_
            rw [if_pos hlp]
            have hne : d ≠ dp := fun e => hip (hdst i p o op d hiN hpN ho hop hd (by rw [hdp, e]))
            rw [hd] at hu
            simp only [Act.put] at hu
            rw [Array.getElem?_setIfInBounds_ne hne] at hu
            exact hu
        · rw [getD_set_ne false hij] at hlj
          obtain ⟨u, hu, hku, hru⟩ := hdn j d oj hjN hj hd hlj
          refine ⟨u, ?_, hst _ _ _ _ hku hGW, fun hjp hlp z hz => ?_⟩
          · cases hod : o.dst with
            | none => exact hu
            | some d' =>
              have hne : d' ≠ d := fun e => hij (hdst i j o oj d hiN hjN ho hj (by rw [hod, e]) hd)
              simp only [Act.put]
              rw [Array.getElem?_setIfInBounds_ne hne]
              exact hu
          · by_cases hip : i = p
            · have ho' : o = op := by
                rw [hip, hop] at ho
                cases ho
                rfl
              have hsz : dp < a'.tmps.size := by rw [hag.size]; exact hin p op dp hpN hop hdp
              rw [ho', hdp] at hz
              simp only [Act.put] at hz
              have hz' : v = z := by simpa [hsz] using hz
              subst hz'
              exact hvp hip j u hjp hku
            · rw [getD_set_ne false hip] at hlp
              refine hru hjp hlp z ?_
              cases hod : o.dst with
              | none => rw [hod] at hz; exact hz
              | some d' =>
                have hne : d' ≠ dp := fun e => hip (hdst i p o op d' hiN hpN ho hop hod (by rw [hdp, e]))
                rw [hod] at hz
                simp only [Act.put] at hz
                rw [Array.getElem?_setIfInBounds_ne hne] at hz
                exact hz
      unfold wpOp
      simp only [ho]
      unfold growOp at hg
      split
      · rename_i hw
        simp only [hw, if_true] at hg
        exact .inl (Oper.wp_of_growUpon hg next)
      · rename_i hw
        simp only [hw] at hg
        exact next undef W hg.1 hg.2

theorem wp_region_partsR {id n N : Nat} (R : Nat → Value → Value → Prop) (p : Nat) {dp : Nat} (G : World → World → Prop) (hrefl : ∀ A, G A A) (htrans : ∀ {A B C}, G A B → G B C → G A C) {l : List Oper} {ks : List Kd} {a : Act} {w : World} {Q : Exit → Act → World → Prop} (hm : P.follows .mixedOrders = true)
    (hfit : headFit l N n = true) (htail : tailFit l N = true) (hsz : a.tmps.size = n) (hks : ks.length = (l.take N).length) (hN : N ≤ l.length) (hst : SteadiesG G ks) (hpN : p < N) (hdp : (l[p]?).bind (·.dst) = some dp)
    (hstep : AllFrom (fun i o => ∀ (a' : Act) (W : World) (other : Option Value), (∀ u, other = some u → kdAt ks p u W) → (∀ t, outerTo l N i t = true → a'.tmps[t]? = a.tmps[t]?) → G w.drew W →
      (∀ j d, depTo l N i j = some d → ∃ v, a'.tmps[d]? = some v ∧ kdAt ks j v W ∧ (j ≠ p → ∀ u, other = some u → R j u v)) → growOp P l.toArray G (withR R p i (kdAt ks) other W) o a' W) 0 (l.take N))
    (hfin : ∀ (W : World) (xs : List Value), G w.drew W → holdAll ks xs W → (∀ j, j < N → j ≠ p → R j (xs.getD p undef) (xs.getD j undef)) → wpList P l.toArray Q (l.drop N) { a with tmps := endTmps (l.take N) xs a.tmps } W) :
    (Code.region id l.toArray true).wp P Q a w := by
  unfold headFit at hfit
  simp only [Bool.and_eq_true, decide_eq_true_eq] at hfit
  obtain ⟨⟨he, hn⟩, hd⟩ := hfit
  rw [List.all_eq_true] at he hd
  unfold tailFit at htail
  simp only [Bool.and_eq_true, Bool.or_eq_true, decide_eq_true_eq] at htail
  obtain ⟨ht1, hseq⟩ := htail
  have htk : (l.take N).length = N := by rw [List.length_take]; omega
  have tk : ∀ i, i < N → (l.take N)[i]? = l[i]? := fun i hi => List.getElem?_take_of_lt hi
  have inr : ∀ (i : Nat) (o : Oper), i < N → l[i]? = some o → ∃ d, o.dst = some d ∧ d < n := by
    intro i o hi ho
    have := hd o (List.mem_of_getElem? ((tk i hi).trans ho))
    simp only [Bool.and_eq_true, decide_eq_true_eq] at this
    obtain ⟨d, hdo⟩ := Option.isSome_iff_exists.1 this.1
    exact ⟨d, hdo, by simpa [hdo] using this.2⟩
  have dep : ∀ i o, l[i]? = some o → ∀ j d, depTo l N i j = some d → j < N ∧ (∃ e ∈ o.after, Region.binds .any e = true ∧ e.on = j) ∧ ∃ oj, l[j]? = some oj ∧ oj.dst = some d := by
    intro i o hi j d h
    unfold depTo at h
    rw [hi] at h
    simp only at h
    split at h
    · rename_i hc
      rw [Bool.and_eq_true, Nat.blt_eq] at hc
      refine ⟨hc.1, ?_, Option.bind_eq_some_iff.1 h⟩
      obtain ⟨e, h1, h2⟩ := List.any_eq_true.1 hc.2
      simp only [Bool.and_eq_true, Nat.beq_eq] at h2
      exact ⟨e, by simpa using h1, h2⟩
    · cases h
  refine wp_region_any hm ?_
  have inv0 : HeadInv .any l.toArray N (Array.replicate l.toArray.size false) :=
    ⟨by simp, fun j oj _ hl => (by rw [getD_replicate_false] at hl; cases hl), fun t _ ht => getD_in (by simpa using ht) (getD_replicate_false _ _)⟩
  have hu : unlisted N (Array.replicate l.toArray.size false) = N := by
    unfold unlisted
    rw [List.filter_eq_self.2]
    · simp
    · intro i hi
      have := List.mem_range.1 hi
      have hil : i < l.length := by omega
      simp [hil]
  have hsz' : l.toArray.size = N + (l.toArray.size - N) := by simp; omega
  rw [show (wpAny P .any l.toArray Q l.toArray.size (Array.replicate l.toArray.size false) a { w with drawn := w.drawn + 1 }) = (wpAny P .any l.toArray Q (N + (l.toArray.size - N)) (Array.replicate l.toArray.size false) a { w with drawn := w.drawn + 1 }) by rw [← hsz']]
  obtain ⟨op, hop, hdp'⟩ := Option.bind_eq_some_iff.1 hdp
  refine wpAny_of_partsR (R := R) (by rw [List.getElem?_toArray]; exact hop) hdp' (G := G) htrans (md := .any) (Vs := kdAt ks) (a := a) (w := w.drew) N (by simpa using hN) hpN (fun i => hst.at i) ?_ ?_ ?_ ?_ ?_ ?_ N _ a w.drew inv0 hu ⟨rfl, rfl, fun _ _ => rfl⟩ (hrefl _) ?_
  · intro i o hi ho e hme hb
    have := he i (List.mem_range.2 hi)
    rw [List.getElem?_toArray] at ho
    rw [ho] at this
    have := List.all_eq_true.1 this e (by simpa using hme)
    rw [hb] at this
    simpa using this
  · intro i j o o' d hi hj ho ho' h1 h2
    rw [List.getElem?_toArray] at ho ho'
    refine nodup_dst (l.take N) (fun o hmo => ?_) hn i j o o' d ((tk i hi).trans ho) ((tk j hj).trans ho') h1 h2
    have := hd o hmo
    simp only [Bool.and_eq_true] at this
    exact this.1
  · intro i o d hi ho hdo
    rw [List.getElem?_toArray] at ho
    obtain ⟨d', e, hlt⟩ := inr i o hi ho
    rw [hdo] at e
    cases e
    rw [hsz]
    exact hlt
  · intro listed inv i hi hl t ht
    rcases ht1 with h1 | ⟨⟨h1, h2⟩, h3⟩
    · intro hr
      obtain ⟨_, ot, hot, _⟩ := mem_ready.1 hr
      have := (Array.getElem?_eq_some_iff.1 hot).1
      simp at this
      omega
    · exact tail_waits h2 h3 (by simpa using h1) inv _ i rfl hi hl t ht
  · intro i o hi ho a' W other hother hag hG hdn
    rw [List.getElem?_toArray] at ho
    have hs := AllFrom.get (l.take N) 0 i o hstep ((tk i hi).trans ho)
    rw [Nat.zero_add] at hs
    refine hs a' W other hother (fun t ht => hag t ?_) hG ?_
    · intro j oj hj hoj hdj
      rw [List.getElem?_toArray] at hoj
      have := List.all_eq_true.1 ht oj (List.mem_of_getElem? ((tk j hj).trans hoj))
      simp only [hdj] at this
      rw [Bool.or_eq_true] at this
      rcases this with h | h
      · simp at h
      · obtain ⟨e, h1, h2⟩ := List.any_eq_true.1 h
        simp only [Bool.and_eq_true, Nat.beq_eq] at h2
        exact ⟨e, by simpa using h1, h2⟩
    · intro j d hjd
      obtain ⟨hjN, h0, oj, hoj, hdj⟩ := dep i o ho j d hjd
      exact hdn j d oj hjN (by rw [List.getElem?_toArray]; exact hoj) hdj h0
  · intro a' W h1 h2 h3 hG hdn
    have hxl : ((l.take N).map fun o => a'.tmps.getD (o.dst.getD 0) undef).length = (l.take N).length := by simp
    have hxat : ∀ (j d : Nat) (o : Oper), (l.take N)[j]? = some o → o.dst = some d → ((l.take N).map fun o => a'.tmps.getD (o.dst.getD 0) undef).getD j undef = a'.tmps.getD d undef := by
      intro j d o hj hdo
      rw [List.getD_eq_getElem?_getD, List.getElem?_map, hj]
      simp [hdo]
    have hRR : ∀ j, j < N → j ≠ p → R j (((l.take N).map fun o => a'.tmps.getD (o.dst.getD 0) undef).getD p undef) (((l.take N).map fun o => a'.tmps.getD (o.dst.getD 0) undef).getD j undef) := by
      intro j hj hjp
      obtain ⟨u, hu, _⟩ := hdn p dp op hpN (by rw [List.getElem?_toArray]; exact hop) hdp'
      obtain ⟨oj, hoj⟩ : ∃ o, (l.take N)[j]? = some o := ⟨_, List.getElem?_eq_getElem (by omega)⟩
      obtain ⟨d, hdo, _⟩ := inr j oj hj (by rw [← tk j hj]; exact hoj)
      obtain ⟨v, hv, _, hr⟩ := hdn j d oj hj (by rw [List.getElem?_toArray, ← tk j hj]; exact hoj) hdo
      rw [hxat p dp op ((tk p hpN).trans hop) hdp', hxat j d oj hoj hdo]
      have := hr hjp u hu
      simpa [hu, hv] using this
    generalize ((l.take N).map fun o => a'.tmps.getD (o.dst.getD 0) undef) = xs at *
    have lt_of : ∀ {j : Nat} {o : Oper}, (l.take N)[j]? = some o → j < N := by
      intro j o hj
      have := (List.getElem?_eq_some_iff.1 hj).1
      omega
    have ht : a'.tmps = endTmps (l.take N) xs a.tmps := by
      apply Array.ext_getElem?
      intro d
      by_cases hw : ∃ (j : Nat) (o : Oper), (l.take N)[j]? = some o ∧ o.dst = some d
      · obtain ⟨j, o, hj, ho⟩ := hw
        have hjN := lt_of hj
        have hj' : l.toArray[j]? = some o := by rw [List.getElem?_toArray, ← tk j hjN]; exact hj
        obtain ⟨v, hv, _, _⟩ := hdn j d o hjN hj' ho
        rw [endTmps_at (l.take N) xs a.tmps j d o hxl hn hj ho ?_]
        · rw [hxat j d o hj ho, hv]
          simp [hv]
        · obtain ⟨d', e, hlt⟩ := inr j o hjN (by rw [← tk j hjN]; exact hj)
          rw [ho] at e
          cases e
          rw [hsz]
          exact hlt
      · rw [endTmps_other (l.take N) xs a.tmps d ?_]
        · refine h3 d fun j o hjN hj ho => hw ⟨j, o, ?_, ho⟩
          rw [List.getElem?_toArray] at hj
          exact (tk j hjN).trans hj
        · intro o ho hde
          obtain ⟨j, hj⟩ := List.getElem?_of_mem ho
          exact hw ⟨j, o, hj, hde⟩
    have ha : a' = { a with tmps := endTmps (l.take N) xs a.tmps } := by
      cases a'
      cases a
      simp only at ht h2
      rw [ht, h2]
    have hkk : holdAll ks xs W := by
      refine holdAll_of ks xs W (by rw [hks, hxl]) fun i hi => ?_
      have hiN : i < N := by omega
      obtain ⟨o, hlo⟩ : ∃ o, (l.take N)[i]? = some o := ⟨_, List.getElem?_eq_getElem (by omega)⟩
      have hlo' : l.toArray[i]? = some o := by rw [List.getElem?_toArray, ← tk i hiN]; exact hlo
      obtain ⟨d, hdo, _⟩ := inr i o hiN (by rw [← tk i hiN]; exact hlo)
      obtain ⟨v, hv, hkv, _⟩ := hdn i d o hiN hlo' hdo
      rw [hxat i d o hlo hdo]
      simpa [hv] using hkv
    rw [ha]
    have hq := hfin W xs hG hkk hRR
    have hdl : (l.drop N).length = l.toArray.size - N := by simp
    have := wpAny_of_seq (P := P) (md := .any) (Q' := Q) (ops := l.toArray) (l.drop N) N (upTo N l.toArray.size) { a with tmps := endTmps (l.take N) xs a.tmps } W (fun j => by simp [List.getElem?_drop]) (by rw [hdl]; simpa using hseq) hq
    rw [hdl] at this
    exact this
  · intro j d oj _ _ _ hl
    rw [getD_replicate_false] at hl
    cases hl


end
end Go.Proofs.Ytjpapjijlbfemaa
